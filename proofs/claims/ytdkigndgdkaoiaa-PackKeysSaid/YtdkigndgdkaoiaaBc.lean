/- One operation at a time. -/
import Derived.Test.YtdkigndgdkaoiaaBb
namespace Go.Proofs.Ytdkigndgdkaoiaa.B
set_option linter.unusedVariables false
set_option linter.unusedSimpArgs false
open Go

def cellH (h : Heap) (a : Addr) : Option Value :=
  match h[a.block]? with
  | some (.cells c _ _) => if a.spot.isSome then none else c[a.off]?
  | _ => none
theorem cellH_eq (w : World) (a : Addr) : w.cell? a = cellH w.heap a := rfl
def frozH (h : Heap) (a : Addr) : Bool :=
  match h[a.block]? with
  | some (.cells _ _ (lo, hi)) => lo ≤ a.off && a.off < hi
  | _ => false
theorem frozH_eq (w : World) (a : Addr) : w.frozen? a = frozH w.heap a := rfl
def setH (h : Heap) (a : Addr) (v : Value) : Heap := h.modify a.block fun
      | .cells c elem frozen => .cells (if a.spot.isSome then c else c.setIfInBounds a.off v) elem frozen
      | o => o
theorem setH_eq (w : World) (a : Addr) (v : Value) : (w.setCell a v).heap = setH w.heap a v := rfl

section
variable {P : Program} {U : UT} {Q : Exit → Act → World → Prop} {N : Nat} {L : Slots} {s : World} {h : Heap} {ops : Array Oper} {rest : List Oper} {m : Bool} {o : Oper} {d_ : Nat}

theorem Fr.ins {a : Act} (ha : Fr N L a) {d : Option Tmp} (hd : d = some d_) (hn : Nat.blt d_ N = true) (v : Value) : Fr N ((d_, v) :: L) (a.put d v) := by
  subst hd
  exact ha.put (by simpa [Nat.blt_eq] using hn) v

theorem wanted_none {a : Act} (hg : o.guard = none) : Region.wanted o (yielded ops a.tmps) = true := by simp [Region.wanted, hg]

/-- a value, the world left alone -/
theorem WL_value (v : Value) (hg : o.guard = none) (hd : o.dst = some d_) (hn : Nat.blt d_ N = true) (hr : ∀ a w, Fr N L a → w.heap = h → Sim s w → (execOp a.eval o).run P w = .ok (.value v) w)
    (k : WL P m ops rest Q N ((d_, v) :: L) s h) : WL P m ops (o :: rest) Q N L s h := by
  cases m
  · intro a w ha hw hs
    refine wpList_plain hg fun K hK => ?_
    unfold Oper.wp
    rw [hr a w ha hw hs]
    exact hK _ _ (k _ w (ha.ins hd hn v) hw hs)
  · intro a ha
    refine wpQuiet_step fun K hK => ?_
    rw [if_pos (wanted_none hg)]
    refine ⟨v, fun w hw => ?_, hK _ (k _ (ha.ins hd hn v))⟩
    unfold Oper.quietAt
    rw [hr a w ha hw.1 hw.2]
    exact ⟨rfl, rfl⟩
theorem WL_pure (hU : AllU P U) {v : Value} (hg : o.guard = none) (hd : o.dst = some d_) (hn : Nat.blt d_ N = true) (hv : pureOp U L o.op = some v) (k : WL P m ops rest Q N ((d_, v) :: L) s h) : WL P m ops (o :: rest) Q N L s h :=
  WL_value v hg hd hn (fun a w ha _ _ => pureOp_run hU ha o v w hv) k

/-- the same with the value in a form of one's own -/
theorem WL_pureTo (hU : AllU P U) {v : Value} (v' : Value) (hg : o.guard = none) (hd : o.dst = some d_) (hn : Nat.blt d_ N = true) (hv : pureOp U L o.op = some v) (e : v = v') (k : WL P m ops rest Q N ((d_, v') :: L) s h) : WL P m ops (o :: rest) Q N L s h := by
  subst e; exact WL_pure hU hg hd hn hv k

def dstOf (ops : Array Oper) (j : Nat) : Option Tmp := (ops[j]?).bind (·.dst)
theorem yielded_of {a : Act} (ha : Fr N L a) {j d : Nat} {b : Bool} (hj : dstOf ops j = some d) (hl : look L d = some (.bool b)) : yielded ops a.tmps j = some b := by
  unfold yielded
  unfold dstOf at hj
  rw [hj]
  simp [ha.get d _ hl]

theorem WL_guardT {o' : Oper} {j d : Nat} {b : Bool} (hg : o.guard = some (j, b)) (hj : dstOf ops j = some d) (hl : look L d = some (.bool b)) (ho : o' = { o with guard := none }) (k : WL P m ops (o' :: rest) Q N L s h) : WL P m ops (o :: rest) Q N L s h := by
  subst ho
  cases m
  · intro a w ha hw hs
    have hk := k a w ha hw hs
    unfold wpList at hk ⊢
    have h1 : Region.wanted o (yielded ops a.tmps) = true := by simp [Region.wanted, hg, yielded_of ha hj hl]
    rw [if_pos h1]
    rw [if_pos (wanted_none rfl)] at hk
    exact hk
  · intro a ha
    have hk := k a ha
    unfold wpQuiet at hk ⊢
    have h1 : Region.wanted o (yielded ops a.tmps) = true := by simp [Region.wanted, hg, yielded_of ha hj hl]
    rw [if_pos h1]
    rw [if_pos (wanted_none rfl)] at hk
    exact hk
theorem WL_guardF {j d : Nat} {b : Bool} (hg : o.guard = some (j, b)) (hj : dstOf ops j = some d) (hl : look L d = some (.bool (!b))) (hd : o.dst = some d_) (hn : Nat.blt d_ N = true) (k : WL P m ops rest Q N ((d_, undef) :: L) s h) : WL P m ops (o :: rest) Q N L s h := by
  have hne : ∀ a, Fr N L a → ¬ Region.wanted o (yielded ops a.tmps) = true := fun a ha => by
    simp only [Region.wanted, hg, yielded_of ha hj hl]
    cases b <;> simp
  cases m
  · intro a w ha hw hs
    unfold wpList
    rw [if_neg (hne a ha)]
    exact k _ w (ha.ins hd hn _) hw hs
  · intro a ha
    unfold wpQuiet
    rw [if_neg (hne a ha)]
    exact k _ (ha.ins hd hn _)

/-- the same in two steps: what the test holds is looked at as it stands -/
def WB (P : Program) (b : Bool) (x y : Code) (Q : Exit → Act → World → Prop) (N : Nat) (L : Slots) (s : World) (h : Heap) : Prop := (b = true → W P x Q N L s h) ∧ (b = false → W P y Q N L s h)
theorem W_cond {c : Operand} {x y : Code} {b : Bool} (hc : ev L c = some (.bool b)) (k : WB P b x y Q N L s h) : W P (.cond c x y) Q N L s h := W_ifb hc k.1 k.2
theorem WB_t {x y : Code} (k : W P x Q N L s h) : WB P true x y Q N L s h := ⟨fun _ => k, fun e => (by cases e)⟩
theorem WB_f {x y : Code} (k : W P y Q N L s h) : WB P false x y Q N L s h := ⟨fun e => (by cases e), fun _ => k⟩
def WG (P : Program) (b b' m : Bool) (ops : Array Oper) (o : Oper) (rest : List Oper) (d_ : Nat) (Q : Exit → Act → World → Prop) (N : Nat) (L : Slots) (s : World) (h : Heap) : Prop :=
  (b' = b → WL P m ops ({ o with guard := none } :: rest) Q N L s h) ∧ (b' = (!b) → WL P m ops rest Q N ((d_, undef) :: L) s h)
theorem WL_guard {j d : Nat} {b b' : Bool} (hg : o.guard = some (j, b)) (hj : dstOf ops j = some d) (hl : look L d = some (.bool b')) (hd : o.dst = some d_) (hn : Nat.blt d_ N = true) (k : WG P b b' m ops o rest d_ Q N L s h) : WL P m ops (o :: rest) Q N L s h := by
  by_cases e : b' = b
  · exact WL_guardT hg hj (e ▸ hl) rfl (k.1 e)
  · have e2 : b' = (!b) := by cases b <;> cases b' <;> simp at e ⊢
    exact WL_guardF hg hj (e2 ▸ hl) hd hn (k.2 e2)
theorem WG_tt {o' : Oper} (ho : o' = { o with guard := none }) (k : WL P m ops (o' :: rest) Q N L s h) : WG P true true m ops o rest d_ Q N L s h := by subst ho; exact ⟨fun _ => k, fun e => (by cases e)⟩
theorem WG_ff {o' : Oper} (ho : o' = { o with guard := none }) (k : WL P m ops (o' :: rest) Q N L s h) : WG P false false m ops o rest d_ Q N L s h := by subst ho; exact ⟨fun _ => k, fun e => (by cases e)⟩
theorem WG_tf (k : WL P m ops rest Q N ((d_, undef) :: L) s h) : WG P true false m ops o rest d_ Q N L s h := ⟨fun e => (by cases e), fun _ => k⟩
theorem WG_ft (k : WL P m ops rest Q N ((d_, undef) :: L) s h) : WG P false true m ops o rest d_ Q N L s h := ⟨fun e => (by cases e), fun _ => k⟩

theorem WB_nt {x y : Code} (k : W P y Q N L s h) : WB P (!true) x y Q N L s h := WB_f k
theorem WB_nf {x y : Code} (k : W P x Q N L s h) : WB P (!false) x y Q N L s h := WB_t k
theorem WG_tnt (k : WL P m ops rest Q N ((d_, undef) :: L) s h) : WG P true (!true) m ops o rest d_ Q N L s h := WG_tf k
theorem WG_fnf (k : WL P m ops rest Q N ((d_, undef) :: L) s h) : WG P false (!false) m ops o rest d_ Q N L s h := WG_ft k
theorem WG_tnf {o' : Oper} (ho : o' = { o with guard := none }) (k : WL P m ops (o' :: rest) Q N L s h) : WG P true (!false) m ops o rest d_ Q N L s h := WG_tt ho k
theorem WG_fnt {o' : Oper} (ho : o' = { o with guard := none }) (k : WL P m ops (o' :: rest) Q N L s h) : WG P false (!true) m ops o rest d_ Q N L s h := WG_ff ho k

/-- an operation that turns the world -/
theorem WL_act {R : Value → Heap → Prop} (hg : o.guard = none) (hd : o.dst = some d_) (hn : Nat.blt d_ N = true)
    (hr : ∀ a w, Fr N L a → w.heap = h → ∃ v w', (execOp a.eval o).run P w = .ok (.value v) w' ∧ Sim w w' ∧ R v w'.heap)
    (k : ∀ v h', R v h' → WL P false ops rest Q N ((d_, v) :: L) s h') : WL P false ops (o :: rest) Q N L s h := by
  intro a w ha hw hs
  refine wpList_plain hg fun K hK => ?_
  obtain ⟨v, w', h1, h2, h3⟩ := hr a w ha hw
  unfold Oper.wp
  rw [h1]
  exact hK _ _ (k v _ h3 _ w' (ha.ins hd hn v) rfl (hs.trans h2))
theorem WL_skip {h' : Heap} (hg : o.guard = none) (hd : o.dst = some d_) (hn : Nat.blt d_ N = true)
    (hr : ∀ a w, Fr N L a → w.heap = h → ∃ w', (execOp a.eval o).run P w = .ok .skip w' ∧ Sim w w' ∧ w'.heap = h')
    (k : WL P false ops rest Q N ((d_, undef) :: L) s h') : WL P false ops (o :: rest) Q N L s h := by
  intro a w ha hw hs
  refine wpList_plain hg fun K hK => ?_
  obtain ⟨w', h1, h2, h3⟩ := hr a w ha hw
  unfold Oper.wp
  rw [h1]
  exact hK _ _ (k _ w' (ha.ins hd hn _) h3 (hs.trans h2))

/-! ### calls -/
theorem enter_run {f : FuncId} {fn : Func} {c : Code} (hf : P.funcs[f]? = some fn) (hname : (fn.name == "runtime.NumGoroutine") = false) (hb : fn.body = some c) (args : Array Value) (w : World) :
    (callFunc f args).run P w = .ok (.enter f args) w := by
  have h1 : fn.name ≠ "runtime.NumGoroutine" := by simpa using hname
  simp [callFunc, hf, h1, hb]
theorem call_run {a : Act} (ha : Fr N L a) {f : Nat} {fn : Func} {c : Code} {as : Array Operand} {ts : Array TypeId} {cal : Operand} {vs : List Value} (ho : o.op = .call { callee := .value cal, args := as, argTypes := ts })
    (hc : ev L cal = some (.func (.func f) #[] #[])) (hv : evs L as.toList = some vs)
    (hf : P.funcs[f]? = some fn) (hname : (fn.name == "runtime.NumGoroutine") = false) (hb : fn.body = some c) (w : World) : (execOp a.eval o).run P w = .ok (.enter f vs.toArray) w := by
  unfold execOp
  have e1 : as.map a.eval = vs.toArray := by apply Array.toList_inj.1; rw [Array.toList_map, ha.evs hv]
  simp only [ho, resolve, ha.ev hc, e1]
  have := enter_run hf hname hb vs.toArray w
  simp [Deferred.ofValue, invoke, this]

/-- what every call of a function with a body wants to know of it: laid once a function -/
def Enters (P : Program) (f : Nat) : Prop := ∃ fn c, P.funcs[f]? = some fn ∧ (fn.name == "runtime.NumGoroutine") = false ∧ fn.body = some c

theorem WL_call {f : Nat} {as : Array Operand} {ts : Array TypeId} {cal : Operand} {vs : List Value} {q : Value → Heap → Prop} (he : Enters P f) (hg : o.guard = none) (hd : o.dst = some d_) (hn : Nat.blt d_ N = true) (ho : o.op = .call { callee := .value cal, args := as, argTypes := ts })
    (hc : ev L cal = some (.func (.func f) #[] #[])) (hv : evs L as.toList = some vs) (hs : Tells P f vs h (Ret q))
    (k : ∀ v h', q v h' → WL P false ops rest Q N ((d_, v) :: L) s h') : WL P false ops (o :: rest) Q N L s h := by
  obtain ⟨fn, c, hf, hname, hb⟩ := he
  intro a w ha hw hsim
  refine wpList_plain hg fun K hK => ?_
  unfold Oper.wp
  rw [call_run ha ho hc hv hf hname hb w]
  simp only [Oper.upon]
  refine (hs w hw).mono fun e w' he => ?_
  cases e with
  | returned v => exact hK _ _ (k v _ he.2 _ w' (ha.ins hd hn v) rfl (hsim.trans he.1))
  | panicked ch => exact he.2.elim
  | outgrown => exact he.2.elim
/-- a call that only reads, within a region that draws or not -/
theorem WL_callq {f : Nat} {as : Array Operand} {ts : Array TypeId} {cal : Operand} {vs : List Value} {v : Value} (he : Enters P f) (hg : o.guard = none) (hd : o.dst = some d_) (hn : Nat.blt d_ N = true) (ho : o.op = .call { callee := .value cal, args := as, argTypes := ts })
    (hc : ev L cal = some (.func (.func f) #[] #[])) (hv : evs L as.toList = some vs) (hs : Tells P f vs h (Ret fun u h' => u = v ∧ h' = h))
    (k : WL P m ops rest Q N ((d_, v) :: L) s h) : WL P m ops (o :: rest) Q N L s h := by
  cases m
  · exact WL_call he hg hd hn ho hc hv hs (fun u h' hu => by obtain ⟨rfl, rfl⟩ := hu; exact k)
  · obtain ⟨fn, c, hf, hname, hb⟩ := he
    intro a ha
    refine wpQuiet_step fun K hK => ?_
    rw [if_pos (wanted_none hg)]
    refine ⟨v, fun w hw => ?_, hK _ (k _ (ha.ins hd hn v))⟩
    unfold Oper.quietAt
    rw [call_run ha ho hc hv hf hname hb w]
    refine ⟨rfl, (hs w hw.1).mono fun e w' he => ?_⟩
    cases e with
    | returned u => obtain ⟨h1, h2, h3⟩ := he; exact ⟨by rw [h2], h3, hw.2.trans h1⟩
    | panicked ch => exact he.2.elim
    | outgrown => exact he.2.elim

/-! ### whole numbers without a wrap -/
theorem wrap_u8 (n : Int) : IntKind.u8.wrap n = n % 256 := by simp [IntKind.wrap, IntKind.bits, IntKind.signed]
theorem wrap_u64 (n : Int) : IntKind.u64.wrap n = n % 18446744073709551616 := by simp [IntKind.wrap, IntKind.bits, IntKind.signed]
theorem i64_id {x : Int} (h1 : -9223372036854775808 ≤ x) (h2 : x ≤ 9223372036854775807) : IntKind.i64.wrap x = x := by
  rw [IntKind.wrap_i64]; omega
end
end Go.Proofs.Ytdkigndgdkaoiaa.B
