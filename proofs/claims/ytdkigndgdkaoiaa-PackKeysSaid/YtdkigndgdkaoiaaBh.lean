/- A region that draws its order and acts: what only reads is taken first, wherever it stands; what acts comes when nothing else can. -/
import Derived.Test.YtdkigndgdkaoiaaBy
import Derived.OrdersHeld
import Derived.Deep.RegionHeld3
namespace Go.Proofs.Ytdkigndgdkaoiaa.B
set_option linter.unusedVariables false
set_option linter.unusedSimpArgs false
open Go

/-- the order in which the operations are told: each by its number, and whether it only reads -/
def heldOK (ops : Array Oper) : Array Bool → List (Nat × Bool) → Bool
  | l, [] => (Region.ready .any ops l).isEmpty
  | l, (i, true) :: r => (Region.ready .any ops l).contains i && Region.free .any ops l i && heldOK ops (l.setIfInBounds i true) r
  | l, (i, false) :: r => ((Region.ready .any ops l) == [i]) && heldOK ops (l.setIfInBounds i true) r

def SW (S : Heap → Prop) (s : World) : World → Prop := fun w => S w.heap ∧ Sim s w

def WH (P : Program) (S : Heap → Prop) (l : Array Bool) (ms : List (Nat × Bool)) (ops : Array Oper) (rest : List Oper) (Q : Exit → Act → World → Prop) (N : Nat) (L : Slots) (s : World) (h : Heap) : Prop :=
  heldOK ops l ms = true → Region.noSelect ops = true → ms.map (fun p => ops[p.1]?) = rest.map some → S h → ∀ a w, Fr N L a → w.heap = h → Sim s w → wpAnyH P .any ops (NoPanic Q) (SW S s) ms.length l a w

section
variable {P : Program} {U : UT} {Q : Exit → Act → World → Prop} {N : Nat} {L : Slots} {s : World} {h : Heap} {ops : Array Oper} {rest : List Oper} {o : Oper} {d_ : Nat} {S : Heap → Prop} {l : Array Bool} {ms : List (Nat × Bool)} {i : Nat}

def nthOp : List Oper → Nat → Oper
  | [], _ => default
  | o :: _, 0 => o
  | _ :: r, n + 1 => nthOp r n
def pickOps (lo : List Oper) : List (Nat × Bool) → List Oper
  | [] => []
  | (i, _) :: r => nthOp lo i :: pickOps lo r
theorem nthOp_get : ∀ (lo : List Oper) (i : Nat), i < lo.length → lo[i]? = some (nthOp lo i)
  | [], _, h => by simp at h
  | o :: r, 0, _ => rfl
  | o :: r, n + 1, h => by simpa [nthOp] using nthOp_get r n (by simpa using h)
theorem pickOps_map (lo : List Oper) : ∀ ms : List (Nat × Bool), ms.all (fun p => Nat.blt p.1 lo.length) = true → ms.map (fun p => lo.toArray[p.1]?) = (pickOps lo ms).map some
  | [], _ => rfl
  | (i, b) :: r, h => by
    simp only [List.all_cons, Bool.and_eq_true] at h
    have h1 : i < lo.length := by simpa [Nat.blt_eq] using h.1
    simp only [List.map_cons, pickOps, pickOps_map lo r h.2]
    congr 1
    simpa using nthOp_get lo i h1
theorem W_held {id : Nat} {lo : List Oper} (S : Heap → Prop) (ms : List (Nat × Bool)) (hm : P.follows .mixedOrders = true) (hok : (heldOK lo.toArray (Array.replicate lo.length false) ms && Region.noSelect lo.toArray && Nat.beq ms.length lo.length && ms.all (fun p => Nat.blt p.1 lo.length)) = true)
    (hS : S h) (k : WH P S (Array.replicate lo.length false) ms lo.toArray (pickOps lo ms) Q N L s h) : W P (.region id lo.toArray true) Q N L s h := by
  simp only [Bool.and_eq_true] at hok
  obtain ⟨⟨⟨hok, hsel⟩, hl⟩, hall⟩ := hok
  intro a w ha hw hs
  refine wp_region_noPanic ?_
  refine wp_region_held (S := SW S s) hm ?_
  have := k hok hsel (pickOps_map lo ms hall) hS a { w with drawn := w.drawn + 1 } ha hw ⟨hs.os, hs.tape, hs.output⟩
  rw [Nat.eq_of_beq_eq_true hl] at this
  simpa using this

theorem WH_nil (k : Post Q .normal N L s h) : WH P S l [] ops [] Q N L s h := by
  intro hok _ _ _ a w ha hw hs
  exact wpAnyH_done (by simpa [heldOK] using hok) (NoPanic.normal (k a w ha hw hs)) _

theorem noPanic_put {Q : Exit → Act → World → Prop} {a : Act} {d : Option Tmp} {v : Value} : ∀ c (a' : Act) (w : World), NoPanic Q (.panic c) (a'.put d v) w → NoPanic Q (.panic c) a' w := fun _ _ _ h => h

theorem heldOK_true {r : List (Nat × Bool)} (h : heldOK ops l ((i, true) :: r) = true) : (Region.ready .any ops l).contains i = true ∧ Region.free .any ops l i = true ∧ heldOK ops (l.setIfInBounds i true) r = true := by
  simp only [heldOK, Bool.and_eq_true] at h
  exact ⟨h.1.1, h.1.2, h.2⟩

/-- the operation at hand is wanted -/
def Wanted (ops : Array Oper) (o : Oper) (N : Nat) (L : Slots) : Prop := ∀ a, Fr N L a → Region.wanted o (yielded ops a.tmps) = true
def WHW (P : Program) (S : Heap → Prop) (l : Array Bool) (ms : List (Nat × Bool)) (ops : Array Oper) (o : Oper) (rest : List Oper) (Q : Exit → Act → World → Prop) (N : Nat) (L : Slots) (s : World) (h : Heap) : Prop :=
  Wanted ops o N L → WH P S l ms ops (o :: rest) Q N L s h
theorem WH_of (hg : o.guard = none) (k : WHW P S l ms ops o rest Q N L s h) : WH P S l ms ops (o :: rest) Q N L s h := k (fun a _ => wanted_none hg)
def WHG (P : Program) (b b' : Bool) (S : Heap → Prop) (l : Array Bool) (ms : List (Nat × Bool)) (ops : Array Oper) (o : Oper) (rest : List Oper) (Q : Exit → Act → World → Prop) (N : Nat) (L : Slots) (s : World) (h : Heap) : Prop :=
  (b' = b → WHW P S l ms ops o rest Q N L s h) ∧ (b' = (!b) → (∀ a, Fr N L a → Region.wanted o (yielded ops a.tmps) = false) → WH P S l ms ops (o :: rest) Q N L s h)
theorem WH_guard {j d : Nat} {b b' : Bool} (hg : o.guard = some (j, b)) (hj : dstOf ops j = some d) (hl : look L d = some (.bool b')) (k : WHG P b b' S l ms ops o rest Q N L s h) : WH P S l ms ops (o :: rest) Q N L s h := by
  by_cases e : b' = b
  · exact k.1 e (fun a ha => by subst e; simp [Region.wanted, hg, yielded_of ha hj hl])
  · have e2 : b' = (!b) := by cases b <;> cases b' <;> simp at e ⊢
    exact k.2 e2 (fun a ha => by
      subst e2
      simp only [Region.wanted, hg, yielded_of ha hj hl]
      cases b <;> simp)
theorem WHG_tt (k : WHW P S l ms ops o rest Q N L s h) : WHG P true true S l ms ops o rest Q N L s h := ⟨fun _ => k, fun e => (by cases e)⟩
theorem WHG_ff (k : WHW P S l ms ops o rest Q N L s h) : WHG P false false S l ms ops o rest Q N L s h := ⟨fun _ => k, fun e => (by cases e)⟩
theorem WHG_tnf (k : WHW P S l ms ops o rest Q N L s h) : WHG P true (!false) S l ms ops o rest Q N L s h := WHG_tt k
theorem WHG_fnt (k : WHW P S l ms ops o rest Q N L s h) : WHG P false (!true) S l ms ops o rest Q N L s h := WHG_ff k
theorem WH_passed (hd : o.dst = some d_) (hn : Nat.blt d_ N = true) (hne : ∀ a, Fr N L a → Region.wanted o (yielded ops a.tmps) = false)
    (k : WH P S (l.setIfInBounds i true) ms ops rest Q N ((d_, undef) :: L) s h) : WH P S l ((i, true) :: ms) ops (o :: rest) Q N L s h := by
  intro hok hsel hr hS a w ha hw hs
  obtain ⟨h1, h2, h3⟩ := heldOK_true hok
  simp only [List.map_cons, List.cons.injEq] at hr
  refine wpAnyH_take (v := undef) hr.1 hsel h2 h1 (fun _ _ _ h => h) (.inr ⟨hne a ha, rfl⟩) ⟨hw ▸ hS, hs⟩ ?_
  exact k h3 hsel hr.2 hS _ w (ha.ins hd hn _) hw hs
theorem WHG_tf (hd : o.dst = some d_) (hn : Nat.blt d_ N = true) (k : WH P S (l.setIfInBounds i true) ms ops rest Q N ((d_, undef) :: L) s h) : WHG P true false S l ((i, true) :: ms) ops o rest Q N L s h := ⟨fun e => (by cases e), fun _ hne => WH_passed hd hn hne k⟩
theorem WHG_ft (hd : o.dst = some d_) (hn : Nat.blt d_ N = true) (k : WH P S (l.setIfInBounds i true) ms ops rest Q N ((d_, undef) :: L) s h) : WHG P false true S l ((i, true) :: ms) ops o rest Q N L s h := ⟨fun e => (by cases e), fun _ hne => WH_passed hd hn hne k⟩
theorem WHG_tnt (hd : o.dst = some d_) (hn : Nat.blt d_ N = true) (k : WH P S (l.setIfInBounds i true) ms ops rest Q N ((d_, undef) :: L) s h) : WHG P true (!true) S l ((i, true) :: ms) ops o rest Q N L s h := WHG_tf hd hn k
theorem WHG_fnf (hd : o.dst = some d_) (hn : Nat.blt d_ N = true) (k : WH P S (l.setIfInBounds i true) ms ops rest Q N ((d_, undef) :: L) s h) : WHG P false (!false) S l ((i, true) :: ms) ops o rest Q N L s h := WHG_ft hd hn k

theorem WHW_y {v : Value} (hd : o.dst = some d_) (hn : Nat.blt d_ N = true) (hy : ∀ h', S h' → Y P N L o v h')
    (k : WH P S (l.setIfInBounds i true) ms ops rest Q N ((d_, v) :: L) s h) : WHW P S l ((i, true) :: ms) ops o rest Q N L s h := by
  intro hwant hok hsel hr hS a w ha hw hs
  obtain ⟨h1, h2, h3⟩ := heldOK_true hok
  simp only [List.map_cons, List.cons.injEq] at hr
  refine wpAnyH_take (v := v) hr.1 hsel h2 h1 (fun _ _ _ h => h) (.inl ⟨hwant a ha, fun w' hw' => hy _ hw'.1 a w' ha rfl⟩) ⟨hw ▸ hS, hs⟩ ?_
  exact k h3 hsel hr.2 hS _ w (ha.ins hd hn v) hw hs
theorem WHW_pure (hU : AllU P U) {v : Value} (hd : o.dst = some d_) (hn : Nat.blt d_ N = true) (hv : pureOp U L o.op = some v)
    (k : WH P S (l.setIfInBounds i true) ms ops rest Q N ((d_, v) :: L) s h) : WHW P S l ((i, true) :: ms) ops o rest Q N L s h :=
  WHW_y hd hn (fun _ _ => Y_pure hU hv) k

/-! what acts: nothing else can come before it -/
/-- 'what it does' of an operation, told once for plain regions and for those that draw -/
def Does (P : Program) (N : Nat) (L : Slots) (s : World) (o : Oper) (h : Heap) (R : Value → Heap → Prop) : Prop :=
  ∀ a w (K : Act → World → Prop) (Q : Exit → Act → World → Prop), Fr N L a → w.heap = h → Sim s w → (∀ v w', Sim s w' → R v w'.heap → K (a.put o.dst v) w') → o.wp P a w K Q

theorem Does_acts {R : Value → Heap → Prop} (k : Acts P N L o h R) : Does P N L s o h R := by
  intro a w K Q ha hw hs hK
  obtain ⟨v, w', h1, h2, h3⟩ := k a w ha hw
  unfold Oper.wp
  rw [h1]
  exact hK v w' (hs.trans h2) h3
theorem Does_y {v : Value} (hy : Y P N L o v h) : Does P N L s o h (fun u h' => u = v ∧ h' = h) := by
  intro a w K Q ha hw hs hK
  unfold Oper.wp
  rw [hy a w ha hw]
  exact hK v w hs ⟨rfl, hw⟩
theorem Does_call {f : Nat} {as : Array Operand} {ts : Array TypeId} {cal : Operand} {vs : List Value} {q : Value → Heap → Prop} (he : Enters P f) (ho : o.op = .call { callee := .value cal, args := as, argTypes := ts })
    (hc : ev L cal = some (.func (.func f) #[] #[])) (hv : evs L as.toList = some vs) (hs : Tells P f vs h (Ret q)) : Does P N L s o h q := by
  obtain ⟨fn, c, hf, hname, hb⟩ := he
  intro a w K Q ha hw hsim hK
  unfold Oper.wp
  rw [call_run ha ho hc hv hf hname hb w]
  simp only [Oper.upon]
  refine (hs w hw).mono fun e w' he => ?_
  cases e with
  | returned v => exact hK _ _ (hsim.trans he.1) he.2
  | panicked ch => exact he.2.elim
  | outgrown => exact he.2.elim
theorem Does_store {I : IT} (hI : AllI P I) {t : Nat} {x y : Operand} {ad : Addr} {d : TI} {v : Value} (ho : o.op = .store t x y) (hz : inf I t = some d) (h1 : v.cells.size = d.size) (hx : ev L x = some (.pointer (some ad))) (hy : ev L y = some v) (hv : ∀ u ∈ v.cells.toList, u.oneCell' = true)
    (hc : ∀ j, j < v.cells.size → (cellH h (ad.add j)).isSome = true ∧ frozH h (ad.add j) = false) : Does P N L s o h (fun u h' => u = undef ∧ h' = storeH h ad v.cells.toList) := by
  intro a w K Q ha hw hs hK
  obtain ⟨w', h2, h3, h4⟩ := storeCells_run P ad v.cells.toList 0 w hv (fun j hj => by rw [Nat.zero_add, hw]; exact hc j (by simpa using hj))
  have ha0 : ad.add 0 = ad := by simp [Addr.add]
  have hsz := sizeOf_run (P := P) hI hz w
  have hr : (execOp a.eval o).run P w = .ok .skip w' := by
    unfold execOp
    simp only [ho, ha.ev hx, ha.ev hy, Instr.storeAt, Instr.sureAddr, storeVar]
    simp [hsz, h1, h2]
  unfold Oper.wp
  rw [hr]
  exact hK undef w' (hs.trans h3) ⟨rfl, by rw [h4, ha0, hw]⟩
theorem WHW_does {R : Value → Heap → Prop} (hd : o.dst = some d_) (hn : Nat.blt d_ N = true) (hdo : Does P N L s o h R)
    (k : ∀ v h', R v h' → S h' ∧ WH P S (l.setIfInBounds i true) ms ops rest Q N ((d_, v) :: L) s h') : WHW P S l ((i, false) :: ms) ops o rest Q N L s h := by
  intro hwant hok hsel hr hS a w ha hw hs
  simp only [heldOK, Bool.and_eq_true] at hok
  simp only [List.map_cons, List.cons.injEq] at hr
  have h1 : Region.ready .any ops l = [i] := by simpa using hok.1
  refine wpAnyH_all h1 (by simp) (fun j hj => ?_)
  simp only [List.mem_singleton] at hj
  subst hj
  unfold wpOp
  simp only [hr.1]
  rw [if_pos (hwant a ha)]
  refine .inl (hdo a w _ _ ha hw hs (fun v w' hs' hR => ?_))
  obtain ⟨h2, h3⟩ := k v _ hR
  exact ⟨⟨h2, hs'⟩, h3 hok.2 hsel hr.2 h2 _ w' (ha.ins hd hn v) rfl hs'⟩
/-- the same where nothing is put into the frame (a store) -/
theorem WHW_does0 {R : Value → Heap → Prop} (hd : o.dst = none) (hdo : Does P N L s o h R)
    (k : ∀ v h', R v h' → S h' ∧ WH P S (l.setIfInBounds i true) ms ops rest Q N L s h') : WHW P S l ((i, false) :: ms) ops o rest Q N L s h := by
  intro hwant hok hsel hr hS a w ha hw hs
  simp only [heldOK, Bool.and_eq_true] at hok
  simp only [List.map_cons, List.cons.injEq] at hr
  have h1 : Region.ready .any ops l = [i] := by simpa using hok.1
  refine wpAnyH_all h1 (by simp) (fun j hj => ?_)
  simp only [List.mem_singleton] at hj
  subst hj
  unfold wpOp
  simp only [hr.1]
  rw [if_pos (hwant a ha)]
  refine .inl (hdo a w _ _ ha hw hs (fun v w' hs' hR => ?_))
  obtain ⟨h2, h3⟩ := k v _ hR
  refine ⟨⟨h2, hs'⟩, h3 hok.2 hsel hr.2 h2 _ w' ?_ rfl hs'⟩
  rw [hd]; exact ha
end
end Go.Proofs.Ytdkigndgdkaoiaa.B
