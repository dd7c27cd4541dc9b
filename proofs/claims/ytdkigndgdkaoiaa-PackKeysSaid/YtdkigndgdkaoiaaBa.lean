/- Frames that are told slot by slot, and the rules by which a function's code is gone through. Program-independent but for the names of the imports. -/
import Derived.WalkKit
import Derived.Deep.Quiet
import Derived.Maps.AppendAt
import Derived.KernelRfl
namespace Go.Proofs.Ytdkigndgdkaoiaa.B
set_option linter.unusedVariables false
open Go

abbrev Slots := List (Nat × Value)
abbrev Heap := Array Obj

/-- what a slot holds -/
def look : Slots → Nat → Option Value
  | [], _ => none
  | (k, v) :: r, t => match Nat.beq k t with | true => some v | false => look r t

def ev (L : Slots) : Operand → Option Value
  | .tmp t => look L t
  | .const v => some v
  | .global g => some (.pointer (some ⟨g, 0, none⟩))
  | .func f => some (.func (.func f) #[] #[])

def evs (L : Slots) : List Operand → Option (List Value)
  | [] => some []
  | x :: r => match ev L x, evs L r with | some v, some vs => some (v :: vs) | _, _ => none

structure Fr (N : Nat) (L : Slots) (a : Act) : Prop where
  size : a.tmps.size = N
  defers : a.defers = []
  get : ∀ t v, look L t = some v → a.tmps[t]? = some v

theorem Fr.ev {N : Nat} {L : Slots} {a : Act} (h : Fr N L a) {x : Operand} {v : Value} (he : ev L x = some v) : a.eval x = v := by
  cases x with
  | tmp t => have := h.get t v he; simp [Act.eval, Array.getD_eq_getD_getElem?, this]
  | const u => exact Option.some.inj he
  | global g => exact Option.some.inj he
  | func f => exact Option.some.inj he

theorem Fr.evs {N : Nat} {L : Slots} {a : Act} (h : Fr N L a) : ∀ {xs : List Operand} {vs : List Value}, evs L xs = some vs → xs.map a.eval = vs
  | [], vs, he => by simp only [B.evs, Option.some.injEq] at he; subst he; rfl
  | x :: r, vs, he => by
    simp only [B.evs] at he
    cases h1 : B.ev L x <;> cases h2 : B.evs L r <;> simp [h1, h2] at he
    subst he
    simp [h.ev h1, h.evs h2]

theorem look_cons (d t : Nat) (v : Value) (L : Slots) : look ((d, v) :: L) t = if d = t then some v else look L t := by
  simp only [look]
  cases hb : Nat.beq d t with
  | true => have := Nat.eq_of_beq_eq_true hb; simp [this]
  | false => have := Nat.ne_of_beq_eq_false hb; simp [this]

theorem Fr.put {N : Nat} {L : Slots} {a : Act} (h : Fr N L a) {d : Nat} (hd : d < N) (v : Value) : Fr N ((d, v) :: L) (a.put (some d) v) := by
  refine ⟨by simp [Act.put, h.size], by simpa [Act.put] using h.defers, fun t u hl => ?_⟩
  rw [look_cons] at hl
  simp only [Act.put]
  by_cases e : d = t
  · subst e
    rw [if_pos rfl] at hl
    simp at hl; subst hl
    simp [h.size, hd]
  · rw [if_neg e] at hl
    have := h.get t u hl
    simp [e, this]

theorem Fr.put_none {N : Nat} {L : Slots} {a : Act} (h : Fr N L a) (v : Value) : Fr N L (a.put none v) := h

/-- M is told by L -/
def sub (L : Slots) : Slots → Prop
  | [] => True
  | (k, v) :: r => look L k = some v ∧ sub L r

theorem look_mem {M : Slots} {t : Nat} {v : Value} (h : look M t = some v) : (t, v) ∈ M := by
  induction M with
  | nil => simp [look] at h
  | cons p r ih =>
    obtain ⟨d, u⟩ := p
    rw [look_cons] at h
    by_cases e : d = t
    · rw [if_pos e] at h; simp at h; subst e; subst h; exact List.mem_cons_self
    · rw [if_neg e] at h; exact List.mem_cons_of_mem _ (ih h)

theorem sub_mem {L M : Slots} (h : sub L M) {t : Nat} {v : Value} (hm : (t, v) ∈ M) : look L t = some v := by
  induction M with
  | nil => cases hm
  | cons p r ih =>
    rcases List.mem_cons.1 hm with rfl | hm
    · exact h.1
    · exact ih h.2 hm

theorem Fr.weaken {N : Nat} {L M : Slots} {a : Act} (h : Fr N L a) (hs : sub L M) : Fr N M a :=
  ⟨h.size, h.defers, fun t v hl => h.get t v (sub_mem hs (look_mem hl))⟩

/-- the world's other parts are as they were -/
structure Sim (s w : World) : Prop where
  os : w.os = s.os
  tape : w.tape = s.tape
  output : w.output = s.output
theorem Sim.refl (s : World) : Sim s s := ⟨rfl, rfl, rfl⟩
theorem Sim.trans {a b c : World} (h : Sim a b) (k : Sim b c) : Sim a c := ⟨k.os.trans h.os, k.tape.trans h.tape, k.output.trans h.output⟩

section
variable (P : Program)

def W (c : Code) (Q : Exit → Act → World → Prop) (N : Nat) (L : Slots) (s : World) (h : Heap) : Prop :=
  ∀ a w, Fr N L a → w.heap = h → Sim s w → c.wp P Q a w

def Post (Q : Exit → Act → World → Prop) (e : Exit) (N : Nat) (L : Slots) (s : World) (h : Heap) : Prop :=
  ∀ a w, Fr N L a → w.heap = h → Sim s w → Q e a w

/-- the worlds of a region that only reads -/
def CL (s : World) (h : Heap) : World → Prop := fun w => w.heap = h ∧ Sim s w

def WL (m : Bool) (ops : Array Oper) (rest : List Oper) (Q : Exit → Act → World → Prop) (N : Nat) (L : Slots) (s : World) (h : Heap) : Prop :=
  match m with
  | false => ∀ a w, Fr N L a → w.heap = h → Sim s w → wpList P ops Q rest a w
  | true => ∀ a, Fr N L a → wpQuiet P ops (CL s h) (fun a' => ∀ w', CL s h w' → Q .normal a' w') rest a

/-- A call, told by the heap alone. -/
def Tells (f : FuncId) (args : List Value) (h : Heap) (post : Ending → Heap → Prop) : Prop :=
  ∀ w, w.heap = h → Calls P f args.toArray w (fun e w' => Sim w w' ∧ post e w'.heap)

end

def Ret (q : Value → Heap → Prop) : Ending → Heap → Prop
  | .returned v, h => q v h
  | _, _ => False

section
variable {P : Program} {Q : Exit → Act → World → Prop} {N : Nat} {L : Slots} {s : World} {h : Heap} {ops : Array Oper} {rest : List Oper} {m : Bool}

theorem Tells.mono {f : FuncId} {args : List Value} {p q : Ending → Heap → Prop} (hs : Tells P f args h p) (hi : ∀ e h', p e h' → q e h') : Tells P f args h q :=
  fun w hw => (hs w hw).mono fun _ _ k => ⟨k.1, hi _ _ k.2⟩

def frame0 : Nat → List Value → Slots
  | _, [] => []
  | i, v :: r => (i, v) :: frame0 (i + 1) r

theorem look_frame0 : ∀ (l : List Value) (i t : Nat) (v : Value), look (frame0 i l) t = some v → i ≤ t ∧ l[t - i]? = some v
  | [], _, _, _, h => by simp [frame0, look] at h
  | u :: r, i, t, v, h => by
    rw [frame0, look_cons] at h
    by_cases e : i = t
    · rw [if_pos e] at h; subst e; simp at h; subst h; simp
    · rw [if_neg e] at h
      obtain ⟨h1, h2⟩ := look_frame0 r (i + 1) t v h
      refine ⟨by omega, ?_⟩
      rw [show t - i = (t - (i + 1)) + 1 by omega]
      simpa using h2

/-- a function's contract, by its code -/
theorem spec_of {f : FuncId} {fn : Func} {c : Code} {args : List Value} {post : Ending → Heap → Prop} (hf : P.funcs[f]? = some fn) (hb : fn.body = some c) (hn : Nat.ble args.length fn.ntmps = true)
    (hp : ∀ w : World, w.heap = h → W P c (bodyPost P fn (fun e w' => Sim w w' ∧ post e w'.heap)) fn.ntmps (frame0 0 args) w h) : Tells P f args h post := by
  intro w hw
  have hn' := Nat.le_of_ble_eq_true hn
  refine calls_of_wp hf hb (hp w hw _ _ ⟨?_, rfl, ?_⟩ hw (Sim.refl _))
  · simp; omega
  · intro t v hl
    obtain ⟨_, h2⟩ := look_frame0 _ _ _ _ hl
    simp only [Nat.sub_zero] at h2
    obtain ⟨hlt, _⟩ := List.getElem?_eq_some_iff.1 h2
    rw [Array.getElem?_append_left (by simpa using hlt)]
    simpa using h2

/-! ### code -/
theorem W_weaken {c : Code} {M : Slots} (hs : sub L M) (k : W P c Q N M s h) : W P c Q N L s h := fun a w ha => k a w (ha.weaken hs)
theorem WL_weaken {M : Slots} (hs : sub L M) (k : WL P m ops rest Q N M s h) : WL P m ops rest Q N L s h := by
  cases m
  · exact fun a w ha => k a w (ha.weaken hs)
  · exact fun a ha => k a (ha.weaken hs)
theorem Post_weaken {e : Exit} {M : Slots} (hs : sub L M) (k : Post Q e N M s h) : Post Q e N L s h := fun a w ha => k a w (ha.weaken hs)

theorem W_seq {x y : Code} (k : W P x (Exit.then (y.wp P Q) Q) N L s h) : W P (.seq x y) Q N L s h := fun a w ha hw hs => wp_seq (k a w ha hw hs)
theorem W_skip (k : Post Q .normal N L s h) : W P .skip Q N L s h := fun a w ha hw hs => wp_skip (k a w ha hw hs)
theorem W_label {l : Nat} (k : Post Q .normal N L s h) : W P (.label l) Q N L s h := fun a w ha hw hs => wp_label (k a w ha hw hs)
theorem W_exit {i : Nat} (k : Post Q (.exit i) N L s h) : W P (.exit i) Q N L s h := fun a w ha hw hs => wp_exit (k a w ha hw hs)
theorem W_ret (k : Post Q .ret N L s h) : W P .ret Q N L s h := fun a w ha hw hs => wp_ret (k a w ha hw hs)
theorem W_block {i : Nat} {c : Code} (k : W P c (Exit.inBlock i Q) N L s h) : W P (.block i c) Q N L s h := fun a w ha hw hs => wp_block (k a w ha hw hs)
theorem W_condT {c : Operand} {x y : Code} (hc : ev L c = some (.bool true)) (k : W P x Q N L s h) : W P (.cond c x y) Q N L s h :=
  fun a w ha hw hs => wp_cond_true (ha.ev hc) (k a w ha hw hs)
theorem W_condF {c : Operand} {x y : Code} (hc : ev L c = some (.bool false)) (k : W P y Q N L s h) : W P (.cond c x y) Q N L s h :=
  fun a w ha hw hs => wp_cond_false (ha.ev hc) (k a w ha hw hs)
theorem W_if {c : Operand} {x y : Code} {p : Prop} [Decidable p] (hc : ev L c = some (.bool (decide p))) (k : p → W P x Q N L s h) (k' : ¬ p → W P y Q N L s h) : W P (.cond c x y) Q N L s h := by
  by_cases hp : p
  · exact W_condT (by rw [hc, decide_eq_true hp]) (k hp)
  · exact W_condF (by rw [hc, decide_eq_false hp]) (k' hp)
theorem W_ifnot {c : Operand} {x y : Code} {p : Prop} [Decidable p] (hc : ev L c = some (.bool (!decide p))) (k : ¬ p → W P x Q N L s h) (k' : p → W P y Q N L s h) : W P (.cond c x y) Q N L s h := by
  by_cases hp : p
  · exact W_condF (by rw [hc, decide_eq_true hp]; rfl) (k' hp)
  · exact W_condT (by rw [hc, decide_eq_false hp]; rfl) (k hp)
theorem W_ifb {c : Operand} {x y : Code} {b : Bool} (hc : ev L c = some (.bool b)) (k : b = true → W P x Q N L s h) (k' : b = false → W P y Q N L s h) : W P (.cond c x y) Q N L s h := by
  cases b
  · exact W_condF hc (k' rfl)
  · exact W_condT hc (k rfl)
theorem W_region {i : Nat} {l : List Oper} (k : WL P false l.toArray l Q N L s h) : W P (.region i l.toArray false) Q N L s h := fun a w ha hw hs => wp_region_lit (k a w ha hw hs)
theorem W_quiet {i : Nat} {l : List Oper} (hm : P.follows .mixedOrders = true) (hB : Region.lexB .any l.toArray = true) (k : WL P true l.toArray l Q N L s h) : W P (.region i l.toArray true) Q N L s h :=
  fun a w ha hw hs => wp_region_quiet (C := CL s h) hm hB ⟨hw, ⟨hs.os, hs.tape, hs.output⟩⟩ (k a ha)
theorem WL_nil (k : Post Q .normal N L s h) : WL P m ops [] Q N L s h := by
  cases m
  · exact fun a w ha hw hs => wpList_nil (k a w ha hw hs)
  · exact fun a ha => wpQuiet_nil (fun w' hw' => k a w' ha hw'.1 hw'.2)

/-- a loop: its states, what is told of the slots at each, what holds, what falls -/
def LoopQ {σ : Type} (S : σ → Slots) (I : σ → Heap → Prop) (μ : σ → Nat) (N : Nat) (s : World) (n : Nat) : Act → World → Prop :=
  fun a w => ∃ x, Fr N (S x) a ∧ Sim s w ∧ I x w.heap ∧ μ x < n
theorem W_loop {σ : Type} {c : Code} (S : σ → Slots) (I : σ → Heap → Prop) (μ : σ → Nat) (x0 : σ) (hS : sub L (S x0)) (h0 : I x0 h)
    (round : ∀ x h', I x h' → W P c (Exit.then (LoopQ S I μ N s (μ x)) Q) N (S x) s h') : W P (.loop c) Q N L s h := by
  intro a w ha hw hs b k cs
  have key : ∀ (n : Nat) (x : σ) (a : Act) (w : World), μ x = n → I x w.heap → Fr N (S x) a → Sim s w →
      ∃ e a' w', Q e a' w' ∧ Arrives P (lone (b.at a (.code c :: .inLoop c :: k)) cs w) b k cs e a' w' := by
    intro n
    induction n using Nat.strongRecOn with
    | _ n ih =>
      intro x a w hn hI ha hs
      obtain ⟨e, a1, w1, hq, harr⟩ := round x w.heap hI a w ha rfl hs b (.inLoop c :: k) cs
      cases e with
      | normal =>
        obtain ⟨x1, ha1, hs1, hI1, hlt⟩ := hq
        obtain ⟨e2, a2, w2, hq2, harr2⟩ := ih (μ x1) (hn ▸ hlt) x1 a1 w1 rfl hI1 ha1 hs1
        exact ⟨e2, a2, w2, hq2, .of_steps (Steps.trans harr (.one step_inLoop)) harr2⟩
      | exit id => exact ⟨_, a1, w1, hq, .pass (x := .inLoop c) rfl (fun _ _ => .inl (by simp)) harr⟩
      | goto l => exact ⟨_, a1, w1, hq, .pass (x := .inLoop c) rfl (fun _ _ => .inl (by simp)) harr⟩
      | ret => exact ⟨_, a1, w1, hq, .pass (x := .inLoop c) rfl (fun _ _ => .inl (by simp)) harr⟩
      | panic ch => exact ⟨_, a1, w1, hq, .pass (x := .inLoop c) rfl (fun _ _ => .inl (by simp)) harr⟩
      | outgrown => exact ⟨_, a1, w1, hq, .pass (x := .inLoop c) rfl (fun _ _ => .inl (by simp)) harr⟩
  obtain ⟨e, a', w', hq, harr⟩ := key _ x0 a w rfl (hw ▸ h0) (ha.weaken hS) hs
  exact ⟨e, a', w', hq, .of_steps (.one step_loop) harr⟩

/-! ### behind a piece of code -/
theorem P_then {d : Code} (k : W P d Q N L s h) : Post (Exit.then (d.wp P Q) Q) .normal N L s h := k
theorem P_thenK {K : Act → World → Prop} (k : ∀ a w, Fr N L a → w.heap = h → Sim s w → K a w) : Post (Exit.then K Q) .normal N L s h := k
theorem P_loop {σ : Type} {S : σ → Slots} {I : σ → Heap → Prop} {μ : σ → Nat} {n : Nat} (x : σ) (hS : sub L (S x)) (hI : I x h) (hn : μ x < n) : Post (Exit.then (LoopQ S I μ N s n) Q) .normal N L s h :=
  fun a w ha hw hs => ⟨x, ha.weaken hS, hs, hw ▸ hI, hn⟩
theorem P_thenX {K : Act → World → Prop} {i : Nat} (k : Post Q (.exit i) N L s h) : Post (Exit.then K Q) (.exit i) N L s h := k
theorem P_thenR {K : Act → World → Prop} (k : Post Q .ret N L s h) : Post (Exit.then K Q) .ret N L s h := k
theorem P_blockN {i : Nat} (k : Post Q .normal N L s h) : Post (Exit.inBlock i Q) .normal N L s h := k
theorem P_blockR {i : Nat} (k : Post Q .ret N L s h) : Post (Exit.inBlock i Q) .ret N L s h := k
theorem P_blockE {i : Nat} (k : Post Q .normal N L s h) : Post (Exit.inBlock i Q) (.exit i) N L s h := fun a w ha hw hs => by
  show if i = i then _ else _
  rw [if_pos rfl]; exact k a w ha hw hs
theorem P_blockX {i j : Nat} (hij : Nat.beq j i = false) (k : Post Q (.exit j) N L s h) : Post (Exit.inBlock i Q) (.exit j) N L s h := fun a w ha hw hs => by
  show if j = i then _ else _
  rw [if_neg (Nat.ne_of_beq_eq_false hij)]; exact k a w ha hw hs

/-! ### the function's end -/
theorem P_ret0e {fn : Func} {q : Ending → Heap → Prop} (hr : fn.results = #[]) (k : q (.returned (.tuple #[])) h) : Post (bodyPost P fn (fun e w' => Sim s w' ∧ q e w'.heap)) .ret N L s h :=
  fun a w ha hw hs => ⟨ha.defers, _, results_none hr _ _ _, hs, hw ▸ k⟩
theorem P_end0e {fn : Func} {q : Ending → Heap → Prop} (hr : fn.results = #[]) (k : q (.returned (.tuple #[])) h) : Post (bodyPost P fn (fun e w' => Sim s w' ∧ q e w'.heap)) .normal N L s h :=
  fun a w ha hw hs => ⟨ha.defers, _, results_none hr _ _ _, hs, hw ▸ k⟩
theorem P_ret1e {fn : Func} {q : Ending → Heap → Prop} {t : Tmp} {v : Value} (hr : fn.results = #[.tmp t]) (hv : look L t = some v) (k : q (.returned v) h) : Post (bodyPost P fn (fun e w' => Sim s w' ∧ q e w'.heap)) .ret N L s h :=
  fun a w ha hw hs => ⟨ha.defers, v, by
    rw [results_tmp hr]
    have := ha.ev (x := .tmp t) hv
    simp only [Act.eval] at this
    rw [this], hs, hw ▸ k⟩
theorem P_ret2e {fn : Func} {q : Ending → Heap → Prop} {t u : Tmp} {v v' : Value} (hr : fn.results = #[.tmp t, .tmp u]) (hv : look L t = some v) (hv' : look L u = some v') (k : q (.returned (.tuple #[v, v'])) h) : Post (bodyPost P fn (fun e w' => Sim s w' ∧ q e w'.heap)) .ret N L s h :=
  fun a w ha hw hs => ⟨ha.defers, .tuple #[v, v'], by
    rw [results_tmp2 hr]
    have h1 := ha.ev (x := .tmp t) hv
    have h2 := ha.ev (x := .tmp u) hv'
    simp only [Act.eval] at h1 h2
    rw [h1, h2], hs, hw ▸ k⟩
theorem P_ret3e {fn : Func} {q : Ending → Heap → Prop} {t u x : Tmp} {v v' v'' : Value} (hr : fn.results = #[.tmp t, .tmp u, .tmp x]) (hv : look L t = some v) (hv' : look L u = some v') (hv'' : look L x = some v'') (k : q (.returned (.tuple #[v, v', v''])) h) : Post (bodyPost P fn (fun e w' => Sim s w' ∧ q e w'.heap)) .ret N L s h :=
  fun a w ha hw hs => ⟨ha.defers, .tuple #[v, v', v''], by
    have h1 := ha.ev (x := .tmp t) hv
    have h2 := ha.ev (x := .tmp u) hv'
    have h3 := ha.ev (x := .tmp x) hv''
    simp only [Act.eval, Array.getD_eq_getD_getElem?] at h1 h2 h3
    simp [results, hr, h1, h2, h3], hs, hw ▸ k⟩
theorem P_ret0 {fn : Func} {q : Value → Heap → Prop} (hr : fn.results = #[]) (k : q ((.tuple #[])) h) : Post (bodyPost P fn (fun e w' => Sim s w' ∧ Ret q e w'.heap)) .ret N L s h := P_ret0e (q := Ret q) hr k
theorem P_end0 {fn : Func} {q : Value → Heap → Prop} (hr : fn.results = #[]) (k : q ((.tuple #[])) h) : Post (bodyPost P fn (fun e w' => Sim s w' ∧ Ret q e w'.heap)) .normal N L s h := P_end0e (q := Ret q) hr k
theorem P_ret1 {fn : Func} {q : Value → Heap → Prop} {t : Tmp} {v : Value} (hr : fn.results = #[.tmp t]) (hv : look L t = some v) (k : q (v) h) : Post (bodyPost P fn (fun e w' => Sim s w' ∧ Ret q e w'.heap)) .ret N L s h := P_ret1e (q := Ret q) hr hv k
theorem P_ret2 {fn : Func} {q : Value → Heap → Prop} {t u : Tmp} {v v' : Value} (hr : fn.results = #[.tmp t, .tmp u]) (hv : look L t = some v) (hv' : look L u = some v') (k : q ((.tuple #[v, v'])) h) : Post (bodyPost P fn (fun e w' => Sim s w' ∧ Ret q e w'.heap)) .ret N L s h := P_ret2e (q := Ret q) hr hv hv' k
theorem P_ret3 {fn : Func} {q : Value → Heap → Prop} {t u x : Tmp} {v v' v'' : Value} (hr : fn.results = #[.tmp t, .tmp u, .tmp x]) (hv : look L t = some v) (hv' : look L u = some v') (hv'' : look L x = some v'') (k : q ((.tuple #[v, v', v''])) h) : Post (bodyPost P fn (fun e w' => Sim s w' ∧ Ret q e w'.heap)) .ret N L s h := P_ret3e (q := Ret q) hr hv hv' hv'' k
end
end Go.Proofs.Ytdkigndgdkaoiaa.B
