/- What is known of memory, told as a list of items; the judgements over frames and items. -/
import Derived.Test.YtdkigndgdkaoiaaBi
namespace Go.Proofs.Ytdkigndgdkaoiaa.X
set_option linter.unusedVariables false
set_option linter.unusedSimpArgs false
open Go B

inductive It where
  | box (p e : Nat) (cs : List Value)
  | row (e size : Nat) (A : Option Addr) (n c : Nat) (xs : List Value)
  | own (F : Nat → Prop) (R : Heap → Prop)
def It.foot : It → Nat → Prop
  | .box p _ _, k => k = p
  | .row _ _ A _ _ _, k => ∃ a, A = some a ∧ a.block = k
  | .own F _, k => F k
def It.ok : It → Heap → Prop
  | .box p e cs, h => Box h p e cs
  | .row e size A n c xs, h => Own h 0 e size (.slice A n c) n xs
  | .own F R, h => (∀ k, F k → k < h.size) ∧ ∀ h' : Heap, (∀ k, F k → h'[k]? = h[k]?) → R h'
theorem ownBlock_slice (A : Option Addr) (n c : Nat) (k : Nat) : (Value.slice A n c).ownBlock = some k ↔ ∃ a, A = some a ∧ a.block = k := by
  cases A <;> simp [Value.ownBlock]
theorem It.lt {it : It} {h : Heap} (ok : it.ok h) {k : Nat} (hk : it.foot k) : k < h.size := by
  cases it with
  | box p e cs => have : k = p := hk; subst this; exact Box.lt ok
  | row e size A n c xs => exact (Own.base_le ok k ((ownBlock_slice A n c k).2 hk)).2
  | own F R => exact ok.1 k hk
theorem It.keep {it : It} {h h' : Heap} (ok : it.ok h) (hs : ∀ k, it.foot k → h'[k]? = h[k]?) : it.ok h' := by
  cases it with
  | box p e cs => exact (hs p rfl).trans ok
  | row e size A n c xs =>
    refine ⟨ok.1, ?_⟩
    rcases ok.2 with h1 | ⟨g, cap, cur, h0, hb, hg, h2⟩
    · exact .inl h1
    · refine .inr ⟨g, cap, cur, h0, hb, (hs g ?_).trans hg, h2⟩
      injection h0 with h0
      exact ⟨_, h0, rfl⟩
  | own F R =>
    refine ⟨fun k hk => ?_, fun h2 h3 => ok.2 h2 (fun k hk => (h3 k hk).trans (hs k hk))⟩
    have h1 := ok.1 k hk
    have h2 := hs k hk
    rw [Array.getElem?_eq_getElem h1] at h2
    exact (Array.getElem?_eq_some_iff.1 h2).1

def FootL : List It → Nat → Prop
  | [], _ => False
  | it :: r, k => it.foot k ∨ FootL r k
def Sep : List It → Heap → Prop
  | [], _ => True
  | it :: r, h => it.ok h ∧ (∀ k, it.foot k → ¬ FootL r k) ∧ Sep r h
theorem FootL_app {A B : List It} {k : Nat} : FootL (A ++ B) k ↔ FootL A k ∨ FootL B k := by
  induction A with
  | nil => simp [FootL]
  | cons a A ih => simp [FootL, ih, or_assoc]
theorem Sep.lt {A : List It} {h : Heap} (s : Sep A h) {k : Nat} (hk : FootL A k) : k < h.size := by
  induction A with
  | nil => exact hk.elim
  | cons a A ih => rcases hk with hk | hk
                   · exact It.lt s.1 hk
                   · exact ih s.2.2 hk
theorem Sep.keep {A : List It} {h h' : Heap} (s : Sep A h) (hs : ∀ k, FootL A k → h'[k]? = h[k]?) : Sep A h' := by
  induction A with
  | nil => trivial
  | cons a A ih => exact ⟨It.keep s.1 (fun k hk => hs k (.inl hk)), s.2.1, ih s.2.2 (fun k hk => hs k (.inr hk))⟩
theorem Sep_app {A B : List It} {h : Heap} : Sep (A ++ B) h ↔ Sep A h ∧ Sep B h ∧ ∀ k, FootL A k → ¬ FootL B k := by
  induction A with
  | nil => simp [Sep, FootL]
  | cons a A ih =>
    simp only [List.cons_append, Sep, ih, FootL]
    constructor
    · rintro ⟨h1, h2, h3, h4, h5⟩
      refine ⟨⟨h1, fun k hk hf => h2 k hk (FootL_app.2 (.inl hf)), h3⟩, h4, fun k hk hb => ?_⟩
      rcases hk with hk | hk
      · exact h2 k hk (FootL_app.2 (.inr hb))
      · exact h5 k hk hb
    · rintro ⟨⟨h1, h2, h3⟩, h4, h5⟩
      refine ⟨h1, fun k hk hf => ?_, h3, h4, fun k hk => h5 k (.inr hk)⟩
      rcases FootL_app.1 hf with hf | hf
      · exact h2 k hk hf
      · exact h5 k (.inl hk) hf

/-- the world at the call, and the blocks that were handed over to be written -/
structure Env where
  s : World
  M : Nat → Prop
structure Inv (E : Env) (S : List It) (w : World) : Prop where
  sim : Sim E.s w
  size : E.s.heap.size ≤ w.heap.size
  keep : ∀ k, k < E.s.heap.size → ¬ E.M k → w.heap[k]? = E.s.heap[k]?
  sep : Sep S w.heap
  foot : ∀ k, FootL S k → E.M k ∨ E.s.heap.size ≤ k

/-- one item out of several -/
inductive Split : List It → It → List It → Prop where
  | here {it : It} {r : List It} : Split (it :: r) it r
  | there {j it : It} {r r' : List It} (h : Split r it r') : Split (j :: r) it (j :: r')
inductive Splits : List It → List It → List It → Prop where
  | nil {S : List It} : Splits S [] S
  | cons {S S1 R pre : List It} {it : It} (h : Split S it S1) (k : Splits S1 pre R) : Splits S (it :: pre) R
theorem Split.foot {S R : List It} {it : It} (h : Split S it R) {k : Nat} : FootL S k ↔ it.foot k ∨ FootL R k := by
  induction h with
  | here => exact Iff.rfl
  | there h ih => simp only [FootL, ih]; constructor <;> (rintro (h | h | h) <;> simp [h])
theorem Split.sep {S R : List It} {it : It} (h : Split S it R) {w : Heap} (s : Sep S w) : Sep (it :: R) w := by
  induction h with
  | here => exact s
  | there h ih =>
    obtain ⟨h1, h2, h3⟩ := s
    obtain ⟨h4, h5, h6⟩ := ih h3
    refine ⟨h4, fun k hk hf => ?_, h1, fun k hk hf => h2 k hk (h.foot.2 (.inr hf)), h6⟩
    rcases hf with hf | hf
    · exact h2 k hf (h.foot.2 (.inl hk))
    · exact h5 k hk hf
theorem Split.app {S R : List It} {it : It} (h : Split S it R) : ∀ F : List It, Split (F ++ S) it (F ++ R)
  | [] => h
  | _ :: F => .there (h.app F)
theorem Splits.foot {S P R : List It} (h : Splits S P R) {k : Nat} : FootL S k ↔ FootL (P ++ R) k := by
  induction h with
  | nil => exact Iff.rfl
  | cons h _ ih => rw [h.foot, ih]; exact Iff.rfl
theorem Splits.sep {S P R : List It} (h : Splits S P R) {w : Heap} (s : Sep S w) : Sep (P ++ R) w := by
  induction h with
  | nil => exact s
  | @cons S S1 R P it h k ih =>
    obtain ⟨h1, h2, h3⟩ := h.sep s
    exact ⟨h1, fun k' hk hf => h2 k' hk (k.foot.2 hf), ih h3⟩
theorem Splits.app {S P R : List It} (h : Splits S P R) (F : List It) : Splits (F ++ S) P (F ++ R) := by
  induction h with
  | nil => exact .nil
  | cons h _ ih => exact .cons (h.app F) ih
theorem Inv.re {E : Env} {S S' : List It} {w : World} (i : Inv E S w) (hs : Sep S' w.heap) (hf : ∀ k, FootL S' k → FootL S k) : Inv E S' w :=
  ⟨i.sim, i.size, i.keep, hs, fun k hk => i.foot k (hf k hk)⟩
theorem Split.inv {E : Env} {S R : List It} {it : It} (h : Split S it R) {w : World} (i : Inv E S w) : Inv E (it :: R) w := i.re (h.sep i.sep) (fun _ hk => h.foot.2 hk)
theorem Splits.inv {E : Env} {S P R : List It} (h : Splits S P R) {w : World} (i : Inv E S w) : Inv E (P ++ R) w := i.re (h.sep i.sep) (fun _ hk => h.foot.2 hk)
/-- some of what is known is enough -/
def SubI (S S' : List It) : Prop := ∃ R, Splits S S' R
theorem SubI.inv {E : Env} {S S' : List It} (h : SubI S S') {w : World} (i : Inv E S w) : Inv E S' w := by
  obtain ⟨R, h⟩ := h
  have := h.inv i
  exact this.re (Sep_app.1 this.sep).1 (fun k hk => FootL_app.2 (.inl hk))
theorem SubI.nil {S : List It} : SubI S [] := ⟨_, .nil⟩
theorem SubI.cons {S S1 P : List It} {it : It} (h : Split S it S1) (k : SubI S1 P) : SubI S (it :: P) := by
  obtain ⟨R, k⟩ := k; exact ⟨R, .cons h k⟩
theorem SubI.refl : ∀ S : List It, SubI S S
  | [] => .nil
  | _ :: S => .cons .here (SubI.refl S)
theorem Inv.app_comm {E : Env} {A B : List It} {w : World} (i : Inv E (A ++ B) w) : Inv E (B ++ A) w :=
  i.re (by obtain ⟨h1, h2, h3⟩ := Sep_app.1 i.sep; exact Sep_app.2 ⟨h2, h1, fun k hk hb => h3 k hb hk⟩) (fun k hk => FootL_app.2 (FootL_app.1 hk).symm)
theorem Inv.left {E : Env} {A B : List It} {w : World} (i : Inv E (A ++ B) w) : Inv E A w := i.re (Sep_app.1 i.sep).1 (fun k hk => FootL_app.2 (.inl hk))
theorem Inv.right {E : Env} {A B : List It} {w : World} (i : Inv E (A ++ B) w) : Inv E B w := i.re (Sep_app.1 i.sep).2.1 (fun k hk => FootL_app.2 (.inr hk))

/-- of what was there, only the items A have turned; A' is there instead -/
theorem Inv.frame {E : Env} {A A' R : List It} {w w' : World} (i : Inv E (A ++ R) w) (hsim : Sim w w') (hsize : w.heap.size ≤ w'.heap.size)
    (hsame : ∀ k, k < w.heap.size → ¬ FootL A k → w'.heap[k]? = w.heap[k]?) (hA : Sep A' w'.heap) (hf : ∀ k, FootL A' k → FootL A k ∨ w.heap.size ≤ k) : Inv E (A' ++ R) w' := by
  obtain ⟨s1, s2, s3⟩ := Sep_app.1 i.sep
  have hlt : ∀ k, FootL R k → k < w.heap.size := fun k hk => Sep.lt s2 hk
  refine ⟨i.sim.trans hsim, Nat.le_trans i.size hsize, fun k hk hM => ?_, Sep_app.2 ⟨hA, ?_, ?_⟩, ?_⟩
  · rw [hsame k (Nat.lt_of_lt_of_le hk i.size) (fun hf => ?_)]
    · exact i.keep k hk hM
    · rcases i.foot k (FootL_app.2 (.inl hf)) with h | h
      · exact hM h
      · omega
  · exact s2.keep (fun k hk => hsame k (hlt k hk) (fun ha => s3 k ha hk))
  · intro k hk hr
    rcases hf k hk with h | h
    · exact s3 k h hr
    · have := hlt k hr; omega
  · intro k hk
    rcases FootL_app.1 hk with h | h
    · rcases hf k h with h | h
      · exact i.foot k (FootL_app.2 (.inl h))
      · exact .inr (Nat.le_trans i.size h)
    · exact i.foot k (FootL_app.2 (.inr h))
/-- nothing has turned; A' is new -/
theorem Inv.grow {E : Env} {A' R : List It} {w w' : World} (i : Inv E R w) (hsim : Sim w w') (x : Ext w.heap.size w.heap w'.heap) (hA : Sep A' w'.heap) (hf : ∀ k, FootL A' k → w.heap.size ≤ k) : Inv E (A' ++ R) w' :=
  i.frame (A := []) hsim x.size (fun k hk _ => x.block k hk) hA (fun k hk => .inr (hf k hk))

/-! ### the judgements -/
section
variable (P : Program)
structure W (c : Code) (Q : Exit → Act → World → Prop) (N : Nat) (E : Env) (L : Slots) (S : List It) : Prop where
  get : ∀ a w, Fr N L a → Inv E S w → c.wp P Q a w
structure Post (Q : Exit → Act → World → Prop) (e : Exit) (N : Nat) (E : Env) (L : Slots) (S : List It) : Prop where
  get : ∀ a w, Fr N L a → Inv E S w → Q e a w
inductive Mode where
  | plain
  | drawn (F : List It) (l : Array Bool) (ms : List (Nat × Bool))
/-- what the operation at hand may read -/
def Mode.src : Mode → List It → List It
  | .plain, S => S
  | .drawn F _ ((_, true) :: _), _ => F
  | .drawn F _ _, S => F ++ S
def Mode.all : Mode → List It → List It
  | .plain, S => S
  | .drawn F _ _, S => F ++ S
def Mode.next : Mode → Mode
  | .plain => .plain
  | .drawn F l ((i, _) :: ms) => .drawn F (l.setIfInBounds i true) ms
  | .drawn F l [] => .drawn F l []
/-- may the operation at hand turn the world? -/
def Mode.acts : Mode → Bool
  | .plain => true
  | .drawn _ _ ((_, false) :: _) => true
  | _ => false
def G0 (ops : Array Oper) (Q : Exit → Act → World → Prop) (N : Nat) (E : Env) (md : Mode) (rest : List Oper) (L : Slots) (S : List It) : Prop :=
  match md with
  | .plain => ∀ a w, Fr N L a → Inv E S w → wpList P ops Q rest a w
  | .drawn F l ms => heldOK ops l ms = true → Region.noSelect ops = true → ms.map (fun p => ops[p.1]?) = rest.map some → ∀ a w, Fr N L a → Inv E (F ++ S) w → wpAnyH P .any ops (NoPanic Q) (Inv E F) ms.length l a w
structure G (ops : Array Oper) (Q : Exit → Act → World → Prop) (N : Nat) (E : Env) (md : Mode) (rest : List Oper) (L : Slots) (S : List It) : Prop where
  get : G0 P ops Q N E md rest L S
end

section
variable {P : Program} {Q : Exit → Act → World → Prop} {N : Nat} {E : Env} {L : Slots} {S : List It} {ops : Array Oper} {rest : List Oper} {md : Mode} {o : Oper} {d_ : Nat}

theorem W_sub {c : Code} {M : Slots} {S' : List It} (hL : sub L M) (hS : SubI S S') (k : W P c Q N E M S') : W P c Q N E L S := ⟨fun a w ha hi => k.get a w (ha.weaken hL) (hS.inv hi)⟩
theorem G_weaken {M : Slots} (hL : sub L M) (k : G P ops Q N E md rest M S) : G P ops Q N E md rest L S := by
  refine ⟨?_⟩
  have k := k.get
  cases md with
  | plain => exact fun a w ha => k a w (ha.weaken hL)
  | drawn F l ms => exact fun h1 h2 h3 a w ha => k h1 h2 h3 a w (ha.weaken hL)
theorem Post_sub {e : Exit} {M : Slots} {S' : List It} (hL : sub L M) (hS : SubI S S') (k : Post Q e N E M S') : Post Q e N E L S := ⟨fun a w ha hi => k.get a w (ha.weaken hL) (hS.inv hi)⟩

theorem W_seq {x y : Code} (k : W P x (Exit.then (y.wp P Q) Q) N E L S) : W P (.seq x y) Q N E L S := ⟨fun a w ha hi => wp_seq (k.get a w ha hi)⟩
theorem W_skip (k : Post Q .normal N E L S) : W P .skip Q N E L S := ⟨fun a w ha hi => wp_skip (k.get a w ha hi)⟩
theorem W_label {l : Nat} (k : Post Q .normal N E L S) : W P (.label l) Q N E L S := ⟨fun a w ha hi => wp_label (k.get a w ha hi)⟩
theorem W_exit {i : Nat} (k : Post Q (.exit i) N E L S) : W P (.exit i) Q N E L S := ⟨fun a w ha hi => wp_exit (k.get a w ha hi)⟩
theorem W_ret (k : Post Q .ret N E L S) : W P .ret Q N E L S := ⟨fun a w ha hi => wp_ret (k.get a w ha hi)⟩
theorem W_block {i : Nat} {c : Code} (k : W P c (Exit.inBlock i Q) N E L S) : W P (.block i c) Q N E L S := ⟨fun a w ha hi => wp_block (k.get a w ha hi)⟩
theorem W_scope {c : Code} (k : W P c (Exit.noGoto Q) N E L S) : W P (.scope c) Q N E L S := ⟨fun a w ha hi => wp_scope_straight (k.get a w ha hi)⟩
theorem W_region {i : Nat} {l : List Oper} (k : G P l.toArray Q N E .plain l L S) : W P (.region i l.toArray false) Q N E L S := ⟨fun a w ha hi => wp_region_lit (k.get a w ha hi)⟩
theorem G_nil (k : Post Q .normal N E L (md.all S)) : G P ops Q N E md [] L S := by
  refine ⟨?_⟩
  have k := k.get
  cases md with
  | plain => exact fun a w ha hi => wpList_nil (k a w ha hi)
  | drawn F l ms =>
    intro hok _ hm a w ha hi
    cases ms with
    | nil => exact wpAnyH_done (by simpa [heldOK] using hok) (NoPanic.normal (k a w ha hi)) _
    | cons p r => simp at hm
def nthE {β : Type} : List Oper → Nat → (Oper → Option β) → Option β
  | [], _, _ => none
  | o :: _, 0, k => k o
  | _ :: r, n + 1, k => nthE r n k
def pickE {β : Type} (lo : List Oper) : List (Nat × Bool) → (List Oper → Option β) → Option β
  | [], k => k []
  | (i, _) :: r, k => nthE lo i (fun o => pickE lo r (fun l => k (o :: l)))
theorem nthE_eq {β : Type} {k : Oper → Option β} {b : β} : ∀ (lo : List Oper) (i : Nat), nthE lo i k = some b → k (nthOp lo i) = some b
  | [], _, h => by simp [nthE] at h
  | o :: r, 0, h => h
  | o :: r, n + 1, h => nthE_eq r n h
theorem pickE_eq {β : Type} {b : β} (lo : List Oper) : ∀ (ms : List (Nat × Bool)) (k : List Oper → Option β), pickE lo ms k = some b → k (pickOps lo ms) = some b
  | [], k, h => h
  | (i, _) :: r, k, h => by
    have := nthE_eq lo i h
    exact pickE_eq lo r _ this
/-- a region that draws its order: the order in which it is told, what is not turned in it -/
theorem W_draw {id : Nat} {lo rest' : List Oper} {S' : List It} (ms : List (Nat × Bool)) (F : List It) (hm : P.follows .mixedOrders = true) (hS : Splits S F S')
    (hok : (heldOK lo.toArray (Array.replicate lo.length false) ms && Region.noSelect lo.toArray && Nat.beq ms.length lo.length && ms.all (fun p => Nat.blt p.1 lo.length)) = true) (hrest : pickE lo ms some = some rest')
    (k : G P lo.toArray Q N E (.drawn F (Array.replicate lo.length false) ms) rest' L S') : W P (.region id lo.toArray true) Q N E L S := by
  have hrest := pickE_eq lo ms some hrest
  injection hrest with hrest
  subst hrest
  simp only [Bool.and_eq_true] at hok
  obtain ⟨⟨⟨hok, hsel⟩, hl⟩, hall⟩ := hok
  refine ⟨fun a w ha hi => ?_⟩
  refine wp_region_noPanic ?_
  refine wp_region_held (S := Inv E F) hm ?_
  have := k.get hok hsel (pickOps_map lo ms hall) a { w with drawn := w.drawn + 1 } ha (by
    have h1 := hS.inv hi
    exact ⟨⟨h1.sim.os, h1.sim.tape, h1.sim.output⟩, h1.size, h1.keep, h1.sep, h1.foot⟩)
  rw [Nat.eq_of_beq_eq_true hl] at this
  simpa using this
theorem wpAnyH_mono {P : Program} {md : Region.Mode} {ops : Array Oper} {Q : Exit → Act → World → Prop} {C C' : World → Prop} (hC : ∀ w, C w → C' w) : ∀ (n : Nat) (l : Array Bool) (a : Act) (w : World), wpAnyH P md ops Q C n l a w → wpAnyH P md ops Q C' n l a w
  | 0, _, _, _, h => h
  | n + 1, l, a, w, h => ⟨h.1, fun i hi => wpOp_mono (fun a' w' h' => ⟨hC _ h'.1, wpAnyH_mono hC n _ a' w' h'.2⟩) (h.2 i hi)⟩

/-! ### one operation -/
/-- is the operation at hand wanted? -/
def wantE (ops : Array Oper) (L : Slots) (o : Oper) : Option Bool :=
  match o.guard with
  | none => some true
  | some (j, b) => match dstOf ops j with
    | some d => match B.look L d with
      | some (.bool b') => some (match b', b with | true, true => true | false, false => true | _, _ => false)
      | some (.tuple _) => some false
      | _ => none
    | none => none
theorem undef_tuple : undef = .tuple #[] := rfl
theorem wantE_spec {b : Bool} (h : wantE ops L o = some b) (a : Act) (ha : Fr N L a) : Region.wanted o (yielded ops a.tmps) = b := by
  unfold wantE at h
  split at h
  · rename_i hg
    simp only [Option.some.injEq] at h
    simp [Region.wanted, hg, ← h]
  · rename_i j c hg
    split at h
    · rename_i d hd
      split at h
      · rename_i b' hl
        simp only [Option.some.injEq] at h
        simp only [Region.wanted, hg, yielded_of ha hd hl]
        subst h
        cases b' <;> cases c <;> rfl
      · rename_i vs hl
        simp only [Option.some.injEq] at h
        have hy : yielded ops a.tmps j = none := by
          unfold yielded
          unfold dstOf at hd
          rw [hd]
          simp [ha.get d _ hl]
        simp only [Region.wanted, hg, hy, ← h]
        simp
      · cases h
    · cases h
/-- it leaves the world alone -/
theorem G_val (v : Value) (hg : wantE ops L o = some true) (hd : o.dst = some d_) (hn : Nat.blt d_ N = true) (hr : ∀ a w, Fr N L a → Inv E (md.src S) w → (execOp a.eval o).run P w = .ok (.value v) w)
    (k : G P ops Q N E md.next rest ((d_, v) :: L) S) : G P ops Q N E md (o :: rest) L S := by
  have hw := fun a ha => wantE_spec (N := N) hg a ha
  refine ⟨?_⟩
  have k := k.get
  cases md with
  | plain =>
    intro a w ha hi
    refine wpList_step fun K hK => ?_
    rw [if_pos (hw a ha)]
    unfold Oper.wp
    rw [hr a w ha hi]
    exact hK _ _ (k _ w (ha.ins hd hn v) hi)
  | drawn F l ms =>
    intro hok hsel hm a w ha hi
    cases ms with
    | nil => simp at hm
    | cons p ms =>
      obtain ⟨i, b⟩ := p
      simp only [List.map_cons, List.cons.injEq] at hm
      cases b with
      | true =>
        obtain ⟨h1, h2, h3⟩ := heldOK_true hok
        exact wpAnyH_take (v := v) hm.1 hsel h2 h1 (fun _ _ _ h => h) (.inl ⟨hw a ha, fun w' hw' => hr a w' ha hw'⟩) hi.left (k h3 hsel hm.2 _ w (ha.ins hd hn v) hi)
      | false =>
        simp only [heldOK, Bool.and_eq_true] at hok
        have h1 : Region.ready .any ops l = [i] := by simpa using hok.1
        refine wpAnyH_all h1 (by simp) (fun j hj => ?_)
        simp only [List.mem_singleton] at hj
        subst hj
        unfold wpOp
        simp only [hm.1]
        rw [if_pos (hw a ha)]
        refine .inl ?_
        unfold Oper.wp
        rw [hr a w ha hi]
        exact ⟨hi.left, k hok.2 hsel hm.2 _ w (ha.ins hd hn v) hi⟩
theorem G_pass (hg : wantE ops L o = some false) (hd : o.dst = some d_) (hn : Nat.blt d_ N = true)
    (k : G P ops Q N E md.next rest ((d_, undef) :: L) S) : G P ops Q N E md (o :: rest) L S := by
  have hne := fun a ha => wantE_spec (N := N) hg a ha
  refine ⟨?_⟩
  have k := k.get
  cases md with
  | plain =>
    intro a w ha hi
    unfold wpList
    rw [if_neg (by rw [hne a ha]; exact Bool.false_ne_true)]
    exact k _ w (ha.ins hd hn _) hi
  | drawn F l ms =>
    intro hok hsel hm a w ha hi
    cases ms with
    | nil => simp at hm
    | cons p ms =>
      obtain ⟨i, b⟩ := p
      simp only [List.map_cons, List.cons.injEq] at hm
      cases b with
      | true =>
        obtain ⟨h1, h2, h3⟩ := heldOK_true hok
        exact wpAnyH_take (v := undef) hm.1 hsel h2 h1 (fun _ _ _ h => h) (.inr ⟨hne a ha, rfl⟩) hi.left (k h3 hsel hm.2 _ w (ha.ins hd hn undef) hi)
      | false =>
        simp only [heldOK, Bool.and_eq_true] at hok
        have h1 : Region.ready .any ops l = [i] := by simpa using hok.1
        refine wpAnyH_all h1 (by simp) (fun j hj => ?_)
        simp only [List.mem_singleton] at hj
        subst hj
        unfold wpOp
        simp only [hm.1]
        rw [if_neg (by rw [hne a ha]; exact Bool.false_ne_true)]
        exact ⟨hi.left, k hok.2 hsel hm.2 _ w (ha.ins hd hn undef) hi⟩
/-- what an operation does, whatever comes behind it -/
def Act1 (P : Program) (o : Oper) (a : Act) (w : World) (R : Value → World → Prop) : Prop := ∀ (K : Act → World → Prop) (Q : Exit → Act → World → Prop), (∀ v w', R v w' → K (a.put o.dst v) w') → o.wp P a w K Q
/-- it turns the world -/
theorem G_act {R : Value → List It → Prop} (hg : wantE ops L o = some true) (hd : o.dst = some d_) (hn : Nat.blt d_ N = true) (hac : md.acts = true)
    (hr : ∀ a w, Fr N L a → Inv E (md.all S) w → Act1 P o a w (fun v w' => ∃ S', R v S' ∧ Inv E (md.all S') w'))
    (k : ∀ v S', R v S' → G P ops Q N E md.next rest ((d_, v) :: L) S') : G P ops Q N E md (o :: rest) L S := by
  have hw := fun a ha => wantE_spec (N := N) hg a ha
  refine ⟨?_⟩
  have k := fun v S' h => (k v S' h).get
  cases md with
  | plain =>
    intro a w ha hi
    refine wpList_step fun K hK => ?_
    rw [if_pos (hw a ha)]
    refine hr a w ha hi K Q (fun v w' hv => ?_)
    obtain ⟨S', h1, h2⟩ := hv
    exact hK _ _ (k v S' h1 _ w' (ha.ins hd hn v) h2)
  | drawn F l ms =>
    intro hok hsel hm a w ha hi
    cases ms with
    | nil => simp at hm
    | cons p ms =>
      obtain ⟨i, b⟩ := p
      simp only [List.map_cons, List.cons.injEq] at hm
      cases b with
      | true => simp [Mode.acts] at hac
      | false =>
        simp only [heldOK, Bool.and_eq_true] at hok
        have h1 : Region.ready .any ops l = [i] := by simpa using hok.1
        refine wpAnyH_all h1 (by simp) (fun j hj => ?_)
        simp only [List.mem_singleton] at hj
        subst hj
        unfold wpOp
        simp only [hm.1]
        rw [if_pos (hw a ha)]
        refine .inl (hr a w ha hi _ _ (fun v w' hv => ?_))
        obtain ⟨S', h2, h3⟩ := hv
        exact ⟨h3.left, k v S' h2 hok.2 hsel hm.2 _ w' (ha.ins hd hn v) h3⟩
/-- the same where nothing is put into the frame -/
theorem G_act0 {R : Value → List It → Prop} (hg : wantE ops L o = some true) (hd : o.dst = none) (hac : md.acts = true)
    (hr : ∀ a w, Fr N L a → Inv E (md.all S) w → Act1 P o a w (fun v w' => ∃ S', R v S' ∧ Inv E (md.all S') w'))
    (k : ∀ v S', R v S' → G P ops Q N E md.next rest L S') : G P ops Q N E md (o :: rest) L S := by
  have hw := fun a ha => wantE_spec (N := N) hg a ha
  refine ⟨?_⟩
  have k := fun v S' h => (k v S' h).get
  cases md with
  | plain =>
    intro a w ha hi
    refine wpList_step fun K hK => ?_
    rw [if_pos (hw a ha)]
    refine hr a w ha hi K Q (fun v w' hv => ?_)
    obtain ⟨S', h1, h2⟩ := hv
    exact hK _ _ (k v S' h1 _ w' (by rw [hd]; exact ha) h2)
  | drawn F l ms =>
    intro hok hsel hm a w ha hi
    cases ms with
    | nil => simp at hm
    | cons p ms =>
      obtain ⟨i, b⟩ := p
      simp only [List.map_cons, List.cons.injEq] at hm
      cases b with
      | true => simp [Mode.acts] at hac
      | false =>
        simp only [heldOK, Bool.and_eq_true] at hok
        have h1 : Region.ready .any ops l = [i] := by simpa using hok.1
        refine wpAnyH_all h1 (by simp) (fun j hj => ?_)
        simp only [List.mem_singleton] at hj
        subst hj
        unfold wpOp
        simp only [hm.1]
        rw [if_pos (hw a ha)]
        refine .inl (hr a w ha hi _ _ (fun v w' hv => ?_))
        obtain ⟨S', h2, h3⟩ := hv
        exact ⟨h3.left, k v S' h2 hok.2 hsel hm.2 _ w' (by rw [hd]; exact ha) h3⟩
/-- within a region that draws: from here on this is not turned any more -/
theorem G_keep {F S1 : List It} {l : Array Bool} {ms : List (Nat × Bool)} {it : It} (h : Split S it S1) (k : G P ops Q N E (.drawn (it :: F) l ms) rest L S1) : G P ops Q N E (.drawn F l ms) rest L S := by
  have k := k.get
  refine ⟨?_⟩
  intro hok hsel hm a w ha hi
  have h1 : Inv E ((it :: F) ++ S1) w := (h.app F).inv hi
  refine wpAnyH_mono (fun w' hw' => ?_) _ _ _ _ (k hok hsel hm a w ha h1)
  exact hw'.re hw'.sep.2.2 (fun k hk => .inr hk)
theorem Act1.of_acts {R : Value → Heap → Prop} {a : Act} {w : World} (ha : Fr N L a) (k : Acts P N L o w.heap R) : Act1 P o a w (fun v w' => Sim w w' ∧ R v w'.heap) := by
  intro K Q hK
  obtain ⟨v, w', h1, h2, h3⟩ := k a w ha rfl
  unfold Oper.wp
  rw [h1]
  exact hK v w' ⟨h2, h3⟩
theorem Act1.mono {R R' : Value → World → Prop} {a : Act} {w : World} (h : Act1 P o a w R) (hi : ∀ v w', R v w' → R' v w') : Act1 P o a w R' := fun K Q hK => h K Q (fun v w' hv => hK v w' (hi v w' hv))

/-! ### tests -/
theorem W_ifb {c : Operand} {x y : Code} (b : Bool) (hc : ev L c = some (.bool b)) (k : b = true → W P x Q N E L S) (k' : b = false → W P y Q N E L S) : W P (.cond c x y) Q N E L S := by
  cases b
  · exact ⟨fun a w ha hi => wp_cond_false (ha.ev hc) ((k' rfl).get a w ha hi)⟩
  · exact ⟨fun a w ha hi => wp_cond_true (ha.ev hc) ((k rfl).get a w ha hi)⟩
theorem W_condT {c : Operand} {x y : Code} (hc : ev L c = some (.bool true)) (k : W P x Q N E L S) : W P (.cond c x y) Q N E L S := W_ifb true hc (fun _ => k) (fun h => by cases h)
theorem W_condF {c : Operand} {x y : Code} (hc : ev L c = some (.bool false)) (k : W P y Q N E L S) : W P (.cond c x y) Q N E L S := W_ifb false hc (fun h => by cases h) (fun _ => k)
theorem W_condNT {c : Operand} {x y : Code} (hc : ev L c = some (.bool (!true))) (k : W P y Q N E L S) : W P (.cond c x y) Q N E L S := W_condF hc k
theorem W_condNF {c : Operand} {x y : Code} (hc : ev L c = some (.bool (!false))) (k : W P x Q N E L S) : W P (.cond c x y) Q N E L S := W_condT hc k
theorem W_if {c : Operand} {x y : Code} {p : Prop} [Decidable p] (hc : ev L c = some (.bool (decide p))) (k : p → W P x Q N E L S) (k' : ¬ p → W P y Q N E L S) : W P (.cond c x y) Q N E L S :=
  W_ifb _ hc (fun h => k (of_decide_eq_true h)) (fun h => k' (of_decide_eq_false h))
theorem W_ifnot {c : Operand} {x y : Code} {p : Prop} [Decidable p] (hc : ev L c = some (.bool (!decide p))) (k : ¬ p → W P x Q N E L S) (k' : p → W P y Q N E L S) : W P (.cond c x y) Q N E L S :=
  W_ifb _ hc (fun h => k (of_decide_eq_false (by simpa using h))) (fun h => k' (of_decide_eq_true (by simpa using h)))

/-! ### loops, joins -/
def LoopQ {σ : Type} (Lf : σ → Slots) (Sf : σ → List It) (I : σ → Prop) (μ : σ → Nat) (N : Nat) (E : Env) (n : Nat) : Act → World → Prop :=
  fun a w => ∃ x, Fr N (Lf x) a ∧ Inv E (Sf x) w ∧ I x ∧ μ x < n
theorem W_loop {σ : Type} {c : Code} (Lf : σ → Slots) (Sf : σ → List It) (I : σ → Prop) (μ : σ → Nat) (x0 : σ) (h0 : I x0) (hL : sub L (Lf x0)) (hS : SubI S (Sf x0))
    (round : ∀ x, I x → W P c (Exit.then (LoopQ Lf Sf I μ N E (μ x)) Q) N E (Lf x) (Sf x)) : W P (.loop c) Q N E L S := by
  refine ⟨fun a w ha hi b k cs => ?_⟩
  have key : ∀ (n : Nat) (x : σ) (a : Act) (w : World), μ x = n → I x → Fr N (Lf x) a → Inv E (Sf x) w →
      ∃ e a' w', Q e a' w' ∧ Arrives P (lone (b.at a (.code c :: .inLoop c :: k)) cs w) b k cs e a' w' := by
    intro n
    induction n using Nat.strongRecOn with
    | _ n ih =>
      intro x a w hn hI ha hs
      obtain ⟨e, a1, w1, hq, harr⟩ := (round x hI).get a w ha hs b (.inLoop c :: k) cs
      cases e with
      | normal =>
        obtain ⟨x1, ha1, hs1, hI1, hlt⟩ := hq
        obtain ⟨e2, a2, w2, hq2, harr2⟩ := ih (μ x1) (hn ▸ hlt) x1 a1 w1 rfl hI1 ha1 hs1
        exact ⟨e2, a2, w2, hq2, .of_steps (Steps.trans harr (.one step_inLoop)) harr2⟩
      | exit id => exact ⟨_, a1, w1, hq, .pass (x := .inLoop c) rfl (fun _ _ => .inl (by simp)) harr⟩
      | goto l => exact ⟨_, a1, w1, hq, .pass (x := .inLoop c) rfl (fun _ _ => .inl (by simp)) harr⟩
      | ret => exact ⟨_, a1, w1, hq, .pass (x := .inLoop c) rfl (fun _ _ => .inl (by simp)) harr⟩
      | panic ch => exact ⟨_, a1, w1, hq, .pass (x := .inLoop c) rfl (fun _ _ => .inl (by simp)) harr⟩
      | outgrown => exact ⟨_, a1, w1, hq, .pass (x := .inLoop c) rfl (fun _ _ => .inl (by simp)) harr⟩
  obtain ⟨e, a', w', hq, harr⟩ := key _ x0 a w rfl h0 (ha.weaken hL) (hS.inv hi)
  exact ⟨e, a', w', hq, .of_steps (.one step_loop) harr⟩
theorem P_loop {σ : Type} {Lf : σ → Slots} {Sf : σ → List It} {I : σ → Prop} {μ : σ → Nat} {n : Nat} (x : σ) (hI : I x) (hn : μ x < n) (hL : sub L (Lf x)) (hS : SubI S (Sf x)) : Post (Exit.then (LoopQ Lf Sf I μ N E n) Q) .normal N E L S :=
  ⟨fun a w ha hi => ⟨x, ha.weaken hL, hS.inv hi, hI, hn⟩⟩
def JoinQ {σ : Type} (Lf : σ → Slots) (Sf : σ → List It) (I : σ → Prop) (N : Nat) (E : Env) : Act → World → Prop := fun a w => ∃ x, Fr N (Lf x) a ∧ Inv E (Sf x) w ∧ I x
theorem W_seqJ {σ : Type} {x y : Code} (Lf : σ → Slots) (Sf : σ → List It) (I : σ → Prop) (k1 : W P x (Exit.then (JoinQ Lf Sf I N E) Q) N E L S) (k2 : ∀ q, I q → W P y Q N E (Lf q) (Sf q)) : W P (.seq x y) Q N E L S := by
  refine W_seq ⟨fun a w ha hi b k cs => ?_⟩
  obtain ⟨e, a1, w1, hq, harr⟩ := k1.get a w ha hi b k cs
  refine ⟨e, a1, w1, ?_, harr⟩
  cases e with
  | normal =>
    obtain ⟨q, f1, s1, i1⟩ := hq
    exact (k2 q i1).get a1 w1 f1 s1
  | exit id => exact hq
  | goto l => exact hq
  | ret => exact hq
  | panic ch => exact hq
  | outgrown => exact hq
theorem P_join {σ : Type} {Lf : σ → Slots} {Sf : σ → List It} {I : σ → Prop} (x : σ) (hI : I x) (hL : sub L (Lf x)) (hS : SubI S (Sf x)) : Post (Exit.then (JoinQ Lf Sf I N E) Q) .normal N E L S :=
  ⟨fun a w ha hi => ⟨x, ha.weaken hL, hS.inv hi, hI⟩⟩
theorem W_seqR {i : Nat} {r : Array Oper} {d : Bool} {y : Code} (k : W P (.region i r d) (Exit.then (y.wp P Q) Q) N E L S) : W P (.seq (.region i r d) y) Q N E L S := W_seq k

/-! ### behind a piece of code -/
theorem P_then {d : Code} (k : W P d Q N E L S) : Post (Exit.then (d.wp P Q) Q) .normal N E L S := ⟨k.get⟩
theorem P_thenX {K : Act → World → Prop} {i : Nat} (k : Post Q (.exit i) N E L S) : Post (Exit.then K Q) (.exit i) N E L S := ⟨k.get⟩
theorem P_thenR {K : Act → World → Prop} (k : Post Q .ret N E L S) : Post (Exit.then K Q) .ret N E L S := ⟨k.get⟩
theorem P_blockN {i : Nat} (k : Post Q .normal N E L S) : Post (Exit.inBlock i Q) .normal N E L S := ⟨k.get⟩
theorem P_blockR {i : Nat} (k : Post Q .ret N E L S) : Post (Exit.inBlock i Q) .ret N E L S := ⟨k.get⟩
theorem P_blockE {i : Nat} (k : Post Q .normal N E L S) : Post (Exit.inBlock i Q) (.exit i) N E L S := ⟨fun a w ha hi => by
  show if i = i then _ else _
  rw [if_pos rfl]; exact k.get a w ha hi⟩
theorem P_blockX {i j : Nat} (hij : Nat.beq j i = false) (k : Post Q (.exit j) N E L S) : Post (Exit.inBlock i Q) (.exit j) N E L S := ⟨fun a w ha hi => by
  show if j = i then _ else _
  rw [if_neg (Nat.ne_of_beq_eq_false hij)]; exact k.get a w ha hi⟩
theorem P_ngN (k : Post Q .normal N E L S) : Post (Exit.noGoto Q) .normal N E L S := ⟨k.get⟩
theorem P_ngX {i : Nat} (k : Post Q (.exit i) N E L S) : Post (Exit.noGoto Q) (.exit i) N E L S := ⟨k.get⟩
theorem P_ngR (k : Post Q .ret N E L S) : Post (Exit.noGoto Q) .ret N E L S := ⟨k.get⟩
end

/-! ### contracts -/
/-- the blocks that stay are as they were -/
def Keep (E : Env) (h : Heap) : Prop := E.s.heap.size ≤ h.size ∧ ∀ k, k < E.s.heap.size → ¬ E.M k → h[k]? = E.s.heap[k]?
/-- it holds of whatever memory in which the blocks that stay are as they were -/
def Ro (E : Env) (R : Heap → Prop) : Prop := ∀ h : Heap, Keep E h → R h
theorem Inv.kept {E : Env} {S : List It} {w : World} (i : Inv E S w) : Keep E w.heap := ⟨i.size, i.keep⟩
/-- A contract: what is handed over to be written (pre), what is held by the memory that stays (R), what comes back. -/
def Fc (P : Program) (f : FuncId) (args : List Value) (pre : List It) (R : Heap → Prop) (q : Value → List It → Prop) : Prop :=
  Enters P f ∧ ∀ E : Env, E.M = FootL pre → Sep pre E.s.heap → Ro E R → Calls P f args.toArray E.s (fun e w' => ∃ v S', e = .returned v ∧ q v S' ∧ Inv E S' w')
abbrev Any : Heap → Prop := fun _ => True
def Is (v : Value) (S : List It) : Value → List It → Prop := fun v' S' => v' = v ∧ S' = S
def FcQ (E : Env) (q : Value → List It → Prop) : Ending → World → Prop := fun e w' => ∃ v S', e = .returned v ∧ q v S' ∧ Inv E S' w'
section
variable {P : Program} {Q : Exit → Act → World → Prop} {N : Nat} {E : Env} {L : Slots} {S : List It} {ops : Array Oper} {rest : List Oper} {md : Mode} {o : Oper} {d_ : Nat}
theorem fn_of {f : FuncId} {fn : Func} {c : Code} {args : List Value} {pre : List It} {R : Heap → Prop} {q : Value → List It → Prop} (hf : P.funcs[f]? = some fn) (hname : (fn.name == "runtime.NumGoroutine") = false) (hb : fn.body = some c) (hn : Nat.ble args.length fn.ntmps = true)
    (hp : ∀ E : Env, Ro E R → R E.s.heap → W P c (bodyPost P fn (FcQ E q)) fn.ntmps E (frame0 0 args) pre) : Fc P f args pre R q := by
  refine ⟨⟨fn, c, hf, hname, hb⟩, fun E hM hs hR => ?_⟩
  have hn' := Nat.le_of_ble_eq_true hn
  refine calls_of_wp hf hb ((hp E hR (hR _ ⟨Nat.le_refl _, fun _ _ _ => rfl⟩)).get _ _ ⟨?_, rfl, ?_⟩ ⟨Sim.refl _, Nat.le_refl _, fun _ _ _ => rfl, hs, fun k hk => .inl (hM ▸ hk)⟩)
  · simp; omega
  · intro t v hl
    obtain ⟨_, h2⟩ := look_frame0 _ _ _ _ hl
    simp only [Nat.sub_zero] at h2
    obtain ⟨hlt, _⟩ := List.getElem?_eq_some_iff.1 h2
    rw [Array.getElem?_append_left (by simpa using hlt)]
    simpa using h2
theorem G_call {f : Nat} {as : Array Operand} {ts : Array TypeId} {cal : Operand} {vs : List Value} {pre S1 : List It} {R : Heap → Prop} {q : Value → List It → Prop} (ho : o.op = .call { callee := .value cal, args := as, argTypes := ts }) (hg : wantE ops L o = some true) (hd : o.dst = some d_) (hn : Nat.blt d_ N = true) (hac : md.acts = true)
    (hc : ev L cal = some (.func (.func f) #[] #[])) (hv : evs L as.toList = some vs) (spec : Fc P f vs pre R q) (hS : Splits S pre S1) (hR : ∀ h, Keep E h → Sep (md.all S1) h → R h)
    (k : ∀ v S', q v S' → G P ops Q N E md.next rest ((d_, v) :: L) (S' ++ S1)) : G P ops Q N E md (o :: rest) L S := by
  obtain ⟨⟨fn, c, hf, hname, hb⟩, sp⟩ := spec
  refine G_act (R := fun v S2 => ∃ S', q v S' ∧ S2 = S' ++ S1) hg hd hn hac (fun a w ha hi => ?_) (fun v S2 h => by obtain ⟨S', h1, rfl⟩ := h; exact k v S' h1)
  intro K Q' hK
  unfold Oper.wp
  rw [call_run ha ho hc hv hf hname hb w]
  simp only [Oper.upon]
  have h0 : ∃ F, md.all S = F ++ S ∧ md.all (S) = F ++ S ∧ ∀ S', md.all S' = F ++ S' := by
    cases md with
    | plain => exact ⟨[], rfl, rfl, fun _ => rfl⟩
    | drawn F l ms => exact ⟨F, rfl, rfl, fun _ => rfl⟩
  obtain ⟨F, e1, _, e2⟩ := h0
  have hi2 : Inv E (pre ++ (F ++ S1)) w := (hS.app F).inv (e1 ▸ hi)
  have hro : Ro ⟨w, FootL pre⟩ R := by
    rintro h' ⟨z1, z2⟩
    obtain ⟨u1, u2, u3⟩ := Sep_app.1 hi2.sep
    refine hR h' ⟨Nat.le_trans hi2.size z1, fun k hk hM => ?_⟩ ?_
    · refine (z2 k (Nat.lt_of_lt_of_le hk hi2.size) (fun hf => ?_)).trans (hi2.keep k hk hM)
      rcases hi2.foot k (FootL_app.2 (.inl hf)) with h | h
      · exact hM h
      · omega
    · rw [e2]
      exact u2.keep (fun k hk => z2 k (Sep.lt u2 hk) (fun hf => u3 k hf hk))
  refine (sp ⟨w, FootL pre⟩ rfl (Sep_app.1 hi2.sep).1 hro).mono ?_
  rintro e w' ⟨v, S', rfl, hq, i'⟩
  refine hK v w' ⟨_, ⟨S', hq, rfl⟩, ?_⟩
  rw [e2]
  have h3 : Inv E (S' ++ (F ++ S1)) w' := hi2.frame i'.sim i'.size i'.keep i'.sep i'.foot
  have h4 : Inv E ((S' ++ F) ++ S1) w' := by rw [List.append_assoc]; exact h3
  obtain ⟨t1, t2, t3⟩ := Sep_app.1 h4.sep
  have h5 : Inv E ((F ++ S') ++ S1) w' := by
    refine h4.re (Sep_app.2 ⟨?_, t2, fun k hk => t3 k (FootL_app.2 (FootL_app.1 hk).symm)⟩) (fun k hk => ?_)
    · obtain ⟨u1, u2, u3⟩ := Sep_app.1 t1
      exact Sep_app.2 ⟨u2, u1, fun k hk hb => u3 k hb hk⟩
    · rcases FootL_app.1 hk with hk | hk
      · exact FootL_app.2 (.inl (FootL_app.2 (FootL_app.1 hk).symm))
      · exact FootL_app.2 (.inr hk)
  rw [List.append_assoc] at h5
  exact h5
theorem G_callv {f : Nat} {as : Array Operand} {ts : Array TypeId} {cal : Operand} {vs : List Value} {pre S1 S' : List It} {R : Heap → Prop} {v : Value} (ho : o.op = .call { callee := .value cal, args := as, argTypes := ts }) (hg : wantE ops L o = some true) (hd : o.dst = some d_) (hn : Nat.blt d_ N = true) (hac : md.acts = true)
    (hc : ev L cal = some (.func (.func f) #[] #[])) (hv : evs L as.toList = some vs) (spec : Fc P f vs pre R (Is v S')) (hS : Splits S pre S1) (hR : ∀ h, Keep E h → Sep (md.all S1) h → R h)
    (k : G P ops Q N E md.next rest ((d_, v) :: L) (S' ++ S1)) : G P ops Q N E md (o :: rest) L S :=
  G_call ho hg hd hn hac hc hv spec hS hR (fun _ _ h => by obtain ⟨rfl, rfl⟩ := h; exact k)

/-! returns -/
theorem P_ret0 {fn : Func} {q : Value → List It → Prop} {S' : List It} (hr : fn.results = #[]) (hq : q (.tuple #[]) S') (hS : SubI S S') : Post (bodyPost P fn (FcQ E q)) .ret N E L S :=
  ⟨fun a w ha hi => ⟨ha.defers, _, results_none hr _ _ _, _, _, rfl, hq, hS.inv hi⟩⟩
theorem P_end0 {fn : Func} {q : Value → List It → Prop} {S' : List It} (hr : fn.results = #[]) (hq : q (.tuple #[]) S') (hS : SubI S S') : Post (bodyPost P fn (FcQ E q)) .normal N E L S :=
  ⟨fun a w ha hi => ⟨ha.defers, _, results_none hr _ _ _, _, _, rfl, hq, hS.inv hi⟩⟩
/-- what a result is -/
def resE (T : IT) (GG : GT) (L : Slots) (S : List It) (rv : ResultVar) (v : Value) : Prop := ∀ (P : Program), AllI P T → AllG P GG → ∀ N a E w, Fr N L a → Inv E S w → (resRun a.tmps rv).run P w = .ok v w
theorem resE_tmp {T : IT} {GG : GT} {t : Nat} {v : Value} (hv : B.look L t = some v) : resE T GG L S (.tmp t) v := fun P hI hG N a E w ha hi => resRun_ok hG hI (.tmp hv) ha rfl
theorem resE_cell1 {T : IT} {GG : GT} {t ty p e j : Nat} {cs : List Value} {v : Value} {S1 : List It} (hv : B.look L t = some (.pointer (some ⟨p, j, none⟩))) (hg : agg GG ty = some false) (hs : Split S (.box p e cs) S1) (hc : nthV cs j = some v) : resE T GG L S (.cell t ty) v :=
  fun P hI hG N a E w ha hi => resRun_ok hG hI (.cell1 hv hg (Box.cell (hs.inv hi).sep.1 hc)) ha rfl
theorem resE_cellN {T : IT} {GG : GT} {t ty p e : Nat} {cs : List Value} {sz_ by_ : Nat} {z_ : Value} {S1 : List It} (hv : B.look L t = some (.pointer (some ⟨p, 0, none⟩))) (hg : agg GG ty = some true) (hz : inf T ty = some ⟨sz_, by_, z_⟩) (hs : Split S (.box p e cs) S1) (hl : Nat.beq cs.length sz_ = true) : resE T GG L S (.cell t ty) (.agg cs.toArray) :=
  fun P hI hG N a E w ha hi => resRun_ok hG hI (.cellN cs hv hg hz hl (Box.cells (hs.inv hi).sep.1)) ha rfl
theorem P_res1 {T : IT} {GG : GT} (hI : AllI P T) (hG : AllG P GG) {fn : Func} {q : Value → List It → Prop} {S' : List It} {r1 : ResultVar} {v1 : Value} (hr : fn.results = #[r1]) (h1 : resE T GG L S r1 v1) (hq : q v1 S') (hS : SubI S S') : Post (bodyPost P fn (FcQ E q)) .ret N E L S :=
  ⟨fun a w ha hi => ⟨ha.defers, v1, by
    have e1 := h1 P hI hG N a E w ha hi
    rw [results_eq, hr]
    simp [e1], _, _, rfl, hq, hS.inv hi⟩⟩
theorem P_res2 {T : IT} {GG : GT} (hI : AllI P T) (hG : AllG P GG) {fn : Func} {q : Value → List It → Prop} {S' : List It} {r1 r2 : ResultVar} {v1 v2 : Value} (hr : fn.results = #[r1, r2]) (h1 : resE T GG L S r1 v1) (h2 : resE T GG L S r2 v2) (hq : q (.tuple #[v1, v2]) S') (hS : SubI S S') : Post (bodyPost P fn (FcQ E q)) .ret N E L S :=
  ⟨fun a w ha hi => ⟨ha.defers, .tuple #[v1, v2], by
    have e1 := h1 P hI hG N a E w ha hi
    have e2 := h2 P hI hG N a E w ha hi
    rw [results_eq, hr]
    simp [e1, e2], _, _, rfl, hq, hS.inv hi⟩⟩
theorem P_res3 {T : IT} {GG : GT} (hI : AllI P T) (hG : AllG P GG) {fn : Func} {q : Value → List It → Prop} {S' : List It} {r1 r2 r3 : ResultVar} {v1 v2 v3 : Value} (hr : fn.results = #[r1, r2, r3]) (h1 : resE T GG L S r1 v1) (h2 : resE T GG L S r2 v2) (h3 : resE T GG L S r3 v3) (hq : q (.tuple #[v1, v2, v3]) S') (hS : SubI S S') : Post (bodyPost P fn (FcQ E q)) .ret N E L S :=
  ⟨fun a w ha hi => ⟨ha.defers, .tuple #[v1, v2, v3], by
    have e1 := h1 P hI hG N a E w ha hi
    have e2 := h2 P hI hG N a E w ha hi
    have e3 := h3 P hI hG N a E w ha hi
    rw [results_eq, hr]
    simp [e1, e2, e3], _, _, rfl, hq, hS.inv hi⟩⟩
theorem P_res4 {T : IT} {GG : GT} (hI : AllI P T) (hG : AllG P GG) {fn : Func} {q : Value → List It → Prop} {S' : List It} {r1 r2 r3 r4 : ResultVar} {v1 v2 v3 v4 : Value} (hr : fn.results = #[r1, r2, r3, r4]) (h1 : resE T GG L S r1 v1) (h2 : resE T GG L S r2 v2) (h3 : resE T GG L S r3 v3) (h4 : resE T GG L S r4 v4) (hq : q (.tuple #[v1, v2, v3, v4]) S') (hS : SubI S S') : Post (bodyPost P fn (FcQ E q)) .ret N E L S :=
  ⟨fun a w ha hi => ⟨ha.defers, .tuple #[v1, v2, v3, v4], by
    have e1 := h1 P hI hG N a E w ha hi
    have e2 := h2 P hI hG N a E w ha hi
    have e3 := h3 P hI hG N a E w ha hi
    have e4 := h4 P hI hG N a E w ha hi
    rw [results_eq, hr]
    simp [e1, e2, e3, e4], _, _, rfl, hq, hS.inv hi⟩⟩

/-! what is read and stays -/
class Mono (R : Heap → Prop) : Prop where
  mono : ∀ h h' : Heap, Ext h.size h h' → R h → R h'
instance : Mono Any := ⟨fun _ _ _ h => h⟩
instance {p : Prop} : Mono (fun _ => p) := ⟨fun _ _ _ h => h⟩
instance {R R' : Heap → Prop} [a : Mono R] [b : Mono R'] : Mono (fun h => R h ∧ R' h) := ⟨fun h h' x k => ⟨a.mono h h' x k.1, b.mono h h' x k.2⟩⟩
instance {α : Sort _} {R : α → Heap → Prop} [a : ∀ x, Mono (R x)] : Mono (fun h => ∀ x, R x h) := ⟨fun h h' x k y => (a y).mono h h' x (k y)⟩
instance {p : Prop} {R : Heap → Prop} [a : Mono R] : Mono (fun h => p → R h) := ⟨fun h h' x k y => a.mono h h' x (k y)⟩
instance {size : Nat} {A : Option Addr} {n c : Nat} {xs : List Value} : Mono (fun h => Reads h size A n c xs) := ⟨fun h h' x k => k.ext' x⟩
theorem Ro.of {R : Heap → Prop} [m : Mono R] (hM : E.M = FootL []) (h : R E.s.heap) : Ro E R := fun h' h1 => m.mono _ _ ⟨h1.1, fun k hk => h1.2 k hk (by rw [hM]; exact id)⟩ h
theorem Ro.get {R : Heap → Prop} (r : Ro E R) {h : Heap} (k : Keep E h) : R h := r h k
theorem Sep.rd {e size n c : Nat} {A : Option Addr} {xs : List Value} {S1 : List It} {h : Heap} (hs : Split S (.row e size A n c xs) S1) (p : Sep S h) : Reads h size A n c xs := by
  obtain ⟨A', c', e, r⟩ := Own.reads (hs.sep p).1
  injection e with e1 e2 e3
  subst e1 e3
  exact r
theorem Ro.at' {R : Heap → Prop} (r : Ro E R) {h : Heap} (k : Keep E h) (p : Sep S h) : R h := r h k
theorem Ro.at {R : Heap → Prop} (r : Ro E R) {w : World} (i : Inv E S w) : R w.heap := r _ i.kept
theorem Ro.imp {R R' : Heap → Prop} (r : Ro E R) (h : ∀ h, R h → R' h) : Ro E R' := fun h' h1 => h _ (r h' h1)
/-- a slice that can be read -/
def Rd (E : Env) (S : List It) (size : Nat) (A : Option Addr) (n c : Nat) (xs : List Value) : Prop := ∀ w, Inv E S w → Reads w.heap size A n c xs
theorem Rd.ro {size : Nat} {A : Option Addr} {n c : Nat} {xs : List Value} (r : Ro E (fun h => Reads h size A n c xs)) : Rd E S size A n c xs := fun w i => r.at i
theorem Rd.row {e size : Nat} {A : Option Addr} {n c : Nat} {xs : List Value} {S1 : List It} (h : Split S (.row e size A n c xs) S1) : Rd E S size A n c xs := fun w i => by
  obtain ⟨A', c', e, r⟩ := Own.reads (h.inv i).sep.1
  injection e with e1 e2 e3
  subst e1 e3
  exact r
theorem Rd.own {size : Nat} {A : Option Addr} {n c : Nat} {xs : List Value} {S1 : List It} {F : Nat → Prop} {R : Heap → Prop} (h : Split S (.own F R) S1) (hr : ∀ h, R h → Reads h size A n c xs) : Rd E S size A n c xs := fun w i => hr _ ((h.inv i).sep.1.2 _ (fun _ _ => rfl))
/-- of a contract that is told by the heap -/
theorem fn_tells {f : FuncId} {args : List Value} {R : Heap → Prop} {v : Value} (he : Enters P f) (h : ∀ h, R h → Tells P f args h (Ret fun u h' => u = v ∧ Ext h.size h h')) : Fc P f args [] R (Is v []) := by
  refine ⟨he, fun E hM _ hR => ?_⟩
  refine (h E.s.heap (hR _ ⟨Nat.le_refl _, fun _ _ _ => rfl⟩) E.s rfl).mono ?_
  rintro e w' ⟨h1, h2⟩
  cases e with
  | returned u =>
    obtain ⟨rfl, x⟩ := h2
    exact ⟨u, [], rfl, ⟨rfl, rfl⟩, h1, x.size, fun k hk _ => x.block k hk, trivial, fun _ hk => hk.elim⟩
  | panicked ch => exact h2.elim
  | outgrown => exact h2.elim
theorem tells_fn {f : FuncId} {args : List Value} {R : Heap → Prop} [Mono R] {v : Value} {h : Heap} (k : Fc P f args [] R (Is v [])) (hR : R h) : Tells P f args h (Ret fun u h' => u = v ∧ Ext h.size h h') := by
  intro w hw
  subst hw
  refine (k.2 ⟨w, FootL []⟩ rfl trivial (Ro.of rfl hR)).mono ?_
  rintro e w' ⟨u, S', rfl, ⟨rfl, rfl⟩, i⟩
  exact ⟨i.sim, rfl, i.size, fun k hk => i.keep k hk id⟩
end
end Go.Proofs.Ytdkigndgdkaoiaa.X
