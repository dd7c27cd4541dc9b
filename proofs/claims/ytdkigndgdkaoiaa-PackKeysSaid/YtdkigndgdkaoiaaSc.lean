/- Operations on memory over items. -/
import Derived.Test.YtdkigndgdkaoiaaSb
namespace Go.Proofs.Ytdkigndgdkaoiaa.X
set_option linter.unusedVariables false
set_option linter.unusedSimpArgs false
open Go B

/-- the address of a place in a slice's element -/
def ep (A : Option Addr) (i : Int) (size off : Nat) : Value := .pointer (A.map fun a => a.add (i.toNat * size + off))
/-- the cells of an element -/
def Elt (xs : List Value) (size i : Nat) (cs : List Value) : Prop := (xs.drop (i * size)).take size = cs ∧ cs.length = size
theorem Elt.map {α : Type} {f : α → Value} {l : List α} {i : Nat} {x : α} (h : l[i]? = some x) : Elt (l.map f) 1 i [f x] := by
  refine ⟨?_, rfl⟩
  have h1 : (l.map f)[i * 1]? = some (f x) := by simp [h]
  obtain ⟨hlt, he⟩ := List.getElem?_eq_some_iff.1 h1
  rw [List.drop_eq_getElem_cons hlt, he]
  rfl
theorem Elt.flat {α : Type} {f : α → List Value} {size : Nat} (hf : ∀ x, (f x).length = size) : ∀ {l : List α} {i : Nat} {x : α}, l[i]? = some x → Elt (l.flatMap f) size i (f x)
  | [], i, x, h => by simp at h
  | y :: l, 0, x, h => by
    simp only [List.length_cons, Nat.zero_lt_succ, List.getElem?_eq_getElem, List.getElem_cons_zero, Option.some.injEq] at h
    subst h
    refine ⟨?_, hf _⟩
    rw [List.flatMap_cons, Nat.zero_mul, List.drop_zero, List.take_left' (hf _)]
  | y :: l, i + 1, x, h => by
    have := Elt.flat hf (l := l) (i := i) (x := x) (by simpa using h)
    refine ⟨?_, hf _⟩
    rw [List.flatMap_cons, Nat.succ_mul, Nat.add_comm, ← List.drop_drop, List.drop_left' (hf _)]
    exact this.1
theorem Elt.one {xs : List Value} {i : Nat} {v : Value} (h : xs[i]? = some v) : Elt xs 1 i [v] := by
  have := Elt.map (f := id) h
  simpa using this
theorem Elt.get {xs cs : List Value} {size i off : Nat} {v : Value} (h : Elt xs size i cs) (hv : nthV cs off = some v) : xs[i * size + off]? = some v := by
  rw [nthV_get, ← h.1, List.getElem?_take] at hv
  split at hv
  · rwa [List.getElem?_drop] at hv
  · cases hv
theorem ep_some {a : Addr} {i : Int} {size off : Nat} : ep (some a) i size off = .pointer (some (a.add (i.toNat * size + off))) := rfl

section
variable {P : Program} {T : Tab} {Q : Exit → Act → World → Prop} {N : Nat} {E : Env} {L : Slots} {S : List It} {ops : Array Oper} {rest : List Oper} {md : Mode} {o : Oper} {d_ : Nat}

theorem Rd.some {w : World} {size : Nat} {A : Option Addr} {n c : Nat} {xs : List Value} (r : Reads w.heap size A n c xs) (hs : 0 < size) (hn : 0 < n) : ∃ a, A = some a ∧ cellsH w.heap a xs := r.cell (Nat.mul_pos hn hs)

/-- &xs[i] -/
theorem G_idx (ok : TabOK P T) {t e : Nat} {x ix : Operand} {k : IntKind} {i : Int} {A : Option Addr} {n c : Nat} {xs : List Value} {sz_ by_ : Nat} {z_ : Value} (ho : o.op = .indexAddr t x ix) (ht : und T.u t = some (.slice e)) (he : inf T.i e = some ⟨sz_, by_, z_⟩) (hsz : Nat.blt 0 sz_ = true)
    (hx : ev L x = some (.slice A n c)) (hi : ev L ix = some (.int k i)) (rd : Rd E (md.src S) sz_ A n c xs) (h0 : 0 ≤ i) (h1 : i < (n : Int)) (hg : wantE ops L o = some true) (hd : o.dst = some d_) (hn : Nat.blt d_ N = true)
    (kk : G P ops Q N E md.next rest ((d_, ep A i sz_ 0) :: L) S) : G P ops Q N E md (o :: rest) L S := by
  refine G_y hg hd hn (fun w hi' => ?_) kk
  obtain ⟨a, rfl, _⟩ := Rd.some (rd w hi') (by simpa [Nat.blt_eq] using hsz) (by omega)
  exact Y_indexAddr ok.u ok.i ho ht he hx hi h0 h1
/-- &arr[i] of an array in a variable -/
theorem G_idxArr (ok : TabOK P T) {t e n : Nat} {x ix : Operand} {k : IntKind} {i : Int} {p j : Nat} {sz_ by_ : Nat} {z_ : Value} (ho : o.op = .indexAddr t x ix) (ht : und T.u t = some (.array n e)) (he : inf T.i e = some ⟨sz_, by_, z_⟩)
    (hx : ev L x = some (.pointer (some ⟨p, j, none⟩))) (hi : ev L ix = some (.int k i)) (h0 : 0 ≤ i) (h1 : i < (n : Int)) (hg : wantE ops L o = some true) (hd : o.dst = some d_) (hn : Nat.blt d_ N = true)
    (kk : G P ops Q N E md.next rest ((d_, .pointer (some ⟨p, Nat.add j (Nat.mul i.toNat sz_), none⟩)) :: L) S) : G P ops Q N E md (o :: rest) L S := by
  refine G_y hg hd hn (fun w hi' => ?_) kk
  have := Y_indexArr (P := P) (N := N) (h := w.heap) ok.u ok.i ho ht he hx hi h0 h1
  have e1 : (⟨p, j, none⟩ : Addr).add (i.toNat * sz_) = ⟨p, j + i.toNat * sz_, none⟩ := by unfold Addr.add; split <;> simp_all
  rw [e1] at this
  exact this
/-- &p.f, p an element's place -/
theorem G_epField (ok : TabOK P T) {t j off ft : Nat} {x : Operand} {A : Option Addr} {i : Int} {n c size k : Nat} {xs : List Value} {sz_ by_ : Nat} {z_ : Value} (ho : o.op = .fieldAddr t x j) (hf : fld T.f t j = some (off, ft)) (hz : inf T.i ft = some ⟨sz_, by_, z_⟩) (hnz : Nat.beq sz_ 0 = false)
    (hx : ev L x = some (ep A i size k)) (rd : Rd E (md.src S) size A n c xs) (hsz : Nat.blt 0 size = true) (h0 : 0 ≤ i) (h1 : i < (n : Int)) (hg : wantE ops L o = some true) (hd : o.dst = some d_) (hn : Nat.blt d_ N = true)
    (kk : G P ops Q N E md.next rest ((d_, ep A i size (Nat.add k off)) :: L) S) : G P ops Q N E md (o :: rest) L S := by
  refine G_y hg hd hn (fun w hi' => ?_) kk
  obtain ⟨a, rfl, _⟩ := Rd.some (rd w hi') (by simpa [Nat.blt_eq] using hsz) (by omega)
  have := Y_fieldAddr (P := P) (N := N) (h := w.heap) ok.f ok.i ho hf hz hnz (hx.trans (by rw [ep_some]))
  rw [add_add, Nat.add_assoc] at this
  rw [ep_some]
  exact this
theorem G_epNil (ok : TabOK P T) {x : Operand} {A : Option Addr} {i : Int} {n c size k : Nat} {xs : List Value} (ho : o.op = .nilCheck x)
    (hx : ev L x = some (ep A i size k)) (rd : Rd E (md.src S) size A n c xs) (hsz : Nat.blt 0 size = true) (h0 : 0 ≤ i) (h1 : i < (n : Int)) (hg : wantE ops L o = some true) (hd : o.dst = some d_) (hn : Nat.blt d_ N = true)
    (kk : G P ops Q N E md.next rest ((d_, ep A i size k) :: L) S) : G P ops Q N E md (o :: rest) L S := by
  refine G_y hg hd hn (fun w hi' => ?_) kk
  obtain ⟨a, rfl, _⟩ := Rd.some (rd w hi') (by simpa [Nat.blt_eq] using hsz) (by omega)
  exact Y_pure ok.u (by rw [ho]; simp only [pureOp, hx]; rfl)
/-- an element's cell is read -/
theorem G_eld1 (ok : TabOK P T) {t : Nat} {x : Operand} {A : Option Addr} {i : Int} {n c size k : Nat} {xs cs : List Value} {v : Value} (ho : o.op = .load t x) (ht : agg T.g t = some false)
    (hx : ev L x = some (ep A i size k)) (rd : Rd E (md.src S) size A n c xs) (hsz : Nat.blt 0 size = true) (h1 : i < (n : Int)) (h0 : 0 ≤ i) (he : Elt xs size i.toNat cs) (hv : nthV cs k = some v) (hg : wantE ops L o = some true) (hd : o.dst = some d_) (hn : Nat.blt d_ N = true)
    (kk : G P ops Q N E md.next rest ((d_, v) :: L) S) : G P ops Q N E md (o :: rest) L S := by
  refine G_y hg hd hn (fun w hi' => ?_) kk
  obtain ⟨a, rfl, hc⟩ := Rd.some (rd w hi') (by simpa [Nat.blt_eq] using hsz) (by omega)
  exact Y_load1 ok.g v ho ht hx (hc _ _ (he.get hv))
theorem nth_cut {cs : List Value} {k n j : Nat} {v : Value} (h : ((cs.drop k).take n)[j]? = some v) : nthV cs (k + j) = some v := by
  rw [nthV_get]
  rw [List.getElem?_take] at h
  split at h
  · rwa [List.getElem?_drop] at h
  · cases h
/-- an element, or a part of it, of several cells -/
theorem G_eldN (ok : TabOK P T) {t : Nat} {x : Operand} {A : Option Addr} {i : Int} {n c size k : Nat} {xs cs : List Value} {v : Value} {sz_ by_ : Nat} {z_ : Value} (ho : o.op = .load t x) (ht : agg T.g t = some true) (hz : inf T.i t = some ⟨sz_, by_, z_⟩) (hpos : Nat.blt 0 sz_ = true)
    (hx : ev L x = some (ep A i size k)) (rd : Rd E (md.src S) size A n c xs) (hsz : Nat.blt 0 size = true) (h1 : i < (n : Int)) (h0 : 0 ≤ i) (he : Elt xs size i.toNat cs) (hv : cutE cs k sz_ = some v) (hg : wantE ops L o = some true) (hd : o.dst = some d_) (hn : Nat.blt d_ N = true)
    (kk : G P ops Q N E md.next rest ((d_, v) :: L) S) : G P ops Q N E md (o :: rest) L S := by
  have hpos' : 0 < sz_ := by simpa [Nat.blt_eq] using hpos
  obtain ⟨rfl, hl⟩ : v = .agg ((cs.drop k).take sz_).toArray ∧ k + sz_ ≤ cs.length := by
    rcases cutE_eq hv with h | ⟨h, _⟩
    · exact h
    · omega
  refine G_y hg hd hn (fun w hi' => ?_) kk
  obtain ⟨a, rfl, hc⟩ := Rd.some (rd w hi') (by simpa [Nat.blt_eq] using hsz) (by omega)
  refine Y_loadN ok.g ok.i _ ho ht hz (by simp; omega) hx (fun j u hu => ?_)
  rw [add_add, Nat.add_assoc]
  exact hc _ _ (he.get (nth_cut hu))
/-- an element whole, however its cells are told -/
theorem G_eldW (ok : TabOK P T) {t : Nat} {x : Operand} {A : Option Addr} {i : Int} {n c size : Nat} {xs cs : List Value} {by_ : Nat} {z_ : Value} (ho : o.op = .load t x) (ht : agg T.g t = some true) (hz : inf T.i t = some ⟨size, by_, z_⟩)
    (hx : ev L x = some (ep A i size 0)) (rd : Rd E (md.src S) size A n c xs) (hsz : Nat.blt 0 size = true) (h1 : i < (n : Int)) (h0 : 0 ≤ i) (he : Elt xs size i.toNat cs) (hg : wantE ops L o = some true) (hd : o.dst = some d_) (hn : Nat.blt d_ N = true)
    (kk : G P ops Q N E md.next rest ((d_, .agg cs.toArray) :: L) S) : G P ops Q N E md (o :: rest) L S := by
  refine G_y hg hd hn (fun w hi' => ?_) kk
  obtain ⟨a, rfl, hc⟩ := Rd.some (rd w hi') (by simpa [Nat.blt_eq] using hsz) (by omega)
  refine Y_loadN ok.g ok.i _ ho ht hz (by rw [he.2]; simp) hx (fun j u hu => ?_)
  rw [add_add]
  exact hc _ _ (he.get (by rw [nthV_get]; simpa using hu))

/-- a variable's cell -/
theorem G_ld1 (ok : TabOK P T) {t p j e : Nat} {x : Operand} {v : Value} {cs : List Value} {S1 : List It} (ho : o.op = .load t x) (ht : agg T.g t = some false) (hx : ev L x = some (.pointer (some ⟨p, j, none⟩))) (hs : Split (md.src S) (.box p e cs) S1) (hv : nthV cs j = some v) (hg : wantE ops L o = some true) (hd : o.dst = some d_) (hn : Nat.blt d_ N = true)
    (kk : G P ops Q N E md.next rest ((d_, v) :: L) S) : G P ops Q N E md (o :: rest) L S :=
  G_y hg hd hn (fun w hi => Y_load1 ok.g v ho ht hx (Box.cell (hs.inv hi).sep.1 hv)) kk
theorem G_ldN (ok : TabOK P T) {t p j e : Nat} {x : Operand} {v : Value} {cs : List Value} {S1 : List It} {sz_ by_ : Nat} {z_ : Value} (ho : o.op = .load t x) (ht : agg T.g t = some true) (hz : inf T.i t = some ⟨sz_, by_, z_⟩) (hpos : Nat.blt 0 sz_ = true) (hx : ev L x = some (.pointer (some ⟨p, j, none⟩))) (hs : Split (md.src S) (.box p e cs) S1) (hv : cutE cs j sz_ = some v) (hg : wantE ops L o = some true) (hd : o.dst = some d_) (hn : Nat.blt d_ N = true)
    (kk : G P ops Q N E md.next rest ((d_, v) :: L) S) : G P ops Q N E md (o :: rest) L S := by
  have hpos' : 0 < sz_ := by simpa [Nat.blt_eq] using hpos
  obtain ⟨rfl, hl⟩ : v = .agg ((cs.drop j).take sz_).toArray ∧ j + sz_ ≤ cs.length := by
    rcases cutE_eq hv with h | ⟨h, _⟩
    · exact h
    · omega
  refine G_y hg hd hn (fun w hi => ?_) kk
  refine Y_loadN ok.g ok.i _ ho ht hz (by simp; omega) hx (Box.cellsAt (hs.inv hi).sep.1 j ?_)
  rw [List.length_take, List.length_drop, Nat.min_eq_left (by omega), List.drop_take]
  congr 1; omega
/-- a variable whole, however its cells are told -/
theorem G_ldW (ok : TabOK P T) {t p e : Nat} {x : Operand} {cs : List Value} {S1 : List It} {sz_ by_ : Nat} {z_ : Value} (ho : o.op = .load t x) (ht : agg T.g t = some true) (hz : inf T.i t = some ⟨sz_, by_, z_⟩) (hx : ev L x = some (.pointer (some ⟨p, 0, none⟩))) (hs : Split (md.src S) (.box p e cs) S1) (hl : Nat.beq cs.length sz_ = true) (hg : wantE ops L o = some true) (hd : o.dst = some d_) (hn : Nat.blt d_ N = true)
    (kk : G P ops Q N E md.next rest ((d_, .agg cs.toArray) :: L) S) : G P ops Q N E md (o :: rest) L S :=
  G_y hg hd hn (fun w hi => Y_loadN ok.g ok.i cs ho ht hz hl hx (Box.cells (hs.inv hi).sep.1)) kk

/-! ### what turns memory -/
theorem all_app (md : Mode) : ∃ F, ∀ S, md.all S = F ++ S := by
  cases md with
  | plain => exact ⟨[], fun _ => rfl⟩
  | drawn F l ms => exact ⟨F, fun _ => rfl⟩
theorem Inv.mid {E : Env} {A B C : List It} {w : World} (i : Inv E (A ++ (B ++ C)) w) : Inv E (B ++ (A ++ C)) w := by
  obtain ⟨h1, h2, h3⟩ := Sep_app.1 i.sep
  obtain ⟨h4, h5, h6⟩ := Sep_app.1 h2
  refine i.re (Sep_app.2 ⟨h4, Sep_app.2 ⟨h1, h5, fun k hk hc => h3 k hk (FootL_app.2 (.inr hc))⟩, fun k hk hf => ?_⟩) (fun k hk => ?_)
  · rcases FootL_app.1 hf with hf | hf
    · exact h3 k hf (FootL_app.2 (.inl hk))
    · exact h6 k hk hf
  · rcases FootL_app.1 hk with hk | hk
    · exact FootL_app.2 (.inr (FootL_app.2 (.inl hk)))
    · rcases FootL_app.1 hk with hk | hk
      · exact FootL_app.2 (.inl hk)
      · exact FootL_app.2 (.inr (FootL_app.2 (.inr hk)))
/-- an act on some items -/
theorem act_items {R : Value → Heap → Prop} {pre S1 : List It} {R' : Value → List It → Prop} (hS : Splits S pre S1) {a : Act} {w : World} (ha : Fr N L a) (hi : Inv E (md.all S) w) (k : Acts P N L o w.heap R)
    (hR : ∀ v h', R v h' → Sep pre w.heap → w.heap.size ≤ h'.size ∧ (∀ k, k < w.heap.size → ¬ FootL pre k → h'[k]? = w.heap[k]?) ∧ ∃ A', R' v A' ∧ Sep A' h' ∧ ∀ k, FootL A' k → FootL pre k ∨ w.heap.size ≤ k) :
    Act1 P o a w (fun v w' => ∃ S', (∃ A', R' v A' ∧ S' = A' ++ S1) ∧ Inv E (md.all S') w') := by
  obtain ⟨F, hF⟩ := all_app md
  have hi2 : Inv E (pre ++ (F ++ S1)) w := (hS.app F).inv (hF S ▸ hi)
  refine (Act1.of_acts ha k).mono ?_
  rintro v w' ⟨hsim, hr⟩
  obtain ⟨h1, h2, A', h3, h4, h5⟩ := hR v _ hr (Sep_app.1 hi2.sep).1
  refine ⟨A' ++ S1, ⟨A', h3, rfl⟩, ?_⟩
  rw [hF]
  exact (hi2.frame hsim h1 h2 h4 h5).mid
theorem push_same (h : Heap) (o : Obj) (k : Nat) (hk : k < h.size) : (h.push o)[k]? = h[k]? := by rw [Array.getElem?_push, if_neg (by omega)]
/-- new memory: a variable -/
theorem G_box {t : Nat} {x : Operand} {v : Value} {cs : List Value} (ho : o.op = .box t x) (hx : ev L x = some v) (hcs : v.cells = cs.toArray) (hg : wantE ops L o = some true) (hd : o.dst = some d_) (hn : Nat.blt d_ N = true) (hac : md.acts = true)
    (kk : ∀ p, G P ops Q N E md.next rest ((d_, .pointer (some ⟨p, 0, none⟩)) :: L) (.box p t cs :: S)) : G P ops Q N E md (o :: rest) L S := by
  refine G_act (R := fun v S' => ∃ A', (∃ p, v = .pointer (some ⟨p, 0, none⟩) ∧ A' = [.box p t cs]) ∧ S' = A' ++ S) hg hd hn hac (fun a w ha hi => act_items (pre := []) .nil ha hi (A_box ho hx) ?_) ?_
  · rintro _ _ ⟨rfl, rfl⟩ -
    refine ⟨by simp, fun k hk _ => push_same _ _ _ hk, _, ⟨w.heap.size, rfl, rfl⟩, ⟨?_, fun _ _ h => h, trivial⟩, fun k hk => ?_⟩
    · rw [hcs]; exact Box.newL _ _ _
    · rcases hk with hk | hk
      · have : k = w.heap.size := hk
        exact .inr (by omega)
      · exact hk.elim
  · rintro _ _ ⟨_, ⟨p, rfl, rfl⟩, rfl⟩
    exact kk p
theorem G_alloc (ok : TabOK P T) {t : Nat} {sz_ by_ : Nat} {z_ : Value} {cs : List Value} (ho : o.op = .alloc t) (hz : inf T.i t = some ⟨sz_, by_, z_⟩) (hcs : z_.cells = cs.toArray) (hg : wantE ops L o = some true) (hd : o.dst = some d_) (hn : Nat.blt d_ N = true) (hac : md.acts = true)
    (kk : ∀ p, G P ops Q N E md.next rest ((d_, .pointer (some ⟨p, 0, none⟩)) :: L) (.box p t cs :: S)) : G P ops Q N E md (o :: rest) L S := by
  refine G_act (R := fun v S' => ∃ A', (∃ p, v = .pointer (some ⟨p, 0, none⟩) ∧ A' = [.box p t cs]) ∧ S' = A' ++ S) hg hd hn hac (fun a w ha hi => act_items (pre := []) .nil ha hi (A_alloc ok.i ho hz) ?_) ?_
  · rintro _ _ ⟨rfl, rfl⟩ -
    refine ⟨by simp, fun k hk _ => push_same _ _ _ hk, _, ⟨w.heap.size, rfl, rfl⟩, ⟨?_, fun _ _ h => h, trivial⟩, fun k hk => ?_⟩
    · rw [hcs]; exact Box.newL _ _ _
    · rcases hk with hk | hk
      · have : k = w.heap.size := hk
        exact .inr (by omega)
      · exact hk.elim
  · rintro _ _ ⟨_, ⟨p, rfl, rfl⟩, rfl⟩
    exact kk p
theorem row_of_own {h : Heap} {e size n c : Nat} {A : Option Addr} {xs : List Value} (hb : ∀ k, (Value.slice A n c).ownBlock = some k → True) (o : Own h 0 e size (.slice A n c) n xs) : Sep [.row e size A n c xs] h := ⟨o, fun _ _ h => h, trivial⟩
theorem foot_row {e size n c g : Nat} {xs : List Value} {k : Nat} (hk : FootL [.row e size (some ⟨g, 0, none⟩) n c xs] k) : k = g := by
  rcases hk with ⟨a, ha, hb⟩ | hk
  · injection ha with ha; subst ha; exact hb.symm
  · exact hk.elim
theorem range_get (zs : List Value) : (List.range zs.length).map (fun j => zs[j]!) = zs := by
  apply List.ext_getElem
  · simp
  · intro i h1 h2
    simp [h2]
theorem made_flat (zs : List Value) (hp : 0 < zs.length) : ∀ l : Nat, (List.range (l * zs.length)).map (fun j => zs[j % zs.length]!) = (List.replicate l zs).flatten
  | 0 => by simp
  | l + 1 => by
    rw [Nat.succ_mul, List.range_add, List.map_append, made_flat zs hp l, List.replicate_succ', List.flatten_append]
    congr 1
    rw [List.map_map]
    have : List.map ((fun j => zs[j % zs.length]!) ∘ fun x => l * zs.length + x) (List.range zs.length) = (List.range zs.length).map (fun j => zs[j]!) := by
      apply List.map_congr_left
      intro j hj
      simp only [List.mem_range] at hj
      simp only [Function.comp]
      rw [Nat.mul_comm, Nat.mul_add_mod, Nat.mod_eq_of_lt hj]
    rw [this, range_get]
    simp
theorem made_take (zs : List Value) (hp : 0 < zs.length) (l c : Nat) (h : l ≤ c) : (madeCells zs.toArray (c * zs.length)).toList.take (l * zs.length) = (List.replicate l zs).flatten := by
  have h1 : (madeCells zs.toArray (c * zs.length)).toList = (List.range (c * zs.length)).map (fun j => zs[j % zs.length]!) := by simp [madeCells]
  rw [h1, ← List.map_take, List.take_range, Nat.min_eq_left (Nat.mul_le_mul_right _ h), made_flat zs hp]
theorem flat_one (l : Nat) (z : Value) : (List.replicate l [z]).flatten = List.replicate l z := by
  induction l with
  | zero => rfl
  | succ l ih => simp [List.replicate_succ, ih]
/-- make -/
theorem G_make (ok : TabOK P T) {t e : Nat} {x y : Operand} {sz_ by_ : Nat} {z_ : Value} {kl kc : IntKind} {l c : Int} {zs : List Value} (ho : o.op = .makeSlice t x y) (ht : und T.u t = some (.slice e)) (hz : inf T.i e = some ⟨sz_, by_, z_⟩) (hzs : z_.cells = zs.toArray) (hzl : Nat.beq zs.length sz_ = true) (hpos : Nat.blt 0 sz_ = true)
    (hx : ev L x = some (.int kl l)) (hy : ev L y = some (.int kc c)) (h0 : 0 ≤ l) (h1 : l ≤ c) (hb : (by_ : Int) * c ≤ 281474976710656) (hm : c ≤ 9223372036854775807) (hg : wantE ops L o = some true) (hd : o.dst = some d_) (hn : Nat.blt d_ N = true) (hac : md.acts = true)
    (kk : ∀ A, G P ops Q N E md.next rest ((d_, .slice A l.toNat c.toNat) :: L) (.row e sz_ A l.toNat c.toNat (List.replicate l.toNat zs).flatten :: S)) : G P ops Q N E md (o :: rest) L S := by
  have hzl' := Nat.eq_of_beq_eq_true hzl
  refine G_act (R := fun v S' => ∃ A', (∃ A, v = .slice A l.toNat c.toNat ∧ A' = [.row e sz_ A l.toNat c.toNat (List.replicate l.toNat zs).flatten]) ∧ S' = A' ++ S) hg hd hn hac (fun a w ha hi => act_items (pre := []) .nil ha hi (A_make ok.u ok.i ho ht hz hx hy h0 h1 hb hm) ?_) ?_
  · rintro _ _ ⟨rfl, rfl⟩ -
    have hmax : maxLen = 9223372036854775807 := by decide
    have hlen : (madeCells z_.cells (c.toNat * sz_)).size = c.toNat * sz_ := by simp [madeCells, hzs]
    have htake : (madeCells z_.cells (c.toNat * sz_)).toList.take (l.toNat * sz_) = (List.replicate l.toNat zs).flatten := by
      subst hzl'
      rw [hzs]
      exact made_take zs (by simpa [Nat.blt_eq] using hpos) _ _ (by omega)
    refine ⟨by simp, fun k hk _ => push_same _ _ _ hk, _, ⟨some ⟨w.heap.size, 0, none⟩, rfl, rfl⟩, ⟨⟨?_, .inr ⟨w.heap.size, c.toNat, madeCells z_.cells (c.toNat * sz_), rfl, Nat.zero_le _, by simp, by omega, by omega, hlen, htake⟩⟩, fun _ _ h => h, trivial⟩, fun k hk => ?_⟩
    · simp [hzl']
    · have := foot_row hk
      exact .inr (by omega)
  · rintro _ _ ⟨_, ⟨A, rfl, rfl⟩, rfl⟩
    exact kk A
theorem G_make1 (ok : TabOK P T) {t e : Nat} {x y : Operand} {by_ : Nat} {z_ : Value} {kl kc : IntKind} {l c : Int} (ho : o.op = .makeSlice t x y) (ht : und T.u t = some (.slice e)) (hz : inf T.i e = some ⟨1, by_, z_⟩) (hzs : z_.cells = #[z_])
    (hx : ev L x = some (.int kl l)) (hy : ev L y = some (.int kc c)) (h0 : 0 ≤ l) (h1 : l ≤ c) (hb : (by_ : Int) * c ≤ 281474976710656) (hm : c ≤ 9223372036854775807) (hg : wantE ops L o = some true) (hd : o.dst = some d_) (hn : Nat.blt d_ N = true) (hac : md.acts = true)
    (kk : ∀ A, G P ops Q N E md.next rest ((d_, .slice A l.toNat c.toNat) :: L) (.row e 1 A l.toNat c.toNat (List.replicate l.toNat z_) :: S)) : G P ops Q N E md (o :: rest) L S :=
  G_make ok (zs := [z_]) ho ht hz hzs rfl rfl hx hy h0 h1 hb hm hg hd hn hac (fun A => by rw [flat_one]; exact kk A)
def litE (L : Slots) : List (Nat × Operand) → Nat → Option (List Value)
  | [], _ => some []
  | p :: r, k => match Nat.beq p.1 k, ev L p.2, litE L r (k + 1) with
    | true, some v, some vs => some (v :: vs)
    | _, _, _ => none
theorem litE_evp (L : Slots) : ∀ (ps : List (Nat × Operand)) (k : Nat) (vs : List Value), litE L ps k = some vs → evp L ps = some ((vs.zipIdx k).map fun x => (x.2, x.1))
  | [], k, vs, h => by simp only [litE, Option.some.injEq] at h; subst h; rfl
  | p :: r, k, vs, h => by
    simp only [litE] at h
    split at h
    · rename_i v vs' h1 h2 h3
      simp only [Option.some.injEq] at h
      subst h
      have := litE_evp L r (k + 1) vs' h3
      simp only [evp, h2, this, List.zipIdx_cons, List.map_cons, Nat.eq_of_beq_eq_true h1]
    · cases h
/-- []T{..} -/
theorem G_lit (ok : TabOK P T) {t e len : Nat} {ps : Array (Nat × Operand)} {sz_ by_ : Nat} {z_ : Value} {vs : List Value} (ho : o.op = .buildSlice t len ps) (ht : und T.u t = some (.slice e)) (hz : inf T.i e = some ⟨sz_, by_, z_⟩) (hsz : Nat.blt 0 sz_ = true)
    (hp : evp L ps.toList = some ((vs.zipIdx 0).map fun x => (x.2, x.1))) (hl : Nat.beq vs.length len = true) (hpos : Nat.blt 0 len = true) (hsm : Nat.ble (len * sz_) 16777216 = true) (hc : vs.all (fun v => Nat.beq v.cells.size sz_) = true) (hg : wantE ops L o = some true) (hd : o.dst = some d_) (hn : Nat.blt d_ N = true) (hac : md.acts = true)
    (kk : ∀ A, G P ops Q N E md.next rest ((d_, .slice A len len) :: L) (.row e sz_ A len len (vs.flatMap fun v => v.cells.toList) :: S)) : G P ops Q N E md (o :: rest) L S := by
  have hsz' : 0 < sz_ := by simpa [Nat.blt_eq] using hsz
  have hpos' : 0 < len := by simpa [Nat.blt_eq] using hpos
  have hc' : ∀ v ∈ vs, v.cells.size = sz_ := fun v hv => Nat.eq_of_beq_eq_true (List.all_eq_true.1 hc v hv)
  have hl' := Nat.eq_of_beq_eq_true hl
  have hsm' := Nat.le_of_ble_eq_true hsm
  refine G_act (R := fun v S' => ∃ A', (∃ A, v = .slice A len len ∧ A' = [.row e sz_ A len len (vs.flatMap fun v => v.cells.toList)]) ∧ S' = A' ++ S) hg hd hn hac (fun a w ha hi => act_items (pre := []) .nil ha hi (A_lit ok.u ok.i vs ho ht hz hsz' hp hl' hpos' hsm' hc') ?_) ?_
  · rintro _ _ ⟨rfl, rfl⟩ -
    refine ⟨by simp, fun k hk _ => push_same _ _ _ hk, _, ⟨some ⟨w.heap.size, 0, none⟩, rfl, rfl⟩, ⟨?_, fun _ _ h => h, trivial⟩, fun k hk => ?_⟩
    · refine Own.lit w.heap _ (Nat.zero_le _) ?_ ?_
      · have : len * 1 ≤ len * sz_ := Nat.mul_le_mul_left _ hsz'
        omega
      · subst hl'
        clear hl hp hc hpos hpos' hsm hsm' ho kk
        induction vs with
        | nil => simp
        | cons v vs ih =>
          rw [List.flatMap_cons, List.length_append, List.length_cons, Nat.succ_mul, ih (fun u hu => hc' u (List.mem_cons_of_mem _ hu))]
          have := hc' v List.mem_cons_self
          simp only [Array.length_toList, this]
          omega
    · have := foot_row hk
      exact .inr (by omega)
  · rintro _ _ ⟨_, ⟨A, rfl, rfl⟩, rfl⟩
    exact kk A
/-- []T{} -/
theorem G_lit0 (ok : TabOK P T) {t e : Nat} {sz_ by_ : Nat} {z_ : Value} (ho : o.op = .buildSlice t 0 #[]) (ht : und T.u t = some (.slice e)) (hz : inf T.i e = some ⟨sz_, by_, z_⟩) (hg : wantE ops L o = some true) (hd : o.dst = some d_) (hn : Nat.blt d_ N = true) (hac : md.acts = true)
    (kk : ∀ A, G P ops Q N E md.next rest ((d_, .slice A 0 0) :: L) (.row e sz_ A 0 0 [] :: S)) : G P ops Q N E md (o :: rest) L S := by
  have hA : ∀ w : World, Acts P N L o w.heap (fun u h' => u = .slice (some ⟨w.heap.size, 0, none⟩) 0 0 ∧ h' = w.heap.push (.cells #[] e)) := by
    intro w0 a w ha hw
    have hs := sizeOf_run (P := P) ok.i hz w
    refine ⟨.slice (some ⟨w0.heap.size, 0, none⟩) 0 0, w.alloc (.cells #[] e), ?_, ⟨rfl, rfl, rfl⟩, rfl, by rw [← hw]; rfl⟩
    unfold execOp
    simp only [ho, Instr.buildSlice]
    rw [← hw]
    simp [run_underlying (ok.u.at ht), hs, Instr.fill, newRow]
    have e0 : Array.map (fun _ => (default : Value)) (Array.range 0) = #[] := Array.eq_empty_of_size_eq_zero (by simp)
    rw [e0]
  refine G_act (R := fun v S' => ∃ A', (∃ A, v = .slice A 0 0 ∧ A' = [.row e sz_ A 0 0 []]) ∧ S' = A' ++ S) hg hd hn hac (fun a w ha hi => act_items (pre := []) .nil ha hi (hA w) ?_) ?_
  · rintro _ _ ⟨rfl, rfl⟩ -
    refine ⟨by simp, fun k hk _ => push_same _ _ _ hk, _, ⟨some ⟨w.heap.size, 0, none⟩, rfl, rfl⟩, ⟨?_, fun _ _ h => h, trivial⟩, fun k hk => ?_⟩
    · have := Own.lit w.heap (base := 0) (e := e) (size := sz_) (n := 0) [] (Nat.zero_le _) (by omega) (by simp)
      exact this
    · have := foot_row hk
      exact .inr (by omega)
  · rintro _ _ ⟨_, ⟨A, rfl, rfl⟩, rfl⟩
    exact kk A
/-- var xs []T is a row of none -/
theorem G_nilrow {e size : Nat} (kk : G P ops Q N E md rest L (.row e size none 0 0 [] :: S)) : G P ops Q N E md rest L S := by
  have key : ∀ w, Inv E (md.all S) w → Inv E (md.all (.row e size none 0 0 [] :: S)) w := by
    intro w hi
    obtain ⟨F, hF⟩ := all_app md
    rw [hF] at hi ⊢
    have h1 : Inv E (F ++ ([.row e size none 0 0 []] ++ S)) w := by
      have h2 : Inv E ([.row e size none 0 0 []] ++ (F ++ S)) w :=
        hi.frame (A := []) (A' := [.row e size none 0 0 []]) (Sim.refl _) (Nat.le_refl _) (fun _ _ _ => rfl) ⟨Own.nil _ _ _ _, fun _ _ h => h, trivial⟩ (fun k hk => by
          rcases hk with ⟨a, ha, _⟩ | hk
          · cases ha
          · exact hk.elim)
      exact h2.mid
    exact h1
  have kk := kk.get
  refine ⟨?_⟩
  cases md with
  | plain => exact fun a w ha hi => kk a w ha (key w hi)
  | drawn F l ms => exact fun h1 h2 h3 a w ha hi => kk h1 h2 h3 a w ha (key w hi)
theorem W_nilrow {c : Code} {e size : Nat} (kk : W P c Q N E L (.row e size none 0 0 [] :: S)) : W P c Q N E L S := by
  refine ⟨fun a w ha hi => ?_⟩
  refine kk.get a w ha ?_
  exact hi.frame (A := []) (A' := [.row e size none 0 0 []]) (Sim.refl _) (Nat.le_refl _) (fun _ _ _ => rfl) ⟨Own.nil _ _ _ _, fun _ _ h => h, trivial⟩ (fun k hk => by
          rcases hk with ⟨a, ha, _⟩ | hk
          · cases ha
          · exact hk.elim)
/-- append(xs, ys...) -/
theorem G_append (ok : TabOK P T) {t e : Nat} {x y : Operand} {sz_ by_ : Nat} {z_ : Value} {n m c c' : Nat} {xs ys : List Value} {A A' : Option Addr} {S1 : List It}
    (ho : o.op = .call { callee := .builtin .append, args := #[x, y], argTypes := #[t, t] }) (ht : und T.u t = some (.slice e)) (hz : inf T.i e = some ⟨sz_, by_, z_⟩) (hzs : Nat.beq z_.cells.size sz_ = true) (hsz : Nat.blt 0 sz_ = true)
    (hx : ev L x = some (.slice A n c)) (hy : ev L y = some (.slice A' m c')) (hs : Split S (.row e sz_ A n c xs) S1) (rd : Rd E (md.all S) sz_ A' m c' ys) (h1 : ∀ u ∈ ys, u.oneCell' = true) (hb : (n + m) * by_ ≤ 140737488355328) (hm : n + m ≤ 9223372036854775807)
    (hg : wantE ops L o = some true) (hd : o.dst = some d_) (hn : Nat.blt d_ N = true) (hac : md.acts = true)
    (kk : ∀ B b, n + m ≤ b → G P ops Q N E md.next rest ((d_, .slice B (n + m) b) :: L) (.row e sz_ B (n + m) b (xs ++ ys) :: S1)) : G P ops Q N E md (o :: rest) L S := by
  have hzs' := Nat.eq_of_beq_eq_true hzs
  have hsz' : 0 < sz_ := by simpa [Nat.blt_eq] using hsz
  refine G_act (R := fun v S' => ∃ A', (∃ B b, n + m ≤ b ∧ v = .slice B (n + m) b ∧ A' = [.row e sz_ B (n + m) b (xs ++ ys)]) ∧ S' = A' ++ S1) hg hd hn hac (fun a w ha hi => ?_) ?_
  · have hrow : Own w.heap 0 e sz_ (.slice A n c) n xs := ((hs.app (Classical.choose (all_app md))).inv ((Classical.choose_spec (all_app md) S) ▸ hi)).sep.1
    refine act_items (pre := [.row e sz_ A n c xs]) (.cons hs .nil) ha hi (A_append ok.u ok.i 0 ho ht hz hzs' hsz' hx hy hrow (rd w hi) h1 hb hm (Nat.zero_le _)) ?_
    rintro v h' ⟨hown, hgrow, hblk⟩ -
    obtain ⟨B, b, rfl, hr⟩ := Own.reads hown
    refine ⟨hgrow.size, fun k hk hf => hgrow.block k hk (fun e => hf (.inl ((ownBlock_slice A n c k).1 e.symm))), _, ⟨B, b, hr.cap, rfl, rfl⟩, ⟨hown, fun _ _ h => h, trivial⟩, fun k hk => ?_⟩
    rcases hk with hk | hk
    · have h2 := (ownBlock_slice B (n + m) b k).2 hk
      rcases hblk with h3 | h3
      · rw [h2] at h3
        exact .inl (.inl ((ownBlock_slice A n c k).1 h3.symm))
      · rw [h2] at h3
        injection h3 with h3
        exact .inr (by omega)
    · exact hk.elim
  · rintro _ _ ⟨_, ⟨B, b, hb, rfl, rfl⟩, rfl⟩
    exact kk B b hb
/-- a store into a variable, or a part of it -/
theorem store_act (ok : TabOK P T) {t p j e : Nat} {x y : Operand} {v : Value} {cs vs : List Value} {sz_ by_ : Nat} {z_ : Value} (ho : o.op = .store t x y) (hz : inf T.i t = some ⟨sz_, by_, z_⟩) (hvs : v.cells = vs.toArray) (hl : vs.length = sz_) (hr : j + vs.length ≤ cs.length) (hx : ev L x = some (.pointer (some ⟨p, j, none⟩))) (hy : ev L y = some v) (hv : ∀ u ∈ vs, u.oneCell' = true)
    {a : Act} {w : World} (ha : Fr N L a) (b : Box w.heap p e cs) {S1 : List It} (hs : Split S (.box p e cs) S1) (hi : Inv E (md.all S) w) :
    Act1 P o a w (fun u w' => ∃ S', (u = undef ∧ S' = .box p e (setVs cs j vs) :: S1) ∧ Inv E (md.all S') w') := by
  have hd : Does P N L w o w.heap (fun u h' => u = undef ∧ h' = storeH w.heap ⟨p, j, none⟩ v.cells.toList) := Does_store ok.i ho hz (by rw [hvs]; simpa using hl) hx hy (by rw [hvs]; exact hv) (fun i hi => by
    have e1 : (⟨p, j, none⟩ : Addr).add i = ⟨p, j + i, none⟩ := by unfold Addr.add; split <;> simp_all
    rw [e1]
    refine ⟨?_, b.froz _⟩
    have hlt : j + i < cs.length := by rw [hvs] at hi; simp at hi; omega
    rw [b.cell (v := cs[j + i]) (by rw [nthV_get]; exact List.getElem?_eq_getElem hlt)]
    rfl)
  intro K Q hK
  refine hd a w K Q ha rfl (Sim.refl _) (fun u w' hsim hR => hK u w' ?_)
  obtain ⟨rfl, hh⟩ := hR
  obtain ⟨F, hF⟩ := all_app md
  have hi2 : Inv E ([.box p e cs] ++ (F ++ S1)) w := (hs.app F).inv (hF S ▸ hi)
  have hst := b.store j vs
  rw [hvs] at hh
  refine ⟨_, ⟨rfl, rfl⟩, ?_⟩
  rw [hF]
  have h3 : Inv E ([.box p e (setVs cs j vs)] ++ (F ++ S1)) w' := hi2.frame hsim (by rw [hh]; exact hst.2.size) (fun k hk hf => by rw [hh]; exact hst.2.block k hk (fun e => hf (.inl (by injection e)))) ⟨by rw [hh]; exact hst.1, fun _ _ h => h, trivial⟩ (fun k hk => .inl hk)
  exact h3.mid
theorem G_st (ok : TabOK P T) {t p j e : Nat} {x y : Operand} {v : Value} {cs vs : List Value} {S1 : List It} {sz_ by_ : Nat} {z_ : Value} (ho : o.op = .store t x y) (hz : inf T.i t = some ⟨sz_, by_, z_⟩) (hx : ev L x = some (.pointer (some ⟨p, j, none⟩))) (hy : ev L y = some v) (hvs : v.cells = vs.toArray) (hs : Split S (.box p e cs) S1) (hl : Nat.beq vs.length sz_ = true) (hr : Nat.ble (Nat.add j vs.length) cs.length = true) (hv : ∀ u ∈ vs, u.oneCell' = true) (hg : wantE ops L o = some true) (hd : o.dst = none) (hac : md.acts = true)
    (kk : G P ops Q N E md.next rest L (.box p e (setVs cs j vs) :: S1)) : G P ops Q N E md (o :: rest) L S :=
  G_act0 hg hd hac (fun a w ha hi => by
    have b : Box w.heap p e cs := ((hs.app (Classical.choose (all_app md))).inv ((Classical.choose_spec (all_app md) S) ▸ hi)).sep.1
    exact store_act ok ho hz hvs (Nat.eq_of_beq_eq_true hl) (Nat.le_of_ble_eq_true hr) hx hy hv ha b hs hi) (fun u S' h => by obtain ⟨_, rfl⟩ := h; exact kk)
theorem G_std (ok : TabOK P T) {t p j e : Nat} {x y : Operand} {v : Value} {cs vs : List Value} {S1 : List It} {sz_ by_ : Nat} {z_ : Value} (ho : o.op = .store t x y) (hz : inf T.i t = some ⟨sz_, by_, z_⟩) (hx : ev L x = some (.pointer (some ⟨p, j, none⟩))) (hy : ev L y = some v) (hvs : v.cells = vs.toArray) (hs : Split S (.box p e cs) S1) (hl : Nat.beq vs.length sz_ = true) (hr : Nat.ble (Nat.add j vs.length) cs.length = true) (hv : ∀ u ∈ vs, u.oneCell' = true) (hg : wantE ops L o = some true) (hd : o.dst = some d_) (hn : Nat.blt d_ N = true) (hac : md.acts = true)
    (kk : G P ops Q N E md.next rest ((d_, undef) :: L) (.box p e (setVs cs j vs) :: S1)) : G P ops Q N E md (o :: rest) L S :=
  G_act hg hd hn hac (fun a w ha hi => by
    have b : Box w.heap p e cs := ((hs.app (Classical.choose (all_app md))).inv ((Classical.choose_spec (all_app md) S) ▸ hi)).sep.1
    exact store_act ok ho hz hvs (Nat.eq_of_beq_eq_true hl) (Nat.le_of_ble_eq_true hr) hx hy hv ha b hs hi) (fun u S' h => by obtain ⟨rfl, rfl⟩ := h; exact kk)
theorem setVs_length : ∀ (vs cs : List Value) (j : Nat), (setVs cs j vs).length = cs.length
  | [], cs, j => rfl
  | v :: r, cs, j => by rw [setVs, setVs_length r]; simp
theorem take_setVs : ∀ (vs cs : List Value) (j m : Nat), (setVs cs j vs).take m = setVs (cs.take m) j vs
  | [], cs, j, m => rfl
  | v :: r, cs, j, m => by rw [setVs, setVs, take_setVs r, List.take_set]
/-- a store into an element, or a part of it -/
theorem storeE_act (ok : TabOK P T) {t e size n c k : Nat} {i : Int} {A : Option Addr} {x y : Operand} {v : Value} {xs vs : List Value} {sz_ by_ : Nat} {z_ : Value} (ho : o.op = .store t x y) (hz : inf T.i t = some ⟨sz_, by_, z_⟩) (hvs : v.cells = vs.toArray) (hl : vs.length = sz_) (hr : k + vs.length ≤ size) (hsz : 0 < size) (h0 : 0 ≤ i) (h1 : i < (n : Int)) (hx : ev L x = some (ep A i size k)) (hy : ev L y = some v) (hv : ∀ u ∈ vs, u.oneCell' = true)
    {a : Act} {w : World} (ha : Fr N L a) {S1 : List It} (hs : Split S (.row e size A n c xs) S1) (hi : Inv E (md.all S) w) :
    Act1 P o a w (fun u w' => ∃ S', (u = undef ∧ S' = .row e size A n c (setVs xs (i.toNat * size + k) vs) :: S1) ∧ Inv E (md.all S') w') := by
  obtain ⟨F, hF⟩ := all_app md
  have hi2 : Inv E ([.row e size A n c xs] ++ (F ++ S1)) w := (hs.app F).inv (hF S ▸ hi)
  have hown : Own w.heap 0 e size (.slice A n c) n xs := hi2.sep.1
  rcases hown.2 with ⟨h2, h3⟩ | ⟨g, cap, cur, h2, _, hg, h4, h5, h6, h7⟩
  · omega
  injection h2 with hA hn' hc
  subst hA hc
  have hin : i.toNat * size + k + vs.length ≤ n * size := by
    have : (i.toNat + 1) * size ≤ n * size := Nat.mul_le_mul_right _ (by omega)
    rw [Nat.succ_mul] at this
    omega
  have hcap : n * size ≤ c * size := Nat.mul_le_mul_right _ h4
  have b : Box w.heap g e cur.toList := by unfold Box; simpa using hg
  have hep : ep (some ⟨g, 0, none⟩) i size k = .pointer (some ⟨g, i.toNat * size + k, none⟩) := by rw [ep_some, addr0]
  have hd : Does P N L w o w.heap (fun u h' => u = undef ∧ h' = storeH w.heap ⟨g, i.toNat * size + k, none⟩ v.cells.toList) := Does_store ok.i ho hz (by rw [hvs]; simpa using hl) (hep ▸ hx) hy (by rw [hvs]; exact hv) (fun q hq => by
    have e1 : (⟨g, i.toNat * size + k, none⟩ : Addr).add q = ⟨g, i.toNat * size + k + q, none⟩ := by unfold Addr.add; split <;> simp_all
    rw [e1]
    refine ⟨?_, b.froz _⟩
    have hlt : i.toNat * size + k + q < cur.toList.length := by rw [hvs] at hq; simp at hq; simp; omega
    rw [b.cell (v := cur.toList[i.toNat * size + k + q]) (by rw [nthV_get]; exact List.getElem?_eq_getElem hlt)]
    rfl)
  intro K Q hK
  refine hd a w K Q ha rfl (Sim.refl _) (fun u w' hsim hR => hK u w' ?_)
  obtain ⟨rfl, hh⟩ := hR
  have hst := b.store (i.toNat * size + k) vs
  rw [hvs] at hh
  refine ⟨_, ⟨rfl, rfl⟩, ?_⟩
  rw [hF]
  have hown' : Own w'.heap 0 e size (.slice (some ⟨g, 0, none⟩) n c) n (setVs xs (i.toNat * size + k) vs) := by
    refine ⟨by rw [setVs_length]; exact hown.1, .inr ⟨g, c, (setVs cur.toList (i.toNat * size + k) vs).toArray, rfl, Nat.zero_le _, by rw [hh]; exact hst.1, h4, h5, by simp [setVs_length, h6], ?_⟩⟩
    rw [List.toList_toArray, take_setVs, h7]
  have h3 : Inv E ([.row e size (some ⟨g, 0, none⟩) n c (setVs xs (i.toNat * size + k) vs)] ++ (F ++ S1)) w' := hi2.frame hsim (by rw [hh]; exact hst.2.size) (fun q hq hf => by rw [hh]; exact hst.2.block q hq (fun e => hf (.inl ⟨_, rfl, by injection e with e; exact e.symm⟩))) ⟨hown', fun _ _ h => h, trivial⟩ (fun q hq => .inl hq)
  exact h3.mid
theorem G_ste (ok : TabOK P T) {t e size n c k : Nat} {i : Int} {A : Option Addr} {x y : Operand} {v : Value} {xs xs' vs : List Value} {S1 : List It} {sz_ by_ : Nat} {z_ : Value} (ho : o.op = .store t x y) (hz : inf T.i t = some ⟨sz_, by_, z_⟩) (hx : ev L x = some (ep A i size k)) (hy : ev L y = some v) (hvs : v.cells = vs.toArray) (hs : Split S (.row e size A n c xs) S1) (hl : Nat.beq vs.length sz_ = true) (hr : Nat.ble (Nat.add k vs.length) size = true) (hsz : Nat.blt 0 size = true) (h1 : i < (n : Int)) (h0 : 0 ≤ i) (hv : ∀ u ∈ vs, u.oneCell' = true) (hxs : setVs xs (i.toNat * size + k) vs = xs') (hg : wantE ops L o = some true) (hd : o.dst = none) (hac : md.acts = true)
    (kk : G P ops Q N E md.next rest L (.row e size A n c xs' :: S1)) : G P ops Q N E md (o :: rest) L S :=
  G_act0 hg hd hac (fun a w ha hi => storeE_act ok ho hz hvs (Nat.eq_of_beq_eq_true hl) (Nat.le_of_ble_eq_true hr) (by simpa [Nat.blt_eq] using hsz) h0 h1 hx hy hv ha hs hi) (fun u S' h => by obtain ⟨_, rfl⟩ := h; rw [hxs]; exact kk)
theorem G_sted (ok : TabOK P T) {t e size n c k : Nat} {i : Int} {A : Option Addr} {x y : Operand} {v : Value} {xs xs' vs : List Value} {S1 : List It} {sz_ by_ : Nat} {z_ : Value} (ho : o.op = .store t x y) (hz : inf T.i t = some ⟨sz_, by_, z_⟩) (hx : ev L x = some (ep A i size k)) (hy : ev L y = some v) (hvs : v.cells = vs.toArray) (hs : Split S (.row e size A n c xs) S1) (hl : Nat.beq vs.length sz_ = true) (hr : Nat.ble (Nat.add k vs.length) size = true) (hsz : Nat.blt 0 size = true) (h1 : i < (n : Int)) (h0 : 0 ≤ i) (hv : ∀ u ∈ vs, u.oneCell' = true) (hxs : setVs xs (i.toNat * size + k) vs = xs') (hg : wantE ops L o = some true) (hd : o.dst = some d_) (hn : Nat.blt d_ N = true) (hac : md.acts = true)
    (kk : G P ops Q N E md.next rest ((d_, undef) :: L) (.row e size A n c xs' :: S1)) : G P ops Q N E md (o :: rest) L S :=
  G_act hg hd hn hac (fun a w ha hi => storeE_act ok ho hz hvs (Nat.eq_of_beq_eq_true hl) (Nat.le_of_ble_eq_true hr) (by simpa [Nat.blt_eq] using hsz) h0 h1 hx hy hv ha hs hi) (fun u S' h => by obtain ⟨rfl, rfl⟩ := h; rw [hxs]; exact kk)
theorem setE_map {α : Type} {f : α → Value} {l : List α} {i : Nat} {y : α} : setVs (l.map f) (i * 1 + 0) [f y] = (l.set i y).map f := by
  simp [setVs]
theorem setVs_app (a b : List Value) : ∀ (vs : List Value) (j : Nat), setVs (a ++ b) (a.length + j) vs = a ++ setVs b j vs
  | [], j => rfl
  | v :: r, j => by
    rw [setVs, setVs, List.set_append_right _ _ (by omega), Nat.add_sub_cancel_left, Nat.add_assoc]
    have h := setVs_app a (b.set j v) r (j + 1)
    have e : (b.set j v).length = b.length := by simp
    exact h
theorem setVs_left (a b : List Value) : ∀ (vs : List Value) (j : Nat), j + vs.length ≤ a.length → setVs (a ++ b) j vs = setVs a j vs ++ b := by
  intro vs
  induction vs generalizing a with
  | nil => intro j _; rfl
  | cons v r ih =>
    intro j h
    simp only [List.length_cons] at h
    rw [setVs, setVs, List.set_append_left _ _ (by omega), ih _ _ (by simp; omega)]
theorem setE_flat {α : Type} {f : α → List Value} {size : Nat} (hf : ∀ x, (f x).length = size) {vs : List Value} {k : Nat} (hk : k + vs.length ≤ size) : ∀ {l : List α} {i : Nat} {x y : α}, l[i]? = some x → setVs (f x) k vs = f y → setVs (l.flatMap f) (i * size + k) vs = (l.set i y).flatMap f
  | [], i, x, y, h, _ => by simp at h
  | z :: l, 0, x, y, h, hy => by
    simp only [List.length_cons, Nat.zero_lt_succ, List.getElem?_eq_getElem, List.getElem_cons_zero, Option.some.injEq] at h
    subst h
    rw [List.flatMap_cons, List.set_cons_zero, List.flatMap_cons, ← hy, Nat.zero_mul, Nat.zero_add]
    exact setVs_left _ _ _ _ (by rw [hf]; exact hk)
  | z :: l, i + 1, x, y, h, hy => by
    have := setE_flat hf hk (l := l) (i := i) (x := x) (y := y) (by simpa using h) hy
    rw [List.flatMap_cons, List.set_cons_succ, List.flatMap_cons, ← this, Nat.succ_mul]
    have e := setVs_app (f z) (l.flatMap f) vs (i * size + k)
    rw [hf] at e
    rw [← e]
    congr 1
    omega

/-! slices cut -/
def cutA (A : Option Addr) (c size : Nat) (a : Int) : Option Addr := if c = a.toNat then A else A.map (·.add (a.toNat * size))
theorem G_slice (ok : TabOK P T) {t e : Nat} {x : Operand} {lo hi : Option Operand} {sz_ by_ : Nat} {z_ : Value} {A : Option Addr} {n c : Nat} (a b : Int) (ho : o.op = .slice t x lo hi none) (ht : und T.u t = some (.slice e)) (hz : inf T.i e = some ⟨sz_, by_, z_⟩) (hx : ev L x = some (.slice A n c))
    (hlo : (match lo with | none => a = 0 | some l => ev L l = some (.int .i64 a))) (hhi : (match hi with | none => b = (n : Int) | some l => ev L l = some (.int .i64 b)))
    (h0 : 0 ≤ a) (h1 : a ≤ b) (h2 : b ≤ (c : Int)) (hg : wantE ops L o = some true) (hd : o.dst = some d_) (hn : Nat.blt d_ N = true)
    (kk : G P ops Q N E md.next rest ((d_, .slice (cutA A c sz_ a) (b.toNat - a.toNat) (c - a.toNat)) :: L) S) : G P ops Q N E md (o :: rest) L S := by
  refine G_y hg hd hn (fun w _ => Y_slice ok.u ok.i a.toNat b.toNat ho ht hz hx ?_ ?_ (by omega) (by omega)) kk
  · cases lo with
    | none => simp only at hlo ⊢; omega
    | some l => simp only at hlo ⊢; rw [hlo, Int.toNat_of_nonneg h0]
  · cases hi with
    | none => simp only at hhi ⊢; omega
    | some l => simp only at hhi ⊢; rw [hhi, Int.toNat_of_nonneg (by omega)]
/-- xs[:b] -/
theorem G_sliceTo (ok : TabOK P T) {t e : Nat} {x l : Operand} {sz_ by_ : Nat} {z_ : Value} {A : Option Addr} {n c : Nat} {b : Int} (ho : o.op = .slice t x none (some l) none) (ht : und T.u t = some (.slice e)) (hz : inf T.i e = some ⟨sz_, by_, z_⟩) (hx : ev L x = some (.slice A n c))
    (hhi : ev L l = some (.int .i64 b)) (h1 : 0 ≤ b) (h2 : b ≤ (c : Int)) (hg : wantE ops L o = some true) (hd : o.dst = some d_) (hn : Nat.blt d_ N = true)
    (kk : G P ops Q N E md.next rest ((d_, .slice A b.toNat c) :: L) S) : G P ops Q N E md (o :: rest) L S := by
  refine G_slice ok 0 b ho ht hz hx rfl hhi (Int.le_refl _) h1 h2 hg hd hn ?_
  have e : cutA A c sz_ 0 = A := by
    unfold cutA
    cases A <;> simp [Addr.add]
  rw [e]
  exact kk
theorem G_bytesStr (ok : TabOK P T) {src dst e : Nat} {x : Operand} {A : Option Addr} {n c : Nat} {xs : List Int} (ho : o.op = .convert src dst x) (hs : und T.u src = some (.slice e)) (he : und T.u e = some (.int .u8)) (hds : und T.u dst = some .string) (hx : ev L x = some (.slice A n c)) (rd : Rd E (md.src S) 1 A n c (xs.map (Value.int .u8))) (hg : wantE ops L o = some true) (hd : o.dst = some d_) (hn : Nat.blt d_ N = true)
    (kk : G P ops Q N E md.next rest ((d_, .string (strOfNums xs)) :: L) S) : G P ops Q N E md (o :: rest) L S := G_y hg hd hn (fun w hi => Y_bytesStr ok.u xs ho hs he hds hx (rd w hi)) kk
theorem G_build {t : Nat} {ps : Array (Nat × Operand)} {vs : List (Nat × Value)} (cs : List Value) (ho : o.op = .build t ps) (hp : evp L ps.toList = some vs) (hb : P.built t vs = some cs.toArray) (hg : wantE ops L o = some true) (hd : o.dst = some d_) (hn : Nat.blt d_ N = true)
    (kk : G P ops Q N E md.next rest ((d_, .agg cs.toArray) :: L) S) : G P ops Q N E md (o :: rest) L S := G_y hg hd hn (fun w _ => Y_build cs ho hp hb) kk
def offE (T : Tab) (t j : Nat) : Option Nat := match und T.u t with
  | some (.array _ e) => match inf T.i e with | some ⟨sz, _, _⟩ => some (Nat.mul j sz) | none => none
  | _ => match fld T.f t j with | some (off, _) => some off | none => none
def fillE (T : Tab) (t : Nat) : List (Nat × Value) → List Value → Option (List Value)
  | [], cs => spine cs some
  | (j, v) :: r, cs => match offE T t j with
    | some off => fillE T t r (setVs cs off v.cells.toList)
    | none => none
def buildE (T : Tab) (t : Nat) (vs : List (Nat × Value)) : Option (List Value) := match inf T.i t with
  | some ⟨_, _, z⟩ => fillE T t vs z.cells.toList
  | none => none
theorem G_buildA {t : Nat} {ps : Array (Nat × Operand)} {vs : List (Nat × Value)} {cs : List Value} (ho : o.op = .build t ps) (hp : evp L ps.toList = some vs) (hc : buildE T t vs = some cs) (hb : P.built t vs = some cs.toArray) (hg : wantE ops L o = some true) (hd : o.dst = some d_) (hn : Nat.blt d_ N = true)
    (kk : G P ops Q N E md.next rest ((d_, .agg cs.toArray) :: L) S) : G P ops Q N E md (o :: rest) L S := G_build cs ho hp hb hg hd hn kk
theorem G_cmp (ok : TabOK P T) {t t2 : Nat} {x y : Operand} {a b : Value} {d : TypeDesc} {r : Bool} (ho : o.op = .binOp .eql t x y t2) (ht : und T.u t = some d) (hx : ev L x = some a) (hy : ev L y = some b) (hc : litOK x y a b = true) (hr : cmpV d a b = some r) (hg : wantE ops L o = some true) (hd : o.dst = some d_) (hn : Nat.blt d_ N = true)
    (kk : G P ops Q N E md.next rest ((d_, .bool r) :: L) S) : G P ops Q N E md (o :: rest) L S := G_y hg hd hn (fun w _ => Y_cmp ok.u r ho ht hx hy hc hr) kk
theorem G_cmpN (ok : TabOK P T) {t t2 : Nat} {x y : Operand} {a b : Value} {d : TypeDesc} {r : Bool} (ho : o.op = .binOp .neq t x y t2) (ht : und T.u t = some d) (hx : ev L x = some a) (hy : ev L y = some b) (hc : litOK x y a b = true) (hr : cmpV d a b = some r) (hg : wantE ops L o = some true) (hd : o.dst = some d_) (hn : Nat.blt d_ N = true)
    (kk : G P ops Q N E md.next rest ((d_, .bool (!r)) :: L) S) : G P ops Q N E md (o :: rest) L S := G_y hg hd hn (fun w _ => Y_cmpN ok.u r ho ht hx hy hc hr) kk
/-- the same, what lies there afterwards told -/
theorem G_stA (ok : TabOK P T) {t p j e : Nat} {x y : Operand} {v : Value} {cs cs' vs : List Value} {S1 : List It} {sz_ by_ : Nat} {z_ : Value} (ho : o.op = .store t x y) (hz : inf T.i t = some ⟨sz_, by_, z_⟩) (hx : ev L x = some (.pointer (some ⟨p, j, none⟩))) (hy : ev L y = some v) (hvs : v.cells = vs.toArray) (hs : Split S (.box p e cs) S1) (hxs : setVs cs j vs = cs' ∧ vs.length = sz_ ∧ j + vs.length ≤ cs.length) (hv : ∀ u ∈ vs, u.oneCell' = true) (hg : wantE ops L o = some true) (hd : o.dst = none) (hac : md.acts = true)
    (kk : G P ops Q N E md.next rest L (.box p e cs' :: S1)) : G P ops Q N E md (o :: rest) L S :=
  G_act0 hg hd hac (fun a w ha hi => by
    have b : Box w.heap p e cs := ((hs.app (Classical.choose (all_app md))).inv ((Classical.choose_spec (all_app md) S) ▸ hi)).sep.1
    exact store_act ok ho hz hvs hxs.2.1 hxs.2.2 hx hy hv ha b hs hi) (fun u S' h => by obtain ⟨_, rfl⟩ := h; rw [hxs.1]; exact kk)
theorem setVs_all : ∀ (vs a b : List Value), vs.length = b.length → setVs (a ++ b) a.length vs = a ++ vs
  | [], a, b, h => by
    have : b = [] := List.eq_nil_of_length_eq_zero h.symm
    subst this; rfl
  | v :: r, a, b, h => by
    cases b with
    | nil => simp at h
    | cons x b =>
      rw [setVs, List.set_append_right _ _ (Nat.le_refl _), Nat.sub_self, List.set_cons_zero]
      have := setVs_all r (a ++ [v]) b (by simpa using h)
      rw [List.length_append, List.length_singleton] at this
      rw [show a ++ v :: b = a ++ [v] ++ b by simp, this]
      simp
theorem setVs_whole {vs cs : List Value} (h : vs.length = cs.length) : setVs cs 0 vs = vs := by simpa using setVs_all vs [] cs h
theorem setVs_one (cs : List Value) (j : Nat) (v : Value) : setVs cs j [v] = cs.set j v := rfl
end
end Go.Proofs.Ytdkigndgdkaoiaa.X
