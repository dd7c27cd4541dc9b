/- Slices: made, grown, cut, read; structs put together and taken apart. -/
import Derived.Test.YtdkigndgdkaoiaaBd
import Derived.Great.BuildSlice
import Derived.Laws.BytesArg
import Derived.Laws.MakeOwn
import Derived.Deep.Upon
namespace Go.Proofs.Ytdkigndgdkaoiaa.B
set_option linter.unusedVariables false
set_option linter.unusedSimpArgs false
open Go

/-- a row of the call's own: what stands in it, up to its length -/
def Own (h : Heap) (base e size : Nat) (v : Value) (n : Nat) (xs : List Value) : Prop :=
  xs.length = n * size ∧
  ((v = .slice none 0 0 ∧ n = 0) ∨
   ∃ g cap cur, v = .slice (some ⟨g, 0, none⟩) n cap ∧ base ≤ g ∧ h[g]? = some (.cells cur e (0, 0)) ∧ n ≤ cap ∧ cap ≤ maxLen ∧ cur.size = cap * size ∧ cur.toList.take (n * size) = xs)
theorem Own_iff (w : World) (base e size : Nat) (v : Value) (n : Nat) (xs : List Value) : w.ownsRow base e size v n xs ↔ Own w.heap base e size v n xs := Iff.rfl
/-- the heap has grown; of what was there, block 'row' alone may have turned -/
structure Grow (row : Option Nat) (h h' : Heap) : Prop where
  size : h.size ≤ h'.size
  block : ∀ k, k < h.size → some k ≠ row → h'[k]? = h[k]?
/-- what lies below B is as it was -/
structure Ext (B : Nat) (h h' : Heap) : Prop where
  size : h.size ≤ h'.size
  block : ∀ k, k < B → h'[k]? = h[k]?
theorem Ext.refl (B : Nat) (h : Heap) : Ext B h h := ⟨Nat.le_refl _, fun _ _ => rfl⟩
theorem Ext.trans {B : Nat} {a b c : Heap} (x : Ext B a b) (y : Ext B b c) : Ext B a c := ⟨Nat.le_trans x.size y.size, fun k hk => (y.block k hk).trans (x.block k hk)⟩
theorem Ext.mono {B C : Nat} {a b : Heap} (x : Ext B a b) (hc : C ≤ B) : Ext C a b := ⟨x.size, fun k hk => x.block k (by omega)⟩
theorem Ext.push {B : Nat} {a b : Heap} (x : Ext B a b) (hb : B ≤ b.size) (o : Obj) : Ext B a (b.push o) :=
  ⟨by have := x.size; simp; omega, fun k hk => by rw [Array.getElem?_push, if_neg (by omega)]; exact x.block k hk⟩
theorem Ext.grow {B : Nat} {a b c : Heap} (x : Ext B a b) (hb : B ≤ b.size) {row : Option Nat} (y : Grow row b c) (hr : ∀ k, row = some k → B ≤ k) : Ext B a c :=
  ⟨Nat.le_trans x.size y.size, fun k hk => (y.block k (by omega) (fun e => by have := hr k e.symm; omega)).trans (x.block k hk)⟩
theorem Ext.set {B : Nat} {a b : Heap} (x : Ext B a b) {p : Addr} (hp : B ≤ p.block) (v : Value) : Ext B a (setH b p v) :=
  ⟨by have := x.size; simp [setH]; omega, fun k hk => by
    rw [← x.block k hk]
    simp only [setH, Array.getElem?_modify]
    rw [if_neg (by omega)]⟩
theorem Ext.all {B : Nat} {a b : Heap} (x : Ext a.size a b) (hB : B ≤ a.size) : Ext B a b := x.mono hB
theorem Grow.refl (row : Option Nat) (h : Heap) : Grow row h h := ⟨Nat.le_refl _, fun _ _ _ => rfl⟩
theorem Grow.trans {row : Option Nat} {a b c : Heap} (x : Grow row a b) (y : Grow row b c) : Grow row a c :=
  ⟨Nat.le_trans x.size y.size, fun k hk hr => (y.block k (Nat.lt_of_lt_of_le hk x.size) hr).trans (x.block k hk hr)⟩
theorem Grow.push {row : Option Nat} {a b : Heap} (x : Grow row a b) (o : Obj) : Grow row a (b.push o) :=
  ⟨by have := x.size; simp; omega, fun k hk hr => by have := x.size; rw [Array.getElem?_push, if_neg (by omega)]; exact x.block k hk hr⟩
theorem Grow.of_ext {row : Option Nat} {a b : Heap} (x : Ext a.size a b) : Grow row a b := ⟨x.size, fun k hk _ => x.block k hk⟩
/-- the row that is written may have moved to a block that is new -/
theorem Grow.then {row row' : Option Nat} {a b c : Heap} (x : Grow row a b) (y : Grow row' b c) (hr : row' = row ∨ ∃ k, row' = some k ∧ a.size ≤ k) : Grow row a c :=
  ⟨Nat.le_trans x.size y.size, fun k hk hne => (y.block k (Nat.lt_of_lt_of_le hk x.size) (by
    rcases hr with rfl | ⟨j, rfl, hj⟩
    · exact hne
    · intro e; injection e with e; omega)).trans (x.block k hk hne)⟩

theorem cellH_ext {B : Nat} {a b : Heap} (x : Ext B a b) {p : Addr} (hp : p.block < B) : cellH b p = cellH a p := by simp only [cellH, x.block _ hp]
theorem cellH_lt {h : Heap} {p : Addr} {v : Value} (hc : cellH h p = some v) : p.block < h.size := by
  unfold cellH at hc
  rcases Nat.lt_or_ge p.block h.size with k | k
  · exact k
  · simp [Array.getElem?_eq_none k] at hc
theorem cellH_grow {row : Option Nat} {a b : Heap} (x : Grow row a b) {p : Addr} {v : Value} (hp : some p.block ≠ row) (hc : cellH a p = some v) : cellH b p = some v := by
  have := x.block p.block (cellH_lt hc) hp
  simpa only [cellH, this] using hc

theorem Own.nil (h : Heap) (base e size : Nat) : Own h base e size (.slice none 0 0) 0 [] := ⟨by simp, .inl ⟨rfl, rfl⟩⟩
theorem Own.base_le {h : Heap} {base e size n : Nat} {v : Value} {xs : List Value} (o : Own h base e size v n xs) : ∀ k, v.ownBlock = some k → base ≤ k ∧ k < h.size := by
  intro k hk
  rcases o.2 with ⟨rfl, _⟩ | ⟨g, cap, cur, rfl, hb, hg, _⟩
  · simp [Value.ownBlock] at hk
  · have : g = k := by simpa [Value.ownBlock] using hk
    subst this
    exact ⟨hb, (Array.getElem?_eq_some_iff.1 hg).1⟩
theorem Own.grow {a b : Heap} {base e size n : Nat} {v : Value} {xs : List Value} (o : Own a base e size v n xs) {row : Option Nat} (x : Grow row a b) (hr : ∀ k, v.ownBlock = some k → some k ≠ row) : Own b base e size v n xs := by
  refine ⟨o.1, ?_⟩
  rcases o.2 with h1 | ⟨g, cap, cur, rfl, hb, hg, h2⟩
  · exact .inl h1
  · exact .inr ⟨g, cap, cur, rfl, hb, (x.block g (Array.getElem?_eq_some_iff.1 hg).1 (hr g rfl)).trans hg, h2⟩
theorem Own.push {a : Heap} {base e size n : Nat} {v : Value} {xs : List Value} (o : Own a base e size v n xs) (ob : Obj) : Own (a.push ob) base e size v n xs :=
  o.grow ((Grow.refl none a).push ob) (fun _ _ => by simp)
theorem Own.ext {a b : Heap} {base e size n : Nat} {v : Value} {xs : List Value} (o : Own a base e size v n xs) (x : Ext a.size a b) : Own b base e size v n xs :=
  o.grow (Grow.of_ext (row := none) x) (fun _ _ => by simp)
theorem Own.lower {a : Heap} {base base' e size n : Nat} {v : Value} {xs : List Value} (o : Own a base e size v n xs) (hb : base' ≤ base) : Own a base' e size v n xs := by
  refine ⟨o.1, ?_⟩
  rcases o.2 with h1 | ⟨g, cap, cur, h0, h1, h2⟩
  · exact .inl h1
  · exact .inr ⟨g, cap, cur, h0, by omega, h2⟩
theorem Own.made (h : Heap) {base e size : Nat} (cur : Array Value) (cap : Nat) (hb : base ≤ h.size) (hm : cap ≤ 9223372036854775807) (hs : cur.size = cap * size) : Own (h.push (.cells cur e)) base e size (.slice (some ⟨h.size, 0, none⟩) 0 cap) 0 [] := by
  have : maxLen = 9223372036854775807 := by decide
  exact ⟨by simp, .inr ⟨h.size, cap, cur, rfl, hb, by simp, Nat.zero_le _, by omega, hs, by simp⟩⟩
theorem Own.lit (h : Heap) {base e size n : Nat} (cs : List Value) (hb : base ≤ h.size) (hm : n ≤ 9223372036854775807) (hs : cs.length = n * size) : Own (h.push (.cells cs.toArray e)) base e size (.slice (some ⟨h.size, 0, none⟩) n n) n cs := by
  have : maxLen = 9223372036854775807 := by decide
  exact ⟨hs, .inr ⟨h.size, n, cs.toArray, rfl, hb, by simp, Nat.le_refl _, by omega, by simpa using hs, by rw [← hs]; simp⟩⟩
/-- as a slice that is read -/
structure Reads (h : Heap) (size : Nat) (A : Option Addr) (n c : Nat) (xs : List Value) : Prop where
  len : xs.length = n * size
  cap : n ≤ c
  max : n ≤ 9223372036854775807
  cell : 0 < n * size → ∃ ad, A = some ad ∧ cellsH h ad xs
theorem Own.reads {h : Heap} {base e size n : Nat} {v : Value} {xs : List Value} (o : Own h base e size v n xs) : ∃ A c, v = .slice A n c ∧ Reads h size A n c xs := by
  rcases o.2 with ⟨rfl, rfl⟩ | ⟨g, cap, cur, rfl, hb, hg, h1, h2, h3, h4⟩
  · exact ⟨none, 0, rfl, o.1, Nat.le_refl _, by omega, fun hp => by simp at hp⟩
  · refine ⟨_, cap, rfl, o.1, h1, by have : maxLen = 9223372036854775807 := by decide
                                     omega, fun hp => ⟨_, rfl, fun j u hu => ?_⟩⟩
    have hj : j < n * size := by have := (List.getElem?_eq_some_iff.1 hu).1; rw [o.1] at this; exact this
    rw [← h4, List.getElem?_take_of_lt hj] at hu
    have e1 : (⟨g, 0, none⟩ : Addr).add j = ⟨g, j, none⟩ := by unfold Addr.add; split <;> simp_all
    simp only [e1, cellH, hg]
    simpa using hu
theorem Reads.ext {B : Nat} {a b : Heap} {size n c : Nat} {A : Option Addr} {xs : List Value} (r : Reads a size A n c xs) (x : Ext B a b) (hB : a.size ≤ B) : Reads b size A n c xs :=
  ⟨r.len, r.cap, r.max, fun hp => by
    obtain ⟨ad, e, hc⟩ := r.cell hp
    refine ⟨ad, e, fun j u hu => ?_⟩
    have h1 := hc j u hu
    rw [cellH_ext x (by have := cellH_lt h1; omega)]; exact h1⟩
theorem Reads.ext' {a b : Heap} {size n c : Nat} {A : Option Addr} {xs : List Value} (r : Reads a size A n c xs) (x : Ext a.size a b) : Reads b size A n c xs := r.ext x (Nat.le_refl _)
theorem Reads.push {a : Heap} {size n c : Nat} {A : Option Addr} {xs : List Value} (r : Reads a size A n c xs) (o : Obj) : Reads (a.push o) size A n c xs := r.ext' ((Ext.refl _ _).push (Nat.le_refl _) o)
theorem Reads.nil (h : Heap) (size : Nat) : Reads h size none 0 0 [] := ⟨by simp, Nat.le_refl _, by omega, fun hp => by simp at hp⟩
/-- one cell of a slice of one-cell elements -/
theorem Reads.at1 {h : Heap} {n c : Nat} {A : Option Addr} {xs : List Value} (r : Reads h 1 A n c xs) {i : Int} (h0 : 0 ≤ i) (h1 : i < (n : Int)) {v : Value} (hv : xs[i.toNat]? = some v) : ∃ ad, A = some ad ∧ cellH h (ad.add (i.toNat * 1)) = some v := by
  obtain ⟨ad, e, hc⟩ := r.cell (by omega)
  exact ⟨ad, e, by rw [Nat.mul_one]; exact hc _ _ hv⟩
theorem add_add (a : Addr) (i j : Nat) : (a.add i).add j = a.add (i + j) := by
  unfold Addr.add
  by_cases h1 : i = 0 <;> by_cases h2 : j = 0 <;> simp [h1, h2, Nat.add_assoc]
/-- the cells of an element -/
theorem Reads.at {h : Heap} {size n c : Nat} {A : Option Addr} {xs : List Value} (r : Reads h size A n c xs) {i : Int} (h0 : 0 ≤ i) (h1 : i < (n : Int)) (hs : 0 < size) (vs : List Value) (hv : (xs.drop (i.toNat * size)).take size = vs) : ∃ ad, A = some ad ∧ cellsH h (ad.add (i.toNat * size)) vs := by
  have hn : 0 < n := by omega
  obtain ⟨ad, e, hc⟩ := r.cell (Nat.mul_pos hn hs)
  refine ⟨ad, e, fun j u hu => ?_⟩
  subst hv
  have hj : j < size := by
    have := (List.getElem?_eq_some_iff.1 hu).1
    simp at this; omega
  rw [List.getElem?_take_of_lt hj, List.getElem?_drop] at hu
  rw [add_add]
  exact hc _ _ hu
theorem Reads.drop {h : Heap} {size n c : Nat} {A : Option Addr} {xs : List Value} (r : Reads h size A n c xs) (i : Nat) (hi : i ≤ n) : Reads h size (if c = i then A else A.map (·.add (i * size))) (n - i) (c - i) (xs.drop (i * size)) := by
  have hcap := r.cap
  have hm := r.max
  refine ⟨by rw [List.length_drop, r.len, Nat.sub_mul], by omega, by omega, fun hp => ?_⟩
  have hn : 0 < n - i := by
    rcases Nat.eq_zero_or_pos (n - i) with e | e
    · rw [e] at hp; simp at hp
    · exact e
  have hs : 0 < size := by
    rcases Nat.eq_zero_or_pos size with e | e
    · rw [e] at hp; simp at hp
    · exact e
  obtain ⟨ad, e, hc⟩ := r.cell (Nat.mul_pos (by omega) hs)
  subst e
  rw [if_neg (by omega)]
  refine ⟨_, rfl, fun j u hu => ?_⟩
  rw [add_add]
  rw [List.getElem?_drop] at hu
  exact hc _ _ hu
theorem Reads.take {h : Heap} {size n c : Nat} {A : Option Addr} {xs : List Value} (r : Reads h size A n c xs) (i : Nat) (hi : i ≤ n) : Reads h size A i c (xs.take (i * size)) := by
  have hcap := r.cap
  have hm := r.max
  refine ⟨by rw [List.length_take, r.len]; exact Nat.min_eq_left (Nat.mul_le_mul_right _ hi), by omega, by omega, fun hp => ?_⟩
  obtain ⟨ad, e, hc⟩ := r.cell (Nat.lt_of_lt_of_le hp (Nat.mul_le_mul_right _ hi))
  refine ⟨ad, e, fun j u hu => hc j u ?_⟩
  rw [List.getElem?_take] at hu
  split at hu
  · exact hu
  · cases hu

section
variable {P : Program} {U : UT} {I : IT} {F : FT} {G : GT} {Q : Exit → Act → World → Prop} {N : Nat} {L : Slots} {s : World} {h : Heap} {ops : Array Oper} {rest : List Oper} {m : Bool} {o : Oper} {d_ : Nat}

/-- append(v, ys...): v a row of the call's own, ys whatever can be read -/
theorem WL_append (hU : AllU P U) (hI : AllI P I) {t e : Nat} {x y : Operand} {sz_ by_ : Nat} {z_ : Value} {v : Value} {n : Nat} {xs ys : List Value} {A : Option Addr} {k c : Nat} (base : Nat)
    (ho : o.op = .call { callee := .builtin .append, args := #[x, y], argTypes := #[t, t] }) (ht : und U t = some (.slice e)) (hz : inf I e = some ⟨sz_, by_, z_⟩) (hzs : z_.cells.size = sz_) (hsz : 0 < sz_)
    (hx : ev L x = some v) (hy : ev L y = some (.slice A k c)) (hg : o.guard = none) (hd : o.dst = some d_) (hn : Nat.blt d_ N = true)
    (own : Own h base e sz_ v n xs) (rd : Reads h sz_ A k c ys) (h1 : ∀ u ∈ ys, u.oneCell' = true) (hb : (n + k) * by_ ≤ 140737488355328) (hm : n + k ≤ 9223372036854775807) (hbase : base ≤ h.size)
    (kk : ∀ v' h', Own h' base e sz_ v' (n + k) (xs ++ ys) → Grow v.ownBlock h h' → (v'.ownBlock = v.ownBlock ∨ v'.ownBlock = some h.size) → WL P false ops rest Q N ((d_, v') :: L) s h') :
    WL P false ops (o :: rest) Q N L s h := by
  refine WL_act (R := fun v' h' => Own h' base e sz_ v' (n + k) (xs ++ ys) ∧ Grow v.ownBlock h h' ∧ (v'.ownBlock = v.ownBlock ∨ v'.ownBlock = some h.size)) hg hd hn (fun a w ha hw => ?_) (fun v' h' hv => kk v' h' hv.1 hv.2.1 hv.2.2)
  obtain ⟨i, hi1, hi2, hi3, hi4⟩ := hI.at hz
  dsimp only at hi2 hi3 hi4
  have hmax : n + k ≤ maxLen := by have : maxLen = 9223372036854775807 := by decide
                                   omega
  have hrun : ∃ v' w', (Builtin.append_ #[t, t] o.type #[v, .slice A k c]).run P w = .ok v' w' ∧ Sim w w' ∧ Own w'.heap base e sz_ v' (n + k) (xs ++ ys) ∧ Grow v.ownBlock h w'.heap ∧ (v'.ownBlock = v.ownBlock ∨ v'.ownBlock = some h.size) := by
    rcases Nat.eq_zero_or_pos k with hk | hk
    · subst hk
      have : ys = [] := List.eq_nil_of_length_eq_zero (by rw [rd.len]; simp)
      subst this
      have hown := own
      rcases own.2 with ⟨rfl, rfl⟩ | ⟨g, cap, cur, rfl, hb1, hb2, hb3, hb4, _⟩
      · refine ⟨.slice none 0 0, w, ?_, Sim.refl _, by rw [hw]; simpa using hown, by rw [hw]; exact Grow.refl _ _, .inl rfl⟩
        cases A <;> simp [Builtin.append_, run_underlying (hU.at ht), Go.sizeOf, typeInfo, hi1, Builtin.lenOf, Builtin.firstCells, loadCells, loadCellsFrom]
      · refine ⟨_, w, ?_, Sim.refl _, by rw [hw]; simpa using hown, by rw [hw]; exact Grow.refl _ _, .inl rfl⟩
        cases A <;> simp [Builtin.append_, run_underlying (hU.at ht), Go.sizeOf, typeInfo, hi1, Builtin.lenOf, Builtin.firstCells, loadCells, loadCellsFrom, storeCells, hb3]
    · obtain ⟨ad, rfl, hc⟩ := rd.cell (Nat.mul_pos hk hsz)
      obtain ⟨v', w', hr, ho', hg', _, hat⟩ := run_append_own_at (P := P) w base t o.type e i z_ sz_ by_ (hU.at ht) hi1 hi4 hi2 hi3 hzs hsz v n xs ((Own_iff _ _ _ _ _ _ _).2 (hw ▸ own)) ad k c ys rd.len
        (fun j u hu => by rw [cellH_eq, hw]; exact hc j u hu) h1 hmax hb (by rw [hw]; exact hbase)
      exact ⟨v', w', hr, ⟨hg'.os, hg'.tape, hg'.output⟩, ho', ⟨by have := hg'.size; rwa [hw] at this, fun j hj hne => by have := hg'.block j (by rw [hw]; exact hj) hne; rwa [hw] at this⟩, by rw [hw] at hat; exact hat⟩
  obtain ⟨v', w', hr, hs', hR⟩ := hrun
  refine ⟨v', w', ?_, hs', hR⟩
  unfold execOp
  simp only [ho, resolve, invoke, builtin, Sem.run_bind, Sem.run_pure, Result.andThen_ok, List.map_toArray, List.map_cons, List.map_nil, ha.ev hx, ha.ev hy, hr]

/-- make([]T, l, c) -/
theorem WL_make (hU : AllU P U) (hI : AllI P I) {t e : Nat} {x y : Operand} {sz_ by_ : Nat} {z_ : Value} {kl kc : IntKind} {l c : Int} (ho : o.op = .makeSlice t x y) (ht : und U t = some (.slice e)) (hz : inf I e = some ⟨sz_, by_, z_⟩)
    (hx : ev L x = some (.int kl l)) (hy : ev L y = some (.int kc c)) (hg : o.guard = none) (hd : o.dst = some d_) (hn : Nat.blt d_ N = true) (h0 : 0 ≤ l) (h1 : l ≤ c) (hb : (by_ : Int) * c ≤ 281474976710656) (hm : c ≤ 9223372036854775807)
    (kk : WL P false ops rest Q N ((d_, .slice (some ⟨h.size, 0, none⟩) l.toNat c.toNat) :: L) s (h.push (.cells (madeCells z_.cells (c.toNat * sz_)) e))) : WL P false ops (o :: rest) Q N L s h := by
  refine WL_act (R := fun u h' => u = .slice (some ⟨h.size, 0, none⟩) l.toNat c.toNat ∧ h' = h.push (.cells (madeCells z_.cells (c.toNat * sz_)) e)) hg hd hn (fun a w ha hw => ?_) (fun u h' hu => by obtain ⟨rfl, rfl⟩ := hu; exact kk)
  obtain ⟨i, hi1, hi2, hi3, hi4⟩ := hI.at hz
  dsimp only at hi2 hi3 hi4
  have := run_make (P := P) w t e i z_ (hU.at ht) hi1 hi4 kl kc l c h0 h1 (by rw [hi3]; exact hb) hm
  refine ⟨.slice (some ⟨h.size, 0, none⟩) l.toNat c.toNat, w.alloc (.cells (madeCells z_.cells (c.toNat * sz_)) e), ?_, ⟨rfl, rfl, rfl⟩, rfl, by subst hw; rfl⟩
  unfold execOp
  simp only [ho, ha.ev hx, ha.ev hy, Sem.run_bind, this, Result.andThen_ok, hi2]
  subst hw; rfl

/-- []T{x, ..}, every place told -/
def evp (L : Slots) : List (Nat × Operand) → Option (List (Nat × Value))
  | [] => some []
  | p :: r => match ev L p.2, evp L r with | some v, some vs => some ((p.1, v) :: vs) | _, _ => none
theorem evp_eq {a : Act} (ha : Fr N L a) : ∀ {ps : List (Nat × Operand)} {vs : List (Nat × Value)}, evp L ps = some vs → ps.map (fun p => (p.1, a.eval p.2)) = vs
  | [], vs, he => by simp only [evp, Option.some.injEq] at he; subst he; rfl
  | p :: r, vs, he => by
    simp only [evp] at he
    cases h1 : ev L p.2 <;> cases h2 : evp L r <;> simp [h1, h2] at he
    subst he
    simp [ha.ev h1, evp_eq ha h2]
theorem WL_lit (hU : AllU P U) (hI : AllI P I) {t e len : Nat} {ps : Array (Nat × Operand)} {sz_ by_ : Nat} {z_ : Value} (vs : List Value) (ho : o.op = .buildSlice t len ps) (ht : und U t = some (.slice e)) (hz : inf I e = some ⟨sz_, by_, z_⟩) (hsz : 0 < sz_)
    (hp : evp L ps.toList = some ((vs.zipIdx 0).map fun x => (x.2, x.1))) (hl : vs.length = len) (hpos : 0 < len) (hsm : len * sz_ ≤ 16777216) (hc : ∀ v ∈ vs, v.cells.size = sz_) (hg : o.guard = none) (hd : o.dst = some d_) (hn : Nat.blt d_ N = true)
    (kk : WL P false ops rest Q N ((d_, .slice (some ⟨h.size, 0, none⟩) len len) :: L) s (h.push (.cells (vs.flatMap fun v => v.cells.toList).toArray e))) : WL P false ops (o :: rest) Q N L s h := by
  refine WL_act (R := fun u h' => u = .slice (some ⟨h.size, 0, none⟩) len len ∧ h' = h.push (.cells (vs.flatMap fun v => v.cells.toList).toArray e)) hg hd hn (fun a w ha hw => ?_) (fun u h' hu => by obtain ⟨rfl, rfl⟩ := hu; exact kk)
  obtain ⟨i, hi1, hi2, hi3, hi4⟩ := hI.at hz
  dsimp only at hi2 hi3 hi4
  have hps : (ps.map fun (i, x) => (i, a.eval x)).toList = (vs.zipIdx 0).map fun x => (x.2, x.1) := by
    rw [Array.toList_map]; exact evp_eq ha hp
  have hne : ¬ len * i.size = 0 := by rw [hi2]; have := Nat.mul_pos hpos hsz; omega
  have := run_buildSlice (P := P) w t e len (ps.map fun (i, x) => (i, a.eval x)) (vs.flatMap fun v => v.cells.toList).toArray i z_ (hU.at ht) hi1 hi4 (by rw [hi2]; omega) hne (by
    rw [hps, hi2]
    exact Great.fill_whole hsz vs _ hc (by simp [hl]))
  refine ⟨.slice (some ⟨h.size, 0, none⟩) len len, w.alloc (.cells (vs.flatMap fun v => v.cells.toList).toArray e), ?_, ⟨rfl, rfl, rfl⟩, rfl, by subst hw; rfl⟩
  unfold execOp
  simp only [ho, Sem.run_bind, this, Result.andThen_ok]
  subst hw; rfl
/-- a slice that is cut -/
theorem WL_slice (hU : AllU P U) (hI : AllI P I) {t e : Nat} {x : Operand} {lo hi : Option Operand} {sz_ by_ : Nat} {z_ : Value} {A : Option Addr} {n c : Nat} (a b : Nat) (ho : o.op = .slice t x lo hi none) (ht : und U t = some (.slice e)) (hz : inf I e = some ⟨sz_, by_, z_⟩) (hx : ev L x = some (.slice A n c))
    (hlo : (match lo with | none => a = 0 | some l => ev L l = some (.int .i64 (a : Int)))) (hhi : (match hi with | none => b = n | some l => ev L l = some (.int .i64 (b : Int)))) (hg : o.guard = none) (hd : o.dst = some d_) (hn : Nat.blt d_ N = true)
    (h0 : a ≤ b) (h1 : b ≤ c) (kk : WL P m ops rest Q N ((d_, .slice (if c = a then A else A.map (·.add (a * sz_))) (b - a) (c - a)) :: L) s h) : WL P m ops (o :: rest) Q N L s h := by
  refine WL_value _ hg hd hn (fun f w ha _ _ => ?_) kk
  unfold execOp
  have h2 : a ≤ c := by omega
  have hs := sizeOf_run (P := P) hI hz w
  cases lo <;> cases hi <;> simp only at hlo hhi
  · subst hlo hhi
    simp only [ho, ha.ev hx, Instr.sliceAt, Instr.slice, Option.map]
    simp [run_underlying (hU.at ht), Instr.sliceBounds, hs]
  · subst hlo
    simp only [ho, ha.ev hx, ha.ev hhi, Instr.sliceAt, Instr.slice, Option.map]
    simp [run_underlying (hU.at ht), Instr.sliceBounds, Instr.sliceBound, asIntOf, h1, hs]
  · subst hhi
    simp only [ho, ha.ev hx, ha.ev hlo, Instr.sliceAt, Instr.slice, Option.map]
    simp [run_underlying (hU.at ht), Instr.sliceBounds, Instr.sliceBound, asIntOf, h0, hs]
  · simp only [ho, ha.ev hx, ha.ev hlo, ha.ev hhi, Instr.sliceAt, Instr.slice, Option.map]
    simp [run_underlying (hU.at ht), Instr.sliceBounds, Instr.sliceBound, asIntOf, h1, h0, hs]

/-- a struct (an array) put together: its cells as told -/
theorem WL_build {t : Nat} {ps : Array (Nat × Operand)} {vs : List (Nat × Value)} (cs : List Value) (ho : o.op = .build t ps) (hp : evp L ps.toList = some vs) (hb : P.built t vs = some cs.toArray) (hg : o.guard = none) (hd : o.dst = some d_) (hn : Nat.blt d_ N = true)
    (kk : WL P m ops rest Q N ((d_, .agg cs.toArray) :: L) s h) : WL P m ops (o :: rest) Q N L s h := by
  refine WL_value _ hg hd hn (fun a w ha _ _ => ?_) kk
  have hps : (ps.map fun (i, x) => (i, a.eval x)).toList = vs := by
    rw [Array.toList_map]; exact evp_eq ha hp
  have := run_build (P := P) w t (ps.map fun (i, x) => (i, a.eval x)) cs.toArray (by rw [hps]; exact hb)
  unfold execOp
  simp only [ho, Sem.run_bind, this, Result.andThen_ok]
  rfl
/-- a field of a struct that is a value -/
theorem WL_field1 (hF : AllF P F) (hG : AllG P G) {t j off ft : Nat} {x : Operand} {cs : Array Value} {v : Value} (ho : o.op = .field t x j) (hf : fld F t j = some (off, ft)) (hgt : agg G ft = some false) (hx : ev L x = some (.agg cs)) (hv : nthV cs.toList off = some v) (hg : o.guard = none) (hd : o.dst = some d_) (hn : Nat.blt d_ N = true)
    (kk : WL P m ops rest Q N ((d_, v) :: L) s h) : WL P m ops (o :: rest) Q N L s h := by
  refine WL_value _ hg hd hn (fun a w ha _ _ => ?_) kk
  have h1 := hF.at hf
  unfold fieldOf at h1
  have hv' : cs[off]? = some v := by
    have : ∀ (l : List Value) (i : Nat), nthV l i = some v → l[i]? = some v := by
      intro l
      induction l with
      | nil => intro i h; simp [nthV] at h
      | cons p r ih => intro i h; cases i with
        | zero => simpa [nthV] using h
        | succ i => simpa using ih i (by simpa [nthV] using h)
    simpa using this _ _ hv
  unfold execOp
  simp only [ho, ha.ev hx, Instr.field, asAgg]
  split at h1
  · rename_i fs hu
    obtain ⟨f, h2, h3⟩ := Option.map_eq_some_iff.1 h1
    simp only [Prod.mk.injEq] at h3
    have hgr := isAgg_run (P := P) (hG.at hgt) w
    rw [← h3.2] at hgr
    simp [run_underlying hu, h2, part, hgr, h3.1, hv']
  · cases h1
theorem WL_fieldN (hF : AllF P F) (hG : AllG P G) (hI : AllI P I) {t j off ft : Nat} {x : Operand} {cs : Array Value} {sz_ by_ : Nat} {z_ : Value} (vs : List Value) (ho : o.op = .field t x j) (hf : fld F t j = some (off, ft)) (hgt : agg G ft = some true) (hz : inf I ft = some ⟨sz_, by_, z_⟩) (hx : ev L x = some (.agg cs)) (hv : (cs.toList.take (off + sz_)).drop off = vs) (hg : o.guard = none) (hd : o.dst = some d_) (hn : Nat.blt d_ N = true)
    (kk : WL P m ops rest Q N ((d_, .agg vs.toArray) :: L) s h) : WL P m ops (o :: rest) Q N L s h := by
  refine WL_value _ hg hd hn (fun a w ha _ _ => ?_) kk
  have h1 := hF.at hf
  unfold fieldOf at h1
  have hv' : cs.extract off (off + sz_) = vs.toArray := by
    apply Array.toList_inj.1
    rw [← hv]
    simp [List.drop_take]
  unfold execOp
  simp only [ho, ha.ev hx, Instr.field, asAgg]
  split at h1
  · rename_i fs hu
    obtain ⟨f, h2, h3⟩ := Option.map_eq_some_iff.1 h1
    simp only [Prod.mk.injEq] at h3
    have hgr := isAgg_run (P := P) (hG.at hgt) w
    rw [← h3.2] at hgr
    have hs := sizeOf_run (P := P) hI hz w
    rw [← h3.2] at hs
    simp [run_underlying hu, h2, part, hgr, hs, h3.1, hv']
  · cases h1
/-- string(b), b read -/
theorem WL_bytesStr (hU : AllU P U) {src dst e : Nat} {x : Operand} {A : Option Addr} {n c : Nat} (xs : List Int) (ho : o.op = .convert src dst x) (hs : und U src = some (.slice e)) (he : und U e = some (.int .u8)) (hds : und U dst = some .string) (hx : ev L x = some (.slice A n c)) (rd : Reads h 1 A n c (xs.map (Value.int .u8))) (hg : o.guard = none) (hd : o.dst = some d_) (hn : Nat.blt d_ N = true)
    (kk : WL P m ops rest Q N ((d_, .string (strOfNums xs)) :: L) s h) : WL P m ops (o :: rest) Q N L s h := by
  refine WL_value _ hg hd hn (fun a w ha hw _ => ?_) kk
  have hl : xs.length = n := by have := rd.len; simpa using this
  have hr : (Go.convert src dst (.slice A n c)).run P w = .ok (.string (strOfNums xs)) w := by
    rcases Nat.eq_zero_or_pos n with h0 | h0
    · subst h0
      have : xs = [] := List.eq_nil_of_length_eq_zero hl
      subst this
      cases A with
      | none => exact run_convert_bytes_nil w src e (hU.at hs) (hU.at he) 0 c dst (hU.at hds)
      | some ad =>
        simp [Go.convert, run_underlying (hU.at hs), run_underlying (hU.at hds), run_underlying (hU.at he), Conv.bytesToString, loadCells, loadCellsFrom]
        rfl
    · obtain ⟨ad, rfl, hc⟩ := rd.cell (by omega)
      obtain ⟨b, of, sp⟩ := ad
      have hsp : sp = none := by
        have := hc 0 _ (by simp [List.getElem?_eq_getElem (show 0 < (xs.map (Value.int .u8)).length by simp; omega)]; rfl)
        simp only [cellH, Addr.add] at this
        split at this
        · cases sp with
          | none => rfl
          | some q => simp at this
        · cases this
      subst hsp
      refine run_convert_bytes_arg w src e (hU.at hs) (hU.at he) b of n c xs hl (fun i hi => ?_) dst (hU.at hds)
      have := hc i (.int .u8 (xs.getD i 0)) (by simp [List.getD_eq_getElem?_getD, List.getElem?_eq_getElem (show i < xs.length by omega)])
      rw [cellH_eq, hw]
      have e1 : (⟨b, of, none⟩ : Addr).add i = ⟨b, of + i, none⟩ := by unfold Addr.add; split <;> simp_all
      rwa [e1] at this
  unfold execOp
  simp only [ho, ha.ev hx, Sem.run_bind, hr, Result.andThen_ok]
  rfl
theorem lit_reads (h : Heap) (e size n : Nat) (cs : List Value) (hl : cs.length = n * size) (hm : n ≤ 9223372036854775807) : Reads (h.push (.cells cs.toArray e)) size (some ⟨h.size, 0, none⟩) n n cs := by
  refine ⟨hl, Nat.le_refl _, hm, fun _ => ⟨_, rfl, fun j u hu => ?_⟩⟩
  have e1 : (⟨h.size, 0, none⟩ : Addr).add j = ⟨h.size, j, none⟩ := by unfold Addr.add; split <;> simp_all
  rw [e1]
  simp [cellH, hu]
theorem Own.lt_size {h : Heap} {base e size n : Nat} {v : Value} {xs : List Value} (o : Own h base e size v n xs) : n ≤ 9223372036854775807 := by
  have : maxLen = 9223372036854775807 := by decide
  rcases o.2 with ⟨_, h1⟩ | ⟨g, cap, cur, _, _, _, h1, h2, _⟩ <;> omega
/-- append(v, y): one element of a literal's block, copied behind what is there -/
theorem WL_app1 (hU : AllU P U) (hI : AllI P I) {o2 : Oper} {d2_ : Nat} {t e : Nat} {x y : Operand} {sz_ by_ : Nat} {z_ : Value} {v val : Value} {n : Nat} {xs : List Value} (base : Nat)
    (ho : o.op = .buildSlice t 1 #[(0, y)]) (ho2 : o2.op = .call { callee := .builtin .append, args := #[x, .tmp d_], argTypes := #[t, t] }) (ht : und U t = some (.slice e)) (hz : inf I e = some ⟨sz_, by_, z_⟩) (hzs : z_.cells.size = sz_) (hsz : Nat.blt 0 sz_ = true) (hss : Nat.ble sz_ 1000 = true)
    (hx : ev ((d_, Value.slice (some ⟨h.size, 0, none⟩) 1 1) :: L) x = some v) (hy : ev L y = some val) (hvs : val.cells.size = sz_) (h1 : ∀ u ∈ val.cells.toList, u.oneCell' = true)
    (hg : o.guard = none) (hd : o.dst = some d_) (hn : Nat.blt d_ N = true) (hg2 : o2.guard = none) (hd2 : o2.dst = some d2_) (hn2 : Nat.blt d2_ N = true)
    (own : Own h base e sz_ v n xs) (hb : (n + 1) * by_ ≤ 140737488355328) (hm : n + 1 ≤ 9223372036854775807) (hbase : base ≤ h.size)
    (kk : ∀ v' h', Own h' base e sz_ v' (n + 1) (xs ++ val.cells.toList) → Grow v.ownBlock h h' → (v'.ownBlock = v.ownBlock ∨ ∃ k, v'.ownBlock = some k ∧ h.size ≤ k) → WL P false ops rest Q N ((d2_, v') :: (d_, .slice (some ⟨h.size, 0, none⟩) 1 1) :: L) s h') :
    WL P false ops (o :: o2 :: rest) Q N L s h := by
  have hsz' : 0 < sz_ := by simpa [Nat.blt_eq] using hsz
  have hss' := Nat.le_of_ble_eq_true hss
  refine WL_lit hU hI [val] ho ht hz hsz' (by simp [evp, hy]) rfl (by omega) (by omega) (by simpa using hvs) hg hd hn ?_
  have e1 : ([val].flatMap fun v => v.cells.toList) = val.cells.toList := by simp
  rw [e1]
  have rd := lit_reads h e sz_ 1 val.cells.toList (by simpa using hvs) (by omega)
  refine WL_append hU hI base ho2 ht hz hzs hsz' hx (by simp [ev, look]) hg2 hd2 hn2 (own.push _) rd h1 hb hm (by simp; omega) (fun v' h' a1 a2 a3 => kk v' h' a1 ?_ ?_)
  · exact ((Grow.refl _ h).push _).trans a2
  · rcases a3 with a3 | a3
    · exact .inl a3
    · exact .inr ⟨_, a3, by simp⟩
end
end Go.Proofs.Ytdkigndgdkaoiaa.B
