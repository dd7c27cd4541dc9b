/- A variable of its own: a block that is told whole. -/
import Derived.Test.YtdkigndgdkaoiaaBf
import Derived.Scope
namespace Go.Proofs.Ytdkigndgdkaoiaa.B
set_option linter.unusedVariables false
set_option linter.unusedSimpArgs false
open Go
def Box (h : Heap) (p e : Nat) (cs : List Value) : Prop := h[p]? = some (.cells cs.toArray e (0, 0))
theorem Box.new (h : Heap) (c : Array Value) (e : Nat) : Box (h.push (.cells c e)) h.size e c.toList := by simp [Box]
theorem Box.newL (h : Heap) (cs : List Value) (e : Nat) : Box (h.push (.cells cs.toArray e)) h.size e cs := by simp [Box]
theorem Box.lt {h : Heap} {p e : Nat} {cs : List Value} (b : Box h p e cs) : p < h.size := (Array.getElem?_eq_some_iff.1 b).1
theorem Box.grow {h h' : Heap} {p e : Nat} {cs : List Value} (b : Box h p e cs) {row : Option Nat} (g : Grow row h h') (hne : some p ≠ row) : Box h' p e cs := (g.block p b.lt hne).trans b
theorem Box.ext {h h' : Heap} {p e : Nat} {cs : List Value} (b : Box h p e cs) {B : Nat} (x : Ext B h h') (hp : p < B) : Box h' p e cs := (x.block p hp).trans b
theorem Box.ext' {h h' : Heap} {p e : Nat} {cs : List Value} (b : Box h p e cs) (x : Ext h.size h h') : Box h' p e cs := b.ext x b.lt
theorem Box.push {h : Heap} {p e : Nat} {cs : List Value} (b : Box h p e cs) (o : Obj) : Box (h.push o) p e cs := b.ext' ((Ext.refl _ _).push (Nat.le_refl _) o)
theorem nthV_get : ∀ (l : List Value) (i : Nat), nthV l i = l[i]?
  | [], i => by simp [nthV]
  | p :: r, 0 => rfl
  | p :: r, i + 1 => by simpa [nthV] using nthV_get r i
theorem addr0 (p j : Nat) : (⟨p, 0, none⟩ : Addr).add j = ⟨p, j, none⟩ := by unfold Addr.add; split <;> simp_all
theorem Box.cell {h : Heap} {p e : Nat} {cs : List Value} (b : Box h p e cs) {j : Nat} {v : Value} (hv : nthV cs j = some v) : cellH h ⟨p, j, none⟩ = some v := by
  rw [nthV_get] at hv
  have b' : h[p]? = some (.cells cs.toArray e (0, 0)) := b
  simp only [cellH, b']
  simpa using hv
theorem Box.cellsAt {h : Heap} {p e : Nat} {cs vs : List Value} (b : Box h p e cs) (off : Nat) (hv : (cs.take (off + vs.length)).drop off = vs) : cellsH h ⟨p, off, none⟩ vs := by
  intro j v hj
  have e1 : (⟨p, off, none⟩ : Addr).add j = ⟨p, off + j, none⟩ := by unfold Addr.add; split <;> simp_all
  rw [e1]
  refine b.cell ?_
  rw [nthV_get]
  have hlt : j < vs.length := (List.getElem?_eq_some_iff.1 hj).1
  rw [← hv, List.getElem?_drop, List.getElem?_take_of_lt (by omega)] at hj
  exact hj
theorem Box.cells {h : Heap} {p e : Nat} {cs : List Value} (b : Box h p e cs) : cellsH h ⟨p, 0, none⟩ cs := b.cellsAt 0 (by simp)
theorem Box.froz {h : Heap} {p e : Nat} {cs : List Value} (b : Box h p e cs) (j : Nat) : frozH h ⟨p, j, none⟩ = false := by
  have b' : h[p]? = some (.cells cs.toArray e (0, 0)) := b
  simp [frozH, b']
theorem Box.set {h : Heap} {p e : Nat} {cs : List Value} (b : Box h p e cs) (j : Nat) (v : Value) : Box (setH h ⟨p, j, none⟩ v) p e (cs.set j v) := by
  have b' : h[p]? = some (.cells cs.toArray e (0, 0)) := b
  simp only [Box, setH, Array.getElem?_modify]
  simp [b']
theorem Grow.set (h : Heap) (p j : Nat) (v : Value) : Grow (some p) h (setH h ⟨p, j, none⟩ v) :=
  ⟨by simp [setH], fun k hk hne => by
    simp only [setH, Array.getElem?_modify]
    rw [if_neg (by intro e; exact hne (by rw [e]))]⟩
def setVs (cs : List Value) : Nat → List Value → List Value
  | _, [] => cs
  | j, v :: r => setVs (cs.set j v) (j + 1) r
theorem Box.store : ∀ {h : Heap} {p e : Nat} {cs : List Value} (b : Box h p e cs) (j : Nat) (vs : List Value), Box (storeH h ⟨p, j, none⟩ vs) p e (setVs cs j vs) ∧ Grow (some p) h (storeH h ⟨p, j, none⟩ vs)
  | h, p, e, cs, b, j, [] => ⟨b, Grow.refl _ _⟩
  | h, p, e, cs, b, j, v :: r => by
    have e1 : (⟨p, j, none⟩ : Addr).add 1 = ⟨p, j + 1, none⟩ := rfl
    have := (b.set j v).store (j + 1) r
    simp only [storeH, setVs, e1]
    exact ⟨this.1, (Grow.set h p j v).trans this.2⟩
theorem Ext.boxed {B : Nat} {a b c : Heap} {p : Nat} (x : Ext B a b) (hb : B ≤ b.size) (y : Grow (some p) b c) (hp : B ≤ p) : Ext B a c := x.grow hb y (fun k hk => by injection hk with hk; omega)

section
variable {P : Program} {U : UT} {I : IT} {F : FT} {G : GT} {Q : Exit → Act → World → Prop} {N : Nat} {L : Slots} {s : World} {h : Heap} {ops : Array Oper} {rest : List Oper} {m : Bool} {o : Oper} {d_ : Nat}
/-- the address of a field of a variable -/
theorem WL_boxField (hF : AllF P F) (hI : AllI P I) {t j off ft p k : Nat} {x : Operand} {sz_ by_ : Nat} {z_ : Value} (ho : o.op = .fieldAddr t x j) (hf : fld F t j = some (off, ft)) (hz : inf I ft = some ⟨sz_, by_, z_⟩) (hnz : Nat.beq sz_ 0 = false)
    (hx : ev L x = some (.pointer (some ⟨p, k, none⟩))) (hg : o.guard = none) (hd : o.dst = some d_) (hn : Nat.blt d_ N = true)
    (kk : WL P m ops rest Q N ((d_, (.pointer (some ⟨p, Nat.add k off, none⟩))) :: L) s h) : WL P m ops (o :: rest) Q N L s h := by
  refine WL_fieldAddr hF hI ho hf hz hnz hx hg hd hn ?_
  have e1 : (⟨p, k, none⟩ : Addr).add off = ⟨p, k + off, none⟩ := by unfold Addr.add; split <;> simp_all
  rw [e1]; exact kk
theorem WL_boxLoad1 (hG : AllG P G) {t p j e : Nat} {x : Operand} {v : Value} {cs : List Value} (b : Box h p e cs) (ho : o.op = .load t x) (ht : agg G t = some false) (hx : ev L x = some (.pointer (some ⟨p, j, none⟩))) (hg : o.guard = none) (hd : o.dst = some d_) (hn : Nat.blt d_ N = true)
    (hv : nthV cs j = some v) (kk : WL P m ops rest Q N ((d_, v) :: L) s h) : WL P m ops (o :: rest) Q N L s h := WL_load1 hG v ho ht hx hg hd hn (b.cell hv) kk
theorem WL_boxLoad (hG : AllG P G) (hI : AllI P I) {t p e : Nat} {x : Operand} {sz_ by_ : Nat} {z_ : Value} {cs : List Value} (b : Box h p e cs) (ho : o.op = .load t x) (ht : agg G t = some true) (hz : inf I t = some ⟨sz_, by_, z_⟩) (hl : Nat.beq cs.length sz_ = true) (hx : ev L x = some (.pointer (some ⟨p, 0, none⟩))) (hg : o.guard = none) (hd : o.dst = some d_) (hn : Nat.blt d_ N = true)
    (kk : WL P m ops rest Q N ((d_, (.agg cs.toArray)) :: L) s h) : WL P m ops (o :: rest) Q N L s h := WL_loadN hG hI cs ho ht hz hl hx hg hd hn b.cells kk
/-- a part of several cells -/
theorem WL_boxLoadN (hG : AllG P G) (hI : AllI P I) {t p j e : Nat} {x : Operand} {sz_ by_ : Nat} {z_ : Value} {cs : List Value} (vs : List Value) (b : Box h p e cs) (ho : o.op = .load t x) (ht : agg G t = some true) (hz : inf I t = some ⟨sz_, by_, z_⟩) (hl : Nat.beq vs.length sz_ = true) (hx : ev L x = some (.pointer (some ⟨p, j, none⟩))) (hg : o.guard = none) (hd : o.dst = some d_) (hn : Nat.blt d_ N = true)
    (hv : (cs.take (j + vs.length)).drop j = vs) (kk : WL P m ops rest Q N ((d_, (.agg vs.toArray)) :: L) s h) : WL P m ops (o :: rest) Q N L s h := WL_loadN hG hI vs ho ht hz hl hx hg hd hn (b.cellsAt j hv) kk
/-- a store into a variable, or a part of it -/
theorem WL_boxStore (hI : AllI P I) {t p j e : Nat} {x y : Operand} {v : Value} {cs : List Value} {sz_ by_ : Nat} {z_ : Value} (vs : List Value) (b : Box h p e cs) (ho : o.op = .store t x y) (hz : inf I t = some ⟨sz_, by_, z_⟩) (hvs : v.cells.toList = vs) (hl : Nat.beq vs.length sz_ = true) (hr : Nat.ble (Nat.add j vs.length) cs.length = true) (hx : ev L x = some (.pointer (some ⟨p, j, none⟩))) (hy : ev L y = some v) (hv : ∀ u ∈ vs, u.oneCell' = true) (hg : o.guard = none) (hd : o.dst = none)
    (kk : ∀ h', Box h' p e (setVs cs j vs) → Grow (some p) h h' → WL P false ops rest Q N L s h') : WL P false ops (o :: rest) Q N L s h := by
  have hl' := Nat.eq_of_beq_eq_true hl
  have hr' : j + vs.length ≤ cs.length := Nat.le_of_ble_eq_true hr
  have hsz : v.cells.size = vs.length := by rw [← hvs]; simp
  refine WL_store hI ho hz (by rw [hsz, hl']) hx hy (hvs ▸ hv) hg hd (fun i hi => ?_) ?_
  · have e1 : (⟨p, j, none⟩ : Addr).add i = ⟨p, j + i, none⟩ := by unfold Addr.add; split <;> simp_all
    rw [e1]
    refine ⟨?_, b.froz _⟩
    have hlt : j + i < cs.length := by omega
    rw [b.cell (v := cs[j + i]) (by rw [nthV_get]; exact List.getElem?_eq_getElem hlt)]
    rfl
  · rw [hvs]
    have := b.store j vs
    exact kk _ this.1 this.2
theorem WG_get {p : Prop} [Decidable p] {b : Bool} (k : p ∨ ¬ p → WG P b (decide p) m ops o rest d_ Q N L s h) : WG P b (decide p) m ops o rest d_ Q N L s h := k (Decidable.em p)
theorem WG_getn {p : Prop} [Decidable p] {b : Bool} (k : p ∨ ¬ p → WG P b (!decide p) m ops o rest d_ Q N L s h) : WG P b (!decide p) m ops o rest d_ Q N L s h := k (Decidable.em p)
theorem WB_get {p : Prop} [Decidable p] {x y : Code} (k : p ∨ ¬ p → WB P (decide p) x y Q N L s h) : WB P (decide p) x y Q N L s h := k (Decidable.em p)
theorem WB_getn {p : Prop} [Decidable p] {x y : Code} (k : p ∨ ¬ p → WB P (!decide p) x y Q N L s h) : WB P (!decide p) x y Q N L s h := k (Decidable.em p)
theorem Ext.of_push (h : Heap) (o : Obj) : Ext h.size h (h.push o) := (Ext.refl _ _).push (Nat.le_refl _) o
/-- new(T), var x T -/
theorem WL_allocB (hI : AllI P I) {t : Nat} {sz_ by_ : Nat} {z_ : Value} (zs : List Value) (ho : o.op = .alloc t) (hz : inf I t = some ⟨sz_, by_, z_⟩) (hzs : z_.cells.toList = zs) (hg : o.guard = none) (hd : o.dst = some d_) (hn : Nat.blt d_ N = true)
    (kk : ∀ h', Box h' h.size t zs → Ext h.size h h' → h'.size = h.size + 1 → WL P false ops rest Q N ((d_, (.pointer (some ⟨h.size, 0, none⟩))) :: L) s h') : WL P false ops (o :: rest) Q N L s h :=
  WL_alloc hI ho hz hg hd hn (kk _ (hzs ▸ Box.new h _ t) (Ext.of_push h _) (by simp))
/-- &v -/
theorem WL_boxB {t : Nat} {x : Operand} {v : Value} (cs : List Value) (ho : o.op = .box t x) (hx : ev L x = some v) (hcs : v.cells.toList = cs) (hg : o.guard = none) (hd : o.dst = some d_) (hn : Nat.blt d_ N = true)
    (kk : ∀ h', Box h' h.size t cs → Ext h.size h h' → h'.size = h.size + 1 → WL P false ops rest Q N ((d_, (.pointer (some ⟨h.size, 0, none⟩))) :: L) s h') : WL P false ops (o :: rest) Q N L s h :=
  WL_box ho hx hg hd hn (kk _ (hcs ▸ Box.new h _ t) (Ext.of_push h _) (by simp))
/-! a scope (a function that holds a label) out of which nothing jumps by goto -/
theorem W_scope {c : Code} (k : W P c (Exit.noGoto Q) N L s h) : W P (.scope c) Q N L s h := fun a w ha hw hs => wp_scope_straight (k a w ha hw hs)
theorem P_ngN (k : Post Q .normal N L s h) : Post (Exit.noGoto Q) .normal N L s h := k
theorem P_ngX {i : Nat} (k : Post Q (.exit i) N L s h) : Post (Exit.noGoto Q) (.exit i) N L s h := k
theorem P_ngR (k : Post Q .ret N L s h) : Post (Exit.noGoto Q) .ret N L s h := k
/-! where ways meet again: told once what holds there -/
def JoinQ {σ : Type} (S : σ → Slots) (I : σ → Heap → Prop) (N : Nat) (s : World) : Act → World → Prop := fun a w => ∃ x, Fr N (S x) a ∧ Sim s w ∧ I x w.heap
theorem W_seqJ {σ : Type} {x y : Code} (S : σ → Slots) (I : σ → Heap → Prop) (k1 : W P x (Exit.then (JoinQ S I N s) Q) N L s h) (k2 : ∀ q h', I q h' → W P y Q N (S q) s h') : W P (.seq x y) Q N L s h := by
  refine W_seq (fun a w ha hw hs b k cs => ?_)
  obtain ⟨e, a1, w1, hq, harr⟩ := k1 a w ha hw hs b k cs
  refine ⟨e, a1, w1, ?_, harr⟩
  cases e with
  | normal =>
    obtain ⟨q, f1, s1, i1⟩ := hq
    exact k2 q _ i1 a1 w1 f1 rfl s1
  | exit id => exact hq
  | goto l => exact hq
  | ret => exact hq
  | panic ch => exact hq
  | outgrown => exact hq
theorem P_join {σ : Type} {S : σ → Slots} {I : σ → Heap → Prop} (x : σ) (hS : sub L (S x)) (hI : I x h) : Post (Exit.then (JoinQ S I N s) Q) .normal N L s h :=
  fun a w ha hw hs => ⟨x, ha.weaken hS, hs, hw ▸ hI⟩
theorem W_seqR {i : Nat} {r : Array Oper} {d : Bool} {y : Code} (k : W P (.region i r d) (Exit.then (y.wp P Q) Q) N L s h) : W P (.seq (.region i r d) y) Q N L s h := W_seq k
/-- append(v, y) within a region that draws -/
theorem WH_app1 (hU : AllU P U) (hI : AllI P I) {S : Heap → Prop} {l : Array Bool} {ms : List (Nat × Bool)} {i j : Nat} {o2 : Oper} {d2_ : Nat} {t e : Nat} {x y : Operand} {sz_ by_ : Nat} {z_ : Value} {v val : Value} {n : Nat} {xs : List Value} (base : Nat)
    (ho : o.op = .buildSlice t 1 #[(0, y)]) (ho2 : o2.op = .call { callee := .builtin .append, args := #[x, .tmp d_], argTypes := #[t, t] }) (ht : und U t = some (.slice e)) (hz : inf I e = some ⟨sz_, by_, z_⟩) (hzs : z_.cells.size = sz_) (hsz : Nat.blt 0 sz_ = true) (hss : Nat.ble sz_ 1000 = true)
    (hx : ev ((d_, Value.slice (some ⟨h.size, 0, none⟩) 1 1) :: L) x = some v) (hy : ev L y = some val) (hvs : val.cells.size = sz_) (h1 : ∀ u ∈ val.cells.toList, u.oneCell' = true)
    (hg : o.guard = none) (hd : o.dst = some d_) (hn : Nat.blt d_ N = true) (hg2 : o2.guard = none) (hd2 : o2.dst = some d2_) (hn2 : Nat.blt d2_ N = true)
    (own : Own h base e sz_ v n xs) (hb : (n + 1) * by_ ≤ 140737488355328) (hm : n + 1 ≤ 9223372036854775807) (hbase : base ≤ h.size) (hS1 : ∀ h', Grow v.ownBlock h h' → S h')
    (kk : ∀ v' h', Own h' base e sz_ v' (n + 1) (xs ++ val.cells.toList) → Grow v.ownBlock h h' → (v'.ownBlock = v.ownBlock ∨ ∃ k, v'.ownBlock = some k ∧ h.size ≤ k) → WH P S ((l.setIfInBounds i true).setIfInBounds j true) ms ops rest Q N ((d2_, v') :: (d_, .slice (some ⟨h.size, 0, none⟩) 1 1) :: L) s h') :
    WH P S l ((i, false) :: (j, false) :: ms) ops (o :: o2 :: rest) Q N L s h := by
  have hsz' : 0 < sz_ := by simpa [Nat.blt_eq] using hsz
  have hss' := Nat.le_of_ble_eq_true hss
  refine WH_of hg (WHW_does hd hn (Does_acts (A_lit hU hI [val] ho ht hz hsz' (by simp [evp, hy]) rfl (by omega) (by omega) (by simpa using hvs))) ?_)
  rintro _ _ ⟨rfl, rfl⟩
  have e1 : ([val].flatMap fun v => v.cells.toList) = val.cells.toList := by simp
  rw [e1]
  have gp := (Grow.refl v.ownBlock h).push (.cells val.cells.toList.toArray e)
  refine ⟨hS1 _ gp, ?_⟩
  have rd := lit_reads h e sz_ 1 val.cells.toList (by simpa using hvs) (by omega)
  refine WH_of hg2 (WHW_does hd2 hn2 (Does_acts (A_append hU hI base ho2 ht hz hzs hsz' hx (by simp [ev, look]) (own.push _) rd h1 hb hm (by simp; omega))) ?_)
  rintro v' h' ⟨a1, a2, a3⟩
  refine ⟨hS1 _ (gp.trans a2), kk v' h' a1 (gp.trans a2) ?_⟩
  rcases a3 with a3 | a3
  · exact .inl a3
  · exact .inr ⟨_, a3, by simp⟩
/-- a store into a variable, within a region that draws -/
theorem WH_boxStore (hI : AllI P I) {S : Heap → Prop} {l : Array Bool} {ms : List (Nat × Bool)} {i t p j e : Nat} {x y : Operand} {v : Value} {cs : List Value} {sz_ by_ : Nat} {z_ : Value} (vs : List Value) (b : Box h p e cs) (ho : o.op = .store t x y) (hz : inf I t = some ⟨sz_, by_, z_⟩) (hvs : v.cells.toList = vs) (hl : Nat.beq vs.length sz_ = true) (hr : Nat.ble (Nat.add j vs.length) cs.length = true) (hx : ev L x = some (.pointer (some ⟨p, j, none⟩))) (hy : ev L y = some v) (hv : ∀ u ∈ vs, u.oneCell' = true) (hg : o.guard = none) (hd : o.dst = none)
    (hS : ∀ h', Grow (some p) h h' → S h')
    (kk : ∀ h', Box h' p e (setVs cs j vs) → Grow (some p) h h' → WH P S (l.setIfInBounds i true) ms ops rest Q N L s h') : WH P S l ((i, false) :: ms) ops (o :: rest) Q N L s h := by
  have hl' := Nat.eq_of_beq_eq_true hl
  have hr' : j + vs.length ≤ cs.length := Nat.le_of_ble_eq_true hr
  have hsz : v.cells.size = vs.length := by rw [← hvs]; simp
  refine WH_of hg (WHW_does0 hd (Does_store hI ho hz (by rw [hsz, hl']) hx hy (hvs ▸ hv) (fun i hi => ?_)) ?_)
  · have e1 : (⟨p, j, none⟩ : Addr).add i = ⟨p, j + i, none⟩ := by unfold Addr.add; split <;> simp_all
    rw [e1]
    refine ⟨?_, b.froz _⟩
    have hlt : j + i < cs.length := by omega
    rw [b.cell (v := cs[j + i]) (by rw [nthV_get]; exact List.getElem?_eq_getElem hlt)]
    rfl
  · rintro _ _ ⟨rfl, rfl⟩
    rw [hvs]
    have := b.store j vs
    exact ⟨hS _ this.2, kk _ this.1 this.2⟩
/-- what lies in a variable, told of a region that draws -/
theorem Box.own_ne {h : Heap} {base e size n p : Nat} {v : Value} {xs : List Value} (own : Own h base e size v n xs) (hp : p < base) : some p ≠ v.ownBlock := by
  intro e1
  have := own.base_le p e1.symm
  omega
end
end Go.Proofs.Ytdkigndgdkaoiaa.B
