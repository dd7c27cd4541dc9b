/- Operations on memory and on strings. -/
import Derived.Test.YtdkigndgdkaoiaaBc
namespace Go.Proofs.Ytdkigndgdkaoiaa.B
set_option linter.unusedVariables false
set_option linter.unusedSimpArgs false
open Go

/-- a struct's fields: where each begins, its type -/
abbrev FT := List ((Nat × Nat) × (Nat × Nat))
def fld : FT → Nat → Nat → Option (Nat × Nat)
  | [], _, _ => none
  | p :: r, t, j => match Nat.beq p.1.1 t, Nat.beq p.1.2 j with | true, true => some p.2 | _, _ => fld r t j
def fieldOf (P : Program) (t j : Nat) : Option (Nat × Nat) := match P.underlying t with | some (.struct fs) => (fs[j]?).map (fun f => (f.offset, f.type)) | _ => none
def AllF (P : Program) (F : FT) : Prop := F.map (fun p => fieldOf P p.1.1 p.1.2) = F.map (fun p => some p.2)
theorem AllF.at {P : Program} : ∀ {F : FT}, AllF P F → ∀ {t j d}, fld F t j = some d → fieldOf P t j = some d
  | [], _, _, _, _, h => by simp [fld] at h
  | p :: r, hU, t, j, d, h => by
    simp only [AllF, List.map_cons, List.cons.injEq] at hU
    simp only [fld] at h
    split at h
    · rename_i h1 h2
      rw [← Nat.eq_of_beq_eq_true h1, ← Nat.eq_of_beq_eq_true h2]
      simp at h; rw [← h]; exact hU.1
    · exact AllF.at (F := r) hU.2 h
/-- does a type have several cells (a struct, an array)? -/
abbrev GT := List (Nat × Bool)
def agg : GT → Nat → Option Bool
  | [], _ => none
  | p :: r, t => match Nat.beq p.1 t with | true => some p.2 | false => agg r t
def aggOf (P : Program) (t : Nat) : Option Bool := match P.underlying t with | some (.struct _) => some true | some (.array _ _) => some true | some _ => some false | none => none
def AllG (P : Program) (G : GT) : Prop := G.map (fun p => aggOf P p.1) = G.map (fun p => some p.2)
theorem AllG.at {P : Program} : ∀ {G : GT}, AllG P G → ∀ {t d}, agg G t = some d → aggOf P t = some d
  | [], _, _, _, h => by simp [agg] at h
  | p :: r, hU, t, d, h => by
    simp only [AllG, List.map_cons, List.cons.injEq] at hU
    simp only [agg] at h
    cases hb : Nat.beq p.1 t with
    | true =>
      have := Nat.eq_of_beq_eq_true hb
      simp [hb] at h
      rw [← this, ← h]; exact hU.1
    | false =>
      simp [hb] at h
      exact AllG.at (G := r) hU.2 h
theorem isAgg_run {P : Program} {t : Nat} {b : Bool} (h : aggOf P t = some b) (w : World) : (isAgg t).run P w = .ok b w := by
  unfold aggOf at h
  unfold isAgg
  cases hu : P.underlying t with
  | none => simp [hu] at h
  | some d => cases d <;> simp [hu] at h <;> subst h <;> simp [run_underlying hu]
theorem sizeOf_run {P : Program} {I : IT} (hI : AllI P I) {t : Nat} {sz_ by_ : Nat} {z_ : Value} (h : inf I t = some ⟨sz_, by_, z_⟩) (w : World) : (Go.sizeOf t).run P w = .ok sz_ w := by
  obtain ⟨i, h1, h2, _⟩ := hI.at h
  simp [Go.sizeOf, typeInfo, h1, h2]

/-- the byte at a place of a text -/
def bAt (x : ByteArray) (i : Int) : Int := match x[i.toNat]? with | some b => (b.toNat : Int) | none => 0
theorem bAt_bounds (x : ByteArray) (i : Int) : 0 ≤ bAt x i ∧ bAt x i < 256 := by
  unfold bAt
  split
  · rename_i b _
    have := b.toNat_lt
    omega
  · omega

section
variable {P : Program} {U : UT} {I : IT} {F : FT} {G : GT} {Q : Exit → Act → World → Prop} {N : Nat} {L : Slots} {s : World} {h : Heap} {ops : Array Oper} {rest : List Oper} {m : Bool} {o : Oper} {d_ : Nat}

theorem WL_sindex (hU : AllU P U) {t : Nat} {x ix : Operand} {k : IntKind} {i : Int} {y : ByteArray} (ho : o.op = .index t x ix) (ht : und U t = some .string) (hx : ev L x = some (.string y)) (hi : ev L ix = some (.int k i)) (hg : o.guard = none) (hd : o.dst = some d_) (hn : Nat.blt d_ N = true)
    (h0 : 0 ≤ i) (h1 : i < (y.size : Int)) (kk : WL P m ops rest Q N ((d_, (.int .u8 (bAt y i))) :: L) s h) : WL P m ops (o :: rest) Q N L s h := by
  refine WL_value _ hg hd hn (fun a w ha _ _ => ?_) kk
  have hlt : i.toNat < y.size := by omega
  have e : y[i.toNat]? = some y[i.toNat] := getElem?_pos y i.toNat hlt
  unfold execOp
  simp only [ho, ha.ev hx, ha.ev hi, Instr.index, asIntOf]
  simp [run_underlying (hU.at ht), h0, e, bAt]
theorem WL_sslice (hU : AllU P U) {t : Nat} {x : Operand} {lo hi : Option Operand} {y : ByteArray} (a b : Nat) (ho : o.op = .slice t x lo hi none) (ht : und U t = some .string) (hx : ev L x = some (.string y))
    (hlo : (match lo with | none => a = 0 | some l => ev L l = some (.int .i64 (a : Int)))) (hhi : (match hi with | none => b = y.size | some l => ev L l = some (.int .i64 (b : Int)))) (hg : o.guard = none) (hd : o.dst = some d_) (hn : Nat.blt d_ N = true)
    (h0 : a ≤ b) (h1 : b ≤ y.size) (kk : WL P m ops rest Q N ((d_, (.string (y.extract a b))) :: L) s h) : WL P m ops (o :: rest) Q N L s h := by
  refine WL_value _ hg hd hn (fun c w ha _ _ => ?_) kk
  unfold execOp
  have h2 : a ≤ y.size := by omega
  cases lo <;> cases hi <;> simp only at hlo hhi
  · subst hlo hhi
    simp only [ho, ha.ev hx, Instr.sliceAt, Instr.slice, Option.map]
    simp [run_underlying (hU.at ht), Instr.sliceBounds]
  · subst hlo
    simp only [ho, ha.ev hx, ha.ev hhi, Instr.sliceAt, Instr.slice, Option.map]
    simp [run_underlying (hU.at ht), Instr.sliceBounds, Instr.sliceBound, asIntOf, h1]
  · subst hhi
    simp only [ho, ha.ev hx, ha.ev hlo, Instr.sliceAt, Instr.slice, Option.map]
    simp [run_underlying (hU.at ht), Instr.sliceBounds, Instr.sliceBound, asIntOf, h2]
  · simp only [ho, ha.ev hx, ha.ev hlo, ha.ev hhi, Instr.sliceAt, Instr.slice, Option.map]
    simp [run_underlying (hU.at ht), Instr.sliceBounds, Instr.sliceBound, asIntOf, h1, h0]
theorem WL_sadd {t t2 : Nat} {x y : Operand} {p q : ByteArray} (ho : o.op = .binOp .add t x y t2) (hx : ev L x = some (.string p)) (hy : ev L y = some (.string q)) (hg : o.guard = none) (hd : o.dst = some d_) (hn : Nat.blt d_ N = true)
    (hb : p.size + q.size ≤ 9223372036854775807) (kk : WL P m ops rest Q N ((d_, (.string (p ++ q))) :: L) s h) : WL P m ops (o :: rest) Q N L s h := by
  refine WL_value _ hg hd hn (fun a w ha _ _ => ?_) kk
  unfold execOp
  simp only [ho, ha.ev hx, ha.ev hy]
  have hn : ¬ (((p.size + q.size : Nat) : Int) > IntKind.i64.max) := by
    have : IntKind.i64.max = 9223372036854775807 := by decide
    omega
  simp only [Sem.run_bind, eqGuard, binOp, Op.stringOp, if_neg hn]
  simp

/-- a shift by a count that is no literal -/
theorem WL_shl {t t2 : Nat} {x y : Operand} {k k' : IntKind} {a b : Int} (ho : o.op = .binOp .shl t x y t2) (hx : ev L x = some (.int k a)) (hy : ev L y = some (.int k' b)) (h0 : 0 ≤ b) (hg : o.guard = none) (hd : o.dst = some d_) (hn : Nat.blt d_ N = true)
    (kk : WL P m ops rest Q N ((d_, .int k (shlI k a b.toNat)) :: L) s h) : WL P m ops (o :: rest) Q N L s h := by
  refine WL_value _ hg hd hn (fun f w ha _ _ => ?_) kk
  unfold execOp
  simp only [ho, ha.ev hx, ha.ev hy, Sem.run_bind, eqGuard, binOp, Op.shift, if_neg (show ¬ b < 0 by omega), shlI]
  simp
theorem WL_shr {t t2 : Nat} {x y : Operand} {k k' : IntKind} {a b : Int} (ho : o.op = .binOp .shr t x y t2) (hx : ev L x = some (.int k a)) (hy : ev L y = some (.int k' b)) (h0 : 0 ≤ b) (hg : o.guard = none) (hd : o.dst = some d_) (hn : Nat.blt d_ N = true)
    (kk : WL P m ops rest Q N ((d_, .int k (shrI k a b.toNat)) :: L) s h) : WL P m ops (o :: rest) Q N L s h := by
  refine WL_value _ hg hd hn (fun f w ha _ _ => ?_) kk
  unfold execOp
  simp only [ho, ha.ev hx, ha.ev hy, Sem.run_bind, eqGuard, binOp, Op.shift, if_neg (show ¬ b < 0 by omega), shrI]
  simp

/-- the address of an element -/
theorem WL_indexAddr (hU : AllU P U) (hI : AllI P I) {t e : Nat} {x ix : Operand} {k : IntKind} {i : Int} {ad : Addr} {n c : Nat} {sz_ by_ : Nat} {z_ : Value} (ho : o.op = .indexAddr t x ix) (ht : und U t = some (.slice e)) (he : inf I e = some ⟨sz_, by_, z_⟩)
    (hx : ev L x = some (.slice (some ad) n c)) (hi : ev L ix = some (.int k i)) (hg : o.guard = none) (hd : o.dst = some d_) (hn : Nat.blt d_ N = true) (h0 : 0 ≤ i) (h1 : i < (n : Int))
    (kk : WL P m ops rest Q N ((d_, (.pointer (some (ad.add (i.toNat * sz_))))) :: L) s h) : WL P m ops (o :: rest) Q N L s h := by
  refine WL_value _ hg hd hn (fun a w ha _ _ => ?_) kk
  unfold execOp
  simp only [ho, ha.ev hx, ha.ev hi, Instr.indexAt, asIntOf]
  simp [run_underlying (hU.at ht), h0, h1, sizeOf_run hI he]
theorem WL_indexArr (hU : AllU P U) (hI : AllI P I) {t e : Nat} {x ix : Operand} {k : IntKind} {i : Int} {ad : Addr} {n : Nat} {sz_ by_ : Nat} {z_ : Value} (ho : o.op = .indexAddr t x ix) (ht : und U t = some (.array n e)) (he : inf I e = some ⟨sz_, by_, z_⟩)
    (hx : ev L x = some (.pointer (some ad))) (hi : ev L ix = some (.int k i)) (hg : o.guard = none) (hd : o.dst = some d_) (hn : Nat.blt d_ N = true) (h0 : 0 ≤ i) (h1 : i < (n : Int))
    (kk : WL P m ops rest Q N ((d_, (.pointer (some (ad.add (i.toNat * sz_))))) :: L) s h) : WL P m ops (o :: rest) Q N L s h := by
  refine WL_value _ hg hd hn (fun a w ha _ _ => ?_) kk
  unfold execOp
  simp only [ho, ha.ev hx, ha.ev hi, Instr.indexAt, asIntOf]
  simp [run_underlying (hU.at ht), h0, h1, sizeOf_run hI he, Instr.sureAddr]
theorem WL_fieldAddr (hF : AllF P F) (hI : AllI P I) {t j off ft : Nat} {x : Operand} {ad : Addr} {sz_ by_ : Nat} {z_ : Value} (ho : o.op = .fieldAddr t x j) (hf : fld F t j = some (off, ft)) (hz : inf I ft = some ⟨sz_, by_, z_⟩) (hnz : Nat.beq sz_ 0 = false)
    (hx : ev L x = some (.pointer (some ad))) (hg : o.guard = none) (hd : o.dst = some d_) (hn : Nat.blt d_ N = true)
    (kk : WL P m ops rest Q N ((d_, (.pointer (some (ad.add off)))) :: L) s h) : WL P m ops (o :: rest) Q N L s h := by
  refine WL_value _ hg hd hn (fun a w ha _ _ => ?_) kk
  have h1 := hF.at hf
  unfold fieldOf at h1
  unfold execOp
  simp only [ho, ha.ev hx, Instr.fieldAt, Instr.sureAddr]
  split at h1
  · rename_i fs hu
    obtain ⟨f, h2, h3⟩ := Option.map_eq_some_iff.1 h1
    simp only [Prod.mk.injEq] at h3
    have hs := sizeOf_run (P := P) hI hz w
    rw [← h3.2] at hs
    have hne := Nat.ne_of_beq_eq_false hnz
    simp [run_underlying hu, h2, fieldPlace, hs, hne, h3.1]
  · cases h1

/-- a load of one cell -/
theorem WL_load1 (hG : AllG P G) {t : Nat} {x : Operand} {ad : Addr} (v : Value) (ho : o.op = .load t x) (ht : agg G t = some false) (hx : ev L x = some (.pointer (some ad))) (hg : o.guard = none) (hd : o.dst = some d_) (hn : Nat.blt d_ N = true)
    (hc : cellH h ad = some v) (kk : WL P m ops rest Q N ((d_, v) :: L) s h) : WL P m ops (o :: rest) Q N L s h := by
  refine WL_value _ hg hd hn (fun a w ha hw _ => ?_) kk
  unfold execOp
  have hc' : w.cell? ad = some v := by rw [cellH_eq, hw]; exact hc
  simp only [ho, ha.ev hx, Instr.loadAt, Instr.sureAddr, loadVar]
  simp [isAgg_run (hG.at ht), hc']

def cellsH (h : Heap) (ad : Addr) (cs : List Value) : Prop := ∀ j v, cs[j]? = some v → cellH h (ad.add j) = some v
theorem loadCells_run (ad : Addr) (w : World) (P : Program) : ∀ (cs : List Value) (i : Nat) (acc : Array Value), (∀ j v, cs[j]? = some v → w.cell? (ad.add (i + j)) = some v) → (loadCellsFrom ad i cs.length acc).run P w = .ok (acc ++ cs.toArray) w
  | [], i, acc, _ => by simp [loadCellsFrom]
  | c :: cs, i, acc, hc => by
    have h0 : w.cell? (ad.add i) = some c := hc 0 c rfl
    simp only [List.length_cons, loadCellsFrom]
    simp only [Sem.run_bind, run_load, h0, Result.andThen_ok]
    rw [loadCells_run ad w P cs (i + 1) _ (fun j v hv => by have := hc (j + 1) v (by simpa using hv); rwa [show i + 1 + j = i + (j + 1) by omega])]
    simp
theorem WL_loadN (hG : AllG P G) (hI : AllI P I) {t : Nat} {x : Operand} {ad : Addr} {sz_ by_ : Nat} {z_ : Value} (cs : List Value) (ho : o.op = .load t x) (ht : agg G t = some true) (hz : inf I t = some ⟨sz_, by_, z_⟩) (hl : Nat.beq cs.length sz_ = true) (hx : ev L x = some (.pointer (some ad))) (hg : o.guard = none) (hd : o.dst = some d_) (hn : Nat.blt d_ N = true)
    (hc : cellsH h ad cs) (kk : WL P m ops rest Q N ((d_, (.agg cs.toArray)) :: L) s h) : WL P m ops (o :: rest) Q N L s h := by
  refine WL_value _ hg hd hn (fun a w ha hw _ => ?_) kk
  unfold execOp
  have := loadCells_run ad w P cs 0 #[] (fun j v hv => by rw [Nat.zero_add, cellH_eq, hw]; exact hc j v hv)
  have hl' := Nat.eq_of_beq_eq_true hl
  rw [hl'] at this
  simp only [ho, ha.ev hx, Instr.loadAt, Instr.sureAddr, loadVar]
  simp [isAgg_run (hG.at ht), sizeOf_run hI hz, loadCells, this]

/-! ### memory that is made -/
theorem WL_box {t : Nat} {x : Operand} {v : Value} (ho : o.op = .box t x) (hx : ev L x = some v) (hg : o.guard = none) (hd : o.dst = some d_) (hn : Nat.blt d_ N = true)
    (kk : WL P false ops rest Q N ((d_, (.pointer (some ⟨h.size, 0, none⟩))) :: L) s (h.push (.cells v.cells t))) : WL P false ops (o :: rest) Q N L s h := by
  refine WL_act (R := fun u h' => u = .pointer (some ⟨h.size, 0, none⟩) ∧ h' = h.push (.cells v.cells t)) hg hd hn (fun a w ha hw => ?_) (fun u h' hu => by obtain ⟨rfl, rfl⟩ := hu; exact kk)
  refine ⟨.pointer (some ⟨h.size, 0, none⟩), { w with heap := w.heap.push (.cells v.cells t) }, ?_, ⟨rfl, rfl, rfl⟩, rfl, by subst hw; rfl⟩
  · subst hw
    unfold execOp
    simp only [ho, ha.ev hx, Instr.box, newVar, newRow, newObj]
    simp [Sem.run]
theorem WL_alloc (hI : AllI P I) {t : Nat} {sz_ by_ : Nat} {z_ : Value} (ho : o.op = .alloc t) (hz : inf I t = some ⟨sz_, by_, z_⟩) (hg : o.guard = none) (hd : o.dst = some d_) (hn : Nat.blt d_ N = true)
    (kk : WL P false ops rest Q N ((d_, (.pointer (some ⟨h.size, 0, none⟩))) :: L) s (h.push (.cells z_.cells t))) : WL P false ops (o :: rest) Q N L s h := by
  refine WL_act (R := fun u h' => u = .pointer (some ⟨h.size, 0, none⟩) ∧ h' = h.push (.cells z_.cells t)) hg hd hn (fun a w ha hw => ?_) (fun u h' hu => by obtain ⟨rfl, rfl⟩ := hu; exact kk)
  obtain ⟨i, h1, _, _, h4⟩ := hI.at hz
  refine ⟨.pointer (some ⟨h.size, 0, none⟩), { w with heap := w.heap.push (.cells z_.cells t) }, ?_, ⟨rfl, rfl, rfl⟩, rfl, by subst hw; rfl⟩
  · subst hw
    unfold execOp
    simp only [ho, Instr.alloc, newVar, newRow, newObj, zeroValue, typeInfo]
    simp [Sem.run, h1, h4]

/-- what a store does -/
def storeH (h : Heap) (ad : Addr) : List Value → Heap
  | [] => h
  | v :: r => storeH (setH h ad v) (ad.add 1) r
theorem add_one (a : Addr) (i : Nat) : (a.add i).add 1 = a.add (i + 1) := by
  unfold Addr.add
  by_cases h1 : i = 0 <;> simp [h1, Nat.add_assoc]
theorem cellH_set (h : Heap) (p q : Addr) (v : Value) (hp : (cellH h p).isSome = true) (hq : (cellH h q).isSome = true) : (cellH (setH h p v) q).isSome = true := by
  unfold cellH at hp hq ⊢
  simp only [setH, Array.getElem?_modify]
  by_cases e : p.block = q.block
  · rw [if_pos e]
    rw [e] at hp
    cases hb : h[q.block]? with
    | none => simp [hb] at hq
    | some ob =>
      cases ob <;> simp [hb] at hq ⊢
      split
      · simp_all
      · split <;> simp_all
  · rw [if_neg e]; exact hq
theorem frozH_set (h : Heap) (p q : Addr) (v : Value) : frozH (setH h p v) q = frozH h q := by
  unfold frozH
  simp only [setH, Array.getElem?_modify]
  by_cases e : p.block = q.block
  · rw [if_pos e]
    cases hb : h[q.block]? with
    | none => simp
    | some ob => cases ob <;> simp
  · rw [if_neg e]
theorem storeCells_run (P : Program) (ad : Addr) : ∀ (vs : List Value) (i : Nat) (w : World), (∀ v ∈ vs, v.oneCell' = true) → (∀ j, j < vs.length → (cellH w.heap (ad.add (i + j))).isSome = true ∧ frozH w.heap (ad.add (i + j)) = false) →
    ∃ w', (storeCells ad vs i).run P w = .ok () w' ∧ Sim w w' ∧ w'.heap = storeH w.heap (ad.add i) vs
  | [], i, w, _, _ => ⟨w, by simp [storeCells], Sim.refl _, rfl⟩
  | v :: r, i, w, h1, hc => by
    obtain ⟨hc0, hf0⟩ := hc 0 (by simp)
    obtain ⟨old, hold⟩ := Option.isSome_iff_exists.1 hc0
    have hst := run_store P w (ad.add i) v .plain (h1 v List.mem_cons_self)
    have e1 : w.cell? (ad.add i) = some old := hold
    have e2 : w.frozen? (ad.add i) = false := hf0
    obtain ⟨w', h2, h3, h4⟩ := storeCells_run P ad r (i + 1) (w.setCell (ad.add i) v) (fun u hu => h1 u (List.mem_cons_of_mem _ hu)) (fun j hj => by
      have := hc (j + 1) (by simpa using hj)
      rw [show i + (j + 1) = i + 1 + j by omega] at this
      exact ⟨cellH_set _ _ _ _ hc0 this.1, by rw [setH_eq, frozH_set]; exact this.2⟩)
    refine ⟨w', ?_, ⟨h3.os, h3.tape, h3.output⟩, ?_⟩
    · simp [storeCells, hst, e1, e2, h2]
    · rw [h4, setH_eq, storeH, add_one]
/-- a store, whatever its size -/
theorem WL_store (hI : AllI P I) {t : Nat} {x y : Operand} {ad : Addr} {d : TI} {v : Value} (ho : o.op = .store t x y) (hz : inf I t = some d) (h1 : v.cells.size = d.size) (hx : ev L x = some (.pointer (some ad))) (hy : ev L y = some v) (hv : ∀ u ∈ v.cells.toList, u.oneCell' = true) (hg : o.guard = none) (hd : o.dst = none)
    (hc : ∀ j, j < v.cells.size → (cellH h (ad.add j)).isSome = true ∧ frozH h (ad.add j) = false) (kk : WL P false ops rest Q N L s (storeH h ad v.cells.toList)) : WL P false ops (o :: rest) Q N L s h := by
  intro a w ha hw hs
  refine wpList_plain hg fun K hK => ?_
  obtain ⟨w', h2, h3, h4⟩ := storeCells_run P ad v.cells.toList 0 w hv (fun j hj => by rw [Nat.zero_add, hw]; exact hc j (by simpa using hj))
  have ha0 : ad.add 0 = ad := by simp [Addr.add]
  have hsz := sizeOf_run (P := P) hI hz w
  have hr : (execOp a.eval o).run P w = .ok .skip w' := by
    unfold execOp
    simp only [ho, ha.ev hx, ha.ev hy, Instr.storeAt, Instr.sureAddr, storeVar]
    simp [hsz, h1, h2]
  unfold Oper.wp
  rw [hr]
  refine hK _ _ ?_
  rw [hd]
  exact kk a w' ha (by rw [h4, ha0, hw]) (hs.trans h3)
/-- a store of one cell -/
theorem WL_store1 (hI : AllI P I) {t : Nat} {x y : Operand} {ad : Addr} {sz_ by_ : Nat} {z_ : Value} {v old : Value} (ho : o.op = .store t x y) (hz : inf I t = some ⟨sz_, by_, z_⟩) (h1 : Nat.beq sz_ 1 = true) (hx : ev L x = some (.pointer (some ad))) (hy : ev L y = some v) (hv : v.oneCell' = true) (hg : o.guard = none) (hd : o.dst = some d_) (hn : Nat.blt d_ N = true)
    (hc : cellH h ad = some old) (hf : frozH h ad = false) (kk : WL P false ops rest Q N ((d_, undef) :: L) s (setH h ad v)) : WL P false ops (o :: rest) Q N L s h := by
  refine WL_skip hg hd hn (fun a w ha hw => ⟨w.setCell ad v, ?_, ⟨rfl, rfl, rfl⟩, by rw [setH_eq, hw]⟩) kk
  have hc' : w.cell? ad = some old := by rw [cellH_eq, hw]; exact hc
  have hf' : w.frozen? ad = false := by rw [frozH_eq, hw]; exact hf
  have hs := sizeOf_run (P := P) hI hz w
  have h1' := Nat.eq_of_beq_eq_true h1
  have hcells : v.cells = #[v] := by cases v <;> first | rfl | simp [Value.oneCell'] at hv
  unfold execOp
  simp only [ho, ha.ev hx, ha.ev hy, Instr.storeAt, Instr.sureAddr, storeVar]
  have ha0 : ad.add 0 = ad := by simp [Addr.add]
  simp [hs, h1', hcells, storeCells, ha0, run_store P w ad v .plain hv, hc', hf']
end
end Go.Proofs.Ytdkigndgdkaoiaa.B
