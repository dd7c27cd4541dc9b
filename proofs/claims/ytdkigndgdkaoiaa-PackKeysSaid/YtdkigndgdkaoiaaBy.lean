/- What each operation that leaves the world alone yields (written by mky.py out of XBd.lean and XBe.lean). -/
import Derived.Test.YtdkigndgdkaoiaaBe
namespace Go.Proofs.Ytdkigndgdkaoiaa.B
set_option linter.unusedVariables false
set_option linter.unusedSimpArgs false
open Go

/-- in every world of this heap the operation yields v and leaves the world -/
def Y (P : Program) (N : Nat) (L : Slots) (o : Oper) (v : Value) (h : Heap) : Prop := ∀ a w, Fr N L a → w.heap = h → (execOp a.eval o).run P w = .ok (.value v) w

/-- it makes or turns memory: what it yields, and the heap behind it -/
def Acts (P : Program) (N : Nat) (L : Slots) (o : Oper) (h : Heap) (R : Value → Heap → Prop) : Prop := ∀ a w, Fr N L a → w.heap = h → ∃ v w', (execOp a.eval o).run P w = .ok (.value v) w' ∧ Sim w w' ∧ R v w'.heap

section
variable {P : Program} {U : UT} {I : IT} {F : FT} {G : GT} {N : Nat} {L : Slots} {h : Heap} {o : Oper}
theorem Y_pure (hU : AllU P U) {v : Value} (hv : pureOp U L o.op = some v) : Y P N L o v h := fun a w ha _ => pureOp_run hU ha o v w hv
theorem Y_sindex (hU : AllU P U) {t : Nat} {x ix : Operand} {k : IntKind} {i : Int} {y : ByteArray} (ho : o.op = .index t x ix) (ht : und U t = some .string) (hx : ev L x = some (.string y)) (hi : ev L ix = some (.int k i))   
    (h0 : 0 ≤ i) (h1 : i < (y.size : Int)) : Y P N L o ((.int .u8 (bAt y i))) h := by
  intro a w ha hw
  have hlt : i.toNat < y.size := by omega
  have e : y[i.toNat]? = some y[i.toNat] := getElem?_pos y i.toNat hlt
  unfold execOp
  simp only [ho, ha.ev hx, ha.ev hi, Instr.index, asIntOf]
  simp [run_underlying (hU.at ht), h0, e, bAt]
theorem Y_sslice (hU : AllU P U) {t : Nat} {x : Operand} {lo hi : Option Operand} {y : ByteArray} (a b : Nat) (ho : o.op = .slice t x lo hi none) (ht : und U t = some .string) (hx : ev L x = some (.string y))
    (hlo : (match lo with | none => a = 0 | some l => ev L l = some (.int .i64 (a : Int)))) (hhi : (match hi with | none => b = y.size | some l => ev L l = some (.int .i64 (b : Int))))   
    (h0 : a ≤ b) (h1 : b ≤ y.size) : Y P N L o ((.string (y.extract a b))) h := by
  intro c w ha hw
  unfold execOp
  have h2 : a ≤ y.size := by omega
  cases lo <;> cases hi <;> simp only at hlo hhi
  · subst hlo hhi
    simp only [ho, ha.ev hx, Instr.sliceAt, Instr.slice, Option.map]
    simp [run_underlying (hU.at ht), Instr.sliceBounds]
  · subst hlo
    simp only [ho, ha.ev hx, ha.ev hhi, Instr.sliceAt, Instr.slice, Option.map]
    simp [run_underlying (hU.at ht), Instr.sliceBounds, Instr.sliceBound, asIntOf, h1]
  · subst hhi
    simp only [ho, ha.ev hx, ha.ev hlo, Instr.sliceAt, Instr.slice, Option.map]
    simp [run_underlying (hU.at ht), Instr.sliceBounds, Instr.sliceBound, asIntOf, h2]
  · simp only [ho, ha.ev hx, ha.ev hlo, ha.ev hhi, Instr.sliceAt, Instr.slice, Option.map]
    simp [run_underlying (hU.at ht), Instr.sliceBounds, Instr.sliceBound, asIntOf, h1, h0]
theorem Y_sadd {t t2 : Nat} {x y : Operand} {p q : ByteArray} (ho : o.op = .binOp .add t x y t2) (hx : ev L x = some (.string p)) (hy : ev L y = some (.string q))   
    (hb : p.size + q.size ≤ 9223372036854775807) : Y P N L o ((.string (p ++ q))) h := by
  intro a w ha hw
  unfold execOp
  simp only [ho, ha.ev hx, ha.ev hy]
  have hn : ¬ (((p.size + q.size : Nat) : Int) > IntKind.i64.max) := by
    have : IntKind.i64.max = 9223372036854775807 := by decide
    omega
  simp only [Sem.run_bind, eqGuard, binOp, Op.stringOp, if_neg hn]
  simp
theorem Y_shl {t t2 : Nat} {x y : Operand} {k k' : IntKind} {a b : Int} (ho : o.op = .binOp .shl t x y t2) (hx : ev L x = some (.int k a)) (hy : ev L y = some (.int k' b)) (h0 : 0 ≤ b) : Y P N L o (.int k (shlI k a b.toNat)) h := by
  intro f w ha hw
  unfold execOp
  simp only [ho, ha.ev hx, ha.ev hy, Sem.run_bind, eqGuard, binOp, Op.shift, if_neg (show ¬ b < 0 by omega), shlI]
  simp
theorem Y_shr {t t2 : Nat} {x y : Operand} {k k' : IntKind} {a b : Int} (ho : o.op = .binOp .shr t x y t2) (hx : ev L x = some (.int k a)) (hy : ev L y = some (.int k' b)) (h0 : 0 ≤ b) : Y P N L o (.int k (shrI k a b.toNat)) h := by
  intro f w ha hw
  unfold execOp
  simp only [ho, ha.ev hx, ha.ev hy, Sem.run_bind, eqGuard, binOp, Op.shift, if_neg (show ¬ b < 0 by omega), shrI]
  simp
theorem Y_indexAddr (hU : AllU P U) (hI : AllI P I) {t e : Nat} {x ix : Operand} {k : IntKind} {i : Int} {ad : Addr} {n c : Nat} {sz_ by_ : Nat} {z_ : Value} (ho : o.op = .indexAddr t x ix) (ht : und U t = some (.slice e)) (he : inf I e = some ⟨sz_, by_, z_⟩)
    (hx : ev L x = some (.slice (some ad) n c)) (hi : ev L ix = some (.int k i))    (h0 : 0 ≤ i) (h1 : i < (n : Int)) : Y P N L o ((.pointer (some (ad.add (i.toNat * sz_))))) h := by
  intro a w ha hw
  unfold execOp
  simp only [ho, ha.ev hx, ha.ev hi, Instr.indexAt, asIntOf]
  simp [run_underlying (hU.at ht), h0, h1, sizeOf_run hI he]
theorem Y_indexArr (hU : AllU P U) (hI : AllI P I) {t e : Nat} {x ix : Operand} {k : IntKind} {i : Int} {ad : Addr} {n : Nat} {sz_ by_ : Nat} {z_ : Value} (ho : o.op = .indexAddr t x ix) (ht : und U t = some (.array n e)) (he : inf I e = some ⟨sz_, by_, z_⟩)
    (hx : ev L x = some (.pointer (some ad))) (hi : ev L ix = some (.int k i))    (h0 : 0 ≤ i) (h1 : i < (n : Int)) : Y P N L o ((.pointer (some (ad.add (i.toNat * sz_))))) h := by
  intro a w ha hw
  unfold execOp
  simp only [ho, ha.ev hx, ha.ev hi, Instr.indexAt, asIntOf]
  simp [run_underlying (hU.at ht), h0, h1, sizeOf_run hI he, Instr.sureAddr]
theorem Y_fieldAddr (hF : AllF P F) (hI : AllI P I) {t j off ft : Nat} {x : Operand} {ad : Addr} {sz_ by_ : Nat} {z_ : Value} (ho : o.op = .fieldAddr t x j) (hf : fld F t j = some (off, ft)) (hz : inf I ft = some ⟨sz_, by_, z_⟩) (hnz : Nat.beq sz_ 0 = false)
    (hx : ev L x = some (.pointer (some ad))) : Y P N L o ((.pointer (some (ad.add off)))) h := by
  intro a w ha hw
  have h1 := hF.at hf
  unfold fieldOf at h1
  unfold execOp
  simp only [ho, ha.ev hx, Instr.fieldAt, Instr.sureAddr]
  split at h1
  · rename_i fs hu
    obtain ⟨f, h2, h3⟩ := Option.map_eq_some_iff.1 h1
    simp only [Prod.mk.injEq] at h3
    have hs := sizeOf_run (P := P) hI hz w
    rw [← h3.2] at hs
    have hne := Nat.ne_of_beq_eq_false hnz
    simp [run_underlying hu, h2, fieldPlace, hs, hne, h3.1]
  · cases h1
theorem Y_load1 (hG : AllG P G) {t : Nat} {x : Operand} {ad : Addr} (v : Value) (ho : o.op = .load t x) (ht : agg G t = some false) (hx : ev L x = some (.pointer (some ad)))   
    (hc : cellH h ad = some v) : Y P N L o (v) h := by
  intro a w ha hw
  unfold execOp
  have hc' : w.cell? ad = some v := by rw [cellH_eq, hw]; exact hc
  simp only [ho, ha.ev hx, Instr.loadAt, Instr.sureAddr, loadVar]
  simp [isAgg_run (hG.at ht), hc']
theorem Y_loadN (hG : AllG P G) (hI : AllI P I) {t : Nat} {x : Operand} {ad : Addr} {sz_ by_ : Nat} {z_ : Value} (cs : List Value) (ho : o.op = .load t x) (ht : agg G t = some true) (hz : inf I t = some ⟨sz_, by_, z_⟩) (hl : Nat.beq cs.length sz_ = true) (hx : ev L x = some (.pointer (some ad)))   
    (hc : cellsH h ad cs) : Y P N L o ((.agg cs.toArray)) h := by
  intro a w ha hw
  unfold execOp
  have := loadCells_run ad w P cs 0 #[] (fun j v hv => by rw [Nat.zero_add, cellH_eq, hw]; exact hc j v hv)
  have hl' := Nat.eq_of_beq_eq_true hl
  rw [hl'] at this
  simp only [ho, ha.ev hx, Instr.loadAt, Instr.sureAddr, loadVar]
  simp [isAgg_run (hG.at ht), sizeOf_run hI hz, loadCells, this]
theorem Y_slice (hU : AllU P U) (hI : AllI P I) {t e : Nat} {x : Operand} {lo hi : Option Operand} {sz_ by_ : Nat} {z_ : Value} {A : Option Addr} {n c : Nat} (a b : Nat) (ho : o.op = .slice t x lo hi none) (ht : und U t = some (.slice e)) (hz : inf I e = some ⟨sz_, by_, z_⟩) (hx : ev L x = some (.slice A n c))
    (hlo : (match lo with | none => a = 0 | some l => ev L l = some (.int .i64 (a : Int)))) (hhi : (match hi with | none => b = n | some l => ev L l = some (.int .i64 (b : Int))))   
    (h0 : a ≤ b) (h1 : b ≤ c) : Y P N L o (.slice (if c = a then A else A.map (·.add (a * sz_))) (b - a) (c - a)) h := by
  intro f w ha hw
  unfold execOp
  have h2 : a ≤ c := by omega
  have hs := sizeOf_run (P := P) hI hz w
  cases lo <;> cases hi <;> simp only at hlo hhi
  · subst hlo hhi
    simp only [ho, ha.ev hx, Instr.sliceAt, Instr.slice, Option.map]
    simp [run_underlying (hU.at ht), Instr.sliceBounds, hs]
  · subst hlo
    simp only [ho, ha.ev hx, ha.ev hhi, Instr.sliceAt, Instr.slice, Option.map]
    simp [run_underlying (hU.at ht), Instr.sliceBounds, Instr.sliceBound, asIntOf, h1, hs]
  · subst hhi
    simp only [ho, ha.ev hx, ha.ev hlo, Instr.sliceAt, Instr.slice, Option.map]
    simp [run_underlying (hU.at ht), Instr.sliceBounds, Instr.sliceBound, asIntOf, h0, hs]
  · simp only [ho, ha.ev hx, ha.ev hlo, ha.ev hhi, Instr.sliceAt, Instr.slice, Option.map]
    simp [run_underlying (hU.at ht), Instr.sliceBounds, Instr.sliceBound, asIntOf, h1, h0, hs]
theorem Y_build {t : Nat} {ps : Array (Nat × Operand)} {vs : List (Nat × Value)} (cs : List Value) (ho : o.op = .build t ps) (hp : evp L ps.toList = some vs) (hb : P.built t vs = some cs.toArray) : Y P N L o (.agg cs.toArray) h := by
  intro a w ha hw
  have hps : (ps.map fun (i, x) => (i, a.eval x)).toList = vs := by
    rw [Array.toList_map]; exact evp_eq ha hp
  have := run_build (P := P) w t (ps.map fun (i, x) => (i, a.eval x)) cs.toArray (by rw [hps]; exact hb)
  unfold execOp
  simp only [ho, Sem.run_bind, this, Result.andThen_ok]
  rfl
theorem Y_field1 (hF : AllF P F) (hG : AllG P G) {t j off ft : Nat} {x : Operand} {cs : Array Value} {v : Value} (ho : o.op = .field t x j) (hf : fld F t j = some (off, ft)) (hgt : agg G ft = some false) (hx : ev L x = some (.agg cs)) (hv : nthV cs.toList off = some v) : Y P N L o (v) h := by
  intro a w ha hw
  have h1 := hF.at hf
  unfold fieldOf at h1
  have hv' : cs[off]? = some v := by
    have : ∀ (l : List Value) (i : Nat), nthV l i = some v → l[i]? = some v := by
      intro l
      induction l with
      | nil => intro i h; simp [nthV] at h
      | cons p r ih => intro i h; cases i with
        | zero => simpa [nthV] using h
        | succ i => simpa using ih i (by simpa [nthV] using h)
    simpa using this _ _ hv
  unfold execOp
  simp only [ho, ha.ev hx, Instr.field, asAgg]
  split at h1
  · rename_i fs hu
    obtain ⟨f, h2, h3⟩ := Option.map_eq_some_iff.1 h1
    simp only [Prod.mk.injEq] at h3
    have hgr := isAgg_run (P := P) (hG.at hgt) w
    rw [← h3.2] at hgr
    simp [run_underlying hu, h2, part, hgr, h3.1, hv']
  · cases h1
theorem Y_fieldN (hF : AllF P F) (hG : AllG P G) (hI : AllI P I) {t j off ft : Nat} {x : Operand} {cs : Array Value} {sz_ by_ : Nat} {z_ : Value} (vs : List Value) (ho : o.op = .field t x j) (hf : fld F t j = some (off, ft)) (hgt : agg G ft = some true) (hz : inf I ft = some ⟨sz_, by_, z_⟩) (hx : ev L x = some (.agg cs)) (hv : (cs.toList.take (off + sz_)).drop off = vs) : Y P N L o (.agg vs.toArray) h := by
  intro a w ha hw
  have h1 := hF.at hf
  unfold fieldOf at h1
  have hv' : cs.extract off (off + sz_) = vs.toArray := by
    apply Array.toList_inj.1
    rw [← hv]
    simp [List.drop_take]
  unfold execOp
  simp only [ho, ha.ev hx, Instr.field, asAgg]
  split at h1
  · rename_i fs hu
    obtain ⟨f, h2, h3⟩ := Option.map_eq_some_iff.1 h1
    simp only [Prod.mk.injEq] at h3
    have hgr := isAgg_run (P := P) (hG.at hgt) w
    rw [← h3.2] at hgr
    have hs := sizeOf_run (P := P) hI hz w
    rw [← h3.2] at hs
    simp [run_underlying hu, h2, part, hgr, hs, h3.1, hv']
  · cases h1
theorem Y_bytesStr (hU : AllU P U) {src dst e : Nat} {x : Operand} {A : Option Addr} {n c : Nat} (xs : List Int) (ho : o.op = .convert src dst x) (hs : und U src = some (.slice e)) (he : und U e = some (.int .u8)) (hds : und U dst = some .string) (hx : ev L x = some (.slice A n c)) (rd : Reads h 1 A n c (xs.map (Value.int .u8))) : Y P N L o (.string (strOfNums xs)) h := by
  intro a w ha hw
  have hl : xs.length = n := by have := rd.len; simpa using this
  have hr : (Go.convert src dst (.slice A n c)).run P w = .ok (.string (strOfNums xs)) w := by
    rcases Nat.eq_zero_or_pos n with h0 | h0
    · subst h0
      have : xs = [] := List.eq_nil_of_length_eq_zero hl
      subst this
      cases A with
      | none => exact run_convert_bytes_nil w src e (hU.at hs) (hU.at he) 0 c dst (hU.at hds)
      | some ad =>
        simp [Go.convert, run_underlying (hU.at hs), run_underlying (hU.at hds), run_underlying (hU.at he), Conv.bytesToString, loadCells, loadCellsFrom]
        rfl
    · obtain ⟨ad, rfl, hc⟩ := rd.cell (by omega)
      obtain ⟨b, of, sp⟩ := ad
      have hsp : sp = none := by
        have := hc 0 _ (by simp [List.getElem?_eq_getElem (show 0 < (xs.map (Value.int .u8)).length by simp; omega)]; rfl)
        simp only [cellH, Addr.add] at this
        split at this
        · cases sp with
          | none => rfl
          | some q => simp at this
        · cases this
      subst hsp
      refine run_convert_bytes_arg w src e (hU.at hs) (hU.at he) b of n c xs hl (fun i hi => ?_) dst (hU.at hds)
      have := hc i (.int .u8 (xs.getD i 0)) (by simp [List.getD_eq_getElem?_getD, List.getElem?_eq_getElem (show i < xs.length by omega)])
      rw [cellH_eq, hw]
      have e1 : (⟨b, of, none⟩ : Addr).add i = ⟨b, of + i, none⟩ := by unfold Addr.add; split <;> simp_all
      rwa [e1] at this
  unfold execOp
  simp only [ho, ha.ev hx, Sem.run_bind, hr, Result.andThen_ok]
  rfl
theorem A_box {t : Nat} {x : Operand} {v : Value} (ho : o.op = .box t x) (hx : ev L x = some v)  : Acts P N L o h (fun u h' => u = .pointer (some ⟨h.size, 0, none⟩) ∧ h' = h.push (.cells v.cells t)) := by
  intro a w ha hw
  refine ⟨.pointer (some ⟨h.size, 0, none⟩), { w with heap := w.heap.push (.cells v.cells t) }, ?_, ⟨rfl, rfl, rfl⟩, rfl, by subst hw; rfl⟩
  · subst hw
    unfold execOp
    simp only [ho, ha.ev hx, Instr.box, newVar, newRow, newObj]
    simp [Sem.run]
theorem A_alloc (hI : AllI P I) {t : Nat} {sz_ by_ : Nat} {z_ : Value} (ho : o.op = .alloc t) (hz : inf I t = some ⟨sz_, by_, z_⟩)  : Acts P N L o h (fun u h' => u = .pointer (some ⟨h.size, 0, none⟩) ∧ h' = h.push (.cells z_.cells t)) := by
  intro a w ha hw
  obtain ⟨i, h1, _, _, h4⟩ := hI.at hz
  refine ⟨.pointer (some ⟨h.size, 0, none⟩), { w with heap := w.heap.push (.cells z_.cells t) }, ?_, ⟨rfl, rfl, rfl⟩, rfl, by subst hw; rfl⟩
  · subst hw
    unfold execOp
    simp only [ho, Instr.alloc, newVar, newRow, newObj, zeroValue, typeInfo]
    simp [Sem.run, h1, h4]
theorem A_append (hU : AllU P U) (hI : AllI P I) {t e : Nat} {x y : Operand} {sz_ by_ : Nat} {z_ : Value} {v : Value} {n : Nat} {xs ys : List Value} {A : Option Addr} {k c : Nat} (base : Nat)
    (ho : o.op = .call { callee := .builtin .append, args := #[x, y], argTypes := #[t, t] }) (ht : und U t = some (.slice e)) (hz : inf I e = some ⟨sz_, by_, z_⟩) (hzs : z_.cells.size = sz_) (hsz : 0 < sz_)
    (hx : ev L x = some v) (hy : ev L y = some (.slice A k c))   
    (own : Own h base e sz_ v n xs) (rd : Reads h sz_ A k c ys) (h1 : ∀ u ∈ ys, u.oneCell' = true) (hb : (n + k) * by_ ≤ 140737488355328) (hm : n + k ≤ 9223372036854775807) (hbase : base ≤ h.size)  : Acts P N L o h (fun v' h' => Own h' base e sz_ v' (n + k) (xs ++ ys) ∧ Grow v.ownBlock h h' ∧ (v'.ownBlock = v.ownBlock ∨ v'.ownBlock = some h.size)) := by
  intro a w ha hw
  obtain ⟨i, hi1, hi2, hi3, hi4⟩ := hI.at hz
  dsimp only at hi2 hi3 hi4
  have hmax : n + k ≤ maxLen := by have : maxLen = 9223372036854775807 := by decide
                                   omega
  have hrun : ∃ v' w', (Builtin.append_ #[t, t] o.type #[v, .slice A k c]).run P w = .ok v' w' ∧ Sim w w' ∧ Own w'.heap base e sz_ v' (n + k) (xs ++ ys) ∧ Grow v.ownBlock h w'.heap ∧ (v'.ownBlock = v.ownBlock ∨ v'.ownBlock = some h.size) := by
    rcases Nat.eq_zero_or_pos k with hk | hk
    · subst hk
      have : ys = [] := List.eq_nil_of_length_eq_zero (by rw [rd.len]; simp)
      subst this
      have hown := own
      rcases own.2 with ⟨rfl, rfl⟩ | ⟨g, cap, cur, rfl, hb1, hb2, hb3, hb4, _⟩
      · refine ⟨.slice none 0 0, w, ?_, Sim.refl _, by rw [hw]; simpa using hown, by rw [hw]; exact Grow.refl _ _, .inl rfl⟩
        cases A <;> simp [Builtin.append_, run_underlying (hU.at ht), Go.sizeOf, typeInfo, hi1, Builtin.lenOf, Builtin.firstCells, loadCells, loadCellsFrom]
      · refine ⟨_, w, ?_, Sim.refl _, by rw [hw]; simpa using hown, by rw [hw]; exact Grow.refl _ _, .inl rfl⟩
        cases A <;> simp [Builtin.append_, run_underlying (hU.at ht), Go.sizeOf, typeInfo, hi1, Builtin.lenOf, Builtin.firstCells, loadCells, loadCellsFrom, storeCells, hb3]
    · obtain ⟨ad, rfl, hc⟩ := rd.cell (Nat.mul_pos hk hsz)
      obtain ⟨v', w', hr, ho', hg', _, hat⟩ := run_append_own_at (P := P) w base t o.type e i z_ sz_ by_ (hU.at ht) hi1 hi4 hi2 hi3 hzs hsz v n xs ((Own_iff _ _ _ _ _ _ _).2 (hw ▸ own)) ad k c ys rd.len
        (fun j u hu => by rw [cellH_eq, hw]; exact hc j u hu) h1 hmax hb (by rw [hw]; exact hbase)
      exact ⟨v', w', hr, ⟨hg'.os, hg'.tape, hg'.output⟩, ho', ⟨by have := hg'.size; rwa [hw] at this, fun j hj hne => by have := hg'.block j (by rw [hw]; exact hj) hne; rwa [hw] at this⟩, by rw [hw] at hat; exact hat⟩
  obtain ⟨v', w', hr, hs', hR⟩ := hrun
  refine ⟨v', w', ?_, hs', hR⟩
  unfold execOp
  simp only [ho, resolve, invoke, builtin, Sem.run_bind, Sem.run_pure, Result.andThen_ok, List.map_toArray, List.map_cons, List.map_nil, ha.ev hx, ha.ev hy, hr]
theorem A_make (hU : AllU P U) (hI : AllI P I) {t e : Nat} {x y : Operand} {sz_ by_ : Nat} {z_ : Value} {kl kc : IntKind} {l c : Int} (ho : o.op = .makeSlice t x y) (ht : und U t = some (.slice e)) (hz : inf I e = some ⟨sz_, by_, z_⟩)
    (hx : ev L x = some (.int kl l)) (hy : ev L y = some (.int kc c))    (h0 : 0 ≤ l) (h1 : l ≤ c) (hb : (by_ : Int) * c ≤ 281474976710656) (hm : c ≤ 9223372036854775807)  : Acts P N L o h (fun u h' => u = .slice (some ⟨h.size, 0, none⟩) l.toNat c.toNat ∧ h' = h.push (.cells (madeCells z_.cells (c.toNat * sz_)) e)) := by
  intro a w ha hw
  obtain ⟨i, hi1, hi2, hi3, hi4⟩ := hI.at hz
  dsimp only at hi2 hi3 hi4
  have := run_make (P := P) w t e i z_ (hU.at ht) hi1 hi4 kl kc l c h0 h1 (by rw [hi3]; exact hb) hm
  refine ⟨.slice (some ⟨h.size, 0, none⟩) l.toNat c.toNat, w.alloc (.cells (madeCells z_.cells (c.toNat * sz_)) e), ?_, ⟨rfl, rfl, rfl⟩, rfl, by subst hw; rfl⟩
  unfold execOp
  simp only [ho, ha.ev hx, ha.ev hy, Sem.run_bind, this, Result.andThen_ok, hi2]
  subst hw; rfl
theorem A_lit (hU : AllU P U) (hI : AllI P I) {t e len : Nat} {ps : Array (Nat × Operand)} {sz_ by_ : Nat} {z_ : Value} (vs : List Value) (ho : o.op = .buildSlice t len ps) (ht : und U t = some (.slice e)) (hz : inf I e = some ⟨sz_, by_, z_⟩) (hsz : 0 < sz_)
    (hp : evp L ps.toList = some ((vs.zipIdx 0).map fun x => (x.2, x.1))) (hl : vs.length = len) (hpos : 0 < len) (hsm : len * sz_ ≤ 16777216) (hc : ∀ v ∈ vs, v.cells.size = sz_)  : Acts P N L o h (fun u h' => u = .slice (some ⟨h.size, 0, none⟩) len len ∧ h' = h.push (.cells (vs.flatMap fun v => v.cells.toList).toArray e)) := by
  intro a w ha hw
  obtain ⟨i, hi1, hi2, hi3, hi4⟩ := hI.at hz
  dsimp only at hi2 hi3 hi4
  have hps : (ps.map fun (i, x) => (i, a.eval x)).toList = (vs.zipIdx 0).map fun x => (x.2, x.1) := by
    rw [Array.toList_map]; exact evp_eq ha hp
  have hne : ¬ len * i.size = 0 := by rw [hi2]; have := Nat.mul_pos hpos hsz; omega
  have := run_buildSlice (P := P) w t e len (ps.map fun (i, x) => (i, a.eval x)) (vs.flatMap fun v => v.cells.toList).toArray i z_ (hU.at ht) hi1 hi4 (by rw [hi2]; omega) hne (by
    rw [hps, hi2]
    exact Great.fill_whole hsz vs _ hc (by simp [hl]))
  refine ⟨.slice (some ⟨h.size, 0, none⟩) len len, w.alloc (.cells (vs.flatMap fun v => v.cells.toList).toArray e), ?_, ⟨rfl, rfl, rfl⟩, rfl, by subst hw; rfl⟩
  unfold execOp
  simp only [ho, Sem.run_bind, this, Result.andThen_ok]
  subst hw; rfl
end
end Go.Proofs.Ytdkigndgdkaoiaa.B
