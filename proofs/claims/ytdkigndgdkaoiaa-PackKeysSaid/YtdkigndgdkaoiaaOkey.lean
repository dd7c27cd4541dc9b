import Derived.Test.YtdkigndgdkaoiaaLeq
import Derived.Test.YtdkigndgdkaoiaaSo
namespace Go.Proofs.Ytdkigndgdkaoiaa
open Go B X Go.RowKit
set_option linter.unusedVariables false
set_option maxRecDepth 8000
section
variable {H : Type} {enc : TypeId × Value → H} {w : World}
theorem agg_of {b0 : Nat} {P : Program} {t : TypeId} {v : Value} (hw : wideT P t = true) (h : Value.okWide P w .any b0 t v) : ∃ cs : List Value, v = .agg cs.toArray := by
  unfold wideT at hw
  unfold Value.okWide at h
  cases hu : P.underlying t with
  | none => simp [hu] at hw
  | some d =>
    cases d <;> simp [hu] at hw h
    all_goals
      obtain ⟨cs, rfl, _⟩ := h
      exact ⟨cs.toList, by simp⟩
theorem Td.u8 {t : TypeId} {cs : List Value} (hu : u8Shape Try.prog t = true) (h : Td enc Try.prog w t cs) : ∃ n : Nat, cs = [.int .u8 (n : Int)] ∧ n < 256 := by
  unfold u8Shape at hu
  split at hu
  · rename_i hu'
    obtain ⟨n, rfl, hw⟩ := h.int hu'
    have := bounds_u8 hw
    refine ⟨n.toNat, by rw [Int.toNat_of_nonneg this.1], by omega⟩
  · cases hu
theorem list_u8 (n : Nat) : ∀ (cs : List Value), cs.length = n → (∀ i, i < n → ∃ a : Nat, (cs.drop (i * 1)).take 1 = [.int .u8 (a : Int)] ∧ a < 256) → ∃ l : List Nat, cs = ageV l ∧ l.length = n ∧ ∀ a ∈ l, a < 256 := by
  induction n with
  | zero => intro cs h _; exact ⟨[], by rw [List.eq_nil_of_length_eq_zero h]; rfl, rfl, by simp⟩
  | succ n ih =>
    intro cs h hi
    cases cs with
    | nil => simp at h
    | cons c cs =>
      obtain ⟨a, h1, h2⟩ := hi 0 (by omega)
      obtain ⟨l, h3, h4, h5⟩ := ih cs (by simpa using h) (fun i hi' => by
        obtain ⟨b, h3, h4⟩ := hi (i + 1) (by omega)
        exact ⟨b, by simpa using h3, h4⟩)
      simp only [Nat.zero_mul, List.drop_zero, List.take_succ_cons, List.take_zero, List.cons.injEq, and_true] at h1
      refine ⟨a :: l, by rw [h1, h3]; rfl, by simp [h4], ?_⟩
      intro x hx
      rcases List.mem_cons.1 hx with rfl | hx
      · exact h2
      · exact h5 x hx
def setShape (P : Program) (t e : Nat) : Bool := match P.underlying t with
  | some (.array m e') => m == 2 && e' == e && P.cellsOf e == 1 && P.cellsOf t == 2 && (match P.underlying e with | some (.int .u64) => true | _ => false)
  | _ => false
theorem Td.set {t e : TypeId} {cs : List Value} (hs : setShape Try.prog t e = true) (h : Td enc Try.prog w t cs) : ∃ s : Set, cs = setV s := by
  unfold setShape at hs
  split at hs
  · rename_i m e' hu
    simp only [Bool.and_eq_true, beq_iff_eq] at hs
    obtain ⟨⟨⟨⟨rfl, rfl⟩, hc⟩, hc2⟩, hi⟩ := hs
    obtain ⟨h1, h2⟩ := h.arr hu
    rw [hc2] at h1
    split at hi
    · rename_i hui
      obtain ⟨a, ha, wa⟩ := (h2 0 (by omega)).int hui
      obtain ⟨b, hb, wb⟩ := (h2 1 (by omega)).int hui
      rw [hc] at ha hb
      have ba := bounds_u64 wa
      have bb := bounds_u64 wb
      match cs, h1 with
      | [x, y], _ =>
        simp at ha hb
        subst ha hb
        refine ⟨mk2 a.toNat b.toNat, ?_⟩
        unfold setV
        rw [lo_mk (by omega) (by omega), hi_mk (by omega) (by omega), Int.toNat_of_nonneg ba.1, Int.toNat_of_nonneg bb.1]
    · cases hi
  · cases hs
theorem open_key {b0 : Nat} {v : Value} {d : DataW H} {ps : List MemPlace} (hv : Value.okWide Try.prog w .any b0 40 v) (h : DataW.Trod enc Try.prog w 0 (fun _ => true) true 40 v d ps) : ∃ (s : Set) (l : List Nat), v = .agg (kV s l).toArray ∧ l.length = 128 ∧ ∀ a ∈ l, a < 256 := by
  obtain ⟨cs, rfl⟩ := agg_of (by kernel_rfl) hv
  have hT := Td.of h
  have e : (Value.agg cs.toArray).cells.toList = cs := rfl
  rw [e] at hT
  have hk : keyShape Try.prog 40 37 38 5 = true := by kernel_rfl
  have hss : setShape Try.prog 37 22 = true := by kernel_rfl
  unfold keyShape at hk
  split at hk
  · rename_i f1 f2 hu
    simp only [Bool.and_eq_true, beq_iff_eq, Bool.not_eq_true'] at hk
    obtain ⟨⟨⟨⟨⟨⟨⟨⟨⟨⟨n1, t1⟩, o1⟩, n2⟩, t2⟩, o2⟩, hs⟩, hc⟩, c1⟩, c2⟩, har⟩ := hk
    obtain ⟨hl, hf⟩ := hT.struct hu
    rw [hc] at hl
    have h1 := hf f1 (by simp)
    have h2 := hf f2 (by simp)
    rw [t1, o1, c1] at h1
    rw [t2, o2, c2] at h2
    obtain ⟨s, hs1⟩ := Td.set hss h1
    unfold arrShape at har
    split at har
    · rename_i k e' hua
      simp only [Bool.and_eq_true, beq_iff_eq] at har
      obtain ⟨⟨⟨rfl, rfl⟩, hca⟩, h8⟩ := har
      obtain ⟨g1, g2⟩ := h2.arr hua
      have c8 : Try.prog.cellsOf 5 = 1 := by kernel_rfl
      obtain ⟨l, hl1, hl2, hl3⟩ := list_u8 128 _ (by rw [g1, hca]) (fun i hi => by
        have := Td.u8 h8 (g2 i hi)
        rwa [c8] at this)
      refine ⟨s, l, ?_, hl2, hl3⟩
      have : cs = kV s l := by
        rw [kV, ← hs1, ← hl1, List.drop_zero]
        have e3 : (cs.drop 2).take 128 = cs.drop 2 := List.take_of_length_le (by rw [List.length_drop, hl]; omega)
        rw [e3, List.take_append_drop]
      rw [this]
    · cases har
  · cases hk
end
end Go.Proofs.Ytdkigndgdkaoiaa
