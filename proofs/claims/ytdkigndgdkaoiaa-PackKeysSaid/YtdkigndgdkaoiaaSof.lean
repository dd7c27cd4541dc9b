import Derived.Test.YtdkigndgdkaoiaaLof
import Derived.Test.YtdkigndgdkaoiaaSnum3
namespace Go.Proofs.Ytdkigndgdkaoiaa
open Go B X
set_option linter.unusedVariables false
set_option maxRecDepth 8000
theorem dec2 (q : Nat) (b : Bool) (h : q % 2 = if b then 1 else 0) : decide (((q : Nat) : Int) % ((1 + 1 : Nat) : Int) = 1) = b := by
  cases b
  · exact decide_eq_false (by simp at h; omega)
  · exact decide_eq_true (by simp at h; omega)
theorem halves (w : Nat) (hw : w < 18446744073709551616) : ∃ q : Nat → Nat, q 0 = w ∧ (∀ j, q (j + 1) = q j / 2) ∧ (∀ j, q j < 18446744073709551616) ∧ ∀ j, decide (((q j : Nat) : Int) % ((1 + 1 : Nat) : Int) = 1) = w.testBit j := by
  refine ⟨fun j => w / 2 ^ j, by simp, fun j => by dsimp only; rw [Nat.pow_succ, ← Nat.div_div_eq_div_mul], fun j => Nat.lt_of_le_of_lt (Nat.div_le_self _ _) hw, fun j => ?_⟩
  exact dec2 _ _ (bit_mod w j)
theorem refHas_ok (s : Set) (i : Int) : Fc Try.prog 50 [setA s, .int .i64 i] [] Any (Is (.bool (hasB s i)) []) := by
  refine fn_of Try.func50 rfl rfl rfl (fun E ro hR => ?_)
  refine run ?_
  refine nbox fun p => ?_
  refine run ?_
  by_cases h : 0 ≤ i ∧ i < 128
  rotate_left
  · have e : hasB s i = false := by simp [hasB, h]
    rw [e]
    by_cases h0 : i < 0
    all_goals
      refine run ?_
      refine ret1 ?_
      exact ⟨rfl, rfl⟩
  obtain ⟨i, rfl⟩ := Int.eq_ofNat_of_zero_le h.1
  have hl := lo_lt s
  have hh := hi_lt s
  have hib : hasB s (i : Int) = s.getLsbD i := by unfold hasB; rw [decide_eq_true h, Bool.true_and, Int.toNat_natCast]
  rw [hib]
  by_cases h6 : 63 < i
  all_goals
    refine run ?_
  · have hb : (hi s).testBit (i % 64) = s.getLsbD i := by rw [hi_bit]; congr 1; omega
    obtain ⟨q, h0, h1, h2, h3⟩ := halves (hi s) hh
    have h3 := h3 (i % 64)
    rw [hb] at h3
    rw [← h0]
    refine loop (σ := Nat) 0 (fun j => [(1, .int .i64 (((i % 64 : Nat) : Int) - j)), (5, .int .u64 (q j : Int))]) (fun _ => []) (fun j => j ≤ i % 64) (fun j => i % 64 - j) (Nat.zero_le _) ?_ ?_
    rotate_left
    · exact ⟨congrArg some (congrArg (Value.int .i64) (by omega)), rfl, trivial⟩
    intro j hj
    have hwj := h2 j
    have hs1 := h1 j
    by_cases hlt : j = i % 64
    · subst hlt
      refine run ?_
      refine ret1 ?_
      exact ⟨congrArg Value.bool h3, rfl⟩
    · refine run ?_
      rw [show (q j : Int) / ((1 + 1 : Nat) : Int) = (q (j + 1) : Int) by omega]
      exact again (j + 1) (by omega) (by omega)
  · have hb : (lo s).testBit (i % 64) = s.getLsbD i := by rw [lo_bit, decide_eq_true (by omega), Bool.true_and]; congr 1; omega
    obtain ⟨q, h0, h1, h2, h3⟩ := halves (lo s) hl
    have h3 := h3 (i % 64)
    rw [hb] at h3
    rw [← h0]
    refine loop (σ := Nat) 0 (fun j => [(1, .int .i64 (((i % 64 : Nat) : Int) - j)), (5, .int .u64 (q j : Int))]) (fun _ => []) (fun j => j ≤ i % 64) (fun j => i % 64 - j) (Nat.zero_le _) ?_ ?_
    rotate_left
    · exact ⟨congrArg some (congrArg (Value.int .i64) (by omega)), rfl, trivial⟩
    intro j hj
    have hwj := h2 j
    have hs1 := h1 j
    by_cases hlt : j = i % 64
    · subst hlt
      refine run ?_
      refine ret1 ?_
      exact ⟨congrArg Value.bool h3, rfl⟩
    · refine run ?_
      rw [show (q j : Int) / ((1 + 1 : Nat) : Int) = (q (j + 1) : Int) by omega]
      exact again (j + 1) (by omega) (by omega)
/-- 2 to the n, step by step -/
theorem doubles : ∃ u : Nat → Nat, u 0 = 1 ∧ (∀ j, u (j + 1) = u j * 2) ∧ (∀ j, j < 63 → u j ≤ 4611686018427387904) ∧ ∀ j, u j = 2 ^ j := by
  refine ⟨fun j => 2 ^ j, rfl, fun j => Nat.pow_succ .., fun j hj => ?_, fun j => rfl⟩
  have : (2 : Nat) ^ j ≤ 2 ^ 62 := Nat.pow_le_pow_right (by omega) (by omega)
  simpa using this
theorem refOf_ok (l : List Int) (A : Option Addr) (c : Nat) : Fc Try.prog 49 [.slice A l.length c] [] (fun h => Reads h 1 A l.length c (l.map (Value.int .i64))) (Is (setA (ofL l)) []) := by
  refine fn_of Try.func49 rfl rfl rfl (fun E ro hR => ?_)
  have hmax := hR.max
  refine run ?_
  refine nvar fun p => ?_
  refine run ?_
  refine nvar fun q => ?_
  refine run ?_
  refine loop (σ := Nat × Set) (0, 0#128) (fun x => [(0, .slice A l.length c), (2, .pointer (some ⟨p, 0, none⟩)), (3, .pointer (some ⟨q, 0, none⟩)), (4, .int .i64 (x.1 : Int))]) (fun x => [.box p 37 (setV 0#128), .box q 37 (setV x.2)]) (fun x => x.1 ≤ 128 ∧ ∀ j, x.2.getLsbD j = (decide (j < x.1) && decide ((j : Int) ∈ l))) (fun x => 128 - x.1) ⟨by simp, by simp⟩ ?_
  rintro ⟨n, s⟩ ⟨hn, hs⟩
  dsimp only at hn hs ⊢
  by_cases hlt : n = 128
  · subst hlt
    refine run ?_
    refine ret1 ?_
    refine ⟨?_, rfl⟩
    rw [show s = ofL l from set_bits (fun j hj => by rw [hs, ofL_bit])]
    rfl
  have hlt' : n < 128 := by omega
  have hbn : s.getLsbD n = false := by rw [hs]; simp
  obtain ⟨u, u0, u1, u2, u3⟩ := doubles
  refine run ?_
  refine loop (σ := Nat) 0 (fun k => [(0, .slice A l.length c), (2, .pointer (some ⟨p, 0, none⟩)), (3, .pointer (some ⟨q, 0, none⟩)), (4, .int .i64 (n : Int)), (13, .slice A l.length c), (14, .int .i64 (l.length : Int)), (15, .int .i64 (k : Int))]) (fun _ => [.box p 37 (setV 0#128), .box q 37 (setV s)]) (fun k => k ≤ l.length ∧ (n : Int) ∉ l.take k) (fun k => l.length - k) ⟨Nat.zero_le _, by simp⟩ ?_
  rintro k ⟨hk, hnk⟩
  by_cases hke : k = l.length
  · subst hke
    rw [List.take_length] at hnk
    refine run ?_
    refine again (n + 1, s) ⟨by omega, fun j => ?_⟩ (by dsimp only; omega)
    rw [hs]
    by_cases hj : j = n
    · subst hj; simp [hnk]
    · simp [show (j < n + 1) ↔ j < n by omega]
  have hk2 : k < l.length := by omega
  have hel : l[k]? = some l[k] := List.getElem?_eq_getElem hk2
  have htk : l.take (k + 1) = l.take k ++ [l[k]] := by rw [List.take_succ_eq_append_getElem hk2]
  have hmem : l[k] ∈ l := List.getElem_mem hk2
  generalize l[k] = x at *
  by_cases hx : x = (n : Int)
  rotate_left
  · refine run ?_
    exact again (k + 1) ⟨by omega, by rw [htk, List.mem_append]; simp [hnk]; omega⟩ (by omega)
  subst hx
  refine run ?_
  refine callv (refHas_ok s n) ?_
  refine run ?_
  have hbf : hasB s (n : Int) = false := by unfold hasB; rw [Int.toNat_natCast, hbn, Bool.and_false]
  rw [hbf]
  refine run ?_
  refine loop (σ := Nat) 0 (fun j => [(0, .slice A l.length c), (2, .pointer (some ⟨p, 0, none⟩)), (3, .pointer (some ⟨q, 0, none⟩)), (4, .int .i64 (n : Int)), (7, .int .u64 (u j : Int)), (8, .int .i64 (j : Int))]) (fun _ => [.box p 37 (setV 0#128), .box q 37 (setV s)]) (fun j => j ≤ n % 64) (fun j => n % 64 - j) (Nat.zero_le _) ?_ ?_
  rotate_left
  · exact ⟨rfl, rfl, rfl, rfl, congrArg some (congrArg (Value.int .u64) (by rw [u0]; rfl)), rfl, trivial⟩
  intro j hj
  have hj1 := u1 j
  by_cases hje : j = n % 64
  rotate_left
  · have hj2 := u2 j (by omega)
    refine run ?_
    rw [show (u j : Int) * 2 = (u (j + 1) : Int) by omega]
    exact again (j + 1) (by omega) (by omega)
  subst hje
  have hor := or_oneS s n hlt' hbn
  have hfin : ∀ j, (s ||| oneS n).getLsbD j = (decide (j < n + 1) && decide ((j : Int) ∈ l)) := fun j => by
    rw [BitVec.getLsbD_or, hs, oneS_bit]
    by_cases hj : j = n
    · subst hj; simp [hmem]; omega
    · simp [show (j < n + 1) ↔ j < n by omega, show ¬ (j : Int) = n by omega]
  have hl := lo_lt s
  have hh := hi_lt s
  have hb1 := lo_lt (s ||| oneS n)
  have hb2 := hi_lt (s ||| oneS n)
  rw [← u3] at hor
  by_cases h6 : n < 64
  · rw [if_pos h6] at hor
    have hor' := hor
    rw [setV] at hor'
    simp only [List.cons.injEq, Value.int.injEq, true_and, and_true] at hor'
    refine run ?_
    rw [show (n : Int) / ((63 + 1 : Nat) : Int) = 0 by omega]
    refine run ?_
    refine again (n + 1, s ||| oneS n) ⟨by omega, hfin⟩ (by dsimp only; omega) (hS := ?_)
    show SubI _ [_, .box q 37 (setV (s ||| oneS n))]
    rw [hor]
    exact subi
  · rw [if_neg h6] at hor
    have hor' := hor
    rw [setV] at hor'
    simp only [List.cons.injEq, Value.int.injEq, true_and, and_true] at hor'
    refine run ?_
    rw [show (n : Int) / ((63 + 1 : Nat) : Int) = 1 by omega]
    refine run ?_
    refine again (n + 1, s ||| oneS n) ⟨by omega, hfin⟩ (by dsimp only; omega) (hS := ?_)
    show SubI _ [_, .box q 37 (setV (s ||| oneS n))]
    rw [hor]
    exact subi
end Go.Proofs.Ytdkigndgdkaoiaa
