import Derived.Test.YtdkigndgdkaoiaaSd
namespace Go.Proofs.Ytdkigndgdkaoiaa
open Go B X
set_option linter.unusedVariables false
set_option maxRecDepth 8000
/-! ### sets in two words -/
abbrev Set := BitVec 128
def lo (s : Set) : Nat := s.toNat % 18446744073709551616
def hi (s : Set) : Nat := s.toNat / 18446744073709551616
def setV (s : Set) : List Value := [.int .u64 (lo s : Int), .int .u64 (hi s : Int)]
def setA (s : Set) : Value := .agg (setV s).toArray
theorem lo_lt (s : Set) : lo s < 18446744073709551616 := Nat.mod_lt _ (by decide)
theorem hi_lt (s : Set) : hi s < 18446744073709551616 := by
  have h := s.isLt
  unfold hi
  omega
theorem set_eq (s : Set) : s.toNat = lo s + hi s * 18446744073709551616 := by unfold lo hi; omega
theorem set_ext {s t : Set} (h1 : lo s = lo t) (h2 : hi s = hi t) : s = t := by
  apply BitVec.eq_of_toNat_eq
  rw [set_eq s, set_eq t, h1, h2]
def mk2 (a b : Nat) : Set := BitVec.ofNat 128 (a + b * 18446744073709551616)
theorem lo_mk {a b : Nat} (ha : a < 18446744073709551616) (hb : b < 18446744073709551616) : lo (mk2 a b) = a := by
  unfold lo mk2; rw [BitVec.toNat_ofNat]; omega
theorem hi_mk {a b : Nat} (ha : a < 18446744073709551616) (hb : b < 18446744073709551616) : hi (mk2 a b) = b := by
  unfold hi mk2; rw [BitVec.toNat_ofNat]; omega
theorem lo_bit (s : Set) (i : Nat) : (lo s).testBit i = (decide (i < 64) && s.getLsbD i) := by
  have e64 : (18446744073709551616 : Nat) = 2 ^ 64 := by decide
  unfold lo; rw [e64, Nat.testBit_mod_two_pow]; rfl
theorem hi_bit (s : Set) (i : Nat) : (hi s).testBit i = s.getLsbD (i + 64) := by
  have e64 : (18446744073709551616 : Nat) = 2 ^ 64 := by decide
  unfold hi; rw [e64, Nat.testBit_div_two_pow]; rfl
/-- is i in it? -/
def hasB (s : Set) (i : Int) : Bool := decide (0 ≤ i ∧ i < 128) && s.getLsbD i.toNat
theorem there_ok (i : Int) : Fc Try.prog 64 [.int .i64 i] [] Any (Is (.bool (decide (0 ≤ i ∧ i < 128))) []) := by
  refine fn_of Try.func64 rfl rfl rfl (fun E ro hR => ?_)
  refine run ?_
  refine gifD (fun h => ?_) (fun h => ?_)
  all_goals refine run ?_
  all_goals refine ret1 ?_
  · exact ⟨by simp [h], rfl⟩
  · exact ⟨by simp [h], rfl⟩
theorem word_bit (a j : Nat) : (a / 2 ^ j % 2 = 1) ↔ a.testBit j = true := by
  rw [← Nat.toNat_testBit]
  cases a.testBit j <;> simp
theorem bit_mod (a j : Nat) : a / 2 ^ j % 2 = if a.testBit j then 1 else 0 := by
  rw [← Nat.toNat_testBit]
  cases a.testBit j <;> rfl
theorem shrU (w n : Nat) (hn : n < 64) : shrI .u64 (w : Int) n = ((w / 2 ^ n : Nat) : Int) := by
  unfold shrI
  rw [show min n IntKind.u64.bits = n by show min n 64 = n; omega, Int.fdiv_eq_ediv_of_nonneg _ (by have : (0 : Int) ≤ 2 ^ n := Int.pow_nonneg (by omega); exact this)]
  rw [Int.natCast_ediv]
  congr 1
set_option maxRecDepth 4000 in
theorem Has_ok (s : Set) (i : Int) : Fc Try.prog 45 [setA s, .int .i64 i] [] Any (Is (.bool (hasB s i)) []) := by
  refine fn_of Try.func45 rfl rfl rfl (fun E ro hR => ?_)
  refine run ?_
  refine nbox fun p => ?_
  refine run ?_
  refine callv (there_ok i) ?_
  refine run ?_
  refine gifD (fun h => ?_) (fun h => ?_)
  · obtain ⟨i, rfl⟩ := Int.eq_ofNat_of_zero_le h.1
    have hl := lo_lt s
    have hh := hi_lt s
    have hib : hasB s (i : Int) = s.getLsbD i := by unfold hasB; rw [decide_eq_true h, Bool.true_and, Int.toNat_natCast]
    rw [hib]
    have key : ∀ w : Nat, w < 18446744073709551616 → w.testBit (i % 64) = s.getLsbD i → ∃ q : Nat, w / 2 ^ (i % 64) = q ∧ q < 18446744073709551616 ∧ decide ((q : Int) % ((2 : Nat) : Int) = 1) = s.getLsbD i := by
      intro w hw hb
      refine ⟨_, rfl, Nat.lt_of_le_of_lt (Nat.div_le_self _ _) hw, ?_⟩
      have := bit_mod w (i % 64)
      rw [hb] at this
      generalize w / 2 ^ (i % 64) = q at *
      cases hs : s.getLsbD i
      · rw [hs] at this
        exact decide_eq_false (by simp at this; omega)
      · rw [hs] at this
        exact decide_eq_true (by simp at this; omega)
    by_cases h6 : i < 64
    · refine run ?_
      rw [show ((i : Int) / ((64 : Nat) : Int)) = 0 by omega]
      refine run ?_
      rw [show ((i : Int) % ((64 : Nat) : Int)).toNat = i % 64 by omega, shrU _ _ (by omega)]
      obtain ⟨q, h0, h1, h2⟩ := key (lo s) hl (by rw [lo_bit, decide_eq_true (by omega), Nat.mod_eq_of_lt h6]; rfl)
      rw [h0]
      refine run ?_
      refine ret1 ?_
      exact ⟨congrArg Value.bool h2, rfl⟩
    · refine run ?_
      rw [show ((i : Int) / ((64 : Nat) : Int)) = 1 by omega]
      refine run ?_
      rw [show ((i : Int) % ((64 : Nat) : Int)).toNat = i % 64 by omega, shrU _ _ (by omega)]
      obtain ⟨q, h0, h1, h2⟩ := key (hi s) hh (by rw [hi_bit]; congr 1; omega)
      rw [h0]
      refine run ?_
      refine ret1 ?_
      exact ⟨congrArg Value.bool h2, rfl⟩
  · refine run ?_
    refine ret1 ?_
    exact ⟨by simp [hasB, h], rfl⟩
theorem orU (x y : Nat) (hx : x < 18446744073709551616) (hy : y < 18446744073709551616) : orI .u64 (x : Int) (y : Int) = ((x ||| y : Nat) : Int) := by
  have hxy : x ||| y < 2 ^ 64 := Nat.or_lt_two_pow (by simpa using hx) (by simpa using hy)
  show IntKind.u64.wrap ((BitVec.ofInt 64 (x : Int) ||| BitVec.ofInt 64 (y : Int)).toNat : Int) = _
  rw [show (BitVec.ofInt 64 (x : Int)) = BitVec.ofNat 64 x by simp, show (BitVec.ofInt 64 (y : Int)) = BitVec.ofNat 64 y by simp, BitVec.toNat_or, BitVec.toNat_ofNat, BitVec.toNat_ofNat, Nat.mod_eq_of_lt (by simpa using hx), Nat.mod_eq_of_lt (by simpa using hy), wrap_u64]
  have : (2 : Nat) ^ 64 = 18446744073709551616 := by decide
  omega
theorem setV_or (s t : Set) : setV (s ||| t) = [.int .u64 (orI .u64 (lo s) (lo t)), .int .u64 (orI .u64 (hi s) (hi t))] := by
  have e64 : (18446744073709551616 : Nat) = 2 ^ 64 := by decide
  rw [orU _ _ (lo_lt s) (lo_lt t), orU _ _ (hi_lt s) (hi_lt t), setV]
  have e1 : lo (s ||| t) = lo s ||| lo t := by
    unfold lo; rw [BitVec.toNat_or, e64]; exact Nat.or_mod_two_pow
  have e2 : hi (s ||| t) = hi s ||| hi t := by
    unfold hi
    rw [BitVec.toNat_or, e64]
    apply Nat.eq_of_testBit_eq
    intro j
    rw [Nat.testBit_or, Nat.testBit_div_two_pow, Nat.testBit_div_two_pow, Nat.testBit_div_two_pow, Nat.testBit_or]
  rw [e1, e2]
theorem Union_ok (s t : Set) : Fc Try.prog 65 [setA s, setA t] [] Any (Is (setA (s ||| t)) []) := by
  refine fn_of Try.func65 rfl rfl rfl (fun E ro hR => ?_)
  refine run ?_
  refine nbox fun p => ?_
  refine run ?_
  refine nbox fun q => ?_
  refine run ?_
  refine nvar fun r => ?_
  refine run ?_
  refine ret1 ?_
  rw [setA, setV_or]
  exact ⟨rfl, rfl⟩
/-- i alone -/
def oneS (i : Int) : Set := if 0 ≤ i ∧ i < 128 then 1#128 <<< i.toNat else 0#128
theorem setV_zero : setV 0#128 = [.int .u64 0, .int .u64 0] := rfl
theorem one_lo (i : Nat) (h : i < 64) : setV (1#128 <<< i) = [.int .u64 ((2 ^ i : Nat) : Int), .int .u64 0] := by
  have h1 : ∀ i : Nat, i < 64 → lo (1#128 <<< i) = 2 ^ i ∧ hi (1#128 <<< i) = 0 := by decide +kernel
  unfold setV; rw [(h1 i h).1, (h1 i h).2]; rfl
theorem one_hi (i : Nat) (h : 64 ≤ i) (h2 : i < 128) : setV (1#128 <<< i) = [.int .u64 0, .int .u64 ((2 ^ (i % 64) : Nat) : Int)] := by
  have h1 : ∀ i : Nat, i < 64 → lo (1#128 <<< (i + 64)) = 0 ∧ hi (1#128 <<< (i + 64)) = 2 ^ i := by decide +kernel
  obtain ⟨j, rfl⟩ : ∃ j, i = j + 64 := ⟨i - 64, by omega⟩
  unfold setV; rw [(h1 j (by omega)).1, (h1 j (by omega)).2, show (j + 64) % 64 = j by omega]; rfl
theorem shl1 (n : Nat) (hn : n < 64) : shlI .u64 1 n = ((2 ^ n : Nat) : Int) := by
  have h2 : ∀ n : Nat, n < 64 → shlI .u64 1 n = ((2 ^ n : Nat) : Int) := by decide +kernel
  exact h2 n hn
set_option maxRecDepth 4000 in
theorem one_ok (i : Int) : Fc Try.prog 66 [.int .i64 i] [] Any (Is (setA (oneS i)) []) := by
  refine fn_of Try.func66 rfl rfl rfl (fun E ro hR => ?_)
  refine run ?_
  refine nvar fun p => ?_
  refine run ?_
  refine nvar fun q => ?_
  refine run ?_
  refine callv (there_ok i) ?_
  refine run ?_
  refine wifD (fun h => ?_) (fun h => ?_)
  · obtain ⟨i, rfl⟩ := Int.eq_ofNat_of_zero_le h.1
    have e : oneS (i : Int) = 1#128 <<< i := by unfold oneS; rw [if_pos h]; rfl
    rw [e]
    by_cases h6 : i < 64
    · refine run ?_
      rw [show ((i : Int) / ((64 : Nat) : Int)) = 0 by omega, show ((i : Int) % ((64 : Nat) : Int)).toNat = i by omega, shl1 _ h6]
      have e2 := one_lo i h6
      refine run ?_
      refine ret1 ?_
      rw [setA, e2]
      exact ⟨rfl, rfl⟩
    · refine run ?_
      rw [show ((i : Int) / ((64 : Nat) : Int)) = 1 by omega, show ((i : Int) % ((64 : Nat) : Int)).toNat = i % 64 by omega, shl1 _ (by omega)]
      have e2 := one_hi i (by omega) (by omega)
      refine run ?_
      refine ret1 ?_
      rw [setA, e2]
      exact ⟨rfl, rfl⟩
  · refine run ?_
    refine ret1 ?_
    unfold oneS
    rw [if_neg h]
    exact ⟨rfl, rfl⟩
theorem With_ok (s : Set) (i : Int) : Fc Try.prog 47 [setA s, .int .i64 i] [] Any (Is (setA (s ||| oneS i)) []) := by
  refine fn_of Try.func47 rfl rfl rfl (fun E ro hR => ?_)
  refine run ?_
  refine nbox fun p => ?_
  refine run ?_
  refine nvar fun r => ?_
  refine run ?_
  refine W_draw [(0, true), (1, true), (2, false), (3, false), (4, false)] [.box p _ _] wide (.cons (by exact .there .here) .nil) (by kernel_rfl) rfl ?_
  refine run ?_
  refine callv (one_ok i) ?_
  refine run ?_
  refine callv (Union_ok s (oneS i)) ?_
  refine run ?_
  refine ret1 ?_
  exact ⟨rfl, rfl⟩
end Go.Proofs.Ytdkigndgdkaoiaa
