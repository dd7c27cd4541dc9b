import Derived.Test.YtdkigndgdkaoiaaSnum
namespace Go.Proofs.Ytdkigndgdkaoiaa
open Go B X
set_option linter.unusedVariables false
set_option maxRecDepth 8000
set_option maxRecDepth 4000 in
theorem rTake_ok (xs : List Int) (hx : Bytes xs) (A : Option Addr) (c : Nat) :
    Fc Try.prog 21 [.slice A xs.length c] [] (fun h => Reads h 1 A xs.length c (u8s xs)) (Is (n3 (tk 0 0 xs)) []) := by
  refine fn_of Try.func21 rfl rfl rfl (fun E ro hR => ?_)
  have hmax := hR.max
  refine run ?_
  refine loop (σ := Nat × Nat) (0, 0) (fun x => [(0, .slice A xs.length c), (5, .int .u64 (x.2 : Int)), (6, .int .u64 ((128 ^ x.1 : Nat) : Int)), (7, .int .i64 (x.1 : Int))]) (fun _ => [])
    (fun x => x.1 ≤ xs.length ∧ x.1 ≤ 9 ∧ x.2 < 128 ^ x.1 ∧ tk 0 0 xs = tk x.1 x.2 (xs.drop x.1)) (fun x => xs.length - x.1) ⟨Nat.zero_le _, by omega, by simp, rfl⟩ ?_
  rintro ⟨i, n⟩ ⟨hi, hi9, hn, he⟩
  dsimp only at hi hi9 hn he ⊢
  by_cases hlt : i = xs.length
  · refine run ?_
    refine ret3 ?_
    rw [he, List.drop_eq_nil_of_le (by omega), tk]
    exact ⟨rfl, rfl⟩
  have hi2 : i < xs.length := by omega
  have hxi : xs.drop i = xs[i] :: xs.drop (i + 1) := List.drop_eq_getElem_cons hi2
  have hel : xs[i]? = some xs[i] := List.getElem?_eq_getElem hi2
  generalize hxe : xs[i] = x at *
  have hb : 0 ≤ x ∧ x < 256 := by rw [← hxe]; exact hx _ (List.getElem_mem hi2)
  have hp9 := pow128 i hi9
  by_cases h91 : i = 9 ∧ 1 < x
  · refine run ?_
    refine ret3 ?_
    rw [he, hxi, tk, if_pos h91]
    exact ⟨rfl, rfl⟩
  have hbnd : (x.toNat % 128) * 128 ^ i + n < 18446744073709551616 := by
    by_cases h9 : i = 9
    · subst h9
      have : x.toNat % 128 ≤ 1 := by omega
      have h4 : (x.toNat % 128) * 128 ^ 9 ≤ 1 * 128 ^ 9 := Nat.mul_le_mul_right _ this
      omega
    · have h5 := pow128 (i + 1) (by omega)
      rw [Nat.pow_succ] at h5
      have h4 : (x.toNat % 128) * 128 ^ i ≤ 127 * 128 ^ i := Nat.mul_le_mul_right _ (by omega)
      omega
  have ee : x % ((127 + 1 : Nat) : Int) * ((128 ^ i : Nat) : Int) = ((x.toNat % 128 * 128 ^ i : Nat) : Int) := by
    rw [show x % ((127 + 1 : Nat) : Int) = ((x.toNat % 128 : Nat) : Int) by omega]; push_cast; rfl
  have fin1 : x < 128 → x = 0 ∧ 0 < i → tk 0 0 xs = (0, 0, 81) := fun a b => by rw [he, hxi, tk, if_neg h91, if_pos a, if_pos b]
  have fin2 : x < 128 → ¬ (x = 0 ∧ 0 < i) → tk 0 0 xs = (n + x.toNat % 128 * 128 ^ i, i + 1, 0) := fun a b => by
    rw [he, hxi, tk, if_neg h91, if_pos a, if_neg b, show x.toNat % 128 = x.toNat by omega]
  by_cases hx1 : x < 128
  · by_cases h9 : i = 9
    all_goals by_cases h0 : x = 0
    all_goals by_cases hi0 : 0 < i
    all_goals first | (exfalso; omega) | skip
    all_goals
      refine run ?_
      rw [ee]
      refine run ?_
      try rw [ee]
      refine run ?_
      try refine graw ?_
      refine run ?_
      refine ret3 ?_
      first | (rw [fin1 hx1 ⟨h0, hi0⟩]; exact ⟨rfl, rfl⟩) | (rw [fin2 hx1 (by omega)]; exact ⟨rfl, rfl⟩)
  · have hi8 : i < 9 := by
      rcases Nat.lt_or_ge i 9 with h | h
      · exact h
      · exact absurd ⟨by omega, by omega⟩ h91
    have h5 := pow128 (i + 1) (by omega)
    rw [Nat.pow_succ] at h5
    refine run ?_
    rw [ee]
    refine run ?_
    refine again (i + 1, n + (x.toNat % 128) * 128 ^ i) ⟨show i + 1 ≤ xs.length by omega, show i + 1 ≤ 9 by omega, ?_, ?_⟩ (show xs.length - (i + 1) < xs.length - i by omega) ?_
    · dsimp only
      rw [Nat.pow_succ]
      have h4 : (x.toNat % 128) * 128 ^ i ≤ 127 * 128 ^ i := Nat.mul_le_mul_right _ (by omega)
      omega
    · dsimp only
      rw [he, hxi, tk, if_neg h91, if_neg hx1]
    · exact ⟨rfl, rfl, by rw [Nat.pow_succ]; rfl, rfl, trivial⟩
end Go.Proofs.Ytdkigndgdkaoiaa
