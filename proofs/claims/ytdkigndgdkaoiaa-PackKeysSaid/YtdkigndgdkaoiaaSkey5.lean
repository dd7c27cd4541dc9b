import Derived.Test.YtdkigndgdkaoiaaLeq
import Derived.Test.YtdkigndgdkaoiaaSkey4
namespace Go.Proofs.Ytdkigndgdkaoiaa
open Go B X
set_option linter.unusedVariables false
set_option maxRecDepth 8000
theorem Zig_ok (x : Int) (h0 : -9223372036854775808 ≤ x) (h1 : x ≤ 9223372036854775807) : Fc Try.prog 20 [.int .i64 x] [] Any (Is (.int .u64 (zigS x)) []) := by
  refine fn_of Try.func20 rfl rfl rfl (fun E ro hR => ?_)
  have e1 : shrI .i64 x 63 = if x < 0 then -1 else 0 := by
    unfold shrI
    rw [show min 63 IntKind.i64.bits = 63 by decide, show (2 : Int) ^ 63 = 9223372036854775808 by decide, Int.fdiv_eq_ediv_of_nonneg _ (by omega)]
    split <;> omega
  unfold zigS
  by_cases hx : x < 0
  · refine run ?_
    refine graw ?_
    refine run ?_
    refine graw ?_
    refine run ?_
    refine ret1 ?_
    refine ⟨congrArg _ ?_, rfl⟩
    rw [if_pos hx, show (Int.toNat 63) = 63 from rfl, e1, if_pos hx, show IntKind.u64.wrap (-1) = 18446744073709551615 by decide]
    have e0 : shlI .u64 (IntKind.u64.wrap x) 1 = (2 * x) % 18446744073709551616 := by
      unfold shlI
      rw [show min 1 IntKind.u64.bits = 1 by decide, wrap_u64, wrap_u64]; omega
    rw [show (Int.toNat 1) = 1 from rfl, e0, (xor_u64 _ (by omega) (by omega)).2]
    omega
  · refine run ?_
    refine graw ?_
    refine run ?_
    refine ret1 ?_
    refine ⟨congrArg _ ?_, rfl⟩
    rw [if_neg hx, show (Int.toNat 63) = 63 from rfl, e1, if_neg hx, show IntKind.u64.wrap 0 = 0 by decide, (xor_u64 _ (by omega) (by omega)).1]
    omega
theorem Zag_ok (x : Int) (h0 : 0 ≤ x) (h1 : x < 18446744073709551616) : Fc Try.prog 19 [.int .u64 x] [] Any (Is (.int .i64 (zagS x)) []) := by
  refine fn_of Try.func19 rfl rfl rfl (fun E ro hR => ?_)
  refine run ?_
  refine ret1 ?_
  refine ⟨congrArg _ ?_, rfl⟩
  unfold zagS
  by_cases hx : x % 2 = 0
  · rw [if_pos hx, show x % ((2 : Nat) : Int) = 0 by omega, show IntKind.i64.wrap (0 - 0) = 0 by decide, show x / ((2 : Nat) : Int) = x / 2 by omega, (xor_i64 _ (by omega) (by omega)).1]
  · rw [if_neg hx, show x % ((2 : Nat) : Int) = 1 by omega, show IntKind.i64.wrap (0 - 1) = -1 by decide, show x / ((2 : Nat) : Int) = x / 2 by omega, (xor_i64 _ (by omega) (by omega)).2]
theorem Put_ok (xs : List Int) (n : Nat) (A : Option Addr) (c : Nat) (hn : n < 18446744073709551616) (hc : xs.length ≤ 140737488351232) :
    Fc Try.prog 16 [.slice A xs.length c, .int .u64 (n : Int)] [] (fun h => Reads h 1 A xs.length c (u8s xs)) (IsRow 5 1 (xs ++ vb n).length (u8s (xs ++ vb n))) := by
  refine fn_of Try.func16 rfl rfl rfl (fun E ro hR => ?_)
  have hv := vb_len n hn
  refine run ?_
  refine nmake fun B => ?_
  refine run ?_
  refine napp (ys := u8s xs) (h1 := u8s_one _) fun B' b' hb' => ?_
  refine run ?_
  rw [show Int.toNat 0 + xs.length = xs.length from Nat.zero_add _, show List.replicate (Int.toNat 0) (Value.int .u8 0) ++ u8s xs = u8s xs from rfl]
  refine call (put_ok xs n B' b' (by omega)) ?_
  rintro _ _ ⟨C, d, rfl, rfl⟩
  refine run ?_
  refine ret1 (S' := [.row _ _ _ _ _ _]) ?_
  exact ⟨_, _, rfl, rfl⟩
theorem first8_ok : Fc Try.prog 15 [] [] Any (Is (.bool true) []) := by
  refine fn_of Try.func15 rfl rfl rfl (fun E ro hR => ?_)
  refine run ?_
  refine nlit fun D => ?_
  refine run ?_
  refine call (Put_ok [7] 300 D 1 (by omega) (by simp)) ?_
  rintro _ _ ⟨B, b, rfl, rfl⟩
  refine run ?_
  have sp := Take_ok ([7] ++ vb 300) (fun x hx => by
    rcases List.mem_append.1 hx with hx | hx
    · simp at hx; omega
    · exact bytes_vb _ x hx) B b 1 (by omega)
  rw [show takeS ([7] ++ vb 300) 1 = (300, 3, 0) by decide +kernel] at sp
  simp only [v3] at sp
  refine callv (sp) ?_
  refine run ?_
  refine callv (Zig_ok (-1) (by omega) (by omega)) ?_
  refine run ?_
  rw [show zigS (-1) = 1 by decide]
  refine run ?_
  refine callv (Zag_ok 3 (by omega) (by omega)) ?_
  refine run ?_
  rw [show zagS 3 = -2 by decide]
  refine run ?_
  refine ret1 ?_
  exact ⟨rfl, rfl⟩
end Go.Proofs.Ytdkigndgdkaoiaa
