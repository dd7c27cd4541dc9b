import Derived.Test.YtdkigndgdkaoiaaSbits
import Derived.Test.YtdkigndgdkaoiaaLnum
namespace Go.Proofs.Ytdkigndgdkaoiaa
open Go B X
set_option linter.unusedVariables false
set_option maxRecDepth 8000
/-- a row of its own comes back -/
def IsRow (e size n : Nat) (xs : List Value) : Value → List It → Prop := fun v S => ∃ A c, v = .slice A n c ∧ S = [.row e size A n c xs]
theorem or128 (k : Nat) : orI .u8 (IntKind.u8.wrap (k : Int)) 128 = ((k % 128 + 128 : Nat) : Int) := by
  rw [wrap_u8]
  have h1 : ((k : Int) % 256) = ((k % 256 : Nat) : Int) := by omega
  rw [h1]
  have h2 : ∀ x : Nat, x < 256 → orI .u8 (x : Int) 128 = ((x % 128 + 128 : Nat) : Int) := by decide +kernel
  rw [h2 _ (Nat.mod_lt _ (by omega))]
  omega
theorem u8s_snoc (l : List Int) (x : Int) : u8s l ++ [Value.int .u8 x] = u8s (l ++ [x]) := by simp [u8s]
theorem put_ok (xs : List Int) (n : Nat) (A : Option Addr) (c : Nat) (hl : xs.length + (vb n).length ≤ 140737488355328) :
    Fc Try.prog 44 [.slice A xs.length c, .int .u64 (n : Int)] [.row 5 1 A xs.length c (u8s xs)] Any (IsRow 5 1 (xs ++ vb n).length (u8s (xs ++ vb n))) := by
  refine fn_of Try.func44 rfl rfl rfl (fun E ro hR => ?_)
  refine run ?_
  refine loop (σ := Option Addr × Nat × Nat × Nat × List Value) (A, xs.length, c, n, u8s xs) (fun x => [(0, .slice x.1 x.2.1 x.2.2.1), (1, .int .u64 (x.2.2.2.1 : Int))]) (fun x => [.row 5 1 x.1 x.2.1 x.2.2.1 x.2.2.2.2])
    (fun x => ∃ ys, x.2.1 = ys.length ∧ x.2.2.2.2 = u8s ys ∧ xs ++ vb n = ys ++ vb x.2.2.2.1) (fun x => x.2.2.2.1) ⟨xs, rfl, rfl, rfl⟩ ?_
  rintro ⟨B, _, b, k, _⟩ ⟨ys, rfl, rfl, he⟩
  dsimp only at he ⊢
  have hlen : ys.length + (vb k).length ≤ 140737488355328 := by
    have := congrArg List.length he
    simp only [List.length_append] at this
    omega
  have hp := vb_pos k
  refine run ?_
  refine wifD (fun hk => ?_) (fun hk => ?_)
  · have hk' : ¬ k < 128 := by omega
    refine run ?_
    refine graw ?_
    refine run ?_
    refine nlit fun D => ?_
    refine run ?_
    refine napp fun B' b' hb' => ?_
    refine run ?_
    rw [or128]
    refine again (B', _, b', k / 128, _) ?_ (show k / 128 < k by omega)
    exact ⟨ys ++ [((k % 128 + 128 : Nat) : Int)], by simp, u8s_snoc _ _, by rw [he, vb_big hk']; simp⟩
  · have hk' : k < 128 := by omega
    refine run ?_
    refine nlit fun D => ?_
    refine run ?_
    refine napp fun B' b' hb' => ?_
    refine run ?_
    refine ret1 (S' := [.row _ _ _ _ _ _]) ?_
    rw [he, vb_small hk', List.length_append, ← u8s_snoc]
    exact ⟨_, _, rfl, rfl⟩
set_option maxRecDepth 4000 in
theorem Take_ok (xs : List Int) (hx : Bytes xs) (A : Option Addr) (c : Nat) (at_ : Int) (hat : at_ ≤ 9223372036854775807) :
    Fc Try.prog 17 [.slice A xs.length c, .int .i64 at_] [] (fun h => Reads h 1 A xs.length c (u8s xs)) (Is (v3 (takeS xs at_)) []) := by
  refine fn_of Try.func17 rfl rfl rfl (fun E ro hR => ?_)
  have hcap := hR.cap
  have hmax := hR.max
  by_cases h1 : at_ < 0
  · refine run ?_
    refine ret3 ?_
    exact ⟨by simp [takeS, h1, v3], rfl⟩
  by_cases h2 : (xs.length : Int) < at_
  · refine run ?_
    refine ret3 ?_
    exact ⟨by simp [takeS, h2, v3], rfl⟩
  obtain ⟨m, rfl⟩ : ∃ m : Nat, at_ = (m : Int) := ⟨at_.toNat, by omega⟩
  have hm : m ≤ xs.length := by omega
  refine run ?_
  refine ncut ?_
  refine run ?_
  have rd2 : Ro E (fun h => Reads h 1 (cutA A c 1 (m : Int)) (xs.length - m) (c - m) (u8s (xs.drop m))) := ro.imp (fun h r => by
    have := r.drop m hm
    rw [Nat.mul_one, show (u8s xs).drop m = u8s (xs.drop m) by simp [u8s]] at this
    simpa [cutA] using this)
  have hcut : cutA A c 1 (m : Int) = cutA A c 1 (m : Int) := rfl
  refine loop (σ := Nat × Nat) (0, 0) (fun x => [(1, .int .i64 (m : Int)), (7, .int .u64 (x.2 : Int)), (20, .slice (cutA A c 1 (m : Int)) (xs.length - m) (c - m)), (21, .int .i64 ((xs.length - m : Nat) : Int)), (22, .int .i64 (x.1 : Int))]) (fun _ => [])
    (fun x => x.1 ≤ xs.length - m ∧ x.1 ≤ 9 ∧ x.2 < 128 ^ x.1 ∧ tk 0 0 (xs.drop m) = tk x.1 x.2 (xs.drop (m + x.1))) (fun x => xs.length - m - x.1) ⟨Nat.zero_le _, by omega, by simp, rfl⟩ ?_
  rintro ⟨i, n⟩ ⟨hi, hi9, hn, he⟩
  dsimp only at hi hi9 hn he ⊢
  have hfin : ∀ l, xs.drop (m + i) = l → takeS xs (m : Int) = (match tk i n l with | (n, w, e) => if e = 0 then ((n : Int), (m : Int) + w, 0) else (0, 0, (e : Int))) := by
    rintro l rfl
    simp only [takeS, if_neg (show ¬ ((m : Int) < 0 ∨ (xs.length : Int) < (m : Int)) by omega), Int.toNat_natCast, he]
  by_cases hlt : i = xs.length - m
  · refine run ?_
    refine ret3 ?_
    rw [hfin [] (List.drop_eq_nil_of_le (by omega))]
    exact ⟨rfl, rfl⟩
  have hi2 : m + i < xs.length := by omega
  have hxi : xs.drop (m + i) = xs[m + i] :: xs.drop (m + (i + 1)) := by rw [List.drop_eq_getElem_cons hi2]; rfl
  have hel : (xs.drop m)[i]? = some xs[m + i] := by rw [List.getElem?_drop, List.getElem?_eq_getElem hi2]
  generalize hxe : xs[m + i] = x at *
  have hb : 0 ≤ x ∧ x < 256 := by rw [← hxe]; exact hx _ (List.getElem_mem hi2)
  have hfin := hfin _ hxi
  have hp9 := pow128 i hi9
  by_cases h91 : i = 9 ∧ 1 < x
  · refine run ?_
    refine ret3 ?_
    rw [hfin, tk, if_pos h91]
    exact ⟨rfl, rfl⟩
  have hbnd : (x.toNat % 128) * 128 ^ i + n < 18446744073709551616 := by
    by_cases h9 : i = 9
    · subst h9
      have : x.toNat % 128 ≤ 1 := by omega
      have h4 : (x.toNat % 128) * 128 ^ 9 ≤ 1 * 128 ^ 9 := Nat.mul_le_mul_right _ this
      omega
    · have h5 := pow128 (i + 1) (by omega)
      rw [Nat.pow_succ] at h5
      have h4 : (x.toNat % 128) * 128 ^ i ≤ 127 * 128 ^ i := Nat.mul_le_mul_right _ (by omega)
      omega
  have e5 : shlI .u64 (x % ((128 : Nat) : Int)) (7 * (i : Int)).toNat = ((x.toNat % 128 * 128 ^ i : Nat) : Int) := by
    rw [show x % ((128 : Nat) : Int) = ((x.toNat % 128 : Nat) : Int) by omega, show (7 * (i : Int)).toNat = 7 * i by omega]
    exact shl7 (x.toNat % 128) i (by omega) (by omega) hi9
  have e6 := or_add n (x.toNat % 128) i hn (by omega)
  have fin1 : x < 128 → x = 0 ∧ 0 < i → takeS xs (m : Int) = (0, 0, 81) := fun a b => by rw [hfin, tk, if_neg h91, if_pos a, if_pos b]; rfl
  have fin2 : x < 128 → ¬ (x = 0 ∧ 0 < i) → takeS xs (m : Int) = (((n + x.toNat % 128 * 128 ^ i : Nat) : Int), (m : Int) + i + 1, 0) := fun a b => by
    rw [hfin, tk, if_neg h91, if_pos a, if_neg b, show x.toNat % 128 = x.toNat by omega]
    simp; omega
  by_cases hx1 : x < 128
  · by_cases hx0 : x = 0 ∧ 0 < i
    · by_cases h9 : i = 9
      all_goals
        refine run ?_
        refine ret3 ?_
        rw [fin1 hx1 hx0]
        exact ⟨rfl, rfl⟩
    · by_cases h0 : x = 0
      · have hi0 : i = 0 := by omega
        refine run ?_
        refine ret3 ?_
        rw [fin2 hx1 hx0, e5, e6]
        exact ⟨rfl, rfl⟩
      by_cases h9 : i = 9
      all_goals
        refine run ?_
        refine ret3 ?_
        rw [fin2 hx1 hx0, e5, e6]
        exact ⟨rfl, rfl⟩
  · have hi8 : i < 9 := by
      rcases Nat.lt_or_ge i 9 with h | h
      · exact h
      · exact absurd ⟨by omega, by omega⟩ h91
    refine run ?_
    rw [e5, e6]
    refine again (i + 1, n + (x.toNat % 128) * 128 ^ i) ⟨show i + 1 ≤ xs.length - m by omega, show i + 1 ≤ 9 by omega, ?_, ?_⟩ (show xs.length - m - (i + 1) < xs.length - m - i by omega)
    · dsimp only
      rw [Nat.pow_succ]
      have h4 : (x.toNat % 128) * 128 ^ i ≤ 127 * 128 ^ i := Nat.mul_le_mul_right _ (by omega)
      omega
    · dsimp only
      rw [he, hxi, tk, if_neg h91, if_neg hx1]
end Go.Proofs.Ytdkigndgdkaoiaa
