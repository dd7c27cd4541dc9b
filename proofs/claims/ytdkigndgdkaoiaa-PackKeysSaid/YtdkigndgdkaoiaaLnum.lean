/- Numbers of seven bits a byte: what they are, in plain lists. -/
import Derived.Test.YtdkigndgdkaoiaaGlue
namespace Go.Proofs.Ytdkigndgdkaoiaa
open Go B
set_option linter.unusedVariables false
/-- a number's bytes -/
def vb (n : Nat) : List Int := if n < 128 then [(n : Int)] else ((n % 128 + 128 : Nat) : Int) :: vb (n / 128)
decreasing_by omega
theorem u8s_len (l : List Int) : (u8s l).length = l.length := by simp [u8s]
theorem u8s_app (l k : List Int) : u8s (l ++ k) = u8s l ++ u8s k := by simp [u8s]
theorem u8s_one (l : List Int) : ∀ u ∈ u8s l, u.oneCell' = true := by
  intro u hu
  obtain ⟨x, _, rfl⟩ := List.mem_map.1 hu
  rfl
theorem vb_pos (n : Nat) : 1 ≤ (vb n).length := by unfold vb; split <;> simp
theorem vb_small {n : Nat} (h : n < 128) : vb n = [(n : Int)] := by rw [vb, if_pos h]
theorem vb_big {n : Nat} (h : ¬ n < 128) : vb n = ((n % 128 + 128 : Nat) : Int) :: vb (n / 128) := by rw [vb, if_neg h]
/-- a number's bytes, read: the number, how many bytes, the error -/
def tk : Nat → Nat → List Int → Nat × Nat × Nat
  | _, _, [] => (0, 0, 80)
  | i, n, x :: r => if i = 9 ∧ 1 < x then (0, 0, 81) else if x < 128 then (if x = 0 ∧ 0 < i then (0, 0, 81) else (n + x.toNat * 128 ^ i, i + 1, 0)) else tk (i + 1) (n + (x.toNat % 128) * 128 ^ i) r
theorem or_add (n b i : Nat) (hn : n < 128 ^ i) (hb : n + b * 128 ^ i < 18446744073709551616) : orI .u64 (n : Int) ((b * 128 ^ i : Nat) : Int) = ((n + b * 128 ^ i : Nat) : Int) := by
  unfold orI
  have e1 : (BitVec.ofInt 64 (n : Int) ||| BitVec.ofInt 64 ((b * 128 ^ i : Nat) : Int)).toNat = n + b * 128 ^ i := by
    rw [BitVec.toNat_or]
    have h1 : (BitVec.ofInt 64 (n : Int)).toNat = n := by simp; omega
    have h2 : (BitVec.ofInt 64 ((b * 128 ^ i : Nat) : Int)).toNat = b * 128 ^ i := by
      rw [BitVec.toNat_ofInt]
      have : ((b * 128 ^ i : Nat) : Int) % ((2 ^ 64 : Nat) : Int) = ((b * 128 ^ i : Nat) : Int) := by
        apply Int.emod_eq_of_lt <;> omega
      rw [this, Int.toNat_natCast]
    rw [h1, h2]
    have hp : (128 : Nat) ^ i = 2 ^ (7 * i) := by rw [show (128 : Nat) = 2 ^ 7 by rfl, ← Nat.pow_mul]
    rw [hp] at hn ⊢
    have := Nat.two_pow_add_eq_or_of_lt hn b
    rw [Nat.or_comm, Nat.mul_comm b, ← this]; omega
  show IntKind.u64.wrap _ = _
  rw [show (BitVec.ofInt IntKind.u64.bits (n : Int) ||| BitVec.ofInt IntKind.u64.bits ((b * 128 ^ i : Nat) : Int)).toNat = n + b * 128 ^ i from e1, wrap_u64]
  omega
theorem shl7 (b i : Nat) (hb : b < 128) (hi : b * 128 ^ i < 18446744073709551616) (hi9 : i ≤ 9) : shlI .u64 (b : Int) (7 * i) = ((b * 128 ^ i : Nat) : Int) := by
  unfold shlI
  rw [show IntKind.u64.bits = 64 by decide, show min (7 * i) 64 = 7 * i by omega, wrap_u64]
  have hp : (128 : Nat) ^ i = 2 ^ (7 * i) := by rw [show (128 : Nat) = 2 ^ 7 by rfl, ← Nat.pow_mul]
  have : ((b : Int) * 2 ^ (7 * i)) = ((b * 128 ^ i : Nat) : Int) := by rw [hp]; push_cast; rfl
  rw [this]
  omega
theorem pow128 : ∀ i : Nat, i ≤ 9 → 128 ^ i ≤ 9223372036854775808 := by decide +kernel
def takeS (xs : List Int) (at_ : Int) : Int × Int × Int :=
  if at_ < 0 ∨ (xs.length : Int) < at_ then (0, 0, 2) else
    match tk 0 0 (xs.drop at_.toNat) with
    | (n, w, e) => if e = 0 then ((n : Int), at_ + w, 0) else (0, 0, (e : Int))
def v3 (p : Int × Int × Int) : Value := .tuple #[.int .u64 p.1, .int .i64 p.2.1, .int .i64 p.2.2]
def n3 (p : Nat × Nat × Nat) : Value := .tuple #[.int .u64 (p.1 : Int), .int .i64 (p.2.1 : Int), .int .i64 (p.2.2 : Int)]
theorem xor_u64 (x : Int) (h0 : 0 ≤ x) (h1 : x < 18446744073709551616) : xorI .u64 x 0 = x ∧ xorI .u64 x 18446744073709551615 = 18446744073709551615 - x := by
  obtain ⟨n, rfl⟩ : ∃ n : Nat, x = (n : Int) := ⟨x.toNat, by omega⟩
  have e : (BitVec.ofInt 64 (n : Int)) = BitVec.ofNat 64 n := by simp
  constructor
  · show IntKind.u64.wrap ((BitVec.ofInt 64 (n : Int) ^^^ BitVec.ofInt 64 0).toNat : Int) = _
    rw [e, show BitVec.ofInt 64 0 = 0#64 by decide, BitVec.xor_zero, BitVec.toNat_ofNat, wrap_u64]; omega
  · show IntKind.u64.wrap ((BitVec.ofInt 64 (n : Int) ^^^ BitVec.ofInt 64 18446744073709551615).toNat : Int) = _
    rw [e, show BitVec.ofInt 64 18446744073709551615 = BitVec.allOnes 64 by decide, BitVec.xor_allOnes, BitVec.toNat_not, BitVec.toNat_ofNat, wrap_u64]; omega
theorem xor_i64 (x : Int) (h0 : 0 ≤ x) (h1 : x < 9223372036854775808) : xorI .i64 x 0 = x ∧ xorI .i64 x (-1) = -x - 1 := by
  obtain ⟨n, rfl⟩ : ∃ n : Nat, x = (n : Int) := ⟨x.toNat, by omega⟩
  have e : (BitVec.ofInt 64 (n : Int)) = BitVec.ofNat 64 n := by simp
  constructor
  · show IntKind.i64.wrap ((BitVec.ofInt 64 (n : Int) ^^^ BitVec.ofInt 64 0).toNat : Int) = _
    rw [e, show BitVec.ofInt 64 0 = 0#64 by decide, BitVec.xor_zero, BitVec.toNat_ofNat, IntKind.wrap_i64]; omega
  · show IntKind.i64.wrap ((BitVec.ofInt 64 (n : Int) ^^^ BitVec.ofInt 64 (-1)).toNat : Int) = _
    rw [e, show BitVec.ofInt 64 (-1) = BitVec.allOnes 64 by decide, BitVec.xor_allOnes, BitVec.toNat_not, BitVec.toNat_ofNat, IntKind.wrap_i64]; omega
def zigS (i : Int) : Int := if i < 0 then -2 * i - 1 else 2 * i
def zagS (n : Int) : Int := if n % 2 = 0 then n / 2 else -(n / 2) - 1
theorem vb_le : ∀ (k n : Nat), n < 128 ^ k → 0 < k → (vb n).length ≤ k
  | 0, _, _, h => by omega
  | k + 1, n, h, _ => by
    by_cases hn : n < 128
    · rw [vb_small hn]; simp
    · rw [vb_big hn, List.length_cons]
      have h2 : n / 128 < 128 ^ k := by rw [Nat.pow_succ] at h; omega
      have hk : 0 < k := by
        rcases Nat.eq_zero_or_pos k with e | e
        · subst e; simp at h2; omega
        · exact e
      have := vb_le k (n / 128) h2 hk
      omega
theorem vb_len (n : Nat) (h : n < 18446744073709551616) : (vb n).length ≤ 10 := vb_le 10 n (by have : (128 : Nat) ^ 10 = 1180591620717411303424 := by decide
                                                                                               omega) (by omega)
theorem bytes_vb : ∀ n : Nat, Bytes (vb n) := by
  intro n
  induction n using Nat.strongRecOn with
  | _ n ih =>
    by_cases hn : n < 128
    · rw [vb_small hn]; intro x hx; simp at hx; omega
    · rw [vb_big hn]; intro x hx
      rcases List.mem_cons.1 hx with rfl | hx
      · omega
      · exact ih _ (by omega) x hx
theorem tk_err {i n : Nat} {l : List Int} : (tk i n l).2.2 ≠ 0 → (tk i n l).1 = 0 ∧ (tk i n l).2.1 = 0 := by
  induction l generalizing i n with
  | nil => intro _; exact ⟨rfl, rfl⟩
  | cons x r ih =>
    rw [tk]
    split
    · intro _; exact ⟨rfl, rfl⟩
    split
    · split
      · intro _; exact ⟨rfl, rfl⟩
      · intro h; exact absurd rfl h
    · exact ih
theorem tk_w (i n : Nat) (l : List Int) : (tk i n l).2.1 ≤ i + l.length := by
  induction l generalizing i n with
  | nil => simp [tk]
  | cons x r ih =>
    rw [tk]
    split
    · simp
    split
    · split
      · simp
      · simp <;> omega
    · have := ih (i + 1) (n + x.toNat % 128 * 128 ^ i)
      simp only [List.length_cons]; omega
theorem tk_vb (n : Nat) : ∀ (i a : Nat) (r : List Int), (i = 0 ∨ 0 < n) → i ≤ 9 → n * 128 ^ i + a < 18446744073709551616 → tk i a (vb n ++ r) = (a + n * 128 ^ i, i + (vb n).length, 0) := by
  induction n using Nat.strongRecOn with
  | _ n ih =>
    intro i a r h0 hi hb
    by_cases hn : n < 128
    · rw [vb_small hn, List.cons_append, tk, if_neg, if_pos (by omega), if_neg (by omega)]
      · simp
      · rintro ⟨rfl, h1⟩
        have : (128 : Nat) ^ 9 = 9223372036854775808 := by decide
        have h2 : 2 * 128 ^ 9 ≤ n * 128 ^ 9 := Nat.mul_le_mul_right _ (by omega)
        omega
    · have h9 : i < 9 := by
        rcases Nat.lt_or_ge i 9 with h | h
        · exact h
        · have : i = 9 := by omega
          subst this
          have : (128 : Nat) ^ 9 = 9223372036854775808 := by decide
          have h2 : 128 * 128 ^ 9 ≤ n * 128 ^ 9 := Nat.mul_le_mul_right _ (by omega)
          omega
      rw [vb_big hn, List.cons_append, tk, if_neg (by omega), if_neg (by omega)]
      have e1 : (((n % 128 + 128 : Nat) : Int)).toNat % 128 = n % 128 := by omega
      have e2 : a + n % 128 * 128 ^ i + n / 128 * 128 ^ (i + 1) = a + n * 128 ^ i := by
        rw [Nat.pow_succ, Nat.mul_comm (128 ^ i) 128, ← Nat.mul_assoc, Nat.add_assoc, ← Nat.add_mul]
        congr 2; omega
      rw [e1, ih (n / 128) (by omega) (i + 1) _ r (.inr (by omega)) (by omega) (by omega), e2, List.length_cons]
      congr 2; omega
theorem takeS_put (xs : List Int) (n : Nat) (hn : n < 18446744073709551616) : takeS (xs ++ vb n) (xs.length : Int) = ((n : Int), ((xs.length + (vb n).length : Nat) : Int), 0) := by
  have h := tk_vb n 0 0 [] (.inl rfl) (by omega) (by simpa using hn)
  rw [List.append_nil] at h
  unfold takeS
  rw [if_neg (by simp; omega), Int.toNat_natCast, List.drop_left, h]
  simp
theorem zig_range (i : Int) (h0 : -9223372036854775808 ≤ i) (h1 : i ≤ 9223372036854775807) : 0 ≤ zigS i ∧ zigS i < 18446744073709551616 := by unfold zigS; split <;> omega
theorem zag_range (n : Int) (h0 : 0 ≤ n) (h1 : n < 18446744073709551616) : -9223372036854775808 ≤ zagS n ∧ zagS n ≤ 9223372036854775807 := by unfold zagS; split <;> omega
theorem zag_zig (i : Int) : zagS (zigS i) = i := by unfold zagS zigS; split <;> split <;> omega
theorem zig_zag (n : Int) (h0 : 0 ≤ n) : zigS (zagS n) = n := by unfold zigS zagS; split <;> split <;> omega
theorem str_app (a b : List Int) : strOfNums (a ++ b) = strOfNums a ++ strOfNums b := by
  apply bytes_ext
  rw [ByteArray.toList_eq, ByteArray.toList_eq, strOfNums_data]
  simp [strOfNums]
theorem u8s_get (l : List Int) (j : Nat) (h : j < l.length) : (u8s l)[j]? = some (.int .u8 l[j]) := by simp [u8s, h]
def numL (l : List Int) (e : Int) (mx : Nat) : Nat × Nat × Int :=
  if e ≠ 0 then (0, 0, e) else
    match tk 0 0 l with
    | (n, w, e1) => if e1 = 0 then (if mx < n then (0, 0, 81) else (n, w, 0)) else (0, 0, (e1 : Int))
end Go.Proofs.Ytdkigndgdkaoiaa
