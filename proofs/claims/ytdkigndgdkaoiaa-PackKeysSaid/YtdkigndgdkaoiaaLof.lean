/- A set out of a list; states. Plain. -/
import Derived.Test.YtdkigndgdkaoiaaSbits
import Derived.Test.YtdkigndgdkaoiaaLnum
namespace Go.Proofs.Ytdkigndgdkaoiaa
open Go B X
set_option linter.unusedVariables false
set_option maxRecDepth 8000
theorem set_bits {s t : Set} (h : ∀ j, j < 128 → s.getLsbD j = t.getLsbD j) : s = t := BitVec.eq_of_getLsbD_eq h
theorem oneS_bit (i : Int) (j : Nat) : (oneS i).getLsbD j = (decide (j < 128) && decide ((j : Int) = i)) := by
  unfold oneS
  by_cases h : 0 ≤ i ∧ i < 128
  · obtain ⟨k, rfl⟩ := Int.eq_ofNat_of_zero_le h.1
    rw [if_pos h, Int.toNat_natCast]
    simp only [BitVec.getLsbD_shiftLeft]
    by_cases hj : j < 128
    · by_cases e : j = k
      · subst e
        simp [hj]
      · have : ¬ (j : Int) = (k : Int) := by omega
        simp only [hj, this, decide_true, decide_false, Bool.true_and, Bool.and_false]
        by_cases hlt : j < k
        · simp [hlt]
        · have : j - k ≠ 0 := by omega
          simp [BitVec.getLsbD_one, this]
    · simp [hj]
  · rw [if_neg h]
    by_cases hj : j < 128
    · have : ¬ (j : Int) = i := by omega
      simp [this]
    · simp [hj]
/-- the numbers of a list -/
def ofL (l : List Int) : Set := l.foldr (fun i s => s ||| oneS i) 0#128
theorem ofL_bit (l : List Int) (j : Nat) : (ofL l).getLsbD j = (decide (j < 128) && decide ((j : Int) ∈ l)) := by
  induction l with
  | nil => simp [ofL]
  | cons i l ih =>
    have e : ofL (i :: l) = ofL l ||| oneS i := rfl
    rw [e, BitVec.getLsbD_or, ih, oneS_bit]
    by_cases hj : j < 128 <;> by_cases h : (j : Int) = i <;> simp [hj, h]
theorem nat_or_add (a n : Nat) (h : a.testBit n = false) : a ||| 2 ^ n = a + 2 ^ n := by
  have h1 : a % 2 ^ (n + 1) < 2 ^ n := by
    have h2 : a / 2 ^ n % 2 = 0 := by
      have := bit_mod a n
      rw [h] at this
      simpa using this
    rw [Nat.pow_succ, Nat.mod_mul]
    rw [h2, Nat.mul_zero, Nat.add_zero]
    exact Nat.mod_lt _ (Nat.pow_pos (by omega))
  have hq := Nat.div_add_mod a (2 ^ (n + 1))
  generalize a / 2 ^ (n + 1) = q at *
  generalize a % 2 ^ (n + 1) = r at *
  have e1 : 2 ^ n ||| r = 2 ^ n + r := by
    have := Nat.two_pow_add_eq_or_of_lt h1 1
    rw [Nat.mul_one] at this
    exact this.symm
  have h3 : 2 ^ n + r < 2 ^ (n + 1) := by rw [Nat.pow_succ]; omega
  have e2 := Nat.two_pow_add_eq_or_of_lt h3 q
  have h4 : r < 2 ^ (n + 1) := by omega
  have e3 := Nat.two_pow_add_eq_or_of_lt h4 q
  rw [← hq, e3, Nat.or_assoc, Nat.or_comm r, e1, ← e2, ← e3]
  omega
theorem orU0 (x : Nat) (h : x < 18446744073709551616) : orI .u64 (x : Int) 0 = (x : Int) := by simpa using orU x 0 h (by omega)
theorem or_oneS (s : Set) (n : Nat) (hn : n < 128) (hb : s.getLsbD n = false) : setV (s ||| oneS n) = if n < 64 then [.int .u64 ((lo s + 2 ^ (n % 64) : Nat) : Int), .int .u64 (hi s)] else [.int .u64 (lo s), .int .u64 ((hi s + 2 ^ (n % 64) : Nat) : Int)] := by
  have e : oneS (n : Int) = 1#128 <<< n := by unfold oneS; rw [if_pos (by omega), Int.toNat_natCast]
  rw [setV_or, e]
  have hl := lo_lt s
  have hh := hi_lt s
  by_cases h6 : n < 64
  · rw [if_pos h6, Nat.mod_eq_of_lt h6]
    have h1 := one_lo n h6
    rw [setV] at h1
    simp only [List.cons.injEq, Value.int.injEq, true_and, and_true] at h1
    rw [h1.1, h1.2]
    have hp : (2 : Nat) ^ n < 18446744073709551616 := by
      have : (2 : Nat) ^ n < 2 ^ 64 := Nat.pow_lt_pow_right (by omega) h6
      simpa using this
    rw [orU _ _ hl hp, nat_or_add _ _ (by rw [lo_bit, hb, Bool.and_false]), orU0 _ hh]
  · rw [if_neg h6]
    have h1 := one_hi n (by omega) hn
    rw [setV] at h1
    simp only [List.cons.injEq, Value.int.injEq, true_and, and_true] at h1
    rw [h1.1, h1.2]
    have hp : (2 : Nat) ^ (n % 64) < 18446744073709551616 := by
      have : (2 : Nat) ^ (n % 64) < 2 ^ 64 := Nat.pow_lt_pow_right (by omega) (by omega)
      simpa using this
    rw [orU _ _ hh hp, nat_or_add _ _ (by rw [hi_bit, show n % 64 + 64 = n by omega, hb]), orU0 _ hl]
/-! ### states -/
def ageV (l : List Nat) : List Value := l.map fun (a : Nat) => Value.int .u8 ((a : Nat) : Int)
theorem ageV_len (l : List Nat) : (ageV l).length = l.length := by simp [ageV]
structure Key where
  bits : Set
  ages : List Nat
  len : ages.length = 128
  lt : ∀ a ∈ ages, a < 256
def kV (s : Set) (l : List Nat) : List Value := setV s ++ ageV l
theorem kV_len (s : Set) (l : List Nat) : (kV s l).length = l.length + 2 := by simp [kV, ageV, setV]
def Key.V (k : Key) : Value := .agg (kV k.bits k.ages).toArray
theorem kV_get (s : Set) (l : List Nat) (i a : Nat) (h : l[i]? = some a) : nthV (kV s l) (2 + i * 1) = some (.int .u8 (a : Int)) := by
  rw [nthV_get, kV, List.getElem?_append_right (by simp [setV])]
  simp [setV, ageV, h]
theorem kV_set (s : Set) (l : List Nat) (i a : Nat) (h : i < l.length) : setVs (kV s l) (2 + i * 1) [.int .u8 (a : Int)] = kV s (l.set i a) ∧ [Value.int .u8 (a : Int)].length = 1 ∧ 2 + i * 1 + [Value.int .u8 (a : Int)].length ≤ (kV s l).length := by
  refine ⟨?_, rfl, by rw [kV_len]; simp; omega⟩
  rw [setVs_one, kV, List.set_append_right _ _ (by simp [setV])]
  simp [kV, setV, ageV]
theorem kV_bits (s t : Set) (l : List Nat) : setVs (kV s l) 0 (setV t) = kV t l ∧ (setV t).length = 2 ∧ 0 + (setV t).length ≤ (kV s l).length := ⟨rfl, rfl, by rw [kV_len]; simp [setV]⟩
theorem kV_all (s t : Set) (l r : List Nat) (h : l.length = 128) (h2 : r.length = 128) : setVs (kV s l) 0 (kV t r) = kV t r ∧ (kV t r).length = 130 ∧ 0 + (kV t r).length ≤ (kV s l).length := by
  rw [kV_len, kV_len]
  exact ⟨setVs_whole (by rw [kV_len, kV_len]; omega), by omega, by omega⟩
theorem kV_one (s : Set) (l : List Nat) : ∀ u ∈ kV s l, u.oneCell' = true := by
  intro u hu
  rcases List.mem_append.1 hu with h | h
  · simp [setV] at h; rcases h with rfl | rfl <;> rfl
  · obtain ⟨a, _, rfl⟩ := List.mem_map.1 h; rfl
theorem kV_130 (s : Set) (l : List Nat) (h : l.length = 128) : Nat.beq (kV s l).length 130 = true := by rw [kV_len, h]; rfl
def zAges : List Nat := List.replicate 128 0
end Go.Proofs.Ytdkigndgdkaoiaa
