/- A state's bytes, read again. Plain. -/
import Derived.Test.YtdkigndgdkaoiaaSkey5
namespace Go.Proofs.Ytdkigndgdkaoiaa
open Go B X
set_option linter.unusedVariables false
theorem numL_vb (n mx : Nat) (r : List Int) (h : n ≤ mx) (hm : mx < 18446744073709551616) : numL (vb n ++ r) 0 mx = (n, (vb n).length, 0) := by
  have ht := tk_vb n 0 0 r (.inl rfl) (by omega) (by simp; omega)
  simp only [Nat.pow_zero, Nat.mul_one, Nat.zero_add] at ht
  rw [numL, if_neg (by simp), ht]
  simp only [if_true]
  rw [if_neg (by omega)]
theorem nums_vb (f : Nat → Nat) (hf : ∀ i, f i ≤ 511) : ∀ (is : List Nat) (r : List Int), nums is.length ((is.flatMap fun i => vb (f i)) ++ r) = (is.map f, r, 0)
  | [], r => rfl
  | i :: is, r => by
    rw [List.length_cons, nums, List.flatMap_cons, List.append_assoc, numL_vb _ _ _ (hf i) (by omega)]
    simp only [if_true]
    rw [List.drop_left, nums_vb f hf is r]
    rfl
theorem unpack_kbytes (s : Set) (l : List Nat) (hl : ∀ a ∈ l, a < 256) (n : Nat) (hn : n ≤ 128) : unpackS (kbytes s l n) = ((ofL (oddL ((List.range n).map (kx s l))), agesOf ((List.range n).map (kx s l))), n, 0) := by
  unfold unpackS kbytes
  rw [numL_vb n 128 _ hn (by omega)]
  simp only [if_true]
  rw [List.drop_left]
  have := nums_vb (kx s l) (fun i => by have := kx_lt s l hl i; omega) (List.range n) []
  rw [List.length_range, List.append_nil] at this
  rw [this]
  simp
theorem mem_oddL (ys : List Nat) (j : Nat) : (j : Int) ∈ oddL ys ↔ ∃ h : j < ys.length, ys[j] % 2 = 1 := by
  unfold oddL
  rw [List.mem_filterMap]
  constructor
  · rintro ⟨⟨x, i⟩, hm, h⟩
    dsimp only at h
    split at h
    · rename_i h2
      have hij : i = j := by have := Option.some.inj h; omega
      subst hij
      have := List.mem_zipIdx hm
      obtain ⟨h3, h4, h5⟩ := this
      refine ⟨by omega, ?_⟩
      simp at h5
      rw [← h5]; exact h2
    · cases h
  · rintro ⟨h, h2⟩
    refine ⟨(ys[j], j), ?_, ?_⟩
    · rw [List.mem_zipIdx_iff_getElem?]
      simp [h]
    · simp [h2]
theorem kx_again (s : Set) (l : List Nat) (n i : Nat) (hn : n ≤ 128) (hi : i < n) : kx (ofL (oddL ((List.range n).map (kx s l)))) (agesOf ((List.range n).map (kx s l))) i = kx s l i := by
  have hb : (ofL (oddL ((List.range n).map (kx s l)))).getLsbD i = s.getLsbD i := by
    rw [ofL_bit, decide_eq_true (show i < 128 by omega), Bool.true_and, Bool.eq_iff_iff, decide_eq_true_eq, mem_oddL]
    simp only [List.length_map, List.length_range, List.getElem_map, List.getElem_range]
    unfold kx
    cases s.getLsbD i <;> simp <;> omega
  have ha : (agesOf ((List.range n).map (kx s l))).getD i 0 = kx s l i / 2 := by
    unfold agesOf
    rw [List.getD_eq_getElem?_getD, List.getElem?_append_left (by simp; omega)]
    simp [hi]
  rw [kx, hb, ha]
  unfold kx
  cases s.getLsbD i <;> simp <;> omega
theorem kbytes_again (s : Set) (l : List Nat) (n : Nat) (hn : n ≤ 128) : kbytes (ofL (oddL ((List.range n).map (kx s l)))) (agesOf ((List.range n).map (kx s l))) n = kbytes s l n := by
  unfold kbytes
  congr 1
  rw [List.flatMap_def, List.flatMap_def]
  congr 1
  apply List.map_congr_left
  intro i hi
  rw [kx_again s l n i hn (List.mem_range.1 hi)]
theorem agesOf_get (s : Set) (l : List Nat) (n i : Nat) (hn : n ≤ 128) (hi : i < 128) : (agesOf ((List.range n).map (kx s l)))[i]? = some (if i < n then l.getD i 0 else 0) := by
  unfold agesOf
  by_cases h : i < n
  · rw [List.getElem?_append_left (by simp; omega), if_pos h]
    simp only [List.getElem?_map, List.getElem?_range h, Option.map_some]
    unfold kx
    cases s.getLsbD i <;> simp <;> omega
  · rw [List.getElem?_append_right (by simp; omega), if_neg h, List.getElem?_replicate, if_pos (by simp; omega)]
theorem agesOf_lt (s : Set) (l : List Nat) (hl : ∀ a ∈ l, a < 256) (n : Nat) : ∀ a ∈ agesOf ((List.range n).map (kx s l)), a < 256 := by
  intro a ha
  rcases List.mem_append.1 ha with h | h
  · simp only [List.mem_map, List.mem_range] at h
    obtain ⟨x, ⟨i, _, rfl⟩, rfl⟩ := h
    have := kx_lt s l hl i
    omega
  · rw [List.mem_replicate] at h
    omega
theorem kbytes_Bytes (s : Set) (l : List Nat) (n : Nat) : Bytes (kbytes s l n) := by
  intro x hx
  rcases List.mem_append.1 hx with h | h
  · exact bytes_vb _ x h
  · obtain ⟨i, _, h⟩ := List.mem_flatMap.1 h
    exact bytes_vb _ x h
theorem kbytes_len (s : Set) (l : List Nat) (hl : ∀ a ∈ l, a < 256) (n : Nat) (hn : n ≤ 128) : (kbytes s l n).length ≤ 1300 := by
  unfold kbytes
  have h1 := kfl_len s l hl n
  have h2 := vb_len n (by omega)
  rw [List.length_append]
  omega
theorem nums_len : ∀ (n : Nat) (l : List Int), (nums n l).1.length ≤ n
  | 0, l => by simp [nums]
  | n + 1, l => by
    rw [nums]
    rcases numL l 0 511 with ⟨x, w, e⟩
    dsimp only
    split
    · have := nums_len n (l.drop w)
      rcases hq : nums n (l.drop w) with ⟨ys, r, e'⟩
      rw [hq] at this
      simpa using this
    · simp
theorem unpackS_len (l : List Int) : (unpackS l).1.2.length = 128 ∧ (unpackS l).2.1 ≤ 128 := by
  unfold unpackS
  rcases h : numL l 0 128 with ⟨n, w, e⟩
  obtain ⟨_, hn, _⟩ := numL_facts h tk_e
  dsimp only
  split
  · have := nums_len n (l.drop w)
    rcases hq : nums n (l.drop w) with ⟨ys, r, e'⟩
    rw [hq] at this
    dsimp only at this ⊢
    split
    · split
      · exact ⟨agesOf_len ys (by omega), hn⟩
      · exact ⟨rfl, by dsimp only; omega⟩
    · exact ⟨rfl, by dsimp only; omega⟩
  · exact ⟨rfl, by dsimp only; omega⟩
end Go.Proofs.Ytdkigndgdkaoiaa
