/- A state read out of bytes. Plain. -/
import Derived.Test.YtdkigndgdkaoiaaLof
namespace Go.Proofs.Ytdkigndgdkaoiaa
open Go B X
set_option linter.unusedVariables false
theorem numL_facts {l : List Int} {e : Int} {mx x w : Nat} {e' : Int} (h : numL l e mx = (x, w, e')) (hp : ∀ i n l, (tk i n l).2.2 = 0 ∨ (tk i n l).2.2 = 80 ∨ (tk i n l).2.2 = 81) :
    w ≤ l.length ∧ x ≤ mx ∧ (e ≠ 0 → x = 0 ∧ w = 0 ∧ e' = e) ∧ (e' ≠ 0 → x = 0 ∧ w = 0) ∧ (e = 0 → e' = 0 ∨ e' = 80 ∨ e' = 81) := by
  unfold numL at h
  split at h
  · rename_i he
    simp only [Prod.mk.injEq] at h
    obtain ⟨rfl, rfl, rfl⟩ := h
    exact ⟨by omega, by omega, fun _ => ⟨rfl, rfl, rfl⟩, fun _ => ⟨rfl, rfl⟩, fun h => absurd h he⟩
  · rename_i he
    have he' : e = 0 := by simpa using he
    have hw := tk_w 0 0 l
    have hpp := hp 0 0 l
    split at h
    rename_i n w1 e1 htk
    rw [htk] at hw hpp
    dsimp only at hw hpp
    split at h
    · split at h
      · simp only [Prod.mk.injEq] at h
        obtain ⟨rfl, rfl, rfl⟩ := h
        exact ⟨by omega, by omega, fun h => absurd he' h, fun _ => ⟨rfl, rfl⟩, fun _ => .inr (.inr rfl)⟩
      · simp only [Prod.mk.injEq] at h
        obtain ⟨rfl, rfl, rfl⟩ := h
        exact ⟨by omega, by omega, fun h => absurd he' h, fun h => absurd rfl h, fun _ => .inl rfl⟩
    · simp only [Prod.mk.injEq] at h
      obtain ⟨rfl, rfl, rfl⟩ := h
      exact ⟨by omega, by omega, fun h => absurd he' h, fun _ => ⟨rfl, rfl⟩, fun _ => by omega⟩
theorem tk_e : ∀ (i n : Nat) (l : List Int), (tk i n l).2.2 = 0 ∨ (tk i n l).2.2 = 80 ∨ (tk i n l).2.2 = 81
  | _, _, [] => .inr (.inl rfl)
  | i, n, x :: r => by
    rw [tk]
    split
    · exact .inr (.inr rfl)
    split
    · split
      · exact .inr (.inr rfl)
      · exact .inl rfl
    · exact tk_e _ _ r
/-- so many numbers: they, what is left, the error -/
def nums : Nat → List Int → List Nat × List Int × Int
  | 0, l => ([], l, 0)
  | n + 1, l => match numL l 0 511 with
    | (x, w, e) => if e = 0 then (match nums n (l.drop w) with | (ys, r, e') => (x :: ys, r, e')) else ([], l, e)
def oddL (l : List Nat) : List Int := l.zipIdx.filterMap fun p => if p.1 % 2 = 1 then some (p.2 : Int) else none
theorem oddL_snoc (l : List Nat) (x : Nat) : oddL (l ++ [x]) = oddL l ++ (if x % 2 = 1 then [(l.length : Int)] else []) := by
  unfold oddL
  rw [List.zipIdx_append, List.filterMap_append]
  congr 1
  by_cases h : x % 2 = 1 <;> simp [h]
theorem oddL_len (l : List Nat) : (oddL l).length ≤ l.length := by
  unfold oddL
  exact Nat.le_trans (List.length_filterMap_le _ _) (by simp)
def agesOf (l : List Nat) : List Nat := l.map (· / 2) ++ List.replicate (128 - l.length) 0
theorem agesOf_len (l : List Nat) (h : l.length ≤ 128) : (agesOf l).length = 128 := by simp [agesOf]; omega
theorem agesOf_snoc (l : List Nat) (x : Nat) (h : l.length < 128) : (agesOf l).set l.length (x / 2) = agesOf (l ++ [x]) := by
  unfold agesOf
  rw [List.set_append_right _ _ (by simp)]
  simp only [List.length_map, Nat.sub_self, List.map_append, List.map_cons, List.map_nil, List.length_append, List.length_singleton, List.append_assoc]
  congr 1
  rw [show 128 - l.length = (128 - (l.length + 1)) + 1 by omega, List.replicate_succ]
  simp
theorem agesOf_nil : agesOf [] = zAges := rfl
theorem ofL_snoc (l : List Int) (i : Int) : ofL (l ++ [i]) = ofL l ||| oneS i := by
  apply set_bits
  intro j hj
  rw [BitVec.getLsbD_or, ofL_bit, ofL_bit, oneS_bit]
  by_cases h1 : (j : Int) ∈ l <;> by_cases h2 : (j : Int) = i <;> simp [h1, h2, hj]
def unpackS (l : List Int) : (Set × List Nat) × Nat × Int :=
  match numL l 0 128 with
  | (n, w, e) => if e = 0 then (match nums n (l.drop w) with
      | (ys, r, e') => if e' = 0 then (if r = [] then ((ofL (oddL ys), agesOf ys), n, 0) else ((0#128, zAges), 0, 81)) else ((0#128, zAges), 0, e')) else ((0#128, zAges), 0, e)
def unpackV (p : (Set × List Nat) × Nat × Int) : Value := .tuple #[.agg (kV p.1.1 p.1.2).toArray, .int .i64 (p.2.1 : Int), .int .i64 p.2.2]
/-- where a reader of numbers stands: so many are read, or there is an error -/
def Stands (n : Nat) (l0 : List Int) (pre : List Nat) (l : List Int) (e : Int) : Prop :=
  (e = 0 ∧ nums n l0 = (match nums (n - pre.length) l with | (ys, r, e') => (pre ++ ys, r, e'))) ∨ (e ≠ 0 ∧ (nums n l0).2.2 = e)
theorem Stands.start (n : Nat) (l : List Int) : Stands n l [] l 0 := .inl ⟨rfl, rfl⟩
theorem Stands.step {n : Nat} {l0 : List Int} {pre : List Nat} {l : List Int} {x w : Nat} {e' : Int} (s : Stands n l0 pre l 0) (hlt : pre.length < n) (h : numL l 0 511 = (x, w, e')) : Stands n l0 (pre ++ [x]) (l.drop w) e' := by
  rcases s with ⟨_, s⟩ | ⟨s, _⟩
  · rw [show n - pre.length = (n - (pre.length + 1)) + 1 by omega, nums, h] at s
    dsimp only at s
    by_cases he : e' = 0
    · left
      refine ⟨he, ?_⟩
      rw [if_pos he] at s
      rw [s, List.length_append, List.length_singleton]
      simp
    · right
      refine ⟨he, ?_⟩
      rw [if_neg he] at s
      rw [s]
  · exact absurd rfl s
theorem Stands.err {n : Nat} {l0 : List Int} {pre pre' : List Nat} {l l' : List Int} {e : Int} (s : Stands n l0 pre l e) (he : e ≠ 0) : Stands n l0 pre' l' e := by
  rcases s with ⟨s, _⟩ | s
  · exact absurd s he
  · exact .inr s
theorem Stands.done {n : Nat} {l0 : List Int} {pre : List Nat} {l : List Int} (s : Stands n l0 pre l 0) (h : pre.length = n) : nums n l0 = (pre, l, 0) := by
  rcases s with ⟨_, s⟩ | ⟨s, _⟩
  · rw [h, Nat.sub_self, nums] at s
    simpa using s
  · exact absurd rfl s
end Go.Proofs.Ytdkigndgdkaoiaa
