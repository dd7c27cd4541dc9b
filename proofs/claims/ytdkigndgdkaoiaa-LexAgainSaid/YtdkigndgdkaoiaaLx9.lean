import Derived.Test.YtdkigndgdkaoiaaLx5
namespace Go.Proofs.Ytdkigndgdkaoiaa
open Go B
set_option linter.unusedVariables false
set_option linter.unusedSectionVars false

/-! ### the plain laws of what is read -/
def kt (t : Tk) : Int × List Int := (t.k, t.t)
def kts (l : List Int) (b : Nat) (ln c : Int) : List (Int × List Int) := (lexS l b ln c).1.map kt
def okS (l : List Int) (b : Nat) (ln c : Int) : Prop := (lexS l b ln c).2 = none
theorem indep : ∀ (n : Nat) (l : List Int), l.length ≤ n → ∀ b ln c b' ln' c', kts l b ln c = kts l b' ln' c' ∧ (okS l b ln c ↔ okS l b' ln' c') := by
  intro n
  induction n with
  | zero =>
    intro l hl b ln c b' ln' c'
    have : l = [] := List.eq_nil_of_length_eq_zero (by omega)
    subst this
    simp [kts, okS, lexS, kt]
  | succ n ih =>
    intro l hl b ln c b' ln' c'
    cases l with
    | nil => simp [kts, okS, lexS, kt]
    | cons x r =>
      have hr : r.length ≤ n := by simpa using hl
      have hd : ∀ k, (r.drop k).length ≤ n := fun k => by simp; omega
      unfold kts okS
      rw [lexS, lexS]
      repeat' split
      · exact ih r hr ..
      · exact ih _ (hd _) ..
      · have := ih r hr (b + 1) (ln + 1) 1 (b' + 1) (ln' + 1) 1
        simp only [putT, List.map_cons]
        exact ⟨by rw [show List.map kt _ = List.map kt _ from this.1]; rfl, this.2⟩
      · have := ih r hr (b + 1) ln (c + 1) (b' + 1) ln' (c' + 1)
        simp only [putT, List.map_cons]
        exact ⟨by rw [show List.map kt _ = List.map kt _ from this.1]; rfl, this.2⟩
      · have := ih r hr (b + 1) ln (c + 1) (b' + 1) ln' (c' + 1)
        simp only [putT, List.map_cons]
        exact ⟨by rw [show List.map kt _ = List.map kt _ from this.1]; rfl, this.2⟩
      · simp
      · have := ih _ (hd (spanN nameP r)) (b + (spanN nameP r + 1)) ln (c + (spanN nameP r + 1 : Nat)) (b' + (spanN nameP r + 1)) ln' (c' + (spanN nameP r + 1 : Nat))
        simp only [putT, List.map_cons]
        exact ⟨by rw [show List.map kt _ = List.map kt _ from this.1]; rfl, this.2⟩
      · simp
def K (l : List Int) : List (Int × List Int) := kts l 0 1 1
def O (l : List Int) : Prop := okS l 0 1 1
theorem kts_K (l : List Int) (b : Nat) (ln c : Int) : (lexS l b ln c).1.map kt = K l := (indep _ l (Nat.le_refl _) b ln c 0 1 1).1
theorem okS_O (l : List Int) (b : Nat) (ln c : Int) : (lexS l b ln c).2 = none ↔ O l := (indep _ l (Nat.le_refl _) b ln c 0 1 1).2
theorem KO_nil : K [] = [(3, [])] ∧ O [] := by simp [K, O, kts, okS, lexS, kt]
/-- one step, without places -/
theorem KO_blank {x : Int} (r : List Int) (h : x = 32 ∨ x = 9 ∨ x = 13) : K (x :: r) = K r ∧ (O (x :: r) ↔ O r) := by
  have e : lexS (x :: r) 0 1 1 = lexS r (0 + 1) 1 (1 + 1) := by rw [lexS, if_pos h]
  exact ⟨by rw [← kts_K r (0 + 1) 1 (1 + 1), ← e]; rfl, by rw [← okS_O r (0 + 1) 1 (1 + 1), ← e]; rfl⟩
theorem KO_rem {x : Int} (r : List Int) (h : x = 35) : K (x :: r) = K (r.drop (spanN notLF r)) ∧ (O (x :: r) ↔ O (r.drop (spanN notLF r))) := by
  have e : lexS (x :: r) 0 1 1 = lexS (r.drop (spanN notLF r)) (0 + (spanN notLF r + 1)) 1 (1 + (spanN notLF r + 1 : Nat)) := by rw [lexS, if_neg (by omega), if_pos h]
  exact ⟨by rw [← kts_K (r.drop (spanN notLF r)) (0 + (spanN notLF r + 1)) 1 (1 + (spanN notLF r + 1 : Nat)), ← e]; rfl, by rw [← okS_O (r.drop (spanN notLF r)) (0 + (spanN notLF r + 1)) 1 (1 + (spanN notLF r + 1 : Nat)), ← e]; rfl⟩
theorem KO_line {x : Int} (r : List Int) (h : x = 10 ∨ x = 59) : K (x :: r) = (2, [x]) :: K r ∧ (O (x :: r) ↔ O r) := by
  rcases h with h | h
  · have e : lexS (x :: r) 0 1 1 = putT ⟨2, [x], 0, 1, 1⟩ (lexS r (0 + 1) (1 + 1) 1) := by rw [lexS, if_neg (by omega), if_neg (by omega), if_pos h]
    exact ⟨by rw [← kts_K r (0 + 1) (1 + 1) 1, K, kts, e]; rfl, by rw [← okS_O r (0 + 1) (1 + 1) 1, O, okS, e]; rfl⟩
  · have e : lexS (x :: r) 0 1 1 = putT ⟨2, [x], 0, 1, 1⟩ (lexS r (0 + 1) 1 (1 + 1)) := by rw [lexS, if_neg (by omega), if_neg (by omega), if_neg (by omega), if_pos h]
    exact ⟨by rw [← kts_K r (0 + 1) 1 (1 + 1), K, kts, e]; rfl, by rw [← okS_O r (0 + 1) 1 (1 + 1), O, okS, e]; rfl⟩
theorem KO_mark {x : Int} (r : List Int) (h : markP x) : K (x :: r) = (1, [x]) :: K r ∧ (O (x :: r) ↔ O r) := by
  have h' := h
  unfold markP at h'
  have e : lexS (x :: r) 0 1 1 = putT ⟨1, [x], 0, 1, 1⟩ (lexS r (0 + 1) 1 (1 + 1)) := by rw [lexS, if_neg (by omega), if_neg (by omega), if_neg (by omega), if_neg (by omega), if_pos h]
  exact ⟨by rw [← kts_K r (0 + 1) 1 (1 + 1), K, kts, e]; rfl, by rw [← okS_O r (0 + 1) 1 (1 + 1), O, okS, e]; rfl⟩
theorem letter_other {x : Int} (h : letterP x) : ¬ (x = 32 ∨ x = 9 ∨ x = 13) ∧ x ≠ 35 ∧ x ≠ 10 ∧ x ≠ 59 ∧ ¬ markP x := by
  unfold letterP at h
  refine ⟨by omega, by omega, by omega, by omega, by unfold markP; omega⟩
theorem KO_long {x : Int} (r : List Int) (h : letterP x) (hl : 32 < spanN nameP r + 1) : ¬ O (x :: r) := by
  obtain ⟨h0, h1, h2, h3, h4⟩ := letter_other h
  rw [O, okS, lexS, if_neg h0, if_neg h1, if_neg h2, if_neg h3, if_neg h4, if_pos h, if_pos hl]
  simp
theorem KO_name {x : Int} (r : List Int) (h : letterP x) (hl : ¬ 32 < spanN nameP r + 1) : K (x :: r) = (0, x :: r.take (spanN nameP r)) :: K (r.drop (spanN nameP r)) ∧ (O (x :: r) ↔ O (r.drop (spanN nameP r))) := by
  obtain ⟨h0, h1, h2, h3, h4⟩ := letter_other h
  have e : lexS (x :: r) 0 1 1 = putT ⟨0, x :: r.take (spanN nameP r), 0, 1, 1⟩ (lexS (r.drop (spanN nameP r)) (0 + (spanN nameP r + 1)) 1 (1 + (spanN nameP r + 1 : Nat))) := by rw [lexS, if_neg h0, if_neg h1, if_neg h2, if_neg h3, if_neg h4, if_pos h, if_neg hl]
  exact ⟨by rw [← kts_K (r.drop (spanN nameP r)) (0 + (spanN nameP r + 1)) 1 (1 + (spanN nameP r + 1 : Nat)), K, kts, e]; rfl, by rw [← okS_O (r.drop (spanN nameP r)) (0 + (spanN nameP r + 1)) 1 (1 + (spanN nameP r + 1 : Nat)), O, okS, e]; rfl⟩
theorem KO_bad {x : Int} (r : List Int) (h0 : ¬ (x = 32 ∨ x = 9 ∨ x = 13)) (h1 : x ≠ 35) (h2 : ¬ (x = 10 ∨ x = 59)) (h4 : ¬ markP x) (h5 : ¬ letterP x) : ¬ O (x :: r) := by
  rw [O, okS, lexS, if_neg h0, if_neg h1, if_neg (fun e => h2 (.inl e)), if_neg (fun e => h2 (.inr e)), if_neg h4, if_neg h5]
  simp
theorem spanN_app (p : Int → Prop) [DecidablePred p] {z : Int} (hz : ¬ p z) : ∀ (r B : List Int), spanN p (r ++ z :: B) = spanN p r
  | [], B => by rw [List.nil_append, spanN_cons_neg hz]; simp [spanN]
  | a :: r, B => by
    rw [List.cons_append]
    by_cases ha : p a
    · rw [spanN_cons_pos ha, spanN_cons_pos ha, spanN_app p hz r B]
    · rw [spanN_cons_neg ha, spanN_cons_neg ha]
theorem drop_app {r B : List Int} {n : Nat} (h : n ≤ r.length) : (r ++ B).drop n = r.drop n ++ B := List.drop_append_of_le_length h
theorem K_ne (l : List Int) (h : O l) : K l ≠ [] := by
  intro e
  have : ∀ (n : Nat) (l : List Int), l.length ≤ n → O l → K l ≠ [] := by
    intro n
    induction n with
    | zero =>
      intro l hl _
      have : l = [] := List.eq_nil_of_length_eq_zero (by omega)
      subst this
      rw [KO_nil.1]; simp
    | succ n ih =>
      intro l hl ho
      cases l with
      | nil => rw [KO_nil.1]; simp
      | cons x r =>
        have hr : r.length ≤ n := by simpa using hl
        have hd : ∀ k, (r.drop k).length ≤ n := fun k => by simp; omega
        by_cases h0 : x = 32 ∨ x = 9 ∨ x = 13
        · rw [(KO_blank r h0).1]; exact ih r hr ((KO_blank r h0).2.1 ho)
        by_cases h1 : x = 35
        · rw [(KO_rem r h1).1]; exact ih _ (hd _) ((KO_rem r h1).2.1 ho)
        by_cases h2 : x = 10 ∨ x = 59
        · rw [(KO_line r h2).1]; simp
        by_cases h4 : markP x
        · rw [(KO_mark r h4).1]; simp
        by_cases h5 : letterP x
        · by_cases hl : 32 < spanN nameP r + 1
          · exact absurd ho (KO_long r h5 hl)
          · rw [(KO_name r h5 hl).1]; simp
        · exact absurd ho (KO_bad r h0 h1 h2 h4 h5)
  exact this _ l (Nat.le_refl _) h e
/-- two texts with a line feed between -/
theorem parts : ∀ (n : Nat) (A B : List Int), A.length ≤ n → (O (A ++ 10 :: B) ↔ O A ∧ O B) ∧ (O A → K (A ++ 10 :: B) = (K A).dropLast ++ (2, [10]) :: K B) := by
  intro n
  induction n with
  | zero =>
    intro A B hl
    have : A = [] := List.eq_nil_of_length_eq_zero (by omega)
    subst this
    have h := KO_line B (x := 10) (.inl rfl)
    refine ⟨?_, fun _ => ?_⟩
    · rw [List.nil_append, h.2]; exact ⟨fun h => ⟨KO_nil.2, h⟩, fun h => h.2⟩
    · rw [List.nil_append, h.1, KO_nil.1]; rfl
  | succ n ih =>
    intro A B hl
    cases A with
    | nil => exact ih [] B (Nat.zero_le _)
    | cons x r =>
      have hr : r.length ≤ n := by simpa using hl
      have hd : ∀ k, (r.drop k).length ≤ n := fun k => by simp; omega
      rw [List.cons_append]
      by_cases h0 : x = 32 ∨ x = 9 ∨ x = 13
      · rw [(KO_blank _ h0).2, (KO_blank _ h0).2, (KO_blank _ h0).1, (KO_blank _ h0).1]
        exact ih r B hr
      by_cases h1 : x = 35
      · rw [(KO_rem _ h1).2, (KO_rem _ h1).2, (KO_rem _ h1).1, (KO_rem _ h1).1, spanN_app notLF lf_line, drop_app (spanN_le notLF r)]
        exact ih _ B (hd _)
      by_cases h2 : x = 10 ∨ x = 59
      · rw [(KO_line _ h2).2, (KO_line _ h2).2, (KO_line _ h2).1, (KO_line _ h2).1]
        have := ih r B hr
        refine ⟨this.1, fun ho => ?_⟩
        rw [this.2 ho, List.dropLast_cons_of_ne_nil (K_ne r ho)]; rfl
      by_cases h4 : markP x
      · rw [(KO_mark _ h4).2, (KO_mark _ h4).2, (KO_mark _ h4).1, (KO_mark _ h4).1]
        have := ih r B hr
        refine ⟨this.1, fun ho => ?_⟩
        rw [this.2 ho, List.dropLast_cons_of_ne_nil (K_ne r ho)]; rfl
      by_cases h5 : letterP x
      · by_cases hll : 32 < spanN nameP r + 1
        · have hll' : 32 < spanN nameP (r ++ 10 :: B) + 1 := by rw [spanN_app nameP lf_name]; exact hll
          exact ⟨⟨fun h => absurd h (KO_long _ h5 hll'), fun h => absurd h.1 (KO_long _ h5 hll)⟩, fun h => absurd h (KO_long _ h5 hll)⟩
        · have hll' : ¬ 32 < spanN nameP (r ++ 10 :: B) + 1 := by rw [spanN_app nameP lf_name]; exact hll
          rw [(KO_name _ h5 hll).2, (KO_name _ h5 hll').2, (KO_name _ h5 hll).1, (KO_name _ h5 hll').1, spanN_app nameP lf_name, drop_app (spanN_le nameP r), List.take_append_of_le_length (spanN_le nameP r)]
          have := ih _ B (hd (spanN nameP r))
          refine ⟨this.1, fun ho => ?_⟩
          rw [this.2 ho, List.dropLast_cons_of_ne_nil (K_ne _ ho)]; rfl
      · exact ⟨⟨fun h => absurd h (KO_bad _ h0 h1 h2 h4 h5), fun h => absurd h.1 (KO_bad _ h0 h1 h2 h4 h5)⟩, fun h => absurd h (KO_bad _ h0 h1 h2 h4 h5)⟩
/-! ### the tokens' texts with a blank behind each -/
def W1 (ts : List (Int × List Int)) : List Int := ts.flatMap fun t => t.2 ++ [32]
theorem span_take : ∀ (r : List Int) (B : List Int), spanN nameP (r.take (spanN nameP r) ++ 32 :: B) = spanN nameP r
  | [], B => by show spanN nameP (32 :: B) = 0; exact spanN_cons_neg (by decide) B
  | a :: r, B => by
    by_cases ha : nameP a
    · rw [spanN_cons_pos ha, List.take_succ_cons, List.cons_append, spanN_cons_pos ha, span_take r B]
    · rw [spanN_cons_neg ha, List.take_zero, List.nil_append, spanN_cons_neg (by decide)]
theorem again : ∀ (n : Nat) (l : List Int), l.length ≤ n → O l → O (W1 (K l)) ∧ K (W1 (K l)) = K l ∧ (W1 (K l)).length ≤ 2 * l.length + 1 := by
  intro n
  have h32 : ∀ B, K (32 :: B) = K B ∧ (O (32 :: B) ↔ O B) := fun B => KO_blank B (.inl rfl)
  have base : O (W1 (K [])) ∧ K (W1 (K [])) = K [] ∧ (W1 (K [])).length ≤ 2 * ([] : List Int).length + 1 := by
    rw [KO_nil.1]
    show O [32] ∧ K [32] = _ ∧ _
    exact ⟨(h32 []).2.2 KO_nil.2, by rw [(h32 []).1, KO_nil.1], by decide⟩
  induction n with
  | zero =>
    intro l hl _
    have : l = [] := List.eq_nil_of_length_eq_zero (by omega)
    subst this
    exact base
  | succ n ih =>
    intro l hl ho
    cases l with
    | nil => exact base
    | cons x r =>
      have hr : r.length ≤ n := by simpa using hl
      have hd : ∀ k, (r.drop k).length ≤ n := fun k => by simp; omega
      by_cases h0 : x = 32 ∨ x = 9 ∨ x = 13
      · rw [(KO_blank r h0).1]
        have := ih r hr ((KO_blank r h0).2.1 ho)
        exact ⟨this.1, this.2.1, by have := this.2.2; simp; omega⟩
      by_cases h1 : x = 35
      · rw [(KO_rem r h1).1]
        have := ih _ (hd (spanN notLF r)) ((KO_rem r h1).2.1 ho)
        exact ⟨this.1, this.2.1, by have := this.2.2; simp at this ⊢; omega⟩
      by_cases h2 : x = 10 ∨ x = 59
      · rw [(KO_line r h2).1]
        have := ih r hr ((KO_line r h2).2.1 ho)
        have e : W1 ((2, [x]) :: K r) = x :: 32 :: W1 (K r) := rfl
        rw [e, (KO_line _ h2).1, (KO_line _ h2).2, (h32 _).1, (h32 _).2]
        exact ⟨this.1, by rw [this.2.1], by have := this.2.2; simp; omega⟩
      by_cases h4 : markP x
      · rw [(KO_mark r h4).1]
        have := ih r hr ((KO_mark r h4).2.1 ho)
        have e : W1 ((1, [x]) :: K r) = x :: 32 :: W1 (K r) := rfl
        rw [e, (KO_mark _ h4).1, (KO_mark _ h4).2, (h32 _).1, (h32 _).2]
        exact ⟨this.1, by rw [this.2.1], by have := this.2.2; simp; omega⟩
      by_cases h5 : letterP x
      · by_cases hll : 32 < spanN nameP r + 1
        · exact absurd ho (KO_long r h5 hll)
        · rw [(KO_name r h5 hll).1]
          have := ih _ (hd (spanN nameP r)) ((KO_name r h5 hll).2.1 ho)
          have e : W1 ((0, x :: r.take (spanN nameP r)) :: K (r.drop (spanN nameP r))) = x :: (r.take (spanN nameP r) ++ 32 :: W1 (K (r.drop (spanN nameP r)))) := by simp [W1]
          have hsp := span_take r (W1 (K (r.drop (spanN nameP r))))
          have hln := spanN_le nameP r
          have htk : (r.take (spanN nameP r)).length = spanN nameP r := by simp; omega
          rw [e, (KO_name _ h5 (by rw [hsp]; exact hll)).1, (KO_name _ h5 (by rw [hsp]; exact hll)).2, hsp, List.take_left' htk, List.drop_left' htk, (h32 _).1, (h32 _).2]
          exact ⟨this.1, by rw [this.2.1], by have := this.2.2; simp at this ⊢; omega⟩
      · exact absurd ho (KO_bad r h0 h1 h2 h4 h5)
end Go.Proofs.Ytdkigndgdkaoiaa
