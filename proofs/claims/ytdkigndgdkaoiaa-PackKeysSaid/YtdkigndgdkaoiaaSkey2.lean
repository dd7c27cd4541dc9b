import Derived.Test.YtdkigndgdkaoiaaLkey
import Derived.Test.YtdkigndgdkaoiaaSkey
namespace Go.Proofs.Ytdkigndgdkaoiaa
open Go B X
set_option linter.unusedVariables false
set_option maxRecDepth 8000
theorem UnpackKey_ok (xs : List Int) (hx : Bytes xs) (A : Option Addr) (c : Nat) : Fc Try.prog 23 [.slice A xs.length c] [] (fun h => Reads h 1 A xs.length c (u8s xs)) (Is (unpackV (unpackS xs)) []) := by
  refine fn_of Try.func23 rfl rfl rfl (fun E ro hR => ?_)
  have hmax := hR.max
  refine run ?_
  refine nvar (cs := kV 0#128 zAges) fun p => ?_
  refine run ?_
  refine nbox fun q => ?_
  refine run ?_
  refine nvar (cs := kV 0#128 zAges) fun k => ?_
  refine run ?_
  rcases hN : numL xs 0 128 with ⟨n, w, e⟩
  obtain ⟨f1, f2, f3, f4, f5⟩ := numL_facts hN tk_e
  have sp := srcNumber_ok xs hx A c q 0 128 0 (Nat.zero_le _) (by omega)
  rw [List.drop_zero, hN, Nat.zero_add] at sp
  dsimp only at sp
  refine callv (sp) ?_
  refine run ?_
  have he0 : e = 0 ∨ e = 80 ∨ e = 81 := f5 rfl
  refine loop (σ := Nat × Nat × Int × Set × List Nat) (0, w, e, 0#128, zAges)
    (fun x => [(0, .slice A xs.length c), (2, .pointer (some ⟨p, 0, none⟩)), (5, .pointer (some ⟨q, 0, none⟩)), (6, .pointer (some ⟨k, 0, none⟩)), (7, .int .i64 (n : Int)), (15, .int .i64 (n : Int)), (16, .int .i64 (x.1 : Int))])
    (fun x => [.box q 91 (srcV A xs.length c x.2.1 x.2.2.1), .box k 40 (kV x.2.2.2.1 x.2.2.2.2), .box p 40 (kV 0#128 zAges)])
    (fun x => x.1 ≤ n ∧ x.2.1 ≤ xs.length ∧ x.2.2.2.2.length = 128 ∧ (x.2.2.1 = 0 ∨ x.2.2.1 = 80 ∨ x.2.2.1 = 81) ∧ if e = 0 then ∃ pre, Stands n (xs.drop w) pre (xs.drop x.2.1) x.2.2.1 ∧ (x.2.2.1 = 0 → x.2.2.2.1 = ofL (oddL pre) ∧ x.2.2.2.2 = agesOf pre ∧ pre.length = x.1) else n = 0 ∧ x.2.2.1 = e)
    (fun x => n - x.1) ?_ ?_
  · refine ⟨Nat.zero_le _, f1, rfl, he0, ?_⟩
    split
    · rename_i h; subst h; exact ⟨[], Stands.start _ _, fun _ => ⟨rfl, rfl, rfl⟩⟩
    · rename_i h; exact ⟨(f4 h).1, rfl⟩
  rintro ⟨i, m, e2, s, l⟩ ⟨g1, g2, g3, g4, g5⟩
  dsimp only at g1 g2 g3 g4 g5 ⊢
  have h130 := kV_130 s l g3
  by_cases hin : i = n
  · subst hin
    have hU : unpackS xs = if e2 = 0 then (if xs.drop m = [] then ((s, l), i, 0) else ((0#128, zAges), 0, 81)) else ((0#128, zAges), 0, e2) := by
      unfold unpackS
      rw [hN]
      dsimp only
      by_cases he : e = 0
      · rw [if_pos he] at g5 ⊢
        obtain ⟨pre, st, hp⟩ := g5
        by_cases he2 : e2 = 0
        · obtain ⟨rfl, rfl, hl⟩ := hp he2
          subst he2
          rw [st.done hl]
        · rw [if_neg he2]
          rcases st with ⟨h, _⟩ | ⟨_, st⟩
          · exact absurd h he2
          · rcases hnm : nums i (xs.drop w) with ⟨ys, r, e'⟩
            rw [hnm] at st
            dsimp only at st ⊢
            subst st
            rw [if_neg he2]
      · rw [if_neg he] at g5 ⊢
        obtain ⟨hi0, rfl⟩ := g5
        rw [if_neg he]
    rw [hU]
    have hz130 := kV_130 0#128 zAges rfl
    have hone := kV_one s l
    have hst1 := kV_all 0#128 s zAges l rfl g3
    have hst2 := kV_all 0#128 0#128 zAges zAges rfl rfl
    by_cases he2 : e2 = 0
    · subst he2
      rw [if_pos rfl]
      by_cases hd : m = xs.length
      · subst hd
        rw [if_pos (List.drop_length)]
        refine run ?_
        refine ret3 ?_
        exact ⟨rfl, rfl⟩
      · rw [if_neg (by intro h; have := congrArg List.length h; rw [List.length_drop] at this; simp at this; omega)]
        refine run ?_
        refine draw [(0, true), (1, true), (2, true), (3, true), (4, true), (5, false), (6, true), (7, true)] [.box q _ _] ?_
        refine run ?_
        refine ret3 ?_
        refine ⟨?_, rfl⟩
        show Value.tuple #[.agg (setVs (kV 0#128 zAges) 0 (kV 0#128 zAges)).toArray, _, _] = _
        rw [hst2.1]
        rfl
    · rw [if_neg he2]
      refine run ?_
      refine draw [(0, true), (1, true), (2, true), (3, true), (4, true), (5, false), (6, true), (7, true)] [.box q _ _] ?_
      refine run ?_
      refine ret3 ?_
      refine ⟨?_, rfl⟩
      show Value.tuple #[.agg (setVs (kV 0#128 zAges) 0 (kV 0#128 zAges)).toArray, _, _] = _
      rw [hst2.1]
      rfl
  rcases hM : numL (xs.drop m) e2 511 with ⟨x, w2, e3⟩
  obtain ⟨k1, k2, k3, k4, k5⟩ := numL_facts hM tk_e
  rw [List.length_drop] at k1
  have sp := srcNumber_ok xs hx A c q m 511 e2 g2 (by omega)
  rw [hM] at sp
  dsimp only at sp
  have hset := kV_set s l i (x / 2) (by omega)
  have hbits := kV_bits s (s ||| oneS i) (l.set i (x / 2))
  refine run ?_
  refine callv (sp) ?_
  refine run ?_
  have g5' : ∀ (hodd : Set), (x % 2 = 1 → hodd = s ||| oneS i) → (¬ x % 2 = 1 → hodd = s) → if e = 0 then ∃ pre, Stands n (xs.drop w) pre (xs.drop (m + w2)) e3 ∧ (e3 = 0 → hodd = ofL (oddL pre) ∧ l.set i (x / 2) = agesOf pre ∧ pre.length = i + 1) else n = 0 ∧ e3 = e := by
    intro ho h1 h2
    by_cases he : e = 0
    · rw [if_pos he] at g5 ⊢
      obtain ⟨pre, st, hp⟩ := g5
      by_cases he2 : e2 = 0
      · subst he2
        obtain ⟨rfl, rfl, hl⟩ := hp rfl
        refine ⟨pre ++ [x], ?_, fun _ => ⟨?_, ?_, by simp [hl]⟩⟩
        · rw [← List.drop_drop]
          exact st.step (by omega) hM
        · rw [oddL_snoc, hl]
          by_cases hx2 : x % 2 = 1
          · rw [if_pos hx2, ofL_snoc, h1 hx2]
          · rw [if_neg hx2, List.append_nil, h2 hx2]
        · rw [← agesOf_snoc _ _ (by omega), hl]
      · obtain ⟨_, _, rfl⟩ := k3 he2
        exact ⟨pre, st.err he2, fun h => absurd h he2⟩
    · rw [if_neg he] at g5 ⊢
      omega
  have hk5 : e3 = 0 ∨ e3 = 80 ∨ e3 = 81 := by
    by_cases he2 : e2 = 0
    · exact k5 he2
    · obtain ⟨_, _, rfl⟩ := k3 he2
      exact g4
  refine wifD (fun hx2 => ?_) (fun hx2 => ?_)
  · refine run ?_
    refine callv (With_ok s i) ?_
    refine run ?_
    exact again (i + 1, m + w2, e3, s ||| oneS i, l.set i (x / 2)) ⟨by dsimp only; omega, by dsimp only; omega, by rw [List.length_set]; exact g3, hk5, g5' _ (fun _ => rfl) (fun h => absurd (show x % 2 = 1 by omega) h)⟩ (by dsimp only; omega)
  · refine run ?_
    exact again (i + 1, m + w2, e3, s, l.set i (x / 2)) ⟨by dsimp only; omega, by dsimp only; omega, by rw [List.length_set]; exact g3, hk5, g5' _ (fun h => absurd h (by omega)) (fun _ => rfl)⟩ (by dsimp only; omega)
end Go.Proofs.Ytdkigndgdkaoiaa
