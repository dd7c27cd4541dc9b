import Derived.Test.YtdkigndgdkaoiaaSkey2
namespace Go.Proofs.Ytdkigndgdkaoiaa
open Go B X
set_option linter.unusedVariables false
set_option maxRecDepth 8000
theorem refUnpackKey_ok (xs : List Int) (hx : Bytes xs) (A : Option Addr) (c : Nat) : Fc Try.prog 24 [.slice A xs.length c] [] (fun h => Reads h 1 A xs.length c (u8s xs)) (Is (unpackV (unpackS xs)) []) := by
  refine fn_of Try.func24 rfl rfl rfl (fun E ro hR => ?_)
  have hmax := hR.max
  refine run ?_
  refine nvar (cs := kV 0#128 zAges) fun p => ?_
  refine run ?_
  refine nbox fun q => ?_
  refine run ?_
  refine nvar (cs := kV 0#128 zAges) fun k => ?_
  refine run ?_
  rcases hN : numL xs 0 128 with ⟨n, w, e⟩
  obtain ⟨f1, f2, f3, f4, f5⟩ := numL_facts hN tk_e
  have sp := refNumber_ok xs hx A c q 128 0 (by omega)
  rw [hN] at sp
  dsimp only at sp
  refine call sp ?_
  rintro _ _ ⟨rfl, A1, c1, rfl, hA1⟩
  have ro1 := ro.imp hA1
  refine nnil (e := 3) (size := 1) ?_
  refine run ?_
  have he0 : e = 0 ∨ e = 80 ∨ e = 81 := f5 rfl
  refine loop (σ := Nat × (Option Addr × Nat × List Int) × Int × List Nat × (Option Addr × Nat × Nat × List Value)) (0, (A1, c1, xs.drop w), e, zAges, (none, 0, 0, []))
    (fun x => [(0, .slice A xs.length c), (2, .pointer (some ⟨p, 0, none⟩)), (5, .pointer (some ⟨q, 0, none⟩)), (6, .pointer (some ⟨k, 0, none⟩)), (7, .slice x.2.2.2.2.1 x.2.2.2.2.2.1 x.2.2.2.2.2.2.1), (8, .int .i64 (n : Int)), (9, .int .i64 (x.1 : Int))])
    (fun x => [.box q 96 [.slice x.2.1.1 x.2.1.2.2.length x.2.1.2.1, .int .i64 x.2.2.1], .box k 40 (kV 0#128 x.2.2.2.1), .box p 40 (kV 0#128 zAges), .row 3 1 x.2.2.2.2.1 x.2.2.2.2.2.1 x.2.2.2.2.2.2.1 x.2.2.2.2.2.2.2])
    (fun x => x.1 ≤ n ∧ x.2.2.2.1.length = 128 ∧ (x.2.2.1 = 0 ∨ x.2.2.1 = 80 ∨ x.2.2.1 = 81) ∧ Ro E (fun h => Reads h 1 x.2.1.1 x.2.1.2.2.length x.2.1.2.1 (u8s x.2.1.2.2)) ∧ Bytes x.2.1.2.2 ∧ ∃ pre, pre.length = x.1 ∧ x.2.2.2.2.2.1 = (oddL pre).length ∧ x.2.2.2.2.2.2.2 = (oddL pre).map (Value.int .i64) ∧ if e = 0 then Stands n (xs.drop w) pre x.2.1.2.2 x.2.2.1 ∧ (x.2.2.1 = 0 → x.2.2.2.1 = agesOf pre) else n = 0 ∧ x.2.2.1 = e)
    (fun x => n - x.1) ?_ ?_
  · refine ⟨Nat.zero_le _, rfl, he0, ro1, fun y hy => hx y (List.mem_of_mem_drop hy), [], rfl, rfl, rfl, ?_⟩
    split
    · rename_i h; subst h; exact ⟨Stands.start _ _, fun _ => rfl⟩
    · rename_i h; exact ⟨(f4 h).1, rfl⟩
  rintro ⟨i, ⟨A2, c2, l2⟩, e2, l, ⟨B, _, b, _⟩⟩ ⟨g1, g3, g4, ro2, hb2, pre, hpl, rfl, rfl, g5⟩
  dsimp only at g1 g3 g4 g5 ro2 hb2 hpl ⊢
  have hol := oddL_len pre
  have hr2 := (ro2 _ ⟨Nat.le_refl _, fun _ _ _ => rfl⟩).max
  by_cases hgo : i < n ∧ e2 = 0
  rotate_left
  · have hU : unpackS xs = if e2 = 0 then (if l2 = [] then ((ofL (oddL pre), l), n, 0) else ((0#128, zAges), 0, 81)) else ((0#128, zAges), 0, e2) := by
      unfold unpackS
      rw [hN]
      dsimp only
      by_cases he : e = 0
      · rw [if_pos he] at g5 ⊢
        obtain ⟨st, hp⟩ := g5
        by_cases he2 : e2 = 0
        · subst he2
          rw [st.done (by omega), hp rfl]
        · rw [if_neg he2]
          rcases st with ⟨h, _⟩ | ⟨_, st⟩
          · exact absurd h he2
          · rcases hnm : nums n (xs.drop w) with ⟨ys, r, e'⟩
            rw [hnm] at st
            dsimp only at st ⊢
            subst st
            rw [if_neg he2]
      · rw [if_neg he] at g5 ⊢
        obtain ⟨hi0, rfl⟩ := g5
        rw [if_neg he]
    rw [hU]
    have hz130 := kV_130 0#128 zAges rfl
    have h130 := kV_130 (ofL (oddL pre)) l g3
    have hone := kV_one (ofL (oddL pre)) l
    have hst1 := kV_all 0#128 (ofL (oddL pre)) zAges l rfl g3
    have hst2 := kV_all 0#128 0#128 zAges zAges rfl rfl
    have hst3 := kV_bits 0#128 (ofL (oddL pre)) l
    have spo := refOf_ok (oddL pre) B b
    by_cases hin : i < n
    · have he2 : ¬ e2 = 0 := fun h => hgo ⟨hin, h⟩
      rw [if_neg he2]
      refine run ?_
      refine callv (spo) ?_
      refine run ?_
      refine draw [(0, true), (1, true), (2, true), (3, true), (4, true), (5, false), (6, true), (7, true)] [.box q _ _] ?_
      refine run ?_
      refine ret3 ?_
      refine ⟨?_, rfl⟩
      show Value.tuple #[.agg (setVs (kV 0#128 zAges) 0 (kV 0#128 zAges)).toArray, _, _] = _
      rw [hst2.1]
      rfl
    have hin' : i = n := by omega
    subst hin'
    by_cases he2 : e2 = 0
    rotate_left
    · rw [if_neg he2]
      refine run ?_
      refine callv (spo) ?_
      refine run ?_
      refine draw [(0, true), (1, true), (2, true), (3, true), (4, true), (5, false), (6, true), (7, true)] [.box q _ _] ?_
      refine run ?_
      refine ret3 ?_
      refine ⟨?_, rfl⟩
      show Value.tuple #[.agg (setVs (kV 0#128 zAges) 0 (kV 0#128 zAges)).toArray, _, _] = _
      rw [hst2.1]
      rfl
    subst he2
    rw [if_pos rfl]
    by_cases hd : l2 = []
    · rw [if_pos hd]
      have hd2 : l2.length = 0 := by rw [hd]; rfl
      refine run ?_
      refine callv (spo) ?_
      refine run ?_
      refine ret3 ?_
      exact ⟨rfl, rfl⟩
    · rw [if_neg hd]
      have hd2 : 0 < l2.length := List.length_pos_iff.2 hd
      refine run ?_
      refine callv (spo) ?_
      refine run ?_
      refine draw [(0, true), (1, true), (2, true), (3, true), (4, true), (5, false), (6, true), (7, true)] [.box q _ _] ?_
      refine run ?_
      refine ret3 ?_
      refine ⟨?_, rfl⟩
      show Value.tuple #[.agg (setVs (kV 0#128 zAges) 0 (kV 0#128 zAges)).toArray, _, _] = _
      rw [hst2.1]
      rfl
  obtain ⟨hin, rfl⟩ := hgo
  rcases hM : numL l2 0 511 with ⟨x, w2, e3⟩
  obtain ⟨k1, k2, k3, k4, k5⟩ := numL_facts hM tk_e
  have sp2 := refNumber_ok l2 hb2 A2 c2 q 511 0 (by omega)
  rw [hM] at sp2
  dsimp only at sp2
  have hset := kV_set 0#128 l i (x / 2) (by omega)
  have g5' : if e = 0 then Stands n (xs.drop w) (pre ++ [x]) (l2.drop w2) e3 ∧ (e3 = 0 → l.set i (x / 2) = agesOf (pre ++ [x])) else n = 0 ∧ e3 = e := by
    by_cases he : e = 0
    · rw [if_pos he] at g5 ⊢
      obtain ⟨st, hp⟩ := g5
      refine ⟨st.step (by omega) hM, fun _ => ?_⟩
      rw [hp rfl, ← agesOf_snoc _ _ (by omega), hpl]
    · rw [if_neg he] at g5 ⊢
      omega
  have hos := oddL_snoc pre x
  have hbd : Bytes (l2.drop w2) := fun y hy => hb2 y (List.mem_of_mem_drop hy)
  refine run ?_
  refine call sp2 ?_
  rintro _ _ ⟨rfl, A3, c3, rfl, hA3⟩
  have ro3 := ro2.imp hA3
  refine run ?_
  refine wifD (fun hx2 => ?_) (fun hx2 => ?_)
  · rw [if_pos (by omega)] at hos
    refine run ?_
    refine nlit fun D => ?_
    refine run ?_
    refine napp (ys := [.int .i64 (i : Int)]) fun B' b' hb' => ?_
    refine run ?_
    refine again (i + 1, (A3, c3, l2.drop w2), e3, l.set i (x / 2), (B', _, b', _)) ?_ (by dsimp only; omega)
    exact ⟨by dsimp only; omega, by rw [List.length_set]; exact g3, k5 rfl, ro3, hbd, pre ++ [x], by simp [hpl], by rw [hos]; simp, by rw [hos, hpl]; simp, g5'⟩
  · rw [if_neg (by omega), List.append_nil] at hos
    refine run ?_
    refine again (i + 1, (A3, c3, l2.drop w2), e3, l.set i (x / 2), (B, _, b, _)) ?_ (by dsimp only; omega)
    exact ⟨by dsimp only; omega, by rw [List.length_set]; exact g3, k5 rfl, ro3, hbd, pre ++ [x], by simp [hpl], by rw [hos], by rw [hos], g5'⟩
end Go.Proofs.Ytdkigndgdkaoiaa
