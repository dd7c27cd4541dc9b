import Derived.Test.YtdkigndgdkaoiaaLkey2
namespace Go.Proofs.Ytdkigndgdkaoiaa
open Go B X
set_option linter.unusedVariables false
set_option maxRecDepth 8000
theorem lawPackKeys_ok (s : Set) (l : List Nat) (hlen : l.length = 128) (hlt : ∀ a ∈ l, a < 256) (n : Int) (hn1 : -9223372036854775808 ≤ n) (hn2 : n ≤ 9223372036854775807) (raw : List Int) (hraw : Bytes raw) (A : Option Addr) (c : Nat) :
    Fc Try.prog 5 [.agg (kV s l).toArray, .int .i64 n, .slice A raw.length c] [] (fun h => Reads h 1 A raw.length c (u8s raw)) (Is (.bool true) []) := by
  refine fn_of Try.func5 rfl rfl rfl (fun E ro hR => ?_)
  refine run ?_
  refine nbox fun p => ?_
  refine run ?_
  refine callv (first8_ok) ?_
  refine run ?_
  have h130 := kV_130 s l hlen
  refine run ?_
  refine call (PackKey_ok s l hlen hlt n hn1 hn2) ?_
  rintro _ _ ⟨B, b, rfl, rfl⟩
  refine run ?_
  have sp1 := UnpackKey_ok raw hraw A c
  have sp2 := refUnpackKey_ok raw hraw A c
  have hul := unpackS_len raw
  generalize unpackS raw = u at *
  obtain ⟨⟨s1, l1⟩, m1, e1⟩ := u
  simp only [unpackV] at sp1 sp2
  dsimp only at hul
  have h131 := kV_130 s1 l1 hul.1
  have hst1 := kV_all 0#128 s1 zAges l1 rfl hul.1
  have hone1 := kV_one s1 l1
  refine callv (sp1) ?_
  refine run ?_
  refine nvar (cs := kV 0#128 zAges) fun q => ?_
  refine run ?_
  refine callv (sp2) ?_
  refine run ?_
  refine nvar (cs := kV 0#128 zAges) fun q2 => ?_
  refine run ?_
  refine neqA (eqT_key s1 s1 l1 l1 hul.1 hul.1) ?_
  rw [show (decide (s1 = s1) && (decide (l1 = l1) && true)) = true by simp]
  refine run ?_
  by_cases hb : n < 0 ∨ 128 < n
  · have hpk : packKeyS s l n = ([], 2) := by unfold packKeyS; rw [if_pos hb]
    rw [hpk]
    by_cases h0 : n < 0
    all_goals
      refine run ?_
      refine ret1 ?_
      exact ⟨rfl, rfl⟩
  obtain ⟨n, rfl⟩ := Int.eq_ofNat_of_zero_le (show 0 ≤ n by omega)
  have hpk : packKeyS s l (n : Int) = (kbytes s l n, 0) := by unfold packKeyS; rw [if_neg hb]; rfl
  rw [hpk]
  dsimp only
  have hn : n ≤ 128 := by omega
  have sp3 := UnpackKey_ok (kbytes s l n) (kbytes_Bytes s l n) B b
  rw [unpack_kbytes s l hlt n hn] at sp3
  have hl2 : (agesOf ((List.range n).map (kx s l))).length = 128 := agesOf_len _ (by simp; omega)
  have hlt2 := agesOf_lt s l hlt n
  have hget2 := agesOf_get s l n
  have hagain := kbytes_again s l n hn
  generalize ofL (oddL ((List.range n).map (kx s l))) = s2 at *
  generalize agesOf ((List.range n).map (kx s l)) = l2 at *
  simp only [unpackV] at sp3
  have h132 := kV_130 s2 l2 hl2
  have hst2 := kV_all 0#128 s2 zAges l2 rfl hl2
  have hone2 := kV_one s2 l2
  have hkl := kbytes_len s l hlt n hn
  refine run ?_
  refine callv (sp3) ?_
  refine run ?_
  refine nvar (cs := kV 0#128 zAges) fun q3 => ?_
  refine run ?_
  refine loop (σ := Nat) 0 (fun i => [(1, .int .i64 (n : Int)), (3, .pointer (some ⟨p, 0, none⟩)), (7, .slice B (kbytes s l n).length b), (8, .int .i64 0), (15, .pointer (some ⟨q3, 0, none⟩)), (16, .int .i64 (n : Int)), (17, .int .i64 0), (73, .int .i64 (i : Int))])
    (fun _ => [.box q3 40 (kV s2 l2), .box p 40 (kV s l), .row 5 1 B (kbytes s l n).length b (u8s (kbytes s l n))]) (fun i => i ≤ 128) (fun i => 128 - i) (Nat.zero_le _) ?_
  intro i hi
  by_cases hi128 : i = 128
  rotate_left
  · have hi2 : i < l.length := by omega
    have hel := kV_get s l i l[i] (List.getElem?_eq_getElem hi2)
    have hel2 := kV_get s2 l2 i _ (hget2 i hn (by omega))
    rw [List.getD_eq_getElem?_getD, List.getElem?_eq_getElem hi2, Option.getD_some] at hel2
    generalize l[i] = a at *
    refine run ?_
    refine draw [(0, true), (1, true), (2, true), (3, true), (4, true), (5, true), (6, true), (7, true), (8, true), (9, true), (10, true), (11, true), (12, true), (13, true), (14, true), (15, true), (16, true), (17, true), (18, true), (19, true), (20, true), (21, true), (22, true), (23, true), (24, true), (25, true)] [.box q3 _ _, .box p _ _] ?_
    by_cases hin : i < n
    · rw [if_pos hin] at hel2
      refine run ?_
      exact again (i + 1) (by omega) (by omega)
    · rw [if_neg hin] at hel2
      refine run ?_
      exact again (i + 1) (by omega) (by omega)
  subst hi128
  have spp := PackKey_ok s2 l2 hl2 hlt2 n hn1 hn2
  have hpk2 : packKeyS s2 l2 (n : Int) = (kbytes s l n, 0) := by unfold packKeyS; rw [if_neg hb, Int.toNat_natCast, hagain]
  rw [hpk2] at spp

  refine run ?_
  refine call spp ?_
  rintro _ _ ⟨C, c', rfl, rfl⟩
  refine run ?_
  refine draw [(0, true), (1, true), (2, true), (3, true), (4, true), (5, true), (6, true), (7, false), (8, true), (9, true), (10, true), (11, true), (12, true), (13, true), (14, true), (15, true), (16, true), (17, true), (18, true), (19, true), (20, true), (21, true), (22, true), (23, true), (24, true), (25, true), (26, true), (27, true), (28, true), (29, true), (30, true), (31, true)] [.box p _ _, .row _ _ B _ _ _, .row _ _ C _ _ _] ?_
  refine run ?_
  refine call (refPackKey_ok s l hlen hlt n hn) ?_
  rintro _ _ ⟨D, d, rfl, rfl⟩
  refine run ?_
  refine nkeep ?_
  refine run ?_
  refine ret1 ?_
  exact ⟨by simp, rfl⟩
end Go.Proofs.Ytdkigndgdkaoiaa
