import Derived.Test.YtdkigndgdkaoiaaSkey3
namespace Go.Proofs.Ytdkigndgdkaoiaa
open Go B X
set_option linter.unusedVariables false
set_option maxRecDepth 8000
theorem refPackKey_ok (s : Set) (l : List Nat) (hlen : l.length = 128) (hlt : ∀ a ∈ l, a < 256) (n : Nat) (hn : n ≤ 128) : Fc Try.prog 25 [.agg (kV s l).toArray, .int .i64 (n : Int)] [] Any (IsRow 5 1 (kbytes s l n).length (u8s (kbytes s l n))) := by
  refine fn_of Try.func25 rfl rfl rfl (fun E ro hR => ?_)
  refine run ?_
  refine nbox fun p => ?_
  refine run ?_
  have hv := vb_len n (by omega)
  refine call (Number_ok n (by omega)) ?_
  rintro _ _ ⟨A1, c1, rfl, rfl⟩
  refine run ?_
  refine loop (σ := Option Addr × Nat × Nat × List Value × Nat) (A1, _, c1, _, 0) (fun x => [(1, .int .i64 (n : Int)), (2, .pointer (some ⟨p, 0, none⟩)), (5, .slice x.1 x.2.1 x.2.2.1), (6, .int .i64 (x.2.2.2.2 : Int))]) (fun x => [.row 5 1 x.1 x.2.1 x.2.2.1 x.2.2.2.1, .box p 40 (kV s l)])
    (fun x => ∃ bs, x.2.1 = bs.length ∧ x.2.2.2.1 = u8s bs ∧ x.2.2.2.2 ≤ n ∧ bs = vb n ++ (List.range x.2.2.2.2).flatMap fun i => vb (kx s l i)) (fun x => n - x.2.2.2.2) ?_ ?_
  · exact ⟨_, rfl, rfl, Nat.zero_le _, by simp⟩
  rintro ⟨B, _, b, _, i⟩ ⟨bs, rfl, rfl, hi, hbs⟩
  dsimp only at hi hbs ⊢
  have hfl := kfl_len s l hlt i
  have hbl : bs.length ≤ 10 + 10 * i := by rw [hbs, List.length_append]; omega
  by_cases hin : i = n
  · subst hin
    refine run ?_
    refine ret1 (S' := [.row _ _ _ _ _ _]) ?_
    unfold kbytes
    rw [← hbs]
    exact ⟨_, _, rfl, rfl⟩
  have hi2 : i < l.length := by omega
  have hel := kV_get s l i l[i] (List.getElem?_eq_getElem hi2)
  have ha : l[i] < 256 := hlt _ (List.getElem_mem hi2)
  have hkx : kx s l i = 2 * l[i] + (s.getLsbD i).toNat := by unfold kx; rw [List.getD_eq_getElem?_getD, List.getElem?_eq_getElem hi2]; rfl
  have hk5 := kx_lt s l hlt i
  have hv2 := vb_len (kx s l i) (by omega)
  have hib : hasB s (i : Int) = s.getLsbD i := by unfold hasB; rw [decide_eq_true (by omega), Bool.true_and, Int.toNat_natCast]
  generalize l[i] = a at *
  have sp := Number_ok (kx s l i) (by omega)
  refine run ?_
  refine callv (refHas_ok s i) ?_
  refine run ?_
  rw [hib]
  cases hsb : s.getLsbD i
  all_goals
    rw [hsb] at hkx
    refine run ?_
  · rw [show ((2 : Int) * (a : Int)) = ((kx s l i : Nat) : Int) by rw [hkx]; simp]
    refine call (sp) ?_
    rintro _ _ ⟨C, d, rfl, rfl⟩
    refine run ?_
    refine napp (ys := u8s (vb (kx s l i))) (h1 := u8s_one _) fun B' b' hb' => ?_
    refine run ?_
    refine again (B', _, b', _, i + 1) ?_ (by dsimp only; omega)
    exact ⟨bs ++ vb (kx s l i), by simp, by rw [u8s_app], by dsimp only; omega, by rw [kbytes_step, hbs]⟩
  · rw [show ((2 : Int) * (a : Int) + 1) = ((kx s l i : Nat) : Int) by rw [hkx]; simp]
    refine call (sp) ?_
    rintro _ _ ⟨C, d, rfl, rfl⟩
    refine run ?_
    refine napp (ys := u8s (vb (kx s l i))) (h1 := u8s_one _) fun B' b' hb' => ?_
    refine run ?_
    refine again (B', _, b', _, i + 1) ?_ (by dsimp only; omega)
    exact ⟨bs ++ vb (kx s l i), by simp, by rw [u8s_app], by dsimp only; omega, by rw [kbytes_step, hbs]⟩
end Go.Proofs.Ytdkigndgdkaoiaa
