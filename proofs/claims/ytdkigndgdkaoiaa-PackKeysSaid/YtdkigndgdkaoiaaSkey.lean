import Derived.Test.YtdkigndgdkaoiaaSof
namespace Go.Proofs.Ytdkigndgdkaoiaa
open Go B X
set_option linter.unusedVariables false
set_option maxRecDepth 8000
def kx (s : Set) (l : List Nat) (i : Nat) : Nat := 2 * l.getD i 0 + (s.getLsbD i).toNat
/-- a state's bytes -/
def kbytes (s : Set) (l : List Nat) (n : Nat) : List Int := vb n ++ (List.range n).flatMap fun i => vb (kx s l i)
theorem kbytes_step (s : Set) (l : List Nat) (m i : Nat) : (vb m ++ (List.range (i + 1)).flatMap fun i => vb (kx s l i)) = (vb m ++ (List.range i).flatMap fun i => vb (kx s l i)) ++ vb (kx s l i) := by
  rw [List.range_succ, List.flatMap_append, ← List.append_assoc]
  simp
theorem kx_lt (s : Set) (l : List Nat) (hl : ∀ a ∈ l, a < 256) (i : Nat) : kx s l i < 512 := by
  unfold kx
  have : l.getD i 0 < 256 := by
    rw [List.getD_eq_getElem?_getD]
    cases h : l[i]? with
    | none => simp
    | some a => exact hl a (List.mem_of_getElem? h)
  have := Bool.toNat_le (s.getLsbD i)
  omega
theorem kfl_len (s : Set) (l : List Nat) (hl : ∀ a ∈ l, a < 256) (i : Nat) : ((List.range i).flatMap fun i => vb (kx s l i)).length ≤ 10 * i := by
  induction i with
  | zero => simp
  | succ i ih =>
    rw [List.range_succ, List.flatMap_append, List.length_append]
    have := vb_len (kx s l i) (by have := kx_lt s l hl i; omega)
    simp only [List.flatMap_cons, List.flatMap_nil, List.append_nil]
    omega
def packKeyS (s : Set) (l : List Nat) (n : Int) : List Int × Int := if n < 0 ∨ 128 < n then ([], 2) else (kbytes s l n.toNat, 0)
/-- bytes of one's own, and an error -/
def IsBytesE (p : List Int × Int) : Value → List It → Prop := fun v S => ∃ A c, v = .tuple #[.slice A p.1.length c, .int .i64 p.2] ∧ S = [.row 5 1 A p.1.length c (u8s p.1)]
theorem or1 (a : Nat) (h : a < 256) : orI .u64 ((a : Int) * ((2 : Nat) : Int)) 1 = ((2 * a + 1 : Nat) : Int) := by
  have h2 : ∀ x : Nat, x < 256 → orI .u64 ((x : Int) * ((2 : Nat) : Int)) 1 = ((2 * x + 1 : Nat) : Int) := by decide +kernel
  exact h2 a h
theorem PackKey_ok (s : Set) (l : List Nat) (hlen : l.length = 128) (hlt : ∀ a ∈ l, a < 256) (n : Int) (hn1 : -9223372036854775808 ≤ n) (hn2 : n ≤ 9223372036854775807) : Fc Try.prog 22 [.agg (kV s l).toArray, .int .i64 n] [] Any (IsBytesE (packKeyS s l n)) := by
  refine fn_of Try.func22 rfl rfl rfl (fun E ro hR => ?_)
  refine run ?_
  refine nbox fun p => ?_
  refine run ?_
  refine nnil (e := 5) (size := 1) ?_
  by_cases hb : n < 0 ∨ 128 < n
  · unfold packKeyS
    rw [if_pos hb]
    by_cases h0 : n < 0
    all_goals
      refine run ?_
      refine ret2 (S' := [.row _ _ none _ _ _]) ?_
      exact ⟨none, 0, rfl, rfl⟩
  obtain ⟨n, rfl⟩ := Int.eq_ofNat_of_zero_le (show 0 ≤ n by omega)
  unfold packKeyS
  rw [if_neg hb]
  refine run ?_
  have hv := vb_len n (by omega)
  refine call (put_ok [] n none 0 (by simp; omega)) ?_
  rintro _ _ ⟨A1, c1, rfl, rfl⟩
  refine run ?_
  refine loop (σ := Option Addr × Nat × Nat × List Value × Nat) (A1, _, c1, _, 0) (fun x => [(2, .pointer (some ⟨p, 0, none⟩)), (6, .slice x.1 x.2.1 x.2.2.1), (18, .int .i64 (n : Int)), (19, .int .i64 (x.2.2.2.2 : Int))]) (fun x => [.row 5 1 x.1 x.2.1 x.2.2.1 x.2.2.2.1, .box p 40 (kV s l)])
    (fun x => ∃ bs, x.2.1 = bs.length ∧ x.2.2.2.1 = u8s bs ∧ x.2.2.2.2 ≤ n ∧ bs = vb n ++ (List.range x.2.2.2.2).flatMap fun i => vb (kx s l i)) (fun x => n - x.2.2.2.2) ?_ ?_
  · exact ⟨_, rfl, rfl, Nat.zero_le _, by simp⟩
  rintro ⟨B, _, b, _, i⟩ ⟨bs, rfl, rfl, hi, hbs⟩
  dsimp only at hi hbs ⊢
  have hfl := kfl_len s l hlt i
  have hbl : bs.length ≤ 10 + 10 * i := by rw [hbs, List.length_append]; omega
  by_cases hin : i = n
  · subst hin
    refine run ?_
    refine ret2 (S' := [.row _ _ _ _ _ _]) ?_
    rw [hbs]
    exact ⟨_, _, rfl, rfl⟩
  have hi2 : i < l.length := by omega
  have hel := kV_get s l i l[i] (List.getElem?_eq_getElem hi2)
  have ha : l[i] < 256 := hlt _ (List.getElem_mem hi2)
  have hkx : kx s l i = 2 * l[i] + (s.getLsbD i).toNat := by unfold kx; rw [List.getD_eq_getElem?_getD, List.getElem?_eq_getElem hi2]; rfl
  have hk5 := kx_lt s l hlt i
  have hv2 := vb_len (kx s l i) (by omega)
  have hib : hasB s (i : Int) = s.getLsbD i := by unfold hasB; rw [decide_eq_true (by omega), Bool.true_and, Int.toNat_natCast]
  generalize l[i] = a at *
  have sp := put_ok bs (kx s l i) B b (by omega)
  refine run ?_
  refine callv (Has_ok s i) ?_
  refine run ?_
  rw [hib]
  cases hsb : s.getLsbD i
  all_goals
    rw [hsb] at hkx
    refine run ?_
  · have e : ((a : Int) * ((2 : Nat) : Int)) = ((kx s l i : Nat) : Int) := by rw [hkx]; simp; omega
    rw [e]
    refine call (sp) ?_
    rintro _ _ ⟨B', b', rfl, rfl⟩
    refine run ?_
    refine again (B', _, b', _, i + 1) ?_ (by dsimp only; omega)
    exact ⟨_, rfl, rfl, by dsimp only; omega, by rw [kbytes_step, hbs]⟩
  · rw [or1 a ha, show ((2 * a + 1 : Nat) : Int) = ((kx s l i : Nat) : Int) by rw [hkx]; rfl]
    refine call (sp) ?_
    rintro _ _ ⟨B', b', rfl, rfl⟩
    refine run ?_
    refine again (B', _, b', _, i + 1) ?_ (by dsimp only; omega)
    exact ⟨_, rfl, rfl, by dsimp only; omega, by rw [kbytes_step, hbs]⟩
end Go.Proofs.Ytdkigndgdkaoiaa
