import Derived.Test.YtdkigndgdkaoiaaSnum2
namespace Go.Proofs.Ytdkigndgdkaoiaa
open Go B X
set_option linter.unusedVariables false
set_option maxRecDepth 8000
theorem Number_ok (n : Nat) : n < 18446744073709551616 → Fc Try.prog 18 [.int .u64 (n : Int)] [] Any (IsRow 5 1 (vb n).length (u8s (vb n))) := by
  induction n using Nat.strongRecOn with
  | _ n ih =>
  intro hn
  have hv := vb_len n hn
  refine fn_of Try.func18 rfl rfl rfl (fun E ro hR => ?_)
  refine run ?_
  refine wifD (fun hlt => ?_) (fun hlt => ?_)
  · have hs : n < 128 := by omega
    refine run ?_
    refine nlit fun D => ?_
    refine run ?_
    refine ret1 (S' := [.row _ _ _ _ _ _]) ?_
    rw [vb_small hs]
    exact ⟨_, _, rfl, rfl⟩
  · have hs : ¬ n < 128 := by omega
    refine run ?_
    refine nlit fun D => ?_
    refine run ?_
    refine call (ih (n / 128) (by omega) (by omega)) ?_
    rintro _ _ ⟨B, b, rfl, rfl⟩
    refine run ?_
    have hv2 := vb_len (n / 128) (by omega)
    refine napp (ys := u8s (vb (n / 128))) (h1 := u8s_one _) fun B' b' hb => ?_
    refine run ?_
    refine ret1 (S' := [.row _ _ _ _ _ _]) ?_
    rw [vb_big hs, List.length_cons, Nat.add_comm]
    refine ⟨_, _, rfl, ?_⟩
    rw [show (n : Int) % ((127 + 1 : Nat) : Int) + 128 = ((n % 128 + 128 : Nat) : Int) by omega]
    rfl
/-- what a source reads from -/
def srcV (A : Option Addr) (n c : Nat) (at_ e : Int) : List Value := [.slice A n c, .int .i64 at_, .int .i64 e]
theorem srcNumber_ok (xs : List Int) (hx : Bytes xs) (A : Option Addr) (c p m mx : Nat) (e : Int) (hm : m ≤ xs.length) (hmx : mx < 9223372036854775807) :
    Fc Try.prog 46 [.pointer (some ⟨p, 0, none⟩), .int .i64 mx] [.box p 91 (srcV A xs.length c m e)] (fun h => Reads h 1 A xs.length c (u8s xs))
      (Is (.int .i64 ((numL (xs.drop m) e mx).1 : Int)) [.box p 91 (srcV A xs.length c (m + (numL (xs.drop m) e mx).2.1 : Nat) (numL (xs.drop m) e mx).2.2)]) := by
  refine fn_of Try.func46 rfl rfl rfl (fun E ro hR => ?_)
  have hmax := hR.max
  by_cases he : e = 0
  rotate_left
  · refine run ?_
    refine ret1 (S' := [.box _ _ _]) ?_
    rw [numL, if_pos he]
    exact ⟨rfl, rfl⟩
  subst he
  have hw := tk_w 0 0 (xs.drop m)
  rcases htk : tk 0 0 (xs.drop m) with ⟨n, w, e1⟩
  rw [htk] at hw
  dsimp only at hw
  rw [List.length_drop] at hw
  have hS : takeS xs (m : Int) = if e1 = 0 then ((n : Int), (m : Int) + w, 0) else (0, 0, (e1 : Int)) := by
    rw [takeS, if_neg (by omega), Int.toNat_natCast, htk]
  have hN : numL (xs.drop m) 0 mx = if e1 = 0 then (if mx < n then (0, 0, 81) else (n, w, 0)) else (0, 0, (e1 : Int)) := by
    rw [numL, if_neg (by simp), htk]
  rw [hN]
  have sp := Take_ok xs hx A c m (by omega)
  rw [hS] at sp
  refine run ?_
  refine draw [(0, true), (1, true), (2, true), (3, true), (4, true), (5, true), (6, true), (7, true), (8, false), (9, true), (10, true), (11, true), (12, true), (13, true), (14, true), (15, true)] [.box p _ _] ?_
  refine run ?_
  by_cases h1 : e1 = 0
  · subst h1
    rw [if_pos rfl] at sp ⊢
    simp only [v3] at sp
    refine callv (sp) ?_
    refine run ?_
    by_cases h2 : mx < n
    · rw [if_pos h2]
      refine run ?_
      refine ret1 (S' := [.box _ _ _]) ?_
      exact ⟨rfl, rfl⟩
    · rw [if_neg h2]
      refine run ?_
      refine ret1 (S' := [.box _ _ _]) ?_
      exact ⟨rfl, by rw [show ((m + w : Nat) : Int) = (m : Int) + w by omega]; rfl⟩
  · rw [if_neg h1] at sp ⊢
    simp only [v3] at sp
    have h1' : ¬ (e1 : Int) = 0 := by omega
    refine callv (sp) ?_
    refine run ?_
    refine ret1 (S' := [.box _ _ _]) ?_
    exact ⟨rfl, rfl⟩
theorem reads_cut {h : Heap} {A : Option Addr} {c w : Nat} {l : List Int} (r : Reads h 1 A l.length c (u8s l)) (hw : w ≤ l.length) : Reads h 1 (cutA A c 1 (w : Int)) (l.drop w).length (c - w) (u8s (l.drop w)) := by
  have := r.drop w hw
  rw [Nat.mul_one, show (u8s l).drop w = u8s (l.drop w) by simp [u8s]] at this
  rw [List.length_drop]
  simpa [cutA] using this
theorem refNumber_ok (l : List Int) (hx : Bytes l) (A : Option Addr) (c p mx : Nat) (e : Int) (hmx : mx < 9223372036854775807) :
    Fc Try.prog 48 [.pointer (some ⟨p, 0, none⟩), .int .i64 mx] [.box p 96 [.slice A l.length c, .int .i64 e]] (fun h => Reads h 1 A l.length c (u8s l))
      (fun v S' => v = .int .i64 ((numL l e mx).1 : Int) ∧ ∃ A' c', S' = [.box p 96 [.slice A' (l.drop (numL l e mx).2.1).length c', .int .i64 (numL l e mx).2.2]] ∧ ∀ h, Reads h 1 A l.length c (u8s l) → Reads h 1 A' (l.drop (numL l e mx).2.1).length c' (u8s (l.drop (numL l e mx).2.1))) := by
  refine fn_of Try.func48 rfl rfl rfl (fun E ro hR => ?_)
  have hmax := hR.max
  have hcap := hR.cap
  by_cases he : e = 0
  rotate_left
  · refine run ?_
    refine ret1 (S' := [.box _ _ _]) ?_
    rw [numL, if_pos he]
    exact ⟨rfl, A, c, rfl, fun h r => r⟩
  subst he
  have hw := tk_w 0 0 l
  rcases htk : tk 0 0 l with ⟨n, w, e1⟩
  rw [htk] at hw
  dsimp only at hw
  have hN : numL l 0 mx = if e1 = 0 then (if mx < n then (0, 0, 81) else (n, w, 0)) else (0, 0, (e1 : Int)) := by
    rw [numL, if_neg (by simp), htk]
  rw [hN]
  have sp := rTake_ok l hx A c
  rw [htk] at sp
  simp only [n3] at sp
  refine run ?_
  refine callv (sp) ?_
  refine run ?_
  by_cases h1 : e1 = 0
  · subst h1
    rw [if_pos rfl]
    by_cases h2 : mx < n
    · rw [if_pos h2]
      refine run ?_
      refine ret1 (S' := [.box _ _ _]) ?_
      exact ⟨rfl, A, c, rfl, fun h r => r⟩
    · rw [if_neg h2]
      refine run ?_
      refine ncut ?_
      refine run ?_
      refine ret1 (S' := [.box _ _ _]) ?_
      exact ⟨rfl, _, _, by rw [List.length_drop]; rfl, fun h r => reads_cut r (by dsimp only; omega)⟩
  · rw [if_neg h1]
    have h1' : ¬ (e1 : Int) = 0 := by omega
    refine run ?_
    refine ret1 (S' := [.box _ _ _]) ?_
    exact ⟨rfl, A, c, rfl, fun h r => r⟩
end Go.Proofs.Ytdkigndgdkaoiaa
