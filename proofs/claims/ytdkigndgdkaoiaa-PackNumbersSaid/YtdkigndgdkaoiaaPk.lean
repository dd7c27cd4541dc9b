import Derived.Test.YtdkigndgdkaoiaaGlue
namespace Go.Proofs.Ytdkigndgdkaoiaa
open Go B
set_option linter.unusedVariables false

/-- a number's bytes -/
def vb (n : Nat) : List Int := if n < 128 then [(n : Int)] else ((n % 128 + 128 : Nat) : Int) :: vb (n / 128)
decreasing_by omega
theorem u8s_len (l : List Int) : (u8s l).length = l.length := by simp [u8s]
theorem u8s_app (l k : List Int) : u8s (l ++ k) = u8s l ++ u8s k := by simp [u8s]
theorem u8s_one (l : List Int) : ∀ u ∈ u8s l, u.oneCell' = true := by
  intro u hu
  obtain ⟨x, _, rfl⟩ := List.mem_map.1 hu
  rfl

theorem vb_pos (n : Nat) : 1 ≤ (vb n).length := by unfold vb; split <;> simp
theorem vb_small {n : Nat} (h : n < 128) : vb n = [(n : Int)] := by rw [vb, if_pos h]
theorem vb_big {n : Nat} (h : ¬ n < 128) : vb n = ((n % 128 + 128 : Nat) : Int) :: vb (n / 128) := by rw [vb, if_neg h]
theorem or128 (k : Nat) : orI .u8 (IntKind.u8.wrap (k : Int)) 128 = ((k % 128 + 128 : Nat) : Int) := by
  rw [wrap_u8]
  have h1 : ((k : Int) % 256) = ((k % 256 : Nat) : Int) := by omega
  rw [h1]
  have h2 : ∀ x : Nat, x < 256 → orI .u8 (x : Int) 128 = ((x % 128 + 128 : Nat) : Int) := by decide +kernel
  rw [h2 _ (Nat.mod_lt _ (by omega))]
  omega
theorem shr7 (k : Nat) : shrI .u64 (k : Int) 7 = ((k / 128 : Nat) : Int) := by
  unfold shrI
  rw [show min 7 IntKind.u64.bits = 7 by decide]
  have : (2 : Int) ^ 7 = 128 := by decide
  rw [this, Int.fdiv_eq_ediv_of_nonneg _ (by omega)]
  omega

theorem put_calls (xs : List Int) (n : Nat) (base : Nat) (v : Value) (h : Heap) (hbase : base ≤ h.size)
    (ho : Own h base 5 1 v xs.length (u8s xs)) (hl : xs.length + (vb n).length ≤ 140737488355328) :
    Tells Try.prog 44 [v, .int .u64 (n : Int)] h (Ret fun v' h' => Own h' base 5 1 v' (xs ++ vb n).length (u8s (xs ++ vb n)) ∧ Grow v.ownBlock h h' ∧ (v'.ownBlock = v.ownBlock ∨ ∃ k, v'.ownBlock = some k ∧ h.size ≤ k)) := by
  refine spec_of Try.func44 rfl rfl (fun s hs => ?_)
  repeat (first | refine WL_pure uok rfl rfl rfl rfl ?_ | with_reducible refine W_seq ?_ | with_reducible refine W_region ?_ | with_reducible refine WL_nil ?_ | with_reducible refine P_then ?_ | with_reducible refine W_block ?_ | with_reducible refine W_ret ?_ | with_reducible refine W_exit ?_ | with_reducible refine W_skip ?_ | with_reducible refine P_blockE ?_ | refine P_blockX rfl ?_ | with_reducible refine P_blockN ?_ | with_reducible refine P_blockR ?_ | with_reducible refine P_thenX ?_ | with_reducible refine P_thenR ?_ | (refine W_cond rfl ?_; first | with_reducible refine WB_t ?_ | with_reducible refine WB_f ?_ | with_reducible refine WB_nt ?_ | with_reducible refine WB_nf ?_) | (refine WL_guard rfl rfl rfl rfl rfl ?_; first | (with_reducible refine WG_tf ?_) | (with_reducible refine WG_ft ?_) | (with_reducible refine WG_tt rfl ?_) | (with_reducible refine WG_ff rfl ?_) | (with_reducible refine WG_tnt ?_) | (with_reducible refine WG_fnf ?_) | (with_reducible refine WG_tnf rfl ?_) | (with_reducible refine WG_fnt rfl ?_)) | refine W_quiet wide (by kernel_rfl) ?_)
  refine W_loop (σ := Value × Nat × List Int) (fun x => [(0, x.1), (1, .int .u64 (x.2.1 : Int))]) (fun x h' => xs ++ vb n = x.2.2 ++ vb x.2.1 ∧ Own h' base 5 1 x.1 x.2.2.length (u8s x.2.2) ∧ Grow v.ownBlock h h' ∧ base ≤ h'.size ∧ (x.1.ownBlock = v.ownBlock ∨ ∃ k, x.1.ownBlock = some k ∧ h.size ≤ k)) (fun x => x.2.1) (v, n, xs) ⟨rfl, rfl, trivial⟩ ⟨rfl, ho, Grow.refl _ _, hbase, .inl rfl⟩ ?_
  rintro ⟨u, k, ys⟩ h' ⟨he, ho, hg, hb, hr⟩
  dsimp only at he ho hr ⊢
  have hlen : ys.length + (vb k).length ≤ 140737488355328 := by
    have := congrArg List.length he
    simp only [List.length_append] at this
    omega
  have hp := vb_pos k
  repeat (first | refine WL_pure uok rfl rfl rfl rfl ?_ | with_reducible refine W_seq ?_ | with_reducible refine W_region ?_ | with_reducible refine WL_nil ?_ | with_reducible refine P_then ?_ | with_reducible refine W_block ?_ | with_reducible refine W_ret ?_ | with_reducible refine W_exit ?_ | with_reducible refine W_skip ?_ | with_reducible refine P_blockE ?_ | refine P_blockX rfl ?_ | with_reducible refine P_blockN ?_ | with_reducible refine P_blockR ?_ | with_reducible refine P_thenX ?_ | with_reducible refine P_thenR ?_ | (refine W_cond rfl ?_; first | with_reducible refine WB_t ?_ | with_reducible refine WB_f ?_ | with_reducible refine WB_nt ?_ | with_reducible refine WB_nf ?_) | (refine WL_guard rfl rfl rfl rfl rfl ?_; first | (with_reducible refine WG_tf ?_) | (with_reducible refine WG_ft ?_) | (with_reducible refine WG_tt rfl ?_) | (with_reducible refine WG_ff rfl ?_) | (with_reducible refine WG_tnt ?_) | (with_reducible refine WG_fnf ?_) | (with_reducible refine WG_tnf rfl ?_) | (with_reducible refine WG_fnt rfl ?_)) | refine W_quiet wide (by kernel_rfl) ?_)
  refine W_if rfl ?_ ?_
  · intro hk
    have hk' : ¬ k < 128 := by omega
    repeat (first | refine WL_pure uok rfl rfl rfl rfl ?_ | with_reducible refine W_seq ?_ | with_reducible refine W_region ?_ | with_reducible refine WL_nil ?_ | with_reducible refine P_then ?_ | with_reducible refine W_block ?_ | with_reducible refine W_ret ?_ | with_reducible refine W_exit ?_ | with_reducible refine W_skip ?_ | with_reducible refine P_blockE ?_ | refine P_blockX rfl ?_ | with_reducible refine P_blockN ?_ | with_reducible refine P_blockR ?_ | with_reducible refine P_thenX ?_ | with_reducible refine P_thenR ?_ | (refine W_cond rfl ?_; first | with_reducible refine WB_t ?_ | with_reducible refine WB_f ?_ | with_reducible refine WB_nt ?_ | with_reducible refine WB_nf ?_) | (refine WL_guard rfl rfl rfl rfl rfl ?_; first | (with_reducible refine WG_tf ?_) | (with_reducible refine WG_ft ?_) | (with_reducible refine WG_tt rfl ?_) | (with_reducible refine WG_ff rfl ?_) | (with_reducible refine WG_tnt ?_) | (with_reducible refine WG_fnf ?_) | (with_reducible refine WG_tnf rfl ?_) | (with_reducible refine WG_fnt rfl ?_)) | refine W_quiet wide (by kernel_rfl) ?_)
    refine WL_app1 uok iok base rfl rfl rfl rfl rfl rfl rfl rfl rfl rfl ?_ rfl rfl rfl rfl rfl rfl ho ?_ ?_ hb ?_
    · intro q hq; simp [Value.cells] at hq; subst hq; rfl
    · show (ys.length + 1) * 1 ≤ _; omega
    · omega
    intro v' h'' o' g' r'
    repeat (first | refine WL_pure uok rfl rfl rfl rfl ?_ | with_reducible refine W_seq ?_ | with_reducible refine W_region ?_ | with_reducible refine WL_nil ?_ | with_reducible refine P_then ?_ | with_reducible refine W_block ?_ | with_reducible refine W_ret ?_ | with_reducible refine W_exit ?_ | with_reducible refine W_skip ?_ | with_reducible refine P_blockE ?_ | refine P_blockX rfl ?_ | with_reducible refine P_blockN ?_ | with_reducible refine P_blockR ?_ | with_reducible refine P_thenX ?_ | with_reducible refine P_thenR ?_ | (refine W_cond rfl ?_; first | with_reducible refine WB_t ?_ | with_reducible refine WB_f ?_ | with_reducible refine WB_nt ?_ | with_reducible refine WB_nf ?_) | (refine WL_guard rfl rfl rfl rfl rfl ?_; first | (with_reducible refine WG_tf ?_) | (with_reducible refine WG_ft ?_) | (with_reducible refine WG_tt rfl ?_) | (with_reducible refine WG_ff rfl ?_) | (with_reducible refine WG_tnt ?_) | (with_reducible refine WG_fnf ?_) | (with_reducible refine WG_tnf rfl ?_) | (with_reducible refine WG_fnt rfl ?_)) | refine W_quiet wide (by kernel_rfl) ?_)
    have hgg := hg.then g' hr
    refine P_loop (v', k / 128, ys ++ [((k % 128 + 128 : Nat) : Int)]) ⟨rfl, ?_, trivial⟩ ⟨?_, ?_, hgg, Nat.le_trans hb g'.size, ?_⟩ ?_
    · rw [← shr7]; rfl
    · rw [he, vb_big hk']; simp
    · have e1 : (ys ++ [((k % 128 + 128 : Nat) : Int)]).length = ys.length + 1 := by simp
      rw [e1, u8s_app]
      have e2 : u8s [((k % 128 + 128 : Nat) : Int)] = [Value.int .u8 (orI .u8 (IntKind.u8.wrap (k : Int)) 128)] := by rw [or128]; rfl
      rw [e2]; exact o'
    · rcases r' with r' | ⟨j, r1, r2⟩
      · rcases hr with hr | hr
        · exact .inl (r'.trans hr)
        · rw [← r'] at hr; exact .inr hr
      · exact .inr ⟨j, r1, Nat.le_trans hg.size r2⟩
    · show k / 128 < k; omega
  · intro hk
    have hk' : k < 128 := by omega
    repeat (first | refine WL_pure uok rfl rfl rfl rfl ?_ | with_reducible refine W_seq ?_ | with_reducible refine W_region ?_ | with_reducible refine WL_nil ?_ | with_reducible refine P_then ?_ | with_reducible refine W_block ?_ | with_reducible refine W_ret ?_ | with_reducible refine W_exit ?_ | with_reducible refine W_skip ?_ | with_reducible refine P_blockE ?_ | refine P_blockX rfl ?_ | with_reducible refine P_blockN ?_ | with_reducible refine P_blockR ?_ | with_reducible refine P_thenX ?_ | with_reducible refine P_thenR ?_ | (refine W_cond rfl ?_; first | with_reducible refine WB_t ?_ | with_reducible refine WB_f ?_ | with_reducible refine WB_nt ?_ | with_reducible refine WB_nf ?_) | (refine WL_guard rfl rfl rfl rfl rfl ?_; first | (with_reducible refine WG_tf ?_) | (with_reducible refine WG_ft ?_) | (with_reducible refine WG_tt rfl ?_) | (with_reducible refine WG_ff rfl ?_) | (with_reducible refine WG_tnt ?_) | (with_reducible refine WG_fnf ?_) | (with_reducible refine WG_tnf rfl ?_) | (with_reducible refine WG_fnt rfl ?_)) | refine W_quiet wide (by kernel_rfl) ?_)
    refine WL_app1 uok iok base rfl rfl rfl rfl rfl rfl rfl rfl rfl rfl ?_ rfl rfl rfl rfl rfl rfl ho ?_ ?_ hb ?_
    · intro q hq; simp [Value.cells] at hq; subst hq; rfl
    · show (ys.length + 1) * 1 ≤ _; omega
    · omega
    intro v' h'' o' g' r'
    repeat (first | refine WL_pure uok rfl rfl rfl rfl ?_ | with_reducible refine W_seq ?_ | with_reducible refine W_region ?_ | with_reducible refine WL_nil ?_ | with_reducible refine P_then ?_ | with_reducible refine W_block ?_ | with_reducible refine W_ret ?_ | with_reducible refine W_exit ?_ | with_reducible refine W_skip ?_ | with_reducible refine P_blockE ?_ | refine P_blockX rfl ?_ | with_reducible refine P_blockN ?_ | with_reducible refine P_blockR ?_ | with_reducible refine P_thenX ?_ | with_reducible refine P_thenR ?_ | (refine W_cond rfl ?_; first | with_reducible refine WB_t ?_ | with_reducible refine WB_f ?_ | with_reducible refine WB_nt ?_ | with_reducible refine WB_nf ?_) | (refine WL_guard rfl rfl rfl rfl rfl ?_; first | (with_reducible refine WG_tf ?_) | (with_reducible refine WG_ft ?_) | (with_reducible refine WG_tt rfl ?_) | (with_reducible refine WG_ff rfl ?_) | (with_reducible refine WG_tnt ?_) | (with_reducible refine WG_fnf ?_) | (with_reducible refine WG_tnf rfl ?_) | (with_reducible refine WG_fnt rfl ?_)) | refine W_quiet wide (by kernel_rfl) ?_)
    refine P_ret1 rfl rfl ⟨?_, hg.then g' hr, ?_⟩
    · rw [he, vb_small hk', u8s_app]
      have e1 : (ys ++ [(k : Int)]).length = ys.length + 1 := by simp
      have e2 : u8s [(k : Int)] = [Value.int .u8 (IntKind.u8.wrap (k : Int))] := by rw [wrap_u8, Int.emod_eq_of_lt (by omega) (by omega)]; rfl
      rw [e1, e2]; exact o'
    · rcases r' with r' | ⟨j, r1, r2⟩
      · rcases hr with hr | hr
        · exact .inl (r'.trans hr)
        · rw [← r'] at hr; exact .inr hr
      · exact .inr ⟨j, r1, Nat.le_trans hg.size r2⟩
end Go.Proofs.Ytdkigndgdkaoiaa
