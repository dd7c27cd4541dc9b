import Derived.Test.YtdkigndgdkaoiaaPk3
namespace Go.Proofs.Ytdkigndgdkaoiaa
open Go B
set_option linter.unusedVariables false

theorem xor_u64 (x : Int) (h0 : 0 ≤ x) (h1 : x < 18446744073709551616) : xorI .u64 x 0 = x ∧ xorI .u64 x 18446744073709551615 = 18446744073709551615 - x := by
  obtain ⟨n, rfl⟩ : ∃ n : Nat, x = (n : Int) := ⟨x.toNat, by omega⟩
  have e : (BitVec.ofInt 64 (n : Int)) = BitVec.ofNat 64 n := by simp
  constructor
  · show IntKind.u64.wrap ((BitVec.ofInt 64 (n : Int) ^^^ BitVec.ofInt 64 0).toNat : Int) = _
    rw [e, show BitVec.ofInt 64 0 = 0#64 by decide, BitVec.xor_zero, BitVec.toNat_ofNat, wrap_u64]; omega
  · show IntKind.u64.wrap ((BitVec.ofInt 64 (n : Int) ^^^ BitVec.ofInt 64 18446744073709551615).toNat : Int) = _
    rw [e, show BitVec.ofInt 64 18446744073709551615 = BitVec.allOnes 64 by decide, BitVec.xor_allOnes, BitVec.toNat_not, BitVec.toNat_ofNat, wrap_u64]; omega
theorem xor_i64 (x : Int) (h0 : 0 ≤ x) (h1 : x < 9223372036854775808) : xorI .i64 x 0 = x ∧ xorI .i64 x (-1) = -x - 1 := by
  obtain ⟨n, rfl⟩ : ∃ n : Nat, x = (n : Int) := ⟨x.toNat, by omega⟩
  have e : (BitVec.ofInt 64 (n : Int)) = BitVec.ofNat 64 n := by simp
  constructor
  · show IntKind.i64.wrap ((BitVec.ofInt 64 (n : Int) ^^^ BitVec.ofInt 64 0).toNat : Int) = _
    rw [e, show BitVec.ofInt 64 0 = 0#64 by decide, BitVec.xor_zero, BitVec.toNat_ofNat, IntKind.wrap_i64]; omega
  · show IntKind.i64.wrap ((BitVec.ofInt 64 (n : Int) ^^^ BitVec.ofInt 64 (-1)).toNat : Int) = _
    rw [e, show BitVec.ofInt 64 (-1) = BitVec.allOnes 64 by decide, BitVec.xor_allOnes, BitVec.toNat_not, BitVec.toNat_ofNat, IntKind.wrap_i64]; omega
theorem and1 (x : Int) (h0 : 0 ≤ x) (h1 : x < 18446744073709551616) : andI .u64 x 1 = x % 2 := by
  obtain ⟨n, rfl⟩ : ∃ n : Nat, x = (n : Int) := ⟨x.toNat, by omega⟩
  show IntKind.u64.wrap ((BitVec.ofInt 64 (n : Int) &&& BitVec.ofInt 64 1).toNat : Int) = _
  rw [show (BitVec.ofInt 64 (n : Int)) = BitVec.ofNat 64 n by simp, show BitVec.ofInt 64 1 = 1#64 by decide, BitVec.toNat_and, BitVec.toNat_ofNat, wrap_u64]
  have : (1#64).toNat = 1 := by decide
  rw [this, Nat.and_one_is_mod]
  omega

def zigS (i : Int) : Int := if i < 0 then -2 * i - 1 else 2 * i
def zagS (n : Int) : Int := if n % 2 = 0 then n / 2 else -(n / 2) - 1
theorem zig_calls (x : Int) (h0 : -9223372036854775808 ≤ x) (h1 : x ≤ 9223372036854775807) (h : Heap) : Tells Try.prog 20 [.int .i64 x] h (Ret fun v h' => v = .int .u64 (zigS x) ∧ h' = h) := by
  refine spec_of Try.func20 rfl rfl (fun s hs => ?_)
  repeat (first | refine WL_pure uok rfl rfl rfl rfl ?_ | with_reducible refine W_seq ?_ | with_reducible refine W_region ?_ | with_reducible refine WL_nil ?_ | with_reducible refine P_then ?_ | with_reducible refine W_block ?_ | with_reducible refine W_ret ?_ | with_reducible refine W_exit ?_ | with_reducible refine W_skip ?_ | with_reducible refine P_blockE ?_ | refine P_blockX rfl ?_ | with_reducible refine P_blockN ?_ | with_reducible refine P_blockR ?_ | with_reducible refine P_thenX ?_ | with_reducible refine P_thenR ?_ | (refine W_cond rfl ?_; first | with_reducible refine WB_t ?_ | with_reducible refine WB_f ?_ | with_reducible refine WB_nt ?_ | with_reducible refine WB_nf ?_) | (refine WL_guard rfl rfl rfl rfl rfl ?_; first | (with_reducible refine WG_tf ?_) | (with_reducible refine WG_ft ?_) | (with_reducible refine WG_tt rfl ?_) | (with_reducible refine WG_ff rfl ?_) | (with_reducible refine WG_tnt ?_) | (with_reducible refine WG_fnf ?_) | (with_reducible refine WG_tnf rfl ?_) | (with_reducible refine WG_fnt rfl ?_)) | refine W_quiet wide (by kernel_rfl) ?_)
  refine P_ret1 rfl rfl ⟨?_, rfl⟩
  have e0 : shlI .u64 (IntKind.u64.wrap x) 1 = (2 * x) % 18446744073709551616 := by
    unfold shlI
    rw [show min 1 IntKind.u64.bits = 1 by decide, wrap_u64, wrap_u64]; omega
  unfold zigS
  by_cases hx : x < 0
  · have e1 : shrI .i64 x 63 = -1 := by
      unfold shrI
      rw [show min 63 IntKind.i64.bits = 63 by decide, show (2 : Int) ^ 63 = 9223372036854775808 by decide, Int.fdiv_eq_ediv_of_nonneg _ (by omega)]; omega
    rw [if_pos hx, e0, e1, show IntKind.u64.wrap (-1) = 18446744073709551615 by decide, (xor_u64 _ (by omega) (by omega)).2]
    congr 1; omega
  · have e1 : shrI .i64 x 63 = 0 := by
      unfold shrI
      rw [show min 63 IntKind.i64.bits = 63 by decide, show (2 : Int) ^ 63 = 9223372036854775808 by decide, Int.fdiv_eq_ediv_of_nonneg _ (by omega)]; omega
    rw [if_neg hx, e0, e1, show IntKind.u64.wrap 0 = 0 by decide, (xor_u64 _ (by omega) (by omega)).1]
    congr 1; omega
theorem zag_calls (x : Int) (h0 : 0 ≤ x) (h1 : x < 18446744073709551616) (h : Heap) : Tells Try.prog 19 [.int .u64 x] h (Ret fun v h' => v = .int .i64 (zagS x) ∧ h' = h) := by
  refine spec_of Try.func19 rfl rfl (fun s hs => ?_)
  repeat (first | refine WL_pure uok rfl rfl rfl rfl ?_ | with_reducible refine W_seq ?_ | with_reducible refine W_region ?_ | with_reducible refine WL_nil ?_ | with_reducible refine P_then ?_ | with_reducible refine W_block ?_ | with_reducible refine W_ret ?_ | with_reducible refine W_exit ?_ | with_reducible refine W_skip ?_ | with_reducible refine P_blockE ?_ | refine P_blockX rfl ?_ | with_reducible refine P_blockN ?_ | with_reducible refine P_blockR ?_ | with_reducible refine P_thenX ?_ | with_reducible refine P_thenR ?_ | (refine W_cond rfl ?_; first | with_reducible refine WB_t ?_ | with_reducible refine WB_f ?_ | with_reducible refine WB_nt ?_ | with_reducible refine WB_nf ?_) | (refine WL_guard rfl rfl rfl rfl rfl ?_; first | (with_reducible refine WG_tf ?_) | (with_reducible refine WG_ft ?_) | (with_reducible refine WG_tt rfl ?_) | (with_reducible refine WG_ff rfl ?_) | (with_reducible refine WG_tnt ?_) | (with_reducible refine WG_fnf ?_) | (with_reducible refine WG_tnf rfl ?_) | (with_reducible refine WG_fnt rfl ?_)) | refine W_quiet wide (by kernel_rfl) ?_)
  refine P_ret1 rfl rfl ⟨?_, rfl⟩
  have e0 : shrI .u64 x 1 = x / 2 := by
    unfold shrI
    rw [show min 1 IntKind.u64.bits = 1 by decide, show (2 : Int) ^ 1 = 2 by decide, Int.fdiv_eq_ediv_of_nonneg _ (by omega)]
  have e1 : IntKind.i64.wrap (x / 2) = x / 2 := i64_id (by omega) (by omega)
  rw [e0, e1, and1 x h0 h1]
  unfold zagS
  by_cases hx : x % 2 = 0
  · rw [if_pos hx, hx, show IntKind.i64.wrap (0 - IntKind.i64.wrap 0) = 0 by decide, (xor_i64 _ (by omega) (by omega)).1]
  · rw [if_neg hx, show x % 2 = 1 by omega, show IntKind.i64.wrap (0 - IntKind.i64.wrap 1) = -1 by decide, (xor_i64 _ (by omega) (by omega)).2]

theorem vb_le : ∀ (k n : Nat), n < 128 ^ k → 0 < k → (vb n).length ≤ k
  | 0, _, _, h => by omega
  | k + 1, n, h, _ => by
    by_cases hn : n < 128
    · rw [vb_small hn]; simp
    · rw [vb_big hn, List.length_cons]
      have h2 : n / 128 < 128 ^ k := by rw [Nat.pow_succ] at h; omega
      have hk : 0 < k := by
        rcases Nat.eq_zero_or_pos k with e | e
        · subst e; simp at h2; omega
        · exact e
      have := vb_le k (n / 128) h2 hk
      omega
theorem vb_len (n : Nat) (h : n < 18446744073709551616) : (vb n).length ≤ 10 := vb_le 10 n (by have : (128 : Nat) ^ 10 = 1180591620717411303424 := by decide
                                                                                               omega) (by omega)

set_option maxRecDepth 10000 in
/-- pack.Put: behind what is read, on a row of its own -/
theorem Put_calls (xs : List Int) (n : Nat) (A : Option Addr) (c : Nat) (h : Heap) (hn : n < 18446744073709551616) (hc : xs.length ≤ 140737488351232) (rd : Reads h 1 A xs.length c (u8s xs)) :
    Tells Try.prog 16 [.slice A xs.length c, .int .u64 (n : Int)] h (Ret fun v' h' => Own h' h.size 5 1 v' (xs ++ vb n).length (u8s (xs ++ vb n)) ∧ Ext h.size h h') := by
  have hcap := rd.cap
  have hv := vb_len n hn
  refine spec_of Try.func16 rfl rfl (fun s hs => ?_)
  repeat (first | refine WL_pure uok rfl rfl rfl rfl ?_ | with_reducible refine W_seq ?_ | with_reducible refine W_region ?_ | with_reducible refine WL_nil ?_ | with_reducible refine P_then ?_ | with_reducible refine W_block ?_ | with_reducible refine W_ret ?_ | with_reducible refine W_exit ?_ | with_reducible refine W_skip ?_ | with_reducible refine P_blockE ?_ | refine P_blockX rfl ?_ | with_reducible refine P_blockN ?_ | with_reducible refine P_blockR ?_ | with_reducible refine P_thenX ?_ | with_reducible refine P_thenR ?_ | (refine W_cond rfl ?_; first | with_reducible refine WB_t ?_ | with_reducible refine WB_f ?_ | with_reducible refine WB_nt ?_ | with_reducible refine WB_nf ?_) | (refine WL_guard rfl rfl rfl rfl rfl ?_; first | (with_reducible refine WG_tf ?_) | (with_reducible refine WG_ft ?_) | (with_reducible refine WG_tt rfl ?_) | (with_reducible refine WG_ff rfl ?_) | (with_reducible refine WG_tnt ?_) | (with_reducible refine WG_fnf ?_) | (with_reducible refine WG_tnf rfl ?_) | (with_reducible refine WG_fnt rfl ?_)) | refine W_quiet wide (by kernel_rfl) ?_)
  have e1 : IntKind.i64.wrap ((xs.length : Int) + 10) = ((xs.length + 10 : Nat) : Int) := by rw [i64_id (by omega) (by omega)]; omega
  rw [e1]
  refine WL_make uok iok rfl rfl rfl rfl rfl rfl rfl rfl (by omega) (by omega) (by omega) (by omega) ?_
  repeat (first | refine WL_pure uok rfl rfl rfl rfl ?_ | with_reducible refine W_seq ?_ | with_reducible refine W_region ?_ | with_reducible refine WL_nil ?_ | with_reducible refine P_then ?_ | with_reducible refine W_block ?_ | with_reducible refine W_ret ?_ | with_reducible refine W_exit ?_ | with_reducible refine W_skip ?_ | with_reducible refine P_blockE ?_ | refine P_blockX rfl ?_ | with_reducible refine P_blockN ?_ | with_reducible refine P_blockR ?_ | with_reducible refine P_thenX ?_ | with_reducible refine P_thenR ?_ | (refine W_cond rfl ?_; first | with_reducible refine WB_t ?_ | with_reducible refine WB_f ?_ | with_reducible refine WB_nt ?_ | with_reducible refine WB_nf ?_) | (refine WL_guard rfl rfl rfl rfl rfl ?_; first | (with_reducible refine WG_tf ?_) | (with_reducible refine WG_ft ?_) | (with_reducible refine WG_tt rfl ?_) | (with_reducible refine WG_ff rfl ?_) | (with_reducible refine WG_tnt ?_) | (with_reducible refine WG_fnf ?_) | (with_reducible refine WG_tnf rfl ?_) | (with_reducible refine WG_fnt rfl ?_)) | refine W_quiet wide (by kernel_rfl) ?_)
  rw [Int.toNat_natCast]
  have own := Own.made h (base := h.size) (e := 5) (size := 1) (madeCells (Value.int .u8 0).cells ((xs.length + 10) * 1)) (xs.length + 10) (Nat.le_refl _) (by omega) (by simp [size_madeCells])
  refine WL_append uok iok h.size rfl rfl rfl rfl (by omega) rfl rfl rfl rfl rfl own (rd.push _) (u8s_one _) (by omega) (by omega) (by simp) ?_
  intro v' h1 o1 g1 _
  repeat (first | refine WL_pure uok rfl rfl rfl rfl ?_ | with_reducible refine W_seq ?_ | with_reducible refine W_region ?_ | with_reducible refine WL_nil ?_ | with_reducible refine P_then ?_ | with_reducible refine W_block ?_ | with_reducible refine W_ret ?_ | with_reducible refine W_exit ?_ | with_reducible refine W_skip ?_ | with_reducible refine P_blockE ?_ | refine P_blockX rfl ?_ | with_reducible refine P_blockN ?_ | with_reducible refine P_blockR ?_ | with_reducible refine P_thenX ?_ | with_reducible refine P_thenR ?_ | (refine W_cond rfl ?_; first | with_reducible refine WB_t ?_ | with_reducible refine WB_f ?_ | with_reducible refine WB_nt ?_ | with_reducible refine WB_nf ?_) | (refine WL_guard rfl rfl rfl rfl rfl ?_; first | (with_reducible refine WG_tf ?_) | (with_reducible refine WG_ft ?_) | (with_reducible refine WG_tt rfl ?_) | (with_reducible refine WG_ff rfl ?_) | (with_reducible refine WG_tnt ?_) | (with_reducible refine WG_fnf ?_) | (with_reducible refine WG_tnf rfl ?_) | (with_reducible refine WG_fnt rfl ?_)) | refine W_quiet wide (by kernel_rfl) ?_)
  rw [List.nil_append, Nat.zero_add] at o1
  have x1 : Ext h.size h h1 := ((Ext.refl h.size h).push (Nat.le_refl _) _).grow (by simp) g1 (fun k hk => by
    have := own.base_le k hk; exact this.1)
  refine WL_call en44 rfl rfl rfl rfl rfl rfl (put_calls xs n h.size v' h1 x1.size o1 (by omega)) ?_
  rintro v2 h2 ⟨o2, g2, _⟩
  repeat (first | refine WL_pure uok rfl rfl rfl rfl ?_ | with_reducible refine W_seq ?_ | with_reducible refine W_region ?_ | with_reducible refine WL_nil ?_ | with_reducible refine P_then ?_ | with_reducible refine W_block ?_ | with_reducible refine W_ret ?_ | with_reducible refine W_exit ?_ | with_reducible refine W_skip ?_ | with_reducible refine P_blockE ?_ | refine P_blockX rfl ?_ | with_reducible refine P_blockN ?_ | with_reducible refine P_blockR ?_ | with_reducible refine P_thenX ?_ | with_reducible refine P_thenR ?_ | (refine W_cond rfl ?_; first | with_reducible refine WB_t ?_ | with_reducible refine WB_f ?_ | with_reducible refine WB_nt ?_ | with_reducible refine WB_nf ?_) | (refine WL_guard rfl rfl rfl rfl rfl ?_; first | (with_reducible refine WG_tf ?_) | (with_reducible refine WG_ft ?_) | (with_reducible refine WG_tt rfl ?_) | (with_reducible refine WG_ff rfl ?_) | (with_reducible refine WG_tnt ?_) | (with_reducible refine WG_fnf ?_) | (with_reducible refine WG_tnf rfl ?_) | (with_reducible refine WG_fnt rfl ?_)) | refine W_quiet wide (by kernel_rfl) ?_)
  refine P_ret1 rfl rfl ⟨o2, x1.grow x1.size g2 (fun k hk => (o1.base_le k hk).1)⟩

theorem number_calls (n : Nat) : ∀ (h : Heap), n < 18446744073709551616 → Tells Try.prog 18 [.int .u64 (n : Int)] h (Ret fun v' h' => Own h' h.size 5 1 v' (vb n).length (u8s (vb n)) ∧ Ext h.size h h') := by
  induction n using Nat.strongRecOn with
  | _ n ih =>
    intro h hn
    have hv := vb_len n hn
    refine spec_of Try.func18 rfl rfl (fun s hs => ?_)
    repeat (first | refine WL_pure uok rfl rfl rfl rfl ?_ | with_reducible refine W_seq ?_ | with_reducible refine W_region ?_ | with_reducible refine WL_nil ?_ | with_reducible refine P_then ?_ | with_reducible refine W_block ?_ | with_reducible refine W_ret ?_ | with_reducible refine W_exit ?_ | with_reducible refine W_skip ?_ | with_reducible refine P_blockE ?_ | refine P_blockX rfl ?_ | with_reducible refine P_blockN ?_ | with_reducible refine P_blockR ?_ | with_reducible refine P_thenX ?_ | with_reducible refine P_thenR ?_ | (refine W_cond rfl ?_; first | with_reducible refine WB_t ?_ | with_reducible refine WB_f ?_ | with_reducible refine WB_nt ?_ | with_reducible refine WB_nf ?_) | (refine WL_guard rfl rfl rfl rfl rfl ?_; first | (with_reducible refine WG_tf ?_) | (with_reducible refine WG_ft ?_) | (with_reducible refine WG_tt rfl ?_) | (with_reducible refine WG_ff rfl ?_) | (with_reducible refine WG_tnt ?_) | (with_reducible refine WG_fnf ?_) | (with_reducible refine WG_tnf rfl ?_) | (with_reducible refine WG_fnt rfl ?_)) | refine W_quiet wide (by kernel_rfl) ?_)
    refine W_if rfl (fun hlt => ?_) (fun hlt => ?_)
    · repeat (first | refine WL_pure uok rfl rfl rfl rfl ?_ | with_reducible refine W_seq ?_ | with_reducible refine W_region ?_ | with_reducible refine WL_nil ?_ | with_reducible refine P_then ?_ | with_reducible refine W_block ?_ | with_reducible refine W_ret ?_ | with_reducible refine W_exit ?_ | with_reducible refine W_skip ?_ | with_reducible refine P_blockE ?_ | refine P_blockX rfl ?_ | with_reducible refine P_blockN ?_ | with_reducible refine P_blockR ?_ | with_reducible refine P_thenX ?_ | with_reducible refine P_thenR ?_ | (refine W_cond rfl ?_; first | with_reducible refine WB_t ?_ | with_reducible refine WB_f ?_ | with_reducible refine WB_nt ?_ | with_reducible refine WB_nf ?_) | (refine WL_guard rfl rfl rfl rfl rfl ?_; first | (with_reducible refine WG_tf ?_) | (with_reducible refine WG_ft ?_) | (with_reducible refine WG_tt rfl ?_) | (with_reducible refine WG_ff rfl ?_) | (with_reducible refine WG_tnt ?_) | (with_reducible refine WG_fnf ?_) | (with_reducible refine WG_tnf rfl ?_) | (with_reducible refine WG_fnt rfl ?_)) | refine W_quiet wide (by kernel_rfl) ?_)
      have hs : n < 128 := by omega
      have e1 : IntKind.u8.wrap (n : Int) = (n : Int) := by rw [wrap_u8]; omega
      rw [e1]
      refine WL_lit uok iok [.int .u8 (n : Int)] rfl rfl rfl (by omega) rfl rfl (by omega) (by omega) (by intro q hq; simp at hq; subst hq; rfl) rfl rfl rfl ?_
      repeat (first | refine WL_pure uok rfl rfl rfl rfl ?_ | with_reducible refine W_seq ?_ | with_reducible refine W_region ?_ | with_reducible refine WL_nil ?_ | with_reducible refine P_then ?_ | with_reducible refine W_block ?_ | with_reducible refine W_ret ?_ | with_reducible refine W_exit ?_ | with_reducible refine W_skip ?_ | with_reducible refine P_blockE ?_ | refine P_blockX rfl ?_ | with_reducible refine P_blockN ?_ | with_reducible refine P_blockR ?_ | with_reducible refine P_thenX ?_ | with_reducible refine P_thenR ?_ | (refine W_cond rfl ?_; first | with_reducible refine WB_t ?_ | with_reducible refine WB_f ?_ | with_reducible refine WB_nt ?_ | with_reducible refine WB_nf ?_) | (refine WL_guard rfl rfl rfl rfl rfl ?_; first | (with_reducible refine WG_tf ?_) | (with_reducible refine WG_ft ?_) | (with_reducible refine WG_tt rfl ?_) | (with_reducible refine WG_ff rfl ?_) | (with_reducible refine WG_tnt ?_) | (with_reducible refine WG_fnf ?_) | (with_reducible refine WG_tnf rfl ?_) | (with_reducible refine WG_fnt rfl ?_)) | refine W_quiet wide (by kernel_rfl) ?_)
      refine P_ret1 rfl rfl ⟨?_, (Ext.refl _ _).push (Nat.le_refl _) _⟩
      rw [vb_small hs]
      exact Own.lit h _ (Nat.le_refl _) (by simp) rfl
    · repeat (first | refine WL_pure uok rfl rfl rfl rfl ?_ | with_reducible refine W_seq ?_ | with_reducible refine W_region ?_ | with_reducible refine WL_nil ?_ | with_reducible refine P_then ?_ | with_reducible refine W_block ?_ | with_reducible refine W_ret ?_ | with_reducible refine W_exit ?_ | with_reducible refine W_skip ?_ | with_reducible refine P_blockE ?_ | refine P_blockX rfl ?_ | with_reducible refine P_blockN ?_ | with_reducible refine P_blockR ?_ | with_reducible refine P_thenX ?_ | with_reducible refine P_thenR ?_ | (refine W_cond rfl ?_; first | with_reducible refine WB_t ?_ | with_reducible refine WB_f ?_ | with_reducible refine WB_nt ?_ | with_reducible refine WB_nf ?_) | (refine WL_guard rfl rfl rfl rfl rfl ?_; first | (with_reducible refine WG_tf ?_) | (with_reducible refine WG_ft ?_) | (with_reducible refine WG_tt rfl ?_) | (with_reducible refine WG_ff rfl ?_) | (with_reducible refine WG_tnt ?_) | (with_reducible refine WG_fnf ?_) | (with_reducible refine WG_tnf rfl ?_) | (with_reducible refine WG_fnt rfl ?_)) | refine W_quiet wide (by kernel_rfl) ?_)
      have hs : ¬ n < 128 := by omega
      rw [show (Int.ofNat (127 + 1)) = 128 from rfl, tmod_nat (n : Int) (by omega), Int.toNat_natCast]
      have e1 : IntKind.u8.wrap (IntKind.u8.wrap ((n % 128 : Nat) : Int) + 128) = ((n % 128 + 128 : Nat) : Int) := by rw [wrap_u8, wrap_u8]; omega
      rw [e1]
      refine WL_lit uok iok [.int .u8 ((n % 128 + 128 : Nat) : Int)] rfl rfl rfl (by omega) rfl rfl (by omega) (by omega) (by intro q hq; simp at hq; subst hq; rfl) rfl rfl rfl ?_
      repeat (first | refine WL_pure uok rfl rfl rfl rfl ?_ | with_reducible refine W_seq ?_ | with_reducible refine W_region ?_ | with_reducible refine WL_nil ?_ | with_reducible refine P_then ?_ | with_reducible refine W_block ?_ | with_reducible refine W_ret ?_ | with_reducible refine W_exit ?_ | with_reducible refine W_skip ?_ | with_reducible refine P_blockE ?_ | refine P_blockX rfl ?_ | with_reducible refine P_blockN ?_ | with_reducible refine P_blockR ?_ | with_reducible refine P_thenX ?_ | with_reducible refine P_thenR ?_ | (refine W_cond rfl ?_; first | with_reducible refine WB_t ?_ | with_reducible refine WB_f ?_ | with_reducible refine WB_nt ?_ | with_reducible refine WB_nf ?_) | (refine WL_guard rfl rfl rfl rfl rfl ?_; first | (with_reducible refine WG_tf ?_) | (with_reducible refine WG_ft ?_) | (with_reducible refine WG_tt rfl ?_) | (with_reducible refine WG_ff rfl ?_) | (with_reducible refine WG_tnt ?_) | (with_reducible refine WG_fnf ?_) | (with_reducible refine WG_tnf rfl ?_) | (with_reducible refine WG_fnt rfl ?_)) | refine W_quiet wide (by kernel_rfl) ?_)
      have e2 : IntKind.u64.wrap ((n : Int).tdiv (Int.ofNat (127 + 1))) = ((n / 128 : Nat) : Int) := by
        rw [show (Int.ofNat (127 + 1)) = 128 from rfl, Int.tdiv_eq_ediv_of_nonneg (by omega), wrap_u64]; omega
      rw [e2]
      have own := Own.lit h (base := h.size) (e := 5) (size := 1) (n := 1) [Value.int .u8 ((n % 128 + 128 : Nat) : Int)] (Nat.le_refl _) (by simp) (by simp)
      refine WL_call en18 rfl rfl rfl rfl rfl rfl (ih (n / 128) (by omega) _ (by omega)) ?_
      rintro v1 h1 ⟨o1, x1⟩
      obtain ⟨A, c, rfl, rd⟩ := o1.reads
      have x0 : Ext h.size h h1 := ((Ext.refl h.size h).push (Nat.le_refl _) _).trans (x1.mono (by simp))
      have hv2 := vb_len (n / 128) (by omega)
      refine WL_append uok iok h.size rfl rfl rfl rfl (by omega) rfl rfl rfl rfl rfl (own.ext x1) rd (u8s_one _) (by omega) (by omega) x0.size ?_
      intro v2 h2 o2 g2 _
      repeat (first | refine WL_pure uok rfl rfl rfl rfl ?_ | with_reducible refine W_seq ?_ | with_reducible refine W_region ?_ | with_reducible refine WL_nil ?_ | with_reducible refine P_then ?_ | with_reducible refine W_block ?_ | with_reducible refine W_ret ?_ | with_reducible refine W_exit ?_ | with_reducible refine W_skip ?_ | with_reducible refine P_blockE ?_ | refine P_blockX rfl ?_ | with_reducible refine P_blockN ?_ | with_reducible refine P_blockR ?_ | with_reducible refine P_thenX ?_ | with_reducible refine P_thenR ?_ | (refine W_cond rfl ?_; first | with_reducible refine WB_t ?_ | with_reducible refine WB_f ?_ | with_reducible refine WB_nt ?_ | with_reducible refine WB_nf ?_) | (refine WL_guard rfl rfl rfl rfl rfl ?_; first | (with_reducible refine WG_tf ?_) | (with_reducible refine WG_ft ?_) | (with_reducible refine WG_tt rfl ?_) | (with_reducible refine WG_ff rfl ?_) | (with_reducible refine WG_tnt ?_) | (with_reducible refine WG_fnf ?_) | (with_reducible refine WG_tnf rfl ?_) | (with_reducible refine WG_fnt rfl ?_)) | refine W_quiet wide (by kernel_rfl) ?_)
      refine P_ret1 rfl rfl ⟨?_, x0.grow x0.size g2 (fun k hk => (own.base_le k hk).1)⟩
      rw [vb_big hs, List.length_cons, Nat.add_comm]
      exact o2
end Go.Proofs.Ytdkigndgdkaoiaa
