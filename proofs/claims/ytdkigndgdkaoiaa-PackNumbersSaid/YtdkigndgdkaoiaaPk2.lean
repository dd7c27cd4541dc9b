import Derived.Test.YtdkigndgdkaoiaaPk
namespace Go.Proofs.Ytdkigndgdkaoiaa
open Go B
set_option linter.unusedVariables false

/-- a number's bytes, read: the number, how many bytes, the error -/
def tk : Nat → Nat → List Int → Nat × Nat × Nat
  | _, _, [] => (0, 0, 80)
  | i, n, x :: r => if i = 9 ∧ 1 < x then (0, 0, 81) else if x < 128 then (if x = 0 ∧ 0 < i then (0, 0, 81) else (n + x.toNat * 128 ^ i, i + 1, 0)) else tk (i + 1) (n + (x.toNat % 128) * 128 ^ i) r


theorem and127 (x : Int) (h : 0 ≤ x ∧ x < 256) : andI .u8 x 127 = ((x.toNat % 128 : Nat) : Int) := by
  have h2 : ∀ y : Nat, y < 256 → andI .u8 (y : Int) 127 = ((y % 128 : Nat) : Int) := by decide +kernel
  have := h2 x.toNat (by omega)
  rwa [show ((x.toNat : Nat) : Int) = x by omega] at this
theorem or_add (n b i : Nat) (hn : n < 128 ^ i) (hb : n + b * 128 ^ i < 18446744073709551616) : orI .u64 (n : Int) ((b * 128 ^ i : Nat) : Int) = ((n + b * 128 ^ i : Nat) : Int) := by
  unfold orI
  have e1 : (BitVec.ofInt 64 (n : Int) ||| BitVec.ofInt 64 ((b * 128 ^ i : Nat) : Int)).toNat = n + b * 128 ^ i := by
    rw [BitVec.toNat_or]
    have h1 : (BitVec.ofInt 64 (n : Int)).toNat = n := by simp; omega
    have h2 : (BitVec.ofInt 64 ((b * 128 ^ i : Nat) : Int)).toNat = b * 128 ^ i := by
      rw [BitVec.toNat_ofInt]
      have : ((b * 128 ^ i : Nat) : Int) % ((2 ^ 64 : Nat) : Int) = ((b * 128 ^ i : Nat) : Int) := by
        apply Int.emod_eq_of_lt <;> omega
      rw [this, Int.toNat_natCast]
    rw [h1, h2]
    have hp : (128 : Nat) ^ i = 2 ^ (7 * i) := by rw [show (128 : Nat) = 2 ^ 7 by rfl, ← Nat.pow_mul]
    rw [hp] at hn ⊢
    have := Nat.two_pow_add_eq_or_of_lt hn b
    rw [Nat.or_comm, Nat.mul_comm b, ← this]; omega
  show IntKind.u64.wrap _ = _
  rw [show (BitVec.ofInt IntKind.u64.bits (n : Int) ||| BitVec.ofInt IntKind.u64.bits ((b * 128 ^ i : Nat) : Int)).toNat = n + b * 128 ^ i from e1, wrap_u64]
  omega
theorem shl7 (b i : Nat) (hb : b < 128) (hi : b * 128 ^ i < 18446744073709551616) (hi9 : i ≤ 9) : shlI .u64 (b : Int) (7 * i) = ((b * 128 ^ i : Nat) : Int) := by
  unfold shlI
  rw [show IntKind.u64.bits = 64 by decide, show min (7 * i) 64 = 7 * i by omega, wrap_u64]
  have hp : (128 : Nat) ^ i = 2 ^ (7 * i) := by rw [show (128 : Nat) = 2 ^ 7 by rfl, ← Nat.pow_mul]
  have : ((b : Int) * 2 ^ (7 * i)) = ((b * 128 ^ i : Nat) : Int) := by rw [hp]; push_cast; rfl
  rw [this]
  omega

theorem pow128 : ∀ i : Nat, i ≤ 9 → 128 ^ i ≤ 9223372036854775808 := by decide +kernel

def takeS (xs : List Int) (at_ : Int) : Int × Int × Int :=
  if at_ < 0 ∨ (xs.length : Int) < at_ then (0, 0, 2) else
    match tk 0 0 (xs.drop at_.toNat) with
    | (n, w, e) => if e = 0 then ((n : Int), at_ + w, 0) else (0, 0, (e : Int))
def v3 (p : Int × Int × Int) : Value := .tuple #[.int .u64 p.1, .int .i64 p.2.1, .int .i64 p.2.2]

set_option maxHeartbeats 1000000 in
theorem take_calls (xs : List Int) (hx : Bytes xs) (A : Option Addr) (c : Nat) (at_ : Int) (h : Heap) (hat : at_ ≤ 9223372036854775807) (rd : Reads h 1 A xs.length c (u8s xs)) :
    Tells Try.prog 17 [.slice A xs.length c, .int .i64 at_] h (Ret fun v h' => v = v3 (takeS xs at_) ∧ h' = h) := by
  refine spec_of Try.func17 rfl rfl (fun s hs => ?_)
  repeat (first | refine WL_pure uok rfl rfl rfl rfl ?_ | with_reducible refine W_seq ?_ | with_reducible refine W_region ?_ | with_reducible refine WL_nil ?_ | with_reducible refine P_then ?_ | with_reducible refine W_block ?_ | with_reducible refine W_ret ?_ | with_reducible refine W_exit ?_ | with_reducible refine W_skip ?_ | with_reducible refine P_blockE ?_ | refine P_blockX rfl ?_ | with_reducible refine P_blockN ?_ | with_reducible refine P_blockR ?_ | with_reducible refine P_thenX ?_ | with_reducible refine P_thenR ?_ | (refine W_cond rfl ?_; first | with_reducible refine WB_t ?_ | with_reducible refine WB_f ?_ | with_reducible refine WB_nt ?_ | with_reducible refine WB_nf ?_) | (refine WL_guard rfl rfl rfl rfl rfl ?_; first | (with_reducible refine WG_tf ?_) | (with_reducible refine WG_ft ?_) | (with_reducible refine WG_tt rfl ?_) | (with_reducible refine WG_ff rfl ?_) | (with_reducible refine WG_tnt ?_) | (with_reducible refine WG_fnf ?_) | (with_reducible refine WG_tnf rfl ?_) | (with_reducible refine WG_fnt rfl ?_)) | refine W_quiet wide (by kernel_rfl) ?_)
  by_cases h1 : at_ < 0
  · rw [decide_eq_true h1]
    repeat (first | refine WL_pure uok rfl rfl rfl rfl ?_ | with_reducible refine W_seq ?_ | with_reducible refine W_region ?_ | with_reducible refine WL_nil ?_ | with_reducible refine P_then ?_ | with_reducible refine W_block ?_ | with_reducible refine W_ret ?_ | with_reducible refine W_exit ?_ | with_reducible refine W_skip ?_ | with_reducible refine P_blockE ?_ | refine P_blockX rfl ?_ | with_reducible refine P_blockN ?_ | with_reducible refine P_blockR ?_ | with_reducible refine P_thenX ?_ | with_reducible refine P_thenR ?_ | (refine W_cond rfl ?_; first | with_reducible refine WB_t ?_ | with_reducible refine WB_f ?_ | with_reducible refine WB_nt ?_ | with_reducible refine WB_nf ?_) | (refine WL_guard rfl rfl rfl rfl rfl ?_; first | (with_reducible refine WG_tf ?_) | (with_reducible refine WG_ft ?_) | (with_reducible refine WG_tt rfl ?_) | (with_reducible refine WG_ff rfl ?_) | (with_reducible refine WG_tnt ?_) | (with_reducible refine WG_fnf ?_) | (with_reducible refine WG_tnf rfl ?_) | (with_reducible refine WG_fnt rfl ?_)) | refine W_quiet wide (by kernel_rfl) ?_)
    refine P_ret3 rfl rfl rfl rfl ⟨?_, rfl⟩
    simp [takeS, h1, v3]
  rw [decide_eq_false h1]
  repeat (first | refine WL_pure uok rfl rfl rfl rfl ?_ | with_reducible refine W_seq ?_ | with_reducible refine W_region ?_ | with_reducible refine WL_nil ?_ | with_reducible refine P_then ?_ | with_reducible refine W_block ?_ | with_reducible refine W_ret ?_ | with_reducible refine W_exit ?_ | with_reducible refine W_skip ?_ | with_reducible refine P_blockE ?_ | refine P_blockX rfl ?_ | with_reducible refine P_blockN ?_ | with_reducible refine P_blockR ?_ | with_reducible refine P_thenX ?_ | with_reducible refine P_thenR ?_ | (refine W_cond rfl ?_; first | with_reducible refine WB_t ?_ | with_reducible refine WB_f ?_ | with_reducible refine WB_nt ?_ | with_reducible refine WB_nf ?_) | (refine WL_guard rfl rfl rfl rfl rfl ?_; first | (with_reducible refine WG_tf ?_) | (with_reducible refine WG_ft ?_) | (with_reducible refine WG_tt rfl ?_) | (with_reducible refine WG_ff rfl ?_) | (with_reducible refine WG_tnt ?_) | (with_reducible refine WG_fnf ?_) | (with_reducible refine WG_tnf rfl ?_) | (with_reducible refine WG_fnt rfl ?_)) | refine W_quiet wide (by kernel_rfl) ?_)
  refine W_if rfl ?_ ?_
  · intro h2
    repeat (first | refine WL_pure uok rfl rfl rfl rfl ?_ | with_reducible refine W_seq ?_ | with_reducible refine W_region ?_ | with_reducible refine WL_nil ?_ | with_reducible refine P_then ?_ | with_reducible refine W_block ?_ | with_reducible refine W_ret ?_ | with_reducible refine W_exit ?_ | with_reducible refine W_skip ?_ | with_reducible refine P_blockE ?_ | refine P_blockX rfl ?_ | with_reducible refine P_blockN ?_ | with_reducible refine P_blockR ?_ | with_reducible refine P_thenX ?_ | with_reducible refine P_thenR ?_ | (refine W_cond rfl ?_; first | with_reducible refine WB_t ?_ | with_reducible refine WB_f ?_ | with_reducible refine WB_nt ?_ | with_reducible refine WB_nf ?_) | (refine WL_guard rfl rfl rfl rfl rfl ?_; first | (with_reducible refine WG_tf ?_) | (with_reducible refine WG_ft ?_) | (with_reducible refine WG_tt rfl ?_) | (with_reducible refine WG_ff rfl ?_) | (with_reducible refine WG_tnt ?_) | (with_reducible refine WG_fnf ?_) | (with_reducible refine WG_tnf rfl ?_) | (with_reducible refine WG_fnt rfl ?_)) | refine W_quiet wide (by kernel_rfl) ?_)
    refine P_ret3 rfl rfl rfl rfl ⟨?_, rfl⟩
    simp [takeS, h2, v3]
  intro h2
  repeat (first | refine WL_pure uok rfl rfl rfl rfl ?_ | with_reducible refine W_seq ?_ | with_reducible refine W_region ?_ | with_reducible refine WL_nil ?_ | with_reducible refine P_then ?_ | with_reducible refine W_block ?_ | with_reducible refine W_ret ?_ | with_reducible refine W_exit ?_ | with_reducible refine W_skip ?_ | with_reducible refine P_blockE ?_ | refine P_blockX rfl ?_ | with_reducible refine P_blockN ?_ | with_reducible refine P_blockR ?_ | with_reducible refine P_thenX ?_ | with_reducible refine P_thenR ?_ | (refine W_cond rfl ?_; first | with_reducible refine WB_t ?_ | with_reducible refine WB_f ?_ | with_reducible refine WB_nt ?_ | with_reducible refine WB_nf ?_) | (refine WL_guard rfl rfl rfl rfl rfl ?_; first | (with_reducible refine WG_tf ?_) | (with_reducible refine WG_ft ?_) | (with_reducible refine WG_tt rfl ?_) | (with_reducible refine WG_ff rfl ?_) | (with_reducible refine WG_tnt ?_) | (with_reducible refine WG_fnf ?_) | (with_reducible refine WG_tnf rfl ?_) | (with_reducible refine WG_fnt rfl ?_)) | refine W_quiet wide (by kernel_rfl) ?_)
  obtain ⟨m, rfl⟩ : ∃ m : Nat, at_ = (m : Int) := ⟨at_.toNat, by omega⟩
  have hm : m ≤ xs.length := by omega
  have hcap := rd.cap
  have hmax := rd.max
  refine WL_slice uok iok m xs.length rfl rfl rfl rfl rfl rfl rfl rfl rfl hm hcap ?_
  have rd2 := rd.drop m hm
  generalize (if c = m then A else A.map (·.add (m * 1))) = A2 at *
  repeat (first | refine WL_pure uok rfl rfl rfl rfl ?_ | with_reducible refine W_seq ?_ | with_reducible refine W_region ?_ | with_reducible refine WL_nil ?_ | with_reducible refine P_then ?_ | with_reducible refine W_block ?_ | with_reducible refine W_ret ?_ | with_reducible refine W_exit ?_ | with_reducible refine W_skip ?_ | with_reducible refine P_blockE ?_ | refine P_blockX rfl ?_ | with_reducible refine P_blockN ?_ | with_reducible refine P_blockR ?_ | with_reducible refine P_thenX ?_ | with_reducible refine P_thenR ?_ | (refine W_cond rfl ?_; first | with_reducible refine WB_t ?_ | with_reducible refine WB_f ?_ | with_reducible refine WB_nt ?_ | with_reducible refine WB_nf ?_) | (refine WL_guard rfl rfl rfl rfl rfl ?_; first | (with_reducible refine WG_tf ?_) | (with_reducible refine WG_ft ?_) | (with_reducible refine WG_tt rfl ?_) | (with_reducible refine WG_ff rfl ?_) | (with_reducible refine WG_tnt ?_) | (with_reducible refine WG_fnf ?_) | (with_reducible refine WG_tnf rfl ?_) | (with_reducible refine WG_fnt rfl ?_)) | refine W_quiet wide (by kernel_rfl) ?_)
  refine W_loop (σ := Nat × Nat) (fun x => [(1, .int .i64 (m : Int)), (7, .int .u64 (x.2 : Int)), (20, .slice A2 (xs.length - m) (c - m)), (21, .int .i64 ((xs.length - m : Nat) : Int)), (22, .int .i64 (x.1 : Int))])
    (fun x h' => h' = h ∧ x.1 ≤ xs.length - m ∧ x.1 ≤ 9 ∧ x.2 < 128 ^ x.1 ∧ tk 0 0 (xs.drop m) = tk x.1 x.2 (xs.drop (m + x.1))) (fun x => xs.length - m - x.1) (0, 0) ⟨rfl, rfl, rfl, rfl, rfl, trivial⟩ ⟨rfl, Nat.zero_le _, by omega, by simp, rfl⟩ ?_
  rintro ⟨i, n⟩ h' ⟨rfl, hi, hi9, hn, he⟩
  dsimp only at hi hi9 hn he ⊢
  repeat (first | refine WL_pure uok rfl rfl rfl rfl ?_ | with_reducible refine W_seq ?_ | with_reducible refine W_region ?_ | with_reducible refine WL_nil ?_ | with_reducible refine P_then ?_ | with_reducible refine W_block ?_ | with_reducible refine W_ret ?_ | with_reducible refine W_exit ?_ | with_reducible refine W_skip ?_ | with_reducible refine P_blockE ?_ | refine P_blockX rfl ?_ | with_reducible refine P_blockN ?_ | with_reducible refine P_blockR ?_ | with_reducible refine P_thenX ?_ | with_reducible refine P_thenR ?_ | (refine W_cond rfl ?_; first | with_reducible refine WB_t ?_ | with_reducible refine WB_f ?_ | with_reducible refine WB_nt ?_ | with_reducible refine WB_nf ?_) | (refine WL_guard rfl rfl rfl rfl rfl ?_; first | (with_reducible refine WG_tf ?_) | (with_reducible refine WG_ft ?_) | (with_reducible refine WG_tt rfl ?_) | (with_reducible refine WG_ff rfl ?_) | (with_reducible refine WG_tnt ?_) | (with_reducible refine WG_fnf ?_) | (with_reducible refine WG_tnf rfl ?_) | (with_reducible refine WG_fnt rfl ?_)) | refine W_quiet wide (by kernel_rfl) ?_)
  refine W_if rfl ?_ ?_
  rotate_left
  · intro hlt
    have hi2 : i = xs.length - m := by omega
    repeat (first | refine WL_pure uok rfl rfl rfl rfl ?_ | with_reducible refine W_seq ?_ | with_reducible refine W_region ?_ | with_reducible refine WL_nil ?_ | with_reducible refine P_then ?_ | with_reducible refine W_block ?_ | with_reducible refine W_ret ?_ | with_reducible refine W_exit ?_ | with_reducible refine W_skip ?_ | with_reducible refine P_blockE ?_ | refine P_blockX rfl ?_ | with_reducible refine P_blockN ?_ | with_reducible refine P_blockR ?_ | with_reducible refine P_thenX ?_ | with_reducible refine P_thenR ?_ | (refine W_cond rfl ?_; first | with_reducible refine WB_t ?_ | with_reducible refine WB_f ?_ | with_reducible refine WB_nt ?_ | with_reducible refine WB_nf ?_) | (refine WL_guard rfl rfl rfl rfl rfl ?_; first | (with_reducible refine WG_tf ?_) | (with_reducible refine WG_ft ?_) | (with_reducible refine WG_tt rfl ?_) | (with_reducible refine WG_ff rfl ?_) | (with_reducible refine WG_tnt ?_) | (with_reducible refine WG_fnf ?_) | (with_reducible refine WG_tnf rfl ?_) | (with_reducible refine WG_fnt rfl ?_)) | refine W_quiet wide (by kernel_rfl) ?_)
    refine P_ret3 rfl rfl rfl rfl ⟨?_, rfl⟩
    have h3 : xs.drop (m + i) = [] := List.drop_eq_nil_of_le (by omega)
    simp only [takeS, if_neg (show ¬ ((m : Int) < 0 ∨ (xs.length : Int) < (m : Int)) by omega), Int.toNat_natCast, he, h3, tk, v3]
    rfl
  intro hlt
  have hi2 : m + i < xs.length := by omega
  have hxi : xs.drop (m + i) = xs[m + i] :: xs.drop (m + (i + 1)) := by rw [List.drop_eq_getElem_cons hi2]; rfl
  generalize hxe : xs[m + i] = x at *
  have hb : 0 ≤ x ∧ x < 256 := by rw [← hxe]; exact hx _ (List.getElem_mem hi2)
  obtain ⟨ad, hA, hc⟩ := rd2.at1 (i := (i : Int)) (by omega) (by omega) (v := .int .u8 x) (by
    rw [Int.toNat_natCast]
    simp [u8s, hi2, hxe])
  repeat (first | refine WL_pure uok rfl rfl rfl rfl ?_ | with_reducible refine W_seq ?_ | with_reducible refine W_region ?_ | with_reducible refine WL_nil ?_ | with_reducible refine P_then ?_ | with_reducible refine W_block ?_ | with_reducible refine W_ret ?_ | with_reducible refine W_exit ?_ | with_reducible refine W_skip ?_ | with_reducible refine P_blockE ?_ | refine P_blockX rfl ?_ | with_reducible refine P_blockN ?_ | with_reducible refine P_blockR ?_ | with_reducible refine P_thenX ?_ | with_reducible refine P_thenR ?_ | (refine W_cond rfl ?_; first | with_reducible refine WB_t ?_ | with_reducible refine WB_f ?_ | with_reducible refine WB_nt ?_ | with_reducible refine WB_nf ?_) | (refine WL_guard rfl rfl rfl rfl rfl ?_; first | (with_reducible refine WG_tf ?_) | (with_reducible refine WG_ft ?_) | (with_reducible refine WG_tt rfl ?_) | (with_reducible refine WG_ff rfl ?_) | (with_reducible refine WG_tnt ?_) | (with_reducible refine WG_fnf ?_) | (with_reducible refine WG_tnf rfl ?_) | (with_reducible refine WG_fnt rfl ?_)) | refine W_quiet wide (by kernel_rfl) ?_)
  rw [hA]
  refine WL_indexAddr uok iok rfl rfl rfl rfl rfl rfl rfl rfl (by omega) (by omega) ?_
  refine WL_load1 gok (.int .u8 x) rfl rfl rfl rfl rfl rfl hc ?_
  repeat (first | refine WL_pure uok rfl rfl rfl rfl ?_ | with_reducible refine W_seq ?_ | with_reducible refine W_region ?_ | with_reducible refine WL_nil ?_ | with_reducible refine P_then ?_ | with_reducible refine W_block ?_ | with_reducible refine W_ret ?_ | with_reducible refine W_exit ?_ | with_reducible refine W_skip ?_ | with_reducible refine P_blockE ?_ | refine P_blockX rfl ?_ | with_reducible refine P_blockN ?_ | with_reducible refine P_blockR ?_ | with_reducible refine P_thenX ?_ | with_reducible refine P_thenR ?_ | (refine W_cond rfl ?_; first | with_reducible refine WB_t ?_ | with_reducible refine WB_f ?_ | with_reducible refine WB_nt ?_ | with_reducible refine WB_nf ?_) | (refine WL_guard rfl rfl rfl rfl rfl ?_; first | (with_reducible refine WG_tf ?_) | (with_reducible refine WG_ft ?_) | (with_reducible refine WG_tt rfl ?_) | (with_reducible refine WG_ff rfl ?_) | (with_reducible refine WG_tnt ?_) | (with_reducible refine WG_fnf ?_) | (with_reducible refine WG_tnf rfl ?_) | (with_reducible refine WG_fnt rfl ?_)) | refine W_quiet wide (by kernel_rfl) ?_)
  have hfin : takeS xs (m : Int) = (match tk i n (x :: xs.drop (m + (i + 1))) with | (n, w, e) => if e = 0 then ((n : Int), (m : Int) + w, 0) else (0, 0, (e : Int))) := by
    simp only [takeS, if_neg (show ¬ ((m : Int) < 0 ∨ (xs.length : Int) < (m : Int)) by omega), Int.toNat_natCast, he, hxi]
  have hp9 := pow128 i hi9
  by_cases h91 : i = 9 ∧ 1 < x
  · rw [decide_eq_true (show (i : Int) = 9 by omega)]
    repeat (first | refine WL_pure uok rfl rfl rfl rfl ?_ | with_reducible refine W_seq ?_ | with_reducible refine W_region ?_ | with_reducible refine WL_nil ?_ | with_reducible refine P_then ?_ | with_reducible refine W_block ?_ | with_reducible refine W_ret ?_ | with_reducible refine W_exit ?_ | with_reducible refine W_skip ?_ | with_reducible refine P_blockE ?_ | refine P_blockX rfl ?_ | with_reducible refine P_blockN ?_ | with_reducible refine P_blockR ?_ | with_reducible refine P_thenX ?_ | with_reducible refine P_thenR ?_ | (refine W_cond rfl ?_; first | with_reducible refine WB_t ?_ | with_reducible refine WB_f ?_ | with_reducible refine WB_nt ?_ | with_reducible refine WB_nf ?_) | (refine WL_guard rfl rfl rfl rfl rfl ?_; first | (with_reducible refine WG_tf ?_) | (with_reducible refine WG_ft ?_) | (with_reducible refine WG_tt rfl ?_) | (with_reducible refine WG_ff rfl ?_) | (with_reducible refine WG_tnt ?_) | (with_reducible refine WG_fnf ?_) | (with_reducible refine WG_tnf rfl ?_) | (with_reducible refine WG_fnt rfl ?_)) | refine W_quiet wide (by kernel_rfl) ?_)
    refine W_if rfl (fun _ => ?_) (fun hno => absurd h91.2 (by omega))
    repeat (first | refine WL_pure uok rfl rfl rfl rfl ?_ | with_reducible refine W_seq ?_ | with_reducible refine W_region ?_ | with_reducible refine WL_nil ?_ | with_reducible refine P_then ?_ | with_reducible refine W_block ?_ | with_reducible refine W_ret ?_ | with_reducible refine W_exit ?_ | with_reducible refine W_skip ?_ | with_reducible refine P_blockE ?_ | refine P_blockX rfl ?_ | with_reducible refine P_blockN ?_ | with_reducible refine P_blockR ?_ | with_reducible refine P_thenX ?_ | with_reducible refine P_thenR ?_ | (refine W_cond rfl ?_; first | with_reducible refine WB_t ?_ | with_reducible refine WB_f ?_ | with_reducible refine WB_nt ?_ | with_reducible refine WB_nf ?_) | (refine WL_guard rfl rfl rfl rfl rfl ?_; first | (with_reducible refine WG_tf ?_) | (with_reducible refine WG_ft ?_) | (with_reducible refine WG_tt rfl ?_) | (with_reducible refine WG_ff rfl ?_) | (with_reducible refine WG_tnt ?_) | (with_reducible refine WG_fnf ?_) | (with_reducible refine WG_tnf rfl ?_) | (with_reducible refine WG_fnt rfl ?_)) | refine W_quiet wide (by kernel_rfl) ?_)
    refine P_ret3 rfl rfl rfl rfl ⟨?_, rfl⟩
    rw [hfin, tk, if_pos h91]; rfl
  have hbnd : (x.toNat % 128) * 128 ^ i + n < 18446744073709551616 := by
    by_cases h9 : i = 9
    · subst h9
      have : x.toNat % 128 ≤ 1 := by omega
      have h4 : (x.toNat % 128) * 128 ^ 9 ≤ 1 * 128 ^ 9 := Nat.mul_le_mul_right _ this
      omega
    · have h5 := pow128 (i + 1) (by omega)
      rw [Nat.pow_succ] at h5
      have h4 : (x.toNat % 128) * 128 ^ i ≤ 127 * 128 ^ i := Nat.mul_le_mul_right _ (by omega)
      omega
  have e1 := and127 x hb
  have e2 : IntKind.u64.wrap ((x.toNat % 128 : Nat) : Int) = ((x.toNat % 128 : Nat) : Int) := by rw [wrap_u64]; omega
  have e3 : IntKind.i64.wrap (7 * (i : Int)) = ((7 * i : Nat) : Int) := by rw [i64_id (by omega) (by omega)]; omega
  have e4 : IntKind.u64.wrap ((7 * i : Nat) : Int) = ((7 * i : Nat) : Int) := by rw [wrap_u64]; omega
  have e5 := shl7 (x.toNat % 128) i (by omega) (by omega) hi9
  have e6 := or_add n (x.toNat % 128) i hn (by omega)
  have e7 : IntKind.i64.wrap (m + (i : Int)) = ((m + i : Nat) : Int) := by rw [i64_id (by omega) (by omega)]; omega
  have e8 : IntKind.i64.wrap (((m + i : Nat) : Int) + 1) = ((m + i + 1 : Nat) : Int) := by rw [i64_id (by omega) (by omega)]; omega
  have e9 : IntKind.i64.wrap ((i : Int) + 1) = ((i + 1 : Nat) : Int) := by rw [i64_id (by omega) (by omega)]; omega
  by_cases h9 : (i : Int) = 9
  rw [decide_eq_true h9]
  repeat (first | refine WL_pure uok rfl rfl rfl rfl ?_ | with_reducible refine W_seq ?_ | with_reducible refine W_region ?_ | with_reducible refine WL_nil ?_ | with_reducible refine P_then ?_ | with_reducible refine W_block ?_ | with_reducible refine W_ret ?_ | with_reducible refine W_exit ?_ | with_reducible refine W_skip ?_ | with_reducible refine P_blockE ?_ | refine P_blockX rfl ?_ | with_reducible refine P_blockN ?_ | with_reducible refine P_blockR ?_ | with_reducible refine P_thenX ?_ | with_reducible refine P_thenR ?_ | (refine W_cond rfl ?_; first | with_reducible refine WB_t ?_ | with_reducible refine WB_f ?_ | with_reducible refine WB_nt ?_ | with_reducible refine WB_nf ?_) | (refine WL_guard rfl rfl rfl rfl rfl ?_; first | (with_reducible refine WG_tf ?_) | (with_reducible refine WG_ft ?_) | (with_reducible refine WG_tt rfl ?_) | (with_reducible refine WG_ff rfl ?_) | (with_reducible refine WG_tnt ?_) | (with_reducible refine WG_fnf ?_) | (with_reducible refine WG_tnf rfl ?_) | (with_reducible refine WG_fnt rfl ?_)) | refine W_quiet wide (by kernel_rfl) ?_)
  refine W_if rfl (fun h1x => absurd ⟨by omega, h1x⟩ h91) (fun hno => ?_)
  repeat (first | refine WL_pure uok rfl rfl rfl rfl ?_ | with_reducible refine W_seq ?_ | with_reducible refine W_region ?_ | with_reducible refine WL_nil ?_ | with_reducible refine P_then ?_ | with_reducible refine W_block ?_ | with_reducible refine W_ret ?_ | with_reducible refine W_exit ?_ | with_reducible refine W_skip ?_ | with_reducible refine P_blockE ?_ | refine P_blockX rfl ?_ | with_reducible refine P_blockN ?_ | with_reducible refine P_blockR ?_ | with_reducible refine P_thenX ?_ | with_reducible refine P_thenR ?_ | (refine W_cond rfl ?_; first | with_reducible refine WB_t ?_ | with_reducible refine WB_f ?_ | with_reducible refine WB_nt ?_ | with_reducible refine WB_nf ?_) | (refine WL_guard rfl rfl rfl rfl rfl ?_; first | (with_reducible refine WG_tf ?_) | (with_reducible refine WG_ft ?_) | (with_reducible refine WG_tt rfl ?_) | (with_reducible refine WG_ff rfl ?_) | (with_reducible refine WG_tnt ?_) | (with_reducible refine WG_fnf ?_) | (with_reducible refine WG_tnf rfl ?_) | (with_reducible refine WG_fnt rfl ?_)) | refine W_quiet wide (by kernel_rfl) ?_)
  rotate_left
  rw [decide_eq_false h9]
  repeat (first | refine WL_pure uok rfl rfl rfl rfl ?_ | with_reducible refine W_seq ?_ | with_reducible refine W_region ?_ | with_reducible refine WL_nil ?_ | with_reducible refine P_then ?_ | with_reducible refine W_block ?_ | with_reducible refine W_ret ?_ | with_reducible refine W_exit ?_ | with_reducible refine W_skip ?_ | with_reducible refine P_blockE ?_ | refine P_blockX rfl ?_ | with_reducible refine P_blockN ?_ | with_reducible refine P_blockR ?_ | with_reducible refine P_thenX ?_ | with_reducible refine P_thenR ?_ | (refine W_cond rfl ?_; first | with_reducible refine WB_t ?_ | with_reducible refine WB_f ?_ | with_reducible refine WB_nt ?_ | with_reducible refine WB_nf ?_) | (refine WL_guard rfl rfl rfl rfl rfl ?_; first | (with_reducible refine WG_tf ?_) | (with_reducible refine WG_ft ?_) | (with_reducible refine WG_tt rfl ?_) | (with_reducible refine WG_ff rfl ?_) | (with_reducible refine WG_tnt ?_) | (with_reducible refine WG_fnf ?_) | (with_reducible refine WG_tnf rfl ?_) | (with_reducible refine WG_fnt rfl ?_)) | refine W_quiet wide (by kernel_rfl) ?_)
  all_goals
    rw [e1, e2, e3, e4]
    refine WL_shl rfl rfl rfl (by omega) rfl rfl rfl ?_
    rw [Int.toNat_natCast, e5]
    repeat (first | refine WL_pure uok rfl rfl rfl rfl ?_ | with_reducible refine W_seq ?_ | with_reducible refine W_region ?_ | with_reducible refine WL_nil ?_ | with_reducible refine P_then ?_ | with_reducible refine W_block ?_ | with_reducible refine W_ret ?_ | with_reducible refine W_exit ?_ | with_reducible refine W_skip ?_ | with_reducible refine P_blockE ?_ | refine P_blockX rfl ?_ | with_reducible refine P_blockN ?_ | with_reducible refine P_blockR ?_ | with_reducible refine P_thenX ?_ | with_reducible refine P_thenR ?_ | (refine W_cond rfl ?_; first | with_reducible refine WB_t ?_ | with_reducible refine WB_f ?_ | with_reducible refine WB_nt ?_ | with_reducible refine WB_nf ?_) | (refine WL_guard rfl rfl rfl rfl rfl ?_; first | (with_reducible refine WG_tf ?_) | (with_reducible refine WG_ft ?_) | (with_reducible refine WG_tt rfl ?_) | (with_reducible refine WG_ff rfl ?_) | (with_reducible refine WG_tnt ?_) | (with_reducible refine WG_fnf ?_) | (with_reducible refine WG_tnf rfl ?_) | (with_reducible refine WG_fnt rfl ?_)) | refine W_quiet wide (by kernel_rfl) ?_)
    rw [e6]
    refine W_if rfl (fun hx1 => ?_) (fun hx1 => ?_)
    · repeat (first | refine WL_pure uok rfl rfl rfl rfl ?_ | with_reducible refine W_seq ?_ | with_reducible refine W_region ?_ | with_reducible refine WL_nil ?_ | with_reducible refine P_then ?_ | with_reducible refine W_block ?_ | with_reducible refine W_ret ?_ | with_reducible refine W_exit ?_ | with_reducible refine W_skip ?_ | with_reducible refine P_blockE ?_ | refine P_blockX rfl ?_ | with_reducible refine P_blockN ?_ | with_reducible refine P_blockR ?_ | with_reducible refine P_thenX ?_ | with_reducible refine P_thenR ?_ | (refine W_cond rfl ?_; first | with_reducible refine WB_t ?_ | with_reducible refine WB_f ?_ | with_reducible refine WB_nt ?_ | with_reducible refine WB_nf ?_) | (refine WL_guard rfl rfl rfl rfl rfl ?_; first | (with_reducible refine WG_tf ?_) | (with_reducible refine WG_ft ?_) | (with_reducible refine WG_tt rfl ?_) | (with_reducible refine WG_ff rfl ?_) | (with_reducible refine WG_tnt ?_) | (with_reducible refine WG_fnf ?_) | (with_reducible refine WG_tnf rfl ?_) | (with_reducible refine WG_fnt rfl ?_)) | refine W_quiet wide (by kernel_rfl) ?_)
      have hmod : x.toNat % 128 = x.toNat := by omega
      by_cases hx0 : x = 0
      · rw [decide_eq_true hx0]
        repeat (first | refine WL_pure uok rfl rfl rfl rfl ?_ | with_reducible refine W_seq ?_ | with_reducible refine W_region ?_ | with_reducible refine WL_nil ?_ | with_reducible refine P_then ?_ | with_reducible refine W_block ?_ | with_reducible refine W_ret ?_ | with_reducible refine W_exit ?_ | with_reducible refine W_skip ?_ | with_reducible refine P_blockE ?_ | refine P_blockX rfl ?_ | with_reducible refine P_blockN ?_ | with_reducible refine P_blockR ?_ | with_reducible refine P_thenX ?_ | with_reducible refine P_thenR ?_ | (refine W_cond rfl ?_; first | with_reducible refine WB_t ?_ | with_reducible refine WB_f ?_ | with_reducible refine WB_nt ?_ | with_reducible refine WB_nf ?_) | (refine WL_guard rfl rfl rfl rfl rfl ?_; first | (with_reducible refine WG_tf ?_) | (with_reducible refine WG_ft ?_) | (with_reducible refine WG_tt rfl ?_) | (with_reducible refine WG_ff rfl ?_) | (with_reducible refine WG_tnt ?_) | (with_reducible refine WG_fnf ?_) | (with_reducible refine WG_tnf rfl ?_) | (with_reducible refine WG_fnt rfl ?_)) | refine W_quiet wide (by kernel_rfl) ?_)
        refine W_if rfl (fun hi0 => ?_) (fun hi0 => ?_)
        · repeat (first | refine WL_pure uok rfl rfl rfl rfl ?_ | with_reducible refine W_seq ?_ | with_reducible refine W_region ?_ | with_reducible refine WL_nil ?_ | with_reducible refine P_then ?_ | with_reducible refine W_block ?_ | with_reducible refine W_ret ?_ | with_reducible refine W_exit ?_ | with_reducible refine W_skip ?_ | with_reducible refine P_blockE ?_ | refine P_blockX rfl ?_ | with_reducible refine P_blockN ?_ | with_reducible refine P_blockR ?_ | with_reducible refine P_thenX ?_ | with_reducible refine P_thenR ?_ | (refine W_cond rfl ?_; first | with_reducible refine WB_t ?_ | with_reducible refine WB_f ?_ | with_reducible refine WB_nt ?_ | with_reducible refine WB_nf ?_) | (refine WL_guard rfl rfl rfl rfl rfl ?_; first | (with_reducible refine WG_tf ?_) | (with_reducible refine WG_ft ?_) | (with_reducible refine WG_tt rfl ?_) | (with_reducible refine WG_ff rfl ?_) | (with_reducible refine WG_tnt ?_) | (with_reducible refine WG_fnf ?_) | (with_reducible refine WG_tnf rfl ?_) | (with_reducible refine WG_fnt rfl ?_)) | refine W_quiet wide (by kernel_rfl) ?_)
          refine P_ret3 rfl rfl rfl rfl ⟨?_, rfl⟩
          rw [hfin, tk, if_neg h91, if_pos hx1, if_pos ⟨hx0, by omega⟩]; rfl
        · repeat (first | refine WL_pure uok rfl rfl rfl rfl ?_ | with_reducible refine W_seq ?_ | with_reducible refine W_region ?_ | with_reducible refine WL_nil ?_ | with_reducible refine P_then ?_ | with_reducible refine W_block ?_ | with_reducible refine W_ret ?_ | with_reducible refine W_exit ?_ | with_reducible refine W_skip ?_ | with_reducible refine P_blockE ?_ | refine P_blockX rfl ?_ | with_reducible refine P_blockN ?_ | with_reducible refine P_blockR ?_ | with_reducible refine P_thenX ?_ | with_reducible refine P_thenR ?_ | (refine W_cond rfl ?_; first | with_reducible refine WB_t ?_ | with_reducible refine WB_f ?_ | with_reducible refine WB_nt ?_ | with_reducible refine WB_nf ?_) | (refine WL_guard rfl rfl rfl rfl rfl ?_; first | (with_reducible refine WG_tf ?_) | (with_reducible refine WG_ft ?_) | (with_reducible refine WG_tt rfl ?_) | (with_reducible refine WG_ff rfl ?_) | (with_reducible refine WG_tnt ?_) | (with_reducible refine WG_fnf ?_) | (with_reducible refine WG_tnf rfl ?_) | (with_reducible refine WG_fnt rfl ?_)) | refine W_quiet wide (by kernel_rfl) ?_)
          rw [e7, e8]
          refine P_ret3 rfl rfl rfl rfl ⟨?_, rfl⟩
          rw [hfin, tk, if_neg h91, if_pos hx1, if_neg (by omega), hmod]
          simp [v3]; omega
      · rw [decide_eq_false hx0]
        repeat (first | refine WL_pure uok rfl rfl rfl rfl ?_ | with_reducible refine W_seq ?_ | with_reducible refine W_region ?_ | with_reducible refine WL_nil ?_ | with_reducible refine P_then ?_ | with_reducible refine W_block ?_ | with_reducible refine W_ret ?_ | with_reducible refine W_exit ?_ | with_reducible refine W_skip ?_ | with_reducible refine P_blockE ?_ | refine P_blockX rfl ?_ | with_reducible refine P_blockN ?_ | with_reducible refine P_blockR ?_ | with_reducible refine P_thenX ?_ | with_reducible refine P_thenR ?_ | (refine W_cond rfl ?_; first | with_reducible refine WB_t ?_ | with_reducible refine WB_f ?_ | with_reducible refine WB_nt ?_ | with_reducible refine WB_nf ?_) | (refine WL_guard rfl rfl rfl rfl rfl ?_; first | (with_reducible refine WG_tf ?_) | (with_reducible refine WG_ft ?_) | (with_reducible refine WG_tt rfl ?_) | (with_reducible refine WG_ff rfl ?_) | (with_reducible refine WG_tnt ?_) | (with_reducible refine WG_fnf ?_) | (with_reducible refine WG_tnf rfl ?_) | (with_reducible refine WG_fnt rfl ?_)) | refine W_quiet wide (by kernel_rfl) ?_)
        rw [e7, e8]
        refine P_ret3 rfl rfl rfl rfl ⟨?_, rfl⟩
        rw [hfin, tk, if_neg h91, if_pos hx1, if_neg (by omega), hmod]
        simp [v3]; omega
    · repeat (first | refine WL_pure uok rfl rfl rfl rfl ?_ | with_reducible refine W_seq ?_ | with_reducible refine W_region ?_ | with_reducible refine WL_nil ?_ | with_reducible refine P_then ?_ | with_reducible refine W_block ?_ | with_reducible refine W_ret ?_ | with_reducible refine W_exit ?_ | with_reducible refine W_skip ?_ | with_reducible refine P_blockE ?_ | refine P_blockX rfl ?_ | with_reducible refine P_blockN ?_ | with_reducible refine P_blockR ?_ | with_reducible refine P_thenX ?_ | with_reducible refine P_thenR ?_ | (refine W_cond rfl ?_; first | with_reducible refine WB_t ?_ | with_reducible refine WB_f ?_ | with_reducible refine WB_nt ?_ | with_reducible refine WB_nf ?_) | (refine WL_guard rfl rfl rfl rfl rfl ?_; first | (with_reducible refine WG_tf ?_) | (with_reducible refine WG_ft ?_) | (with_reducible refine WG_tt rfl ?_) | (with_reducible refine WG_ff rfl ?_) | (with_reducible refine WG_tnt ?_) | (with_reducible refine WG_fnf ?_) | (with_reducible refine WG_tnf rfl ?_) | (with_reducible refine WG_fnt rfl ?_)) | refine W_quiet wide (by kernel_rfl) ?_)
      rw [e9]
      have hi8 : i < 9 := by
        rcases Nat.lt_or_ge i 9 with h | h
        · exact h
        · exact absurd ⟨by omega, by omega⟩ h91
      refine P_loop (i + 1, n + (x.toNat % 128) * 128 ^ i) ⟨rfl, rfl, rfl, rfl, rfl, trivial⟩ ⟨rfl, show i + 1 ≤ xs.length - m by omega, show i + 1 ≤ 9 by omega, ?_, ?_⟩ (show xs.length - m - (i + 1) < xs.length - m - i by omega)
      · dsimp only
        rw [Nat.pow_succ]
        have h4 : (x.toNat % 128) * 128 ^ i ≤ 127 * 128 ^ i := Nat.mul_le_mul_right _ (by omega)
        omega
      · dsimp only
        rw [he, hxi, tk, if_neg h91, if_neg hx1]
end Go.Proofs.Ytdkigndgdkaoiaa
