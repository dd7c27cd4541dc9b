import Derived.Test.YtdkigndgdkaoiaaLx4
namespace Go.Proofs.Ytdkigndgdkaoiaa
open Go B
set_option linter.unusedVariables false
set_option linter.unusedSectionVars false

theorem span_place (l : List Int) (i : Nat) : ∀ n, (∀ j, i ≤ j → j < i + n → l[j]? ≠ some 10) → lnS l (i + n) = lnS l i ∧ coS l (i + n) = coS l i + n
  | 0, _ => ⟨rfl, by simp⟩
  | n + 1, h => by
    obtain ⟨h1, h2⟩ := span_place l i n (fun j a b => h j a (by omega))
    have := h (i + n) (by omega) (by omega)
    rw [show i + (n + 1) = (i + n) + 1 by omega, lnS, coS, if_neg this, if_neg this, h1, h2]
    refine ⟨rfl, by omega⟩
theorem spanN_get (p : Int → Prop) [DecidablePred p] : ∀ (r : List Int) (j : Nat), j < spanN p r → ∃ b, r[j]? = some b ∧ p b
  | [], j, h => by simp [spanN] at h
  | a :: r, j, h => by
    by_cases ha : p a
    · rw [spanN_cons_pos ha] at h
      cases j with
      | zero => exact ⟨a, rfl, ha⟩
      | succ j => simpa using spanN_get p r j (by omega)
    · rw [spanN_cons_neg ha] at h; omega
/-- the place behind a run of bytes none of which is a line feed -/
theorem run_place (x : ByteArray) (p : Int → Prop) [DecidablePred p] (hp : ¬ p 10) (i : Nat) (hi : i < x.size) (h0 : bAt x (i : Int) ≠ 10) :
    lnS (by_ x) (i + (spanN p ((by_ x).drop (i + 1)) + 1)) = lnS (by_ x) i ∧ coS (by_ x) (i + (spanN p ((by_ x).drop (i + 1)) + 1)) = coS (by_ x) i + (spanN p ((by_ x).drop (i + 1)) + 1 : Nat) := by
  refine span_place _ _ _ fun j h1 h2 => ?_
  by_cases e : j = i
  · subst e; rw [bAt_get x j hi]; intro e; injection e with e; exact h0 e
  · obtain ⟨b, hb, hpb⟩ := spanN_get p ((by_ x).drop (i + 1)) (j - (i + 1)) (by omega)
    rw [List.getElem?_drop, show i + 1 + (j - (i + 1)) = j by omega] at hb
    rw [hb]; intro e; injection e with e; subst e; exact hp hpb
theorem span_le (x : ByteArray) (p : Int → Prop) [DecidablePred p] (i : Nat) (hi : i < x.size) : i + (spanN p ((by_ x).drop (i + 1)) + 1) ≤ x.size := by
  have := spanN_le p ((by_ x).drop (i + 1))
  rw [List.length_drop, by_len] at this
  omega
theorem lf_line : ¬ notLF 10 := fun h => h rfl
theorem lf_name : ¬ nameP 10 := by decide

section
variable (x : ByteArray) (i : Nat) (hi : i < x.size) (b : Nat) (ln c : Int)
include hi
theorem st_blank (h : bAt x (i : Int) = 32 ∨ bAt x (i : Int) = 9 ∨ bAt x (i : Int) = 13) : lexS ((by_ x).drop i) b ln c = lexS ((by_ x).drop (i + 1)) (b + 1) ln (c + 1) := by
  rw [drop_by x i hi, lexS, if_pos h]
theorem st_rem (h : bAt x (i : Int) = 35) : lexS ((by_ x).drop i) b ln c = lexS ((by_ x).drop (i + (spanN notLF ((by_ x).drop (i + 1)) + 1))) (b + (spanN notLF ((by_ x).drop (i + 1)) + 1)) ln (c + (spanN notLF ((by_ x).drop (i + 1)) + 1 : Nat)) := by
  conv => lhs; rw [drop_by x i hi, lexS, if_neg (by omega), if_pos h, List.drop_drop]
  rw [show i + 1 + spanN notLF ((by_ x).drop (i + 1)) = i + (spanN notLF ((by_ x).drop (i + 1)) + 1) by omega]
theorem st_lf (h : bAt x (i : Int) = 10) : lexS ((by_ x).drop i) b ln c = putT ⟨2, [bAt x (i : Int)], b, ln, c⟩ (lexS ((by_ x).drop (i + 1)) (b + 1) (ln + 1) 1) := by
  rw [drop_by x i hi, lexS, if_neg (by omega), if_neg (by omega), if_pos h]
theorem st_semi (h : bAt x (i : Int) = 59) : lexS ((by_ x).drop i) b ln c = putT ⟨2, [bAt x (i : Int)], b, ln, c⟩ (lexS ((by_ x).drop (i + 1)) (b + 1) ln (c + 1)) := by
  rw [drop_by x i hi, lexS, if_neg (by omega), if_neg (by omega), if_neg (by omega), if_pos h]
theorem st_mark (h : markP (bAt x (i : Int))) : lexS ((by_ x).drop i) b ln c = putT ⟨1, [bAt x (i : Int)], b, ln, c⟩ (lexS ((by_ x).drop (i + 1)) (b + 1) ln (c + 1)) := by
  have h' := h
  unfold markP at h'
  rw [drop_by x i hi, lexS, if_neg (by omega), if_neg (by omega), if_neg (by omega), if_neg (by omega), if_pos h]
theorem st_name (h : letterP (bAt x (i : Int))) : lexS ((by_ x).drop i) b ln c = if 32 < spanN nameP ((by_ x).drop (i + 1)) + 1 then ([], some (b, ln, c, 41)) else
    putT ⟨0, ((by_ x).drop i).take (spanN nameP ((by_ x).drop (i + 1)) + 1), b, ln, c⟩ (lexS ((by_ x).drop (i + (spanN nameP ((by_ x).drop (i + 1)) + 1))) (b + (spanN nameP ((by_ x).drop (i + 1)) + 1)) ln (c + (spanN nameP ((by_ x).drop (i + 1)) + 1 : Nat))) := by
  have h' := h
  unfold letterP at h'
  have hm : ¬ markP (bAt x (i : Int)) := by unfold markP; omega
  conv => lhs; rw [drop_by x i hi, lexS, if_neg (by omega), if_neg (by omega), if_neg (by omega), if_neg (by omega), if_neg hm, if_pos h, List.drop_drop]
  rw [show i + 1 + spanN nameP ((by_ x).drop (i + 1)) = i + (spanN nameP ((by_ x).drop (i + 1)) + 1) by omega]
  rw [drop_by x i hi, List.take_succ_cons]
theorem st_bad (h0 : ¬ (bAt x (i : Int) = 32 ∨ bAt x (i : Int) = 9 ∨ bAt x (i : Int) = 13)) (h1 : bAt x (i : Int) ≠ 35) (h2 : bAt x (i : Int) ≠ 10) (h3 : bAt x (i : Int) ≠ 59) (h4 : ¬ markP (bAt x (i : Int))) (h5 : ¬ letterP (bAt x (i : Int))) : lexS ((by_ x).drop i) b ln c = ([], some (b, ln, c, 40)) := by
  rw [drop_by x i hi, lexS, if_neg h0, if_neg h1, if_neg h2, if_neg h3, if_neg h4, if_neg h5]
end
/-- where the two lexers stand: what is read so far, what is left -/
def At4 (x : ByteArray) (acc : List Tk) (i : Nat) : Prop :=
  i ≤ x.size ∧ acc.length ≤ i ∧ lexS (by_ x) 0 1 1 = (acc ++ (lexS ((by_ x).drop i) i (lnS (by_ x) i) (coS (by_ x) i)).1, (lexS ((by_ x).drop i) i (lnS (by_ x) i) (coS (by_ x) i)).2)
theorem At4.start (x : ByteArray) : At4 x [] 0 := ⟨Nat.zero_le _, Nat.le_refl _, by simp [lnS, coS]⟩
theorem mark_idx (c : Int) (h : 0 ≤ c ∧ c < 256) : 0 ≤ Lib.indexByte [43, 45, 46, 47, 58] c.toNat.toUInt8 ↔ markP c := by
  have h2 : ∀ y : Nat, y < 256 → (0 ≤ Lib.indexByte [43, 45, 46, 47, 58] (y : Nat).toUInt8 ↔ markP (y : Int)) := by decide +kernel
  have := h2 c.toNat (by omega)
  rwa [show ((c.toNat : Nat) : Int) = c by omega] at this
section
variable {x : ByteArray} {acc : List Tk} {i : Nat} (a : At4 x acc i) (hi : i < x.size)
include a hi
theorem At4.line : lnS (by_ x) (i + 1) = (if bAt x (i : Int) = 10 then lnS (by_ x) i + 1 else lnS (by_ x) i) ∧ coS (by_ x) (i + 1) = (if bAt x (i : Int) = 10 then 1 else coS (by_ x) i + 1) := by
  rw [lnS, coS, bAt_get x i hi]
  by_cases e : bAt x (i : Int) = 10
  · rw [if_pos e, if_pos (by rw [e]), if_pos e, if_pos (by rw [e])]; exact ⟨rfl, rfl⟩
  · rw [if_neg e, if_neg (by intro q; injection q with q; exact e q), if_neg e, if_neg (by intro q; injection q with q; exact e q)]; exact ⟨rfl, rfl⟩
theorem At4.blank (h : bAt x (i : Int) = 32 ∨ bAt x (i : Int) = 9 ∨ bAt x (i : Int) = 13) : At4 x acc (i + 1) := by
  obtain ⟨h1, h2⟩ := a.line hi
  rw [if_neg (by omega)] at h1 h2
  refine ⟨hi, by have := a.2.1; omega, ?_⟩
  rw [a.2.2, st_blank x i hi _ _ _ h, h1, h2]
theorem At4.rem (h : bAt x (i : Int) = 35) : At4 x acc (i + (spanN notLF ((by_ x).drop (i + 1)) + 1)) := by
  obtain ⟨h1, h2⟩ := run_place x notLF lf_line i hi (by omega)
  refine ⟨span_le x notLF i hi, by have := a.2.1; omega, ?_⟩
  rw [a.2.2, st_rem x i hi _ _ _ h, h1, h2]
theorem At4.put1 (k : Int) (h : (bAt x (i : Int) = 10 ∨ bAt x (i : Int) = 59) ∧ k = 2 ∨ markP (bAt x (i : Int)) ∧ k = 1) : At4 x (acc ++ [⟨k, [bAt x (i : Int)], i, lnS (by_ x) i, coS (by_ x) i⟩]) (i + 1) := by
  obtain ⟨h1, h2⟩ := a.line hi
  refine ⟨hi, by have := a.2.1; simp; omega, ?_⟩
  rw [a.2.2]
  rcases h with ⟨h | h, rfl⟩ | ⟨h, rfl⟩
  · rw [if_pos h] at h1 h2
    rw [st_lf x i hi _ _ _ h, h1, h2]; simp [putT]
  · rw [if_neg (by omega)] at h1 h2
    rw [st_semi x i hi _ _ _ h, h1, h2]; simp [putT]
  · have h' := h
    unfold markP at h'
    rw [if_neg (by omega)] at h1 h2
    rw [st_mark x i hi _ _ _ h, h1, h2]; simp [putT]
theorem At4.name (h : letterP (bAt x (i : Int))) (hl : ¬ 32 < spanN nameP ((by_ x).drop (i + 1)) + 1) : At4 x (acc ++ [⟨0, ((by_ x).drop i).take (spanN nameP ((by_ x).drop (i + 1)) + 1), i, lnS (by_ x) i, coS (by_ x) i⟩]) (i + (spanN nameP ((by_ x).drop (i + 1)) + 1)) := by
  obtain ⟨h1, h2⟩ := run_place x nameP lf_name i hi (by unfold letterP at h; omega)
  refine ⟨span_le x nameP i hi, by have := a.2.1; simp; omega, ?_⟩
  rw [a.2.2, st_name x i hi _ _ _ h, if_neg hl, h1, h2]; simp [putT]
theorem At4.long (h : letterP (bAt x (i : Int))) (hl : 32 < spanN nameP ((by_ x).drop (i + 1)) + 1) : lexS (by_ x) 0 1 1 = (acc, some (i, lnS (by_ x) i, coS (by_ x) i, 41)) := by
  rw [a.2.2, st_name x i hi _ _ _ h, if_pos hl]; simp
theorem At4.bad (h0 : ¬ (bAt x (i : Int) = 32 ∨ bAt x (i : Int) = 9 ∨ bAt x (i : Int) = 13)) (h1 : bAt x (i : Int) ≠ 35) (h2 : bAt x (i : Int) ≠ 10) (h3 : bAt x (i : Int) ≠ 59) (h4 : ¬ markP (bAt x (i : Int))) (h5 : ¬ letterP (bAt x (i : Int))) : lexS (by_ x) 0 1 1 = (acc, some (i, lnS (by_ x) i, coS (by_ x) i, 40)) := by
  rw [a.2.2, st_bad x i hi _ _ _ h0 h1 h2 h3 h4 h5]; simp
end
theorem At4.done {x : ByteArray} {acc : List Tk} (a : At4 x acc x.size) : lexS (by_ x) 0 1 1 = (acc ++ [⟨3, [], x.size, lnS (by_ x) x.size, coS (by_ x) x.size⟩], none) := by
  have e : (by_ x).drop x.size = [] := List.drop_eq_nil_of_le (by rw [by_len]; exact Nat.le_refl _)
  have h := a.2.2
  rw [e, lexS] at h
  exact h
end Go.Proofs.Ytdkigndgdkaoiaa
