/- More rules. -/
import Derived.Test.YtdkigndgdkaoiaaBh
namespace Go.Proofs.Ytdkigndgdkaoiaa.B
set_option linter.unusedVariables false
set_option linter.unusedSimpArgs false
open Go
section
variable {P : Program} {U : UT} {I : IT} {F : FT} {G : GT} {Q : Exit → Act → World → Prop} {N : Nat} {L : Slots} {s : World} {h : Heap} {ops : Array Oper} {rest : List Oper} {m : Bool} {o : Oper} {d_ : Nat}

/-- []T{} -/
theorem WL_lit0 (hU : AllU P U) (hI : AllI P I) {t e : Nat} {sz_ by_ : Nat} {z_ : Value} (ho : o.op = .buildSlice t 0 #[]) (ht : und U t = some (.slice e)) (hz : inf I e = some ⟨sz_, by_, z_⟩) (hg : o.guard = none) (hd : o.dst = some d_) (hn : Nat.blt d_ N = true)
    (kk : WL P false ops rest Q N ((d_, .slice (some ⟨h.size, 0, none⟩) 0 0) :: L) s (h.push (.cells #[] e))) : WL P false ops (o :: rest) Q N L s h := by
  refine WL_act (R := fun u h' => u = .slice (some ⟨h.size, 0, none⟩) 0 0 ∧ h' = h.push (.cells #[] e)) hg hd hn (fun a w ha hw => ?_) (fun u h' hu => by obtain ⟨rfl, rfl⟩ := hu; exact kk)
  have hs := sizeOf_run (P := P) hI hz w
  refine ⟨.slice (some ⟨h.size, 0, none⟩) 0 0, w.alloc (.cells #[] e), ?_, ⟨rfl, rfl, rfl⟩, rfl, by subst hw; rfl⟩
  unfold execOp
  simp only [ho, Instr.buildSlice]
  subst hw
  simp [run_underlying (hU.at ht), hs, Instr.fill, newRow]
  have e0 : Array.map (fun _ => (default : Value)) (Array.range 0) = #[] := Array.eq_empty_of_size_eq_zero (by simp)
  rw [e0]
/-- xs[:b] -/
theorem WL_sliceTo (hU : AllU P U) (hI : AllI P I) {t e : Nat} {x : Operand} {hi : Option Operand} {sz_ by_ : Nat} {z_ : Value} {A : Option Addr} {n c : Nat} (b : Nat) (ho : o.op = .slice t x none hi none) (ht : und U t = some (.slice e)) (hz : inf I e = some ⟨sz_, by_, z_⟩) (hx : ev L x = some (.slice A n c))
    (hhi : (match hi with | none => b = n | some l => ev L l = some (.int .i64 (b : Int)))) (hg : o.guard = none) (hd : o.dst = some d_) (hn : Nat.blt d_ N = true)
    (h1 : b ≤ c) (kk : WL P m ops rest Q N ((d_, .slice A b c) :: L) s h) : WL P m ops (o :: rest) Q N L s h := by
  refine WL_slice hU hI 0 b ho ht hz hx rfl (by cases hi <;> exact hhi) hg hd hn (Nat.zero_le _) h1 ?_
  have e : (if c = 0 then A else A.map (·.add (0 * sz_))) = A := by
    cases A <;> simp [Addr.add]
  rw [e]
  exact kk
/-- it comes alone, and leaves the heap as it was -/
theorem WHW_q {S : Heap → Prop} {l : Array Bool} {ms : List (Nat × Bool)} {i : Nat} {v : Value} (hd : o.dst = some d_) (hn : Nat.blt d_ N = true) (hS : S h) (hdo : Does P N L s o h (fun u h' => u = v ∧ h' = h))
    (k : WH P S (l.setIfInBounds i true) ms ops rest Q N ((d_, v) :: L) s h) : WHW P S l ((i, false) :: ms) ops o rest Q N L s h :=
  WHW_does hd hn hdo (fun u h' hu => by obtain ⟨rfl, rfl⟩ := hu; exact ⟨hS, k⟩)
end
end Go.Proofs.Ytdkigndgdkaoiaa.B
