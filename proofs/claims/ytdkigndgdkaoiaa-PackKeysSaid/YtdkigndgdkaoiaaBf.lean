/- More rules. -/
import Derived.Test.YtdkigndgdkaoiaaBh
import Derived.Laws.Externs
namespace Go.Proofs.Ytdkigndgdkaoiaa.B
set_option linter.unusedVariables false
set_option linter.unusedSimpArgs false
open Go
section
variable {P : Program} {U : UT} {I : IT} {F : FT} {G : GT} {Q : Exit → Act → World → Prop} {N : Nat} {L : Slots} {s : World} {h : Heap} {ops : Array Oper} {rest : List Oper} {m : Bool} {o : Oper} {d_ : Nat}

/-- []T{} -/
theorem WL_lit0 (hU : AllU P U) (hI : AllI P I) {t e : Nat} {sz_ by_ : Nat} {z_ : Value} (ho : o.op = .buildSlice t 0 #[]) (ht : und U t = some (.slice e)) (hz : inf I e = some ⟨sz_, by_, z_⟩) (hg : o.guard = none) (hd : o.dst = some d_) (hn : Nat.blt d_ N = true)
    (kk : WL P false ops rest Q N ((d_, .slice (some ⟨h.size, 0, none⟩) 0 0) :: L) s (h.push (.cells #[] e))) : WL P false ops (o :: rest) Q N L s h := by
  refine WL_act (R := fun u h' => u = .slice (some ⟨h.size, 0, none⟩) 0 0 ∧ h' = h.push (.cells #[] e)) hg hd hn (fun a w ha hw => ?_) (fun u h' hu => by obtain ⟨rfl, rfl⟩ := hu; exact kk)
  have hs := sizeOf_run (P := P) hI hz w
  refine ⟨.slice (some ⟨h.size, 0, none⟩) 0 0, w.alloc (.cells #[] e), ?_, ⟨rfl, rfl, rfl⟩, rfl, by subst hw; rfl⟩
  unfold execOp
  simp only [ho, Instr.buildSlice]
  subst hw
  simp [run_underlying (hU.at ht), hs, Instr.fill, newRow]
  have e0 : Array.map (fun _ => (default : Value)) (Array.range 0) = #[] := Array.eq_empty_of_size_eq_zero (by simp)
  rw [e0]
/-- xs[:b] -/
theorem WL_sliceTo (hU : AllU P U) (hI : AllI P I) {t e : Nat} {x : Operand} {hi : Option Operand} {sz_ by_ : Nat} {z_ : Value} {A : Option Addr} {n c : Nat} (b : Nat) (ho : o.op = .slice t x none hi none) (ht : und U t = some (.slice e)) (hz : inf I e = some ⟨sz_, by_, z_⟩) (hx : ev L x = some (.slice A n c))
    (hhi : (match hi with | none => b = n | some l => ev L l = some (.int .i64 (b : Int)))) (hg : o.guard = none) (hd : o.dst = some d_) (hn : Nat.blt d_ N = true)
    (h1 : b ≤ c) (kk : WL P m ops rest Q N ((d_, .slice A b c) :: L) s h) : WL P m ops (o :: rest) Q N L s h := by
  refine WL_slice hU hI 0 b ho ht hz hx rfl (by cases hi <;> exact hhi) hg hd hn (Nat.zero_le _) h1 ?_
  have e : (if c = 0 then A else A.map (·.add (0 * sz_))) = A := by
    cases A <;> simp [Addr.add]
  rw [e]
  exact kk
/-- it comes alone, and leaves the heap as it was -/
theorem WHW_q {S : Heap → Prop} {l : Array Bool} {ms : List (Nat × Bool)} {i : Nat} {v : Value} (hd : o.dst = some d_) (hn : Nat.blt d_ N = true) (hS : S h) (hdo : Does P N L s o h (fun u h' => u = v ∧ h' = h))
    (k : WH P S (l.setIfInBounds i true) ms ops rest Q N ((d_, v) :: L) s h) : WHW P S l ((i, false) :: ms) ops o rest Q N L s h :=
  WHW_does hd hn hdo (fun u h' hu => by obtain ⟨rfl, rfl⟩ := hu; exact ⟨hS, k⟩)
/-- guarded by what was passed over itself: passed over too -/
theorem yielded_undef {a : Act} (ha : Fr N L a) {j d : Nat} (hj : dstOf ops j = some d) (hl : look L d = some undef) : yielded ops a.tmps j = none := by
  unfold yielded
  unfold dstOf at hj
  rw [hj]
  simp [ha.get d _ hl, undef]
theorem WL_guardU {j d : Nat} {b : Bool} (hg : o.guard = some (j, b)) (hj : dstOf ops j = some d) (hl : look L d = some undef) (hd : o.dst = some d_) (hn : Nat.blt d_ N = true) (k : WL P m ops rest Q N ((d_, undef) :: L) s h) : WL P m ops (o :: rest) Q N L s h := by
  have hne : ∀ a, Fr N L a → ¬ Region.wanted o (yielded ops a.tmps) = true := fun a ha => by
    simp only [Region.wanted, hg, yielded_undef ha hj hl]
    simp
  cases m
  · intro a w ha hw hs
    unfold wpList
    rw [if_neg (hne a ha)]
    exact k _ w (ha.ins hd hn _) hw hs
  · intro a ha
    unfold wpQuiet
    rw [if_neg (hne a ha)]
    exact k _ (ha.ins hd hn _)
theorem WH_guardU {S : Heap → Prop} {l : Array Bool} {ms : List (Nat × Bool)} {i : Nat} {j d : Nat} {b : Bool} (hg : o.guard = some (j, b)) (hj : dstOf ops j = some d) (hl : look L d = some undef) (hd : o.dst = some d_) (hn : Nat.blt d_ N = true)
    (k : WH P S (l.setIfInBounds i true) ms ops rest Q N ((d_, undef) :: L) s h) : WH P S l ((i, true) :: ms) ops (o :: rest) Q N L s h :=
  WH_passed hd hn (fun a ha => by simp only [Region.wanted, hg, yielded_undef ha hj hl]; simp) k

/-! results, some of which lie in memory -/
inductive ResOK (G : GT) (I : IT) (h : Heap) (L : Slots) : ResultVar → Value → Prop where
  | tmp {t : Nat} {v : Value} (hv : look L t = some v) : ResOK G I h L (.tmp t) v
  | cellN {t ty : Nat} {ad : Addr} {sz_ by_ : Nat} {z_ : Value} (cs : List Value) (hv : look L t = some (.pointer (some ad))) (hg : agg G ty = some true) (hz : inf I ty = some ⟨sz_, by_, z_⟩) (hl : Nat.beq cs.length sz_ = true) (hc : cellsH h ad cs) : ResOK G I h L (.cell t ty) (.agg cs.toArray)
  | cell1 {t ty : Nat} {ad : Addr} {v : Value} (hv : look L t = some (.pointer (some ad))) (hg : agg G ty = some false) (hc : cellH h ad = some v) : ResOK G I h L (.cell t ty) v
def resRun (tmps : Array Value) : ResultVar → Sem Value
  | .tmp t => pure (tmps.getD t undef)
  | .cell a t => do loadVar t (← asAddr (tmps.getD a undef))
theorem resRun_ok (hG : AllG P G) (hI : AllI P I) {rv : ResultVar} {v : Value} (hr : ResOK G I h L rv v) {a : Act} {w : World} (ha : Fr N L a) (hw : w.heap = h) : (resRun a.tmps rv).run P w = .ok v w := by
  cases hr with
  | tmp hv =>
    have := ha.ev (x := .tmp _) hv
    simp only [Act.eval] at this
    simp only [resRun, this, Sem.run_pure]
  | cellN cs hv hg hz hl hc =>
    have h1 := ha.ev (x := .tmp _) hv
    simp only [Act.eval] at h1
    have h2 := loadCells_run _ w P cs 0 #[] (fun j v hv => by rw [Nat.zero_add, cellH_eq, hw]; exact hc j v hv)
    rw [Nat.eq_of_beq_eq_true hl] at h2
    simp only [resRun, h1, asAddr, loadVar]
    simp [isAgg_run (hG.at hg), sizeOf_run hI hz, loadCells, h2]
  | @cell1 _ _ ad _ hv hg hc =>
    have h1 := ha.ev (x := .tmp _) hv
    simp only [Act.eval] at h1
    have hc' : w.cell? ad = some v := by rw [cellH_eq, hw]; exact hc
    simp only [resRun, h1, asAddr, loadVar]
    simp [isAgg_run (hG.at hg), hc']
theorem results_eq (fn : Func) (tmps : Array Value) : results fn tmps = (do
    let vs ← fn.results.mapM (resRun tmps)
    pure (if h : vs.size = 1 then vs[0] else .tuple vs)) := by
  unfold results resRun
  congr 1
theorem P_res1e (hG : AllG P G) (hI : AllI P I) {fn : Func} {q : Ending → Heap → Prop} {r1 : ResultVar} {v1 : Value} (hr : fn.results = #[r1]) (h1 : ResOK G I h L r1 v1) (k : q (.returned v1) h) : Post (bodyPost P fn (fun e w' => Sim s w' ∧ q e w'.heap)) .ret N L s h :=
  fun a w ha hw hs => ⟨ha.defers, v1, by
    have e1 := resRun_ok hG hI h1 ha hw
    rw [results_eq, hr]
    simp [e1], hs, hw ▸ k⟩
theorem P_res2e (hG : AllG P G) (hI : AllI P I) {fn : Func} {q : Ending → Heap → Prop} {r1 r2 : ResultVar} {v1 v2 : Value} (hr : fn.results = #[r1, r2]) (h1 : ResOK G I h L r1 v1) (h2 : ResOK G I h L r2 v2) (k : q (.returned (.tuple #[v1, v2])) h) : Post (bodyPost P fn (fun e w' => Sim s w' ∧ q e w'.heap)) .ret N L s h :=
  fun a w ha hw hs => ⟨ha.defers, .tuple #[v1, v2], by
    have e1 := resRun_ok hG hI h1 ha hw
    have e2 := resRun_ok hG hI h2 ha hw
    rw [results_eq, hr]
    simp [e1, e2], hs, hw ▸ k⟩
theorem P_res3e (hG : AllG P G) (hI : AllI P I) {fn : Func} {q : Ending → Heap → Prop} {r1 r2 r3 : ResultVar} {v1 v2 v3 : Value} (hr : fn.results = #[r1, r2, r3]) (h1 : ResOK G I h L r1 v1) (h2 : ResOK G I h L r2 v2) (h3 : ResOK G I h L r3 v3) (k : q (.returned (.tuple #[v1, v2, v3])) h) : Post (bodyPost P fn (fun e w' => Sim s w' ∧ q e w'.heap)) .ret N L s h :=
  fun a w ha hw hs => ⟨ha.defers, .tuple #[v1, v2, v3], by
    have e1 := resRun_ok hG hI h1 ha hw
    have e2 := resRun_ok hG hI h2 ha hw
    have e3 := resRun_ok hG hI h3 ha hw
    rw [results_eq, hr]
    simp [e1, e2, e3], hs, hw ▸ k⟩

theorem P_res1 (hG : AllG P G) (hI : AllI P I) {fn : Func} {q : Value → Heap → Prop} {r1 : ResultVar} {v1 : Value} (hr : fn.results = #[r1]) (h1 : ResOK G I h L r1 v1) (k : q (v1) h) : Post (bodyPost P fn (fun e w' => Sim s w' ∧ Ret q e w'.heap)) .ret N L s h := P_res1e (q := Ret q) hG hI hr h1 k
theorem P_res2 (hG : AllG P G) (hI : AllI P I) {fn : Func} {q : Value → Heap → Prop} {r1 r2 : ResultVar} {v1 v2 : Value} (hr : fn.results = #[r1, r2]) (h1 : ResOK G I h L r1 v1) (h2 : ResOK G I h L r2 v2) (k : q ((.tuple #[v1, v2])) h) : Post (bodyPost P fn (fun e w' => Sim s w' ∧ Ret q e w'.heap)) .ret N L s h := P_res2e (q := Ret q) hG hI hr h1 h2 k
theorem P_res3 (hG : AllG P G) (hI : AllI P I) {fn : Func} {q : Value → Heap → Prop} {r1 r2 r3 : ResultVar} {v1 v2 v3 : Value} (hr : fn.results = #[r1, r2, r3]) (h1 : ResOK G I h L r1 v1) (h2 : ResOK G I h L r2 v2) (h3 : ResOK G I h L r3 v3) (k : q ((.tuple #[v1, v2, v3])) h) : Post (bodyPost P fn (fun e w' => Sim s w' ∧ Ret q e w'.heap)) .ret N L s h := P_res3e (q := Ret q) hG hI hr h1 h2 h3 k
/-- a call of a function of the library that has no body here -/
theorem Y_extern {f : Nat} {as : Array Operand} {ts : Array TypeId} {cal : Operand} {vs : List Value} {v : Value} (ho : o.op = .call { callee := .value cal, args := as, argTypes := ts })
    (hc : ev L cal = some (.func (.func f) #[] #[])) (hv : evs L as.toList = some vs) (hrun : ∀ w, (callFunc f vs.toArray).run P w = .ok (.value v) w) : Y P N L o v h := by
  intro a w ha hw
  unfold execOp
  have e1 : as.map a.eval = vs.toArray := by apply Array.toList_inj.1; rw [Array.toList_map, ha.evs hv]
  simp only [ho, resolve, ha.ev hc, e1]
  simp [Deferred.ofValue, invoke, hrun]
theorem WL_y {v : Value} (hg : o.guard = none) (hd : o.dst = some d_) (hn : Nat.blt d_ N = true) (hy : Y P N L o v h) (k : WL P m ops rest Q N ((d_, v) :: L) s h) : WL P m ops (o :: rest) Q N L s h :=
  WL_value v hg hd hn (fun a w ha hw _ => hy a w ha hw) k
end
end Go.Proofs.Ytdkigndgdkaoiaa.B
