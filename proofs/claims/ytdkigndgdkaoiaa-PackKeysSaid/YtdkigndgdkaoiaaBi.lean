/- Equality of values whose cells are numbers, truths and texts; tests against nil; type assertions. -/
import Derived.Test.YtdkigndgdkaoiaaBg
import Derived.DeepKeys
namespace Go.Proofs.Ytdkigndgdkaoiaa.B
set_option linter.unusedVariables false
set_option linter.unusedSimpArgs false
open Go
def kEq (k k' : IntKind) : Bool := if k = k' then true else false
def eqV (d : TypeDesc) (a b : Value) : Option Bool :=
  match d, a, b with
  | .int _, .int k x, .int k' y => match kEq k k' with | true => some (decide (x = y)) | false => none
  | .bool, .bool x, .bool y => some (x == y)
  | .string, .string x, .string y => some (decide (x = y))
  | _, _, _ => none
def one (cs : List Value) : Option Value := match cs with | [x] => some x | _ => none
def cutV (cs : List Value) (off n : Nat) : List Value := (cs.drop off).take n
def eqF (P : Program) (eq : TypeId → List Value → List Value → Option Bool) : List Field → List Value → List Value → Option Bool
  | [], _, _ => some true
  | f :: fs, xs, ys => match f.name != "_", eq f.type (cutV xs f.offset (P.cellsOf f.type)) (cutV ys f.offset (P.cellsOf f.type)), eqF P eq fs xs ys with
    | true, some a, some b => some (a && b)
    | _, _, _ => none
def eqI (eq : List Value → List Value → Option Bool) (c : Nat) : List Nat → List Value → List Value → Option Bool
  | [], _, _ => some true
  | i :: is, xs, ys => match eq (cutV xs (i * c) c) (cutV ys (i * c) c), eqI eq c is xs ys with
    | some a, some b => some (a && b)
    | _, _ => none
def eqT (P : Program) : Nat → TypeId → List Value → List Value → Option Bool
  | 0, _, _, _ => none
  | m + 1, t, xs, ys =>
    match P.underlying t with
    | some (.struct fs) => match P.stoodInHeld t, Nat.beq xs.length (P.cellsOf t), Nat.beq ys.length (P.cellsOf t) with | false, true, true => eqF P (eqT P m) fs.toList xs ys | _, _, _ => none
    | some (.array n e) => match (P.info? e).isSome, Nat.beq xs.length (P.cellsOf t), Nat.beq ys.length (P.cellsOf t) with | true, true, true => eqI (eqT P m e) (P.cellsOf e) (List.range n) xs ys | _, _, _ => none
    | some d => match one xs, one ys with | some x, some y => eqV d x y | _, _ => none
    | none => none
def sole (cs : List Value) : Value := match cs with | [x] => x | _ => .nilFunc
/-- the value of a type with these cells -/
def mkV (P : Program) (t : TypeId) (cs : List Value) : Value := match P.underlying t with
  | some (.struct _) => .agg cs.toArray
  | some (.array _ _) => .agg cs.toArray
  | _ => sole cs
theorem one_eq {cs : List Value} {x : Value} (h : one cs = some x) : cs = [x] := by
  unfold one at h
  split at h
  · simpa using h
  · cases h
theorem part_mk {P : Program} {e : TypeId} {m : Nat} {l' : List Value} {xs : Array Value} {off : Nat} {l : List Value} {r : Bool} (w : World) (hl : cutV xs.toList off (P.cellsOf e) = l) (h : eqT P m e l l' = some r ∨ eqT P m e l' l = some r) : (part e xs off).run P w = .ok (mkV P e l) w := by
  cases m with
  | zero => simp [eqT] at h
  | succ m =>
    unfold eqT at h
    unfold mkV
    cases hu : P.underlying e with
    | none => simp [hu] at h
    | some d =>
      have plain : (∃ x, l = [x]) → ((∀ fs, d ≠ .struct fs) ∧ ∀ n e', d ≠ .array n e') → (part e xs off).run P w = .ok (sole l) w := by
        rintro ⟨x, rfl⟩ hd
        have hx : xs[off]? = some x := by
          have h1 : (cutV xs.toList off (P.cellsOf e))[0]? = some x := by rw [hl]; rfl
          unfold cutV at h1
          rw [List.getElem?_take] at h1
          split at h1
          · simpa using h1
          · cases h1
        have hag : (isAgg e).run P w = .ok false w := by
          refine isAgg_run ?_ w
          unfold aggOf
          rw [hu]
          cases d <;> first | rfl | exact absurd rfl (hd.1 _) | exact absurd rfl (hd.2 _ _)
        simp [part, hag, hx, sole]
      have wide : (∃ i, P.info? e = some i) → aggOf P e = some true → l.length = P.cellsOf e → (part e xs off).run P w = .ok (.agg l.toArray) w := by
        rintro ⟨i, hi⟩ ha hlen
        have hs : (Go.sizeOf e).run P w = .ok (P.cellsOf e) w := run_sizeOf w hi
        have e1 : xs.extract off (off + P.cellsOf e) = l.toArray := by
          apply Array.toList_inj.1
          rw [← hl]
          unfold cutV
          simp [List.drop_take]
        simp [part, isAgg_run ha, hs, e1]
      simp only [hu] at h
      cases d with
      | struct fs =>
        refine wide (info_of_underlying hu) (by simp [aggOf, hu]) ?_
        rcases h with h | h
        all_goals
          simp only at h
          split at h
          · rename_i h1 h2 h3
            first | exact Nat.eq_of_beq_eq_true h2 | exact Nat.eq_of_beq_eq_true h3
          · cases h
      | array n e' =>
        refine wide (info_of_underlying hu) (by simp [aggOf, hu]) ?_
        rcases h with h | h
        all_goals
          simp only at h
          split at h
          · rename_i h1 h2 h3
            first | exact Nat.eq_of_beq_eq_true h2 | exact Nat.eq_of_beq_eq_true h3
          · cases h
      | _ =>
        refine plain ?_ ⟨by intros; simp, by intros; simp⟩
        rcases h with h | h
        all_goals
          simp only at h
          split at h
          · rename_i h1 h2
            first | exact ⟨_, one_eq h1⟩ | exact ⟨_, one_eq h2⟩
          · cases h
theorem run_eqV {P : Program} {t : TypeId} {d : TypeDesc} {x y : Value} {r : Bool} {n : Nat} (hu : P.underlying t = some d) (h : eqV d x y = some r) (w : World) : (Op.equalIn (n + 1) t x y).run P w = .ok r w := by
  cases d <;> cases x <;> cases y <;> simp only [eqV] at h <;> try (cases h; done)
  · simp only [Option.some.injEq] at h
    subst h
    simp [Op.equalIn, run_underlying hu]
  · rename_i k0 k1 a k2 b
    split at h
    · rename_i hk
      have hk' : k1 = k2 := by unfold kEq at hk; split at hk <;> simp_all
      subst hk'
      simp only [Option.some.injEq] at h
      subst h
      simp [Op.equalIn, run_underlying hu, beqI]
    · cases h
  · simp only [Option.some.injEq] at h
    subst h
    simp [Op.equalIn, run_underlying hu, beqB]
theorem run_eqF {P : Program} {m d : Nat} (IH : ∀ t xs ys r w, eqT P m t xs ys = some r → (Op.equalIn (d + m) t (mkV P t xs) (mkV P t ys)).run P w = .ok r w) (xs ys : Array Value) (w : World) :
    ∀ (fs : List Field) (r : Bool), eqF P (eqT P m) fs xs.toList ys.toList = some r → (Op.eqFields (d + m) xs ys fs).run P w = .ok r w
  | [], r, h => by simp only [eqF, Option.some.injEq] at h; subst h; simp [Op.eqFields]
  | f :: fs, r, h => by
    simp only [eqF] at h
    split at h
    · rename_i a b h1 h2 h3
      simp only [Option.some.injEq] at h
      subst h
      have hn : f.name ≠ "_" := by simpa using h1
      have p1 := part_mk w rfl (Or.inl h2)
      have p2 := part_mk w rfl (Or.inr h2)
      have p3 := IH _ _ _ _ w h2
      have p4 := run_eqF IH xs ys w fs b h3
      simp only [Op.eqFields, hn, ne_eq, not_false_eq_true, if_true, Sem.run_bind, p1, p2, p3, Result.andThen_ok]
      cases a
      · simp
      · simpa using p4
    · cases h
theorem run_eqI {P : Program} {m d : Nat} {e : TypeId} (IH : ∀ t xs ys r w, eqT P m t xs ys = some r → (Op.equalIn (d + m) t (mkV P t xs) (mkV P t ys)).run P w = .ok r w) (xs ys : Array Value) (w : World) :
    ∀ (is : List Nat) (r : Bool), eqI (eqT P m e) (P.cellsOf e) is xs.toList ys.toList = some r → (Op.eqItems (d + m) e (P.cellsOf e) xs ys is).run P w = .ok r w
  | [], r, h => by simp only [eqI, Option.some.injEq] at h; subst h; simp [Op.eqItems]
  | i :: is, r, h => by
    simp only [eqI] at h
    split at h
    · rename_i a b h2 h3
      simp only [Option.some.injEq] at h
      subst h
      have p1 := part_mk w rfl (Or.inl h2)
      have p2 := part_mk w rfl (Or.inr h2)
      have p3 := IH _ _ _ _ w h2
      have p4 := run_eqI IH xs ys w is b h3
      simp only [Op.eqItems, Sem.run_bind, p1, p2, p3, Result.andThen_ok]
      cases a
      · simp
      · simpa using p4
    · cases h
theorem run_eqT {P : Program} (d : Nat) : ∀ (m : Nat) (t : TypeId) (xs ys : List Value) (r : Bool) (w : World), eqT P m t xs ys = some r → (Op.equalIn (d + m) t (mkV P t xs) (mkV P t ys)).run P w = .ok r w
  | 0, _, _, _, _, _, h => by simp [eqT] at h
  | m + 1, t, xs, ys, r, w, h => by
    unfold eqT at h
    unfold mkV
    cases hu : P.underlying t with
    | none => simp [hu] at h
    | some kd =>
      simp only [hu] at h
      cases kd with
      | struct fs =>
        simp only at h ⊢
        split at h
        · rename_i h1 h2 h3
          have hfs : P.fieldsOf t = fs := by simp [Program.fieldsOf, hu]
          rw [show d + (m + 1) = (d + m) + 1 from rfl, run_equalIn_struct w (d + m) t _ _ (by rw [hfs]; exact hu) h1, hfs]
          exact run_eqF (run_eqT d m) _ _ w _ _ h
        · cases h
      | array n e =>
        simp only at h ⊢
        split at h
        · rename_i h1 h2 h3
          obtain ⟨i, hi⟩ := Option.isSome_iff_exists.1 h1
          rw [show d + (m + 1) = (d + m) + 1 from rfl, run_equalIn_array w (d + m) _ _ hu hi]
          exact run_eqI (run_eqT d m) _ _ w _ _ h
        · cases h
      | _ =>
        simp only at h ⊢
        split at h
        · rename_i x y h1 h2
          rw [one_eq h1, one_eq h2]
          exact run_eqV hu h w
        · cases h
section
variable {P : Program} {U : UT} {I : IT} {F : FT} {G : GT} {Q : Exit → Act → World → Prop} {N : Nat} {L : Slots} {s : World} {h : Heap} {ops : Array Oper} {rest : List Oper} {m : Bool} {o : Oper} {d_ : Nat}
def wideT (P : Program) (t : TypeId) : Bool := match P.underlying t with | some (.struct _) => true | some (.array _ _) => true | _ => false
theorem mkV_wide {t : TypeId} (h : wideT P t = true) (cs : List Value) : mkV P t cs = .agg cs.toArray := by
  unfold wideT at h
  unfold mkV
  cases hu : P.underlying t with
  | none => simp [hu] at h
  | some d => cases d <;> simp [hu] at h ⊢
theorem Y_eqAgg {t t2 : Nat} {x y : Operand} {xs ys : List Value} (r : Bool) (ho : o.op = .binOp .eql t x y t2) (hx : ev L x = some (.agg xs.toArray)) (hy : ev L y = some (.agg ys.toArray)) (hok : (wideT P t && !P.eqGuardType P.depth t) = true) (he : eqT P 20 t xs ys = some r) : Y P N L o (.bool r) h := by
  intro a w ha hw
  simp only [Bool.and_eq_true, Bool.not_eq_true'] at hok
  have := run_eqT (P := P) 9980 20 t xs ys r w he
  rw [mkV_wide hok.1, mkV_wide hok.1] at this
  unfold execOp
  simp only [ho, ha.ev hx, ha.ev hy, Sem.run_bind, run_eqGuard_agg w .eql t x y _ _ hok.2, run_eql_struct, this, Result.andThen_ok]
  simp
theorem Y_neqAgg {t t2 : Nat} {x y : Operand} {xs ys : List Value} (r : Bool) (ho : o.op = .binOp .neq t x y t2) (hx : ev L x = some (.agg xs.toArray)) (hy : ev L y = some (.agg ys.toArray)) (hok : (wideT P t && !P.eqGuardType P.depth t) = true) (he : eqT P 20 t xs ys = some r) : Y P N L o (.bool (!r)) h := by
  intro a w ha hw
  simp only [Bool.and_eq_true, Bool.not_eq_true'] at hok
  have := run_eqT (P := P) 9980 20 t xs ys r w he
  rw [mkV_wide hok.1, mkV_wide hok.1] at this
  unfold execOp
  simp only [ho, ha.ev hx, ha.ev hy, Sem.run_bind, run_eqGuard_agg w .neq t x y _ _ hok.2, run_neq_struct, this, Result.andThen_ok]
  simp
theorem WL_eqAgg {t t2 : Nat} {x y : Operand} {xs ys : List Value} (r : Bool) (ho : o.op = .binOp .eql t x y t2) (hx : ev L x = some (.agg xs.toArray)) (hy : ev L y = some (.agg ys.toArray)) (hok : (wideT P t && !P.eqGuardType P.depth t) = true) (he : eqT P 20 t xs ys = some r) (hg : o.guard = none) (hd : o.dst = some d_) (hn : Nat.blt d_ N = true)
    (kk : WL P m ops rest Q N ((d_, .bool r) :: L) s h) : WL P m ops (o :: rest) Q N L s h := WL_y hg hd hn (Y_eqAgg r ho hx hy hok he) kk
theorem WL_neqAgg {t t2 : Nat} {x y : Operand} {xs ys : List Value} (r : Bool) (ho : o.op = .binOp .neq t x y t2) (hx : ev L x = some (.agg xs.toArray)) (hy : ev L y = some (.agg ys.toArray)) (hok : (wideT P t && !P.eqGuardType P.depth t) = true) (he : eqT P 20 t xs ys = some r) (hg : o.guard = none) (hd : o.dst = some d_) (hn : Nat.blt d_ N = true)
    (kk : WL P m ops rest Q N ((d_, .bool (!r)) :: L) s h) : WL P m ops (o :: rest) Q N L s h := WL_y hg hd hn (Y_neqAgg r ho hx hy hok he) kk
theorem run_cmpV {P : Program} {t : TypeId} {d : TypeDesc} {a b : Value} {r : Bool} (n : Nat) (hu : P.underlying t = some d) (h : cmpV d a b = some r) (w : World) : (Op.equalIn (n + 1) t a b).run P w = .ok r w := by
  unfold cmpV at h
  split at h
  all_goals first
    | (simp only [Option.some.injEq] at h; subst h; simp only [Op.equalIn, Sem.run_bind, run_underlying hu, Result.andThen_ok, Sem.run_pure]; done)
    | cases h
theorem cmp_bin {d : TypeDesc} {t : TypeId} {a b : Value} {r : Bool} (h : cmpV d a b = some r) : binOp .eql t a b = (do pure (.bool (← Op.equal t a b))) ∧ binOp .neq t a b = (do pure (.bool (!(← Op.equal t a b)))) := by
  unfold cmpV at h
  split at h
  all_goals first
    | exact ⟨rfl, rfl⟩
    | cases h
def litOK (x y : Operand) (a b : Value) : Bool := match a, b with
  | .nilIface, .nilIface => isLit x || isLit y
  | _, _ => true
theorem cmp_guard {P : Program} {d : TypeDesc} {t : TypeId} {x y : Operand} {a b : Value} {r : Bool} (op : BinOp) (hop : op = .eql ∨ op = .neq) (h : cmpV d a b = some r) (hc : litOK x y a b = true) (w : World) : (eqGuard op t x y a b).run P w = .ok () w := by
  rcases hop with rfl | rfl
  all_goals
    unfold cmpV at h
    split at h
    all_goals first
      | rfl
      | (cases x <;> cases y <;> first | rfl | (simp [litOK, isLit] at hc; done))
      | cases h
/-- a test against nil (or of truths) -/
theorem Y_cmp (hU : AllU P U) {t t2 : Nat} {x y : Operand} {a b : Value} {d : TypeDesc} (r : Bool) (ho : o.op = .binOp .eql t x y t2) (ht : und U t = some d) (hx : ev L x = some a) (hy : ev L y = some b) (hc : litOK x y a b = true) (hr : cmpV d a b = some r) : Y P N L o (.bool r) h := by
  intro f w ha hw
  have h1 := run_cmpV 9999 (hU.at ht) hr w
  unfold execOp
  simp only [ho, ha.ev hx, ha.ev hy, Sem.run_bind, cmp_guard .eql (.inl rfl) hr hc w, (cmp_bin hr).1, Result.andThen_ok]
  unfold Op.equal Op.maxDepth
  simp only [h1, Result.andThen_ok, Sem.run_pure]
theorem Y_cmpN (hU : AllU P U) {t t2 : Nat} {x y : Operand} {a b : Value} {d : TypeDesc} (r : Bool) (ho : o.op = .binOp .neq t x y t2) (ht : und U t = some d) (hx : ev L x = some a) (hy : ev L y = some b) (hc : litOK x y a b = true) (hr : cmpV d a b = some r) : Y P N L o (.bool (!r)) h := by
  intro f w ha hw
  have h1 := run_cmpV 9999 (hU.at ht) hr w
  unfold execOp
  simp only [ho, ha.ev hx, ha.ev hy, Sem.run_bind, cmp_guard .neq (.inr rfl) hr hc w, (cmp_bin hr).2, Result.andThen_ok]
  unfold Op.equal Op.maxDepth
  simp only [h1, Result.andThen_ok, Sem.run_pure]
theorem WL_cmp (hU : AllU P U) {t t2 : Nat} {x y : Operand} {a b : Value} {d : TypeDesc} (r : Bool) (ho : o.op = .binOp .eql t x y t2) (ht : und U t = some d) (hx : ev L x = some a) (hy : ev L y = some b) (hc : litOK x y a b = true) (hr : cmpV d a b = some r) (hg : o.guard = none) (hd : o.dst = some d_) (hn : Nat.blt d_ N = true)
    (kk : WL P m ops rest Q N ((d_, .bool r) :: L) s h) : WL P m ops (o :: rest) Q N L s h := WL_y hg hd hn (Y_cmp hU r ho ht hx hy hc hr) kk
theorem WL_cmpN (hU : AllU P U) {t t2 : Nat} {x y : Operand} {a b : Value} {d : TypeDesc} (r : Bool) (ho : o.op = .binOp .neq t x y t2) (ht : und U t = some d) (hx : ev L x = some a) (hy : ev L y = some b) (hc : litOK x y a b = true) (hr : cmpV d a b = some r) (hg : o.guard = none) (hd : o.dst = some d_) (hn : Nat.blt d_ N = true)
    (kk : WL P m ops rest Q N ((d_, .bool (!r)) :: L) s h) : WL P m ops (o :: rest) Q N L s h := WL_y hg hd hn (Y_cmpN hU r ho ht hx hy hc hr) kk
/-- v, ok := x.(T), T no interface, x of that type -/
theorem WL_assertOk (hU : AllU P U) {xt t : Nat} {x : Operand} {v : Value} {d : TypeDesc} (ho : o.op = .typeAssert x xt t true) (ht : und U t = some d) (hd0 : notIface d = true) (hx : ev L x = some (.iface t v)) (hg : o.guard = none) (hd : o.dst = some d_) (hn : Nat.blt d_ N = true)
    (kk : WL P m ops rest Q N ((d_, .tuple #[v, .bool true]) :: L) s h) : WL P m ops (o :: rest) Q N L s h := by
  refine WL_y hg hd hn (fun a w ha hw => ?_) kk
  have hu := hU.at ht
  unfold execOp
  simp only [ho, ha.ev hx, Instr.typeAssert]
  cases d <;> simp [notIface] at hd0 <;> simp [run_underlying hu]
end
end Go.Proofs.Ytdkigndgdkaoiaa.B
