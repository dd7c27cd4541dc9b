/- What an argument holds: taken apart type by type. -/
import Derived.Test.YtdkigndgdkaoiaaSc
import Derived.Test.YtdkigndgdkaoiaaGlue
namespace Go.Proofs.Ytdkigndgdkaoiaa.X
set_option linter.unusedVariables false
set_option linter.unusedSimpArgs false
open Go B
theorem mapM_each {α β : Type} {f : α → Option β} : ∀ {l : List α} {r : List β}, l.mapM f = some r → ∀ x ∈ l, ∃ y, f x = some y
  | [], r, h, x, hx => by cases hx
  | a :: l, r, h, x, hx => by
    rw [List.mapM_cons] at h
    simp only [bind, Option.bind_eq_some_iff, pure, Option.some.injEq] at h
    obtain ⟨y, hy, ys, hys, rfl⟩ := h
    rcases List.mem_cons.1 hx with rfl | hx
    · exact ⟨y, hy⟩
    · exact mapM_each hys x hx
theorem mapM_get {β : Type} {f : Nat → Option β} : ∀ {n : Nat} {r : List β} {k : Nat}, ((List.range n).map (k + ·)).mapM f = some r → r.length = n ∧ ∀ i, i < n → ∃ y, r[i]? = some y ∧ f (k + i) = some y
  | 0, r, k, h => by simp at h; subst h; exact ⟨rfl, fun i hi => by omega⟩
  | n + 1, r, k, h => by
    rw [List.range_succ_eq_map, List.map_cons, List.mapM_cons] at h
    simp only [bind, Option.bind_eq_some_iff, pure, Option.some.injEq] at h
    obtain ⟨y, hy, ys, hys, rfl⟩ := h
    rw [List.map_map] at hys
    have e : ((fun x => k + x) ∘ Nat.succ) = fun x => (k + 1) + x := by funext x; simp; omega
    rw [e] at hys
    obtain ⟨h1, h2⟩ := mapM_get (k := k + 1) hys
    refine ⟨by simp [h1], fun i hi => ?_⟩
    cases i with
    | zero => exact ⟨y, rfl, hy⟩
    | succ i =>
      obtain ⟨z, hz, hf⟩ := h2 i (by omega)
      exact ⟨z, by simpa using hz, by rw [show k + (i + 1) = k + 1 + i by omega]; exact hf⟩
theorem range_add0 (n : Nat) : (List.range n).map (0 + ·) = List.range n := by simp

section
variable {H : Type} {enc : TypeId × Value → H} {P : Program} {w : World}
def Td (enc : TypeId × Value → H) (P : Program) (w : World) (t : TypeId) (cs : List Value) : Prop := ∃ fuel x, DataW.trod enc P w 0 (fun _ => true) true fuel t cs = some x
theorem Td.of {t : TypeId} {v : Value} {d : DataW H} {ps : List MemPlace} (h : DataW.Trod enc P w 0 (fun _ => true) true t v d ps) : Td enc P w t v.cells.toList := by
  obtain ⟨fuel, h⟩ := h
  exact ⟨fuel, _, h⟩
theorem Td.int {t : TypeId} {k : IntKind} {cs : List Value} (hu : P.underlying t = some (.int k)) (h : Td enc P w t cs) : ∃ n, cs = [.int k n] ∧ (Lit.int k n).wf = true := by
  obtain ⟨fuel, x, h⟩ := h
  cases fuel with
  | zero => simp [DataW.trod] at h
  | succ m =>
    unfold DataW.trod at h
    rw [hu] at h
    split at h <;> first | (rename_i h1 _; cases h1; done) | (rename_i h1; cases h1; done) | skip
    all_goals first
      | (rename_i k0 k' n h1
         simp only [Option.some.injEq, TypeDesc.int.injEq] at h1
         subst h1
         split at h
         · rename_i hk
           obtain ⟨rfl, hw⟩ := hk
           exact ⟨n, rfl, hw⟩
         · cases h)
      | (simp at *; done)
      | cases h
theorem Td.str {t : TypeId} {cs : List Value} (hu : P.underlying t = some .string) (h : Td enc P w t cs) : ∃ s, cs = [.string s] ∧ s.size ≤ maxLen := by
  obtain ⟨fuel, x, h⟩ := h
  cases fuel with
  | zero => simp [DataW.trod] at h
  | succ m =>
    unfold DataW.trod at h
    rw [hu] at h
    split at h <;> first | (rename_i h1 _; cases h1; done) | (rename_i h1; cases h1; done) | skip
    all_goals first
      | (rename_i s h1
         split at h
         · rename_i hk; exact ⟨s, rfl, hk⟩
         · cases h)
      | (simp at *; done)
      | cases h
theorem Td.bool {t : TypeId} {cs : List Value} (hu : P.underlying t = some .bool) (h : Td enc P w t cs) : ∃ b, cs = [.bool b] := by
  obtain ⟨fuel, x, h⟩ := h
  cases fuel with
  | zero => simp [DataW.trod] at h
  | succ m =>
    unfold DataW.trod at h
    rw [hu] at h
    split at h <;> first | (rename_i h1 _; cases h1; done) | (rename_i h1; cases h1; done) | skip
    all_goals first
      | (rename_i b h1; exact ⟨b, rfl⟩)
      | (simp at *; done)
      | cases h
theorem Td.struct {t : TypeId} {fs : Array Field} {cs : List Value} (hu : P.underlying t = some (.struct fs)) (h : Td enc P w t cs) : cs.length = P.cellsOf t ∧ ∀ f ∈ fs.toList, Td enc P w f.type ((cs.drop f.offset).take (P.cellsOf f.type)) := by
  obtain ⟨fuel, x, h⟩ := h
  cases fuel with
  | zero => simp [DataW.trod] at h
  | succ m =>
    unfold DataW.trod at h
    rw [hu] at h
    split at h <;> first | (rename_i h1 _; cases h1; done) | (rename_i h1; cases h1; done) | skip
    all_goals first
      | (rename_i fs' h1
         simp only [Option.some.injEq, TypeDesc.struct.injEq] at h1
         subst h1
         split at h
         · rename_i hl
           obtain ⟨r, hr, _⟩ := Option.map_eq_some_iff.1 h
           refine ⟨hl, fun f hf => ?_⟩
           obtain ⟨y, hy⟩ := mapM_each hr f hf
           exact ⟨m, y, hy⟩
         · cases h)
      | (simp at *; done)
      | cases h
theorem Td.arr {t e : TypeId} {n : Nat} {cs : List Value} (hu : P.underlying t = some (.array n e)) (h : Td enc P w t cs) : cs.length = P.cellsOf t ∧ ∀ i, i < n → Td enc P w e ((cs.drop (i * P.cellsOf e)).take (P.cellsOf e)) := by
  obtain ⟨fuel, x, h⟩ := h
  cases fuel with
  | zero => simp [DataW.trod] at h
  | succ m =>
    unfold DataW.trod at h
    rw [hu] at h
    split at h <;> first | (rename_i h1 _; cases h1; done) | (rename_i h1; cases h1; done) | skip
    all_goals first
      | (rename_i n' e' h1
         simp only [Option.some.injEq, TypeDesc.array.injEq] at h1
         obtain ⟨rfl, rfl⟩ := h1
         split at h
         · rename_i hl
           obtain ⟨r, hr, _⟩ := Option.map_eq_some_iff.1 h
           refine ⟨hl, fun i hi => ?_⟩
           obtain ⟨y, hy⟩ := mapM_each hr i (List.mem_range.2 hi)
           exact ⟨m, y, hy⟩
         · cases h)
      | (simp at *; done)
      | cases h
theorem cells_get {base : Nat} {a : Addr} {n : Nat} {cs : List Value} (h : w.cells? base a n = some cs) : cs.length = n ∧ ∀ j v, cs[j]? = some v → w.cell? (a.add j) = some v := by
  unfold World.cells? at h
  split at h
  · have h' : ((List.range n).map (0 + ·)).mapM (fun i => w.cell? (a.add i)) = some cs := by rw [range_add0]; exact h
    obtain ⟨h1, h2⟩ := mapM_get h'
    refine ⟨h1, fun j v hv => ?_⟩
    have hj : j < n := by have := (List.getElem?_eq_some_iff.1 hv).1; omega
    obtain ⟨y, hy, hc⟩ := h2 j hj
    rw [hv] at hy
    injection hy with hy
    rw [hy, ← Nat.zero_add j]; exact hc
  · cases h
theorem flat_get {size : Nat} : ∀ (l : List (List Value)), (∀ x ∈ l, x.length = size) → l.flatten.length = l.length * size ∧ ∀ j v, l.flatten[j]? = some v → ∃ x, l[j / size]? = some x ∧ x[j % size]? = some v
  | [], _ => ⟨by simp, fun j v h => by simp at h⟩
  | x :: l, hl => by
    have hx := hl x List.mem_cons_self
    obtain ⟨h1, h2⟩ := flat_get l (fun y hy => hl y (List.mem_cons_of_mem _ hy))
    refine ⟨by rw [List.flatten_cons, List.length_append, h1, hx, List.length_cons, Nat.succ_mul]; omega, fun j v h => ?_⟩
    rw [List.flatten_cons] at h
    by_cases hj : j < size
    · rw [List.getElem?_append_left (by omega)] at h
      exact ⟨x, by rw [Nat.div_eq_of_lt hj]; rfl, by rw [Nat.mod_eq_of_lt hj]; exact h⟩
    · rw [List.getElem?_append_right (by omega), hx] at h
      obtain ⟨y, hy, hv⟩ := h2 _ _ h
      have hs : 0 < size := by
        rcases Nat.eq_zero_or_pos size with e | e
        · subst e
          have := (List.getElem?_eq_some_iff.1 h).1
          rw [h1] at this
          simp at this
        · exact e
      have e1 : j / size = (j - size) / size + 1 := by rw [← Nat.sub_add_cancel (show size ≤ j by omega), Nat.add_div_right _ hs]; simp
      have e2 : j % size = (j - size) % size := by rw [Nat.mod_eq_sub_mod (by omega)]
      exact ⟨y, by rw [e1]; simpa using hy, by rw [e2]; exact hv⟩
theorem slice_some {e : TypeId} {m len cap : Nat} {a : Addr} {x : DataW H × List MemPlace} (hmax : maxLen = 9223372036854775807)
    (h : (let elemAt := fun i => (w.cells? 0 (a.add (i * P.cellsOf e)) (P.cellsOf e)).bind (DataW.trod enc P w 0 (fun _ => true) true m e);
      if 0 ≤ a.block ∧ len ≤ cap ∧ cap ≤ maxLen then
        ((List.range len).mapM elemAt).bind fun elems =>
          (if true = true then (List.range (cap - len)).mapM fun j => elemAt (len + j) else some []).map fun rest =>
            (DataW.slice (elems.map (·.1)) (rest.map (·.1)), MemPlace.row a ((elems.length + rest.length) * P.cellsOf e) ++ (elems ++ rest).flatMap (·.2))
      else none) = some x) : ∃ (A : Option Addr) (n c : Nat) (xs : List (List Value)), [Value.slice (some a) len cap] = [.slice A n c] ∧ c ≤ maxLen ∧ xs.length = n ∧ (∀ x ∈ xs, x.length = P.cellsOf e ∧ Td enc P w e x) ∧ Reads w.heap (P.cellsOf e) A n c xs.flatten := by
  dsimp only at h
  split at h
  · rename_i hb
    obtain ⟨r, hr, hrest⟩ := Option.bind_eq_some_iff.1 h
    have hr' : ((List.range len).map (0 + ·)).mapM (fun i => (w.cells? 0 (a.add (i * P.cellsOf e)) (P.cellsOf e)).bind (DataW.trod enc P w 0 (fun _ => true) true m e)) = some r := by rw [range_add0]; exact hr
    obtain ⟨h1, h2⟩ := mapM_get hr'
    have h3 : ∀ i, i < len → ∃ cs, w.cells? 0 (a.add (i * P.cellsOf e)) (P.cellsOf e) = some cs ∧ Td enc P w e cs := by
      intro i hi
      obtain ⟨y, _, hy⟩ := h2 i hi
      rw [Nat.zero_add] at hy
      obtain ⟨cs, hc, ht⟩ := Option.bind_eq_some_iff.1 hy
      exact ⟨cs, hc, m, y, ht⟩
    have h4 : ∃ xs : List (List Value), xs.length = len ∧ ∀ i x, xs[i]? = some x → w.cells? 0 (a.add (i * P.cellsOf e)) (P.cellsOf e) = some x ∧ Td enc P w e x := by
      clear h h2 hr hr' h1 hb hrest
      induction len with
      | zero => exact ⟨[], rfl, fun i x hx => by simp at hx⟩
      | succ k ih =>
        obtain ⟨xs, hx1, hx2⟩ := ih (fun i hi => h3 i (by omega))
        obtain ⟨cs, hc1, hc2⟩ := h3 k (by omega)
        refine ⟨xs ++ [cs], by simp [hx1], fun i x hx => ?_⟩
        rw [List.getElem?_append] at hx
        split at hx
        · exact hx2 i x hx
        · rename_i hi
          have : i = k := by
            have := (List.getElem?_eq_some_iff.1 hx).1
            simp at this; omega
          subst this
          rw [hx1, Nat.sub_self] at hx
          simp at hx
          subst hx
          exact ⟨hc1, hc2⟩
    obtain ⟨xs, hx1, hx2⟩ := h4
    have hx3 : ∀ x ∈ xs, x.length = P.cellsOf e ∧ Td enc P w e x := fun x hx => by
      obtain ⟨i, hi, he⟩ := List.getElem_of_mem hx
      have := hx2 i x (by rw [← he]; exact List.getElem?_eq_getElem hi)
      exact ⟨(cells_get this.1).1, this.2⟩
    obtain ⟨f1, f2⟩ := flat_get xs (fun x hx => (hx3 x hx).1)
    refine ⟨some a, len, cap, xs, rfl, hb.2.2, hx1, hx3, ⟨by rw [f1, hx1], hb.2.1, by omega, fun _ => ⟨a, rfl, fun j v hv => ?_⟩⟩⟩
    obtain ⟨x, hx, hv2⟩ := f2 j v hv
    have := (cells_get (hx2 _ x hx).1).2 _ _ hv2
    rw [add_add] at this
    rw [cellH_eq] at this
    rw [show j = j / P.cellsOf e * P.cellsOf e + j % P.cellsOf e by rw [Nat.mul_comm]; exact (Nat.div_add_mod j _).symm]
    exact this
  · cases h
theorem slice_none {e : TypeId} : ∃ (A : Option Addr) (n c : Nat) (xs : List (List Value)), [Value.slice none 0 0] = [.slice A n c] ∧ c ≤ maxLen ∧ xs.length = n ∧ (∀ x ∈ xs, x.length = P.cellsOf e ∧ Td enc P w e x) ∧ Reads w.heap (P.cellsOf e) A n c xs.flatten :=
  ⟨none, 0, 0, [], rfl, Nat.zero_le _, rfl, fun x hx => (by cases hx), Reads.nil _ _⟩
theorem Td.slice {t e : TypeId} {cs : List Value} (hu : P.underlying t = some (.slice e)) (h : Td enc P w t cs) : ∃ (A : Option Addr) (n c : Nat) (xs : List (List Value)), cs = [.slice A n c] ∧ c ≤ maxLen ∧ xs.length = n ∧ (∀ x ∈ xs, x.length = P.cellsOf e ∧ Td enc P w e x) ∧ Reads w.heap (P.cellsOf e) A n c xs.flatten := by
  have hmax : maxLen = 9223372036854775807 := by decide
  obtain ⟨fuel, x, h⟩ := h
  cases fuel with
  | zero => simp [DataW.trod] at h
  | succ m =>
    unfold DataW.trod at h
    rw [hu] at h
    split at h <;> first | (rename_i h1 _; cases h1; done) | (rename_i h1; cases h1; done) | skip
    all_goals first
      | (rename_i e' a len cap h1
         simp only [Option.some.injEq, TypeDesc.slice.injEq] at h1
         subst h1
         exact slice_some hmax h)
      | exact slice_none
      | (simp at *; done)
      | cases h
end
end Go.Proofs.Ytdkigndgdkaoiaa.X
