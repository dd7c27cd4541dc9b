/- When two states are equal, as the program's == says it. -/
import Derived.Test.YtdkigndgdkaoiaaLkey
namespace Go.Proofs.Ytdkigndgdkaoiaa
open Go B X
set_option linter.unusedVariables false
set_option maxRecDepth 8000
def u8Shape (P : Program) (t : Nat) : Bool := match P.underlying t with | some (.int .u8) => (P.info? t).isSome && P.cellsOf t == 1 | _ => false
def arrShape (P : Program) (t e n : Nat) : Bool := match P.underlying t with | some (.array m e') => m == n && e' == e && P.cellsOf t == n && u8Shape P e | _ => false
theorem cutV_one {l : List Value} {i : Nat} {v : Value} (h : l[i]? = some v) : cutV l (i * 1) 1 = [v] := by
  obtain ⟨hlt, he⟩ := List.getElem?_eq_some_iff.1 h
  rw [Nat.mul_one]
  unfold cutV
  rw [List.drop_eq_getElem_cons hlt, he]
  rfl
theorem eqI_ages {eq : List Value → List Value → Option Bool} (heq : ∀ x y : Nat, eq [.int .u8 (x : Int)] [.int .u8 (y : Int)] = some (decide (x = y))) (a b : List Nat) (n : Nat) (ha : a.length = n) (hb : b.length = n) :
    ∀ (is : List Nat), (∀ i ∈ is, i < n) → eqI eq 1 is (ageV a) (ageV b) = some (is.all fun i => decide (a.getD i 0 = b.getD i 0))
  | [], _ => rfl
  | i :: is, h => by
    have hi := h i List.mem_cons_self
    have h1 : (ageV a)[i]? = some (.int .u8 ((a.getD i 0 : Nat) : Int)) := by
      unfold ageV
      rw [List.getElem?_map, List.getElem?_eq_getElem (by omega)]
      simp [List.getD_eq_getElem?_getD, List.getElem?_eq_getElem (show i < a.length by omega)]
    have h2 : (ageV b)[i]? = some (.int .u8 ((b.getD i 0 : Nat) : Int)) := by
      unfold ageV
      rw [List.getElem?_map, List.getElem?_eq_getElem (by omega)]
      simp [List.getD_eq_getElem?_getD, List.getElem?_eq_getElem (show i < b.length by omega)]
    simp only [eqI, cutV_one h1, cutV_one h2, heq, eqI_ages heq a b n ha hb is (fun j hj => h j (List.mem_cons_of_mem _ hj)), List.all_cons]
theorem all_ages (a b : List Nat) (n : Nat) (ha : a.length = n) (hb : b.length = n) : ((List.range n).all fun i => decide (a.getD i 0 = b.getD i 0)) = decide (a = b) := by
  rw [Bool.eq_iff_iff]
  simp only [List.all_eq_true, List.mem_range, decide_eq_true_eq]
  constructor
  · intro h
    apply List.ext_getElem (by omega)
    intro i h1 h2
    have := h i (by omega)
    simpa [List.getD_eq_getElem?_getD, h1, h2] using this
  · rintro rfl i _; rfl
theorem eqT_u8 {P : Program} {t : Nat} (h : u8Shape P t = true) (m x y : Nat) : eqT P (m + 1) t [.int .u8 (x : Int)] [.int .u8 (y : Int)] = some (decide (x = y)) := by
  unfold u8Shape at h
  split at h
  · rename_i hu
    simp only [eqT, hu, one, eqV, kEq, if_true]
    congr 1
    rw [decide_eq_decide]
    omega
  · cases h
theorem eqT_ages {P : Program} {t e n : Nat} (h : arrShape P t e n = true) (m : Nat) (a b : List Nat) (ha : a.length = n) (hb : b.length = n) : eqT P (m + 2) t (ageV a) (ageV b) = some (decide (a = b)) := by
  unfold arrShape at h
  split at h
  · rename_i k e' hu
    simp only [Bool.and_eq_true, beq_iff_eq] at h
    obtain ⟨⟨⟨rfl, rfl⟩, hc⟩, h8⟩ := h
    have h8' := h8
    unfold u8Shape at h8'
    split at h8'
    · simp only [Bool.and_eq_true, beq_iff_eq] at h8'
      rw [eqT]
      simp only [hu, h8'.1, hc, ageV_len, ha, hb, Nat.beq_refl, h8'.2]
      rw [eqI_ages (fun x y => eqT_u8 h8 m x y) a b k ha hb _ (fun i hi => List.mem_range.1 hi), all_ages a b k ha hb]
    · cases h8'
  · cases h
def keyShape (P : Program) (t ts ta e : Nat) : Bool := match P.underlying t with
  | some (.struct ⟨[f1, f2]⟩) => f1.name != "_" && f1.type == ts && f1.offset == 0 && f2.name != "_" && f2.type == ta && f2.offset == 2 && !P.stoodInHeld t && P.cellsOf t == 130 && P.cellsOf ts == 2 && P.cellsOf ta == 128 && arrShape P ta e 128
  | _ => false
theorem set_dec (s t : Set) : (decide ((lo s : Int) = (lo t : Int)) && (decide ((hi s : Int) = (hi t : Int)) && true)) = decide (s = t) := by
  rw [Bool.eq_iff_iff]
  simp only [Bool.and_true, Bool.and_eq_true, decide_eq_true_eq]
  constructor
  · rintro ⟨h1, h2⟩
    exact set_ext (by omega) (by omega)
  · rintro rfl; exact ⟨rfl, rfl⟩
theorem eqT_set (m : Nat) (s t : Set) : eqT Try.prog (m + 2) 37 (setV s) (setV t) = some (decide (s = t)) := by
  rw [← set_dec]
  kernel_rfl
theorem eqT_key (s t : Set) (a b : List Nat) (ha : a.length = 128) (hb : b.length = 128) : eqT Try.prog 20 40 (kV s a) (kV t b) = some (decide (s = t) && (decide (a = b) && true)) := by
  have h : keyShape Try.prog 40 37 38 5 = true := by kernel_rfl
  unfold keyShape at h
  split at h
  · rename_i f1 f2 hu
    simp only [Bool.and_eq_true, beq_iff_eq, Bool.not_eq_true'] at h
    obtain ⟨⟨⟨⟨⟨⟨⟨⟨⟨⟨n1, t1⟩, o1⟩, n2⟩, t2⟩, o2⟩, hs⟩, hc⟩, c1⟩, c2⟩, har⟩ := h
    have e1 : ∀ (s : Set) (a : List Nat), cutV (kV s a) 0 2 = setV s := fun s a => rfl
    have e2 : ∀ (s : Set) (a : List Nat), a.length = 128 → cutV (kV s a) 2 128 = ageV a := fun s a h => by
      unfold cutV kV
      rw [List.drop_left' (by rfl)]
      exact List.take_of_length_le (by rw [ageV_len]; omega)
    rw [eqT]
    simp only [hu, hs, hc, kV_len, ha, hb, Nat.beq_refl, eqF, n1, n2, t1, t2, o1, o2, c1, c2, e1, e2 s a ha, e2 t b hb, eqT_set 17, eqT_ages har 17 a b ha hb]
  · cases h
end Go.Proofs.Ytdkigndgdkaoiaa
