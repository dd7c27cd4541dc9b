import Derived.Test.YtdkigndgdkaoiaaTb
import Derived.Test.YtdkigndgdkaoiaaBf
import Derived.ProofKit
import Derived.OpenShut
import Derived.ShutString
import Derived.ChangeOld
import Derived.Below
namespace Go.Proofs.Ytdkigndgdkaoiaa
open Go B Go.RowKit

def Bytes (l : List Int) : Prop := ∀ x ∈ l, 0 ≤ x ∧ x < 256
def u8s (l : List Int) : List Value := l.map (Value.int .u8)
/-- a slice of bytes that came in, as it is read -/
theorem bytes_read {w : World} {a : Option Addr} {len cap : Nat} {zs : List Int}
    (h : (a = none ∧ len = 0 ∧ cap = 0 ∧ zs = []) ∨ ∃ x, a = some x ∧ len ≤ cap ∧ cap ≤ maxLen ∧ zs.length = cap ∧ (∀ i, i < zs.length → w.cell? (x.add i) = some (.int .u8 (zs.getD i 0))) ∧ ∀ n ∈ zs, (Lit.int .u8 n).wf = true) :
    ∃ xs : List Int, xs.length = len ∧ Bytes xs ∧ Reads w.heap 1 a len cap (u8s xs) := by
  have hm : maxLen = 9223372036854775807 := by decide
  rcases h with ⟨rfl, rfl, rfl, rfl⟩ | ⟨x, rfl, h1, h2, h3, h4, h5⟩
  · exact ⟨[], rfl, by intro x hx; simp at hx, Reads.nil _ _⟩
  · refine ⟨zs.take len, by simp; omega, fun y hy => ?_, ⟨by simp [u8s]; omega, h1, by omega, fun _ => ⟨x, rfl, fun j u hu => ?_⟩⟩⟩
    · have := h5 y (List.mem_of_mem_take hy)
      have := bounds_u8 this
      omega
    · simp only [u8s, List.getElem?_map, Option.map_eq_some_iff] at hu
      obtain ⟨y, hy, rfl⟩ := hu
      rw [List.getElem?_take] at hy
      split at hy
      · have hj : j < zs.length := (List.getElem?_eq_some_iff.1 hy).1
        have := h4 j hj
        rw [List.getD_eq_getElem?_getD, hy] at this
        exact this
      · cases hy
theorem below_of {w w' : World} (hs : Sim w w') (x : Ext w.heap.size w.heap w'.heap) : Below w.heap.size w w' := ⟨hs.os, hs.tape, hs.output, x.size, x.block⟩
/-- a law's contract, as the row wants it -/
theorem law_walk {P : Program} {f : Nat} {args : List Value} {w : World} (h : Tells P f args w.heap (Ret fun v h' => v = .bool true ∧ Ext w.heap.size w.heap h')) :
    Calls P f args.toArray w fun e w' => e = .returned (.bool true) ∧ Below w.heap.size w w' :=
  (h w rfl).mono fun e w' he => by
    obtain ⟨hs, he⟩ := he
    cases e with
    | returned v => obtain ⟨rfl, x⟩ := he; exact ⟨rfl, below_of hs x⟩
    | panicked ch => exact he.elim
    | outgrown => exact he.elim
end Go.Proofs.Ytdkigndgdkaoiaa
