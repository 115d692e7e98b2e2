/-
  A slice of slices of whole numbers that is read, told by its value: what it leads to lies in blocks that stand.
-/
import Derived.Test.YtcjjohealloglaaOpen
namespace Go.Proofs.Ytcjjohealloglaa.Open
open Go.ChangeShapes Go.WideShapes Go.Deep Go.RowKit Go.Proofs.YtcjjohealloglaaW.PrintWords
theorem C_heap {w W' : World} {q : TypeId} {k : IntKind} {A : Option Addr} {n : Nat} {l : List (List Int)} (h : Kd.C (Kd.slice q (Kd.int k)) w A n l) (hW : ∀ b, b < w.heap.size → W'.heap[b]? = w.heap[b]?) : Kd.C (Kd.slice q (Kd.int k)) W' A n l := by
  have hs : w.heap.size ≤ W'.heap.size := by
    rcases Nat.eq_zero_or_pos w.heap.size with h0 | h0
    · omega
    · have := heap_lt (hW (w.heap.size - 1) (by omega)) (by omega)
      omega
  have hb : Below w.heap.size w { W' with os := w.os, tape := w.tape, output := w.output } := ⟨rfl, rfl, rfl, hs, hW⟩
  have h2 := Kd.C_below h hb
  exact h2
theorem V_of_C {w : World} {e base : Nat} {q : TypeId} {k : IntKind} {A : Option Addr} {c : Nat} {l : List (List Int)} (h : Kd.C (Kd.slice q (Kd.int k)) w A l.length l) (hc : l.length ≤ c) : Kd.V (Kd.slice q (Kd.int k)) e w base (fun _ => True) (.slice A l.length c) l :=
  Kd.V_mk hc (fun _ hW => C_heap h (fun b hb => hW b trivial hb))
end Go.Proofs.Ytcjjohealloglaa.Open
