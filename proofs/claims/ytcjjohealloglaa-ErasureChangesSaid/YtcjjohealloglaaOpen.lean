/-
  A slice of slices of whole numbers that came in, as the printed contracts read it.
-/
import Derived.Test.YtcjjohealloglaaWSized
import Derived.Test.YtcjjohealloglaaEx0
import Derived.Deep.Matrix
import Derived.OpenShut
namespace Go.Proofs.Ytcjjohealloglaa.Open
open Go.ChangeShapes Go.WideShapes Go.Deep Go.RowKit Go.Proofs.YtcjjohealloglaaW.PrintWords
theorem open_C {H : Type} {enc : TypeId × Value → H} {P : Program} {w : World} {base : Nat} {held : Bool} {t e q : TypeId} {k : IntKind} (ht : P.underlying t = some (.slice e)) (he : P.underlying e = some (.slice q)) (hq : P.underlying q = some (.int k))
    (ce : P.cellsOf e = 1) (cq : P.cellsOf q = 1) {a : Option Addr} {len cap : Nat} {d : DataW H} {ps : List MemPlace} (h : DataW.Trod enc P w base (fun _ => true) held t (.slice a len cap) d ps) :
    ∃ l : List (List Int), l.length = len ∧ Kd.C (Kd.slice q (Kd.int k)) w a l.length l ∧ l.length ≤ cap ∧ ∀ r ∈ l, ∀ n ∈ r, (Lit.int k n).wf = true := by
  obtain ⟨fuel, hf⟩ := h
  rcases open_int_rows ht he hq ce cq hf with ⟨hcs, _⟩ | ⟨x, len', cap', A, L, C, Z, hcs, _, hl, hm, _, hrow⟩
  · simp [Value.cells] at hcs
    obtain ⟨rfl, rfl, rfl⟩ := hcs
    exact ⟨[], rfl, ⟨rfl, by simp, fun h => absurd h (by simp)⟩, Nat.le_refl _, by simp⟩
  · simp [Value.cells] at hcs
    obtain ⟨rfl, rfl, rfl⟩ := hcs
    unfold maxLen at hm
    refine ⟨(List.range len).map fun r => (Z r).take (L r), by simp, ?_, by simpa using hl, ?_⟩
    · refine ⟨rfl, by simp; omega, fun h0 => ⟨x, rfl, fun j p hj => ?_⟩⟩
      obtain ⟨hj1, hj2⟩ := List.getElem?_eq_some_iff.1 hj
      simp at hj1 hj2
      obtain ⟨r1, r2, r3, r4, r5, r6, r7⟩ := hrow j (by omega)
      unfold maxLen at r3
      have hlen : ((Z j).take (L j)).length = L j := by rw [List.length_take]; omega
      refine ⟨[.slice (A j) (L j) (C j)], rfl, ⟨A j, C j, by rw [← hj2, hlen], by rw [← hj2, hlen]; exact r2, ?_⟩, fun i u hu => ?_⟩
      · subst hj2
        rw [hlen]
        refine Kd.C_of_reads (d := (0 : Int)) ⟨hlen, by omega, fun hp => ?_⟩
        obtain ⟨a', ha⟩ : ∃ a', A j = some a' := by
          cases hA : A j with
          | none => have := r6 hA; omega
          | some a' => exact ⟨a', rfl⟩
        refine ⟨a', ha, fun c hc => ?_⟩
        rw [(r7 a' ha).2 c (by omega)]
        congr 2
        rw [List.getD_eq_getElem?_getD, List.getD_eq_getElem?_getD, List.getElem?_take_of_lt hc]
      · obtain rfl : i = 0 := by
          rcases i with _ | i
          · rfl
          · simp at hu
        simp at hu
        subst hu
        have hsz : (Kd.slice q (Kd.int k)).sz = 1 := rfl
        rw [hsz, Nat.mul_one, Nat.add_zero]
        exact r1
    · intro r hr n hn
      obtain ⟨j, hj, rfl⟩ := List.mem_map.1 hr
      have := List.mem_range.1 hj
      exact (hrow j (by omega)).2.2.2.2.1 n (List.mem_of_mem_take hn)
end Go.Proofs.Ytcjjohealloglaa.Open
