/-
  Repair, in closed form, for enough rounds.
-/
import Derived.Test.YtcjjohealloglaaFun
import Derived.Test.YtcjjohealloglaaEx17
namespace Go.Proofs.Ytcjjohealloglaa.Fun
open Go.RowKit Go.Proofs.YtcjjohealloglaaW.PrintWords Go.Proofs.YtcjjohealloglaaW.PrintLast Go.Proofs.Ytcjjohealloglaa.E Go.Proofs.Ytcjjohealloglaa.Gf Go.Proofs.Ytcjjohealloglaa.Val
set_option linter.unusedVariables false
theorem Repair_bad {need want : Int} {idx : List Int} {pcs : List (List Int)} (h1 : idx.length ≤ 1000) (h2 : pcs.length ≤ 1000) (h : givT need idx pcs = false ∨ want < 0 ∨ want ≥ 32) (k : Nat) : erasure_Repair.f (k + 1) need idx pcs want = some ([], 1) := by
  unfold erasure_Repair.f
  rw [given_eq need idx pcs (by omega) (by omega)]
  simp only [Option.bind_some]
  have key : erasure_Repair.j0 (k + 1) need idx pcs want true = some ([], 1) := by simp only [erasure_Repair.j0, if_true]
  split
  · rename_i hg
    split
    · exact key
    · rename_i hw
      rcases h with h | h | h
      · rw [h] at hg; simp at hg
      · omega
      · rw [decide_eq_true h]; exact key
  · exact key
theorem Repair_eq {n : Nat} {want : Int} {idx : List Int} {pcs : List (List Int)} {L m : Nat} (h : Given (n : Int) idx pcs L m) (hw0 : 0 ≤ want) (hw : want < 32) (k : Nat) (hk : 60 ≤ k) :
    erasure_Repair.f (k + 1) (n : Int) idx pcs want = (erasure_recovered.f k (n : Int) idx pcs [want]).bind fun bt => if bt.2 = 0 then (if 0 < (bt.1.length : Int) then some (rd_L1 bt.1 0, 0) else none) else some ([], bt.2) := by
  have hL := h.idx.le
  have h3 := h.len
  have hp := h.rows.1
  unfold erasure_Repair.f
  rw [given_eq _ idx pcs (by omega) (by omega), h.giv]
  simp only [Option.bind_some, if_true]
  rw [if_neg (by omega), decide_eq_false (by omega)]
  simp only [erasure_Repair.j0]
  rw [if_neg (by simp)]
end Go.Proofs.Ytcjjohealloglaa.Fun
