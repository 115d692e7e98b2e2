/-
  ErasureBack: any need of the pieces of data lead back to them, in whatever order they come.
-/
import Derived.Test.YtcjjohealloglaaFun
import Derived.Test.YtcjjohealloglaaEx10
namespace Go.Proofs.Ytcjjohealloglaa.Pure
open Go.RowKit Go.Proofs.YtcjjohealloglaaW.PrintWords Go.Proofs.YtcjjohealloglaaW.PrintLast Go.Proofs.Ytcjjohealloglaa.E Go.Proofs.Ytcjjohealloglaa.Gf Go.Proofs.Ytcjjohealloglaa.Val Go.Proofs.Ytcjjohealloglaa.Fun

theorem back (l0 : List (List Int)) (l1 : List Int) (h0 : ∀ r ∈ l0, Bytes r) (h1 : Bytes l1) (h1l : l1.length ≤ 140737488355328) : ∃ k, seamarklaw29_ErasureBack.f k l0 l1 = some true := by
  refine ⟨999 + 1, ?_⟩
  unfold seamarklaw29_ErasureBack.f
  rw [head_ok _ (by omega)]
  obtain ⟨b, e, hb⟩ := few_eq l0 h0 (999 + 1) (by omega)
  rw [e]
  simp only [Option.bind_some]
  cases b with
  | false => rw [if_neg (by simp)]
  | true =>
    obtain ⟨n, m, hn0, hn8, hm, hr⟩ := hb rfl
    obtain rfl := hr.1
    rw [if_pos rfl, show (32 : Int) = ((32 : Nat) : Int) from rfl, Code_eq hr hn0 (by omega) (by omega) 32 (by omega) _ (by omega)]
    simp only [Option.bind_some, codeT_len, if_true, bne_self_eq_false]
    simp only [seamarklaw29_ErasureBack.j0]
    rw [if_neg (by simp)]
    obtain ⟨idx, ei, hil, hI⟩ := chosen_eq l0.length (by omega) l1 h1 h1l 999 (by omega)
    rw [ei]
    simp only [Option.bind_some]
    have hir : ∀ x ∈ idx, 0 ≤ x ∧ x < ((codeT l0 32).length : Int) := fun x hx => by rw [codeT_len]; exact hI.1 x hx
    rw [if_pos (by omega), some_eq (codeT l0 32) idx (by rw [codeT_len]; omega) hir (by omega) 999 (by omega)]
    simp only [Option.bind_some]
    have hp := pieces_rows hr hn0 (by omega) hI
    have hG : Given ((l0.length : Nat) : Int) idx (idx.map (rd_L1 (codeT l0 32))) l0.length m := ⟨by omega, by omega, hil, by rw [hil] at hp; exact hp, by omega, hI⟩
    have hm0 : (rd_L1 l0 0).length = m := (hr.at hn0).1
    rw [show (999 : Nat) = 998 + 1 from rfl, Decode_eq hG (fun _ => by rw [hm0]) 998 (by omega)]
    have hfit : FitP l0.length idx (idx.map (rd_L1 (codeT l0 32))) := fun i h1 h2 => by omega
    rcases recovered_eq hG (Nat.le_refl _) (ints l0.length) (by rw [ints_len]; omega) 998 (by omega) (by rw [ints_len]; omega) with ⟨_, e2⟩ | ⟨hn, _⟩
    · rw [e2]
      simp only [Option.bind_some, if_true]
      have key : (ints l0.length).map (valT (idx.take l0.length) ((idx.map (rd_L1 (codeT l0 32))).take l0.length)) = l0 := by
        rw [List.take_of_length_le (by omega), List.take_of_length_le (by simp; omega)]
        refine ext_rd_L1 (n := l0.length) (by simp [ints_len]) rfl fun i hi => ?_
        rw [map_rd (α := Int) _ _ (by rw [ints_len]; exact hi), ints_rd hi]
        have hIi := ints_idx (n := l0.length) (by omega)
        rw [valT_again (l := ints l0.length) (rows := l0) hIi hI (by rw [ints_len]; exact hil) (by rw [ints_len]; exact hr) hp (by rw [ints_len]; exact hn0) (fun j hj => pieces_rd hI hj) (by omega) (by omega)]
        have := valT_node (l := ints l0.length) (rows := l0) hIi (by rw [ints_len]; exact hr) (j := i) (by rw [ints_len]; exact hi)
        rwa [ints_rd hi] at this
      rw [key, Same_eq _ l0 l0 (by omega) (m := 24) (by omega) (fun r hrm => by rw [(hr.2 r hrm).1]; exact hm) (by omega)]
      simp
    · exact absurd hfit hn
theorem ErasureBack (l0 : List (List Int)) (l1 : List Int) (h0 : ∀ r ∈ l0, ∀ n ∈ r, (Lit.int .u8 n).wf = true) (h1 : ∀ n ∈ l1, (Lit.int .u8 n).wf = true) (y1 : l1.length * 1 ≤ 140737488351232) : ∃ k, seamarklaw29_ErasureBack.f k l0 l1 = some true :=
  back l0 l1 (fun r hr n hn => byte_wf (h0 r hr n hn)) (fun n hn => byte_wf (h1 n hn)) (by omega)
end Go.Proofs.Ytcjjohealloglaa.Pure
