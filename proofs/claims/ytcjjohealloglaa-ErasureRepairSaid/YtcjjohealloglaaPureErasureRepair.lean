/-
  ErasureRepair: from any need of the pieces of data each other piece follows.
-/
import Derived.Test.YtcjjohealloglaaFun
import Derived.Test.YtcjjohealloglaaEx19
namespace Go.Proofs.Ytcjjohealloglaa.Pure
open Go.RowKit Go.Proofs.YtcjjohealloglaaW.PrintWords Go.Proofs.YtcjjohealloglaaW.PrintLast Go.Proofs.Ytcjjohealloglaa.E Go.Proofs.Ytcjjohealloglaa.Gf Go.Proofs.Ytcjjohealloglaa.Val Go.Proofs.Ytcjjohealloglaa.Fun

theorem tmod_nat {a : Int} (h0 : 0 ≤ a) (h : a < 256) (q : Nat) (hq : 0 < q) : ∃ z : Nat, Int.tmod (wrap64 a) (q : Int) = (z : Int) ∧ z < q := by
  obtain ⟨z, rfl⟩ := Int.eq_ofNat_of_zero_le h0
  refine ⟨z % q, ?_, Nat.mod_lt _ hq⟩
  rw [show wrap64 (z : Int) = (z : Int) by unfold wrap64; omega]; rfl
theorem repair (l0 : List (List Int)) (l1 : List Int) (a2 : Int) (h0 : ∀ r ∈ l0, Bytes r) (h1 : Bytes l1) (h1l : l1.length ≤ 140737488355328) (h2 : 0 ≤ a2 ∧ a2 < 256) : ∃ k, seamarklaw29_ErasureRepair.f k l0 l1 a2 = some true := by
  refine ⟨999 + 1, ?_⟩
  unfold seamarklaw29_ErasureRepair.f
  rw [head_ok _ (by omega)]
  obtain ⟨b, e, hb⟩ := few_eq l0 h0 (999 + 1) (by omega)
  rw [e]
  simp only [Option.bind_some]
  cases b with
  | false => rw [if_neg (by simp)]
  | true =>
    obtain ⟨n, m, hn0, hn8, hm, hr⟩ := hb rfl
    obtain rfl := hr.1
    rw [if_pos rfl, show (32 : Int) = ((32 : Nat) : Int) from rfl, Code_eq hr hn0 (by omega) (by omega) 32 (by omega) _ (by omega)]
    simp only [Option.bind_some, codeT_len, if_true, bne_self_eq_false]
    simp only [seamarklaw29_ErasureRepair.j0]
    rw [if_neg (by simp)]
    obtain ⟨idx, ei, hil, hI⟩ := chosen_eq l0.length (by omega) l1 h1 h1l 999 (by omega)
    rw [ei]
    simp only [Option.bind_some]
    have hir : ∀ x ∈ idx, 0 ≤ x ∧ x < ((codeT l0 32).length : Int) := fun x hx => by rw [codeT_len]; exact hI.1 x hx
    rw [some_eq (codeT l0 32) idx (by rw [codeT_len]; omega) hir (by omega) 999 (by omega)]
    simp only [Option.bind_some]
    have hp := pieces_rows hr hn0 (by omega) hI
    have hG : Given ((l0.length : Nat) : Int) idx (idx.map (rd_L1 (codeT l0 32))) l0.length m := ⟨by omega, by omega, hil, by rw [hil] at hp; exact hp, by omega, hI⟩
    obtain ⟨z, hz, hz32⟩ := tmod_nat h2.1 h2.2 32 (by omega)
    have hz' : Int.tmod (wrap64 a2) 32 = (z : Int) := hz
    rw [hz', show (999 : Nat) = 998 + 1 from rfl, Repair_eq hG (by omega) (by omega) 998 (by omega)]
    have hfit : FitP l0.length idx (idx.map (rd_L1 (codeT l0 32))) := fun i h1 h2 => by omega
    rcases recovered_eq hG (Nat.le_refl _) [(z : Int)] (by simp) 998 (by omega) (by simp) with ⟨_, e2⟩ | ⟨hn, _⟩
    · rw [e2]
      have key : rd_L1 ([(z : Int)].map (valT (idx.take l0.length) ((idx.map (rd_L1 (codeT l0 32))).take l0.length))) 0 = rd_L1 (codeT l0 32) (z : Int) := by
        rw [List.take_of_length_le (by omega), List.take_of_length_le (by simp; omega)]
        have hIi := ints_idx (n := l0.length) (by omega)
        show valT idx _ (z : Int) = _
        rw [valT_again (l := ints l0.length) (rows := l0) hIi hI (by rw [ints_len]; exact hil) (by rw [ints_len]; exact hr) hp (by rw [ints_len]; exact hn0) (fun j hj => pieces_rd hI hj) (by omega) (by omega), codeT_rd l0 hz32]
      simp only [Option.bind_some, if_true]
      rw [if_pos (by simp), key]
      simp only [Option.bind_some, if_true]
      rw [if_pos (by omega), if_pos (by rw [codeT_len]; omega), Bytes_eq _ _ _ (by have := ((codeT_rows hr hn0 (by omega) 32 (by omega)).at hz32).1; omega) (by have := ((codeT_rows hr hn0 (by omega) 32 (by omega)).at hz32).1; omega)]
      simp
    · exact absurd hfit hn
theorem ErasureRepair (l0 : List (List Int)) (l1 : List Int) (a2 : Int) (h0 : ∀ r ∈ l0, ∀ n ∈ r, (Lit.int .u8 n).wf = true) (h1 : ∀ n ∈ l1, (Lit.int .u8 n).wf = true) (y1 : l1.length * 1 ≤ 140737488351232) (h2 : (Lit.int .u8 a2).wf = true) : ∃ k, seamarklaw29_ErasureRepair.f k l0 l1 a2 = some true :=
  repair l0 l1 a2 (fun r hr n hn => byte_wf (h0 r hr n hn)) (fun n hn => byte_wf (h1 n hn)) (by omega) (byte_wf h2)
end Go.Proofs.Ytcjjohealloglaa.Pure
