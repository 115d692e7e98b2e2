/-
  ErasurePieces: the pieces of data fit, all of them and each part of them; the first pieces are the rows, and more pieces begin with the same ones.
-/
import Derived.Test.YtcjjohealloglaaFun
import Derived.Test.YtcjjohealloglaaEx10
namespace Go.Proofs.Ytcjjohealloglaa.Pure
open Go.RowKit Go.Proofs.YtcjjohealloglaaW.PrintWords Go.Proofs.YtcjjohealloglaaW.PrintLast Go.Proofs.Ytcjjohealloglaa.E Go.Proofs.Ytcjjohealloglaa.Gf Go.Proofs.Ytcjjohealloglaa.Val Go.Proofs.Ytcjjohealloglaa.Fun

theorem pieces_tmod {a : Int} (h0 : 0 ≤ a) (h : a < 256) (q : Nat) (hq : 0 < q) : ∃ z : Nat, Int.tmod (wrap64 a) (q : Int) = (z : Int) ∧ z < q := by
  obtain ⟨z, rfl⟩ := Int.eq_ofNat_of_zero_le h0
  refine ⟨z % q, ?_, Nat.mod_lt _ hq⟩
  rw [show wrap64 (z : Int) = (z : Int) by unfold wrap64; omega]; rfl
theorem fit_of_pieces {l : List (List Int)} {m : Nat} (hr : RowsB l l.length m) (h0 : 0 < l.length) (hn : l.length ≤ 32) {idx : List Int} (hI : Idx idx) : FitP l.length idx (idx.map (rd_L1 (codeT l 32))) := by
  intro i h1 h2
  have hIi := ints_idx (n := l.length) hn
  have hIt := hI.take l.length
  have htl : (idx.take l.length).length = l.length := by rw [List.length_take]; omega
  have hx := hI.at h2
  have hp : RowsB ((idx.map (rd_L1 (codeT l 32))).take l.length) (idx.take l.length).length m := by
    rw [htl]; exact (pieces_rows hr h0 hn hI).take (by omega)
  rw [valT_again (l := ints l.length) (rows := l) hIi hIt (by rw [ints_len]; exact htl) (by rw [ints_len]; exact hr) hp (by rw [ints_len]; exact h0) (fun j hj => ?_) hx.1 (by omega), pieces_rd hI h2]
  have hj' : j < l.length := by omega
  rw [← List.map_take, pieces_rd hIt hj]
theorem pieces_end (k : Nat) (hk : 900 ≤ k) (l0 : List (List Int)) (a2 : Int) {m : Nat} (hm : m ≤ 24) (hr : RowsB l0 l0.length m) (h0 : 0 < l0.length) (h8 : l0.length ≤ 8) (z : Nat) (hz : z ≤ 32) (d : Nat) :
    ∀ (i : Nat) (idx : List Int) (j : Nat), i ≤ 32 → 32 - i = d → d + 850 < j → (∀ x ∈ idx, 0 ≤ x ∧ x < (i : Int)) → idx.Nodup → seamarklaw29_ErasurePieces.l0 j l0 a2 true (codeT l0 32) (z : Int) (codeT l0 z) idx (i : Int) = some true := by
  induction d with
  | zero =>
    intro i idx j h1 hd hj hI hN
    obtain ⟨j, rfl⟩ : ∃ q, j = q + 1 := ⟨j - 1, by omega⟩
    obtain rfl : i = 32 := by omega
    have hI' : Idx idx := ⟨hI, hN⟩
    simp only [seamarklaw29_ErasurePieces.l0]
    have hle := hI'.le
    rw [if_neg (by omega), some_eq (codeT l0 32) idx (by rw [codeT_len]; omega) (fun x hx => by rw [codeT_len]; exact hI x hx) (by omega) j (by omega)]
    simp only [Option.bind_some]
    have hG : Given ((l0.length : Nat) : Int) idx (idx.map (rd_L1 (codeT l0 32))) idx.length m := ⟨by omega, by omega, rfl, pieces_rows hr h0 (by omega) hI', by omega, hI'⟩
    obtain ⟨b, e, hb⟩ := Fits_eq hG j (by omega)
    obtain rfl := hb.2 (fit_of_pieces hr h0 (by omega) hI')
    rw [e]
    simp only [Option.bind_some, if_true]
    have hcr := codeT_rows hr h0 (by omega) z (by omega)
    rw [if_pos (by omega), if_pos (by rw [codeT_len]; omega), Int.toNat_natCast, codeT_prefix l0 hz, Same_eq j _ _ (by rw [codeT_len]; omega) (m := 24) (by omega) (fun r hrm => by rw [(hcr.2 r hrm).1]; exact hm) (by rw [codeT_len]; omega)]
    simp only [Option.bind_some, decide_true, if_true]
    rw [if_pos (by omega), if_pos (by rw [codeT_len]; omega), Int.toNat_natCast, codeT_take hr (by omega) (by omega), Same_eq j _ _ (by omega) (m := 24) (by omega) (fun r hrm => by rw [(hr.2 r hrm).1]; exact hm) (by omega)]
    simp
  | succ d ih =>
    intro i idx j h1 hd hj hI hN
    obtain ⟨j, rfl⟩ : ∃ q, j = q + 1 := ⟨j - 1, by omega⟩
    have hle : idx.length ≤ 32 := Idx.le ⟨fun x hx => ⟨(hI x hx).1, by have := (hI x hx).2; omega⟩, hN⟩
    simp only [seamarklaw29_ErasurePieces.l0]
    rw [if_pos (by omega), if_pos (by omega)]
    split
    · rw [if_pos (by omega), wn (by omega)]
      refine ih (i + 1) _ j (by omega) (by omega) (by omega) (fun x hx => ?_) ?_
      · rcases List.mem_append.1 hx with hx | hx
        · have := hI x hx; omega
        · simp at hx; omega
      · rw [List.nodup_append]
        refine ⟨hN, by simp, fun a ha b hb => ?_⟩
        simp at hb
        have := hI a ha
        omega
    · rw [wn (by omega)]
      exact ih (i + 1) _ j (by omega) (by omega) (by omega) (fun x hx => by have := hI x hx; omega) hN
theorem pieces (l0 : List (List Int)) (a1 a2 : Int) (h0 : ∀ r ∈ l0, Bytes r) (h1 : 0 ≤ a1 ∧ a1 < 256) : ∃ k, seamarklaw29_ErasurePieces.f k l0 a1 a2 = some true := by
  refine ⟨999 + 1, ?_⟩
  unfold seamarklaw29_ErasurePieces.f
  rw [head_ok _ (by omega)]
  obtain ⟨b, e, hb⟩ := few_eq l0 h0 (999 + 1) (by omega)
  rw [e]
  simp only [Option.bind_some]
  cases b with
  | false => rw [if_neg (by simp)]
  | true =>
    obtain ⟨n, m, hn0, hn8, hm, hr⟩ := hb rfl
    obtain rfl := hr.1
    obtain ⟨z, hz, hz33⟩ := pieces_tmod h1.1 h1.2 33 (by omega)
    have hz' : Int.tmod (wrap64 a1) 33 = (z : Int) := hz
    rw [if_pos rfl, hz', show (32 : Int) = ((32 : Nat) : Int) from rfl, Code_eq hr hn0 (by omega) (by omega) 32 (by omega) _ (by omega), Code_eq hr hn0 (by omega) (by omega) z (by omega) _ (by omega)]
    simp only [Option.bind_some, codeT_len, if_true, bne_self_eq_false]
    simp only [seamarklaw29_ErasurePieces.j0]
    rw [if_neg (by simp)]
    exact pieces_end 999 (by omega) l0 a2 hm hr hn0 hn8 z (by omega) 32 0 [] 999 (by omega) (by omega) (by omega) (by simp) (by simp)
theorem ErasurePieces (l0 : List (List Int)) (a1 a2 : Int) (h0 : ∀ r ∈ l0, ∀ n ∈ r, (Lit.int .u8 n).wf = true) (h1 : (Lit.int .u8 a1).wf = true) (h2 : (Lit.int .u32 a2).wf = true) : ∃ k, seamarklaw29_ErasurePieces.f k l0 a1 a2 = some true :=
  pieces l0 a1 a2 (fun r hr n hn => byte_wf (h0 r hr n hn)) (byte_wf h1)
end Go.Proofs.Ytcjjohealloglaa.Pure
