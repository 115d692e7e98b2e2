/-
  The laws' chosen and some, in closed form, for enough rounds.
-/
import Derived.Test.YtcjjohealloglaaFun
import Derived.Test.YtcjjohealloglaaEx9
namespace Go.Proofs.Ytcjjohealloglaa.Fun
open Go.RowKit Go.Proofs.YtcjjohealloglaaW.PrintWords Go.Proofs.YtcjjohealloglaaW.PrintLast Go.Proofs.Ytcjjohealloglaa.E Go.Proofs.Ytcjjohealloglaa.Gf Go.Proofs.Ytcjjohealloglaa.Val
set_option linter.unusedVariables false
/-! ### chosen, some -/
theorem chosen_l1 (n : Nat) (hn : n ≤ 32) (by_ : List Int) (hb : Bytes by_) (hbl : by_.length ≤ 140737488355328) (d : Nat) : ∀ (k i : Nat) (left out : List Int), i ≤ n → n - i = d → 2 * d + 2 < k → left.length = 32 - i → out.length = i → Idx (out ++ left) →
    ∃ r, seamarklaw29_chosen.l1 k (n : Int) by_ left out (i : Int) = some r ∧ r.length = n ∧ Idx r := by
  induction d with
  | zero =>
    intro k i left out h1 hd hk hl ho hI
    obtain ⟨k, rfl⟩ : ∃ q, k = q + 1 + 1 := ⟨k - 2, by omega⟩
    simp only [seamarklaw29_chosen.l1, seamarklaw29_chosen.j2]
    rw [if_neg (by omega), if_neg (by simp)]
    exact ⟨out, rfl, by omega, fun x hx => hI.1 x (by simp [hx]), (List.nodup_append.1 hI.2).1⟩
  | succ d ih =>
    intro k i left out h1 hd hk hl ho hI
    obtain ⟨k, rfl⟩ : ∃ q, k = q + 1 + 1 := ⟨k - 2, by omega⟩
    have step : ∀ j : Nat, j < left.length → ∃ r, seamarklaw29_chosen.l1 k (n : Int) by_ (left.eraseIdx j) (out ++ [rd left (j : Int)]) (wrap64 ((i : Int) + 1)) = some r ∧ r.length = n ∧ Idx r := by
      intro j hj
      rw [wn (by omega)]
      refine ih k (i + 1) _ _ (by omega) (by omega) (by omega) (by rw [List.length_eraseIdx_of_lt hj]; omega) (by simp [ho]) ?_
      have hp : (out ++ [rd left (j : Int)] ++ left.eraseIdx j).Perm (out ++ left) := by
        rw [List.append_assoc, rd_of hj]
        refine List.Perm.append_left out ?_
        rw [List.eraseIdx_eq_take_drop_succ]
        have e : left.take j ++ left[j] :: left.drop (j + 1) = left := by rw [← List.drop_eq_getElem_cons hj, List.take_append_drop]
        show (left[j] :: (left.take j ++ left.drop (j + 1))).Perm left
        exact (List.perm_middle (l₁ := left.take j)).symm.trans (by rw [e])
      exact ⟨fun x hx => hI.1 x (hp.mem_iff.1 hx), hp.nodup_iff.2 hI.2⟩
    simp only [seamarklaw29_chosen.l1]
    rw [if_pos (by omega), decide_eq_true (by omega)]
    simp only [seamarklaw29_chosen.j2, if_true]
    by_cases hlt : (i : Int) < (by_.length : Int)
    · have hby := hb.at (i := i) (by omega)
      have hw : wrap64 (rd by_ (i : Int)) = rd by_ (i : Int) := by unfold wrap64; omega
      obtain ⟨z, hz⟩ := Int.eq_ofNat_of_zero_le hby.1
      have hq : Int.tmod (wrap64 (rd by_ (i : Int))) (left.length : Int) = ((z % left.length : Nat) : Int) := by rw [hw, hz]; rfl
      have hj : z % left.length < left.length := Nat.mod_lt _ (by omega)
      rw [if_pos hlt, if_pos (by omega), if_neg (by omega), hq, if_pos (by omega), if_pos (by omega), if_pos (by rw [ho]; omega), if_pos (by omega), wn (by omega), if_pos (by omega), if_pos (by omega)]
      rw [Int.toNat_natCast]
      exact step _ hj
    · rw [if_neg hlt, if_pos (by omega), if_pos (by rw [ho]; omega), if_pos (by omega), if_pos (by omega)]
      exact step 0 (by omega)
theorem chosen_l0 (n : Nat) (hn : n ≤ 32) (by_ : List Int) (hb : Bytes by_) (hbl : by_.length ≤ 140737488355328) (d : Nat) : ∀ (k i : Nat), i ≤ 32 → 32 - i = d → d + 70 < k →
    ∃ r, seamarklaw29_chosen.l0 k (n : Int) 32 by_ (ints i) (i : Int) = some r ∧ r.length = n ∧ Idx r := by
  induction d with
  | zero =>
    intro k i h1 hd hk
    obtain ⟨k, rfl⟩ : ∃ q, k = q + 1 := ⟨k - 1, by omega⟩
    obtain rfl : i = 32 := by omega
    simp only [seamarklaw29_chosen.l0]
    rw [if_neg (by omega)]
    exact chosen_l1 n hn by_ hb hbl n k 0 (ints 32) [] (Nat.zero_le _) (by omega) (by omega) (by rw [ints_len]) rfl (ints_idx (Nat.le_refl _))
  | succ d ih =>
    intro k i h1 hd hk
    obtain ⟨k, rfl⟩ : ∃ q, k = q + 1 := ⟨k - 1, by omega⟩
    simp only [seamarklaw29_chosen.l0]
    rw [if_pos (by omega), if_pos (by rw [ints_len]; omega), wn (by omega), ← ints_succ]
    exact ih k (i + 1) (by omega) (by omega) (by omega)
theorem chosen_eq (n : Nat) (hn : n ≤ 32) (by_ : List Int) (hb : Bytes by_) (hbl : by_.length ≤ 140737488355328) (k : Nat) (hk : 200 ≤ k) :
    ∃ r, seamarklaw29_chosen.f k (n : Int) 32 by_ = some r ∧ r.length = n ∧ Idx r :=
  chosen_l0 n hn by_ hb hbl 32 k 0 (by omega) (by omega) (by omega)
theorem some_l0 (pcs : List (List Int)) (idx : List Int) (hp : pcs.length ≤ 1000) (hi : ∀ x ∈ idx, 0 ≤ x ∧ x < (pcs.length : Int)) (hl : idx.length ≤ 1000) (d : Nat) : ∀ (k i : Nat), i ≤ idx.length → idx.length - i = d → d < k →
    seamarklaw29_some.l0 k pcs idx ((idx.take i).map (rd_L1 pcs)) (i : Int) = some (idx.map (rd_L1 pcs)) := by
  induction d with
  | zero =>
    intro k i h1 hd hk
    obtain ⟨k, rfl⟩ : ∃ q, k = q + 1 := ⟨k - 1, by omega⟩
    simp only [seamarklaw29_some.l0]
    rw [if_neg (by omega), List.take_of_length_le (by omega)]
  | succ d ih =>
    intro k i h1 hd hk
    obtain ⟨k, rfl⟩ : ∃ q, k = q + 1 := ⟨k - 1, by omega⟩
    have hlt : i < idx.length := by omega
    have hx := hi (rd idx (i : Int)) (by rw [rd_of hlt]; exact List.getElem_mem hlt)
    simp only [seamarklaw29_some.l0]
    rw [if_pos (by omega), if_pos (by omega), if_pos hx.1, if_pos hx.2, if_pos (by simp; omega), wn (by omega)]
    have e : (idx.take i).map (rd_L1 pcs) ++ [rd_L1 pcs (rd idx (i : Int))] = (idx.take (i + 1)).map (rd_L1 pcs) := by
      rw [List.take_succ_eq_append_getElem hlt, List.map_append, rd_of hlt]; rfl
    rw [e]
    exact ih k (i + 1) (by omega) (by omega) (by omega)
theorem some_eq (pcs : List (List Int)) (idx : List Int) (hp : pcs.length ≤ 1000) (hi : ∀ x ∈ idx, 0 ≤ x ∧ x < (pcs.length : Int)) (hl : idx.length ≤ 1000) (k : Nat) (hk : idx.length < k) :
    seamarklaw29_some.f k pcs idx = some (idx.map (rd_L1 pcs)) := some_l0 pcs idx hp hi hl idx.length k 0 (Nat.zero_le _) (by omega) hk
theorem map_rd {α : Type} (f : Int → List Int) (idx : List Int) {i : Nat} (h : i < idx.length) : rd_L1 (idx.map f) (i : Int) = f (rd idx (i : Int)) := by
  rw [rd_L1_of (by simpa using h), rd_of h]; simp
/-- pieces of data at some indices -/
theorem pieces_rows {l : List (List Int)} {n m : Nat} (hr : RowsB l n m) (h0 : 0 < n) (hn : n ≤ 32) {idx : List Int} (hi : Idx idx) : RowsB (idx.map (rd_L1 (codeT l 32))) idx.length m := by
  refine ⟨by simp, fun r hrm => ?_⟩
  obtain ⟨x, hx, rfl⟩ := List.mem_map.1 hrm
  have := hi.1 x hx
  obtain ⟨z, rfl⟩ := Int.eq_ofNat_of_zero_le this.1
  exact (codeT_rows hr h0 hn 32 (by omega)).at (by omega)
theorem pieces_rd {l : List (List Int)} {idx : List Int} (hi : Idx idx) {i : Nat} (h : i < idx.length) : rd_L1 (idx.map (rd_L1 (codeT l 32))) (i : Int) = valT (ints l.length) l (rd idx (i : Int)) := by
  rw [map_rd (α := Int) _ idx h]
  have := hi.at h
  obtain ⟨z, hz⟩ := Int.eq_ofNat_of_zero_le this.1
  rw [hz, codeT_rd l (by omega)]

end Go.Proofs.Ytcjjohealloglaa.Fun
