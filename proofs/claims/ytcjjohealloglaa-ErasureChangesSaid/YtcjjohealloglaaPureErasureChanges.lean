/-
  ErasureChanges: a changed piece among more than need is seen; two different data have fewer than need pieces in common.
-/
import Derived.Test.YtcjjohealloglaaFunC
import Derived.Test.YtcjjohealloglaaPoly
import Derived.Test.YtcjjohealloglaaEx13a
namespace Go.Proofs.Ytcjjohealloglaa.Pure
open Go.RowKit Go.Proofs.YtcjjohealloglaaW.PrintWords Go.Proofs.YtcjjohealloglaaW.PrintLast Go.Proofs.Ytcjjohealloglaa.E Go.Proofs.Ytcjjohealloglaa.Gf Go.Proofs.Ytcjjohealloglaa.Val Go.Proofs.Ytcjjohealloglaa.Fun Go.Proofs.Ytcjjohealloglaa.Poly
set_option linter.unusedVariables false

theorem tmod_nat2 {a : Int} (h0 : 0 ≤ a) (h : a < 256) (q : Nat) (hq : 0 < q) : ∃ z : Nat, Int.tmod (wrap64 a) (q : Int) = (z : Int) ∧ z < q := by
  obtain ⟨z, rfl⟩ := Int.eq_ofNat_of_zero_le h0
  refine ⟨z % q, ?_, Nat.mod_lt _ hq⟩
  rw [show wrap64 (z : Int) = (z : Int) by unfold wrap64; omega]; rfl
theorem idx_erase {l : List Int} (h : Idx l) (z : Nat) : Idx (l.eraseIdx z) := ⟨fun x hx => h.1 x (List.mem_of_mem_eraseIdx hx), List.Nodup.sublist (List.eraseIdx_sublist l z) h.2⟩
/-- the pieces, one changed -/
def chg (g : List (List Int)) (z1 z2 : Nat) (a : Int) : List (List Int) := g.set z1 ((rd_L1 g (z1 : Int)).set z2 (Go.bits .xor .u8 (rd (rd_L1 g (z1 : Int)) (z2 : Int)) a))
theorem chg_rd {g : List (List Int)} {N m : Nat} (hg : RowsB g N m) {z1 z2 : Nat} (hz1 : z1 < N) (hz2 : z2 < m) {a : Int} (ha : 0 ≤ a ∧ a < 256) {i c : Nat} (hi : i < N) (hc : c < m) :
    toF (rd (rd_L1 (chg g z1 z2 a) (i : Int)) (c : Int)) = if i = z1 ∧ c = z2 then toF (rd (rd_L1 g (i : Int)) (c : Int)) + toF a else toF (rd (rd_L1 g (i : Int)) (c : Int)) := by
  have hl := hg.1
  obtain ⟨h1, h2⟩ := hg.at hz1
  unfold chg
  rw [rd_L1_of (l := g.set z1 _) (by rw [List.length_set]; omega), List.getElem_set]
  by_cases e : z1 = i
  · subst e
    rw [if_pos rfl, rd_of (l := (rd_L1 g (z1 : Int)).set z2 _) (by rw [List.length_set]; omega), List.getElem_set]
    by_cases e2 : z2 = c
    · subst e2
      have hb := h2.at (i := z2) (by omega)
      rw [if_pos rfl, if_pos ⟨rfl, rfl⟩, xor8_toF hb.1 hb.2 ha.1 ha.2, toF_ofF]
    · rw [if_neg e2, if_neg (fun h => e2 h.2.symm), ← rd_of (l := rd_L1 g (z1 : Int)) (by omega)]
  · rw [if_neg e, if_neg (fun h => e h.1.symm), ← rd_L1_of (by omega)]
theorem chg_rows {g : List (List Int)} {N m : Nat} (hg : RowsB g N m) {z1 z2 : Nat} (hz1 : z1 < N) (hz2 : z2 < m) {a : Int} (ha : 0 ≤ a ∧ a < 256) : RowsB (chg g z1 z2 a) N m := by
  obtain ⟨h1, h2⟩ := hg.at hz1
  refine ⟨by unfold chg; rw [List.length_set]; exact hg.1, fun r hr => ?_⟩
  unfold chg at hr
  rcases List.mem_or_eq_of_mem_set hr with hr | rfl
  · exact hg.2 r hr
  · refine ⟨by rw [List.length_set]; exact h1, fun y hy => ?_⟩
    rcases List.mem_or_eq_of_mem_set hy with hy | rfl
    · exact h2 y hy
    · have hb := h2.at (i := z2) (by omega)
      rw [xor8_toF hb.1 hb.2 ha.1 ha.2]; exact ofF_byte _
theorem fit_changed {l0 : List (List Int)} {idx : List Int} {n m N : Nat} (hr : RowsB l0 n m) (h0 : 0 < n) (hn : n ≤ 8) (hm : m ≤ 24) (hI : Idx idx) (hN : idx.length = N) (hnN : n < N) {z1 z2 : Nat} (hz1 : z1 < N) (hz2 : z2 < m) {a : Int} (ha : 0 ≤ a ∧ a < 256) :
    Given (n : Int) idx (chg (idx.map (rd_L1 (codeT l0 32))) z1 z2 a) N m ∧ (FitP n idx (chg (idx.map (rd_L1 (codeT l0 32))) z1 z2 a) ↔ a = 0) := by
  have hl := hr.1
  have hp := pieces_rows hr h0 (by omega) hI
  rw [hN] at hp
  have hg : Given (n : Int) idx (chg (idx.map (rd_L1 (codeT l0 32))) z1 z2 a) N m := ⟨by omega, by omega, hN, chg_rows hp hz1 hz2 ha, by omega, hI⟩
  refine ⟨hg, ?_⟩
  have hv : ∀ i, i < N → ∀ c, c < m → toF (rd (rd_L1 (idx.map (rd_L1 (codeT l0 32))) (i : Int)) (c : Int)) = interp (node (ints l0.length)) n (col l0 c) (toF (rd idx (i : Int))) := by
    intro i hi c hc
    have hx := hI.at (i := i) (by omega)
    rw [pieces_rd hI (by omega), poly_data hr h0 (by omega) hx.1 (by omega) hc]
  rw [fit_poly hg (by omega)]
  constructor
  · rintro ⟨Q, hQ⟩
    have hsame := poly_same (hQ.deg z2 hz2) (interp_deg (node (ints l0.length)) n (col l0 z2)) (idx_erase hI z1) (by rw [List.length_eraseIdx_of_lt (by omega)]; omega) (fun x hx => by
      obtain ⟨j, hj, hne, rfl⟩ := List.mem_eraseIdx_iff_getElem.1 hx
      have h1 := hQ.val j (by omega) z2 hz2
      rw [chg_rd hp hz1 hz2 ha (by omega) hz2, if_neg (fun h => hne h.1), hv j (by omega) z2 hz2, rd_of hj] at h1
      exact h1.symm)
    have h1 := hQ.val z1 hz1 z2 hz2
    rw [chg_rd hp hz1 hz2 ha hz1 hz2, if_pos ⟨rfl, rfl⟩, hv z1 hz1 z2 hz2, hsame] at h1
    generalize interp (node (ints l0.length)) n (col l0 z2) (toF (rd idx (z1 : Int))) = A at h1
    have h2 : toF a = zero := by
      have e : toF a = A + (A + toF a) := by rw [← add_assoc, add_self, zero_add]
      rw [e, h1, add_self]
    exact toF_inj ha.1 ha.2 (by omega) (by omega) h2
  · intro h
    refine ⟨fun c => interp (node (ints l0.length)) n (col l0 c), fun c _ => interp_deg _ _ _, fun i hi c hc => ?_⟩
    rw [chg_rd hp hz1 hz2 ha hi hc, h, toF_zero, add_zero, ite_self, hv i hi c hc]

/-! ### pieces in common -/
def com (x y : List (List Int)) (i : Nat) : Nat := ((List.range i).filter fun (p : Nat) => decide (rd_L1 x (p : Int) = rd_L1 y (p : Int))).length
theorem com_succ (x y : List (List Int)) (i : Nat) : com x y (i + 1) = com x y i + if rd_L1 x (i : Int) = rd_L1 y (i : Int) then 1 else 0 := by
  unfold com
  rw [List.range_succ, List.filter_append, List.length_append]
  by_cases h : rd_L1 x (i : Int) = rd_L1 y (i : Int)
  · rw [if_pos h]; simp [h]
  · rw [if_neg h]; simp [h]
theorem com_le (x y : List (List Int)) (i : Nat) : com x y i ≤ i := by
  unfold com; have := List.length_filter_le (fun (p : Nat) => decide (rd_L1 x (p : Int) = rd_L1 y (p : Int))) (List.range i); rwa [List.length_range] at this
theorem com_lt {x y : List (List Int)} {n : Nat} (hx : RowsB x n 1) (hy : RowsB y n 1) (h0 : 0 < n) (hn : n ≤ 8) {j : Nat} (hj : j < n) (hne : rd (rd_L1 x (j : Int)) 0 ≠ rd (rd_L1 y (j : Int)) 0) : com (codeT x 32) (codeT y 32) 32 < n := by
  by_cases h : com (codeT x 32) (codeT y 32) 32 < n
  · exact h
  · exfalso
    have hlx := hx.1; have hly := hy.1
    obtain ⟨l, hl⟩ : ∃ l, l = ((List.range 32).filter fun (p : Nat) => decide (rd_L1 (codeT x 32) (p : Int) = rd_L1 (codeT y 32) (p : Int))).map fun (p : Nat) => (p : Int) := ⟨_, rfl⟩
    have hI : Idx l := by
      rw [hl]
      refine ⟨fun q hq => ?_, ?_⟩
      · obtain ⟨p, hp, rfl⟩ := List.mem_map.1 hq
        have := List.mem_range.1 (List.mem_filter.1 hp).1
        omega
      · rw [List.Nodup, List.pairwise_map]
        refine List.Pairwise.imp (R := fun (a b : Nat) => a ≠ b) ?_ (List.Nodup.sublist List.filter_sublist List.nodup_range)
        intro a b hab e
        exact hab (by omega)
    have hlen : n ≤ l.length := by rw [hl, List.length_map]; unfold com at h; omega
    have hsame := poly_same (interp_deg (node (ints x.length)) n (col x 0)) (interp_deg (node (ints y.length)) n (col y 0)) hI hlen (fun q hq => by
      rw [hl] at hq
      obtain ⟨p, hp, rfl⟩ := List.mem_map.1 hq
      obtain ⟨hp1, hp2⟩ := List.mem_filter.1 hp
      have hp1 := List.mem_range.1 hp1
      have hp2 := of_decide_eq_true hp2
      rw [codeT_rd x hp1, codeT_rd y hp1] at hp2
      rw [← poly_data hx h0 (by omega) (by omega) (by omega) (c := 0) (by omega), ← poly_data hy h0 (by omega) (by omega) (by omega) (c := 0) (by omega), hp2]) (toF (j : Int))
    have hin : Inj (node (ints n)) n := by have := (ints_idx (n := n) (by omega)).inj; rwa [ints_len] at this
    have hnode : node (ints n) j = toF (j : Int) := by unfold node; rw [ints_rd hj]
    rw [hlx, hly, ← hnode, interp_at hin _ hj, interp_at hin _ hj] at hsame
    obtain ⟨a1, a2⟩ := hx.at hj
    obtain ⟨b1, b2⟩ := hy.at hj
    have c1 := a2.at (i := 0) (by omega)
    have c2 := b2.at (i := 0) (by omega)
    exact hne (toF_inj c1.1 c1.2 c2.1 c2.2 hsame)
theorem ch_l1 (x y : List (List Int)) (n : Nat) (hx : RowsB x 32 1) (hy : y.length = 32) (d : Nat) : ∀ (k i : Nat), i ≤ 32 → 32 - i = d → d + 10 < k →
    seamarklaw29_ErasureChanges.l1 k true (n : Int) x y ((com x y i : Nat) : Int) (i : Int) = some (decide (com x y 32 < n)) := by
  have hlx := hx.1
  induction d with
  | zero =>
    intro k i hi hd hk
    obtain ⟨k, rfl⟩ : ∃ q, k = q + 1 := ⟨k - 1, by omega⟩
    obtain rfl : i = 32 := by omega
    simp only [seamarklaw29_ErasureChanges.l1]
    rw [if_neg (by omega)]
    simp
  | succ d ih =>
    intro k i hi hd hk
    obtain ⟨k, rfl⟩ : ∃ q, k = q + 1 := ⟨k - 1, by omega⟩
    have hr := (hx.at (i := i) (by omega)).1
    have hc := com_le x y i
    simp only [seamarklaw29_ErasureChanges.l1]
    rw [if_pos (by omega), if_pos (by omega), if_pos (by omega), Bytes_eq k _ _ (by omega) (by omega)]
    simp only [Option.bind_some, decide_eq_true_eq]
    have r := ih k (i + 1) (by omega) (by omega) (by omega)
    rw [com_succ] at r
    rw [wn (i := i) (by omega)]
    by_cases h : rd_L1 x (i : Int) = rd_L1 y (i : Int)
    · rw [if_pos h] at r
      rw [if_pos h, wn (by omega)]; exact r
    · rw [if_neg h] at r
      rw [if_neg h]; exact r

/-! ### data of one byte in each row -/
def one (l0 : List (List Int)) (i : Nat) : List (List Int) := (List.range i).map fun (j : Nat) => [rd (rd_L1 l0 (j : Int)) 0]
def two (l6 : List Int) (i : Nat) : List (List Int) := (List.range i).map fun (j : Nat) => [rd l6 (j : Int)]
def dif (l0 : List (List Int)) (l6 : List Int) (i : Nat) : Bool := (List.range i).any fun (j : Nat) => rd (rd_L1 l0 (j : Int)) 0 != rd l6 (j : Int)
theorem one_len (l0 : List (List Int)) (i : Nat) : (one l0 i).length = i := by simp [one]
theorem two_len (l6 : List Int) (i : Nat) : (two l6 i).length = i := by simp [two]
theorem one_rd (l0 : List (List Int)) {i j : Nat} (h : j < i) : rd_L1 (one l0 i) (j : Int) = [rd (rd_L1 l0 (j : Int)) 0] := by rw [rd_L1_of (by rw [one_len]; exact h)]; simp [one]
theorem two_rd (l6 : List Int) {i j : Nat} (h : j < i) : rd_L1 (two l6 i) (j : Int) = [rd l6 (j : Int)] := by rw [rd_L1_of (by rw [two_len]; exact h)]; simp [two]
theorem ch_l0 {l0 : List (List Int)} {n m : Nat} (l6 : List Int) (hr : RowsB l0 n m) (hn : n ≤ 8) (hm : 0 < m) (R : Option Bool) (T : Nat) (hT : T = min n l6.length) (d : Nat) : ∀ (k i : Nat), i ≤ T → T - i = d → d < k →
    (∀ q, k - d - 1 ≤ q → seamarklaw29_ErasureChanges.j4 q true (n : Int) (one l0 T) (two l6 T) (dif l0 l6 T) = R) →
    seamarklaw29_ErasureChanges.l0 k l0 l6 true (n : Int) (one l0 i) (two l6 i) (dif l0 l6 i) (i : Int) = R := by
  have hl := hr.1
  induction d with
  | zero =>
    intro k i hi hd hk hR
    obtain ⟨k, rfl⟩ : ∃ q, k = q + 1 := ⟨k - 1, by omega⟩
    obtain rfl : i = T := by omega
    simp only [seamarklaw29_ErasureChanges.l0]
    by_cases h : (i : Int) < (n : Int)
    · rw [if_pos h, if_neg (by omega)]; exact hR k (by omega)
    · rw [if_neg h]; exact hR k (by omega)
  | succ d ih =>
    intro k i hi hd hk hR
    obtain ⟨k, rfl⟩ : ∃ q, k = q + 1 := ⟨k - 1, by omega⟩
    have h1 := (hr.at (i := i) (by omega)).1
    have r := ih k (i + 1) (by omega) (by omega) (by omega) (fun q hq => hR q (by omega))
    have e1 : one l0 (i + 1) = one l0 i ++ [[rd (rd_L1 l0 (i : Int)) 0]] := by simp [one, List.range_succ]
    have e2 : two l6 (i + 1) = two l6 i ++ [[rd l6 (i : Int)]] := by simp [two, List.range_succ]
    have e3 : dif l0 l6 (i + 1) = (dif l0 l6 i || (rd (rd_L1 l0 (i : Int)) 0 != rd l6 (i : Int))) := by simp [dif, List.range_succ, List.any_append]
    simp only [seamarklaw29_ErasureChanges.l0]
    rw [if_pos (by omega), if_pos (by omega), if_pos (by omega), if_pos (by omega), if_pos (by omega), if_pos (by rw [one_len]; omega)]
    simp only [Option.bind_some]
    rw [if_pos (by rw [two_len]; omega)]
    rw [wn (by omega), ← e1, ← e2]
    cases hd : dif l0 l6 i with
    | true =>
      rw [hd, Bool.true_or] at e3
      rw [e3] at r
      rw [if_pos rfl]; exact r
    | false =>
      rw [hd, Bool.false_or] at e3
      rw [e3] at r
      rw [if_neg (by simp)]; exact r
theorem ch_j4 {l0 : List (List Int)} {n m : Nat} (l6 : List Int) (hr : RowsB l0 n m) (h0 : 0 < n) (hn : n ≤ 8) (hm : 0 < m) (h6 : Bytes l6) (k : Nat) (hk : 500 ≤ k) :
    seamarklaw29_ErasureChanges.j4 k true (n : Int) (one l0 (min n l6.length)) (two l6 (min n l6.length)) (dif l0 l6 (min n l6.length)) = some true := by
  obtain ⟨k, rfl⟩ : ∃ q, k = q + 1 + 1 + 1 := ⟨k - 3, by omega⟩
  have hl := hr.1
  have hj : ∀ x y, seamarklaw29_ErasureChanges.j5 (k + 1 + 1) true (n : Int) x y true = some true := fun x y => by simp only [seamarklaw29_ErasureChanges.j5, if_true]
  simp only [seamarklaw29_ErasureChanges.j4]
  rw [one_len]
  by_cases h : ((min n l6.length : Nat) : Int) < (n : Int)
  · rw [if_pos h]; exact hj _ _
  · rw [if_neg h]
    have hT : min n l6.length = n := by omega
    rw [hT]
    cases hd : dif l0 l6 n with
    | false => exact hj _ _
    | true =>
      unfold dif at hd
      rw [List.any_eq_true] at hd
      obtain ⟨j, hj1, hj2⟩ := hd
      have hj1 := List.mem_range.1 hj1
      have hj2 : rd (rd_L1 l0 (j : Int)) 0 ≠ rd l6 (j : Int) := by simpa using hj2
      have r1 : RowsB (one l0 n) n 1 := by
        refine ⟨one_len _ _, fun r hrm => ?_⟩
        obtain ⟨i, hi, rfl⟩ := List.mem_map.1 hrm
        have hi := List.mem_range.1 hi
        obtain ⟨a1, a2⟩ := hr.at hi
        have hb := a2.at (i := 0) (by omega)
        exact ⟨rfl, fun y hy => by rw [List.mem_singleton.1 hy]; exact hb⟩
      have r2 : RowsB (two l6 n) n 1 := by
        refine ⟨two_len _ _, fun r hrm => ?_⟩
        obtain ⟨i, hi, rfl⟩ := List.mem_map.1 hrm
        have hi := List.mem_range.1 hi
        have hb := h6.at (i := i) (by omega)
        exact ⟨rfl, fun y hy => by rw [List.mem_singleton.1 hy]; exact hb⟩
      simp only [Bool.not_true, seamarklaw29_ErasureChanges.j5]
      rw [if_neg (by simp), show (32 : Int) = ((32 : Nat) : Int) from rfl, Code_eq r1 h0 (by omega) (by omega) 32 (by omega) _ (by omega), Code_eq r2 h0 (by omega) (by omega) 32 (by omega) _ (by omega)]
      simp only [Option.bind_some, if_true, codeT_len, bne_self_eq_false, seamarklaw29_ErasureChanges.j6]
      rw [if_neg (by simp)]
      have hlt := com_lt r1 r2 h0 hn (j := j) hj1 (by rw [one_rd l0 hj1, two_rd l6 hj1]; exact hj2)
      have := ch_l1 (codeT (one l0 n) 32) (codeT (two l6 n) 32) n (codeT_rows r1 h0 (by omega) 32 (by omega)) (codeT_len _ _) 32 k 0 (Nat.zero_le _) (by omega) (by omega)
      rw [decide_eq_true hlt] at this
      exact this
theorem cnt_nat {n y : Nat} (hn : n ≤ 8) (hy : y < 4) : wrap64 (wrap64 ((n : Int) + 1) + (y : Int)) = ((n + 1 + y : Nat) : Int) := by
  rw [wn (by omega)]
  unfold wrap64
  omega
theorem changes (l0 : List (List Int)) (l1 : List Int) (a2 a3 a4 a5 : Int) (l6 : List Int) (h0 : ∀ r ∈ l0, Bytes r) (h1 : Bytes l1) (h1l : l1.length ≤ 140737488355328) (h2 : 0 ≤ a2 ∧ a2 < 256) (h3 : 0 ≤ a3 ∧ a3 < 256) (h4 : 0 ≤ a4 ∧ a4 < 256) (h5 : 0 ≤ a5 ∧ a5 < 256) (h6 : Bytes l6) :
    seamarklaw29_ErasureChanges.f 1003 l0 l1 a2 a3 a4 a5 l6 = some true := by
  have hj : seamarklaw29_ErasureChanges.j0 (1002 + 1) l0 l1 a2 a3 a4 a5 l6 true true = some true := by simp only [seamarklaw29_ErasureChanges.j0, if_true]
  unfold seamarklaw29_ErasureChanges.f
  rw [head_ok _ (by omega)]
  obtain ⟨b, e, hb⟩ := few_eq l0 h0 1003 (by omega)
  rw [e]
  simp only [Option.bind_some]
  cases b with
  | false => rw [if_neg (by simp)]; exact hj
  | true =>
    obtain ⟨n, m, hn0, hn8, hm, hr⟩ := hb rfl
    have hl := hr.1
    rw [if_pos rfl, if_pos (by omega)]
    have hm0 : (rd_L1 l0 0).length = m := (hr.at hn0).1
    rw [hm0]
    by_cases hmz : (m : Int) = 0
    · rw [hmz]; exact hj
    · rw [show ((m : Int) == 0) = false by simpa using hmz]
      have hm1 : 0 < m := by omega
      show seamarklaw29_ErasureChanges.j0 (1002 + 1) l0 l1 a2 a3 a4 a5 l6 true false = some true
      simp only [seamarklaw29_ErasureChanges.j0]
      rw [if_neg (by simp), show (32 : Int) = ((32 : Nat) : Int) from rfl, Code_eq hr hn0 (by omega) (by omega) 32 (by omega) _ (by omega)]
      rw [Option.bind_some, if_pos (show (codeT l0 32, (0 : Int)).2 = 0 from rfl)]
      simp only [codeT_len]
      rw [hl, show (((32 : Nat) : Int) != ((32 : Nat) : Int)) = false from rfl, show (1002 : Nat) = 1001 + 1 from rfl]
      simp only [seamarklaw29_ErasureChanges.j1]
      rw [if_neg (by simp)]
      obtain ⟨y, hy, hy4⟩ := tmod_nat2 h2.1 h2.2 4 (by omega)
      have hy' : Int.tmod (wrap64 a2) 4 = (y : Int) := hy
      rw [hy', cnt_nat hn8 hy4]
      obtain ⟨idx, ei, hil, hI⟩ := chosen_eq (n + 1 + y) (by omega) l1 h1 h1l 1001 (by omega)
      rw [ei]
      simp only [Option.bind_some]
      have hir : ∀ x ∈ idx, 0 ≤ x ∧ x < ((codeT l0 32).length : Int) := fun x hx => by rw [codeT_len]; exact hI.1 x hx
      rw [some_eq (codeT l0 32) idx (by rw [codeT_len]; omega) hir (by omega) 1001 (by omega)]
      simp only [Option.bind_some, List.length_map, hil, List.nil_append, List.length_nil]
      obtain ⟨z1, hz1, hz1l⟩ := tmod_nat2 h3.1 h3.2 (n + 1 + y) (by omega)
      have hp := pieces_rows hr hn0 (by omega) hI
      have hrow := (hp.at (i := z1) (by omega)).1
      obtain ⟨z2, hz2, hz2l⟩ := tmod_nat2 h4.1 h4.2 m hm1
      rw [if_neg (by omega), hz1, if_pos (by omega), if_pos (by omega), hrow, if_pos (by omega), if_pos (by omega), hm0, if_pos rfl, if_neg (by omega), hz2, if_pos (by omega), if_pos (by omega)]
      simp only [Int.toNat_natCast]
      have hch := fit_changed hr hn0 hn8 hm hI hil (by omega) hz1l hz2l h5
      unfold chg at hch
      obtain ⟨hG, hfit⟩ := hch
      generalize (idx.map (rd_L1 (codeT l0 32))).set z1 ((rd_L1 (idx.map (rd_L1 (codeT l0 32))) (z1 : Int)).set z2 (Go.bits .xor .u8 (rd (rd_L1 (idx.map (rd_L1 (codeT l0 32))) (z1 : Int)) (z2 : Int)) a5)) = g at hG hfit ⊢
      obtain ⟨b, eF, hbF⟩ := Fits_eq hG 1001 (by omega)
      rw [eF, show (1001 : Nat) = 1000 + 1 from rfl, Decode_eq hG (fun _ => rfl) 1000 (by omega)]
      have hb5 : b = (a5 == 0) := by rw [Bool.eq_iff_iff, hbF, hfit]; simp
      have hlast : seamarklaw29_ErasureChanges.j2 (1000 + 1) l0 l6 true (n : Int) = some true := by
        simp only [seamarklaw29_ErasureChanges.j2]
        exact ch_l0 l6 hr hn8 hm1 (some true) _ rfl (min n l6.length) 1000 0 (Nat.zero_le _) (by omega) (by omega) (fun q hq => ch_j4 l6 hr hn0 hn8 hm1 h6 q (by omega))
      rcases recovered_eq hG (by omega) (ints n) (by rw [ints_len]; omega) 1000 (by omega) (by rw [ints_len]; omega) with ⟨hf, e2⟩ | ⟨hf, e2⟩
      · have h50 := hfit.1 hf
        rw [e2, hb5]
        simp only [Option.bind_some, if_true, beq_self_eq_true, h50]
        exact hlast
      · have h50 : a5 ≠ 0 := fun h => hf (hfit.2 h)
        rw [e2, hb5]
        simp only [Option.bind_some, if_true, beq_self_eq_true]
        rw [show (a5 != 0) = true by simpa using h50]
        exact hlast
theorem ErasureChanges (l0 : List (List Int)) (l1 : List Int) (a2 a3 a4 a5 : Int) (l6 : List Int) (h0 : ∀ r ∈ l0, ∀ n ∈ r, (Lit.int .u8 n).wf = true) (h1 : ∀ n ∈ l1, (Lit.int .u8 n).wf = true) (y1 : l1.length * 1 ≤ 140737488351232) (h2 : (Lit.int .u8 a2).wf = true) (h3 : (Lit.int .u8 a3).wf = true) (h4 : (Lit.int .u8 a4).wf = true) (h5 : (Lit.int .u8 a5).wf = true)
    (h6 : ∀ n ∈ l6, (Lit.int .u8 n).wf = true) (_ : l6.length * 1 ≤ 140737488351232) : ∃ k, seamarklaw29_ErasureChanges.f k l0 l1 a2 a3 a4 a5 l6 = some true :=
  ⟨1003, changes l0 l1 a2 a3 a4 a5 l6 (fun r hr n hn => byte_wf (h0 r hr n hn)) (fun n hn => byte_wf (h1 n hn)) (by omega) (byte_wf h2) (byte_wf h3) (byte_wf h4) (byte_wf h5) (fun n hn => byte_wf (h6 n hn))⟩
end Go.Proofs.Ytcjjohealloglaa.Pure
