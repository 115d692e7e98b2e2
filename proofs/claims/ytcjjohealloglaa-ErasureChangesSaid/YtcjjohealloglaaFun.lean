/-
  What each function of the erasure package and of the laws' small helpers answers, in closed form, for enough rounds.
-/
import Derived.Test.YtcjjohealloglaaVal
import Derived.Test.YtcjjohealloglaaEx8
import Derived.Lib.Bytes
namespace Go.Proofs.Ytcjjohealloglaa.Fun
open Go.RowKit Go.Proofs.YtcjjohealloglaaW.PrintWords Go.Proofs.YtcjjohealloglaaW.PrintLast Go.Proofs.Ytcjjohealloglaa.E Go.Proofs.Ytcjjohealloglaa.Gf Go.Proofs.Ytcjjohealloglaa.Val
set_option linter.unusedVariables false

theorem w1 {i : Int} (h0 : -9223372036854775808 ≤ i) (h : i < 9223372036854775807) : wrap64 (i + 1) = i + 1 := by unfold wrap64; omega
theorem wn {i : Nat} (h : i < 9223372036854775807) : wrap64 ((i : Int) + 1) = ((i + 1 : Nat) : Int) := by unfold wrap64; omega

/-! ### equality of bytes, of rows -/
theorem Bytes_l0 (a b : List Int) (hab : a.length = b.length) (ha : a.length ≤ 9223372036854775806) (d : Nat) : ∀ (k i : Nat), i ≤ a.length → a.length - i = d → d < k →
    seamarkref29_Bytes.l0 k a b (i : Int) = some (decide (a.drop i = b.drop i)) := by
  induction d with
  | zero =>
    intro k i h1 hd hk
    obtain ⟨k, rfl⟩ : ∃ q, k = q + 1 := ⟨k - 1, by omega⟩
    simp only [seamarkref29_Bytes.l0]
    rw [if_neg (by omega), List.drop_eq_nil_of_le (by omega), List.drop_eq_nil_of_le (by omega)]; rfl
  | succ d ih =>
    intro k i h1 hd hk
    obtain ⟨k, rfl⟩ : ∃ q, k = q + 1 := ⟨k - 1, by omega⟩
    have hi : i < a.length := by omega
    simp only [seamarkref29_Bytes.l0]
    rw [if_pos (by omega), if_pos (by omega), if_pos (by omega), drop_rd hi, drop_rd (l := b) (by omega)]
    by_cases h2 : rd a (i : Int) = rd b (i : Int)
    · rw [if_pos h2, wn (by omega), ih k (i + 1) (by omega) (by omega) (by omega), h2]; simp
    · rw [if_neg h2]; simp [h2]
theorem Bytes_eq (k : Nat) (a b : List Int) (ha : a.length ≤ 9223372036854775806) (hk : a.length < k) : seamarkref29_Bytes.f k a b = some (decide (a = b)) := by
  unfold seamarkref29_Bytes.f
  by_cases h : (a.length : Int) = (b.length : Int)
  · rw [if_pos h]
    have := Bytes_l0 a b (by omega) ha a.length k 0 (Nat.zero_le _) (by omega) hk
    rwa [List.drop_zero, List.drop_zero] at this
  · rw [if_neg h, decide_eq_false (fun e => h (by rw [e]))]
theorem Same_l0 (a b : List (List Int)) (hab : a.length = b.length) (ha : a.length ≤ 1000000) (m : Nat) (hm : m ≤ 1000000) (hr : ∀ r ∈ a, r.length ≤ m) (d : Nat) : ∀ (k i : Nat), i ≤ a.length → a.length - i = d → d + m + 1 < k →
    seamarkref29_Same.l0 k a b (i : Int) = some (decide (a.drop i = b.drop i)) := by
  induction d with
  | zero =>
    intro k i h1 hd hk
    obtain ⟨k, rfl⟩ : ∃ q, k = q + 1 := ⟨k - 1, by omega⟩
    simp only [seamarkref29_Same.l0]
    rw [if_neg (by omega), List.drop_eq_nil_of_le (by omega), List.drop_eq_nil_of_le (by omega)]; rfl
  | succ d ih =>
    intro k i h1 hd hk
    obtain ⟨k, rfl⟩ : ∃ q, k = q + 1 := ⟨k - 1, by omega⟩
    have hi : i < a.length := by omega
    have hlen : (rd_L1 a (i : Int)).length ≤ m := hr _ (by rw [rd_L1_of hi]; exact List.getElem_mem hi)
    simp only [seamarkref29_Same.l0]
    rw [if_pos (by omega), if_pos (by omega), if_pos (by omega), drop_rd_L1 hi, drop_rd_L1 (l := b) (by omega), Bytes_eq k _ _ (by omega) (by omega)]
    simp only [Option.bind_some, decide_eq_true_eq]
    by_cases h2 : rd_L1 a (i : Int) = rd_L1 b (i : Int)
    · rw [if_pos h2, wn (by omega), ih k (i + 1) (by omega) (by omega) (by omega), h2]; simp
    · rw [if_neg h2]; simp [h2]
theorem Same_eq (k : Nat) (a b : List (List Int)) (ha : a.length ≤ 1000000) {m : Nat} (hm : m ≤ 1000000) (hr : ∀ r ∈ a, r.length ≤ m) (hk : a.length + m + 1 < k) : seamarkref29_Same.f k a b = some (decide (a = b)) := by
  unfold seamarkref29_Same.f
  by_cases h : (a.length : Int) = (b.length : Int)
  · rw [if_pos h]
    have := Same_l0 a b (by omega) ha m hm hr a.length k 0 (Nat.zero_le _) (by omega) (by omega)
    rwa [List.drop_zero, List.drop_zero] at this
  · rw [if_neg h, decide_eq_false (fun e => h (by rw [e]))]
theorem bytes_map_inj : ∀ {a b : List Int}, Bytes a → Bytes b → a.map (fun n => UInt8.ofNat n.toNat) = b.map (fun n => UInt8.ofNat n.toNat) → a = b
  | [], [], _, _, _ => rfl
  | [], _ :: _, _, _, h => by simp at h
  | _ :: _, [], _, _, h => by simp at h
  | x :: a, y :: b, ha, hb, h => by
    simp only [List.map_cons, List.cons.injEq] at h
    have hx := ha x (by simp); have hy := hb y (by simp)
    have e := congrArg UInt8.toNat h.1
    simp only [UInt8.toNat_ofNat'] at e
    have exy : x = y := by omega
    rw [exy, bytes_map_inj (fun z hz => ha z (by simp [hz])) (fun z hz => hb z (by simp [hz])) h.2]
theorem bytes_Equal_eq {a b : List Int} (ha : Bytes a) (hb : Bytes b) : bytes_Equal.f a b = some (decide (a = b)) := by
  unfold bytes_Equal.f
  rw [Lib.strOfNums_toList, Lib.strOfNums_toList]
  by_cases h : a = b
  · rw [h]; simp
  · rw [decide_eq_false h]
    congr 1
    rw [beq_eq_false_iff_ne]
    exact fun e => h (bytes_map_inj ha hb e)

/-! ### the indices from 0 -/
def ints (n : Nat) : List Int := (List.range n).map fun (i : Nat) => (i : Int)
theorem ints_len (n : Nat) : (ints n).length = n := by simp [ints]
theorem ints_rd {n i : Nat} (h : i < n) : rd (ints n) (i : Int) = (i : Int) := by
  rw [rd_of (by rw [ints_len]; exact h)]; simp [ints]
theorem ints_succ (n : Nat) : ints (n + 1) = ints n ++ [(n : Int)] := by simp [ints, List.range_succ]
theorem ints_idx {n : Nat} (h : n ≤ 32) : Idx (ints n) := by
  refine ⟨fun x hx => ?_, ?_⟩
  · obtain ⟨i, hi, rfl⟩ := List.mem_map.1 hx
    have := List.mem_range.1 hi
    exact ⟨by omega, by omega⟩
  · unfold ints
    rw [List.Nodup, List.pairwise_map]
    refine List.Pairwise.imp (R := fun (a b : Nat) => a ≠ b) ?_ List.nodup_range
    intro a b h e
    exact h (by omega)
theorem indices_l0 (n : Nat) (hn : n ≤ 1000) (d : Nat) : ∀ (k i : Nat), i ≤ n → n - i = d → d < k → erasure_indices.l0 k (ints i ++ List.replicate (n - i) 0) (n : Int) (i : Int) = some (ints n) := by
  induction d with
  | zero =>
    intro k i h1 hd hk
    obtain ⟨k, rfl⟩ : ∃ q, k = q + 1 := ⟨k - 1, by omega⟩
    obtain rfl : i = n := by omega
    simp only [erasure_indices.l0]
    rw [if_neg (by omega), Nat.sub_self]; simp
  | succ d ih =>
    intro k i h1 hd hk
    obtain ⟨k, rfl⟩ : ∃ q, k = q + 1 := ⟨k - 1, by omega⟩
    simp only [erasure_indices.l0]
    rw [if_pos (by omega), if_pos (by omega), if_pos (by simp [ints_len]; omega), wn (by omega)]
    have e : (ints i ++ List.replicate (n - i) 0).set (i : Int).toNat (i : Int) = ints (i + 1) ++ List.replicate (n - (i + 1)) 0 := by
      rw [Int.toNat_natCast, List.set_append_right _ _ (by rw [ints_len]; exact Nat.le_refl _), ints_len, Nat.sub_self, ints_succ, List.append_assoc]
      obtain ⟨q, hq⟩ : ∃ q, n - i = q + 1 := ⟨n - i - 1, by omega⟩
      rw [hq, List.replicate_succ, List.set_cons_zero, show n - (i + 1) = q by omega]; rfl
    rw [e]
    exact ih k (i + 1) (by omega) (by omega) (by omega)
theorem indices_eq (k n : Nat) (hn : n ≤ 1000) (hk : n < k) : erasure_indices.f k (n : Int) = some (ints n) := by
  unfold erasure_indices.f
  rw [if_pos (by omega), if_pos (by omega)]
  simp only [Option.bind_some, Int.toNat_natCast, List.length_replicate]
  have := indices_l0 n hn n k 0 (Nat.zero_le _) (by omega) hk
  simpa [ints] using this

/-! ### values -/
theorem valG_of {idx : List Int} {rows : List (List Int)} {n m : Nat} (hr : RowsB rows n m) (hn : idx.length ≤ n) (h0 : 0 < n) (hn2 : n ≤ 1000) (hm : m ≤ 1000) : valG idx rows = true := by
  have h00 := (hr.at h0).1
  have e0 : (rd_L1 rows 0).length = m := h00
  simp only [valG, Bool.and_eq_true, decide_eq_true_eq, List.all_eq_true, e0]
  refine ⟨⟨⟨⟨by rw [hr.1]; exact h0, by rw [hr.1]; exact hn⟩, by omega⟩, by omega⟩, fun r hrm => ?_⟩
  have := hr.2 r hrm
  exact ⟨this.1, fun y hy => this.2 y hy⟩
theorem value_eq {idx : List Int} {rows : List (List Int)} {n m : Nat} (hr : RowsB rows n m) (hn : idx.length ≤ n) (h0 : 0 < n) (hn2 : n ≤ 1000) (hm : m ≤ 1000) (x : Int) : erasure_value.f idx rows x = some (valT idx rows x) := by
  unfold erasure_value.f; rw [if_pos (valG_of hr hn h0 hn2 hm)]
theorem eqlT_of {rows : List (List Int)} {n m : Nat} (hr : RowsB rows n m) (hm : m ≤ 200) : eqlT rows = true := by
  unfold eqlT
  rw [List.all_eq_true]
  intro r hrm
  have h1 := (hr.2 r hrm).1
  have h0 : (rd_L1 rows 0).length = m := by
    have : 0 < rows.length := List.length_pos_of_mem hrm
    have := (hr.at (i := 0) (by rw [hr.1] at this; exact this)).1
    exact this
  rw [h0, h1]; simp; omega
def codeT (l : List (List Int)) (N : Nat) : List (List Int) := (List.range N).map fun (i : Nat) => valT (ints l.length) l (i : Int)
theorem codeT_len (l : List (List Int)) (N : Nat) : (codeT l N).length = N := by simp [codeT]
theorem codeT_rd (l : List (List Int)) {N i : Nat} (h : i < N) : rd_L1 (codeT l N) (i : Int) = valT (ints l.length) l (i : Int) := by
  rw [rd_L1_of (by rw [codeT_len]; exact h)]; simp [codeT]
theorem Code_l0 {l : List (List Int)} {n m : Nat} (hr : RowsB l n m) (h0 : 0 < n) (hn : n ≤ 1000) (hm : m ≤ 1000) (N : Nat) (hN : N ≤ 1000) (d : Nat) : ∀ (k i : Nat), i ≤ N → N - i = d → d < k →
    erasure_Code.l0 k l (ints l.length) (codeT l i) (N : Int) (i : Int) = some (codeT l N, 0) := by
  induction d with
  | zero =>
    intro k i h1 hd hk
    obtain ⟨k, rfl⟩ : ∃ q, k = q + 1 := ⟨k - 1, by omega⟩
    obtain rfl : i = N := by omega
    simp only [erasure_Code.l0]
    rw [if_neg (by omega)]
  | succ d ih =>
    intro k i h1 hd hk
    obtain ⟨k, rfl⟩ : ∃ q, k = q + 1 := ⟨k - 1, by omega⟩
    simp only [erasure_Code.l0]
    rw [if_pos (by omega), value_eq hr (by rw [ints_len, hr.1]; exact Nat.le_refl _) h0 hn hm]
    simp only [Option.bind_some]
    rw [if_pos (by rw [codeT_len]; omega), wn (by omega)]
    have e : codeT l i ++ [valT (ints l.length) l (i : Int)] = codeT l (i + 1) := by simp [codeT, List.range_succ]
    rw [e]
    exact ih k (i + 1) (by omega) (by omega) (by omega)
theorem Code_eq {l : List (List Int)} {n m : Nat} (hr : RowsB l n m) (h0 : 0 < n) (hn : n ≤ 32) (hm : m ≤ 200) (N : Nat) (hN : N ≤ 32) (k : Nat) (hk : 100 ≤ k) : erasure_Code.f k l (N : Int) = some (codeT l N, 0) := by
  have hl := hr.1
  unfold erasure_Code.f
  rw [if_neg (by omega), if_neg (by omega), equal_total l (by omega) k (by omega), eqlT_of hr hm]
  simp only [Option.bind_some, if_true]
  rw [if_neg (by omega), decide_eq_false (by omega)]
  obtain ⟨k, rfl⟩ : ∃ q, k = q + 1 := ⟨k - 1, by omega⟩
  simp only [erasure_Code.j0]
  rw [if_neg (by simp), indices_eq k l.length (by omega) (by omega)]
  simp only [Option.bind_some]
  exact Code_l0 hr h0 (by omega) (by omega) N (by omega) N k 0 (Nat.zero_le _) (by omega) (by omega)
theorem codeT_rows {l : List (List Int)} {n m : Nat} (hr : RowsB l n m) (h0 : 0 < n) (hn : n ≤ 32) (N : Nat) (hN : N ≤ 256) : RowsB (codeT l N) N m := by
  have hl := hr.1
  refine ⟨codeT_len l N, fun r hrm => ?_⟩
  obtain ⟨i, hi, rfl⟩ := List.mem_map.1 hrm
  have hi' := List.mem_range.1 hi
  have hI := ints_idx (n := l.length) (by omega)
  exact ⟨(valT_eq hI (by omega) (by omega) hr (by rw [ints_len]; omega) h0).1, valT_bytes hI (by omega) (by omega) hr (by rw [ints_len]; omega) h0⟩
theorem ext_rd_L1 {a b : List (List Int)} {n : Nat} (ha : a.length = n) (hb : b.length = n) (h : ∀ i, i < n → rd_L1 a (i : Int) = rd_L1 b (i : Int)) : a = b := by
  refine List.ext_getElem (by omega) fun i h1 h2 => ?_
  have := h i (by omega)
  rwa [rd_L1_of h1, rd_L1_of h2] at this
/-- the first pieces are the rows -/
theorem codeT_take {l : List (List Int)} {n m : Nat} (hr : RowsB l n m) (hn : n ≤ 32) {N : Nat} (hN : n ≤ N) : (codeT l N).take n = l := by
  have hl := hr.1
  refine ext_rd_L1 (n := n) (by rw [List.length_take, codeT_len]; omega) hl fun i hi => ?_
  have e : rd_L1 ((codeT l N).take n) (i : Int) = rd_L1 (codeT l N) (i : Int) := by
    rw [rd_L1_of (by rw [List.length_take, codeT_len]; omega), rd_L1_of (by rw [codeT_len]; omega), List.getElem_take]
  rw [e, codeT_rd l (by omega)]
  have hI := ints_idx (n := l.length) (by omega)
  have := valT_node (l := ints l.length) (rows := l) hI (by rw [ints_len, hl]; exact hr) (j := i) (by rw [ints_len]; omega)
  rwa [ints_rd (by omega)] at this
theorem codeT_prefix (l : List (List Int)) {K N : Nat} (h : K ≤ N) : (codeT l N).take K = codeT l K := by
  unfold codeT; rw [← List.map_take, List.take_range, Nat.min_eq_left h]

/-! ### data -/
theorem Few_l0 (l : List (List Int)) (hl : l.length ≤ 8) (d : Nat) : ∀ (k i : Nat), i ≤ l.length → l.length - i = d → d < k → ∃ b, seamarkref29_Few.l0 k l (i : Int) = some b ∧ (b = true → ∀ r ∈ l.drop i, r.length ≤ 24) := by
  induction d with
  | zero =>
    intro k i h1 hd hk
    obtain ⟨k, rfl⟩ : ∃ q, k = q + 1 := ⟨k - 1, by omega⟩
    simp only [seamarkref29_Few.l0]
    rw [if_neg (by omega), List.drop_eq_nil_of_le (by omega)]
    exact ⟨true, rfl, fun _ r hr => by simp at hr⟩
  | succ d ih =>
    intro k i h1 hd hk
    obtain ⟨k, rfl⟩ : ∃ q, k = q + 1 := ⟨k - 1, by omega⟩
    simp only [seamarkref29_Few.l0]
    rw [if_pos (by omega), if_pos (by omega)]
    by_cases h : ((rd_L1 l (i : Int)).length : Int) > 24
    · rw [if_pos h]; exact ⟨false, rfl, fun h => by simp at h⟩
    · rw [if_neg h, wn (by omega), drop_rd_L1 (by omega)]
      obtain ⟨b, e, hb⟩ := ih k (i + 1) (by omega) (by omega) (by omega)
      refine ⟨b, e, fun hbt r hr => ?_⟩
      rcases List.mem_cons.1 hr with rfl | hr
      · omega
      · exact hb hbt r hr
theorem Few_eq (l : List (List Int)) (k : Nat) (hk : 20 ≤ k) : ∃ b, seamarkref29_Few.f k l = some b ∧ (b = true → l.length ≤ 8 ∧ ∀ r ∈ l, r.length ≤ 24) := by
  unfold seamarkref29_Few.f
  by_cases h : (l.length : Int) > 8
  · rw [if_pos h]; exact ⟨false, rfl, fun h => by simp at h⟩
  · rw [if_neg h]
    obtain ⟨b, e, hb⟩ := Few_l0 l (by omega) l.length k 0 (Nat.zero_le _) (by omega) (by omega)
    exact ⟨b, e, fun h => ⟨by omega, by have := hb h; rwa [List.drop_zero] at this⟩⟩
theorem Data_l0 (l : List (List Int)) (hl : l.length ≤ 8) (d : Nat) : ∀ (k i : Nat), i ≤ l.length → l.length - i = d → d < k → ∃ b, seamarkref29_Data.l0 k l (i : Int) = some b ∧ (b = true → ∀ r ∈ l.drop i, r.length = (rd_L1 l 0).length) := by
  induction d with
  | zero =>
    intro k i h1 hd hk
    obtain ⟨k, rfl⟩ : ∃ q, k = q + 1 := ⟨k - 1, by omega⟩
    simp only [seamarkref29_Data.l0]
    rw [if_neg (by omega), List.drop_eq_nil_of_le (by omega)]
    exact ⟨true, rfl, fun _ r hr => by simp at hr⟩
  | succ d ih =>
    intro k i h1 hd hk
    obtain ⟨k, rfl⟩ : ∃ q, k = q + 1 := ⟨k - 1, by omega⟩
    simp only [seamarkref29_Data.l0]
    rw [if_pos (by omega), if_pos (by omega), if_pos (by omega)]
    by_cases h : ((rd_L1 l (i : Int)).length : Int) = ((rd_L1 l 0).length : Int)
    · rw [if_pos h, wn (by omega), drop_rd_L1 (by omega)]
      obtain ⟨b, e, hb⟩ := ih k (i + 1) (by omega) (by omega) (by omega)
      refine ⟨b, e, fun hbt r hr => ?_⟩
      rcases List.mem_cons.1 hr with rfl | hr
      · omega
      · exact hb hbt r hr
    · rw [if_neg h]; exact ⟨false, rfl, fun h => by simp at h⟩
/-- rows of up to 8 rows of up to 24 bytes -/
def Small (l : List (List Int)) : Prop := ∃ n m, 0 < n ∧ n ≤ 8 ∧ m ≤ 24 ∧ RowsB l n m
theorem few_eq (l : List (List Int)) (hr : ∀ r ∈ l, Bytes r) (k : Nat) (hk : 50 ≤ k) : ∃ b, seamarklaw29_few.f k l = some b ∧ (b = true → Small l) := by
  unfold seamarklaw29_few.f
  obtain ⟨b, e, hb⟩ := Few_eq l k (by omega)
  rw [e]; simp only [Option.bind_some]
  cases b with
  | false => exact ⟨false, by simp, fun h => by simp at h⟩
  | true =>
    obtain ⟨h8, h24⟩ := hb rfl
    rw [if_pos rfl]
    unfold seamarkref29_Data.f
    obtain ⟨k, rfl⟩ : ∃ q, k = q + 1 := ⟨k - 1, by omega⟩
    by_cases h0 : (l.length : Int) < 1
    · rw [if_pos h0]; simp only [seamarkref29_Data.j0, if_true, Option.bind_some]; exact ⟨false, rfl, fun h => by simp at h⟩
    · have hm0 : (rd_L1 l 0).length ≤ 24 := h24 _ (by rw [show (0 : Int) = ((0 : Nat) : Int) from rfl, rd_L1_of (by omega)]; exact List.getElem_mem _)
      rw [if_neg h0, if_neg (by omega), if_pos (by omega), decide_eq_false (by omega)]
      simp only [seamarkref29_Data.j0]
      rw [if_neg (by simp)]
      obtain ⟨b, e, hb⟩ := Data_l0 l h8 l.length k 0 (Nat.zero_le _) (by omega) (by omega)
      have e' : seamarkref29_Data.l0 k l 0 = some b := e
      rw [e']; simp only [Option.bind_some]
      refine ⟨b, rfl, fun h => ⟨l.length, (rd_L1 l 0).length, by omega, h8, hm0, rfl, fun r hr2 => ?_⟩⟩
      have := hb h
      rw [List.drop_zero] at this
      exact ⟨this r hr2, hr r hr2⟩

/-! ### given pieces -/
theorem idxT_iff : ∀ (l seen : List Int), idxT seen l = true ↔ (∀ x ∈ l, (0 ≤ x ∧ x < 32) ∧ x ∉ seen) ∧ l.Nodup
  | [], seen => by simp [idxT]
  | a :: l, seen => by
    rw [idxT, Bool.and_eq_true, Bool.and_eq_true, Bool.and_eq_true, idxT_iff l (a :: seen)]
    simp only [decide_eq_true_eq, Bool.not_eq_true', List.mem_cons, not_or, List.nodup_cons]
    constructor
    · rintro ⟨⟨⟨h0, h1⟩, h2⟩, h3, h4⟩
      refine ⟨fun x hx => ?_, fun hm => (h3 a hm).2.1 rfl, h4⟩
      rcases hx with rfl | hx
      · exact ⟨⟨h0, h1⟩, by simpa using h2⟩
      · exact ⟨(h3 x hx).1, (h3 x hx).2.2⟩
    · rintro ⟨h1, h2, h3⟩
      have ha := h1 a (.inl rfl)
      exact ⟨⟨⟨ha.1.1, ha.1.2⟩, by simpa using ha.2⟩, fun x hx => ⟨(h1 x (.inr hx)).1, fun e => h2 (e ▸ hx), (h1 x (.inr hx)).2⟩, h3⟩
theorem idxT_Idx {l : List Int} : idxT [] l = true ↔ Idx l := by
  rw [idxT_iff]; simp [Idx]
theorem given_eq (need : Int) (idx : List Int) (pcs : List (List Int)) (h1 : idx.length ≤ 140737488355328) (h2 : pcs.length ≤ 140737488355328) : erasure_given.f need idx pcs = some (givT need idx pcs) := by
  unfold erasure_given.f; rw [if_pos ⟨h1, h2⟩]
/-- given pieces for a need: L of them, of m bytes -/
structure Given (need : Int) (idx : List Int) (pcs : List (List Int)) (L m : Nat) : Prop where
  lo : 1 ≤ need
  hi : need ≤ 32
  len : idx.length = L
  rows : RowsB pcs L m
  small : m ≤ 200
  idx : Idx idx
theorem Given.giv {need : Int} {idx : List Int} {pcs : List (List Int)} {L m : Nat} (h : Given need idx pcs L m) : givT need idx pcs = true := by
  unfold givT
  rw [decide_eq_true h.lo, decide_eq_true h.hi, decide_eq_true (by rw [h.len, h.rows.1]), eqlT_of h.rows h.small, idxT_Idx.2 h.idx]; rfl
theorem _root_.Go.Proofs.Ytcjjohealloglaa.Val.Idx.le {l : List Int} (h : Idx l) : l.length ≤ 32 := by
  have hs : l.length ≤ (ints 32).length := by
    refine List.Nodup.length_le_of_subset h.2 fun x hx => ?_
    have := h.1 x hx
    obtain ⟨z, rfl⟩ := Int.eq_ofNat_of_zero_le this.1
    exact List.mem_map.2 ⟨z, List.mem_range.2 (by omega), rfl⟩
  rwa [ints_len] at hs
theorem givT_of {need : Int} {idx : List Int} {pcs : List (List Int)} (hb : ∀ r ∈ pcs, Bytes r) (h : givT need idx pcs = true) : ∃ L m, Given need idx pcs L m := by
  unfold givT at h
  simp only [Bool.and_eq_true, decide_eq_true_eq] at h
  obtain ⟨⟨⟨⟨h1, h2⟩, h3⟩, h4⟩, h5⟩ := h
  refine ⟨idx.length, (rd_L1 pcs 0).length, h1, h2, rfl, ⟨h3.symm, fun r hr => ?_⟩, ?_, idxT_Idx.1 h5⟩
  · unfold eqlT at h4
    rw [List.all_eq_true] at h4
    have := h4 r hr
    simp only [Bool.and_eq_true, decide_eq_true_eq] at this
    exact ⟨this.1, hb r hr⟩
  · rcases Nat.eq_zero_or_pos pcs.length with h0 | h0
    · have : pcs = [] := List.length_eq_zero_iff.1 h0
      rw [this]; simp [rd_L1]
    · unfold eqlT at h4
      rw [List.all_eq_true] at h4
      have := h4 (rd_L1 pcs ((0 : Nat) : Int)) (by rw [rd_L1_of h0]; exact List.getElem_mem h0)
      simp only [Bool.and_eq_true, decide_eq_true_eq] at this
      exact this.2
/-- the pieces fit -/
def FitP (n : Nat) (idx : List Int) (pcs : List (List Int)) : Prop := ∀ i, n ≤ i → i < idx.length → valT (idx.take n) (pcs.take n) (rd idx (i : Int)) = rd_L1 pcs (i : Int)
theorem _root_.Go.Proofs.Ytcjjohealloglaa.Val.RowsB.take {rows : List (List Int)} {n m : Nat} (h : RowsB rows n m) {k : Nat} (hk : k ≤ n) : RowsB (rows.take k) k m :=
  ⟨by rw [List.length_take, h.1]; omega, fun r hr => h.2 r (List.mem_of_mem_take hr)⟩
theorem _root_.Go.Proofs.Ytcjjohealloglaa.Val.Idx.take {l : List Int} (h : Idx l) (k : Nat) : Idx (l.take k) := ⟨fun x hx => h.1 x (List.mem_of_mem_take hx), List.Nodup.sublist (List.take_sublist k l) h.2⟩
theorem fit_l0 {n : Nat} {idx : List Int} {pcs : List (List Int)} {L m : Nat} (h : Given (n : Int) idx pcs L m) (d : Nat) : ∀ (k i : Nat), n ≤ i → i ≤ L → L - i = d → d < k →
    ∃ b, erasure_fit.l0 k (n : Int) idx pcs (i : Int) = some b ∧ (b = true ↔ ∀ j, i ≤ j → j < idx.length → valT (idx.take n) (pcs.take n) (rd idx (j : Int)) = rd_L1 pcs (j : Int)) := by
  have hL := h.idx.le
  have h3 := h.len
  induction d with
  | zero =>
    intro k i h0 h1 hd hk
    obtain ⟨k, rfl⟩ : ∃ q, k = q + 1 := ⟨k - 1, by omega⟩
    simp only [erasure_fit.l0]
    rw [if_neg (by omega)]
    exact ⟨true, rfl, by simp; intro j hj hj2; omega⟩
  | succ d ih =>
    intro k i h0 h1 hd hk
    obtain ⟨k, rfl⟩ : ∃ q, k = q + 1 := ⟨k - 1, by omega⟩
    have hi : i < idx.length := by omega
    have hp := h.rows.1
    have hsm := h.small
    have hlo := h.lo
    have hrt : RowsB (pcs.take n) n m := h.rows.take (by omega)
    have hit := h.idx.take n
    have hil : (idx.take n).length = n := by rw [List.length_take]; omega
    have hx := h.idx.at hi
    simp only [erasure_fit.l0]
    rw [if_pos (by omega), if_pos (by omega), if_pos (by omega), if_pos (by omega), if_pos (by omega), Int.toNat_natCast, value_eq hrt (by rw [hil]; exact Nat.le_refl _) (by omega) (by omega) (by omega)]
    simp only [Option.bind_some]
    have hb1 := valT_bytes hit hx.1 (by omega) hrt (by rw [hil]; exact Nat.le_refl _) (by omega)
    have hb2 := (h.rows.at (i := i) (by omega)).2
    rw [if_pos (by omega), bytes_Equal_eq hb1 hb2]
    simp only [Option.bind_some, decide_eq_true_eq]
    by_cases he : valT (idx.take n) (pcs.take n) (rd idx (i : Int)) = rd_L1 pcs (i : Int)
    · rw [if_pos he, wn (by omega)]
      obtain ⟨b, e, hb⟩ := ih k (i + 1) (by omega) (by omega) (by omega) (by omega)
      refine ⟨b, e, hb.trans ⟨fun hh j hj hj2 => ?_, fun hh j hj hj2 => hh j (by omega) hj2⟩⟩
      by_cases e2 : j = i
      · rw [e2]; exact he
      · exact hh j (by omega) hj2
    · rw [if_neg he]
      exact ⟨false, rfl, by simp; exact ⟨i, Nat.le_refl _, hi, he⟩⟩
theorem fit_eq {n : Nat} {idx : List Int} {pcs : List (List Int)} {L m : Nat} (h : Given (n : Int) idx pcs L m) (k : Nat) (hk : 50 ≤ k) : ∃ b, erasure_fit.f k (n : Int) idx pcs = some b ∧ (b = true ↔ FitP n idx pcs) := by
  have hL := h.idx.le
  have h3 := h.len
  unfold erasure_fit.f
  by_cases hn : n ≤ L
  · exact fit_l0 h (L - n) k n (Nat.le_refl _) hn rfl (by omega)
  · obtain ⟨k, rfl⟩ : ∃ q, k = q + 1 := ⟨k - 1, by omega⟩
    simp only [erasure_fit.l0]
    rw [if_neg (by omega)]
    exact ⟨true, rfl, by simp [FitP]; intro i h1 h2; omega⟩
theorem recovered_l0 {n : Nat} {idx : List Int} {pcs : List (List Int)} {L m : Nat} (h : Given (n : Int) idx pcs L m) (hn : n ≤ L) (want : List Int) (hw : want.length ≤ 1000) (d : Nat) : ∀ (k i : Nat), i ≤ want.length → want.length - i = d → d < k →
    erasure_recovered.l0 k (n : Int) idx pcs ((want.take i).map (valT (idx.take n) (pcs.take n))) want (want.length : Int) (i : Int) = some (want.map (valT (idx.take n) (pcs.take n)), 0) := by
  have hL := h.idx.le
  have h3 := h.len
  have hp := h.rows.1
  have hsm := h.small
  have hlo := h.lo
  have hrt : RowsB (pcs.take n) n m := h.rows.take (by omega)
  have hil : (idx.take n).length = n := by rw [List.length_take]; omega
  induction d with
  | zero =>
    intro k i h1 hd hk
    obtain ⟨k, rfl⟩ : ∃ q, k = q + 1 := ⟨k - 1, by omega⟩
    simp only [erasure_recovered.l0]
    rw [if_neg (by omega), show want.take i = want from List.take_of_length_le (by omega)]
  | succ d ih =>
    intro k i h1 hd hk
    obtain ⟨k, rfl⟩ : ∃ q, k = q + 1 := ⟨k - 1, by omega⟩
    have hi : i < want.length := by omega
    simp only [erasure_recovered.l0]
    rw [if_pos (by omega), if_pos (by omega), if_pos (by omega), if_pos (by omega), if_pos (by omega), if_pos (by omega), Int.toNat_natCast, value_eq hrt (by rw [hil]; exact Nat.le_refl _) (by omega) (by omega) (by omega)]
    simp only [Option.bind_some]
    rw [if_pos (by simp; omega), wn (by omega)]
    have e : (want.take i).map (valT (idx.take n) (pcs.take n)) ++ [valT (idx.take n) (pcs.take n) (rd want (i : Int))] = (want.take (i + 1)).map (valT (idx.take n) (pcs.take n)) := by
      rw [List.take_succ_eq_append_getElem hi, List.map_append, rd_of hi]; rfl
    rw [e]
    exact ih k (i + 1) (by omega) (by omega) (by omega)
/-- what is recovered: too few; a lie; the values -/
theorem recovered_few {n : Nat} {idx : List Int} {pcs : List (List Int)} {L m : Nat} (h : Given (n : Int) idx pcs L m) (hn : L < n) (want : List Int) (k : Nat) : erasure_recovered.f k (n : Int) idx pcs want = some ([], 4) := by
  have h3 := h.len
  unfold erasure_recovered.f; rw [if_pos (by omega)]
theorem recovered_eq {n : Nat} {idx : List Int} {pcs : List (List Int)} {L m : Nat} (h : Given (n : Int) idx pcs L m) (hn : n ≤ L) (want : List Int) (hw : want.length ≤ 1000) (k : Nat) (hk : 50 ≤ k) (hk2 : want.length < k) :
    (FitP n idx pcs ∧ erasure_recovered.f k (n : Int) idx pcs want = some (want.map (valT (idx.take n) (pcs.take n)), 0)) ∨ (¬ FitP n idx pcs ∧ erasure_recovered.f k (n : Int) idx pcs want = some ([], 18)) := by
  have h3 := h.len
  unfold erasure_recovered.f
  obtain ⟨b, e, hb⟩ := fit_eq h k hk
  rw [if_neg (by omega), e]
  simp only [Option.bind_some]
  cases b with
  | true => exact .inl ⟨hb.1 rfl, by rw [if_pos rfl]; exact recovered_l0 h hn want hw want.length k 0 (Nat.zero_le _) (by omega) hk2⟩
  | false => exact .inr ⟨fun hf => by have := hb.2 hf; simp at this, by simp⟩
theorem Decode_bad {need size : Int} {idx : List Int} {pcs : List (List Int)} (h1 : idx.length ≤ 1000) (h2 : pcs.length ≤ 1000) (h : givT need idx pcs = false) (k : Nat) : erasure_Decode.f (k + 1) need size idx pcs = some ([], 1) := by
  unfold erasure_Decode.f
  rw [given_eq need idx pcs (by omega) (by omega), h]
  simp only [Option.bind_some]
  rw [if_neg (by simp)]
  simp only [erasure_Decode.j0, if_true]
theorem Decode_size {n : Nat} {size : Int} {idx : List Int} {pcs : List (List Int)} {L m : Nat} (h : Given (n : Int) idx pcs L m) (h0 : 0 < L) (hm : (m : Int) ≠ size) (k : Nat) : erasure_Decode.f (k + 1) (n : Int) size idx pcs = some ([], 1) := by
  have hL := h.idx.le
  have h3 := h.len
  have hp := h.rows.1
  have hm0 : (rd_L1 pcs 0).length = m := (h.rows.at h0).1
  unfold erasure_Decode.f
  rw [given_eq _ idx pcs (by omega) (by omega), h.giv]
  simp only [Option.bind_some, if_true]
  rw [if_pos (by omega), if_pos (by omega), hm0, show ((m : Int) != size) = true by simpa using hm]
  simp only [erasure_Decode.j0, if_true]
theorem Decode_eq {n : Nat} {size : Int} {idx : List Int} {pcs : List (List Int)} {L m : Nat} (h : Given (n : Int) idx pcs L m) (hm : 0 < L → (m : Int) = size) (k : Nat) (hk : 60 ≤ k) :
    erasure_Decode.f (k + 1) (n : Int) size idx pcs = (erasure_recovered.f k (n : Int) idx pcs (ints n)).bind fun bt => some (bt.1, bt.2) := by
  have hL := h.idx.le
  have h3 := h.len
  have hp := h.rows.1
  have hlo := h.lo
  have hhi := h.hi
  unfold erasure_Decode.f
  rw [given_eq _ idx pcs (by omega) (by omega), h.giv]
  simp only [Option.bind_some, if_true]
  have key : erasure_Decode.j0 (k + 1) (n : Int) idx pcs false = (erasure_recovered.f k (n : Int) idx pcs (ints n)).bind fun bt => some (bt.1, bt.2) := by
    simp only [erasure_Decode.j0]
    rw [if_neg (by simp), indices_eq k n (by omega) (by omega)]; rfl
  by_cases h0 : (pcs.length : Int) > 0
  · have h0' : 0 < L := by omega
    have hm0 : (rd_L1 pcs 0).length = m := (h.rows.at h0').1
    rw [if_pos h0, if_pos (by omega), hm0, show ((m : Int) != size) = false by simpa using hm h0']
    exact key
  · rw [if_neg h0]; exact key
theorem Fits_bad {need : Int} {idx : List Int} {pcs : List (List Int)} (h1 : idx.length ≤ 1000) (h2 : pcs.length ≤ 1000) (h : givT need idx pcs = false) (k : Nat) : erasure_Fits.f k need idx pcs = some (false, 1) := by
  unfold erasure_Fits.f
  rw [given_eq need idx pcs (by omega) (by omega), h]; simp
theorem Fits_eq {n : Nat} {idx : List Int} {pcs : List (List Int)} {L m : Nat} (h : Given (n : Int) idx pcs L m) (k : Nat) (hk : 60 ≤ k) : ∃ b, erasure_Fits.f k (n : Int) idx pcs = some (b, 0) ∧ (b = true ↔ FitP n idx pcs) := by
  have hL := h.idx.le
  have h3 := h.len
  have hp := h.rows.1
  obtain ⟨b, e, hb⟩ := fit_eq h k (by omega)
  refine ⟨b, ?_, hb⟩
  unfold erasure_Fits.f
  rw [given_eq _ idx pcs (by omega) (by omega), h.giv]
  simp only [Option.bind_some, if_true]
  rw [e]; rfl
end Go.Proofs.Ytcjjohealloglaa.Fun
