/-
  ErasureLinear: the pieces of the sum of data are the sums of the pieces; data of zeros have pieces of zeros.
-/
import Derived.Test.YtcjjohealloglaaFun
import Derived.Test.YtcjjohealloglaaEx12
namespace Go.Proofs.Ytcjjohealloglaa.Pure
open Go.RowKit Go.Proofs.YtcjjohealloglaaW.PrintWords Go.Proofs.YtcjjohealloglaaW.PrintLast Go.Proofs.Ytcjjohealloglaa.E Go.Proofs.Ytcjjohealloglaa.Gf Go.Proofs.Ytcjjohealloglaa.Val Go.Proofs.Ytcjjohealloglaa.Fun

def sumR (r s : List Int) (c : Nat) : List Int := (List.range c).map fun (i : Nat) => Go.bits .xor .u8 (rd r (i : Int)) (rd s (i : Int))
def sumT (a b : List (List Int)) (n : Nat) : List (List Int) := (List.range n).map fun (i : Nat) => sumR (rd_L1 a (i : Int)) (rd_L1 b (i : Int)) (rd_L1 a (i : Int)).length
theorem sumR_len (r s : List Int) (c : Nat) : (sumR r s c).length = c := by simp [sumR]
theorem sumR_rd (r s : List Int) {c i : Nat} (h : i < c) : rd (sumR r s c) (i : Int) = Go.bits .xor .u8 (rd r (i : Int)) (rd s (i : Int)) := by
  rw [rd_of (by rw [sumR_len]; exact h)]; simp [sumR]
theorem sumR_succ (r s : List Int) (c : Nat) : sumR r s (c + 1) = sumR r s c ++ [Go.bits .xor .u8 (rd r (c : Int)) (rd s (c : Int))] := by simp [sumR, List.range_succ]
theorem sumT_len (a b : List (List Int)) (n : Nat) : (sumT a b n).length = n := by simp [sumT]
theorem sumT_rd (a b : List (List Int)) {n i : Nat} (h : i < n) : rd_L1 (sumT a b n) (i : Int) = sumR (rd_L1 a (i : Int)) (rd_L1 b (i : Int)) (rd_L1 a (i : Int)).length := by
  rw [rd_L1_of (by rw [sumT_len]; exact h)]; simp [sumT]
theorem sumT_succ (a b : List (List Int)) (n : Nat) : sumT a b (n + 1) = sumT a b n ++ [sumR (rd_L1 a (n : Int)) (rd_L1 b (n : Int)) (rd_L1 a (n : Int)).length] := by simp [sumT, List.range_succ]
theorem sums_l1 {a b : List (List Int)} {n m : Nat} (ha : RowsB a n m) (hb : RowsB b n m) (hn : n ≤ 100) (hm : m ≤ 100) (i : Nat) (hi : i < n) (R : Option (List (List Int))) (d : Nat) : ∀ (k c : Nat), c ≤ m → m - c = d → d < k →
    (∀ q, k - d - 1 ≤ q → seamarklaw29_sums.l0 q a b (sumT a b (i + 1)) ((i + 1 : Nat) : Int) = R) →
    seamarklaw29_sums.l1 k a b (sumT a b i) (i : Int) (sumR (rd_L1 a (i : Int)) (rd_L1 b (i : Int)) c) (c : Int) = R := by
  have h1 := (ha.at hi).1; have h2 := (hb.at hi).1; have h3 := ha.1; have h4 := hb.1
  induction d with
  | zero =>
    intro k c hc hd hk hR
    obtain ⟨k, rfl⟩ : ∃ q, k = q + 1 := ⟨k - 1, by omega⟩
    obtain rfl : c = m := by omega
    simp only [seamarklaw29_sums.l1]
    rw [if_pos (by omega), if_pos (by omega), if_neg (by omega), if_pos (by rw [sumT_len]; omega), wn (by omega)]
    have e := sumT_succ a b i
    rw [h1] at e
    rw [← e]
    exact hR k (by omega)
  | succ d ih =>
    intro k c hc hd hk hR
    obtain ⟨k, rfl⟩ : ∃ q, k = q + 1 := ⟨k - 1, by omega⟩
    simp only [seamarklaw29_sums.l1]
    rw [if_pos (by omega), if_pos (by omega), if_pos (by omega), if_pos (by omega), if_pos (by omega), if_pos (by omega), if_pos (by rw [sumR_len]; omega), wn (by omega), ← sumR_succ]
    exact ih k (c + 1) (by omega) (by omega) (by omega) (fun q hq => hR q (by omega))
theorem sums_l0 {a b : List (List Int)} {n m : Nat} (ha : RowsB a n m) (hb : RowsB b n m) (hn : n ≤ 100) (hm : m ≤ 100) (d : Nat) : ∀ (k i : Nat), i ≤ n → n - i = d → (d + 1) * (m + 2) < k → seamarklaw29_sums.l0 k a b (sumT a b i) (i : Int) = some (sumT a b n) := by
  have h3 := ha.1
  induction d with
  | zero =>
    intro k i hi hd hk
    obtain ⟨k, rfl⟩ : ∃ q, k = q + 1 := ⟨k - 1, by omega⟩
    obtain rfl : i = n := by omega
    simp only [seamarklaw29_sums.l0]
    rw [if_neg (by omega)]
  | succ d ih =>
    intro k i hi hd hk
    have e : (d + 1 + 1) * (m + 2) = (d + 1) * (m + 2) + (m + 2) := Nat.succ_mul _ _
    obtain ⟨k, rfl⟩ : ∃ q, k = q + 1 := ⟨k - 1, by omega⟩
    simp only [seamarklaw29_sums.l0]
    rw [if_pos (by omega)]
    exact sums_l1 ha hb hn hm i (by omega) _ m k 0 (Nat.zero_le _) (by omega) (by omega) (fun q hq => ih q (i + 1) (by omega) (by omega) (by omega))
theorem sums_eq {a b : List (List Int)} {n m : Nat} (ha : RowsB a n m) (hb : RowsB b n m) (hn : n ≤ 32) (hm : m ≤ 24) (k : Nat) (hk : 900 ≤ k) : seamarklaw29_sums.f k a b = some (sumT a b n) := by
  have : (n + 1) * (m + 2) ≤ 33 * 26 := Nat.mul_le_mul (by omega) (by omega)
  exact sums_l0 ha hb (by omega) (by omega) n k 0 (Nat.zero_le _) (by omega) (by omega)
theorem sum_rows {a b : List (List Int)} {n m : Nat} (ha : RowsB a n m) (hb : RowsB b n m) : RowsB (sumT a b n) n m := by
  refine ⟨sumT_len _ _ _, fun r hr => ?_⟩
  obtain ⟨i, hi, rfl⟩ := List.mem_map.1 hr
  have hi' := List.mem_range.1 hi
  obtain ⟨h1, h2⟩ := ha.at hi'
  obtain ⟨h3, h4⟩ := hb.at hi'
  refine ⟨by rw [sumR_len, h1], fun y hy => ?_⟩
  obtain ⟨c, hc, rfl⟩ := List.mem_map.1 hy
  have hc' := List.mem_range.1 hc
  have b1 := h2.at hc'
  have b2 := h4.at (i := c) (by omega)
  rw [xor8_toF b1.1 b1.2 b2.1 b2.2]; exact ofF_byte _
theorem interp_congr {p : Nat → F} {n : Nat} {y z : Nat → F} (h : ∀ i, i < n → y i = z i) (x : F) : interp p n y x = interp p n z x := by
  unfold interp; exact sumTo_congr fun j hj => by rw [h j hj]
theorem val_sum {a b : List (List Int)} {n m : Nat} (ha : RowsB a n m) (hb : RowsB b n m) (h0 : 0 < n) (hn : n ≤ 32) {x : Int} (hx0 : 0 ≤ x) (hx : x < 256) {c : Nat} (hc : c < m) :
    rd (valT (ints n) (sumT a b n) x) (c : Int) = ofF (toF (rd (valT (ints n) a x) (c : Int)) + toF (rd (valT (ints n) b x) (c : Int))) := by
  have hI := ints_idx hn
  obtain ⟨_, v1⟩ := valT_eq hI hx0 hx ha (by rw [ints_len]; exact Nat.le_refl _) h0
  obtain ⟨_, v2⟩ := valT_eq hI hx0 hx hb (by rw [ints_len]; exact Nat.le_refl _) h0
  obtain ⟨_, v3⟩ := valT_eq hI hx0 hx (sum_rows ha hb) (by rw [ints_len]; exact Nat.le_refl _) h0
  rw [v1 c hc, v2 c hc, v3 c hc, toF_ofF, toF_ofF, ← interp_add]
  refine congrArg ofF (interp_congr (fun i hi => ?_) _)
  rw [ints_len] at hi
  obtain ⟨h1, h2⟩ := ha.at hi
  obtain ⟨h3, h4⟩ := hb.at hi
  show toF (rd (rd_L1 (sumT a b n) (i : Int)) (c : Int)) = _
  have b1 := h2.at (i := c) (by omega)
  have b2 := h4.at (i := c) (by omega)
  rw [sumT_rd a b hi, h1, sumR_rd _ _ hc, xor8_toF b1.1 b1.2 b2.1 b2.2, toF_ofF]; rfl
/-- the pieces of the sum are the sums of the pieces -/
theorem code_sum {a b : List (List Int)} {n m : Nat} (ha : RowsB a n m) (hb : RowsB b n m) (h0 : 0 < n) (hn : n ≤ 32) : codeT (sumT a b n) 32 = sumT (codeT a 32) (codeT b 32) 32 := by
  have hs := sum_rows ha hb
  have hca := codeT_rows ha h0 hn 32 (by omega)
  have hcb := codeT_rows hb h0 hn 32 (by omega)
  have hcs := codeT_rows hs h0 hn 32 (by omega)
  refine ext_rd_L1 (n := 32) (codeT_len _ _) (sumT_len _ _ _) fun i hi => ?_
  refine list_ext (hcs.at hi).1 (((sum_rows hca hcb).at hi).1) fun c hc => ?_
  rw [sumT_rd _ _ hi, (hca.at hi).1, sumR_rd _ _ hc, codeT_rd _ hi, codeT_rd _ hi, codeT_rd _ hi, sumT_len, ha.1, hb.1, val_sum ha hb h0 hn (by omega) (by omega) hc]
  have b1 := (hca.at hi).2.at (i := c) (by rw [(hca.at hi).1]; exact hc)
  have b2 := (hcb.at hi).2.at (i := c) (by rw [(hcb.at hi).1]; exact hc)
  rw [codeT_rd _ hi, ha.1] at b1
  rw [codeT_rd _ hi, hb.1] at b2
  rw [xor8_toF b1.1 b1.2 b2.1 b2.2]
theorem code_zero {a : List (List Int)} {n m : Nat} (ha : RowsB a n m) (h0 : 0 < n) (hn : n ≤ 32) {i : Nat} (hi : i < 32) {c : Nat} (hc : c < m) : rd (rd_L1 (codeT (sumT a a n) 32) (i : Int)) (c : Int) = 0 := by
  rw [codeT_rd _ hi, sumT_len, val_sum ha ha h0 hn (by omega) (by omega) hc, add_self]; rfl
theorem linear_l1 (l0 cx cy cz cn : List (List Int)) {m : Nat} (hm : m ≤ 24) (hcn : RowsB cn 32 m) (hz : ∀ (i : Nat), i < 32 → ∀ (c : Nat), c < m → rd (rd_L1 cn (i : Int)) (c : Int) = 0) (i : Nat) (hi : i < 32) (R : Option Bool) (d : Nat) : ∀ (k c : Nat), c ≤ m → m - c = d → d < k →
    (∀ q, k - d - 1 ≤ q → seamarklaw29_ErasureLinear.l0 q l0 true cx cy cz cn ((i + 1 : Nat) : Int) = R) → seamarklaw29_ErasureLinear.l1 k l0 true cx cy cz cn (i : Int) (c : Int) = R := by
  have h1 := (hcn.at hi).1; have h3 := hcn.1
  induction d with
  | zero =>
    intro k c hc hd hk hR
    obtain ⟨k, rfl⟩ : ∃ q, k = q + 1 := ⟨k - 1, by omega⟩
    simp only [seamarklaw29_ErasureLinear.l1]
    rw [if_pos (by omega), if_pos (by omega), if_neg (by omega), wn (by omega)]
    exact hR k (by omega)
  | succ d ih =>
    intro k c hc hd hk hR
    obtain ⟨k, rfl⟩ : ∃ q, k = q + 1 := ⟨k - 1, by omega⟩
    simp only [seamarklaw29_ErasureLinear.l1]
    rw [if_pos (by omega), if_pos (by omega), if_pos (by omega), if_pos trivial, if_pos (by omega), hz i hi c (by omega), wn (by omega)]
    exact ih k (c + 1) (by omega) (by omega) (by omega) (fun q hq => hR q (by omega))
theorem linear_l0 (l0 a b cn : List (List Int)) {m : Nat} (hm : m ≤ 24) (hr : RowsB a 32 m) (hs : RowsB b 32 m) (hcn : RowsB cn 32 m) (hl : 0 < l0.length) (hl0 : (rd_L1 l0 0).length = m) (hz : ∀ (i : Nat), i < 32 → ∀ (c : Nat), c < m → rd (rd_L1 cn (i : Int)) (c : Int) = 0) (d : Nat) : ∀ (k i : Nat), i ≤ 32 → 32 - i = d → d * 28 + 1028 < k →
    seamarklaw29_ErasureLinear.l0 k l0 true a b (sumT a b 32) cn (i : Int) = some true := by
  have h1 := hr.1; have h2 := hs.1; have h3 := hcn.1
  induction d with
  | zero =>
    intro k i hi hd hk
    obtain ⟨k, rfl⟩ : ∃ q, k = q + 1 := ⟨k - 1, by omega⟩
    have hss := sum_rows hr hs
    simp only [seamarklaw29_ErasureLinear.l0]
    rw [if_neg (by omega), if_pos trivial, sums_eq hr hs (by omega) hm k (by omega)]
    simp only [Option.bind_some]
    rw [Same_eq k _ _ (by rw [sumT_len]; omega) (m := 24) (by omega) (fun r hrm => by rw [(hss.2 r hrm).1]; exact hm) (by rw [sumT_len]; omega)]
    simp
  | succ d ih =>
    intro k i hi hd hk
    have hk : d * 28 + 1056 < k := by have e := Nat.succ_mul d 28; omega
    obtain ⟨k, rfl⟩ : ∃ q, k = q + 1 + 1 := ⟨k - 2, by omega⟩
    have e1 := (hr.at (i := i) (by omega)).1; have e2 := (hs.at (i := i) (by omega)).1; have e3 := (hcn.at (i := i) (by omega)).1
    simp only [seamarklaw29_ErasureLinear.l0]
    rw [if_pos (by omega), if_pos (by omega), if_pos (by omega), if_pos (by omega), if_pos (by omega), if_pos (by omega), if_pos (by omega), e3, hl0]
    simp only [bne_self_eq_false, seamarklaw29_ErasureLinear.j3]
    rw [if_neg (by simp)]
    generalize hS : sumT a b 32 = S at ih ⊢
    have hi32 : i < 32 := by clear e1 e2 e3 hl0 hl h1 h2 h3 hz ih hS; omega
    have hk2 : m < k := by clear e1 e2 e3 hl0 hl h1 h2 h3 hz ih hS; omega
    refine linear_l1 l0 a b S cn hm hcn hz i hi32 (some true) m k 0 (Nat.zero_le _) (Nat.sub_zero _) hk2 ?_
    intro q hq
    have hq2 : d * 28 + 1028 < q := by clear e1 e2 e3 hl0 hl h1 h2 h3 hz ih hS; omega
    exact ih q (i + 1) (by omega) (by omega) hq2
theorem linear (l0 l1 : List (List Int)) (h0 : ∀ r ∈ l0, Bytes r) (h1 : ∀ r ∈ l1, Bytes r) : ∃ k, seamarklaw29_ErasureLinear.f k l0 l1 = some true := by
  refine ⟨2999 + 1, ?_⟩
  unfold seamarklaw29_ErasureLinear.f
  rw [head_ok _ (by omega)]
  obtain ⟨b, e, hb⟩ := few_eq l0 h0 (2999 + 1) (by omega)
  obtain ⟨b2, e2, hb2⟩ := few_eq l1 h1 (2999 + 1) (by omega)
  rw [e, e2]
  have hj : seamarklaw29_ErasureLinear.j0 (2999 + 1) l0 l1 true true = some true := by simp only [seamarklaw29_ErasureLinear.j0, if_true]
  simp only [Option.bind_some]
  cases b with
  | false => rw [if_neg (by simp)]; exact hj
  | true =>
    rw [if_pos rfl]
    cases b2 with
    | false => rw [if_neg (by simp)]; exact hj
    | true =>
      rw [if_pos rfl]
      by_cases hl : (l0.length : Int) = (l1.length : Int)
      · obtain ⟨n, m, hn0, hn8, hm, hr⟩ := hb rfl
        obtain ⟨n', m', hn0', hn8', hm', hr'⟩ := hb2 rfl
        obtain rfl := hr.1
        obtain rfl := hr'.1
        have hm0 : (rd_L1 l0 0).length = m := (hr.at hn0).1
        have hm1 : (rd_L1 l1 0).length = m' := (hr'.at hn0').1
        rw [if_pos hl, if_pos (by omega), if_pos (by omega), hm0, hm1]
        by_cases hmm : m = m'
        · subst hmm
          have hlen : l1.length = l0.length := by omega
          rw [hlen] at hr'
          have hs := sum_rows hr hr'
          have hsz := sum_rows hr hr
          simp only [bne_self_eq_false, seamarklaw29_ErasureLinear.j0]
          rw [if_neg (by simp), show (32 : Int) = ((32 : Nat) : Int) from rfl, Code_eq hr hn0 (by omega) (by omega) 32 (by omega) _ (by omega), Code_eq hr' hn0 (by omega) (by omega) 32 (by omega) _ (by omega)]
          simp only [Option.bind_some]
          rw [sums_eq hr hr' (by omega) hm _ (by omega), sums_eq hr hr (by omega) hm _ (by omega)]
          simp only [Option.bind_some]
          rw [Code_eq hs hn0 (by omega) (by omega) 32 (by omega) _ (by omega), Code_eq hsz hn0 (by omega) (by omega) 32 (by omega) _ (by omega)]
          simp only [Option.bind_some, codeT_len, if_true, bne_self_eq_false]
          rw [show (2999 : Nat) = 2998 + 1 from rfl]
          simp only [seamarklaw29_ErasureLinear.j1]
          rw [if_neg (by simp), code_sum hr hr' hn0 (by omega)]
          exact linear_l0 l0 (codeT l0 32) (codeT l1 32) _ hm (codeT_rows hr hn0 (by omega) 32 (by omega)) (codeT_rows hr' hn0 (by omega) 32 (by omega)) (codeT_rows hsz hn0 (by omega) 32 (by omega)) hn0 hm0 (fun i hi c hc => code_zero hr hn0 (by omega) hi hc) 32 2998 0 (by omega) (by omega) (by omega)
        · rw [show ((m : Int) != (m' : Int)) = true by simpa using (by omega : ¬ (m : Int) = (m' : Int))]
          exact hj
      · rw [if_neg hl]; exact hj
theorem ErasureLinear (l0 l1 : List (List Int)) (h0 : ∀ r ∈ l0, ∀ n ∈ r, (Lit.int .u8 n).wf = true) (h1 : ∀ r ∈ l1, ∀ n ∈ r, (Lit.int .u8 n).wf = true) : ∃ k, seamarklaw29_ErasureLinear.f k l0 l1 = some true :=
  linear l0 l1 (fun r hr n hn => byte_wf (h0 r hr n hn)) (fun r hr n hn => byte_wf (h1 r hr n hn))
end Go.Proofs.Ytcjjohealloglaa.Pure
