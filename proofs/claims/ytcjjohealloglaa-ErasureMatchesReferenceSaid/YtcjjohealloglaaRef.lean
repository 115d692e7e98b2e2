/-
  What each function of the reference answers, in closed form, for enough rounds: the same as the package's.
-/
import Derived.Test.YtcjjohealloglaaFunR
import Derived.Test.YtcjjohealloglaaEx18
namespace Go.Proofs.Ytcjjohealloglaa.Ref
open Go.RowKit Go.Proofs.YtcjjohealloglaaW.PrintWords Go.Proofs.YtcjjohealloglaaW.PrintLast Go.Proofs.Ytcjjohealloglaa.E Go.Proofs.Ytcjjohealloglaa.Gf Go.Proofs.Ytcjjohealloglaa.Val Go.Proofs.Ytcjjohealloglaa.Fun
set_option linter.unusedVariables false

/-! ### products, inverses -/
theorem bit_of : ∀ (b i : Nat), b < 256 → i < 8 → Go.bits .and .u8 (shr .u8 (b : Int) (i : Int)) 1 = ((b / 2 ^ i % 2 : Nat) : Int) := by
  have h : ∀ (b : Fin 256) (i : Fin 8), Go.bits .and .u8 (shr .u8 (b.val : Int) (i.val : Int)) 1 = ((b.val / 2 ^ i.val % 2 : Nat) : Int) := by decide +kernel
  exact fun b i hb hi => h ⟨b, hb⟩ ⟨i, hi⟩
theorem xt_of : ∀ x : Nat, x < 256 → (if (x : Int) ≥ 128 then Go.bits .xor .u8 (((x : Int) * 2) % 256) 29 else ((x : Int) * 2) % 256) = ((xt x : Nat) : Int) := by
  have h : ∀ x : Fin 256, (if (x.val : Int) ≥ 128 then Go.bits .xor .u8 (((x.val : Int) * 2) % 256) 29 else ((x.val : Int) * 2) % 256) = ((xt x.val : Nat) : Int) := by decide +kernel
  exact fun x hx => h ⟨x, hx⟩
theorem Mul_l0 (b : Nat) (hb : b < 256) (d : Nat) : ∀ (k i o x : Nat), i ≤ 8 → 8 - i = d → o < 256 → x < 256 → d < k →
    seamarkref29_Mul.l0 k (x : Int) (b : Int) (o : Int) (i : Int) = some ((gmulL d (b / 2 ^ i) o x : Nat) : Int) := by
  induction d with
  | zero =>
    intro k i o x hi hd ho hx hk
    obtain ⟨k, rfl⟩ : ∃ q, k = q + 1 := ⟨k - 1, by omega⟩
    simp only [seamarkref29_Mul.l0]
    rw [if_neg (by omega), gmulL]
  | succ d ih =>
    intro k i o x hi hd ho hx hk
    obtain ⟨k, rfl⟩ : ∃ q, k = q + 1 := ⟨k - 1, by omega⟩
    have hx2 := xt_of x hx
    have hox := xor_lt ho hx
    have hxt := xt_lt x hx
    have e2 : b / 2 ^ i / 2 = b / 2 ^ (i + 1) := by rw [Nat.pow_succ, Nat.div_div_eq_div_mul]
    simp only [seamarkref29_Mul.l0]
    rw [if_pos (by omega), if_pos (by omega), bit_of b i hb (by omega), wn (by omega), xor8 o x ho hx, gmulL, e2]
    by_cases hodd : b / 2 ^ i % 2 = 1
    · rw [if_pos (by omega), if_pos hodd]
      have r := ih k (i + 1) (o ^^^ x) (xt x) (by omega) (by omega) hox hxt (by omega)
      rw [← hx2] at r
      split at r <;> rename_i hc
      · rw [if_pos hc]; exact r
      · rw [if_neg hc]; exact r
    · rw [if_neg (by omega), if_neg hodd]
      have r := ih k (i + 1) o (xt x) (by omega) (by omega) ho hxt (by omega)
      rw [← hx2] at r
      split at r <;> rename_i hc
      · rw [if_pos hc]; exact r
      · rw [if_neg hc]; exact r
theorem Mul_eq (k : Nat) (hk : 20 ≤ k) {a b : Int} (ha0 : 0 ≤ a) (ha : a < 256) (hb0 : 0 ≤ b) (hb : b < 256) : seamarkref29_Mul.f k a b = some (ofF (toF a * toF b)) := by
  obtain ⟨x, rfl⟩ := Int.eq_ofNat_of_zero_le ha0
  obtain ⟨y, rfl⟩ := Int.eq_ofNat_of_zero_le hb0
  have h := Mul_l0 y (by omega) 8 k 0 0 x (by omega) (by omega) (by omega) (by omega) (by omega)
  unfold seamarkref29_Mul.f
  refine Eq.trans h ?_
  congr 1
  show _ = ((gmul ((x : Int).toNat % 256) ((y : Int).toNat % 256) : Nat) : Int)
  rw [show (x : Int).toNat % 256 = x by omega, show (y : Int).toNat % 256 = y by omega, Nat.pow_zero, Nat.div_one]; rfl
theorem Inv_l0 {a : Int} (ha0 : 0 ≤ a) (ha : a < 256) (d : Nat) : ∀ (k i : Nat), 1 ≤ i → i ≤ 256 → 256 - i = d → (∀ j : Nat, j < i → toF a * toF (j : Int) ≠ one) → d + 21 < k →
    seamarkref29_Inv.l0 k a (i : Int) = some (if a = 0 then (0, 4) else (ofF (finv (toF a)), 0)) := by
  induction d with
  | zero =>
    intro k i h0 h1 hd hj hk
    obtain ⟨k, rfl⟩ : ∃ q, k = q + 1 := ⟨k - 1, by omega⟩
    simp only [seamarkref29_Inv.l0]
    rw [if_neg (by omega)]
    by_cases h : a = 0
    · rw [if_pos h]
    · have hb := ofF_byte (finv (toF a))
      obtain ⟨z, hz⟩ := Int.eq_ofNat_of_zero_le hb.1
      have := hj z (by omega)
      rw [← hz, toF_ofF] at this
      exact absurd (mul_inv (toF_ne ha0 ha h)) this
  | succ d ih =>
    intro k i h0 h1 hd hj hk
    obtain ⟨k, rfl⟩ : ∃ q, k = q + 1 := ⟨k - 1, by omega⟩
    simp only [seamarkref29_Inv.l0]
    rw [if_pos (by omega), show (i : Int) % 256 = (i : Int) by omega, Mul_eq k (by omega) ha0 ha (by omega) (by omega)]
    simp only [Option.bind_some]
    by_cases h : toF a * toF (i : Int) = one
    · rw [if_pos (by rw [h, ofF_one])]
      have ha1 : a ≠ 0 := fun e => by rw [e, toF_zero, zero_mul] at h; exact one_ne_zero h.symm
      rw [if_neg ha1, ← inv_unique h, ofF_toF (by omega) (by omega)]
    · rw [if_neg (fun e => h (ofF_inj (e.trans ofF_one.symm))), wn (by omega)]
      refine ih k (i + 1) (by omega) (by omega) (by omega) (fun j hj2 => ?_) (by omega)
      by_cases e : j = i
      · rw [e]; exact h
      · exact hj j (by omega)
theorem Inv_eq (k : Nat) (hk : 300 ≤ k) {a : Int} (ha0 : 0 ≤ a) (ha : a < 256) : seamarkref29_Inv.f k a = some (if a = 0 then (0, 4) else (ofF (finv (toF a)), 0)) := by
  refine Inv_l0 ha0 ha 255 k 1 (by omega) (by omega) (by omega) (fun j hj => ?_) (by omega)
  obtain rfl : j = 0 := by omega
  show toF a * toF 0 ≠ one
  rw [toF_zero, mul_zero]; exact fun e => one_ne_zero e.symm

/-! ### weights, values -/
theorem fpow_mul (a b : F) (n : Nat) : fpow (a * b) n = fpow a n * fpow b n := by
  induction n with
  | zero => exact (mul_one one).symm
  | succ n ih => rw [fpow_add (a * b) n 1, fpow_add a n 1, fpow_add b n 1, ih]; have h1 : ∀ c : F, fpow c 1 = c := fun c => by simp [fpow, one_mul]
                 rw [h1, h1, h1]; ac_rfl
theorem finv_mul (a b : F) : finv (a * b) = finv a * finv b := fpow_mul a b 254
theorem finv_one : finv one = one := (inv_unique (mul_one one)).symm
theorem wprod (p : Nat → F) (x : F) (k : Nat) (n : Nat) : prodTo (fun j => if j = k then one else finv (p k + p j) * (x + p j)) n = over p n x k * finv (over p n (p k) k) := by
  induction n with
  | zero => show one = one * finv one; rw [finv_one, mul_one]
  | succ n ih =>
    unfold over at ih ⊢
    rw [prodTo, prodTo, prodTo, ih, finv_mul]
    by_cases e : n = k
    · rw [if_pos e, if_pos e, if_pos e, mul_one, mul_one, finv_one, mul_one]
    · rw [if_neg e, if_neg e, if_neg e]; ac_rfl
theorem Weight_l0 {l : List Int} (hl : Idx l) {x : Int} (hx0 : 0 ≤ x) (hx : x < 256) (hll : l.length ≤ 32) (t : Nat) (ht : t < l.length) (d : Nat) : ∀ (k i : Nat), i ≤ l.length → l.length - i = d → d + 300 < k →
    seamarkref29_Weight.l0 k l (t : Int) x (ofF (prodTo (fun j => if j = t then one else finv (node l t + node l j) * (toF x + node l j)) i)) (i : Int) = some (ofF (weight (node l) l.length (toF x) t)) := by
  induction d with
  | zero =>
    intro k i hi hd hk
    obtain ⟨k, rfl⟩ : ∃ q, k = q + 1 := ⟨k - 1, by omega⟩
    obtain rfl : i = l.length := by omega
    simp only [seamarkref29_Weight.l0]
    rw [if_neg (by omega), wprod]; rfl
  | succ d ih =>
    intro k i hi hd hk
    obtain ⟨k, rfl⟩ : ∃ q, k = q + 1 := ⟨k - 1, by omega⟩
    have h1 := hl.at ht
    have h2 := hl.at (i := i) (by omega)
    have r := ih k (i + 1) (by omega) (by omega) (by omega)
    rw [prodTo] at r
    simp only [seamarkref29_Weight.l0]
    rw [if_pos (by omega), wn (by omega)]
    by_cases e : i = t
    · rw [if_pos (by omega)]
      rw [if_pos e, mul_one] at r
      exact r
    · rw [if_neg (by omega), if_pos (by omega), if_pos (by omega), if_pos (by omega), Int.emod_eq_of_lt h1.1 (by omega), Int.emod_eq_of_lt h2.1 (by omega), Int.emod_eq_of_lt hx0 hx, xor8_toF h1.1 (by omega) h2.1 (by omega), xor8_toF hx0 hx h2.1 (by omega)]
      rw [if_neg e] at r
      have hne : node l t + node l i ≠ zero := fun h => e (hl.inj i t (by omega) ht ((add_eq_zero.1 h).symm))
      have hne' : ofF (node l t + node l i) ≠ 0 := fun h => hne (ofF_inj (h.trans ofF_zero.symm))
      rw [show toF (rd l (t : Int)) = node l t from rfl, show toF (rd l (i : Int)) = node l i from rfl, Inv_eq k (by omega) (ofF_byte _).1 (ofF_byte _).2, if_neg hne']
      simp only [Option.bind_some]
      rw [Mul_eq k (by omega) (ofF_byte _).1 (ofF_byte _).2 (ofF_byte _).1 (ofF_byte _).2]
      simp only [Option.bind_some]
      rw [Mul_eq k (by omega) (ofF_byte _).1 (ofF_byte _).2 (ofF_byte _).1 (ofF_byte _).2]
      simp only [Option.bind_some, toF_ofF]
      rw [mul_assoc]
      exact r
theorem Weight_eq {l : List Int} (hl : Idx l) {x : Int} (hx0 : 0 ≤ x) (hx : x < 256) (hll : l.length ≤ 32) (t : Nat) (ht : t < l.length) (k : Nat) (hk : 400 ≤ k) : seamarkref29_Weight.f k l (t : Int) x = some (ofF (weight (node l) l.length (toF x) t)) :=
  Weight_l0 hl hx0 hx hll t ht l.length k 0 (Nat.zero_le _) (by omega) (by omega)

/-- the sum of the first i parts, in each column -/
def part (l : List Int) (rows : List (List Int)) (x : Int) (i c : Nat) : Int := ofF (sumTo (fun t => weight (node l) l.length (toF x) t * col rows c t) i)
def mix (l : List Int) (rows : List (List Int)) (x : Int) (m i c : Nat) : List Int := (List.range m).map fun q => part l rows x (if q < c then i + 1 else i) q
theorem mix_len (l : List Int) (rows : List (List Int)) (x : Int) (m i c : Nat) : (mix l rows x m i c).length = m := by simp [mix]
theorem mix_rd (l : List Int) (rows : List (List Int)) (x : Int) {m : Nat} (i c : Nat) {q : Nat} (hq : q < m) : rd (mix l rows x m i c) (q : Int) = part l rows x (if q < c then i + 1 else i) q := by
  rw [rd_of (by rw [mix_len]; exact hq)]; simp [mix]
theorem mix_next (l : List Int) (rows : List (List Int)) (x : Int) (m i : Nat) : mix l rows x m i m = mix l rows x m (i + 1) 0 := by
  refine list_ext (mix_len _ _ _ _ _ _) (mix_len _ _ _ _ _ _) fun c hc => ?_
  rw [mix_rd _ _ _ _ _ hc, mix_rd _ _ _ _ _ hc, if_pos hc, if_neg (by omega)]
theorem Value_l2 {l : List Int} {rows : List (List Int)} {n m : Nat} (hl : Idx l) {x : Int} (hr : RowsB rows n m) (hm : m ≤ 200) (i : Nat) (hi : i < n) (hn : n ≤ 1000) (R : Option (List Int)) (d : Nat) : ∀ (k c : Nat), c ≤ m → m - c = d → d + 20 < k →
    (∀ q, k - d - 1 ≤ q → seamarkref29_Value.l1 q l rows x (mix l rows x m (i + 1) 0) ((i + 1 : Nat) : Int) = R) →
    seamarkref29_Value.l2 k l rows x (mix l rows x m i c) (i : Int) (ofF (weight (node l) l.length (toF x) i)) (c : Int) = R := by
  have h3 := hr.1
  obtain ⟨h1, h2⟩ := hr.at hi
  induction d with
  | zero =>
    intro k c hc hd hk hR
    obtain ⟨k, rfl⟩ : ∃ q, k = q + 1 := ⟨k - 1, by omega⟩
    obtain rfl : c = m := by omega
    simp only [seamarkref29_Value.l2]
    rw [if_neg (by rw [mix_len]; omega), wn (by omega), mix_next]
    exact hR k (by omega)
  | succ d ih =>
    intro k c hc hd hk hR
    obtain ⟨k, rfl⟩ : ∃ q, k = q + 1 := ⟨k - 1, by omega⟩
    have hc' : c < m := by omega
    have hb := h2.at (i := c) (by omega)
    simp only [seamarkref29_Value.l2]
    rw [if_pos (by rw [mix_len]; omega), if_pos (by omega), if_pos (by omega), if_pos (by omega), if_pos (by omega), Mul_eq k (by omega) (ofF_byte _).1 (ofF_byte _).2 hb.1 hb.2, wn (by omega)]
    simp only [Option.bind_some]
    have e : (mix l rows x m i c).set (c : Int).toNat (Go.bits .xor .u8 (rd (mix l rows x m i c) (c : Int)) (ofF (toF (ofF (weight (node l) l.length (toF x) i)) * toF (rd (rd_L1 rows (i : Int)) (c : Int))))) = mix l rows x m i (c + 1) := by
      refine list_ext (m := m) (by rw [List.length_set, mix_len]) (mix_len _ _ _ _ _ _) fun q hq => ?_
      rw [mix_rd _ _ _ _ _ hq, mix_rd _ _ _ _ _ hc', if_neg (by omega), Int.toNat_natCast, rd_of (by rw [List.length_set, mix_len]; exact hq), List.getElem_set]
      by_cases eq : c = q
      · subst eq
        rw [if_pos rfl, if_pos (by omega)]
        unfold part
        rw [toF_ofF, xor8_toF (ofF_byte _).1 (ofF_byte _).2 (ofF_byte _).1 (ofF_byte _).2, toF_ofF, toF_ofF, sumTo]; rfl
      · rw [if_neg eq, ← rd_of (l := mix l rows x m i c) (by rw [mix_len]; exact hq), mix_rd _ _ _ _ _ hq]
        by_cases hlt : q < c
        · rw [if_pos hlt, if_pos (by omega)]
        · rw [if_neg hlt, if_neg (by omega)]
    rw [e]
    exact ih k (c + 1) (by omega) (by omega) (by omega) (fun q hq => hR q (by omega))
theorem Value_l1 {l : List Int} {rows : List (List Int)} {n m : Nat} (hl : Idx l) {x : Int} (hx0 : 0 ≤ x) (hx : x < 256) (hr : RowsB rows n m) (hm : m ≤ 200) (hn : n ≤ 32) (hln : l.length = n) (h0 : 0 < n) (d : Nat) : ∀ (k i : Nat), i ≤ n → n - i = d → d * (m + 2) + 500 + m < k →
    seamarkref29_Value.l1 k l rows x (mix l rows x m i 0) (i : Int) = some (valT l rows x) := by
  induction d with
  | zero =>
    intro k i hi hd hk
    obtain ⟨k, rfl⟩ : ∃ q, k = q + 1 := ⟨k - 1, by omega⟩
    obtain rfl : i = n := by omega
    simp only [seamarkref29_Value.l1]
    rw [if_neg (by omega)]
    obtain ⟨v1, v2⟩ := valT_eq hl hx0 hx hr (by omega) h0
    refine congrArg some (list_ext (mix_len _ _ _ _ _ _) v1 fun c hc => ?_)
    rw [mix_rd _ _ _ _ _ hc, if_neg (by omega), v2 c hc]
    unfold part interp
    rw [hln]
  | succ d ih =>
    intro k i hi hd hk
    have hk2 : d * (m + 2) + 500 + m + (m + 2) < k := by have e : (d + 1) * (m + 2) = d * (m + 2) + (m + 2) := Nat.succ_mul d (m + 2); omega
    obtain ⟨k, rfl⟩ : ∃ q, k = q + 1 := ⟨k - 1, by omega⟩
    generalize d * (m + 2) = E at ih hk2
    simp only [seamarkref29_Value.l1]
    rw [if_pos (by omega), Weight_eq hl hx0 hx (by omega) i (by omega) k (by omega)]
    simp only [Option.bind_some]
    exact Value_l2 hl hr hm i (by omega) (by omega) _ m k 0 (Nat.zero_le _) (by omega) (by omega) (fun q hq => ih q (i + 1) (by omega) (by omega) (by omega))
theorem Value_l0 {l : List Int} {rows : List (List Int)} {n m : Nat} (hl : Idx l) {x : Int} (hx0 : 0 ≤ x) (hx : x < 256) (hr : RowsB rows n m) (hm : m ≤ 200) (hn : n ≤ 32) (hln : l.length = n) (h0 : 0 < n) (d : Nat) : ∀ (k i : Nat), i ≤ m → m - i = d → d + n * (m + 2) + 501 + m < k →
    seamarkref29_Value.l0 k l rows x (List.replicate i 0) (i : Int) = some (valT l rows x) := by
  have h3 := hr.1
  have hm0 : (rd_L1 rows 0).length = m := (hr.at h0).1
  induction d with
  | zero =>
    intro k i hi hd hk
    obtain ⟨k, rfl⟩ : ∃ q, k = q + 1 := ⟨k - 1, by omega⟩
    obtain rfl : i = m := by omega
    simp only [seamarkref29_Value.l0]
    rw [if_pos (by omega), if_neg (by omega)]
    have e : List.replicate i (0 : Int) = mix l rows x i 0 0 := by
      refine list_ext (m := i) (by simp) (mix_len _ _ _ _ _ _) fun c hc => ?_
      rw [mix_rd _ _ _ _ _ hc, if_neg (by omega), rd_of (by simpa using hc)]; simp [part, sumTo, ofF_zero]
    rw [e]
    exact Value_l1 hl hx0 hx hr hm hn hln h0 n k 0 (Nat.zero_le _) (by omega) (by omega)
  | succ d ih =>
    intro k i hi hd hk
    obtain ⟨k, rfl⟩ : ∃ q, k = q + 1 := ⟨k - 1, by omega⟩
    generalize n * (m + 2) = E at ih hk
    simp only [seamarkref29_Value.l0]
    rw [if_pos (by omega), if_pos (by omega), if_pos (by rw [List.length_replicate]; omega), wn (by omega), ← List.replicate_succ']
    exact ih k (i + 1) (by omega) (by omega) (by omega)
theorem Value_eq {l : List Int} {rows : List (List Int)} {n m : Nat} (hl : Idx l) {x : Int} (hx0 : 0 ≤ x) (hx : x < 256) (hr : RowsB rows n m) (hm : m ≤ 24) (hn : n ≤ 32) (hln : l.length = n) (h0 : 0 < n) (k : Nat) (hk : 1500 ≤ k) : seamarkref29_Value.f k l rows x = some (valT l rows x) := by
  have : n * (m + 2) ≤ 32 * 26 := Nat.mul_le_mul (by omega) (by omega)
  exact Value_l0 hl hx0 hx hr (by omega) hn hln h0 m k 0 (Nat.zero_le _) (by omega) (by omega)

/-! ### first, code -/
theorem First_l0 (n : Nat) (hn : n ≤ 1000) (d : Nat) : ∀ (k i : Nat), i ≤ n → n - i = d → d < k → seamarkref29_First.l0 k (n : Int) (ints i) (i : Int) = some (ints n) := by
  induction d with
  | zero =>
    intro k i h1 hd hk
    obtain ⟨k, rfl⟩ : ∃ q, k = q + 1 := ⟨k - 1, by omega⟩
    obtain rfl : i = n := by omega
    simp only [seamarkref29_First.l0]
    rw [if_neg (by omega)]
  | succ d ih =>
    intro k i h1 hd hk
    obtain ⟨k, rfl⟩ : ∃ q, k = q + 1 := ⟨k - 1, by omega⟩
    simp only [seamarkref29_First.l0]
    rw [if_pos (by omega), if_pos (by rw [ints_len]; omega), wn (by omega), ← ints_succ]
    exact ih k (i + 1) (by omega) (by omega) (by omega)
theorem First_eq (k n : Nat) (hn : n ≤ 1000) (hk : n < k) : seamarkref29_First.f k (n : Int) = some (ints n) := First_l0 n hn n k 0 (Nat.zero_le _) (by omega) hk
theorem Data_l0 (l : List (List Int)) (hl : l.length ≤ 8) (d : Nat) : ∀ (k i : Nat), i ≤ l.length → l.length - i = d → d < k → ∃ b, seamarkref29_Data.l0 k l (i : Int) = some b ∧ (b = true ↔ ∀ r ∈ l.drop i, r.length = (rd_L1 l 0).length) := by
  induction d with
  | zero =>
    intro k i h1 hd hk
    obtain ⟨k, rfl⟩ : ∃ q, k = q + 1 := ⟨k - 1, by omega⟩
    simp only [seamarkref29_Data.l0]
    rw [if_neg (by omega), List.drop_eq_nil_of_le (by omega)]
    exact ⟨true, rfl, by simp⟩
  | succ d ih =>
    intro k i h1 hd hk
    obtain ⟨k, rfl⟩ : ∃ q, k = q + 1 := ⟨k - 1, by omega⟩
    simp only [seamarkref29_Data.l0]
    rw [if_pos (by omega), if_pos (by omega), if_pos (by omega), drop_rd_L1 (by omega)]
    by_cases h : ((rd_L1 l (i : Int)).length : Int) = ((rd_L1 l 0).length : Int)
    · rw [if_pos h, wn (by omega)]
      obtain ⟨b, e, hb⟩ := ih k (i + 1) (by omega) (by omega) (by omega)
      refine ⟨b, e, hb.trans ⟨fun hh r hr => ?_, fun hh r hr => hh r (List.mem_cons_of_mem _ hr)⟩⟩
      rcases List.mem_cons.1 hr with rfl | hr
      · omega
      · exact hh r hr
    · rw [if_neg h]; exact ⟨false, rfl, by simp; intro h2; omega⟩
theorem Data_eq (l : List (List Int)) (hl : l.length ≤ 8) (hr : ∀ r ∈ l, r.length ≤ 24) (k : Nat) (hk : 20 ≤ k) : seamarkref29_Data.f k l = some (decide (0 < l.length) && eqlT l) := by
  unfold seamarkref29_Data.f
  obtain ⟨k, rfl⟩ : ∃ q, k = q + 1 := ⟨k - 1, by omega⟩
  by_cases h0 : (l.length : Int) < 1
  · rw [if_pos h0]; simp only [seamarkref29_Data.j0, if_true]; rw [decide_eq_false (by omega)]; rfl
  · have hm0 : (rd_L1 l 0).length ≤ 24 := hr _ (by rw [show (0 : Int) = ((0 : Nat) : Int) from rfl, rd_L1_of (by omega)]; exact List.getElem_mem _)
    rw [if_neg h0, if_neg (by omega), if_pos (by omega), decide_eq_false (by omega)]
    simp only [seamarkref29_Data.j0]
    rw [if_neg (by simp), decide_eq_true (by omega)]
    obtain ⟨b, e, hb⟩ := Data_l0 l hl l.length k 0 (Nat.zero_le _) (by omega) (by omega)
    refine Eq.trans e (congrArg some ?_)
    rw [Bool.true_and, Bool.eq_iff_iff, hb, List.drop_zero]
    unfold eqlT
    rw [List.all_eq_true]
    refine ⟨fun h r hrm => ?_, fun h r hrm => ?_⟩
    · have h1 := h r hrm; have h2 := hr r hrm
      rw [decide_eq_true h1, decide_eq_true (by omega)]; rfl
    · have := h r hrm
      simp only [Bool.and_eq_true, decide_eq_true_eq] at this
      exact this.1
theorem rows_of {l : List (List Int)} (hb : ∀ r ∈ l, Bytes r) (hl : 0 < l.length) (h : eqlT l = true) (hr : ∀ r ∈ l, r.length ≤ 24) : ∃ m, m ≤ 24 ∧ RowsB l l.length m := by
  refine ⟨(rd_L1 l 0).length, hr _ (by rw [show (0 : Int) = ((0 : Nat) : Int) from rfl, rd_L1_of hl]; exact List.getElem_mem _), rfl, fun r hrm => ?_⟩
  unfold eqlT at h
  rw [List.all_eq_true] at h
  have := h r hrm
  simp only [Bool.and_eq_true, decide_eq_true_eq] at this
  exact ⟨this.1, hb r hrm⟩
theorem Code_l0 {l : List (List Int)} {n m : Nat} (hr : RowsB l n m) (h0 : 0 < n) (hn : n ≤ 32) (hm : m ≤ 24) (N : Nat) (hN : N ≤ 32) (d : Nat) : ∀ (k i : Nat), i ≤ N → N - i = d → d + 1600 < k →
    seamarkref29_Code.l0 k l (N : Int) (codeT l i) (i : Int) = some (codeT l N, 0) := by
  have hl := hr.1
  induction d with
  | zero =>
    intro k i h1 hd hk
    obtain ⟨k, rfl⟩ : ∃ q, k = q + 1 := ⟨k - 1, by omega⟩
    obtain rfl : i = N := by omega
    simp only [seamarkref29_Code.l0]
    rw [if_neg (by omega)]
  | succ d ih =>
    intro k i h1 hd hk
    obtain ⟨k, rfl⟩ : ∃ q, k = q + 1 := ⟨k - 1, by omega⟩
    simp only [seamarkref29_Code.l0]
    rw [if_pos (by omega), First_eq k l.length (by omega) (by omega)]
    simp only [Option.bind_some]
    rw [Value_eq (ints_idx (by omega)) (by omega) (by omega) hr hm hn (by rw [ints_len, hl]) h0 k (by omega)]
    simp only [Option.bind_some]
    rw [if_pos (by rw [codeT_len]; omega), wn (by omega)]
    have e : codeT l i ++ [valT (ints l.length) l (i : Int)] = codeT l (i + 1) := by simp [codeT, List.range_succ]
    rw [e]
    exact ih k (i + 1) (by omega) (by omega) (by omega)
/-- the pieces of both, the same -/
theorem Code_both {l : List (List Int)} (hb : ∀ r ∈ l, Bytes r) (h8 : l.length ≤ 8) (h24 : ∀ r ∈ l, r.length ≤ 24) (N : Int) (k : Nat) (hk : 2000 ≤ k) :
    ∃ r e, erasure_Code.f k l N = some (r, e) ∧ seamarkref29_Code.f k l N = some (r, e) ∧ r.length ≤ 32 ∧ ∀ q ∈ r, q.length ≤ 24 := by
  have hD := Data_eq l h8 h24 k (by omega)
  have hE := equal_total l (by omega) k (by omega)
  obtain ⟨k, rfl⟩ : ∃ q, k = q + 1 := ⟨k - 1, by omega⟩
  have b1 : erasure_Code.j0 (k + 1) l N true = some ([], 1) := by simp only [erasure_Code.j0, if_true]
  have b2 : seamarkref29_Code.j0 (k + 1) l N true = some ([], 1) := by simp only [seamarkref29_Code.j0, if_true]
  have bad : erasure_Code.f (k + 1) l N = some ([], 1) → seamarkref29_Code.f (k + 1) l N = some ([], 1) → ∃ r e, erasure_Code.f (k + 1) l N = some (r, e) ∧ seamarkref29_Code.f (k + 1) l N = some (r, e) ∧ r.length ≤ 32 ∧ ∀ q ∈ r, q.length ≤ 24 :=
    fun h1 h2 => ⟨[], 1, h1, h2, by simp, by simp⟩
  by_cases h0 : 0 < l.length
  · cases hq : eqlT l with
    | false =>
      rw [hq] at hD hE
      refine bad ?_ ?_
      · unfold erasure_Code.f
        rw [if_neg (by omega), if_neg (by omega), hE]
        simp only [Option.bind_some]
        rw [if_neg (by simp)]; exact b1
      · unfold seamarkref29_Code.f
        rw [hD]; simp only [Option.bind_some, Bool.and_false]
        rw [if_neg (by simp)]; exact b2
    | true =>
      obtain ⟨m, hm, hr⟩ := rows_of hb h0 hq h24
      rw [hq, decide_eq_true h0] at hD
      by_cases hN : 0 ≤ N ∧ N ≤ 32
      · obtain ⟨z, rfl⟩ := Int.eq_ofNat_of_zero_le hN.1
        refine ⟨codeT l z, 0, Code_eq hr h0 (by omega) (by omega) z (by omega) _ (by omega), ?_, by rw [codeT_len]; omega, fun q hq => by have := ((codeT_rows hr h0 (by omega) z (by omega)).2 q hq).1; omega⟩
        unfold seamarkref29_Code.f
        rw [hD]; simp only [Option.bind_some, Bool.and_self, if_true]
        rw [if_neg (by omega), decide_eq_false (by omega)]
        simp only [seamarkref29_Code.j0]
        rw [if_neg (by simp)]
        exact Code_l0 hr h0 (by omega) hm z (by omega) z k 0 (Nat.zero_le _) (by omega) (by omega)
      · rw [hq] at hE
        refine bad ?_ ?_
        · unfold erasure_Code.f
          rw [if_neg (by omega), if_neg (by omega), hE]
          simp only [Option.bind_some, if_true]
          by_cases hn : N < 0
          · rw [if_pos hn]; exact b1
          · rw [if_neg hn, decide_eq_true (by omega)]; exact b1
        · unfold seamarkref29_Code.f
          rw [hD]; simp only [Option.bind_some, Bool.and_self, if_true]
          by_cases hn : N < 0
          · rw [if_pos hn]; exact b2
          · rw [if_neg hn, decide_eq_true (by omega)]; exact b2
  · refine bad ?_ ?_
    · unfold erasure_Code.f
      rw [if_pos (by omega)]; exact b1
    · unfold seamarkref29_Code.f
      rw [hD, decide_eq_false h0]; simp only [Option.bind_some, Bool.false_and]
      rw [if_neg (by simp)]; exact b2

/-! ### given, fits -/
def GivAt (idx : List Int) (pcs : List (List Int)) (j : Nat) : Prop := (0 ≤ rd idx (j : Int) ∧ rd idx (j : Int) < 32) ∧ ((rd_L1 pcs (j : Int)).length = (rd_L1 pcs 0).length ∧ (rd_L1 pcs (j : Int)).length ≤ 200) ∧ ∀ c, c < j → rd idx (c : Int) ≠ rd idx (j : Int)
theorem Given_l1 (idx : List Int) (pcs : List (List Int)) (hl : idx.length ≤ 40) (i : Nat) (hi : i < idx.length) (P : Prop) (b0 : Nat → Bool) (d : Nat) : ∀ (k c : Nat), c ≤ i → i - c = d → d < k →
    (∀ q, k - d - 1 ≤ q → ∃ b, seamarkref29_Given.l0 q idx pcs ((i + 1 : Nat) : Int) = some b ∧ (b = true ↔ P)) →
    ∃ b, seamarkref29_Given.l1 k idx pcs (i : Int) (c : Int) = some b ∧ (b = true ↔ (∀ q, c ≤ q → q < i → rd idx (q : Int) ≠ rd idx (i : Int)) ∧ P) := by
  induction d with
  | zero =>
    intro k c hc hd hk hR
    obtain ⟨k, rfl⟩ : ∃ q, k = q + 1 := ⟨k - 1, by omega⟩
    simp only [seamarkref29_Given.l1]
    rw [if_neg (by omega), wn (by omega)]
    obtain ⟨b, e, hb⟩ := hR k (by omega)
    exact ⟨b, e, hb.trans ⟨fun h => ⟨fun q h1 h2 => by omega, h⟩, fun h => h.2⟩⟩
  | succ d ih =>
    intro k c hc hd hk hR
    obtain ⟨k, rfl⟩ : ∃ q, k = q + 1 := ⟨k - 1, by omega⟩
    simp only [seamarkref29_Given.l1]
    rw [if_pos (by omega), if_pos (by omega), if_pos (by omega), if_pos (by omega), if_pos (by omega)]
    by_cases h : rd idx (c : Int) = rd idx (i : Int)
    · rw [if_pos h]; exact ⟨false, rfl, by simp; intro h2; exact absurd h (h2 c (Nat.le_refl _) (by omega))⟩
    · rw [if_neg h, wn (by omega)]
      obtain ⟨b, e, hb⟩ := ih k (c + 1) (by omega) (by omega) (by omega) (fun q hq => hR q (by omega))
      refine ⟨b, e, hb.trans ⟨fun hh => ⟨fun q h1 h2 => ?_, hh.2⟩, fun hh => ⟨fun q h1 h2 => hh.1 q (by omega) h2, hh.2⟩⟩⟩
      by_cases e2 : q = c
      · rw [e2]; exact h
      · exact hh.1 q (by omega) h2
theorem Given_l0 (idx : List Int) (pcs : List (List Int)) (hlp : idx.length = pcs.length) (hl : idx.length ≤ 40) (d : Nat) : ∀ (k i : Nat), i ≤ idx.length → idx.length - i = d → d * 50 + 50 < k →
    ∃ b, seamarkref29_Given.l0 k idx pcs (i : Int) = some b ∧ (b = true ↔ ∀ j, i ≤ j → j < idx.length → GivAt idx pcs j) := by
  induction d with
  | zero =>
    intro k i hi hd hk
    obtain ⟨k, rfl⟩ : ∃ q, k = q + 1 := ⟨k - 1, by omega⟩
    simp only [seamarkref29_Given.l0]
    rw [if_neg (by omega)]
    exact ⟨true, rfl, by simp; intro j h1 h2; omega⟩
  | succ d ih =>
    intro k i hi hd hk
    obtain ⟨k, rfl⟩ : ∃ q, k = q + 1 + 1 := ⟨k - 2, by omega⟩
    have hi' : i < idx.length := by omega
    have no : ∀ (P : ¬ GivAt idx pcs i), ∃ b, some false = some b ∧ (b = true ↔ ∀ j, i ≤ j → j < idx.length → GivAt idx pcs j) :=
      fun P => ⟨false, rfl, by simp; exact ⟨i, Nat.le_refl _, hi', P⟩⟩
    have hj : ∀ q, seamarkref29_Given.j2 (q + 1) idx pcs (i : Int) true = some false := fun q => by simp only [seamarkref29_Given.j2, if_true]
    simp only [seamarkref29_Given.l0]
    rw [if_pos (by omega), if_pos (by omega)]
    by_cases h1 : rd idx (i : Int) < 0
    · rw [if_pos h1, hj]; exact no (fun h => by have := h.1; omega)
    rw [if_neg h1]
    by_cases h2 : rd idx (i : Int) ≥ 32
    · rw [if_pos h2, hj]; exact no (fun h => by have := h.1; omega)
    rw [if_neg h2, if_pos (by omega), if_pos (by omega)]
    by_cases h3 : ((rd_L1 pcs (i : Int)).length : Int) = ((rd_L1 pcs 0).length : Int)
    · rw [if_pos h3]
      by_cases h4 : ((rd_L1 pcs (i : Int)).length : Int) > 200
      · rw [decide_eq_true h4, hj]; exact no (fun h => by have := h.2.1; omega)
      · rw [decide_eq_false h4]
        simp only [seamarkref29_Given.j2]
        rw [if_neg (by simp)]
        obtain ⟨b, e, hb⟩ := Given_l1 idx pcs hl i hi' (∀ j, i + 1 ≤ j → j < idx.length → GivAt idx pcs j) (fun _ => true) i k 0 (Nat.zero_le _) (by omega) (by omega) (fun q hq => ih q (i + 1) (by omega) (by omega) (by omega))
        refine ⟨b, e, hb.trans ⟨fun hh j g1 g2 => ?_, fun hh => ⟨fun q g1 g2 => (hh i (Nat.le_refl _) hi').2.2 q g2, fun j g1 g2 => hh j (by omega) g2⟩⟩⟩
        by_cases e2 : j = i
        · rw [e2]; exact ⟨⟨by omega, by omega⟩, ⟨by omega, by omega⟩, fun c hc => hh.1 c (Nat.zero_le _) hc⟩
        · exact hh.2 j (by omega) g2
    · rw [if_neg h3, hj]; exact no (fun h => by have := h.2.1; omega)
theorem Given_eq (need : Int) (idx : List Int) (pcs : List (List Int)) (h1 : idx.length ≤ 40) (h2 : pcs.length ≤ 40) (k : Nat) (hk : 2200 ≤ k) : seamarkref29_Given.f k need idx pcs = some (givT need idx pcs) := by
  obtain ⟨k, rfl⟩ : ∃ q, k = q + 1 := ⟨k - 1, by omega⟩
  have hj : seamarkref29_Given.j0 (k + 1) idx pcs true = some false := by simp only [seamarkref29_Given.j0, if_true]
  unfold seamarkref29_Given.f givT
  by_cases a1 : need < 1
  · rw [if_pos a1, hj, decide_eq_false (by omega)]; rfl
  rw [if_neg a1, decide_eq_true (by omega : 1 ≤ need)]
  by_cases a2 : need > 32
  · rw [if_pos a2, hj, decide_eq_false (by omega)]; rfl
  rw [if_neg a2, decide_eq_true (by omega : need ≤ 32)]
  by_cases a3 : (idx.length : Int) = (pcs.length : Int)
  · rw [if_pos a3, decide_eq_true (by omega : idx.length = pcs.length)]
    by_cases a4 : (idx.length : Int) > 32
    · rw [decide_eq_true a4, hj]
      have : idxT [] idx = false := by
        cases h : idxT [] idx with
        | false => rfl
        | true => have := (idxT_Idx.1 h).le; omega
      rw [this, Bool.and_false]
    · rw [decide_eq_false a4]
      simp only [seamarkref29_Given.j0]
      rw [if_neg (by simp)]
      obtain ⟨b, e, hb⟩ := Given_l0 idx pcs (by omega) h1 idx.length k 0 (Nat.zero_le _) (by omega) (by omega)
      refine Eq.trans e (congrArg some ?_)
      rw [Bool.eq_iff_iff, hb]
      simp only [Bool.true_and, Bool.and_eq_true]
      rw [idxT_Idx]
      unfold eqlT
      rw [List.all_eq_true]
      constructor
      · intro hh
        refine ⟨fun r hr => ?_, fun y hy => ?_, ?_⟩
        · obtain ⟨i, hi, rfl⟩ := List.getElem_of_mem hr
          have := (hh i (Nat.zero_le _) (by omega)).2.1
          rw [rd_L1_of hi] at this
          rw [decide_eq_true this.1, decide_eq_true this.2]; rfl
        · obtain ⟨i, hi, rfl⟩ := List.getElem_of_mem hy
          have := (hh i (Nat.zero_le _) hi).1
          rwa [rd_of hi] at this
        · refine List.pairwise_iff_getElem.2 fun i j hi hj hij => ?_
          have := (hh j (Nat.zero_le _) hj).2.2 i hij
          rwa [rd_of hi, rd_of hj] at this
      · rintro ⟨g1, g2, g3⟩ j _ hj
        refine ⟨?_, ?_, fun c hc => ?_⟩
        · rw [rd_of hj]; exact g2 _ (List.getElem_mem hj)
        · have := g1 (rd_L1 pcs (j : Int)) (by rw [rd_L1_of (by omega)]; exact List.getElem_mem _)
          simp only [Bool.and_eq_true, decide_eq_true_eq] at this
          exact this
        · rw [rd_of hj, rd_of (by omega : c < idx.length)]
          exact List.pairwise_iff_getElem.1 g3 c j (by omega) hj hc
  · rw [if_neg a3, hj, decide_eq_false (by omega : ¬ idx.length = pcs.length)]; rfl
theorem fits_l0 {n : Nat} {idx : List Int} {pcs : List (List Int)} {L m : Nat} (h : Given (n : Int) idx pcs L m) (hm : m ≤ 24) (d : Nat) : ∀ (k i : Nat), n ≤ i → i ≤ L → L - i = d → d + 1600 < k →
    ∃ b, seamarkref29_fits.l0 k (n : Int) idx pcs (i : Int) = some b ∧ (b = true ↔ ∀ j, i ≤ j → j < idx.length → valT (idx.take n) (pcs.take n) (rd idx (j : Int)) = rd_L1 pcs (j : Int)) := by
  have hL := h.idx.le
  have h3 := h.len
  induction d with
  | zero =>
    intro k i h0 h1 hd hk
    obtain ⟨k, rfl⟩ : ∃ q, k = q + 1 := ⟨k - 1, by omega⟩
    simp only [seamarkref29_fits.l0]
    rw [if_neg (by omega)]
    exact ⟨true, rfl, by simp; intro j hj hj2; omega⟩
  | succ d ih =>
    intro k i h0 h1 hd hk
    obtain ⟨k, rfl⟩ : ∃ q, k = q + 1 := ⟨k - 1, by omega⟩
    have hi : i < idx.length := by omega
    have hp := h.rows.1
    have hlo := h.lo
    have hrt : RowsB (pcs.take n) n m := h.rows.take (by omega)
    have hit := h.idx.take n
    have hil : (idx.take n).length = n := by rw [List.length_take]; omega
    have hx := h.idx.at hi
    simp only [seamarkref29_fits.l0]
    rw [if_pos (by omega), if_pos (by omega), if_pos (by omega), if_pos (by omega), if_pos (by omega), Int.toNat_natCast, Value_eq hit hx.1 (by omega) hrt hm (by omega) hil (by omega) k (by omega)]
    simp only [Option.bind_some]
    have hb1 := (valT_eq hit hx.1 (by omega) hrt (by rw [hil]; exact Nat.le_refl _) (by omega)).1
    rw [if_pos (by omega), Bytes_eq k _ _ (by omega) (by omega)]
    simp only [Option.bind_some, decide_eq_true_eq]
    by_cases he : valT (idx.take n) (pcs.take n) (rd idx (i : Int)) = rd_L1 pcs (i : Int)
    · rw [if_pos he, wn (by omega)]
      obtain ⟨b, e, hb⟩ := ih k (i + 1) (by omega) (by omega) (by omega) (by omega)
      refine ⟨b, e, hb.trans ⟨fun hh j hj hj2 => ?_, fun hh j hj hj2 => hh j (by omega) hj2⟩⟩
      by_cases e2 : j = i
      · rw [e2]; exact he
      · exact hh j (by omega) hj2
    · rw [if_neg he]
      exact ⟨false, rfl, by simp; exact ⟨i, Nat.le_refl _, hi, he⟩⟩
theorem fits_eq {n : Nat} {idx : List Int} {pcs : List (List Int)} {L m : Nat} (h : Given (n : Int) idx pcs L m) (hm : m ≤ 24) (k : Nat) (hk : 1700 ≤ k) : ∃ b, seamarkref29_fits.f k (n : Int) idx pcs = some b ∧ (b = true ↔ FitP n idx pcs) := by
  have hL := h.idx.le
  have h3 := h.len
  unfold seamarkref29_fits.f
  by_cases hn : n ≤ L
  · exact fits_l0 h hm (L - n) k n (Nat.le_refl _) hn rfl (by omega)
  · obtain ⟨k, rfl⟩ : ∃ q, k = q + 1 := ⟨k - 1, by omega⟩
    simp only [seamarkref29_fits.l0]
    rw [if_neg (by omega)]
    exact ⟨true, rfl, by simp [FitP]; intro i h1 h2; omega⟩

/-! ### repair, decode, fits: what both answer -/
/-- a repair's answer -/
def repT (n : Nat) (idx : List Int) (pcs : List (List Int)) (fit : Bool) (x : Int) : List Int × Int := if idx.length < n then ([], 4) else if fit = true then (valT (idx.take n) (pcs.take n) x, 0) else ([], 18)
theorem Repair_ref {n : Nat} {x : Int} {idx : List Int} {pcs : List (List Int)} {L m : Nat} (h : Given (n : Int) idx pcs L m) (hm : m ≤ 24) (hx0 : 0 ≤ x) (hx : x < 32) (k : Nat) (hk : 2300 ≤ k) :
    ∃ b, (b = true ↔ FitP n idx pcs) ∧ seamarkref29_Repair.f k (n : Int) idx pcs x = some (repT n idx pcs b x) := by
  have hL := h.idx.le
  have h3 := h.len
  have hp := h.rows.1
  have hlo := h.lo
  have hhi := h.hi
  have hG := Given_eq (n : Int) idx pcs (by omega) (by omega) k (by omega)
  rw [h.giv] at hG
  obtain ⟨k, rfl⟩ : ∃ q, k = q + 1 := ⟨k - 1, by omega⟩
  obtain ⟨b, e, hb⟩ := fits_eq h hm k (by omega)
  refine ⟨b, hb, ?_⟩
  unfold seamarkref29_Repair.f
  rw [hG]; simp only [Option.bind_some, if_true]
  rw [if_neg (by omega), decide_eq_false (by omega)]
  simp only [seamarkref29_Repair.j0]
  rw [if_neg (by simp)]
  unfold repT
  by_cases hn : (idx.length : Int) < (n : Int)
  · rw [if_pos hn, if_pos (show idx.length < n by omega)]
  · rw [if_neg hn, if_neg (show ¬ idx.length < n by omega), e]
    simp only [Option.bind_some]
    cases b with
    | false => rw [if_neg (by simp), if_neg (by simp)]
    | true =>
      have hil : (idx.take n).length = n := by rw [List.length_take]; omega
      rw [if_pos rfl, if_pos rfl, if_pos (by omega), if_pos (by omega), if_pos (by omega), Int.toNat_natCast, Value_eq (h.idx.take n) hx0 (by omega) (h.rows.take (by omega)) hm (by omega) hil (by omega) k (by omega)]
      rfl
theorem Repair_ref_bad {need want : Int} {idx : List Int} {pcs : List (List Int)} (h1 : idx.length ≤ 40) (h2 : pcs.length ≤ 40) (h : givT need idx pcs = false ∨ want < 0 ∨ want ≥ 32) (k : Nat) (hk : 2300 ≤ k) : seamarkref29_Repair.f k need idx pcs want = some ([], 1) := by
  unfold seamarkref29_Repair.f
  rw [Given_eq need idx pcs (by omega) (by omega) k (by omega)]
  simp only [Option.bind_some]
  obtain ⟨k, rfl⟩ : ∃ q, k = q + 1 := ⟨k - 1, by omega⟩
  have key : seamarkref29_Repair.j0 (k + 1) need idx pcs want true = some ([], 1) := by simp only [seamarkref29_Repair.j0, if_true]
  split
  · rename_i hg
    split
    · exact key
    · rename_i hw
      rcases h with h | h | h
      · rw [h] at hg; simp at hg
      · omega
      · rw [decide_eq_true h]; exact key
  · exact key
theorem need_nat {need : Int} {idx : List Int} {pcs : List (List Int)} {L m : Nat} (h : Given need idx pcs L m) : ∃ n : Nat, need = (n : Int) := Int.eq_ofNat_of_zero_le (by have := h.lo; omega)
theorem small_of {need : Int} {idx : List Int} {pcs : List (List Int)} {L m : Nat} (h : Given need idx pcs L m) (h24 : ∀ r ∈ pcs, r.length ≤ 24) : ∃ m', m' ≤ 24 ∧ Given need idx pcs L m' := by
  rcases Nat.eq_zero_or_pos L with h0 | h0
  · refine ⟨0, by omega, h.lo, h.hi, h.len, ⟨h.rows.1, fun r hr => ?_⟩, by omega, h.idx⟩
    have := h.rows.1
    have : pcs = [] := List.length_eq_zero_iff.1 (by omega)
    rw [this] at hr; simp at hr
  · have := (h.rows.at h0).1
    have h2 : 0 < pcs.length := by rw [h.rows.1]; exact h0
    have := h24 (rd_L1 pcs ((0 : Nat) : Int)) (by rw [rd_L1_of h2]; exact List.getElem_mem h2)
    exact ⟨m, by omega, h⟩
theorem fit_same {b c : Bool} {P : Prop} (h1 : b = true ↔ P) (h2 : c = true ↔ P) : b = c := by
  cases b <;> cases c <;> simp_all
theorem Repair_both {need x : Int} {idx : List Int} {pcs : List (List Int)} (hb : ∀ r ∈ pcs, Bytes r) (h1 : idx.length ≤ 40) (h2 : pcs.length ≤ 8) (h24 : ∀ r ∈ pcs, r.length ≤ 24) (k : Nat) (hk : 2300 ≤ k) :
    ∃ r e, erasure_Repair.f k need idx pcs x = some (r, e) ∧ seamarkref29_Repair.f k need idx pcs x = some (r, e) ∧ r.length ≤ 24 := by
  obtain ⟨q, rfl⟩ : ∃ q, k = q + 1 := ⟨k - 1, by omega⟩
  by_cases hbad : givT need idx pcs = false ∨ x < 0 ∨ x ≥ 32
  · exact ⟨[], 1, Repair_bad (by omega) (by omega) hbad q, Repair_ref_bad h1 (by omega) hbad _ hk, by simp⟩
  · have hg : givT need idx pcs = true := by
      cases h : givT need idx pcs with
      | true => rfl
      | false => exact absurd (.inl h) hbad
    have hx0 : 0 ≤ x := by by_cases h : x < 0; exact absurd (.inr (.inl h)) hbad; omega
    have hx : x < 32 := by by_cases h : x ≥ 32; exact absurd (.inr (.inr h)) hbad; omega
    obtain ⟨L, m, hG⟩ := givT_of hb hg
    obtain ⟨m, hm, hG⟩ := small_of hG h24
    obtain ⟨n, rfl⟩ := need_nat hG
    have h3 := hG.len
    have hlo := hG.lo
    obtain ⟨b, hbf, e⟩ := Repair_ref hG hm hx0 hx (q + 1) hk
    rw [Repair_eq hG hx0 hx q (by omega), e]
    unfold repT
    by_cases hn : idx.length < n
    · rw [recovered_few hG (by omega), if_pos hn]
      exact ⟨[], 4, by simp, rfl, by simp⟩
    · rw [if_neg hn]
      rcases recovered_eq hG (by omega) [x] (by simp) q (by omega) (by simp; omega) with ⟨hf, e2⟩ | ⟨hf, e2⟩
      · rw [e2, if_pos (hbf.2 hf)]
        have hil : (idx.take n).length = n := by rw [List.length_take]; omega
        refine ⟨_, 0, ?_, rfl, by have := (valT_eq (rows := pcs.take n) (x := x) (hG.idx.take n) hx0 (by omega) (hG.rows.take (by omega)) (by rw [hil]; exact Nat.le_refl _) (by omega)).1; omega⟩
        simp only [Option.bind_some, if_true]
        rw [if_pos (by simp)]; rfl
      · rw [e2, if_neg (fun h => hf (hbf.1 h))]
        exact ⟨[], 18, by simp, rfl, by simp⟩
theorem Decode_l0 {n : Nat} {idx : List Int} {pcs : List (List Int)} {L m : Nat} (h : Given (n : Int) idx pcs L m) (hm : m ≤ 24) (hn : n ≤ L) (hf : FitP n idx pcs) (d : Nat) : ∀ (k i : Nat), i ≤ n → n - i = d → d + 2400 < k →
    seamarkref29_Decode.l0 k (n : Int) idx pcs ((ints i).map (valT (idx.take n) (pcs.take n))) (i : Int) = some ((ints n).map (valT (idx.take n) (pcs.take n)), 0) := by
  have hhi := h.hi
  have h3 := h.len
  induction d with
  | zero =>
    intro k i hi hd hk
    obtain ⟨k, rfl⟩ : ∃ q, k = q + 1 := ⟨k - 1, by omega⟩
    obtain rfl : i = n := by omega
    simp only [seamarkref29_Decode.l0]
    rw [if_neg (by omega)]
  | succ d ih =>
    intro k i hi hd hk
    obtain ⟨k, rfl⟩ : ∃ q, k = q + 1 := ⟨k - 1, by omega⟩
    obtain ⟨b, hb, e⟩ := Repair_ref h hm (x := (i : Int)) (by omega) (by omega) k (by omega)
    simp only [seamarkref29_Decode.l0]
    rw [if_pos (by omega), e]
    unfold repT
    rw [if_neg (by omega), if_pos (hb.2 hf)]
    simp only [Option.bind_some, if_true]
    rw [if_pos (by simp [ints_len]; omega), wn (by omega)]
    have e2 : (ints i).map (valT (idx.take n) (pcs.take n)) ++ [valT (idx.take n) (pcs.take n) (i : Int)] = (ints (i + 1)).map (valT (idx.take n) (pcs.take n)) := by rw [ints_succ, List.map_append]; rfl
    rw [e2]
    exact ih k (i + 1) (by omega) (by omega) (by omega)
theorem Decode_both {need size : Int} {idx : List Int} {pcs : List (List Int)} (hb : ∀ r ∈ pcs, Bytes r) (h1 : idx.length ≤ 40) (h2 : pcs.length ≤ 8) (h24 : ∀ r ∈ pcs, r.length ≤ 24) (k : Nat) (hk : 2600 ≤ k) :
    ∃ r e, erasure_Decode.f k need size idx pcs = some (r, e) ∧ seamarkref29_Decode.f k need size idx pcs = some (r, e) ∧ r.length ≤ 32 ∧ ∀ q ∈ r, q.length ≤ 24 := by
  have hGv := Given_eq need idx pcs (by omega) (by omega) k (by omega)
  obtain ⟨k, rfl⟩ : ∃ q, k = q + 1 := ⟨k - 1, by omega⟩
  have b2 : seamarkref29_Decode.j0 (k + 1) need idx pcs true = some ([], 1) := by simp only [seamarkref29_Decode.j0, if_true]
  cases hg : givT need idx pcs with
  | false =>
    rw [hg] at hGv
    refine ⟨[], 1, Decode_bad (by omega) (by omega) hg k, ?_, by simp, by simp⟩
    unfold seamarkref29_Decode.f
    rw [hGv]; simp only [Option.bind_some]
    rw [if_neg (by simp)]; exact b2
  | true =>
    rw [hg] at hGv
    obtain ⟨L, m, hG⟩ := givT_of hb hg
    obtain ⟨m, hm, hG⟩ := small_of hG h24
    obtain ⟨n, rfl⟩ := need_nat hG
    have h3 := hG.len
    have hlo := hG.lo
    have hhi := hG.hi
    have hp := hG.rows.1
    by_cases hsz : 0 < L ∧ (m : Int) ≠ size
    · have hm0 : (rd_L1 pcs 0).length = m := (hG.rows.at hsz.1).1
      refine ⟨[], 1, Decode_size hG hsz.1 hsz.2 k, ?_, by simp, by simp⟩
      unfold seamarkref29_Decode.f
      rw [hGv]; simp only [Option.bind_some, if_true]
      rw [if_pos (by omega), if_pos (by omega), hm0, show ((m : Int) != size) = true by simpa using hsz.2]
      exact b2
    · have hms : 0 < L → (m : Int) = size := fun h0 => by
        by_cases e : (m : Int) = size
        · exact e
        · exact absurd ⟨h0, e⟩ hsz
      have key : seamarkref29_Decode.f (k + 1) (n : Int) size idx pcs = seamarkref29_Decode.l0 k (n : Int) idx pcs [] 0 := by
        have b3 : seamarkref29_Decode.j0 (k + 1) (n : Int) idx pcs false = seamarkref29_Decode.l0 k (n : Int) idx pcs [] 0 := by simp only [seamarkref29_Decode.j0]; rw [if_neg (by simp)]
        unfold seamarkref29_Decode.f
        rw [hGv]; simp only [Option.bind_some, if_true]
        by_cases h0 : (pcs.length : Int) > 0
        · have hm0 : (rd_L1 pcs 0).length = m := (hG.rows.at (i := 0) (by omega)).1
          rw [if_pos h0, if_pos (by omega), hm0, show ((m : Int) != size) = false by simpa using hms (by omega)]
          exact b3
        · rw [if_neg h0]; exact b3
      rw [Decode_eq hG hms k (by omega), key]
      obtain ⟨k, rfl⟩ : ∃ q, k = q + 1 := ⟨k - 1, by omega⟩
      obtain ⟨b, hbf, eR⟩ := Repair_ref hG hm (x := 0) (by omega) (by omega) k (by omega)
      have one : ∀ r e, repT n idx pcs b 0 = (r, e) → e ≠ 0 → seamarkref29_Decode.l0 (k + 1) (n : Int) idx pcs [] 0 = some ([], e) := by
        intro r e hr he
        simp only [seamarkref29_Decode.l0]
        rw [if_pos (by omega), eR, hr]
        simp only [Option.bind_some]
        rw [if_neg he]
      by_cases hn : idx.length < n
      · rw [recovered_few hG (by omega)]
        exact ⟨[], 4, rfl, one [] 4 (by unfold repT; rw [if_pos hn]) (by omega), by simp, by simp⟩
      · rcases recovered_eq hG (by omega) (ints n) (by rw [ints_len]; omega) (k + 1) (by omega) (by rw [ints_len]; omega) with ⟨hf, e2⟩ | ⟨hf, e2⟩
        · rw [e2]
          refine ⟨_, 0, rfl, Decode_l0 hG hm (by omega) hf n (k + 1) 0 (Nat.zero_le _) (by omega) (by omega), by simp [ints_len]; omega, fun q hq => ?_⟩
          obtain ⟨x, hx, rfl⟩ := List.mem_map.1 hq
          have hxi := (ints_idx (n := n) (by omega)).1 x hx
          have hil : (idx.take n).length = n := by rw [List.length_take]; omega
          have := (valT_eq (rows := pcs.take n) (x := x) (hG.idx.take n) hxi.1 (by omega) (hG.rows.take (by omega)) (by rw [hil]; exact Nat.le_refl _) (by omega)).1
          omega
        · rw [e2]
          exact ⟨[], 18, rfl, one [] 18 (by unfold repT; rw [if_neg hn, if_neg (fun h => hf (hbf.1 h))]) (by omega), by simp, by simp⟩
theorem Fits_both {need : Int} {idx : List Int} {pcs : List (List Int)} (hb : ∀ r ∈ pcs, Bytes r) (h1 : idx.length ≤ 40) (h2 : pcs.length ≤ 8) (h24 : ∀ r ∈ pcs, r.length ≤ 24) (k : Nat) (hk : 2600 ≤ k) :
    ∃ r, erasure_Fits.f k need idx pcs = some r ∧ seamarkref29_Fits.f k need idx pcs = some r := by
  have hGv := Given_eq need idx pcs (by omega) (by omega) k (by omega)
  cases hg : givT need idx pcs with
  | false =>
    rw [hg] at hGv
    refine ⟨_, Fits_bad (by omega) (by omega) hg k, ?_⟩
    unfold seamarkref29_Fits.f
    rw [hGv]; simp
  | true =>
    rw [hg] at hGv
    obtain ⟨L, m, hG⟩ := givT_of hb hg
    obtain ⟨m, hm, hG⟩ := small_of hG h24
    obtain ⟨n, rfl⟩ := need_nat hG
    obtain ⟨b, e, hbf⟩ := Fits_eq hG k (by omega)
    obtain ⟨c, e2, hcf⟩ := fits_eq hG hm k (by omega)
    refine ⟨_, e, ?_⟩
    unfold seamarkref29_Fits.f
    rw [hGv]; simp only [Option.bind_some, if_true]
    rw [e2, fit_same hbf hcf]; rfl
end Go.Proofs.Ytcjjohealloglaa.Ref
