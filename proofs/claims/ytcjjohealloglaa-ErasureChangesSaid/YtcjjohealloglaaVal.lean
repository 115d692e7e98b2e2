/-
  What the erasure package's functions compute, in the field: products, inverses, factors, values of an interpolation; each printed function's answer in closed form, for enough rounds.
-/
import Derived.Test.YtcjjohealloglaaEx7
import Derived.Test.YtcjjohealloglaaGf
namespace Go.Proofs.Ytcjjohealloglaa.Val
open Go.RowKit Go.Proofs.YtcjjohealloglaaW.PrintWords Go.Proofs.YtcjjohealloglaaW.PrintLast Go.Proofs.Ytcjjohealloglaa.E Go.Proofs.Ytcjjohealloglaa.Gf
set_option linter.unusedVariables false

theorem bits_xor_nat (k : IntKind) (j : Nat) (hj : j ≤ k.bits) (hk : ∀ n : Int, 0 ≤ n → n < 2 ^ j → k.wrap n = n) (a b : Nat) (ha : a < 2 ^ j) (hb : b < 2 ^ j) :
    Go.bits .xor k a b = ((a ^^^ b : Nat) : Int) := by
  have hp : 2 ^ j ≤ 2 ^ k.bits := Nat.pow_le_pow_right (by decide) hj
  have ha' : a % 2 ^ k.bits = a := Nat.mod_eq_of_lt (Nat.lt_of_lt_of_le ha hp)
  have hb' : b % 2 ^ k.bits = b := Nat.mod_eq_of_lt (Nat.lt_of_lt_of_le hb hp)
  simp only [Go.bits, BitVec.ofInt_natCast, BitVec.toNat_xor, BitVec.toNat_ofNat, ha', hb']
  exact hk _ (Int.natCast_nonneg _) (by have := Nat.xor_lt_two_pow ha hb; exact_mod_cast this)
theorem wraps_i64 (n : Int) (h₀ : 0 ≤ n) (h₁ : n < 2 ^ 20) : IntKind.i64.wrap n = n := by rw [IntKind.wrap_i64]; omega
theorem xor64 (a b : Nat) (ha : a < 1048576) (hb : b < 1048576) : Go.bits .xor .i64 a b = ((a ^^^ b : Nat) : Int) := bits_xor_nat .i64 20 (by decide) wraps_i64 a b (by simpa using ha) (by simpa using hb)
theorem xor8 (a b : Nat) (ha : a < 256) (hb : b < 256) : Go.bits .xor .u8 a b = ((a ^^^ b : Nat) : Int) := bits_xor_nat .u8 8 (by decide) wraps_u8 a b (by simpa using ha) (by simpa using hb)
theorem and8 (a : Nat) (ha : a < 256) : Go.bits .and .u8 a 1 = ((a % 2 : Nat) : Int) := by
  have := bits_mask .u8 8 (by decide) wraps_u8 1 (by decide) (a : Int) (by omega) (by omega)
  simpa using this

theorem gmulL_zero (k : Nat) : ∀ o x, gmulL k 0 o x = o := by
  induction k with
  | zero => intro o x; rfl
  | succ k ih => intro o x; simp only [gmulL]; rw [if_neg (by decide)]; exact ih _ _
theorem xt_int (x : Nat) (hx : x < 256) : (if (wrap64 ((x : Int) * 2)) > 255 then Go.bits .xor .i64 (wrap64 ((x : Int) * 2)) 285 else wrap64 ((x : Int) * 2)) = ((xt x : Nat) : Int) := by
  have hw : wrap64 ((x : Int) * 2) = ((2 * x : Nat) : Int) := by unfold wrap64; omega
  rw [hw]
  unfold xt
  by_cases h : 2 * x > 255
  · rw [if_pos (by omega), if_pos h]
    exact xor64 (2 * x) 285 (by omega) (by omega)
  · rw [if_neg (by omega), if_neg h]
theorem Mul_l0 (m : Nat) : ∀ (k b o x : Nat), b < 2 ^ m → b < 256 → o < 256 → x < 256 → m < k → erasure_Mul.l0 k (b : Int) (o : Int) (x : Int) = some ((gmulL m b o x : Nat) : Int) := by
  induction m with
  | zero =>
    intro k b o x hb _ ho hx hk
    obtain ⟨k, rfl⟩ : ∃ q, k = q + 1 := ⟨k - 1, by omega⟩
    obtain rfl : b = 0 := by simpa using hb
    simp only [erasure_Mul.l0]
    rw [if_neg (by simp), gmulL]
    congr 1; omega
  | succ m ih =>
    intro k b o x hb hb8 ho hx hk
    obtain ⟨k, rfl⟩ : ∃ q, k = q + 1 := ⟨k - 1, by omega⟩
    rw [Nat.pow_succ] at hb
    simp only [erasure_Mul.l0]
    by_cases hb0 : (b : Int) > 0
    · have hx2 := xt_int x hx
      have e1 : Go.bits .xor .i64 (o : Int) (x : Int) = ((o ^^^ x : Nat) : Int) := xor64 o x (by omega) (by omega)
      have e2 : (b : Int) / 2 = ((b / 2 : Nat) : Int) := by omega
      rw [if_pos hb0, and8 b hb8, e1, e2, gmulL]
      have hox := xor_lt ho hx
      have hxt := xt_lt x hx
      by_cases hodd : b % 2 = 1
      · rw [if_pos (by omega), if_pos hodd]
        have r := ih k (b / 2) (o ^^^ x) (xt x) (by omega) (by omega) hox hxt (by omega)
        rw [← hx2] at r
        split at r <;> rename_i hc
        · rw [if_pos hc]; exact r
        · rw [if_neg hc]; exact r
      · rw [if_neg (by omega), if_neg hodd]
        have r := ih k (b / 2) o (xt x) (by omega) (by omega) ho hxt (by omega)
        rw [← hx2] at r
        split at r <;> rename_i hc
        · rw [if_pos hc]; exact r
        · rw [if_neg hc]; exact r
    · obtain rfl : b = 0 := by omega
      rw [if_neg hb0, gmulL_zero]
      congr 1; omega

/-! ### bytes as elements -/
def toF (x : Int) : F := ⟨x.toNat % 256, by omega⟩
def ofF (a : F) : Int := (a.v : Int)
theorem ofF_byte (a : F) : 0 ≤ ofF a ∧ ofF a < 256 := ⟨by unfold ofF; omega, by have := a.lt; unfold ofF; omega⟩
theorem ofF_toF {x : Int} (h0 : 0 ≤ x) (h1 : x < 256) : ofF (toF x) = x := by show (((x.toNat % 256 : Nat)) : Int) = x; omega
theorem toF_ofF (a : F) : toF (ofF a) = a := F.ext (by show (a.v : Int).toNat % 256 = a.v; have := a.lt; omega)
theorem ofF_inj {a b : F} (h : ofF a = ofF b) : a = b := F.ext (by unfold ofF at h; omega)
theorem toF_inj {x y : Int} (hx0 : 0 ≤ x) (hx : x < 256) (hy0 : 0 ≤ y) (hy : y < 256) (h : toF x = toF y) : x = y := by
  rw [← ofF_toF hx0 hx, ← ofF_toF hy0 hy, h]
theorem Mul_eq (k : Nat) (hk : 20 ≤ k) {a b : Int} (ha0 : 0 ≤ a) (ha : a < 256) (hb0 : 0 ≤ b) (hb : b < 256) : erasure_Mul.f k a b = some (ofF (toF a * toF b)) := by
  obtain ⟨x, rfl⟩ := Int.eq_ofNat_of_zero_le ha0
  obtain ⟨y, rfl⟩ := Int.eq_ofNat_of_zero_le hb0
  have h := Mul_l0 8 k y 0 x (by omega) (by omega) (by omega) (by omega) (by omega)
  unfold erasure_Mul.f
  rw [show wrap64 (x : Int) = (x : Int) by unfold wrap64; omega]
  refine Eq.trans h ?_
  congr 1
  show _ = ((gmul ((x : Int).toNat % 256) ((y : Int).toNat % 256) : Nat) : Int)
  rw [show (x : Int).toNat % 256 = x by omega, show (y : Int).toNat % 256 = y by omega]; rfl
theorem mulT_eq {a b : Int} (ha0 : 0 ≤ a) (ha : a < 256) (hb0 : 0 ≤ b) (hb : b < 256) : mulT a b = ofF (toF a * toF b) := by
  unfold mulT; rw [Mul_eq 20 (by omega) ha0 ha hb0 hb]; rfl
theorem Inv_l0 (a : F) (d : Nat) : ∀ (k i : Nat), i ≤ 254 → 254 - i = d → d + 20 < k → erasure_Inv.l0 k (ofF a) (ofF (fpow a i)) (i : Int) = some (ofF (finv a), 0) := by
  induction d with
  | zero =>
    intro k i h1 hd hk
    obtain ⟨k, rfl⟩ : ∃ q, k = q + 1 := ⟨k - 1, by omega⟩
    obtain rfl : i = 254 := by omega
    simp only [erasure_Inv.l0]; rw [if_neg (by omega)]; rfl
  | succ d ih =>
    intro k i h1 hd hk
    obtain ⟨k, rfl⟩ : ∃ q, k = q + 1 := ⟨k - 1, by omega⟩
    simp only [erasure_Inv.l0]
    rw [if_pos (by omega), Mul_eq k (by omega) (ofF_byte _).1 (ofF_byte _).2 (ofF_byte _).1 (ofF_byte _).2]
    simp only [Option.bind_some, toF_ofF]
    rw [show wrap64 ((i : Int) + 1) = ((i + 1 : Nat) : Int) by unfold wrap64; omega]
    exact ih k (i + 1) (by omega) (by omega) (by omega)
theorem Inv_eq (k : Nat) (hk : 300 ≤ k) {a : Int} (ha0 : 0 ≤ a) (ha : a < 256) : erasure_Inv.f k a = some (if a = 0 then (0, 4) else (ofF (finv (toF a)), 0)) := by
  unfold erasure_Inv.f
  split
  · rfl
  · have := Inv_l0 (toF a) 254 k 0 (by omega) (by omega) (by omega)
    rw [ofF_toF ha0 ha] at this
    exact this
theorem toF_zero : toF 0 = zero := rfl
theorem ofF_zero : ofF zero = 0 := rfl
theorem ofF_one : ofF one = 1 := rfl
theorem toF_one : toF 1 = one := rfl
theorem toF_ne {a : Int} (ha0 : 0 ≤ a) (ha : a < 256) (h : a ≠ 0) : toF a ≠ zero := fun e => h (toF_inj ha0 ha (by omega) (by omega) e)
theorem invT_eq {a : Int} (ha0 : 0 ≤ a) (ha : a < 256) (h : a ≠ 0) : invT a = ofF (finv (toF a)) := by
  unfold invT; rw [Inv_eq 300 (by omega) ha0 ha, if_neg h]; rfl

/-! ### factors and values -/
/-- index lists that are told apart: below 32, no one twice -/
def Idx (l : List Int) : Prop := (∀ x ∈ l, 0 ≤ x ∧ x < 32) ∧ l.Nodup
def node (l : List Int) (i : Nat) : F := toF (rd l i)
theorem rd_of {l : List Int} {i : Nat} (h : i < l.length) : rd l (i : Int) = l[i] := by
  unfold rd; simp only [Int.toNat_natCast]; rw [List.getD_eq_getElem?_getD, List.getElem?_eq_getElem h]; rfl
theorem Idx.at {l : List Int} (h : Idx l) {i : Nat} (hi : i < l.length) : 0 ≤ rd l i ∧ rd l i < 32 := by rw [rd_of hi]; exact h.1 _ (List.getElem_mem hi)
theorem Idx.inj {l : List Int} (h : Idx l) : Inj (node l) l.length := by
  intro i j hi hj e
  have h1 := h.at hi; have h2 := h.at hj
  have := toF_inj h1.1 (by omega) h2.1 (by omega) e
  rw [rd_of hi, rd_of hj] at this
  rcases Nat.lt_trichotomy i j with hlt | he | hlt
  · exact absurd this (List.pairwise_iff_getElem.1 h.2 i j hi hj hlt)
  · exact he
  · exact absurd this.symm (List.pairwise_iff_getElem.1 h.2 j i hj hi hlt)
theorem prodT_eq {o y : Int} (ho0 : 0 ≤ o) (ho : o < 256) (hy0 : 0 ≤ y) (hy : y < 256) : prodT o y = ofF (toF o * toF y) := by
  unfold prodT
  rw [mulT_eq (a := 1) (by omega) (by omega) ho0 ho, mulT_eq (ofF_byte _).1 (ofF_byte _).2 hy0 hy, toF_ofF, toF_one, one_mul]
theorem xor_toF {x y : Int} (hx0 : 0 ≤ x) (hx : x < 256) (hy0 : 0 ≤ y) (hy : y < 256) : (Go.bits .xor .i64 x y) % 256 = ofF (toF x + toF y) := by
  obtain ⟨a, rfl⟩ := Int.eq_ofNat_of_zero_le hx0
  obtain ⟨b, rfl⟩ := Int.eq_ofNat_of_zero_le hy0
  rw [xor64 a b (by omega) (by omega)]
  show _ = ((((a : Int).toNat % 256) ^^^ ((b : Int).toNat % 256) : Nat) : Int)
  rw [show (a : Int).toNat % 256 = a by omega, show (b : Int).toNat % 256 = b by omega]
  have := xor_lt (a := a) (b := b) (by omega) (by omega)
  omega
theorem xor8_toF {x y : Int} (hx0 : 0 ≤ x) (hx : x < 256) (hy0 : 0 ≤ y) (hy : y < 256) : Go.bits .xor .u8 x y = ofF (toF x + toF y) := by
  obtain ⟨a, rfl⟩ := Int.eq_ofNat_of_zero_le hx0
  obtain ⟨b, rfl⟩ := Int.eq_ofNat_of_zero_le hy0
  rw [xor8 a b (by omega) (by omega)]
  show _ = ((((a : Int).toNat % 256) ^^^ ((b : Int).toNat % 256) : Nat) : Int)
  rw [show (a : Int).toNat % 256 = a by omega, show (b : Int).toNat % 256 = b by omega]
theorem ouT_eq {l : List Int} (hl : Idx l) {x : Int} (hx0 : 0 ≤ x) (hx : x < 256) (k : Nat) (hk : k < l.length) : ∀ i, i ≤ l.length → ouT l x k i = (ofF (over (node l) i (toF x) k), ofF (over (node l) i (node l k) k)) := by
  intro i
  induction i with
  | zero => intro _; rfl
  | succ i ih =>
    intro hi
    have hi' : i < l.length := by omega
    have h1 := hl.at hi'; have h2 := hl.at hk
    simp only [ouT]
    rw [ih (by omega)]
    unfold over
    rw [prodTo, prodTo]
    by_cases e : i = k
    · rw [if_pos (by omega), if_pos e, if_pos e, mul_one, mul_one]
    · rw [if_neg (by omega), if_neg e, if_neg e, xor_toF hx0 hx h1.1 (by omega), xor_toF h2.1 (by omega) h1.1 (by omega)]
      simp only []
      rw [prodT_eq (ofF_byte _).1 (ofF_byte _).2 (ofF_byte _).1 (ofF_byte _).2, prodT_eq (ofF_byte _).1 (ofF_byte _).2 (ofF_byte _).1 (ofF_byte _).2, toF_ofF, toF_ofF, toF_ofF, toF_ofF]
      rfl
theorem facT_eq {l : List Int} (hl : Idx l) {x : Int} (hx0 : 0 ≤ x) (hx : x < 256) {k : Nat} (hk : k < l.length) : facT l x k = ofF (weight (node l) l.length (toF x) k) := by
  unfold facT
  rw [ouT_eq hl hx0 hx k hk l.length (Nat.le_refl _)]
  have hne := over_self hl.inj hk
  have hne' : ofF (over (node l) l.length (node l k) k) ≠ 0 := fun e => hne (ofF_inj (e.trans ofF_zero.symm))
  simp only []
  rw [invT_eq (ofF_byte _).1 (ofF_byte _).2 hne', toF_ofF, mulT_eq (ofF_byte _).1 (ofF_byte _).2 (ofF_byte _).1 (ofF_byte _).2, toF_ofF, toF_ofF]
  rfl

/-- the value in the field, of column c -/
def col (rows : List (List Int)) (c : Nat) (k : Nat) : F := toF (rd (rd_L1 rows (k : Int)) c)
def Bytes (r : List Int) : Prop := ∀ y ∈ r, 0 ≤ y ∧ y < 256
/-- n rows of m bytes -/
def RowsB (rows : List (List Int)) (n m : Nat) : Prop := rows.length = n ∧ ∀ r ∈ rows, r.length = m ∧ Bytes r
theorem rd_L1_of {l : List (List Int)} {i : Nat} (h : i < l.length) : rd_L1 l (i : Int) = l[i] := by
  unfold rd_L1; simp only [Int.toNat_natCast]; rw [List.getD_eq_getElem?_getD, List.getElem?_eq_getElem h]; rfl
theorem RowsB.at {rows : List (List Int)} {n m : Nat} (h : RowsB rows n m) {i : Nat} (hi : i < n) : (rd_L1 rows (i : Int)).length = m ∧ Bytes (rd_L1 rows (i : Int)) := by
  have : i < rows.length := by rw [h.1]; exact hi
  rw [rd_L1_of this]; exact h.2 _ (List.getElem_mem this)
theorem Bytes.at {r : List Int} (h : Bytes r) {i : Nat} (hi : i < r.length) : 0 ≤ rd r i ∧ rd r i < 256 := by rw [rd_of hi]; exact h _ (List.getElem_mem hi)

theorem val_l (l : List Int) (rows : List (List Int)) (x : Int) (hl : Idx l) (hx0 : 0 ≤ x) (hx : x < 256) {m : Nat} (hr : ∀ i, i < l.length → (rd_L1 rows (i : Int)).length = m ∧ Bytes (rd_L1 rows (i : Int))) (z : List Int) (hz : z = List.replicate m 0) :
    ∀ k, k ≤ l.length → ((facs l x k).foldl (fun o p => addT rows o p.1) z).length = m ∧
      ∀ c, c < m → rd ((facs l x k).foldl (fun o p => addT rows o p.1) z) c = ofF (sumTo (fun i => weight (node l) l.length (toF x) i * col rows c i) k) := by
  intro k
  induction k with
  | zero =>
    intro _
    refine ⟨by rw [hz]; exact List.length_replicate, fun c hc => ?_⟩
    rw [hz]; show rd (List.replicate m 0) c = 0
    rw [rd_of (by simpa using hc)]; simp
  | succ k ih =>
    intro hk
    obtain ⟨i1, i2⟩ := ih (by omega)
    have hk' : k < l.length := by omega
    rw [facs, dif_pos hk', List.foldl_append]
    obtain ⟨h1, h2⟩ := hr k hk'
    obtain ⟨o, ho⟩ : ∃ o, o = (facs l x k).foldl (fun o p => addT rows o p.1) z := ⟨_, rfl⟩
    rw [← ho] at i1 i2
    show (addT rows ((facs l x k).foldl (fun o p => addT rows o p.1) z) ((k : Int), facT l x k)).length = m ∧ ∀ c, c < m → rd (addT rows ((facs l x k).foldl (fun o p => addT rows o p.1) z) ((k : Int), facT l x k)) c = _
    rw [← ho]
    have hlen : (addT rows o ((k : Int), facT l x k)).length = m := addT_len rows o ((k : Int), facT l x k) i1 h1
    refine ⟨hlen, fun c hc => ?_⟩
    have hrd := addT_rd rows o ((k : Int), facT l x k) i1 h1 hc
    refine Eq.trans hrd ?_
    have hb := h2.at (i := c) (by rw [h1]; exact hc)
    simp only []
    rw [i2 c hc, facT_eq hl hx0 hx hk', mulT_eq (ofF_byte _).1 (ofF_byte _).2 hb.1 hb.2, toF_ofF, xor8_toF (ofF_byte _).1 (ofF_byte _).2 (ofF_byte _).1 (ofF_byte _).2, toF_ofF, toF_ofF, sumTo]
    rfl
/-- the value at x: column by column the interpolation -/
theorem valT_eq {l : List Int} {rows : List (List Int)} {x : Int} (hl : Idx l) (hx0 : 0 ≤ x) (hx : x < 256) {m n : Nat} (hr : RowsB rows n m) (hn : l.length ≤ n) (hn0 : 0 < n) :
    (valT l rows x).length = m ∧ ∀ c, c < m → rd (valT l rows x) c = ofF (interp (node l) l.length (col rows c) (toF x)) := by
  have h0 := (hr.at hn0).1
  have := val_l l rows x hl hx0 hx (m := m) (fun i hi => hr.at (by omega)) (List.replicate (rd_L1 rows 0).length 0) (by rw [show ((0 : Int)) = ((0 : Nat) : Int) from rfl, h0]) l.length (Nat.le_refl _)
  exact this
theorem valT_bytes {l : List Int} {rows : List (List Int)} {x : Int} (hl : Idx l) (hx0 : 0 ≤ x) (hx : x < 256) {m n : Nat} (hr : RowsB rows n m) (hn : l.length ≤ n) (hn0 : 0 < n) : Bytes (valT l rows x) := by
  obtain ⟨h1, h2⟩ := valT_eq hl hx0 hx hr hn hn0
  intro y hy
  obtain ⟨i, hi, rfl⟩ := List.getElem_of_mem hy
  rw [← rd_of hi, h2 i (by omega)]; exact ofF_byte _
theorem list_ext {a b : List Int} {m : Nat} (ha : a.length = m) (hb : b.length = m) (h : ∀ c, c < m → rd a c = rd b c) : a = b := by
  refine List.ext_getElem (by omega) fun i h1 h2 => ?_
  have := h i (by omega)
  rwa [rd_of h1, rd_of h2] at this
/-- at a node the value is the row -/
theorem valT_node {l : List Int} {rows : List (List Int)} (hl : Idx l) {m : Nat} (hr : RowsB rows l.length m) {j : Nat} (hj : j < l.length) : valT l rows (rd l j) = rd_L1 rows (j : Int) := by
  have hx := hl.at hj
  obtain ⟨h1, h2⟩ := valT_eq hl hx.1 (by omega) hr (Nat.le_refl _) (by omega)
  have h3 := hr.at hj
  refine list_ext h1 h3.1 fun c hc => ?_
  rw [h2 c hc, show toF (rd l j) = node l j from rfl, interp_at hl.inj _ hj]
  have := h3.2.at (i := c) (by rw [h3.1]; exact hc)
  exact ofF_toF this.1 this.2
/-- pieces of a value lead to the same value -/
theorem valT_again {l q : List Int} {rows ps : List (List Int)} (hl : Idx l) (hq : Idx q) (hlq : q.length = l.length) {m : Nat} (hr : RowsB rows l.length m) (hps : RowsB ps q.length m) (h0 : 0 < l.length)
    (hp : ∀ i, i < q.length → rd_L1 ps (i : Int) = valT l rows (rd q i)) {x : Int} (hx0 : 0 ≤ x) (hx : x < 256) : valT q ps x = valT l rows x := by
  obtain ⟨a1, a2⟩ := valT_eq hq hx0 hx hps (Nat.le_refl _) (by omega)
  obtain ⟨b1, b2⟩ := valT_eq hl hx0 hx hr (Nat.le_refl _) h0
  refine list_ext a1 b1 fun c hc => ?_
  rw [a2 c hc, b2 c hc, hlq]
  refine congrArg ofF ?_
  have hqi : Inj (node q) l.length := by have := hq.inj; rwa [hlq] at this
  refine interp_unique hqi _ (interp_deg _ _ _) (fun j hj => ?_) _
  have hj' : j < q.length := by omega
  have hxj := hq.at hj'
  obtain ⟨c1, c2⟩ := valT_eq (x := rd q j) hl hxj.1 (by omega) hr (Nat.le_refl _) h0
  show _ = toF (rd (rd_L1 ps (j : Int)) c)
  rw [hp j hj', c2 c hc, toF_ofF]; rfl

/-! ### the head of the laws -/
theorem up {α : Type} {f : Nat → Option α} (hm : ∀ k, LeO (f k) (f (k + 1))) {k0 : Nat} {r : α} (h : f k0 = some r) : ∀ k, k0 ≤ k → f k = some r := by
  intro k hk
  induction hk with
  | refl => exact h
  | step _ ih => exact hm _ _ ih
theorem head_ok : ∀ k, 400 ≤ k → seamarklaw29_head.f k = some true :=
  up seamarklaw29_head.mono (by decide +kernel : seamarklaw29_head.f 400 = some true)
theorem byte_wf {a : Int} (h : (Lit.int .u8 a).wf = true) : 0 ≤ a ∧ a < 256 := by
  simp [Lit.wf, IntKind.min, IntKind.max, IntKind.bits, IntKind.signed] at h
  omega
end Go.Proofs.Ytcjjohealloglaa.Val
