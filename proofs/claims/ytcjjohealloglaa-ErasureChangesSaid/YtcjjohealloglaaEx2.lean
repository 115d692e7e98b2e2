-- by drive.py (this session's program: it runs print.py beside functions proved by hand). Lean checks it.
import Derived.Test.YtcjjohealloglaaEx0
import Derived.Test.YtcjjohealloglaaEx1
namespace Go.Proofs.Ytcjjohealloglaa.E
open Go.RowKit Go.Proofs.YtcjjohealloglaaW.PrintWords Go.Proofs.YtcjjohealloglaaW.PrintLast Go.Proofs.YtcjjohealloglaaW.PrintMore
attribute [local go_sem] max2_int min2_int max_two min_two max_three min_three max_four min_four   -- for this text's walks alone
set_option linter.unusedVariables false
set_option linter.unusedSimpArgs false

-- BY HAND: erasure_value: function 34
/-! ### erasure_value: function 34 -/
/-! closed forms for the range over the factors -/
def mulT (a b : Int) : Int := (erasure_Mul.f 20 a b).getD 0
def invT (a : Int) : Int := ((erasure_Inv.f 300 a).getD (0, 0)).1
def invE (a : Int) : Int := ((erasure_Inv.f 300 a).getD (0, 0)).2
theorem Mul_total_l (m : Nat) : ∀ (k : Nat) (b o a : Int), b < 2 ^ m → m < k → ∃ r, erasure_Mul.l0 k b o a = some r ∧ 0 ≤ r ∧ r < 256 := by
  induction m with
  | zero =>
    intro k b o a hb hk
    obtain ⟨k, rfl⟩ : ∃ q, k = q + 1 := ⟨k - 1, by omega⟩
    refine ⟨o % 256, ?_, by omega, by omega⟩
    simp only [erasure_Mul.l0]
    rw [if_neg (by omega)]
  | succ m ih =>
    intro k b o a hb hk
    obtain ⟨k, rfl⟩ : ∃ q, k = q + 1 := ⟨k - 1, by omega⟩
    have hb2 : b / 2 < 2 ^ m := by rw [Int.pow_succ] at hb; omega
    simp only [erasure_Mul.l0]
    split
    · split
      · split <;> exact ih k _ _ _ hb2 (by omega)
      · split <;> exact ih k _ _ _ hb2 (by omega)
    · exact ⟨o % 256, rfl, by omega, by omega⟩
theorem Mul_total (a b : Int) (hb : b < 256) : erasure_Mul.f 20 a b = some (mulT a b) ∧ 0 ≤ mulT a b ∧ mulT a b < 256 := by
  obtain ⟨r, h, h0, h1⟩ := Mul_total_l 8 20 b 0 (wrap64 a) (by omega) (by omega)
  have e : erasure_Mul.f 20 a b = some r := h
  have e2 : mulT a b = r := by unfold mulT; rw [e]; rfl
  exact ⟨by rw [e, e2], by omega, by omega⟩
theorem Mul_up (j a b : Int) (k : Nat) {r : Int} (h : erasure_Mul.f k a b = some r) : ∀ d, erasure_Mul.f (k + d) a b = some r := fun d => by
  induction d with
  | zero => exact h
  | succ d ih => exact erasure_Mul.mono a b (k + d) r ih
theorem Inv_total_l (a : Int) (ha : a < 256) (d : Nat) : ∀ (k : Nat) (x i : Int), 0 ≤ i → i ≤ 254 → 254 - i = d → d + 20 < k → 0 ≤ x → x < 256 → ∃ r, erasure_Inv.l0 k a x i = some (r, 0) ∧ 0 ≤ r ∧ r < 256 := by
  induction d with
  | zero =>
    intro k x i h0 h1 hd hk hx0 hx1
    obtain ⟨k, rfl⟩ : ∃ q, k = q + 1 := ⟨k - 1, by omega⟩
    refine ⟨x, ?_, hx0, hx1⟩
    simp only [erasure_Inv.l0]; rw [if_neg (by omega)]
  | succ d ih =>
    intro k x i h0 h1 hd hk hx0 hx1
    obtain ⟨k, rfl⟩ : ∃ q, k = q + 1 := ⟨k - 1, by omega⟩
    obtain ⟨hm, m0, m1⟩ := Mul_total x a ha
    have hm' : erasure_Mul.f k x a = some (mulT x a) := by
      have := Mul_up 0 x a 20 hm (k - 20)
      rwa [show 20 + (k - 20) = k by omega] at this
    obtain ⟨r, hr, hr0⟩ := ih k (mulT x a) (i + 1) (by omega) (by omega) (by omega) (by omega) m0 m1
    refine ⟨r, ?_, hr0⟩
    simp only [erasure_Inv.l0]; rw [if_pos (by omega), hm']; simp only [Option.bind_some]
    rw [show wrap64 (i + 1) = i + 1 by unfold wrap64; omega]; exact hr
theorem Inv_total (a : Int) (ha : a < 256) : erasure_Inv.f 300 a = some (invT a, invE a) ∧ 0 ≤ invT a ∧ invT a < 256 := by
  unfold invT invE erasure_Inv.f
  split
  · exact ⟨rfl, by simp, by simp⟩
  · obtain ⟨r, h, h0, h1⟩ := Inv_total_l a ha 254 300 1 0 (by omega) (by omega) (by omega) (by omega) (by omega) (by omega)
    rw [h]; exact ⟨rfl, h0, h1⟩
theorem product_go (k : Nat) (z : Int) (xs : List Int) (n i : Int) {r : Int} (h0 : 0 ≤ i) (h1 : i < n) (h2 : i < (xs.length : Int)) (h : erasure_Mul.f k z (rd xs i) = some r) :
    erasure_product.l0 (k + 1) z xs n i = erasure_product.l0 k r xs n (wrap64 (i + 1)) := by
  simp only [erasure_product.l0]; rw [if_pos h1, if_pos h0, if_pos h2, h]; rfl
theorem product_end (k : Nat) (z : Int) (xs : List Int) (n i : Int) (h1 : ¬ i < n) : erasure_product.l0 (k + 1) z xs n i = some z := by
  simp only [erasure_product.l0]; rw [if_neg h1]
/-- the product of two elements, as 'product(o, y)' makes it -/
def prodT (o y : Int) : Int := mulT (mulT 1 o) y
theorem product_total (o y : Int) (ho : o < 256) (hy : y < 256) : erasure_product.f 30 [o, y] = some (prodT o y) ∧ 0 ≤ prodT o y ∧ prodT o y < 256 := by
  obtain ⟨h1, a0, a1⟩ := Mul_total 1 o ho
  obtain ⟨h2, b0, b1⟩ := Mul_total (mulT 1 o) y hy
  refine ⟨?_, b0, b1⟩
  have u1 : erasure_Mul.f 29 1 o = some (mulT 1 o) := Mul_up 0 1 o 20 h1 9
  have u2 : erasure_Mul.f 28 (mulT 1 o) y = some (mulT (mulT 1 o) y) := Mul_up 0 _ y 20 h2 8
  have w1 : wrap64 (0 + 1) = 1 := by unfold wrap64; omega
  have w2 : wrap64 (1 + 1) = 2 := by unfold wrap64; omega
  rw [show erasure_product.f 30 [o, y] = erasure_product.l0 (29 + 1) 1 [o, y] 2 0 from rfl, product_go 29 1 [o, y] 2 0 (by omega) (by omega) (by simp) u1, w1,
    show erasure_product.l0 29 (mulT 1 o) [o, y] 2 1 = erasure_product.l0 (28 + 1) (mulT 1 o) [o, y] 2 1 from rfl, product_go 28 (mulT 1 o) [o, y] 2 1 (by omega) (by omega) (by simp) u2, w2]
  exact product_end 27 _ _ _ _ (by omega)
/-- over and under, behind i rounds of the inner loop, for the factor k of the value at x -/
def ouT (l0 : List Int) (x : Int) (k : Nat) : Nat → Int × Int
  | 0 => (1, 1)
  | i + 1 => if (i : Int) = (k : Int) then ouT l0 x k i else
      (prodT (ouT l0 x k i).1 ((Go.bits .xor .i64 x (rd l0 i)) % 256), prodT (ouT l0 x k i).2 ((Go.bits .xor .i64 (rd l0 k) (rd l0 i)) % 256))
theorem ouT_byte (l0 : List Int) (x : Int) (k : Nat) : ∀ i, (0 ≤ (ouT l0 x k i).1 ∧ (ouT l0 x k i).1 < 256) ∧ 0 ≤ (ouT l0 x k i).2 ∧ (ouT l0 x k i).2 < 256
  | 0 => ⟨⟨by simp [ouT], by simp [ouT]⟩, by simp [ouT], by simp [ouT]⟩
  | i + 1 => by
    have ih := ouT_byte l0 x k i
    simp only [ouT]
    split
    · exact ih
    · have h1 := product_total (ouT l0 x k i).1 ((Go.bits .xor .i64 x (rd l0 i)) % 256) ih.1.2 (by omega)
      have h2 := product_total (ouT l0 x k i).2 ((Go.bits .xor .i64 (rd l0 k) (rd l0 i)) % 256) ih.2.2 (by omega)
      exact ⟨h1.2, h2.2⟩
def facT (l0 : List Int) (x : Int) (k : Nat) : Int := mulT (ouT l0 x k l0.length).1 (invT (ouT l0 x k l0.length).2)
theorem facT_byte (l0 : List Int) (x : Int) (k : Nat) : 0 ≤ facT l0 x k ∧ facT l0 x k < 256 :=
  (Mul_total _ _ (Inv_total _ (ouT_byte l0 x k l0.length).2.2).2.2).2
/-- an index below n and its factor, a byte -/
abbrev Fac (n : Nat) := { p : Int × Int // (0 ≤ p.1 ∧ p.1 < (n : Int)) ∧ 0 ≤ p.2 ∧ p.2 < 256 }
abbrev facE (n : Nat) (p : Fac n) : Array Value := #[.int .i64 p.1.1, .int .u8 p.1.2]
def facAt (l0 : List Int) (x : Int) (k : Nat) (h : k < l0.length) : Fac l0.length := ⟨((k : Int), facT l0 x k), ⟨by simp, by simpa using h⟩, facT_byte l0 x k⟩
def facs (l0 : List Int) (x : Int) : Nat → List (Fac l0.length)
  | 0 => []
  | k + 1 => if h : k < l0.length then facs l0 x k ++ [facAt l0 x k h] else facs l0 x k
theorem facs_len (l0 : List Int) (x : Int) : ∀ k, k ≤ l0.length → (facs l0 x k).length = k
  | 0, _ => rfl
  | k + 1, h => by rw [facs, dif_pos (by omega), List.length_append, facs_len l0 x k (by omega)]; rfl

set_option maxHeartbeats 1000000 in
theorem factors_calls (A0 : Option Addr) (n0 c0 : Nat) (x : Int) (w : World) :
    Calls Try.prog 42 #[.slice A0 n0 c0, .int .i64 x] w fun e w' => e = .returned (.func (.func 45) #[] #[.pointer (some ⟨w.heap.size, 0, none⟩), .pointer (some ⟨w.heap.size + 1, 0, none⟩)]) ∧
      w' = (w.alloc (.cells #[.slice A0 n0 c0] 33)).alloc (.cells #[.int .i64 x] 3) := by
  go_enter Try.func42, Try.ntmps42
  go_wp2
  go_ret
  exact ⟨rfl, rfl⟩
/-- what a round of the caller's loop keeps: the blocks below n1, but for block g -/
structure KB (n1 g : Nat) (W W' : World) : Prop where
  size : W.heap.size ≤ W'.heap.size
  same : ∀ k, k < n1 → k ≠ g → W'.heap[k]? = W.heap[k]?
theorem KB.trans {n1 g : Nat} {A B C : World} (h : KB n1 g A B) (k : KB n1 g B C) : KB n1 g A C := ⟨Nat.le_trans h.size k.size, fun i h1 h2 => (k.same i h1 h2).trans (h.same i h1 h2)⟩
theorem KB.of_below {n1 g : Nat} {W W' : World} (h : Below W.heap.size W W') (hn : n1 ≤ W.heap.size) : KB n1 g W W' := ⟨h.size, fun k h1 _ => h.block k (by omega)⟩
theorem KB.cell {n1 g : Nat} {W W' : World} (h : KB n1 g W W') (a : Addr) (h1 : a.block < n1) (h2 : a.block ≠ g) : W'.cell? a = W.cell? a := World.cell?_of_block (h.same _ h1 h2)
theorem blk_add (a : Addr) (i : Nat) : (a.add i).block = a.block := by unfold Addr.add; split <;> rfl
theorem below_drewN {B n : Nat} {w w' : World} (h : Below B w w') : Below B w (w'.drewN n) := ⟨h.os, h.tape, h.output, h.size, h.block⟩
theorem grown_of_below {W W' : World} (h : Below W.heap.size W W') : W.grownBy W' none := ⟨h.os, h.tape, h.output, h.size, fun k hk _ => h.block k hk⟩

theorem pair_reads (w : World) (b : Nat) (hb : w.heap.size = b) (o y : Int) : Kd.C (Kd.int .u8) (w.alloc (.cells #[.int .u8 o, .int .u8 y] 5)) (some ⟨b, 0, none⟩) 2 [o, y] := by
  subst hb
  refine Kd.C_of_reads (d := (0 : Int)) ⟨rfl, by omega, fun _ => ⟨_, rfl, fun j hj => ?_⟩⟩
  have hnew := World.alloc_heap_new w (.cells #[.int .u8 o, .int .u8 y] 5)
  match j, hj with
  | 0, _ => unfold World.cell?; rw [show ((⟨w.heap.size, 0, none⟩ : Addr).add 0).block = w.heap.size from rfl, hnew]; rfl
  | 1, _ => unfold World.cell?; rw [show ((⟨w.heap.size, 0, none⟩ : Addr).add 1).block = w.heap.size from rfl, hnew]; rfl
theorem product_pair (w : World) (b : Nat) (hb : w.heap.size = b) (o y : Int) (ho : o < 256) (hy : y < 256) : Calls Try.prog 46 #[.slice (some ⟨b, 0, none⟩) 2 2] (w.alloc (.cells #[.int .u8 o, .int .u8 y] 5)) fun e w' =>
    e = .returned (.int .u8 (prodT o y)) ∧ ∃ d, w' = (w.alloc (.cells #[.int .u8 o, .int .u8 y] 5)).drewN d :=
  (erasure_product.calls 30 (some ⟨b, 0, none⟩) 2 [o, y] (prodT o y) _ (pair_reads w b hb o y) (Nat.le_refl _) (product_total o y ho hy).1).mono fun _ _ ⟨h1, h2⟩ => ⟨h1, h2.out⟩

set_option maxRecDepth 100000 in
set_option maxHeartbeats 2000000 in
theorem facs_in (l : Nat) (n1 g b1 b2 : Nat) (A0 : Option Addr) (c0 : Nat) (l0 : List Int) (x : Int) (J Jx : List (Fac l0.length) → World → Prop) (W : World)
    (hlen : l0.length ≤ 140737488355328) (hn1 : n1 ≤ W.heap.size) (h1 : b1 < n1 ∧ b1 ≠ g) (h2 : b2 < n1 ∧ b2 ≠ g) (hA : 0 < l0.length → ∀ ad, A0 = some ad → ad.block < n1 ∧ ad.block ≠ g)
    (hc1 : W.cell? ⟨b1, 0, none⟩ = some (.slice A0 l0.length c0)) (hc2 : W.cell? ⟨b2, 0, none⟩ = some (.int .i64 x)) (hr : Kd.C (Kd.int .i64) W A0 l0.length l0)
    (hJ : AbidesFrom W.heap.size J)
    (hY : ∀ pre p W1, J pre W1 → pre.length < l0.length → YieldAt Fence.wide 0 Try.prog l (facE l0.length p) W1 fun e W' =>
      (e = .returned (.bool true) ∧ J (pre ++ [p]) W' ∧ KB n1 g W1 W') ∨ (e = .returned (.bool false) ∧ Jx (pre ++ [p]) W')) (h0 : J [] W) :
    CallsIn Fence.wide 1 Try.prog 45 #[.func (.yield l) #[] #[], .pointer (some ⟨b1, 0, none⟩), .pointer (some ⟨b2, 0, none⟩)] W fun e W' => (∃ v, e = .returned v) ∧
      ((∃ xs, xs = facs l0 x l0.length ∧ J xs W') ∨ (∃ pre, True ∧ Jx pre W')) := by
  refine callsIn_of_wp Try.func45 rfl trivial ?_ rfl
  simp only [Try.ntmps45, List.size_toArray, List.length_cons, List.length_nil, Nat.reduceAdd, Nat.reduceSub, Array.replicate_succ, Array.replicate_zero, List.push_toArray, List.append_toArray, List.nil_append, List.cons_append]
  gi_wp2
  gi_loopw [14] (fun v wr => ∃ k : Nat, k ≤ l0.length ∧ v = .int .i64 k ∧ Aside0 (J (facs l0 x k) wr) ∧ Aside0 (KB n1 g W wr)) (fun v _ => l0.length - (intOf v).toNat)
  case atStart => exact ⟨0, Nat.zero_le _, rfl, ⟨h0⟩, ⟨Nat.le_refl _, fun _ _ _ => rfl⟩⟩
  case round =>
    obtain ⟨k, hk, rfl, HJ, HK⟩ := hrel
    obtain ⟨wo, rfl⟩ : ∃ z, z = wr := ⟨_, rfl⟩
    have hw : W.heap.size ≤ wo.heap.size := HK.out.size
    by_cases hlt : k < l0.length
    · obtain ⟨ad, rfl, hx⟩ := Kd.at_int hr (k : Int) (by omega) (by omega)
      have hA' := hA (by omega) ad rfl
      have hcells : ∀ (i : Nat), i < l0.length → wo.cell? (ad.add i) = some (.int .i64 (rd l0 i)) := fun i hi => by
        obtain ⟨ad2, e2, h2⟩ := Kd.at_int hr (i : Int) (by omega) (by omega)
        cases e2; exact (HK.out.cell (ad.add i) (by rw [blk_add]; exact hA'.1) (by rw [blk_add]; exact hA'.2)).trans h2
      have hck := hcells k hlt
      have hx1 : wo.cell? ⟨b1, 0, none⟩ = some (.slice (some ad) l0.length c0) := (HK.out.cell ⟨b1, 0, none⟩ h1.1 h1.2).trans hc1
      have hx2 : wo.cell? ⟨b2, 0, none⟩ = some (.int .i64 x) := (HK.out.cell ⟨b2, 0, none⟩ h2.1 h2.2).trans hc2
      clear hx
      have HC := Aside0.mk hcells
      have HX2 := Aside0.mk hx2
      clear hcells hx2
      gi_wp2
      clear hck hx1
      gi_loopw [6, 7, 21] (fun v6 v7 v21 wi => ∃ i : Nat, i ≤ l0.length ∧ v21 = .int .i64 i ∧ v6 = .int .u8 (ouT l0 x k i).1 ∧ v7 = .int .u8 (ouT l0 x k i).2 ∧ Aside0 (Below wo.heap.size wo wi)) (fun _ _ v _ => l0.length - (intOf v).toNat)
      case atStart => exact ⟨0, Nat.zero_le _, rfl, rfl, rfl, ⟨Below.refl _ _⟩⟩
      case round =>
        obtain ⟨i, hi, rfl, rfl, rfl, HB⟩ := hrel
        by_cases hil : i < l0.length
        · have hci : wr.cell? (ad.add i) = some (.int .i64 (rd l0 i)) := (HB.out.cell (p := ad.add i) (by rw [blk_add]; omega)).trans (HC.out i hil)
          have hxi : wr.cell? ⟨b2, 0, none⟩ = some (.int .i64 x) := (HB.out.cell (p := ⟨b2, 0, none⟩) (by show b2 < _; omega)).trans HX2.out
          by_cases hik : i = k
          · subst hik
            gi_wp2
            exact ⟨⟨i + 1, by omega, by go_num, by rw [ouT, if_pos rfl], by rw [ouT, if_pos rfl], HB⟩, by simp [intOf]; omega⟩
          · have hik' : ((i : Int) != (k : Int)) = true := by simp; omega
            have hb := ouT_byte l0 x k i
            have HO1 := Aside0.mk hb.1.2
            have HO2 := Aside0.mk hb.2.2
            clear hb
            gi_wp2_with fail
            refine ⟨trivial, ?_⟩
            refine (callsIn_wide.2 (product_pair _ _ (by simp) _ _ (by first | exact HO1.out | exact HO2.out) (by omega))).mono ?_
            rintro e w' ⟨rfl, d, rfl⟩
            gi_wp2_with fail
            refine ⟨trivial, ?_⟩
            refine (callsIn_wide.2 (product_pair _ _ (by simp) _ _ (by first | exact HO2.out | exact HO1.out) (by omega))).mono ?_
            rintro e w' ⟨rfl, d2, rfl⟩
            gi_wp2_with fail
            refine ⟨⟨i + 1, by omega, by go_num, by rw [ouT, if_neg (by omega)], by rw [ouT, if_neg (by omega)], ⟨?_⟩⟩, by simp [intOf]; omega⟩
            exact below_drewN (below_alloc (below_drewN (below_alloc HB.out _)) _)
        · obtain rfl : i = l0.length := by omega
          have hb := ouT_byte l0 x k l0.length
          have HI := Aside0.mk (Inv_total _ hb.2.2).1
          have hib := (Inv_total _ hb.2.2).2.2
          have HM := Aside0.mk (Mul_total (ouT l0 x k l0.length).1 _ hib).1
          clear hb hib
          gi_wp2_with fail
          refine ⟨trivial, ?_⟩
          refine (callsIn_wide.2 (erasure_Inv.calls 300 _ _ _ _ HI.out)).mono ?_
          rintro e w' ⟨rfl, ⟨d1, rfl⟩⟩
          gi_wp2_with fail
          refine ⟨trivial, ?_⟩
          refine (callsIn_wide.2 (erasure_Mul.calls 20 _ _ _ _ HM.out)).mono ?_
          rintro e w' ⟨rfl, ⟨d2, rfl⟩⟩
          have hBd : Below wo.heap.size wo (wr.drewN (d1 + d2)) := below_drewN HB.out
          have hJ1 : J (facs l0 x k) (wr.drewN (d1 + d2)) := hJ _ _ _ none HJ.out (grown_of_below hBd) (fun r e => by cases e)
          have hKd : KB n1 g W (wr.drewN (d1 + d2)) := HK.out.trans (KB.of_below hBd (by omega))
          obtain ⟨f1, t1, a1, bb1, hy1, hR1⟩ := hY (facs l0 x k) (facAt l0 x k hlt) _ hJ1 (by rw [facs_len l0 x k (by omega)]; omega)
          have hfs : facs l0 x k ++ [facAt l0 x k hlt] = facs l0 x (k + 1) := by rw [facs, dif_pos hlt]
          rw [hfs] at hR1
          have HF := Aside0.mk hKd
          have HQ := Aside0.mk hJ1
          clear hKd hJ1 hBd hfs
          dsimp only [facE, facAt, facT] at hy1
          gi_wp2_with fail
          refine hR1.mono ?_
          rintro e W1 (⟨rfl, hJ2, hK2⟩ | ⟨rfl, hx2⟩)
          · gi_wp2_with fail
            exact ⟨⟨k + 1, by omega, by go_num, ⟨hJ2⟩, ⟨HF.out.trans hK2⟩⟩, by simp [intOf]; omega⟩
          · gi_wp2_with fail
            refine bodyPost_ret (results_none rfl _ _ _) rfl ?_
            exact ⟨⟨_, rfl⟩, .inr ⟨_, trivial, hx2⟩⟩
    · obtain rfl : k = l0.length := by omega
      gi_wp2
      go_end0
      exact ⟨⟨_, rfl⟩, .inl ⟨_, rfl, HJ.out⟩⟩

theorem cell_lt {W : World} {a : Addr} {v : Value} (h : W.cell? a = some v) : a.block < W.heap.size := by
  obtain ⟨o, ho, _⟩ := cells_of_cell h
  exact (Array.getElem?_eq_some_iff.1 ho).1
/-- the contract of what 'factors' hands back -/
theorem facs_stops (n1 g b1 b2 : Nat) (A0 : Option Addr) (c0 : Nat) (l0 : List Int) (x : Int) (w : World)
    (hlen : l0.length ≤ 140737488355328) (hn1 : n1 = w.heap.size) (h1 : b1 < n1 ∧ b1 ≠ g) (h2 : b2 < n1 ∧ b2 ≠ g) (hg : 0 < l0.length → ∀ ad, A0 = some ad → ad.block ≠ g)
    (hc1 : w.cell? ⟨b1, 0, none⟩ = some (.slice A0 l0.length c0)) (hc2 : w.cell? ⟨b2, 0, none⟩ = some (.int .i64 x)) (hr : Kd.C (Kd.int .i64) w A0 l0.length l0) :
    SeqStopsK Fence.wide 1 Try.prog 45 #[.pointer (some ⟨b1, 0, none⟩), .pointer (some ⟨b2, 0, none⟩)] (facE l0.length) (KB n1 g) (fun xs => xs = facs l0 x l0.length) (fun _ => True) l0.length w := by
  intro l J Jx W hW hJ _ hY h0
  subst hn1
  refine facs_in l w.heap.size g b1 b2 A0 c0 l0 x J Jx W hlen hW.size h1 h2 ?_ ((hW.cell (p := ⟨b1, 0, none⟩) h1.1).trans hc1) ((hW.cell (p := ⟨b2, 0, none⟩) h2.1).trans hc2) (Kd.C_below hr hW) hJ hY h0
  rintro hp ad rfl
  obtain ⟨ad2, e2, hc⟩ := Kd.at_int hr 0 (by omega) (by omega)
  cases e2
  have hc' : w.cell? ad = some (.int .i64 (rd l0 0)) := by simpa [Addr.add] using hc
  exact ⟨cell_lt hc', hg hp ad rfl⟩
theorem kb_put {w : World} {g : Nat} (W : World) (l : Nat) (o o' : Obj) (hl : w.heap.size ≤ l) (_ : W.heap[l]? = some o) (_ : o.isCells = false) (_ : o.isWalk = false) : KB w.heap.size g W (W.putObj l o') :=
  ⟨by rw [World.putObj_size]; exact Nat.le_refl _, fun k hk _ => World.putObj_heap_other (by omega)⟩
/-- the rows that value takes: at least one, as many as indices, all as long as the first, bytes -/
def valG (l0 : List Int) (l1 : List (List Int)) : Bool :=
  decide (0 < l1.length) && decide (l0.length ≤ l1.length) && decide (l0.length ≤ 140737488355328) && decide ((rd_L1 l1 0).length ≤ 140737488355328) &&
    l1.all (fun r => decide (r.length = (rd_L1 l1 0).length) && r.all (fun y => decide (0 ≤ y) && decide (y < 256)))
/-- one factor's part: what is added to out -/
def addT (l1 : List (List Int)) (o : List Int) (p : Int × Int) : List Int := List.zipWith (fun a y => Go.bits .xor .u8 a (mulT p.2 y)) o (rd_L1 l1 p.1)
def valT (l0 : List Int) (l1 : List (List Int)) (x : Int) : List Int := (facs l0 x l0.length).foldl (fun o p => addT l1 o p.1) (List.replicate (rd_L1 l1 0).length 0)
def erasure_value.f (l0 : List Int) (l1 : List (List Int)) (a2 : Int) : Option (List Int) := if valG l0 l1 = true then some (valT l0 l1 a2) else none

def outT (l0 : List Int) (l1 : List (List Int)) (pre : List (Fac l0.length)) : List Int := pre.foldl (fun o p => addT l1 o p.1) (List.replicate (rd_L1 l1 0).length 0)

/-- the world in which the loop over the factors begins -/
def vW (w : World) (rows : Value) (m : Nat) (at_ : Value) (x : Int) : World :=
  ((((w.alloc (.cells #[rows] 28)).alloc (.cells (madeCells #[.int .u8 0] m) 5)).alloc (.cells #[.slice (some ⟨w.heap.size + 1, 0, none⟩) m m] 29)).alloc (.cells #[at_] 33)).alloc (.cells #[.int .i64 x] 3)
theorem vW_size (w : World) (rows : Value) (m : Nat) (at_ : Value) (x : Int) : (vW w rows m at_ x).heap.size = w.heap.size + 5 := by simp [vW]
theorem vW_below (w : World) (rows : Value) (m : Nat) (at_ : Value) (x : Int) : Below w.heap.size w (vW w rows m at_ x) := below_alloc (below_alloc (below_alloc (below_alloc (below_alloc (Below.refl _ _) _) _) _) _) _
theorem vW_rows (w : World) (rows : Value) (m : Nat) (at_ : Value) (x : Int) : Boxed (vW w rows m at_ x) w.heap.size 28 rows :=
  ((((Boxed.new w 28 rows).alloc _).alloc _).alloc _).alloc _
theorem vW_out (w : World) (rows : Value) (m : Nat) (at_ : Value) (x : Int) : Boxed (vW w rows m at_ x) (w.heap.size + 2) 29 (.slice (some ⟨w.heap.size + 1, 0, none⟩) m m) := by
  have h := Boxed.new ((w.alloc (.cells #[rows] 28)).alloc (.cells (madeCells #[.int .u8 0] m) 5)) 29 (.slice (some ⟨w.heap.size + 1, 0, none⟩) m m)
  simp only [World.size_alloc] at h
  exact (h.alloc _).alloc _
theorem vW_at (w : World) (rows : Value) (m : Nat) (at_ : Value) (x : Int) : Boxed (vW w rows m at_ x) (w.heap.size + 3) 33 at_ := by
  have h := Boxed.new (((w.alloc (.cells #[rows] 28)).alloc (.cells (madeCells #[.int .u8 0] m) 5)).alloc (.cells #[.slice (some ⟨w.heap.size + 1, 0, none⟩) m m] 29)) 33 at_
  simp only [World.size_alloc] at h
  exact h.alloc _
theorem vW_x (w : World) (rows : Value) (m : Nat) (at_ : Value) (x : Int) : Boxed (vW w rows m at_ x) (w.heap.size + 4) 3 (.int .i64 x) := by
  have h := Boxed.new ((((w.alloc (.cells #[rows] 28)).alloc (.cells (madeCells #[.int .u8 0] m) 5)).alloc (.cells #[.slice (some ⟨w.heap.size + 1, 0, none⟩) m m] 29)).alloc (.cells #[at_] 33)) 3 (.int .i64 x)
  simp only [World.size_alloc] at h
  exact h
theorem vW_row (w : World) (rows : Value) (m : Nat) (hm : m ≤ 140737488355328) (at_ : Value) (x : Int) :
    Kd.R (Kd.int .u8) 5 (vW w rows m at_ x) w.heap.size (fun k => k = w.heap.size + 1) (.slice (some ⟨w.heap.size + 1, 0, none⟩) m m) (List.replicate m 0) := by
  have h : Kd.R (Kd.int .u8) 5 ((w.alloc (.cells #[rows] 28)).alloc (.cells (madeCells #[.int .u8 0] m) 5)) w.heap.size (fun k => k = w.heap.size + 1) (.slice (some ⟨w.heap.size + 1, 0, none⟩) m m) (List.replicate m 0) := by
    refine Kd.R_of_own ⟨by simp [encs], .inr ⟨w.heap.size + 1, m, madeCells #[.int .u8 0] m, by simp, by omega, ?_, by simp, by unfold maxLen; omega, by simp [size_madeCells], ?_⟩⟩ (fun k hk => by simp [Value.ownBlock] at hk; omega)
    · have := World.alloc_heap_new (w.alloc (.cells #[rows] 28)) (.cells (madeCells #[.int .u8 0] m) 5)
      simpa using this
    · rw [toList_madeCells_one]; simp [encs]
  exact Kd.R_alloc (Kd.R_alloc (Kd.R_alloc h _) _) _

/-- out, the first i elements done -/
def mixT (o n : List Int) (i : Nat) : List Int := n.take i ++ o.drop i
theorem mixT_len {o n : List Int} {m i : Nat} (ho : o.length = m) (hn : n.length = m) (hi : i ≤ m) : (mixT o n i).length = m := by
  unfold mixT; rw [List.length_append, List.length_take, List.length_drop]; omega
theorem mixT_rd {o n : List Int} {m i : Nat} (ho : o.length = m) (hn : n.length = m) (hi : i < m) : rd (mixT o n i) (i : Int) = rd o i := by
  unfold rd mixT
  simp only [Int.toNat_natCast, List.getD_eq_getElem?_getD]
  rw [List.getElem?_append_right (by rw [List.length_take]; omega), List.length_take, show i - min i n.length = 0 by omega, List.getElem?_drop, Nat.add_zero]
theorem mixT_set {o n : List Int} {m i : Nat} (ho : o.length = m) (hn : n.length = m) (hi : i < m) : (mixT o n i).set i (rd n i) = mixT o n (i + 1) := by
  apply List.ext_getElem?
  intro j
  unfold mixT rd
  rw [List.getElem?_set]
  simp only [Int.toNat_natCast, List.getD_eq_getElem?_getD, List.length_append, List.length_take, List.length_drop]
  by_cases hj : i = j
  · subst hj
    rw [if_pos rfl, if_pos (by omega), List.getElem?_append_left (by rw [List.length_take]; omega), List.getElem?_take_of_lt (by omega), List.getElem?_eq_getElem (by omega)]
    rfl
  · rw [if_neg hj]
    by_cases hlt : j < i
    · rw [List.getElem?_append_left (by rw [List.length_take]; omega), List.getElem?_append_left (by rw [List.length_take]; omega), List.getElem?_take_of_lt hlt, List.getElem?_take_of_lt (by omega)]
    · rw [List.getElem?_append_right (by rw [List.length_take]; omega), List.getElem?_append_right (by rw [List.length_take]; omega), List.length_take, List.length_take, List.getElem?_drop, List.getElem?_drop]
      congr 1; omega
theorem addT_len (l1 : List (List Int)) (o : List Int) (p : Int × Int) {m : Nat} (ho : o.length = m) (hr : (rd_L1 l1 p.1).length = m) : (addT l1 o p).length = m := by
  unfold addT; rw [List.length_zipWith]; omega
theorem addT_rd (l1 : List (List Int)) (o : List Int) (p : Int × Int) {m i : Nat} (ho : o.length = m) (hr : (rd_L1 l1 p.1).length = m) (hi : i < m) :
    rd (addT l1 o p) (i : Int) = Go.bits .xor .u8 (rd o i) (mulT p.2 (rd (rd_L1 l1 p.1) i)) := by
  unfold addT rd
  simp only [Int.toNat_natCast, List.getD_eq_getElem?_getD]
  rw [List.getElem?_zipWith, List.getElem?_eq_getElem (by omega), List.getElem?_eq_getElem (by omega)]
  rfl
theorem mixT_zero (o n : List Int) : mixT o n 0 = o := by simp [mixT]
theorem mixT_all {o n : List Int} {m : Nat} (ho : o.length = m) (hn : n.length = m) : mixT o n m = n := by
  unfold mixT; rw [List.take_of_length_le (by omega), List.drop_eq_nil_of_le (by omega), List.append_nil]
theorem rd_mem {xs : List Int} {i : Nat} (h : i < xs.length) : rd xs (i : Int) ∈ xs := by
  unfold rd; simp only [Int.toNat_natCast]; rw [List.getD_eq_getElem?_getD, List.getElem?_eq_getElem h]; exact List.getElem_mem h

/-- what holds at the head of the body's loop, behind i rounds -/
def ValRel (w W wi : World) (rows : Value) (m : Nat) (o nw : List Int) (i : Nat) : Prop :=
  (Boxed wi w.heap.size 28 rows ∧ Boxed wi (w.heap.size + 2) 29 (.slice (some ⟨w.heap.size + 1, 0, none⟩) m m)) ∧
    Kd.R (Kd.int .u8) 5 wi w.heap.size (fun k => k = w.heap.size + 1) (.slice (some ⟨w.heap.size + 1, 0, none⟩) m m) (mixT o nw i) ∧ Below w.heap.size w wi ∧ KeepsOthers W wi ∧ KB (w.heap.size + 5) (w.heap.size + 1) W wi
theorem ValRel.next {w W wi : World} {rows : Value} {m : Nat} {o nw : List Int} {i : Nat} (h : ValRel w W wi rows m o nw i) (ho : o.length = m) (hn : nw.length = m) (hi : i < m) {v : Int} (hv : v = rd nw i) (d : Nat) :
    ValRel w W ((wi.drewN d).setCell ⟨w.heap.size + 1, i, none⟩ (.int .u8 v)) rows m o nw (i + 1) := by
  subst hv
  obtain ⟨⟨h1, h2⟩, h3, h4, h5, h6⟩ := h
  have hp := Kd.R_putg (Kd.R_drewN h3 d) (i : Int) (rd nw i)
  simp only [Int.toNat_natCast] at hp
  rw [mixT_set ho hn hi] at hp
  have k1 : Boxed (wi.drewN d) w.heap.size 28 rows := h1
  have k2 : Boxed (wi.drewN d) (w.heap.size + 2) 29 (.slice (some ⟨w.heap.size + 1, 0, none⟩) m m) := h2
  refine ⟨⟨k1.kept hp.2 (by simp), k2.kept hp.2 (by simp)⟩, hp.1, ?_, ?_, ?_⟩
  · exact (below_drewN h4).setCell (p := ⟨w.heap.size + 1, i, none⟩) (by simp) _
  · have k5 : KeepsOthers W (wi.drewN d) := ⟨h5.size, h5.same⟩
    exact k5.trans (KeepsOthers.setCell _ _ _)
  · have k6 : KB (w.heap.size + 5) (w.heap.size + 1) W (wi.drewN d) := ⟨h6.size, h6.same⟩
    refine k6.trans ⟨hp.2.size, fun k hk hne => Below.heap_setCell _ _ _ k hne⟩

attribute [local go_sem] Oper.semAt_some
set_option maxRecDepth 100000 in
set_option maxHeartbeats 4000000 in
theorem erasure_value.calls (A0 : Option Addr) (c0 : Nat) (l0 : List Int) (A1 : Option Addr) (c1 : Nat) (l1 : List (List Int)) (a2 : Int) (r : List Int) (w : World) (hr0 : Kd.C (Kd.int .i64) w A0 l0.length l0) (hc0 : l0.length ≤ c0) (hr1 : Kd.C (Kd.slice 5 (Kd.int .u8)) w A1 l1.length l1) (hc1 : l1.length ≤ c1) (h : erasure_value.f l0 l1 a2 = some r) :
    Calls Try.prog 34 #[.slice A0 l0.length c0, .slice A1 l1.length c1, .int .i64 a2] w fun e w' => ∃ v0_ : Value, e = .returned (v0_) ∧ Kd.R (Kd.int .u8) 5 w' w.heap.size (fun _ => True) v0_ r ∧ Below w.heap.size w w' := by
  unfold erasure_value.f at h
  split at h
  case isFalse => exact absurd h (by simp)
  case isTrue hG =>
  obtain rfl := Option.some.inj h
  clear h
  simp only [valG, Bool.and_eq_true, decide_eq_true_eq, List.all_eq_true] at hG
  obtain ⟨⟨⟨⟨g1, g2⟩, g3⟩, g4⟩, g5⟩ := hG
  have G5 := Aside0.mk g5
  clear g5
  have hr1' := Kd.C_alloc hr1 (.cells #[.slice A1 l1.length c1] 28)
  obtain ⟨ad1, A10, cc0, e1, hx0, hcc0, hk0⟩ := at_L1 hr1' 0 (by omega) (by omega)
  subst e1
  obtain ⟨m, hm⟩ : ∃ m, m = (rd_L1 l1 0).length := ⟨_, rfl⟩
  rw [← hm] at hx0 g4 hcc0 hk0
  simp only [Int.toNat_zero, Addr.add, if_true] at hx0
  have hmk : ∀ W : World, (Instr.makeSlice 29 (.int .i64 (m : Int)) (.int .i64 (m : Int))).run Try.prog W = .ok (.slice (some ⟨W.heap.size, 0, none⟩) m m) (W.alloc (.cells (madeCells #[.int .u8 0] m) 5)) := fun W => by
    obtain ⟨i0, hi, hzz⟩ := Option.map_eq_some_iff.1 (by kernel_rfl : (Try.prog.info? 5).map (fun i => (i.zero, i.size, i.bytes)) = some (some (.int .u8 0), 1, 1))
    simp only [Prod.mk.injEq] at hzz
    have := run_make (P := Try.prog) W 29 5 i0 (.int .u8 0) Try.underlying29 hi hzz.1 .i64 .i64 (m : Int) (m : Int) (by omega) (by omega) (by rw [hzz.2.2]; omega) (by omega)
    rw [hzz.2.1] at this
    simp only [Int.toNat_natCast, Nat.mul_one] at this
    exact this
  have HM := Aside0.mk hm
  clear hm
  refine (callsIn_wide (n := 2)).1 ?_
  refine callsIn_of_wp_marks Try.func34 rfl trivial ?_ rfl
  simp only [Try.ntmps34, List.size_toArray, List.length_cons, List.length_nil, Nat.reduceAdd, Nat.reduceSub, Array.replicate_succ, Array.replicate_zero, List.push_toArray, List.append_toArray, List.nil_append, List.cons_append]
  gi_wp2_with fail
  refine ⟨trivial, ?_⟩
  refine (callsIn_wide.2 (factors_calls _ _ _ _ _)).mono ?_
  rintro e w' ⟨rfl, rfl⟩
  gi_wp2_with fail
  have hsz := vW_size w (.slice (some ad1) l1.length c1) m (.slice A0 l0.length c0) a2
  refine wpIn_rangeFunc_ownF (w := vW w (.slice (some ad1) l1.length c1) m (.slice A0 l0.length c0) a2) rfl (by omega) (gf := 45) (lb := #[.pointer (some ⟨w.heap.size + 1 + 1 + 1, 0, none⟩), .pointer (some ⟨w.heap.size + 1 + 1 + 1 + 1, 0, none⟩)]) rfl trivial (enters_of Try.func45 (by kernel_rfl) rfl)
    (facs_stops (w.heap.size + 5) (w.heap.size + 1) (w.heap.size + 3) (w.heap.size + 4) A0 c0 l0 a2 _ g3 hsz.symm ⟨by omega, by omega⟩ ⟨by omega, by omega⟩ ?hg (vW_at w _ m _ a2).cell (vW_x w _ m _ a2).cell (Kd.C_below hr0 (vW_below w _ m _ a2)))
    (fun h k => KB.trans h k) (fun W l o o' hl h1 h2 h3 => by rw [← hsz]; exact kb_put W l o o' hl h1 h2 h3) (Below.refl _ _) (fun _ => rfl)
    (fun pre W => Boxed W w.heap.size 28 (.slice (some ad1) l1.length c1) ∧ Boxed W (w.heap.size + 2) 29 (.slice (some ⟨w.heap.size + 1, 0, none⟩) m m) ∧
      Kd.R (Kd.int .u8) 5 W w.heap.size (fun k => k = w.heap.size + 1) (.slice (some ⟨w.heap.size + 1, 0, none⟩) m m) (outT l0 l1 pre) ∧ Below w.heap.size w W)
    (fun _ _ _ => False) ?own (fun _ _ _ _ _ hs _ _ => hs) ⟨vW_rows w _ m _ a2, vW_out w _ m _ a2, ?row, vW_below w _ m _ a2⟩
    (fun p => { tmps := #[.slice A0 l0.length c0, .slice (some ad1) l1.length c1, .int .i64 a2, undef, .pointer (some ⟨w.heap.size, 0, none⟩), undef, .slice none 0 0, .pointer (some ⟨w.heap.size + 1 + 1, 0, none⟩), .int .i64 p.1.1, .int .u8 p.1.2, undef, undef,
      .slice (some ad1) l1.length c1, .pointer (some ad1), .slice A10 m cc0, .int .i64 (m : Int), .slice (some ⟨w.heap.size + 1, 0, none⟩) m m, .slice A0 l0.length c0, .int .i64 a2,
      .func (.func 45) #[] #[.pointer (some ⟨w.heap.size + 1 + 1 + 1, 0, none⟩), .pointer (some ⟨w.heap.size + 1 + 1 + 1 + 1, 0, none⟩)], .int .i64 p.1.1, .int .u8 p.1.2, undef, undef, undef, undef, undef, undef, undef, undef, undef, undef, undef, undef, undef, undef, undef, undef, undef, undef, undef, undef, undef], defers := [] })
    ?assign ?body ?done ?stop
  case hg =>
    rintro hp ad rfl
    obtain ⟨ad2, e2, h2⟩ := Kd.at_int hr0 0 (by omega) (by omega)
    cases e2
    have := cell_lt h2
    rw [blk_add] at this
    omega
  case own =>
    rintro s X Y row ⟨hs1, hs2, hs3, hs4⟩ hg hr
    have hne : ∀ b, b < w.heap.size + 5 → some b ≠ row := fun b hb e => by have := (hr b e.symm).1; rw [hsz] at this; omega
    exact ⟨hs1.kept hg (hne _ (by omega)), hs2.kept hg (hne _ (by omega)), Kd.R_grown hs3 hg (fun k hk => hne k (by omega)), hs4.grown hg hs4.size (fun k e => by have := (hr k e).1; rw [hsz] at this; omega)⟩
  case row =>
    have := vW_row w (.slice (some ad1) l1.length c1) m g4 (.slice A0 l0.length c0) a2
    unfold outT
    rw [← HM.out]
    exact this
  case assign =>
    intro l x W K hK
    gi_wp2
    exact hK
  case body =>
    rintro l pre p W ⟨hb1, hb2, hR, hB⟩ hlt
    obtain ⟨⟨pk, pw⟩, ⟨hp0, hp1⟩, hw0, hw1⟩ := p
    have hmx : Try.prog.follows .mixedOrders = true := by kernel_rfl
    obtain ⟨kk, rfl⟩ := Int.eq_ofNat_of_zero_le hp0
    have hkl : kk < l1.length := by dsimp only at hp1; omega
    obtain ⟨ad', Ak, ck, e', hxk0, hck, hKk0⟩ := at_L1 hr1 (kk : Int) (by omega) (by omega)
    cases e'
    have hxk : W.cell? (ad1.add kk) = some (.slice Ak (rd_L1 l1 (kk : Int)).length ck) := (hB.cell (p := ad1.add kk) (by have := cell_lt hxk0; rwa [Int.toNat_natCast] at this)).trans (by rw [Int.toNat_natCast] at hxk0; exact hxk0)
    clear hxk0
    have hmem : rd_L1 l1 (kk : Int) ∈ l1 := by
      unfold rd_L1; simp only [Int.toNat_natCast]
      rw [List.getD_eq_getElem?_getD, List.getElem?_eq_getElem hkl]; exact List.getElem_mem hkl
    have hlenk : (rd_L1 l1 (kk : Int)).length = m := by rw [HM.out]; exact (G5.out _ hmem).1
    rw [hlenk] at hxk hck hKk0
    have hc1 := hb1.cell
    have HL := Aside0.mk hlenk
    have HMem := Aside0.mk hmem
    clear hlenk hmem
    have hol : (outT l0 l1 pre).length = m := (Kd.R_reads' hR).1.symm
    have hnl := addT_len l1 (outT l0 l1 pre) ((kk : Int), pw) hol HL.out
    have HOL := Aside0.mk hol
    have HNL := Aside0.mk hnl
    clear hol hnl
    obtain ⟨nw, HN⟩ : ∃ z, Aside0 (z = addT l1 (outT l0 l1 pre) ((kk : Int), pw)) := ⟨_, ⟨rfl⟩⟩
    rw [← HN.out] at HNL
    gi_wp2_with fail
    clear hc1 hxk
    gi_loopw [27] (fun v wi => ∃ i : Nat, i ≤ m ∧ v = .int .i64 i ∧ Aside0 (ValRel w W wi (.slice (some ad1) l1.length c1) m (outT l0 l1 pre) nw i)) (fun v _ => m - (intOf v).toNat)
    case atStart => exact ⟨0, Nat.zero_le _, rfl, ⟨⟨hb1, hb2⟩, by rw [mixT_zero]; exact hR, hB, KeepsOthers.refl _, Nat.le_refl _, fun _ _ _ => rfl⟩⟩
    case round =>
      obtain ⟨i, hi, rfl, HV⟩ := hrel
      by_cases him : i < m
      · have hyi : 0 ≤ (i : Int) := by omega
        obtain ⟨ady, ey, hy⟩ := Kd.at_int (Kd.C_below hKk0 HV.out.2.2.1) (i : Int) (by omega) (by omega)
        subst ey
        obtain ⟨hx, hfz⟩ := Kd.R_celln 0 HV.out.2.1 (i : Int) (by omega) (by omega)
        have hob := HV.out.1.2.cell
        simp only [Int.toNat_natCast] at hy hx hfz
        rw [show rdOf 0 (mixT (outT l0 l1 pre) nw i) (i : Int) = rd (outT l0 l1 pre) (i : Int) from mixT_rd HOL.out HNL.out him] at hx
        have hybyte := (G5.out _ HMem.out).2 _ (rd_mem (xs := rd_L1 l1 (kk : Int)) (i := i) (by rw [HL.out]; exact him))
        have HMul := Aside0.mk (Mul_total pw (rd (rd_L1 l1 (kk : Int)) (i : Int)) hybyte.2).1
        have HNV : Aside0 (Go.bits .xor .u8 (rd (outT l0 l1 pre) (i : Int)) (mulT pw (rd (rd_L1 l1 (kk : Int)) (i : Int))) = rd nw (i : Int)) := ⟨by rw [HN.out]; exact (addT_rd l1 (outT l0 l1 pre) ((kk : Int), pw) HOL.out HL.out him).symm⟩
        clear hybyte
        have hwf : ∀ f, Fence.wide.fn f := fun _ => trivial
        have hwd : Fence.wide.depth = none := rfl
        gi_wp2_with fail
        gi_region_with_o (gi_at_call 12; refine (CallsIn.inRound l (callsIn_wide.2 (erasure_Mul.calls 20 _ _ _ _ HMul.out))).mono ?_; rintro e w' ⟨rfl, ⟨nd, rfl⟩⟩)
        all_goals
          have HVN := Aside0.mk (fun d => ValRel.next HV.out HOL.out HNL.out him HNV.out d)
          clear hx hfz hy hob hyi
          gi_wp2_with fail
          exact ⟨⟨i + 1, by omega, by go_num, ⟨HVN.out _⟩⟩, by simp [intOf]; omega⟩
      · obtain rfl : i = m := by omega
        gi_wp2_with fail
        obtain ⟨⟨q1, q2⟩, q3, q4, q5, q6⟩ := HV.out
        rw [mixT_all HOL.out HNL.out] at q3
        exact ⟨q5, q6, q1, q2, by rw [outT, List.foldl_append]; show Kd.R _ _ _ _ _ _ (addT l1 (outT l0 l1 pre) ((kk : Int), pw)); rw [← HN.out]; exact q3, q4⟩
  case done =>
    rintro D xs W hD rfl ⟨hb1, hb2, hR, hB⟩ hK
    have hc := hb2.cell
    gi_wp2
    refine ⟨by simp, .inl ⟨_, _, rfl, run_takeDeferred hK, ?_⟩⟩
    refine ⟨_, results_tmp rfl _ _ _, _, rfl, Kd.R_mono (Kd.R_grown hR (grownBy_putObj' _ D _) (fun k hk e => by cases e; rw [hsz] at hD; omega)) (fun _ _ => trivial), hB.trans (belowK_b (w := w) (Nat.le_refl _) W D _ _ (by rw [hsz] at hD; omega) hK rfl rfl)⟩
  case stop =>
    rintro D c pre W _ _ h _
    exact h.elim


end Go.Proofs.Ytcjjohealloglaa.E
