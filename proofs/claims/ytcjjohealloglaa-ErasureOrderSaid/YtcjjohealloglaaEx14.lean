-- by drive.py (this session's program: it runs print.py beside functions proved by hand). Lean checks it.
import Derived.Test.YtcjjohealloglaaEx0
namespace Go.Proofs.Ytcjjohealloglaa.E
open Go.RowKit Go.Proofs.YtcjjohealloglaaW.PrintWords Go.Proofs.YtcjjohealloglaaW.PrintLast Go.Proofs.YtcjjohealloglaaW.PrintMore
attribute [local go_sem] max2_int min2_int max_two min_two max_three min_three max_four min_four   -- for this text's walks alone
set_option linter.unusedVariables false
set_option linter.unusedSimpArgs false

/-! ### seamarkref29_Mul: function 25 -/
def seamarkref29_Mul.l0 : Nat → Int → Int → Int → Int → Option (Int)
  | 0, _, _, _, _ => none
  | k + 1, x0, x1, x5, x6 => if x6 < 8 then (if 0 ≤ x6 then (if (Go.bits .and .u8 (shr .u8 x1 x6) 1) = 1 then (if x0 ≥ 128 then (seamarkref29_Mul.l0 k (Go.bits .xor .u8 ((x0 * 2) % 256) 29) x1 (Go.bits .xor .u8 x5 x0) (wrap64 (x6 + 1))) else (seamarkref29_Mul.l0 k ((x0 * 2) % 256) x1 (Go.bits .xor .u8 x5 x0) (wrap64 (x6 + 1)))) else (if x0 ≥ 128 then (seamarkref29_Mul.l0 k (Go.bits .xor .u8 ((x0 * 2) % 256) 29) x1 x5 (wrap64 (x6 + 1))) else (seamarkref29_Mul.l0 k ((x0 * 2) % 256) x1 x5 (wrap64 (x6 + 1))))) else (none)) else (some x5)
def seamarkref29_Mul.f (k : Nat) (a0 : Int) (a1 : Int) : Option (Int) := seamarkref29_Mul.l0 k a0 a1 0 0
theorem seamarkref29_Mul.mono_l : ∀ k, (∀ y0 y1 y2 y3, LeO (seamarkref29_Mul.l0 k y0 y1 y2 y3) (seamarkref29_Mul.l0 (k + 1) y0 y1 y2 y3))
  | 0 => fun _ _ _ _ r h => by simp [seamarkref29_Mul.l0] at h
  | k + 1 => by
    have ih0 := seamarkref29_Mul.mono_l k
    · intro y0 y1 y2 y3
      unfold seamarkref29_Mul.l0
      repeat' first
      | (with_reducible exact ih0 _ _ _ _)
      | (with_reducible exact LeO.refl _)
      | (with_reducible exact LeO.none _)
      | (with_reducible refine LeO.ite ?_ ?_)
      | (with_reducible refine LeO.bind ?_ (fun _ => ?_))
      | exact ih0 _ _ _ _
      | exact LeO.none _
      | refine LeO.ite ?_ ?_
      | refine LeO.bind ?_ (fun _ => ?_)
theorem seamarkref29_Mul.mono : ∀ a0 a1 k, LeO (seamarkref29_Mul.f k a0 a1) (seamarkref29_Mul.f (k + 1) a0 a1) := by
  intro a0 a1 k
  have ih0 := seamarkref29_Mul.mono_l k
  unfold seamarkref29_Mul.f
  repeat' first
      | (with_reducible exact ih0 _ _ _ _)
      | (with_reducible exact LeO.refl _)
      | (with_reducible exact LeO.none _)
      | (with_reducible refine LeO.ite ?_ ?_)
      | (with_reducible refine LeO.bind ?_ (fun _ => ?_))
      | exact ih0 _ _ _ _
      | exact LeO.none _
      | refine LeO.ite ?_ ?_
      | refine LeO.bind ?_ (fun _ => ?_)
set_option maxHeartbeats 8000000 in
set_option maxRecDepth 100000 in
theorem seamarkref29_Mul.calls (k : Nat) (a0 : Int) (a1 : Int) (r : Int) (w : World) (h : seamarkref29_Mul.f k a0 a1 = some r) :
    Calls Try.prog 25 #[.int .u8 a0, .int .u8 a1] w fun e w' => e = .returned (.int .u8 r) ∧ Drawn0 w w' := by
  have H : (seamarkref29_Mul.l0 k a0 a1 0 0) = some r := h
  clear h
  have H' := Aside0.mk H
  clear H
  go_enter Try.func25, Try.ntmps25
  go_wp2
  go_loopg [0, 5, 6] k (fun kq v0 v5 v6 w' => ∃ (x0_1 : Int) (x5_1 : Int) (x6_1 : Int), v0 = .int .u8 x0_1 ∧ v5 = .int .u8 x5_1 ∧ v6 = .int .i64 x6_1 ∧ Aside0 (seamarkref29_Mul.l0 kq x0_1 a1 x5_1 x6_1 = some r) ∧ Aside0 (kq ≤ k) ∧ Drawn0 w w')
  case atStart => exact ⟨(a0), (0), (0), (by first | rfl | (simp; done) | (simp [*]; done)), (by first | rfl | (simp; done) | (simp [*]; done)), (by first | rfl | (simp; done) | (simp [*]; done)), H', ⟨Nat.le_refl _⟩, by repeat (first | exact Drawn0.refl _ | apply Drawn0.step)⟩
  case round =>
    clear H'
    (try clear c2); (try clear p2)
    obtain ⟨x0_1, x5_1, x6_1, rfl, rfl, rfl, HA, HK1, ⟨m1, rfl⟩⟩ := hrel
    cases gk with
    | zero => exact absurd HA.out (by simp [seamarkref29_Mul.l0])
    | succ k1 =>
      have H := HA.out
      clear HA
      simp only [seamarkref29_Mul.l0] at H
      by_cases c3 : x6_1 < 8
      · rw [if_pos c3] at H
        have c3b0 : decide (x6_1 < 8) = true := decide_eq_true c3
        clear c3
        by_cases c4 : 0 ≤ x6_1
        · rw [if_pos c4] at H
          have c4b0 := eq_true c4
          have c4b1 : decide (0 ≤ x6_1) = true := decide_eq_true c4
          clear c4
          obtain ⟨ji5, hji5⟩ : ∃ j_ : Int, (shr .u8 a1 x6_1) = j_ := ⟨_, rfl⟩
          replace H : (if (Go.bits .and .u8 (ji5) 1) = 1 then (if x0_1 ≥ 128 then (seamarkref29_Mul.l0 k1 (Go.bits .xor .u8 ((x0_1 * 2) % 256) 29) a1 (Go.bits .xor .u8 x5_1 x0_1) (wrap64 (x6_1 + 1))) else (seamarkref29_Mul.l0 k1 ((x0_1 * 2) % 256) a1 (Go.bits .xor .u8 x5_1 x0_1) (wrap64 (x6_1 + 1)))) else (if x0_1 ≥ 128 then (seamarkref29_Mul.l0 k1 (Go.bits .xor .u8 ((x0_1 * 2) % 256) 29) a1 x5_1 (wrap64 (x6_1 + 1))) else (seamarkref29_Mul.l0 k1 ((x0_1 * 2) % 256) a1 x5_1 (wrap64 (x6_1 + 1))))) = some r := by first | (rw [hji5] at H; exact H) | (simp only [hji5] at H ⊢; exact H)
          have hji5_ : (a1 / 2 ^ min x6_1.toNat 8) = ji5 := hji5
          have hji5z : x6_1 ≤ 8 → (a1 / 2 ^ x6_1.toNat) = ji5 := shr_small hji5
          by_cases c6 : (Go.bits .and .u8 (ji5) 1) = 1
          · rw [if_pos c6] at H
            have c6b0 : ((Go.bits .and .u8 (ji5) 1) == 1) = true := beq_iff_eq.mpr c6
            have c6b1 : ((Go.bits .and .u8 (ji5) 1) != 1) = false := bne_eq_false_iff_eq.mpr c6
            clear c6
            by_cases c7 : x0_1 ≥ 128
            · rw [if_pos c7] at H
              have c7b0 : decide (128 ≤ x0_1) = true := decide_eq_true c7
              clear c7
              have H' := Aside0.mk H
              clear H
              go_wp2
              go_roundg k1
              case measure => have := HK1.out; omega
              case rel => exact ⟨(Go.bits .xor .u8 ((x0_1 * 2) % 256) 29), (Go.bits .xor .u8 x5_1 x0_1), (wrap64 (x6_1 + 1)), (by first | rfl | (simp; done) | (simp [*]; done)), (by first | rfl | (simp; done) | (simp [*]; done)), (by first | rfl | (simp; done) | (simp [*]; done)), H', ⟨by have := HK1.out; omega⟩, by repeat (first | exact Drawn0.refl _ | apply Drawn0.step)⟩
            · rw [if_neg c7] at H
              have c7b0 : decide (128 ≤ x0_1) = false := decide_eq_false c7
              clear c7
              have H' := Aside0.mk H
              clear H
              go_wp2
              go_roundg k1
              case measure => have := HK1.out; omega
              case rel => exact ⟨((x0_1 * 2) % 256), (Go.bits .xor .u8 x5_1 x0_1), (wrap64 (x6_1 + 1)), (by first | rfl | (simp; done) | (simp [*]; done)), (by first | rfl | (simp; done) | (simp [*]; done)), (by first | rfl | (simp; done) | (simp [*]; done)), H', ⟨by have := HK1.out; omega⟩, by repeat (first | exact Drawn0.refl _ | apply Drawn0.step)⟩
          · rw [if_neg c6] at H
            have c6b0 : ((Go.bits .and .u8 (ji5) 1) == 1) = false := beq_eq_false_iff_ne.mpr c6
            have c6b1 : ((Go.bits .and .u8 (ji5) 1) != 1) = true := bne_iff_ne.mpr c6
            by_cases c8 : x0_1 ≥ 128
            · rw [if_pos c8] at H
              have c8b0 : decide (128 ≤ x0_1) = true := decide_eq_true c8
              clear c8
              have H' := Aside0.mk H
              clear H
              go_wp2
              go_roundg k1
              case measure => have := HK1.out; omega
              case rel => exact ⟨(Go.bits .xor .u8 ((x0_1 * 2) % 256) 29), (x5_1), (wrap64 (x6_1 + 1)), (by first | rfl | (simp; done) | (simp [*]; done)), (by first | rfl | (simp; done) | (simp [*]; done)), (by first | rfl | (simp; done) | (simp [*]; done)), H', ⟨by have := HK1.out; omega⟩, by repeat (first | exact Drawn0.refl _ | apply Drawn0.step)⟩
            · rw [if_neg c8] at H
              have c8b0 : decide (128 ≤ x0_1) = false := decide_eq_false c8
              clear c8
              have H' := Aside0.mk H
              clear H
              go_wp2
              go_roundg k1
              case measure => have := HK1.out; omega
              case rel => exact ⟨((x0_1 * 2) % 256), (x5_1), (wrap64 (x6_1 + 1)), (by first | rfl | (simp; done) | (simp [*]; done)), (by first | rfl | (simp; done) | (simp [*]; done)), (by first | rfl | (simp; done) | (simp [*]; done)), H', ⟨by have := HK1.out; omega⟩, by repeat (first | exact Drawn0.refl _ | apply Drawn0.step)⟩
        · rw [if_neg c4] at H
          exact absurd H (by simp)
      · rw [if_neg c3] at H
        have c3b0 : decide (x6_1 < 8) = false := decide_eq_false c3
        clear c3
        obtain rfl := Option.some.inj H
        go_wp2
        go_ret
        exact ⟨by first | rfl | (simp; done) | (simp [*]; done), by repeat (first | exact Drawn0.refl _ | apply Drawn0.step)⟩

/-! ### seamarkref29_Inv: function 24 -/
def seamarkref29_Inv.l0 : Nat → Int → Int → Option (Int × Int)
  | 0, _, _ => none
  | k + 1, x0, x4 => if x4 < 256 then ((seamarkref29_Mul.f k x0 ((x4) % 256)).bind fun t450 => (if t450 = 1 then (some ((x4) % 256, 0)) else (seamarkref29_Inv.l0 k x0 (wrap64 (x4 + 1))))) else (some (0, 4))
def seamarkref29_Inv.f (k : Nat) (a0 : Int) : Option (Int × Int) := seamarkref29_Inv.l0 k a0 1
theorem seamarkref29_Inv.mono_l : ∀ k, (∀ y0 y1, LeO (seamarkref29_Inv.l0 k y0 y1) (seamarkref29_Inv.l0 (k + 1) y0 y1))
  | 0 => fun _ _ r h => by simp [seamarkref29_Inv.l0] at h
  | k + 1 => by
    have ih0 := seamarkref29_Inv.mono_l k
    · intro y0 y1
      unfold seamarkref29_Inv.l0
      repeat' first
      | (with_reducible exact ih0 _ _)
      | (with_reducible exact seamarkref29_Mul.mono _ _ _)
      | (with_reducible exact LeO.refl _)
      | (with_reducible exact LeO.none _)
      | (with_reducible refine LeO.ite ?_ ?_)
      | (with_reducible refine LeO.bind ?_ (fun _ => ?_))
      | exact ih0 _ _
      | exact seamarkref29_Mul.mono _ _ _
      | exact LeO.none _
      | refine LeO.ite ?_ ?_
      | refine LeO.bind ?_ (fun _ => ?_)
theorem seamarkref29_Inv.mono : ∀ a0 k, LeO (seamarkref29_Inv.f k a0) (seamarkref29_Inv.f (k + 1) a0) := by
  intro a0 k
  have ih0 := seamarkref29_Inv.mono_l k
  unfold seamarkref29_Inv.f
  repeat' first
      | (with_reducible exact ih0 _ _)
      | (with_reducible exact seamarkref29_Mul.mono _ _ _)
      | (with_reducible exact LeO.refl _)
      | (with_reducible exact LeO.none _)
      | (with_reducible refine LeO.ite ?_ ?_)
      | (with_reducible refine LeO.bind ?_ (fun _ => ?_))
      | exact ih0 _ _
      | exact seamarkref29_Mul.mono _ _ _
      | exact LeO.none _
      | refine LeO.ite ?_ ?_
      | refine LeO.bind ?_ (fun _ => ?_)
set_option maxHeartbeats 8000000 in
set_option maxRecDepth 100000 in
theorem seamarkref29_Inv.calls (k : Nat) (a0 : Int) (r1 : Int) (r2 : Int) (w : World) (h : seamarkref29_Inv.f k a0 = some (r1, r2)) :
    Calls Try.prog 24 #[.int .u8 a0] w fun e w' => e = .returned (.tuple #[.int .u8 r1, .int .i64 r2]) ∧ Drawn0 w w' := by
  have H : (seamarkref29_Inv.l0 k a0 1) = some (r1, r2) := h
  clear h
  have H' := Aside0.mk H
  clear H
  go_enter Try.func24, Try.ntmps24
  go_wp2
  go_loopg [4] k (fun kq v4 w' => ∃ (x4_1 : Int), v4 = .int .i64 x4_1 ∧ Aside0 (seamarkref29_Inv.l0 kq a0 x4_1 = some (r1, r2)) ∧ Aside0 (kq ≤ k) ∧ Drawn0 w w')
  case atStart => exact ⟨(1), (by first | rfl | (simp; done) | (simp [*]; done)), H', ⟨Nat.le_refl _⟩, by repeat (first | exact Drawn0.refl _ | apply Drawn0.step)⟩
  case round =>
    clear H'
    obtain ⟨x4_1, rfl, HA, HK1, ⟨m1, rfl⟩⟩ := hrel
    cases gk with
    | zero => exact absurd HA.out (by simp [seamarkref29_Inv.l0])
    | succ k1 =>
      have H := HA.out
      clear HA
      simp only [seamarkref29_Inv.l0] at H
      by_cases c2 : x4_1 < 256
      · rw [if_pos c2] at H
        have c2b0 : decide (x4_1 < 256) = true := decide_eq_true c2
        clear c2
        replace H := Option.bind_eq_some_iff.mp H
        obtain ⟨t450, A30, H⟩ := H
        replace H : (if t450 = 1 then (some ((x4_1) % 256, 0)) else (seamarkref29_Inv.l0 k1 a0 (wrap64 (x4_1 + 1)))) = some (r1, r2) := H
        have A3 := Aside0.mk A30
        clear A30
        by_cases c4 : t450 = 1
        · rw [if_pos c4] at H
          have c4b0 : (t450 == 1) = true := beq_iff_eq.mpr c4
          have c4b1 : (t450 != 1) = false := bne_eq_false_iff_eq.mpr c4
          clear c4
          simp only [Option.some.injEq, Prod.mk.injEq] at H
          obtain ⟨rfl, rfl⟩ := H
          go_wp2_with (first | ((with_reducible refine gate_callee (f := 25) rfl ?_); refine goesL_ (some 12) rfl rfl Try.func25 (by kernel_rfl) rfl #[.int .u8 a0, .int .u8 ((x4_1) % 256)] rfl (by (try simp only [List.map_toArray, List.map_cons, List.map_nil]); first | done | rfl | (simp only [List.length_drop, List.length_take]; rfl)) ?_; (with_reducible refine (seamarkref29_Mul.calls k1 a0 ((x4_1) % 256) t450 _ A3.out).mono ?_); rintro e w' ⟨rfl, ⟨nd, rfl⟩⟩; refine ⟨_, rfl, ?_⟩))
          go_ret2
          exact ⟨by first | rfl | (simp; done) | (simp [*]; done), by repeat (first | exact Drawn0.refl _ | apply Drawn0.step)⟩
        · rw [if_neg c4] at H
          have c4b0 : (t450 == 1) = false := beq_eq_false_iff_ne.mpr c4
          have c4b1 : (t450 != 1) = true := bne_iff_ne.mpr c4
          have H' := Aside0.mk H
          clear H
          go_wp2_with (first | ((with_reducible refine gate_callee (f := 25) rfl ?_); refine goesL_ (some 12) rfl rfl Try.func25 (by kernel_rfl) rfl #[.int .u8 a0, .int .u8 ((x4_1) % 256)] rfl (by (try simp only [List.map_toArray, List.map_cons, List.map_nil]); first | done | rfl | (simp only [List.length_drop, List.length_take]; rfl)) ?_; (with_reducible refine (seamarkref29_Mul.calls k1 a0 ((x4_1) % 256) t450 _ A3.out).mono ?_); rintro e w' ⟨rfl, ⟨nd, rfl⟩⟩; refine ⟨_, rfl, ?_⟩))
          go_roundg k1
          case measure => have := HK1.out; omega
          case rel => exact ⟨(wrap64 (x4_1 + 1)), (by first | rfl | (simp; done) | (simp [*]; done)), H', ⟨by have := HK1.out; omega⟩, by repeat (first | exact Drawn0.refl _ | apply Drawn0.step)⟩
      · rw [if_neg c2] at H
        have c2b0 : decide (x4_1 < 256) = false := decide_eq_false c2
        clear c2
        simp only [Option.some.injEq, Prod.mk.injEq] at H
        obtain ⟨rfl, rfl⟩ := H
        go_wp2
        go_ret2
        exact ⟨by first | rfl | (simp; done) | (simp [*]; done), by repeat (first | exact Drawn0.refl _ | apply Drawn0.step)⟩

/-! ### seamarkref29_Weight: function 44 -/
def seamarkref29_Weight.l0 : Nat → List Int → Int → Int → Int → Int → Option (Int)
  | 0, _, _, _, _, _ => none
  | k + 1, x0, x1, x2, x7, x8 => if x8 < (x0.length : Int) then (if x8 = x1 then (seamarkref29_Weight.l0 k x0 x1 x2 x7 (wrap64 (x8 + 1))) else (if 0 ≤ x1 then (if x1 < (x0.length : Int) then (if 0 ≤ x8 then ((seamarkref29_Inv.f k (Go.bits .xor .u8 ((rd x0 x1) % 256) ((rd x0 x8) % 256))).bind fun bt453 => ((seamarkref29_Mul.f k x7 bt453.1).bind fun t455 => ((seamarkref29_Mul.f k t455 (Go.bits .xor .u8 ((x2) % 256) ((rd x0 x8) % 256))).bind fun t457 => (seamarkref29_Weight.l0 k x0 x1 x2 t457 (wrap64 (x8 + 1)))))) else (none)) else (none)) else (none))) else (some x7)
def seamarkref29_Weight.f (k : Nat) (l0 : List Int) (a1 : Int) (a2 : Int) : Option (Int) := seamarkref29_Weight.l0 k l0 a1 a2 1 0
theorem seamarkref29_Weight.mono_l : ∀ k, (∀ y0 y1 y2 y3 y4, LeO (seamarkref29_Weight.l0 k y0 y1 y2 y3 y4) (seamarkref29_Weight.l0 (k + 1) y0 y1 y2 y3 y4))
  | 0 => fun _ _ _ _ _ r h => by simp [seamarkref29_Weight.l0] at h
  | k + 1 => by
    have ih0 := seamarkref29_Weight.mono_l k
    · intro y0 y1 y2 y3 y4
      unfold seamarkref29_Weight.l0
      repeat' first
      | (with_reducible exact ih0 _ _ _ _ _)
      | (with_reducible exact seamarkref29_Inv.mono _ _)
      | (with_reducible exact seamarkref29_Mul.mono _ _ _)
      | (with_reducible exact LeO.refl _)
      | (with_reducible exact LeO.none _)
      | (with_reducible refine LeO.ite ?_ ?_)
      | (with_reducible refine LeO.bind ?_ (fun _ => ?_))
      | exact ih0 _ _ _ _ _
      | exact seamarkref29_Inv.mono _ _
      | exact seamarkref29_Mul.mono _ _ _
      | exact LeO.none _
      | refine LeO.ite ?_ ?_
      | refine LeO.bind ?_ (fun _ => ?_)
theorem seamarkref29_Weight.mono : ∀ a0 a1 a2 k, LeO (seamarkref29_Weight.f k a0 a1 a2) (seamarkref29_Weight.f (k + 1) a0 a1 a2) := by
  intro a0 a1 a2 k
  have ih0 := seamarkref29_Weight.mono_l k
  unfold seamarkref29_Weight.f
  repeat' first
      | (with_reducible exact ih0 _ _ _ _ _)
      | (with_reducible exact seamarkref29_Inv.mono _ _)
      | (with_reducible exact seamarkref29_Mul.mono _ _ _)
      | (with_reducible exact LeO.refl _)
      | (with_reducible exact LeO.none _)
      | (with_reducible refine LeO.ite ?_ ?_)
      | (with_reducible refine LeO.bind ?_ (fun _ => ?_))
      | exact ih0 _ _ _ _ _
      | exact seamarkref29_Inv.mono _ _
      | exact seamarkref29_Mul.mono _ _ _
      | exact LeO.none _
      | refine LeO.ite ?_ ?_
      | refine LeO.bind ?_ (fun _ => ?_)
set_option maxHeartbeats 8000000 in
set_option maxRecDepth 100000 in
theorem seamarkref29_Weight.calls (k : Nat) (A0 : Option Addr) (c0 : Nat) (l0 : List Int) (a1 : Int) (a2 : Int) (r : Int) (w : World) (hr0 : Kd.C (Kd.int .i64) w A0 l0.length l0) (hc0 : l0.length ≤ c0) (h : seamarkref29_Weight.f k l0 a1 a2 = some r) :
    Calls Try.prog 44 #[.slice A0 l0.length c0, .int .i64 a1, .int .i64 a2] w fun e w' => e = .returned (.int .u8 r) ∧ Drawn0 w w' := by
  have HR0 := Aside0.mk hr0
  have HC0 := Aside0.mk hc0
  clear hr0 hc0
  have H : (seamarkref29_Weight.l0 k l0 a1 a2 1 0) = some r := h
  clear h
  have H' := Aside0.mk H
  clear H
  go_enter Try.func44, Try.ntmps44
  go_wp2
  repeat (go_quiet (fail); try go_wp2)
  go_loopg [7, 8] k (fun kq v7 v8 w' => ∃ (x7_1 : Int) (x8_1 : Int), v7 = .int .u8 x7_1 ∧ v8 = .int .i64 x8_1 ∧ Aside0 (seamarkref29_Weight.l0 kq l0 a1 a2 x7_1 x8_1 = some r) ∧ Aside0 (kq ≤ k) ∧ Drawn0 w w')
  case atStart => exact ⟨(1), (0), (by first | rfl | (simp; done) | (simp [*]; done)), (by first | rfl | (simp; done) | (simp [*]; done)), H', ⟨Nat.le_refl _⟩, by repeat (first | exact Drawn0.refl _ | apply Drawn0.step)⟩
  case round =>
    clear H'
    (try clear p2)
    obtain ⟨x7_1, x8_1, rfl, rfl, HA, HK1, ⟨m1, rfl⟩⟩ := hrel
    cases gk with
    | zero => exact absurd HA.out (by simp [seamarkref29_Weight.l0])
    | succ k1 =>
      have H := HA.out
      clear HA
      simp only [seamarkref29_Weight.l0] at H
      by_cases c4 : x8_1 < (l0.length : Int)
      · rw [if_pos c4] at H
        have c4b0 : decide (x8_1 < (l0.length : Int)) = true := decide_eq_true c4
        clear c4
        by_cases c5 : x8_1 = a1
        · rw [if_pos c5] at H
          have c5b0 : (x8_1 == a1) = true := beq_iff_eq.mpr c5
          have c5b1 : (x8_1 != a1) = false := bne_eq_false_iff_eq.mpr c5
          clear c5
          have H' := Aside0.mk H
          clear H
          go_wp2
          repeat (go_quiet (fail); try go_wp2)
          go_roundg k1
          case measure => have := HK1.out; omega
          case rel => exact ⟨(x7_1), (wrap64 (x8_1 + 1)), (by first | rfl | (simp; done) | (simp [*]; done)), (by first | rfl | (simp; done) | (simp [*]; done)), H', ⟨by have := HK1.out; omega⟩, by repeat (first | exact Drawn0.refl _ | apply Drawn0.step)⟩
        · rw [if_neg c5] at H
          have c5b0 : (x8_1 == a1) = false := beq_eq_false_iff_ne.mpr c5
          have c5b1 : (x8_1 != a1) = true := bne_iff_ne.mpr c5
          by_cases c6 : 0 ≤ a1
          · rw [if_pos c6] at H
            have c6b0 : decide (0 ≤ a1) = true := decide_eq_true c6
            clear c6
            by_cases c7 : a1 < (l0.length : Int)
            · rw [if_pos c7] at H
              have c7b0 : decide (a1 < (l0.length : Int)) = true := decide_eq_true c7
              clear c7
              by_cases c8 : 0 ≤ x8_1
              · rw [if_pos c8] at H
                have c8b0 : decide (0 ≤ x8_1) = true := decide_eq_true c8
                clear c8
                replace H := Option.bind_eq_some_iff.mp H
                obtain ⟨⟨t453, t454⟩, A90, H⟩ := H
                replace H : ((seamarkref29_Mul.f k1 x7_1 t453).bind fun t455 => ((seamarkref29_Mul.f k1 t455 (Go.bits .xor .u8 ((a2) % 256) ((rd l0 x8_1) % 256))).bind fun t457 => (seamarkref29_Weight.l0 k1 l0 a1 a2 t457 (wrap64 (x8_1 + 1))))) = some r := H
                have A9 := Aside0.mk A90
                clear A90
                replace H := Option.bind_eq_some_iff.mp H
                obtain ⟨t455, A100, H⟩ := H
                replace H : ((seamarkref29_Mul.f k1 t455 (Go.bits .xor .u8 ((a2) % 256) ((rd l0 x8_1) % 256))).bind fun t457 => (seamarkref29_Weight.l0 k1 l0 a1 a2 t457 (wrap64 (x8_1 + 1)))) = some r := H
                have A10 := Aside0.mk A100
                clear A100
                replace H := Option.bind_eq_some_iff.mp H
                obtain ⟨t457, A110, H⟩ := H
                replace H : (seamarkref29_Weight.l0 k1 l0 a1 a2 t457 (wrap64 (x8_1 + 1))) = some r := H
                have A11 := Aside0.mk A110
                clear A110
                have H' := Aside0.mk H
                clear H
                have p451 : 0 ≤ (a1 : Int) := of_decide_eq_true (by first | (with_reducible assumption) | assumption)
                have q451 : a1 < (l0.length : Int) := of_decide_eq_true (by first | (with_reducible assumption) | assumption)
                obtain ⟨ad451, e451, hx451_0⟩ := Kd.at_int HR0.out a1 p451 q451
                cases e451
                replace p451 := eq_true p451
                replace q451 := eq_true q451
                have p452 : 0 ≤ (x8_1 : Int) := of_decide_eq_true (by first | (with_reducible assumption) | assumption)
                have q452 : x8_1 < (l0.length : Int) := of_decide_eq_true (by first | (with_reducible assumption) | assumption)
                obtain ⟨ad452, e452, hx452_0⟩ := Kd.at_int HR0.out x8_1 p452 q452
                obtain rfl : ad451 = ad452 := (by injection e452)
                replace p452 := eq_true p452
                replace q452 := eq_true q452
                go_wp2_with (first | (go_at_call 24; refine calls_of_args (args' := #[.int .u8 (Go.bits .xor .u8 ((rd l0 a1) % 256) ((rd l0 x8_1) % 256))]) (by first | (with_reducible rfl) | (simp only [IntKind.wrap_u8, IntKind.wrap_u32, i64_w, i32_w]; done) | (simp only [IntKind.wrap_u8, IntKind.wrap_u32, i64_w, i32_w]; with_reducible rfl) | rfl) ?_; (with_reducible refine (seamarkref29_Inv.calls k1 (Go.bits .xor .u8 ((rd l0 a1) % 256) ((rd l0 x8_1) % 256)) t453 t454 _ A9.out).mono ?_); rintro e w' ⟨rfl, ⟨nd, rfl⟩⟩; (try first | exact ⟨rfl, _, World.drewN_drewN _ _ _⟩ | exact ⟨rfl, _, Eq.trans (World.drewN_drewN _ _ _) (congrArg (World.drewN _) (Nat.add_assoc _ _ _))⟩)) | (go_at_call 25; refine calls_of_args (args' := #[.int .u8 x7_1, .int .u8 t453]) (by first | (with_reducible rfl) | (simp only [IntKind.wrap_u8, IntKind.wrap_u32, i64_w, i32_w]; done) | (simp only [IntKind.wrap_u8, IntKind.wrap_u32, i64_w, i32_w]; with_reducible rfl) | rfl) ?_; (with_reducible refine (seamarkref29_Mul.calls k1 x7_1 t453 t455 _ A10.out).mono ?_); rintro e w' ⟨rfl, ⟨nd, rfl⟩⟩; (try first | exact ⟨rfl, _, World.drewN_drewN _ _ _⟩ | exact ⟨rfl, _, Eq.trans (World.drewN_drewN _ _ _) (congrArg (World.drewN _) (Nat.add_assoc _ _ _))⟩); have p456 : 0 ≤ (x8_1 : Int) := of_decide_eq_true (by first | (with_reducible assumption) | assumption); have q456 : x8_1 < (l0.length : Int) := of_decide_eq_true (by first | (with_reducible assumption) | assumption); obtain ⟨ad456, e456, hx456_0⟩ := Kd.at_int HR0.out x8_1 p456 q456; obtain rfl : ad451 = ad456 := (by injection e456); replace p456 := eq_true p456; replace q456 := eq_true q456) | (go_at_call 25; refine calls_of_args (args' := #[.int .u8 t455, .int .u8 (Go.bits .xor .u8 ((a2) % 256) ((rd l0 x8_1) % 256))]) (by first | (with_reducible rfl) | (simp only [IntKind.wrap_u8, IntKind.wrap_u32, i64_w, i32_w]; done) | (simp only [IntKind.wrap_u8, IntKind.wrap_u32, i64_w, i32_w]; with_reducible rfl) | rfl) ?_; (with_reducible refine (seamarkref29_Mul.calls k1 t455 (Go.bits .xor .u8 ((a2) % 256) ((rd l0 x8_1) % 256)) t457 _ A11.out).mono ?_); rintro e w' ⟨rfl, ⟨nd, rfl⟩⟩; (try first | exact ⟨rfl, _, World.drewN_drewN _ _ _⟩ | exact ⟨rfl, _, Eq.trans (World.drewN_drewN _ _ _) (congrArg (World.drewN _) (Nat.add_assoc _ _ _))⟩)))
                repeat (go_quiet (first | (go_at_call 24; refine calls_of_args (args' := #[.int .u8 (Go.bits .xor .u8 ((rd l0 a1) % 256) ((rd l0 x8_1) % 256))]) (by first | (with_reducible rfl) | (simp only [IntKind.wrap_u8, IntKind.wrap_u32, i64_w, i32_w]; done) | (simp only [IntKind.wrap_u8, IntKind.wrap_u32, i64_w, i32_w]; with_reducible rfl) | rfl) ?_; (with_reducible refine (seamarkref29_Inv.calls k1 (Go.bits .xor .u8 ((rd l0 a1) % 256) ((rd l0 x8_1) % 256)) t453 t454 _ A9.out).mono ?_); rintro e w' ⟨rfl, ⟨nd, rfl⟩⟩; (try first | exact ⟨rfl, _, World.drewN_drewN _ _ _⟩ | exact ⟨rfl, _, Eq.trans (World.drewN_drewN _ _ _) (congrArg (World.drewN _) (Nat.add_assoc _ _ _))⟩)) | (go_at_call 25; refine calls_of_args (args' := #[.int .u8 x7_1, .int .u8 t453]) (by first | (with_reducible rfl) | (simp only [IntKind.wrap_u8, IntKind.wrap_u32, i64_w, i32_w]; done) | (simp only [IntKind.wrap_u8, IntKind.wrap_u32, i64_w, i32_w]; with_reducible rfl) | rfl) ?_; (with_reducible refine (seamarkref29_Mul.calls k1 x7_1 t453 t455 _ A10.out).mono ?_); rintro e w' ⟨rfl, ⟨nd, rfl⟩⟩; (try first | exact ⟨rfl, _, World.drewN_drewN _ _ _⟩ | exact ⟨rfl, _, Eq.trans (World.drewN_drewN _ _ _) (congrArg (World.drewN _) (Nat.add_assoc _ _ _))⟩); have p456 : 0 ≤ (x8_1 : Int) := of_decide_eq_true (by first | (with_reducible assumption) | assumption); have q456 : x8_1 < (l0.length : Int) := of_decide_eq_true (by first | (with_reducible assumption) | assumption); obtain ⟨ad456, e456, hx456_0⟩ := Kd.at_int HR0.out x8_1 p456 q456; obtain rfl : ad451 = ad456 := (by injection e456); replace p456 := eq_true p456; replace q456 := eq_true q456) | (go_at_call 25; refine calls_of_args (args' := #[.int .u8 t455, .int .u8 (Go.bits .xor .u8 ((a2) % 256) ((rd l0 x8_1) % 256))]) (by first | (with_reducible rfl) | (simp only [IntKind.wrap_u8, IntKind.wrap_u32, i64_w, i32_w]; done) | (simp only [IntKind.wrap_u8, IntKind.wrap_u32, i64_w, i32_w]; with_reducible rfl) | rfl) ?_; (with_reducible refine (seamarkref29_Mul.calls k1 t455 (Go.bits .xor .u8 ((a2) % 256) ((rd l0 x8_1) % 256)) t457 _ A11.out).mono ?_); rintro e w' ⟨rfl, ⟨nd, rfl⟩⟩; (try first | exact ⟨rfl, _, World.drewN_drewN _ _ _⟩ | exact ⟨rfl, _, Eq.trans (World.drewN_drewN _ _ _) (congrArg (World.drewN _) (Nat.add_assoc _ _ _))⟩))); try go_wp2_with (first | (go_at_call 24; refine calls_of_args (args' := #[.int .u8 (Go.bits .xor .u8 ((rd l0 a1) % 256) ((rd l0 x8_1) % 256))]) (by first | (with_reducible rfl) | (simp only [IntKind.wrap_u8, IntKind.wrap_u32, i64_w, i32_w]; done) | (simp only [IntKind.wrap_u8, IntKind.wrap_u32, i64_w, i32_w]; with_reducible rfl) | rfl) ?_; (with_reducible refine (seamarkref29_Inv.calls k1 (Go.bits .xor .u8 ((rd l0 a1) % 256) ((rd l0 x8_1) % 256)) t453 t454 _ A9.out).mono ?_); rintro e w' ⟨rfl, ⟨nd, rfl⟩⟩; (try first | exact ⟨rfl, _, World.drewN_drewN _ _ _⟩ | exact ⟨rfl, _, Eq.trans (World.drewN_drewN _ _ _) (congrArg (World.drewN _) (Nat.add_assoc _ _ _))⟩)) | (go_at_call 25; refine calls_of_args (args' := #[.int .u8 x7_1, .int .u8 t453]) (by first | (with_reducible rfl) | (simp only [IntKind.wrap_u8, IntKind.wrap_u32, i64_w, i32_w]; done) | (simp only [IntKind.wrap_u8, IntKind.wrap_u32, i64_w, i32_w]; with_reducible rfl) | rfl) ?_; (with_reducible refine (seamarkref29_Mul.calls k1 x7_1 t453 t455 _ A10.out).mono ?_); rintro e w' ⟨rfl, ⟨nd, rfl⟩⟩; (try first | exact ⟨rfl, _, World.drewN_drewN _ _ _⟩ | exact ⟨rfl, _, Eq.trans (World.drewN_drewN _ _ _) (congrArg (World.drewN _) (Nat.add_assoc _ _ _))⟩); have p456 : 0 ≤ (x8_1 : Int) := of_decide_eq_true (by first | (with_reducible assumption) | assumption); have q456 : x8_1 < (l0.length : Int) := of_decide_eq_true (by first | (with_reducible assumption) | assumption); obtain ⟨ad456, e456, hx456_0⟩ := Kd.at_int HR0.out x8_1 p456 q456; obtain rfl : ad451 = ad456 := (by injection e456); replace p456 := eq_true p456; replace q456 := eq_true q456) | (go_at_call 25; refine calls_of_args (args' := #[.int .u8 t455, .int .u8 (Go.bits .xor .u8 ((a2) % 256) ((rd l0 x8_1) % 256))]) (by first | (with_reducible rfl) | (simp only [IntKind.wrap_u8, IntKind.wrap_u32, i64_w, i32_w]; done) | (simp only [IntKind.wrap_u8, IntKind.wrap_u32, i64_w, i32_w]; with_reducible rfl) | rfl) ?_; (with_reducible refine (seamarkref29_Mul.calls k1 t455 (Go.bits .xor .u8 ((a2) % 256) ((rd l0 x8_1) % 256)) t457 _ A11.out).mono ?_); rintro e w' ⟨rfl, ⟨nd, rfl⟩⟩; (try first | exact ⟨rfl, _, World.drewN_drewN _ _ _⟩ | exact ⟨rfl, _, Eq.trans (World.drewN_drewN _ _ _) (congrArg (World.drewN _) (Nat.add_assoc _ _ _))⟩))))
                go_roundg k1
                case measure => have := HK1.out; omega
                case rel => exact ⟨(t457), (wrap64 (x8_1 + 1)), (by first | rfl | (simp; done) | (simp [*]; done)), (by first | rfl | (simp; done) | (simp [*]; done)), H', ⟨by have := HK1.out; omega⟩, by repeat (first | exact Drawn0.refl _ | apply Drawn0.step)⟩
              · rw [if_neg c8] at H
                exact absurd H (by simp)
            · rw [if_neg c7] at H
              exact absurd H (by simp)
          · rw [if_neg c6] at H
            exact absurd H (by simp)
      · rw [if_neg c4] at H
        have c4b0 : decide (x8_1 < (l0.length : Int)) = false := decide_eq_false c4
        clear c4
        obtain rfl := Option.some.inj H
        go_wp2
        repeat (go_quiet (fail); try go_wp2)
        go_ret
        exact ⟨by first | rfl | (simp; done) | (simp [*]; done), by repeat (first | exact Drawn0.refl _ | apply Drawn0.step)⟩

/-! ### seamarkref29_Value: function 38 -/
mutual
def seamarkref29_Value.l0 : Nat → List Int → List (List Int) → Int → List Int → Int → Option (List Int)
  | 0, _, _, _, _, _ => none
  | k + 1, x0, x1, x2, x7, x8 => if 0 < (x1.length : Int) then (if x8 < ((rd_L1 x1 0).length : Int) then (if x7.length < 140737488355328 then (seamarkref29_Value.l0 k x0 x1 x2 (x7 ++ [0]) (wrap64 (x8 + 1))) else (none)) else (seamarkref29_Value.l1 k x0 x1 x2 x7 0)) else (none)
def seamarkref29_Value.l1 : Nat → List Int → List (List Int) → Int → List Int → Int → Option (List Int)
  | 0, _, _, _, _, _ => none
  | k + 1, x0, x1, x2, x7, x9 => if x9 < (x0.length : Int) then ((seamarkref29_Weight.f k x0 x9 x2).bind fun t462 => (seamarkref29_Value.l2 k x0 x1 x2 x7 x9 t462 0)) else (some x7)
def seamarkref29_Value.l2 : Nat → List Int → List (List Int) → Int → List Int → Int → Int → Int → Option (List Int)
  | 0, _, _, _, _, _, _, _ => none
  | k + 1, x0, x1, x2, x7, x9, x10, x11 => if x11 < (x7.length : Int) then (if 0 ≤ x11 then (if 0 ≤ x9 then (if x9 < (x1.length : Int) then (if x11 < ((rd_L1 x1 x9).length : Int) then ((seamarkref29_Mul.f k x10 (rd (rd_L1 x1 x9) x11)).bind fun t466 => (seamarkref29_Value.l2 k x0 x1 x2 (x7.set (x11 : Int).toNat (Go.bits .xor .u8 (rd x7 x11) t466)) x9 x10 (wrap64 (x11 + 1)))) else (none)) else (none)) else (none)) else (none)) else (seamarkref29_Value.l1 k x0 x1 x2 x7 (wrap64 (x9 + 1)))
end
def seamarkref29_Value.f (k : Nat) (l0 : List Int) (l1 : List (List Int)) (a2 : Int) : Option (List Int) := seamarkref29_Value.l0 k l0 l1 a2 ([] : List Int) 0
theorem seamarkref29_Value.mono_l : ∀ k, (∀ y0 y1 y2 y3 y4, LeO (seamarkref29_Value.l0 k y0 y1 y2 y3 y4) (seamarkref29_Value.l0 (k + 1) y0 y1 y2 y3 y4)) ∧ (∀ y0 y1 y2 y3 y4, LeO (seamarkref29_Value.l1 k y0 y1 y2 y3 y4) (seamarkref29_Value.l1 (k + 1) y0 y1 y2 y3 y4)) ∧ (∀ y0 y1 y2 y3 y4 y5 y6, LeO (seamarkref29_Value.l2 k y0 y1 y2 y3 y4 y5 y6) (seamarkref29_Value.l2 (k + 1) y0 y1 y2 y3 y4 y5 y6))
  | 0 => ⟨fun _ _ _ _ _ r h => by simp [seamarkref29_Value.l0] at h, fun _ _ _ _ _ r h => by simp [seamarkref29_Value.l1] at h, fun _ _ _ _ _ _ _ r h => by simp [seamarkref29_Value.l2] at h⟩
  | k + 1 => by
    obtain ⟨ih0, ih1, ih2⟩ := seamarkref29_Value.mono_l k
    refine ⟨?_, ?_, ?_⟩
    · intro y0 y1 y2 y3 y4
      unfold seamarkref29_Value.l0
      repeat' first
      | (with_reducible exact ih0 _ _ _ _ _)
      | (with_reducible exact ih1 _ _ _ _ _)
      | (with_reducible exact ih2 _ _ _ _ _ _ _)
      | (with_reducible exact seamarkref29_Mul.mono _ _ _)
      | (with_reducible exact seamarkref29_Weight.mono _ _ _ _)
      | (with_reducible exact LeO.refl _)
      | (with_reducible exact LeO.none _)
      | (with_reducible refine LeO.ite ?_ ?_)
      | (with_reducible refine LeO.bind ?_ (fun _ => ?_))
      | exact ih0 _ _ _ _ _
      | exact ih1 _ _ _ _ _
      | exact ih2 _ _ _ _ _ _ _
      | exact seamarkref29_Mul.mono _ _ _
      | exact seamarkref29_Weight.mono _ _ _ _
      | exact LeO.none _
      | refine LeO.ite ?_ ?_
      | refine LeO.bind ?_ (fun _ => ?_)
    · intro y0 y1 y2 y3 y4
      unfold seamarkref29_Value.l1
      repeat' first
      | (with_reducible exact ih0 _ _ _ _ _)
      | (with_reducible exact ih1 _ _ _ _ _)
      | (with_reducible exact ih2 _ _ _ _ _ _ _)
      | (with_reducible exact seamarkref29_Mul.mono _ _ _)
      | (with_reducible exact seamarkref29_Weight.mono _ _ _ _)
      | (with_reducible exact LeO.refl _)
      | (with_reducible exact LeO.none _)
      | (with_reducible refine LeO.ite ?_ ?_)
      | (with_reducible refine LeO.bind ?_ (fun _ => ?_))
      | exact ih0 _ _ _ _ _
      | exact ih1 _ _ _ _ _
      | exact ih2 _ _ _ _ _ _ _
      | exact seamarkref29_Mul.mono _ _ _
      | exact seamarkref29_Weight.mono _ _ _ _
      | exact LeO.none _
      | refine LeO.ite ?_ ?_
      | refine LeO.bind ?_ (fun _ => ?_)
    · intro y0 y1 y2 y3 y4 y5 y6
      unfold seamarkref29_Value.l2
      repeat' first
      | (with_reducible exact ih0 _ _ _ _ _)
      | (with_reducible exact ih1 _ _ _ _ _)
      | (with_reducible exact ih2 _ _ _ _ _ _ _)
      | (with_reducible exact seamarkref29_Mul.mono _ _ _)
      | (with_reducible exact seamarkref29_Weight.mono _ _ _ _)
      | (with_reducible exact LeO.refl _)
      | (with_reducible exact LeO.none _)
      | (with_reducible refine LeO.ite ?_ ?_)
      | (with_reducible refine LeO.bind ?_ (fun _ => ?_))
      | exact ih0 _ _ _ _ _
      | exact ih1 _ _ _ _ _
      | exact ih2 _ _ _ _ _ _ _
      | exact seamarkref29_Mul.mono _ _ _
      | exact seamarkref29_Weight.mono _ _ _ _
      | exact LeO.none _
      | refine LeO.ite ?_ ?_
      | refine LeO.bind ?_ (fun _ => ?_)
theorem seamarkref29_Value.mono : ∀ a0 a1 a2 k, LeO (seamarkref29_Value.f k a0 a1 a2) (seamarkref29_Value.f (k + 1) a0 a1 a2) := by
  intro a0 a1 a2 k
  obtain ⟨ih0, ih1, ih2⟩ := seamarkref29_Value.mono_l k
  unfold seamarkref29_Value.f
  repeat' first
      | (with_reducible exact ih0 _ _ _ _ _)
      | (with_reducible exact ih1 _ _ _ _ _)
      | (with_reducible exact ih2 _ _ _ _ _ _ _)
      | (with_reducible exact seamarkref29_Mul.mono _ _ _)
      | (with_reducible exact seamarkref29_Weight.mono _ _ _ _)
      | (with_reducible exact LeO.refl _)
      | (with_reducible exact LeO.none _)
      | (with_reducible refine LeO.ite ?_ ?_)
      | (with_reducible refine LeO.bind ?_ (fun _ => ?_))
      | exact ih0 _ _ _ _ _
      | exact ih1 _ _ _ _ _
      | exact ih2 _ _ _ _ _ _ _
      | exact seamarkref29_Mul.mono _ _ _
      | exact seamarkref29_Weight.mono _ _ _ _
      | exact LeO.none _
      | refine LeO.ite ?_ ?_
      | refine LeO.bind ?_ (fun _ => ?_)
def seamarkref29_Value.T13 : Bool × List (List Nat × List Nat) := (true, [([], []), ([], []), ([], []), ([], []), ([2, 3], [2, 3]), ([4], [4]), ([], []), ([], []), ([], []), ([7, 8], [7, 8]), ([9], [9]), ([], []), ([10, 11], [10, 11]), ([12], [12]), ([6, 13], [6, 13]), ([5, 14], [5, 14]), ([0, 1, 0, 1, 2, 3, 4, 5, 6, 7, 8, 9, 10, 11, 12, 13, 14, 15], [0, 1]), ([16, 15, 14, 0, 1, 2, 3, 4, 5, 6, 7, 8, 9, 10, 11, 12, 13, 14, 15], [15, 16])])
def seamarkref29_Value.B13 : List Nat := [0, 0, 0, 0, 12, 28, 0, 0, 0, 384, 896, 0, 3968, 8064, 16320, 32764, 65535, 131071]
theorem seamarkref29_Value.tab13 : rtab .any (opsOf Try.f38 13) = seamarkref29_Value.T13 := by kernel_rfl
theorem seamarkref29_Value.bits13 : waitsOk seamarkref29_Value.T13.2 seamarkref29_Value.B13 = true := by kernel_rfl
set_option maxHeartbeats 8000000 in
set_option maxRecDepth 100000 in
theorem seamarkref29_Value.calls (k : Nat) (A0 : Option Addr) (c0 : Nat) (l0 : List Int) (A1 : Option Addr) (c1 : Nat) (l1 : List (List Int)) (a2 : Int) (r : List Int) (w : World) (hr0 : Kd.C (Kd.int .i64) w A0 l0.length l0) (hc0 : l0.length ≤ c0) (hr1 : Kd.C (Kd.slice 5 (Kd.int .u8)) w A1 l1.length l1) (hc1 : l1.length ≤ c1) (h : seamarkref29_Value.f k l0 l1 a2 = some r) :
    Calls Try.prog 38 #[.slice A0 l0.length c0, .slice A1 l1.length c1, .int .i64 a2] w fun e w' => ∃ v0_ : Value, e = .returned (v0_) ∧ Kd.R (Kd.int .u8) 5 w' w.heap.size (fun _ => True) v0_ r ∧ Below w.heap.size w w' := by
  have HR0 := Aside0.mk hr0
  have HC0 := Aside0.mk hc0
  clear hr0 hc0
  have HR1 := Aside0.mk hr1
  have HC1 := Aside0.mk hc1
  clear hr1 hc1
  have HB := Aside0.mk (Below.refl w.heap.size w)
  have H : (seamarkref29_Value.l0 k l0 l1 a2 ([] : List Int) 0) = some r := h
  clear h
  have H' := Aside0.mk H
  clear H
  go_enter Try.func38, Try.ntmps38
  go_wp2
  go_loopg [7, 8] k (fun kq v7 v8 w' => ∃ (x7_1 : List Int) (x8_1 : Int), v8 = .int .i64 x8_1 ∧ Aside0 (seamarkref29_Value.l0 kq l0 l1 a2 x7_1 x8_1 = some r) ∧ Aside0 (kq ≤ k) ∧ Aside0 (Kd.R (Kd.int .u8) 5 w' w.heap.size (fun _ => True) v7 x7_1) ∧ Aside0 (Below w.heap.size w w'))
  case atStart => exact ⟨(([] : List Int)), (0), (by first | rfl | (simp; done) | (simp [*]; done)), H', ⟨Nat.le_refl _⟩, ⟨by first | exact Kd.R_nil _ _ _ _ _ | exact Kd.N_nil _ _ _ _ _ | exact Kd.V_nil _ _ _ _ _ | exact Kd.Q_nil _ _ _ _ _ | exact Kd.S_nil _ _ _ _ _⟩, ⟨by repeat (first | (with_reducible first | exact HB.out | apply below_alloc | apply pw_below_drewN | apply below_drew1) | exact HB.out)⟩⟩
  case round =>
    clear H'
    (try clear c1); (try clear p2); (try clear c3)
    obtain ⟨x7_1, x8_1, rfl, HA, HK1, HO_7, HB⟩ := hrel
    cases gk with
    | zero => exact absurd HA.out (by simp [seamarkref29_Value.l0])
    | succ k1 =>
      have H := HA.out
      clear HA
      simp only [seamarkref29_Value.l0] at H
      by_cases c4 : 0 < (l1.length : Int)
      · rw [if_pos c4] at H
        have c4b0 : decide (0 < (l1.length : Int)) = true := decide_eq_true c4
        have c4b1 : decide (0 < l1.length) = true := decide_eq_true (by omega)
        clear c4
        by_cases c5 : x8_1 < ((rd_L1 l1 0).length : Int)
        · rw [if_pos c5] at H
          have c5b0 : decide (x8_1 < ((rd_L1 l1 0).length : Int)) = true := decide_eq_true c5
          clear c5
          by_cases c6 : x7_1.length < 140737488355328
          · rw [if_pos c6] at H
            have LMc6 := Aside0.mk c6
            clear c6
            obtain ⟨y459, hy459⟩ : ∃ y_ : List Int, y_ = (x7_1 ++ [0]) := ⟨_, rfl⟩
            replace H : (seamarkref29_Value.l0 k1 l0 l1 a2 y459 (wrap64 (x8_1 + 1))) = some r := by first | (rw [hy459]; with_reducible exact H) | (have H2_ := (Option.bind_some _ _).symm.trans H; rw [hy459]; with_reducible exact H2_) | (have H2_ := (Option.bind_some _ _).symm.trans H; with_reducible exact H2_) | with_reducible exact H | (rw [hy459]; exact H) | exact H
            have Ny459 := Aside0.mk hy459
            clear hy459
            have H' := Aside0.mk H
            clear H
            have p458 : 0 ≤ (0 : Int) := (by omega)
            have q458 : 0 < (l1.length : Int) := of_decide_eq_true (by first | (with_reducible assumption) | assumption)
            obtain ⟨ad458, A458_0, c458_0, e458, hx458_0, hl458_0, hi458_0⟩ := at_L1 HR1.out 0 p458 q458
            cases e458
            have qi458 : (0 < l1.length) = True := eq_true (by omega)
            (try rw [show ((0 : Int)).toNat = 0 from rfl] at hx458_0)
            (try rw [Addr.add_zero'] at hx458_0)
            replace hx458_0 := (HB.out.cell (World.block_lt_of_cell? w _ hx458_0)).trans hx458_0
            have HR458_0 := Aside0.mk hi458_0
            have HC458_0 := Aside0.mk hl458_0
            clear hi458_0 hl458_0
            replace p458 := eq_true p458
            replace q458 := eq_true q458
            go_wp2_with (first | ((with_reducible refine gate_builtin (b := .append) (xs := #[.tmp 20, .tmp 21]) rfl ?_); at_builtin; refine Kd.R_append (Kd.int .u8) (w0 := w) w.heap.size rfl (.tmp 20) (.tmp 21) 29 5 (.int .u8 0) 1 rfl Try.underlying29 info5 rfl (by decide) (by omega) u7 x7_1 0 [.int .u8 0] (fun _ => True) (fun _ => False) rfl rfl ?aP (fun _ hk => hk.elim) ?aF ?aO ?aB ?aS ?aL ?_; (case aP => exact rfl); (case aB => exact (by repeat (first | (with_reducible first | exact HB.out | apply below_alloc | apply pw_below_drewN | apply below_drew1) | exact HB.out))); (case aF => exact (fun _ _ => trivial)); (case aO => exact (by (with_reducible repeat (first | apply Kd.R_alloc | apply Kd.R_drewN | apply Kd.R_drew)); exact HO_7.out)); (case aS => exact (below_size (by repeat (first | (with_reducible first | exact HB.out | apply below_alloc | apply pw_below_drewN | apply below_drew1) | exact HB.out)))); (case aL => have := LMc6.out; omega); intro v460 w7 ho hb hg hat; rw [← Ny459.out] at ho; have n0_ := Aside0.mk (hb); have n1_ := Aside0.mk (ho); clear HB; clear HO_7; have HB := n0_; have HO461 := n1_; clear n0_ n1_; clear ho hb hg hat))
            go_roundg k1
            case measure => have := HK1.out; omega
            case rel => exact ⟨(y459), (wrap64 (x8_1 + 1)), (by first | rfl | (simp; done) | (simp [*]; done)), H', ⟨by have := HK1.out; omega⟩, ⟨by (with_reducible repeat (first | apply Kd.R_alloc | apply Kd.R_drewN | apply Kd.R_drew)); exact HO461.out⟩, ⟨by repeat (first | (with_reducible first | exact HB.out | apply below_alloc | apply pw_below_drewN | apply below_drew1) | exact HB.out)⟩⟩
          · rw [if_neg c6] at H
            exact absurd H (by simp)
        · rw [if_neg c5] at H
          have c5b0 : decide (x8_1 < ((rd_L1 l1 0).length : Int)) = false := decide_eq_false c5
          clear c5
          have H' := Aside0.mk H
          clear H
          have p458 : 0 ≤ (0 : Int) := (by omega)
          have q458 : 0 < (l1.length : Int) := of_decide_eq_true (by first | (with_reducible assumption) | assumption)
          obtain ⟨ad458, A458_0, c458_0, e458, hx458_0, hl458_0, hi458_0⟩ := at_L1 HR1.out 0 p458 q458
          cases e458
          have qi458 : (0 < l1.length) = True := eq_true (by omega)
          (try rw [show ((0 : Int)).toNat = 0 from rfl] at hx458_0)
          (try rw [Addr.add_zero'] at hx458_0)
          replace hx458_0 := (HB.out.cell (World.block_lt_of_cell? w _ hx458_0)).trans hx458_0
          have HR458_0 := Aside0.mk hi458_0
          have HC458_0 := Aside0.mk hl458_0
          clear hi458_0 hl458_0
          replace p458 := eq_true p458
          replace q458 := eq_true q458
          go_wp2
          go_loopg [9] k1 (fun kq v9 w' => ∃ (x7_2 : List Int) (x9_2 : Int), v9 = .int .i64 x9_2 ∧ Aside0 (seamarkref29_Value.l1 kq l0 l1 a2 x7_2 x9_2 = some r) ∧ Aside0 (kq ≤ k1) ∧ Aside0 (Kd.R (Kd.int .u8) 5 w' w.heap.size (fun _ => True) u7 x7_2) ∧ Aside0 (Below w.heap.size w w'))
          case atStart => exact ⟨(x7_1), (0), (by first | rfl | (simp; done) | (simp [*]; done)), H', ⟨Nat.le_refl _⟩, ⟨by (with_reducible repeat (first | apply Kd.R_alloc | apply Kd.R_drewN | apply Kd.R_drew)); exact HO_7.out⟩, ⟨by repeat (first | (with_reducible first | exact HB.out | apply below_alloc | apply pw_below_drewN | apply below_drew1) | exact HB.out)⟩⟩
          case round =>
            clear H'
            (try clear c1); (try clear p2); (try clear c3); (try clear c4); (try clear c4b0); (try clear c4b1); (try clear p4); (try clear q4); (try clear hx4); (try clear qi4); (try clear c5); (try clear c5b0); (try clear c6); (try clear p6); (try clear hx458_0); (try clear p2); (try clear p458); (try clear q458)
            obtain ⟨x7_2, x9_2, rfl, HA, HK2, HO_7, HB⟩ := hrel
            cases gk with
            | zero => exact absurd HA.out (by simp [seamarkref29_Value.l1])
            | succ k2 =>
              have H := HA.out
              clear HA
              simp only [seamarkref29_Value.l1] at H
              by_cases c8 : x9_2 < (l0.length : Int)
              · rw [if_pos c8] at H
                have c8b0 : decide (x9_2 < (l0.length : Int)) = true := decide_eq_true c8
                clear c8
                replace H := Option.bind_eq_some_iff.mp H
                obtain ⟨t462, A90, H⟩ := H
                replace H : (seamarkref29_Value.l2 k2 l0 l1 a2 x7_2 x9_2 t462 0) = some r := H
                have A9 := Aside0.mk A90
                clear A90
                have H' := Aside0.mk H
                clear H
                go_wp2_with (first | ((with_reducible refine gate_callee (f := 44) rfl ?_); refine goesL_ (some 32) rfl rfl Try.func44 (by kernel_rfl) rfl #[.slice A0 l0.length c0, .int .i64 x9_2, .int .i64 a2] rfl (by (try simp only [List.map_toArray, List.map_cons, List.map_nil]); first | done | rfl | (simp only [List.length_drop, List.length_take]; rfl)) ?_; (with_reducible refine (seamarkref29_Weight.calls k2 _ _ l0 x9_2 a2 t462 _ ?side1 ?side2 A9.out).mono ?_); (case side1 => repeat (first | exact (Kd.C_below HR0.out HB.out) | (with_reducible refine Kd.C_alloc ?_ _) | (with_reducible refine Kd.C_drewN ?_ _) | (with_reducible refine Kd.C_drew ?_))); (case side2 => exact HC0.out); rintro e w' ⟨rfl, ⟨nd, rfl⟩⟩; refine ⟨_, rfl, ?_⟩))
                go_loopg [11] k2 (fun kq v11 w' => ∃ (x7_3 : List Int) (x11_3 : Int), v11 = .int .i64 x11_3 ∧ Aside0 (seamarkref29_Value.l2 kq l0 l1 a2 x7_3 x9_2 t462 x11_3 = some r) ∧ Aside0 (kq ≤ k2) ∧ Aside0 (Kd.R (Kd.int .u8) 5 w' w.heap.size (fun _ => True) u7 x7_3) ∧ Aside0 (Below w.heap.size w w'))
                case atStart => exact ⟨(x7_2), (0), (by first | rfl | (simp; done) | (simp [*]; done)), H', ⟨Nat.le_refl _⟩, ⟨by (with_reducible repeat (first | apply Kd.R_alloc | apply Kd.R_drewN | apply Kd.R_drew)); exact HO_7.out⟩, ⟨by repeat (first | (with_reducible first | exact HB.out | apply below_alloc | apply pw_below_drewN | apply below_drew1) | exact HB.out)⟩⟩
                case round =>
                  clear H'
                  (try clear c1); (try clear p2); (try clear c3); (try clear c4); (try clear c4b0); (try clear c4b1); (try clear p4); (try clear q4); (try clear hx4); (try clear qi4); (try clear c5); (try clear c5b0); (try clear c6); (try clear p6); (try clear c8); (try clear c8b0); (try clear hx458_0); (try clear p2); (try clear p4); (try clear p458); (try clear p6); (try clear q4); (try clear q458)
                  obtain ⟨x7_3, x11_3, rfl, HA, HK3, HO_7, HB⟩ := hrel
                  cases gk with
                  | zero => exact absurd HA.out (by simp [seamarkref29_Value.l2])
                  | succ k3 =>
                    have H := HA.out
                    clear HA
                    simp only [seamarkref29_Value.l2] at H
                    by_cases c10 : x11_3 < (x7_3.length : Int)
                    · rw [if_pos c10] at H
                      have c10b0 : decide (x11_3 < (x7_3.length : Int)) = true := decide_eq_true c10
                      clear c10
                      by_cases c11 : 0 ≤ x11_3
                      · rw [if_pos c11] at H
                        have c11b0 : decide (0 ≤ x11_3) = true := decide_eq_true c11
                        clear c11
                        by_cases c12 : 0 ≤ x9_2
                        · rw [if_pos c12] at H
                          have c12b0 : decide (0 ≤ x9_2) = true := decide_eq_true c12
                          clear c12
                          by_cases c13 : x9_2 < (l1.length : Int)
                          · rw [if_pos c13] at H
                            have c13b0 : decide (x9_2 < (l1.length : Int)) = true := decide_eq_true c13
                            clear c13
                            by_cases c14 : x11_3 < ((rd_L1 l1 x9_2).length : Int)
                            · rw [if_pos c14] at H
                              have c14b0 : decide (x11_3 < ((rd_L1 l1 x9_2).length : Int)) = true := decide_eq_true c14
                              clear c14
                              replace H := Option.bind_eq_some_iff.mp H
                              obtain ⟨t466, A150, H⟩ := H
                              replace H : (seamarkref29_Value.l2 k3 l0 l1 a2 (x7_3.set (x11_3 : Int).toNat (Go.bits .xor .u8 (rd x7_3 x11_3) t466)) x9_2 t462 (wrap64 (x11_3 + 1))) = some r := H
                              have A15 := Aside0.mk A150
                              clear A150
                              obtain ⟨y467, hy467⟩ : ∃ y_ : List Int, y_ = (x7_3.set (x11_3 : Int).toNat (Go.bits .xor .u8 (rd x7_3 x11_3) t466)) := ⟨_, rfl⟩
                              replace H : (seamarkref29_Value.l2 k3 l0 l1 a2 y467 x9_2 t462 (wrap64 (x11_3 + 1))) = some r := by first | (rw [hy467]; with_reducible exact H) | (have H2_ := (Option.bind_some _ _).symm.trans H; rw [hy467]; with_reducible exact H2_) | (have H2_ := (Option.bind_some _ _).symm.trans H; with_reducible exact H2_) | with_reducible exact H | (rw [hy467]; exact H) | exact H
                              have Ny467 := Aside0.mk hy467
                              clear hy467
                              have H' := Aside0.mk H
                              clear H
                              obtain ⟨Ao17, co17, eo17⟩ := Kd.R_slice HO_7.out
                              subst eo17
                              try go_wp2
                              have n0_ := Aside0.mk (Kd.R_drew HO_7.out)
                              have n1_ := Aside0.mk (below_drew1 HB.out)
                              clear HO_7
                              clear HB
                              have HO_7 := n0_
                              have HB := n1_
                              clear n0_ n1_
                              have p463 : 0 ≤ (x11_3 : Int) := of_decide_eq_true (by first | (with_reducible assumption) | assumption)
                              have q463 : x11_3 < (x7_3.length : Int) := of_decide_eq_true (by first | (with_reducible assumption) | assumption)
                              obtain ⟨ad463, e463, hx463_0⟩ := Kd.at_int (Kd.R_reads' HO_7.out).2.2 x11_3 p463 q463
                              cases e463
                              replace p463 := eq_true p463
                              replace q463 := eq_true q463
                              have p464 : 0 ≤ (x9_2 : Int) := of_decide_eq_true (by first | (with_reducible assumption) | assumption)
                              have q464 : x9_2 < (l1.length : Int) := of_decide_eq_true (by first | (with_reducible assumption) | assumption)
                              obtain ⟨ad464, A464_0, c464_0, e464, hx464_0, hl464_0, hi464_0⟩ := at_L1 HR1.out x9_2 p464 q464
                              have hw464_0 := hx464_0
                              obtain rfl : ad458 = ad464 := (by injection e464)
                              replace hx464_0 := (HB.out.cell (World.block_lt_of_cell? w _ hx464_0)).trans hx464_0
                              have HR464_0 := Aside0.mk hi464_0
                              have HC464_0 := Aside0.mk hl464_0
                              clear hi464_0 hl464_0
                              replace p464 := eq_true p464
                              replace q464 := eq_true q464
                              have p465 : 0 ≤ (x11_3 : Int) := of_decide_eq_true (by first | (with_reducible assumption) | assumption)
                              have q465 : x11_3 < ((rd_L1 l1 x9_2).length : Int) := of_decide_eq_true (by first | (with_reducible assumption) | assumption)
                              obtain ⟨ad465, e465, hx465_0⟩ := Kd.at_int HR464_0.out x11_3 p465 q465
                              have hw465_0 := hx465_0
                              cases e465
                              replace hx465_0 := (HB.out.cell (World.block_lt_of_cell? w _ hx465_0)).trans hx465_0
                              replace p465 := eq_true p465
                              replace q465 := eq_true q465
                              refine start_ (n := 18) (S := fun w' => w'.cell? (ad463.add (x11_3).toNat) = some (.int .u8 (rd x7_3 x11_3)) ∧ w'.cell? (ad458.add (x9_2).toNat) = some (.slice (some ad465) (rd_L1 l1 x9_2).length c464_0) ∧ w'.cell? (ad465.add (x11_3).toNat) = some (.int .u8 (rd (rd_L1 l1 x9_2) x11_3))) (ds := [17]) #[false, false, false, false, false, false, false, false, false, false, false, false, false, false, false, false, false, false] (by kernel_rfl) rfl rfl ⟨hx463_0, ((HB.out.cell (World.block_lt_of_cell? w _ hw464_0)).trans hw464_0), ((HB.out.cell (World.block_lt_of_cell? w _ hw465_0)).trans hw465_0)⟩ (fun hHeld => ?_); refine with_tabW seamarkref29_Value.tab13 seamarkref29_Value.bits13 (fun HT_ HW_ => ?_)
                              generalize wr.drew = w18 at HO_7 HB HR464_0 hx463_0 hx464_0 hx465_0 hHeld ⊢
                              refine pure_ (i := 0) (N := some 39) (v := ?_) (a' := ?_) #[true, false, false, false, false, false, false, false, false, false, false, false, false, false, false, false, false, false] rfl rfl (any_of HT_.out (by kernel_rfl)) (fun _ _ _ h => h) (Or.inl ⟨by rfl, ?_⟩) ?_ ?_
                              rotate_left
                              · intro w'
                                go_simp
                                with_reducible rfl
                              rotate_left
                              · simp only [Act.put, List.setIfInBounds_toArray, List.set_cons_zero, List.set_cons_succ, i64_w, i32_w]
                                rfl
                              refine pure_ (i := 1) (N := some 40) (v := ?_) (a' := ?_) #[true, true, false, false, false, false, false, false, false, false, false, false, false, false, false, false, false, false] rfl rfl (any_of HT_.out (by kernel_rfl)) (fun _ _ _ h => h) (Or.inl ⟨by rfl, ?_⟩) ?_ ?_
                              rotate_left
                              · intro w'
                                go_simp
                                with_reducible rfl
                              rotate_left
                              · simp only [Act.put, List.setIfInBounds_toArray, List.set_cons_zero, List.set_cons_succ, i64_w, i32_w]
                                rfl
                              refine pure_ (i := 2) (N := some 41) (v := ?_) (a' := ?_) #[true, true, true, false, false, false, false, false, false, false, false, false, false, false, false, false, false, false] rfl rfl (any_of HT_.out (by kernel_rfl)) (fun _ _ _ h => h) (Or.inl ⟨by rfl, ?_⟩) ?_ ?_
                              rotate_left
                              · intro w'
                                go_simp
                                with_reducible rfl
                              rotate_left
                              · simp only [Act.put, List.setIfInBounds_toArray, List.set_cons_zero, List.set_cons_succ, i64_w, i32_w]
                                rfl
                              refine pure_ (i := 3) (N := some 42) (v := ?_) (a' := ?_) #[true, true, true, true, false, false, false, false, false, false, false, false, false, false, false, false, false, false] rfl rfl (any_of HT_.out (by kernel_rfl)) (fun _ _ _ h => h) (Or.inl ⟨by rfl, ?_⟩) ?_ ?_
                              rotate_left
                              · intro w'
                                go_simp
                                with_reducible rfl
                              rotate_left
                              · simp only [Act.put, List.setIfInBounds_toArray, List.set_cons_zero, List.set_cons_succ, i64_w, i32_w]
                                rfl
                              refine pure_ (i := 4) (N := some 43) (v := ?_) (a' := ?_) #[true, true, true, true, true, false, false, false, false, false, false, false, false, false, false, false, false, false] rfl rfl (any_of HT_.out (by kernel_rfl)) (fun _ _ _ h => h) (Or.inl ⟨by rfl, ?_⟩) ?_ ?_
                              rotate_left
                              · intro w'
                                go_simp
                                with_reducible rfl
                              rotate_left
                              · simp only [Act.put, List.setIfInBounds_toArray, List.set_cons_zero, List.set_cons_succ, i64_w, i32_w]
                                rfl
                              refine pure_ (i := 6) (N := some 45) (v := ?_) (a' := ?_) #[true, true, true, true, true, false, true, false, false, false, false, false, false, false, false, false, false, false] rfl rfl (any_of HT_.out (by kernel_rfl)) (fun _ _ _ h => h) (Or.inl ⟨by rfl, ?_⟩) ?_ ?_
                              rotate_left
                              · intro w'
                                go_simp
                                with_reducible rfl
                              rotate_left
                              · simp only [Act.put, List.setIfInBounds_toArray, List.set_cons_zero, List.set_cons_succ, i64_w, i32_w]
                                rfl
                              refine pure_ (i := 7) (N := some 46) (v := ?_) (a' := ?_) #[true, true, true, true, true, false, true, true, false, false, false, false, false, false, false, false, false, false] rfl rfl (any_of HT_.out (by kernel_rfl)) (fun _ _ _ h => h) (Or.inl ⟨by rfl, ?_⟩) ?_ ?_
                              rotate_left
                              · intro w'
                                go_simp
                                with_reducible rfl
                              rotate_left
                              · simp only [Act.put, List.setIfInBounds_toArray, List.set_cons_zero, List.set_cons_succ, i64_w, i32_w]
                                rfl
                              refine pure_ (i := 8) (N := some 47) (v := ?_) (a' := ?_) #[true, true, true, true, true, false, true, true, true, false, false, false, false, false, false, false, false, false] rfl rfl (any_of HT_.out (by kernel_rfl)) (fun _ _ _ h => h) (Or.inl ⟨by rfl, ?_⟩) ?_ ?_
                              rotate_left
                              · intro w'
                                go_simp
                                with_reducible rfl
                              rotate_left
                              · simp only [Act.put, List.setIfInBounds_toArray, List.set_cons_zero, List.set_cons_succ, i64_w, i32_w]
                                rfl
                              refine pure_ (i := 9) (N := some 48) (v := ?_) (a' := ?_) #[true, true, true, true, true, false, true, true, true, true, false, false, false, false, false, false, false, false] rfl rfl (any_of HT_.out (by kernel_rfl)) (fun _ _ _ h => h) (Or.inl ⟨by rfl, ?_⟩) ?_ ?_
                              rotate_left
                              · intro w'
                                go_simp
                                with_reducible rfl
                              rotate_left
                              · simp only [Act.put, List.setIfInBounds_toArray, List.set_cons_zero, List.set_cons_succ, i64_w, i32_w]
                                rfl
                              refine pure_ (i := 11) (N := some 50) (v := ?_) (a' := ?_) #[true, true, true, true, true, false, true, true, true, true, false, true, false, false, false, false, false, false] rfl rfl (any_of HT_.out (by kernel_rfl)) (fun _ _ _ h => h) (Or.inl ⟨by rfl, ?_⟩) ?_ ?_
                              rotate_left
                              · intro w'
                                go_simp
                                with_reducible rfl
                              rotate_left
                              · simp only [Act.put, List.setIfInBounds_toArray, List.set_cons_zero, List.set_cons_succ, i64_w, i32_w]
                                rfl
                              refine take_ (i := 5) (N := some 44) (v := ?_) (a' := ?_) #[true, true, true, true, true, true, true, true, true, true, false, true, false, false, false, false, false, false] rfl rfl (take_ofW HT_.out HW_.out (by kernel_rfl)) (fun _ _ _ h => h) (Or.inl ⟨by rfl, ?_⟩) hHeld ?_ ?_
                              rotate_left
                              · rintro w' ⟨s0, s1, s2⟩
                                go_simp
                                with_reducible rfl
                              rotate_left
                              · simp only [Act.put, List.setIfInBounds_toArray, List.set_cons_zero, List.set_cons_succ, i64_w, i32_w]
                                rfl
                              refine take_ (i := 10) (N := some 49) (v := ?_) (a' := ?_) #[true, true, true, true, true, true, true, true, true, true, true, true, false, false, false, false, false, false] rfl rfl (take_ofW HT_.out HW_.out (by kernel_rfl)) (fun _ _ _ h => h) (Or.inl ⟨by rfl, ?_⟩) hHeld ?_ ?_
                              rotate_left
                              · rintro w' ⟨s0, s1, s2⟩
                                go_simp
                                with_reducible rfl
                              rotate_left
                              · simp only [Act.put, List.setIfInBounds_toArray, List.set_cons_zero, List.set_cons_succ, i64_w, i32_w]
                                rfl
                              refine pure_ (i := 12) (N := some 51) (v := ?_) (a' := ?_) #[true, true, true, true, true, true, true, true, true, true, true, true, true, false, false, false, false, false] rfl rfl (any_of HT_.out (by kernel_rfl)) (fun _ _ _ h => h) (Or.inl ⟨by rfl, ?_⟩) ?_ ?_
                              rotate_left
                              · intro w'
                                go_simp
                                with_reducible rfl
                              rotate_left
                              · simp only [Act.put, List.setIfInBounds_toArray, List.set_cons_zero, List.set_cons_succ, i64_w, i32_w]
                                rfl
                              refine take_ (i := 13) (N := some 52) (v := ?_) (a' := ?_) #[true, true, true, true, true, true, true, true, true, true, true, true, true, true, false, false, false, false] rfl rfl (take_ofW HT_.out HW_.out (by kernel_rfl)) (fun _ _ _ h => h) (Or.inl ⟨by rfl, ?_⟩) hHeld ?_ ?_
                              rotate_left
                              · rintro w' ⟨s0, s1, s2⟩
                                go_simp
                                with_reducible rfl
                              rotate_left
                              · simp only [Act.put, List.setIfInBounds_toArray, List.set_cons_zero, List.set_cons_succ, i64_w, i32_w]
                                rfl
                              refine one_ (i := 14) (N := some 53) #[true, true, true, true, true, true, true, true, true, true, true, true, true, true, true, false, false, false] rfl rfl (one_of HT_.out (by kernel_rfl)) (by decide) (fun K hK => ?_)
                              refine goes_ Try.func25 (by kernel_rfl) rfl #[.int .u8 t462, .int .u8 (rd (rd_L1 l1 x9_2) x11_3)] (by rfl) rfl rfl (by (try simp only [List.map_toArray, List.map_cons, List.map_nil]); first | done | rfl | (simp only [List.length_drop, List.length_take]; rfl)) ?_
                              with_reducible refine (seamarkref29_Mul.calls k3 t462 (rd (rd_L1 l1 x9_2) x11_3) t466 _ A15.out).mono ?_
                              rintro e w' ⟨rfl, ⟨nd, rfl⟩⟩
                              refine ⟨_, rfl, ?_⟩
                              have p16 : 0 ≤ (x11_3 : Int) := of_decide_eq_true (by first | (with_reducible assumption) | assumption)
                              have q16 : (x11_3 : Int) < ((x7_3.length : Int) : Int) := of_decide_eq_true (by first | (with_reducible assumption) | assumption)
                              obtain ⟨go16, co16, eo16, gb16, gl16, cl16, HG16⟩ := Kd.R_form HO_7.out (by omega)
                              (first | cases eo16 | (injection eo16 with ea_ en_ ec_; (first | subst ea_ | (injection ea_ with ea_; subst ea_)); subst ec_; clear en_))
                              have GB16 := Aside0.mk gb16
                              have GG16 := Aside0.mk HG16
                              clear gb16 gl16 HG16
                              (first | simp only [add_plain] at hx463_0 | skip)
                              obtain ⟨hx16_0, hf16_0⟩ := Kd.R_celln 0 HO_7.out (x11_3 : Int) p16 q16
                              replace p16 := eq_true p16
                              replace q16 := eq_true q16
                              have HP19 := Kd.R_putn HO_7.out (x11_3 : Int) (Go.bits .xor .u8 (rd x7_3 x11_3) t466)
                              rw [← Ny467.out] at HP19
                              have HQ19 := Aside0.mk HP19
                              clear HP19
                              refine hK.out _ _ ⟨hHeld.1, ((HB.out.cell (World.block_lt_of_cell? w _ hw464_0)).trans hw464_0), ((HB.out.cell (World.block_lt_of_cell? w _ hw465_0)).trans hw465_0)⟩ (fun hHeld => ?_)
                              clear hK K
                              refine norm_ (a' := ?_) ?_ ?_
                              rotate_left
                              · show Act.put _ (some 53) _ = _
                                simp only [Act.put, List.setIfInBounds_toArray, List.set_cons_zero, List.set_cons_succ, i64_w, i32_w]
                                rfl
                              refine pure_ (i := 15) (N := some 54) (v := ?_) (a' := ?_) #[true, true, true, true, true, true, true, true, true, true, true, true, true, true, true, true, false, false] rfl rfl (any_of HT_.out (by kernel_rfl)) (fun _ _ _ h => h) (Or.inl ⟨by rfl, ?_⟩) ?_ ?_
                              rotate_left
                              · intro w'
                                go_simp
                                with_reducible rfl
                              rotate_left
                              · simp only [Act.put, List.setIfInBounds_toArray, List.set_cons_zero, List.set_cons_succ, i64_w, i32_w]
                                rfl
                              refine pure_ (i := 16) (N := some 55) (v := ?_) (a' := ?_) #[true, true, true, true, true, true, true, true, true, true, true, true, true, true, true, true, true, false] rfl rfl (any_of HT_.out (by kernel_rfl)) (fun _ _ _ h => h) (Or.inl ⟨by rfl, ?_⟩) ?_ ?_
                              rotate_left
                              · intro w'
                                go_simp
                                with_reducible rfl
                              rotate_left
                              · simp only [Act.put, List.setIfInBounds_toArray, List.set_cons_zero, List.set_cons_succ, i64_w, i32_w]
                                rfl
                              refine last_ (i := 17) (N := none) #[true, true, true, true, true, true, true, true, true, true, true, true, true, true, true, true, true, true] rfl rfl (one_of HT_.out (by kernel_rfl)) (by decide) (fun K hK => ?_)
                              refine skip_ (w1 := ?_) (by rfl) rfl ?_ ?_
                              rotate_left
                              · go_simp
                                rfl
                              refine hK.out _ _ ?_
                              clear hK K
                              refine done_ (done_of HT_.out (by kernel_rfl)) ?_
                              try go_wp2
                              go_roundg k3
                              case measure => have := HK1.out; have := HK2.out; have := HK3.out; omega
                              case rel => exact ⟨(y467), (wrap64 (x11_3 + 1)), (by first | rfl | (simp; done) | (simp [*]; done)), H', ⟨by have := HK1.out; have := HK2.out; have := HK3.out; omega⟩, ⟨by (with_reducible repeat (first | apply Kd.R_alloc | apply Kd.R_drewN | apply Kd.R_drew)); exact HQ19.out⟩, ⟨by repeat (first | (with_reducible first | exact HB.out | apply below_alloc | apply pw_below_drewN | apply below_drew1 | refine below_set ?_ GB16.out) | exact HB.out)⟩⟩
                            · rw [if_neg c14] at H
                              exact absurd H (by simp)
                          · rw [if_neg c13] at H
                            exact absurd H (by simp)
                        · rw [if_neg c12] at H
                          exact absurd H (by simp)
                      · rw [if_neg c11] at H
                        exact absurd H (by simp)
                    · rw [if_neg c10] at H
                      have c10b0 : decide (x11_3 < (x7_3.length : Int)) = false := decide_eq_false c10
                      clear c10
                      have H' := Aside0.mk H
                      clear H
                      obtain ⟨Ao20, co20, eo20⟩ := Kd.R_slice HO_7.out
                      subst eo20
                      go_wp2
                      go_roundg k3
                      case measure => have := HK1.out; have := HK2.out; have := HK3.out; omega
                      case rel => exact ⟨(x7_3), (wrap64 (x9_2 + 1)), (by first | rfl | (simp; done) | (simp [*]; done)), H', ⟨by have := HK1.out; have := HK2.out; have := HK3.out; omega⟩, ⟨by (with_reducible repeat (first | apply Kd.R_alloc | apply Kd.R_drewN | apply Kd.R_drew)); exact HO_7.out⟩, ⟨by repeat (first | (with_reducible first | exact HB.out | apply below_alloc | apply pw_below_drewN | apply below_drew1) | exact HB.out)⟩⟩
              · rw [if_neg c8] at H
                have c8b0 : decide (x9_2 < (l0.length : Int)) = false := decide_eq_false c8
                clear c8
                obtain rfl := Option.some.inj H
                go_wp2
                go_ret
                exact ⟨_, by first | rfl | (simp [errW_none, errW_some] <;> rfl) | (simp [*, errW_none, errW_some] <;> rfl), by (with_reducible repeat (first | apply Kd.R_alloc | apply Kd.R_drewN | apply Kd.R_drew)); exact HO_7.out, by repeat (first | (with_reducible first | exact HB.out | apply below_alloc | apply pw_below_drewN | apply below_drew1) | exact HB.out)⟩
      · rw [if_neg c4] at H
        exact absurd H (by simp)

end Go.Proofs.Ytcjjohealloglaa.E
