-- by drive.py (this session's program: it runs print.py beside functions proved by hand). Lean checks it.
import Derived.Test.YtcjjohealloglaaEx0
namespace Go.Proofs.Ytcjjohealloglaa.E
open Go.RowKit Go.Proofs.YtcjjohealloglaaW.PrintWords Go.Proofs.YtcjjohealloglaaW.PrintLast Go.Proofs.YtcjjohealloglaaW.PrintMore
attribute [local go_sem] max2_int min2_int max_two min_two max_three min_three max_four min_four   -- for this text's walks alone
set_option linter.unusedVariables false
set_option linter.unusedSimpArgs false

/-! ### erasure_Mul: function 12 -/
def erasure_Mul.l0 : Nat → Int → Int → Int → Option (Int)
  | 0, _, _, _ => none
  | k + 1, x1, x5, x6 => if x1 > 0 then (if (Go.bits .and .u8 x1 1) = 1 then (if (wrap64 (x6 * 2)) > 255 then (erasure_Mul.l0 k (x1 / 2) (Go.bits .xor .i64 x5 x6) (Go.bits .xor .i64 (wrap64 (x6 * 2)) 285)) else (erasure_Mul.l0 k (x1 / 2) (Go.bits .xor .i64 x5 x6) (wrap64 (x6 * 2)))) else (if (wrap64 (x6 * 2)) > 255 then (erasure_Mul.l0 k (x1 / 2) x5 (Go.bits .xor .i64 (wrap64 (x6 * 2)) 285)) else (erasure_Mul.l0 k (x1 / 2) x5 (wrap64 (x6 * 2))))) else (some ((x5) % 256))
def erasure_Mul.f (k : Nat) (a0 : Int) (a1 : Int) : Option (Int) := erasure_Mul.l0 k a1 0 (wrap64 (a0))
theorem erasure_Mul.mono_l : ∀ k, (∀ y0 y1 y2, LeO (erasure_Mul.l0 k y0 y1 y2) (erasure_Mul.l0 (k + 1) y0 y1 y2))
  | 0 => fun _ _ _ r h => by simp [erasure_Mul.l0] at h
  | k + 1 => by
    have ih0 := erasure_Mul.mono_l k
    · intro y0 y1 y2
      unfold erasure_Mul.l0
      repeat' first
      | (with_reducible exact ih0 _ _ _)
      | (with_reducible exact LeO.refl _)
      | (with_reducible exact LeO.none _)
      | (with_reducible refine LeO.ite ?_ ?_)
      | (with_reducible refine LeO.bind ?_ (fun _ => ?_))
      | exact ih0 _ _ _
      | exact LeO.none _
      | refine LeO.ite ?_ ?_
      | refine LeO.bind ?_ (fun _ => ?_)
theorem erasure_Mul.mono : ∀ a0 a1 k, LeO (erasure_Mul.f k a0 a1) (erasure_Mul.f (k + 1) a0 a1) := by
  intro a0 a1 k
  have ih0 := erasure_Mul.mono_l k
  unfold erasure_Mul.f
  repeat' first
      | (with_reducible exact ih0 _ _ _)
      | (with_reducible exact LeO.refl _)
      | (with_reducible exact LeO.none _)
      | (with_reducible refine LeO.ite ?_ ?_)
      | (with_reducible refine LeO.bind ?_ (fun _ => ?_))
      | exact ih0 _ _ _
      | exact LeO.none _
      | refine LeO.ite ?_ ?_
      | refine LeO.bind ?_ (fun _ => ?_)
set_option maxHeartbeats 8000000 in
set_option maxRecDepth 100000 in
theorem erasure_Mul.calls (k : Nat) (a0 : Int) (a1 : Int) (r : Int) (w : World) (h : erasure_Mul.f k a0 a1 = some r) :
    Calls Try.prog 12 #[.int .u8 a0, .int .u8 a1] w fun e w' => e = .returned (.int .u8 r) ∧ Drawn0 w w' := by
  have H : (erasure_Mul.l0 k a1 0 (wrap64 (a0))) = some r := h
  clear h
  have H' := Aside0.mk H
  clear H
  go_enter Try.func12, Try.ntmps12
  go_wp2
  go_loopg [1, 5, 6] k (fun kq v1 v5 v6 w' => ∃ (x1_1 : Int) (x5_1 : Int) (x6_1 : Int), v1 = .int .u8 x1_1 ∧ v5 = .int .i64 x5_1 ∧ v6 = .int .i64 x6_1 ∧ Aside0 (erasure_Mul.l0 kq x1_1 x5_1 x6_1 = some r) ∧ Aside0 (kq ≤ k) ∧ Drawn0 w w')
  case atStart => exact ⟨(a1), (0), (wrap64 (a0)), (by first | rfl | (simp; done) | (simp [*]; done)), (by first | rfl | (simp; done) | (simp [*]; done)), (by first | rfl | (simp; done) | (simp [*]; done)), H', ⟨Nat.le_refl _⟩, by repeat (first | exact Drawn0.refl _ | apply Drawn0.step)⟩
  case round =>
    clear H'
    (try clear c1); (try clear p2)
    obtain ⟨x1_1, x5_1, x6_1, rfl, rfl, rfl, HA, HK1, ⟨m1, rfl⟩⟩ := hrel
    cases gk with
    | zero => exact absurd HA.out (by simp [erasure_Mul.l0])
    | succ k1 =>
      have H := HA.out
      clear HA
      simp only [erasure_Mul.l0] at H
      by_cases c3 : x1_1 > 0
      · rw [if_pos c3] at H
        have c3b0 : decide (0 < x1_1) = true := decide_eq_true c3
        clear c3
        by_cases c4 : (Go.bits .and .u8 x1_1 1) = 1
        · rw [if_pos c4] at H
          have c4b0 : ((Go.bits .and .u8 x1_1 1) == 1) = true := beq_iff_eq.mpr c4
          have c4b1 : ((Go.bits .and .u8 x1_1 1) != 1) = false := bne_eq_false_iff_eq.mpr c4
          clear c4
          by_cases c5 : (wrap64 (x6_1 * 2)) > 255
          · rw [if_pos c5] at H
            have c5b0 : decide (255 < (wrap64 (x6_1 * 2))) = true := decide_eq_true c5
            clear c5
            have H' := Aside0.mk H
            clear H
            go_wp2
            go_roundg k1
            case measure => have := HK1.out; omega
            case rel => exact ⟨(x1_1 / 2), (Go.bits .xor .i64 x5_1 x6_1), (Go.bits .xor .i64 (wrap64 (x6_1 * 2)) 285), (by first | rfl | (simp; done) | (simp [*]; done)), (by first | rfl | (simp; done) | (simp [*]; done)), (by first | rfl | (simp; done) | (simp [*]; done)), H', ⟨by have := HK1.out; omega⟩, by repeat (first | exact Drawn0.refl _ | apply Drawn0.step)⟩
          · rw [if_neg c5] at H
            have c5b0 : decide (255 < (wrap64 (x6_1 * 2))) = false := decide_eq_false c5
            clear c5
            have H' := Aside0.mk H
            clear H
            go_wp2
            go_roundg k1
            case measure => have := HK1.out; omega
            case rel => exact ⟨(x1_1 / 2), (Go.bits .xor .i64 x5_1 x6_1), (wrap64 (x6_1 * 2)), (by first | rfl | (simp; done) | (simp [*]; done)), (by first | rfl | (simp; done) | (simp [*]; done)), (by first | rfl | (simp; done) | (simp [*]; done)), H', ⟨by have := HK1.out; omega⟩, by repeat (first | exact Drawn0.refl _ | apply Drawn0.step)⟩
        · rw [if_neg c4] at H
          have c4b0 : ((Go.bits .and .u8 x1_1 1) == 1) = false := beq_eq_false_iff_ne.mpr c4
          have c4b1 : ((Go.bits .and .u8 x1_1 1) != 1) = true := bne_iff_ne.mpr c4
          by_cases c6 : (wrap64 (x6_1 * 2)) > 255
          · rw [if_pos c6] at H
            have c6b0 : decide (255 < (wrap64 (x6_1 * 2))) = true := decide_eq_true c6
            clear c6
            have H' := Aside0.mk H
            clear H
            go_wp2
            go_roundg k1
            case measure => have := HK1.out; omega
            case rel => exact ⟨(x1_1 / 2), (x5_1), (Go.bits .xor .i64 (wrap64 (x6_1 * 2)) 285), (by first | rfl | (simp; done) | (simp [*]; done)), (by first | rfl | (simp; done) | (simp [*]; done)), (by first | rfl | (simp; done) | (simp [*]; done)), H', ⟨by have := HK1.out; omega⟩, by repeat (first | exact Drawn0.refl _ | apply Drawn0.step)⟩
          · rw [if_neg c6] at H
            have c6b0 : decide (255 < (wrap64 (x6_1 * 2))) = false := decide_eq_false c6
            clear c6
            have H' := Aside0.mk H
            clear H
            go_wp2
            go_roundg k1
            case measure => have := HK1.out; omega
            case rel => exact ⟨(x1_1 / 2), (x5_1), (wrap64 (x6_1 * 2)), (by first | rfl | (simp; done) | (simp [*]; done)), (by first | rfl | (simp; done) | (simp [*]; done)), (by first | rfl | (simp; done) | (simp [*]; done)), H', ⟨by have := HK1.out; omega⟩, by repeat (first | exact Drawn0.refl _ | apply Drawn0.step)⟩
      · rw [if_neg c3] at H
        have c3b0 : decide (0 < x1_1) = false := decide_eq_false c3
        clear c3
        obtain rfl := Option.some.inj H
        go_wp2
        go_ret
        exact ⟨by first | rfl | (simp; done) | (simp [*]; done), by repeat (first | exact Drawn0.refl _ | apply Drawn0.step)⟩

/-! ### erasure_Inv: function 13 -/
def erasure_Inv.l0 : Nat → Int → Int → Int → Option (Int × Int)
  | 0, _, _, _ => none
  | k + 1, x0, x4, x7 => if x7 < 254 then ((erasure_Mul.f k x4 x0).bind fun t101 => (erasure_Inv.l0 k x0 t101 (wrap64 (x7 + 1)))) else (some (x4, 0))
def erasure_Inv.f (k : Nat) (a0 : Int) : Option (Int × Int) := if a0 = 0 then (some (0, 4)) else (erasure_Inv.l0 k a0 1 0)
theorem erasure_Inv.mono_l : ∀ k, (∀ y0 y1 y2, LeO (erasure_Inv.l0 k y0 y1 y2) (erasure_Inv.l0 (k + 1) y0 y1 y2))
  | 0 => fun _ _ _ r h => by simp [erasure_Inv.l0] at h
  | k + 1 => by
    have ih0 := erasure_Inv.mono_l k
    · intro y0 y1 y2
      unfold erasure_Inv.l0
      repeat' first
      | (with_reducible exact ih0 _ _ _)
      | (with_reducible exact erasure_Mul.mono _ _ _)
      | (with_reducible exact LeO.refl _)
      | (with_reducible exact LeO.none _)
      | (with_reducible refine LeO.ite ?_ ?_)
      | (with_reducible refine LeO.bind ?_ (fun _ => ?_))
      | exact ih0 _ _ _
      | exact erasure_Mul.mono _ _ _
      | exact LeO.none _
      | refine LeO.ite ?_ ?_
      | refine LeO.bind ?_ (fun _ => ?_)
theorem erasure_Inv.mono : ∀ a0 k, LeO (erasure_Inv.f k a0) (erasure_Inv.f (k + 1) a0) := by
  intro a0 k
  have ih0 := erasure_Inv.mono_l k
  unfold erasure_Inv.f
  repeat' first
      | (with_reducible exact ih0 _ _ _)
      | (with_reducible exact erasure_Mul.mono _ _ _)
      | (with_reducible exact LeO.refl _)
      | (with_reducible exact LeO.none _)
      | (with_reducible refine LeO.ite ?_ ?_)
      | (with_reducible refine LeO.bind ?_ (fun _ => ?_))
      | exact ih0 _ _ _
      | exact erasure_Mul.mono _ _ _
      | exact LeO.none _
      | refine LeO.ite ?_ ?_
      | refine LeO.bind ?_ (fun _ => ?_)
set_option maxHeartbeats 8000000 in
set_option maxRecDepth 100000 in
theorem erasure_Inv.calls (k : Nat) (a0 : Int) (r1 : Int) (r2 : Int) (w : World) (h : erasure_Inv.f k a0 = some (r1, r2)) :
    Calls Try.prog 13 #[.int .u8 a0] w fun e w' => e = .returned (.tuple #[.int .u8 r1, .int .i64 r2]) ∧ Drawn0 w w' := by
  have H : (if a0 = 0 then (some (0, 4)) else (erasure_Inv.l0 k a0 1 0)) = some (r1, r2) := h
  clear h
  by_cases c2 : a0 = 0
  · rw [if_pos c2] at H
    have c2b0 : (a0 == 0) = true := beq_iff_eq.mpr c2
    have c2b1 : (a0 != 0) = false := bne_eq_false_iff_eq.mpr c2
    clear c2
    simp only [Option.some.injEq, Prod.mk.injEq] at H
    obtain ⟨rfl, rfl⟩ := H
    go_enter Try.func13, Try.ntmps13
    go_wp2
    go_ret2
    exact ⟨by first | rfl | (simp; done) | (simp [*]; done), by repeat (first | exact Drawn0.refl _ | apply Drawn0.step)⟩
  · rw [if_neg c2] at H
    have c2b0 : (a0 == 0) = false := beq_eq_false_iff_ne.mpr c2
    have c2b1 : (a0 != 0) = true := bne_iff_ne.mpr c2
    have H' := Aside0.mk H
    clear H
    go_enter Try.func13, Try.ntmps13
    go_wp2
    go_loopg [4, 7] k (fun kq v4 v7 w' => ∃ (x4_1 : Int) (x7_1 : Int), v4 = .int .u8 x4_1 ∧ v7 = .int .i64 x7_1 ∧ Aside0 (erasure_Inv.l0 kq a0 x4_1 x7_1 = some (r1, r2)) ∧ Aside0 (kq ≤ k) ∧ Drawn0 w w')
    case atStart => exact ⟨(1), (0), (by first | rfl | (simp; done) | (simp [*]; done)), (by first | rfl | (simp; done) | (simp [*]; done)), H', ⟨Nat.le_refl _⟩, by repeat (first | exact Drawn0.refl _ | apply Drawn0.step)⟩
    case round =>
      clear H'
      (try clear c1); (try clear c2); (try clear c2b0); (try clear c2b1); (try clear p2)
      obtain ⟨x4_1, x7_1, rfl, rfl, HA, HK1, ⟨m1, rfl⟩⟩ := hrel
      cases gk with
      | zero => exact absurd HA.out (by simp [erasure_Inv.l0])
      | succ k1 =>
        have H := HA.out
        clear HA
        simp only [erasure_Inv.l0] at H
        by_cases c3 : x7_1 < 254
        · rw [if_pos c3] at H
          have c3b0 : decide (x7_1 < 254) = true := decide_eq_true c3
          clear c3
          replace H := Option.bind_eq_some_iff.mp H
          obtain ⟨t101, A40, H⟩ := H
          replace H : (erasure_Inv.l0 k1 a0 t101 (wrap64 (x7_1 + 1))) = some (r1, r2) := H
          have A4 := Aside0.mk A40
          clear A40
          have H' := Aside0.mk H
          clear H
          go_wp2_with (first | ((with_reducible refine gate_callee (f := 12) rfl ?_); refine goesL_ (some 11) rfl rfl Try.func12 (by kernel_rfl) rfl #[.int .u8 x4_1, .int .u8 a0] rfl (by (try simp only [List.map_toArray, List.map_cons, List.map_nil]); first | done | rfl | (simp only [List.length_drop, List.length_take]; rfl)) ?_; (with_reducible refine (erasure_Mul.calls k1 x4_1 a0 t101 _ A4.out).mono ?_); rintro e w' ⟨rfl, ⟨nd, rfl⟩⟩; refine ⟨_, rfl, ?_⟩))
          go_roundg k1
          case measure => have := HK1.out; omega
          case rel => exact ⟨(t101), (wrap64 (x7_1 + 1)), (by first | rfl | (simp; done) | (simp [*]; done)), (by first | rfl | (simp; done) | (simp [*]; done)), H', ⟨by have := HK1.out; omega⟩, by repeat (first | exact Drawn0.refl _ | apply Drawn0.step)⟩
        · rw [if_neg c3] at H
          have c3b0 : decide (x7_1 < 254) = false := decide_eq_false c3
          clear c3
          simp only [Option.some.injEq, Prod.mk.injEq] at H
          obtain ⟨rfl, rfl⟩ := H
          go_wp2
          go_ret2
          exact ⟨by first | rfl | (simp; done) | (simp [*]; done), by repeat (first | exact Drawn0.refl _ | apply Drawn0.step)⟩

/-! ### erasure_equal: function 32 -/
def erasure_equal.l0 : Nat → List (List Int) → List (List Int) → Int → Int → Option (Bool)
  | 0, _, _, _, _ => none
  | k + 1, x0, x5, x6, x7 => if x7 < x6 then (if 0 ≤ x7 then (if x7 < (x5.length : Int) then (if 0 < (x0.length : Int) then (if ((rd_L1 x5 x7).length : Int) = ((rd_L1 x0 0).length : Int) then (if ((rd_L1 x5 x7).length : Int) > 200 then (some false) else (erasure_equal.l0 k x0 x5 x6 (wrap64 (x7 + 1)))) else (some false)) else (none)) else (none)) else (none)) else (some true)
def erasure_equal.f (k : Nat) (l0 : List (List Int)) : Option (Bool) := erasure_equal.l0 k l0 l0 (l0.length : Int) 0
theorem erasure_equal.mono_l : ∀ k, (∀ y0 y1 y2 y3, LeO (erasure_equal.l0 k y0 y1 y2 y3) (erasure_equal.l0 (k + 1) y0 y1 y2 y3))
  | 0 => fun _ _ _ _ r h => by simp [erasure_equal.l0] at h
  | k + 1 => by
    have ih0 := erasure_equal.mono_l k
    · intro y0 y1 y2 y3
      unfold erasure_equal.l0
      repeat' first
      | (with_reducible exact ih0 _ _ _ _)
      | (with_reducible exact LeO.refl _)
      | (with_reducible exact LeO.none _)
      | (with_reducible refine LeO.ite ?_ ?_)
      | (with_reducible refine LeO.bind ?_ (fun _ => ?_))
      | exact ih0 _ _ _ _
      | exact LeO.none _
      | refine LeO.ite ?_ ?_
      | refine LeO.bind ?_ (fun _ => ?_)
theorem erasure_equal.mono : ∀ a0 k, LeO (erasure_equal.f k a0) (erasure_equal.f (k + 1) a0) := by
  intro a0 k
  have ih0 := erasure_equal.mono_l k
  unfold erasure_equal.f
  repeat' first
      | (with_reducible exact ih0 _ _ _ _)
      | (with_reducible exact LeO.refl _)
      | (with_reducible exact LeO.none _)
      | (with_reducible refine LeO.ite ?_ ?_)
      | (with_reducible refine LeO.bind ?_ (fun _ => ?_))
      | exact ih0 _ _ _ _
      | exact LeO.none _
      | refine LeO.ite ?_ ?_
      | refine LeO.bind ?_ (fun _ => ?_)
set_option maxHeartbeats 8000000 in
set_option maxRecDepth 100000 in
theorem erasure_equal.calls (k : Nat) (A0 : Option Addr) (c0 : Nat) (l0 : List (List Int)) (r : Bool) (w : World) (hr0 : Kd.C (Kd.slice 5 (Kd.int .u8)) w A0 l0.length l0) (hc0 : l0.length ≤ c0) (h : erasure_equal.f k l0 = some r) :
    Calls Try.prog 32 #[.slice A0 l0.length c0] w fun e w' => e = .returned (.bool r) ∧ Drawn0 w w' := by
  have HR0 := Aside0.mk hr0
  have HC0 := Aside0.mk hc0
  clear hr0 hc0
  have H : (erasure_equal.l0 k l0 l0 (l0.length : Int) 0) = some r := h
  clear h
  have H' := Aside0.mk H
  clear H
  go_enter Try.func32, Try.ntmps32
  go_wp2
  go_loopg [7] k (fun kq v7 w' => ∃ (x7_1 : Int), v7 = .int .i64 x7_1 ∧ Aside0 (erasure_equal.l0 kq l0 l0 (l0.length : Int) x7_1 = some r) ∧ Aside0 (kq ≤ k) ∧ Drawn0 w w')
  case atStart => exact ⟨(0), (by first | rfl | (simp; done) | (simp [*]; done)), H', ⟨Nat.le_refl _⟩, by repeat (first | exact Drawn0.refl _ | apply Drawn0.step)⟩
  case round =>
    clear H'
    obtain ⟨x7_1, rfl, HA, HK1, ⟨m1, rfl⟩⟩ := hrel
    cases gk with
    | zero => exact absurd HA.out (by simp [erasure_equal.l0])
    | succ k1 =>
      have H := HA.out
      clear HA
      simp only [erasure_equal.l0] at H
      by_cases c2 : x7_1 < (l0.length : Int)
      · rw [if_pos c2] at H
        have c2b0 : decide (x7_1 < (l0.length : Int)) = true := decide_eq_true c2
        clear c2
        by_cases c3 : 0 ≤ x7_1
        · rw [if_pos c3] at H
          have c3b0 : decide (0 ≤ x7_1) = true := decide_eq_true c3
          clear c3
          by_cases c4 : x7_1 < (l0.length : Int)
          · rw [if_pos c4] at H
            have c4b0 : decide (x7_1 < (l0.length : Int)) = true := decide_eq_true c4
            clear c4
            by_cases c5 : 0 < (l0.length : Int)
            · rw [if_pos c5] at H
              have c5b0 : decide (0 < (l0.length : Int)) = true := decide_eq_true c5
              have c5b1 : decide (0 < l0.length) = true := decide_eq_true (by omega)
              clear c5
              by_cases c6 : ((rd_L1 l0 x7_1).length : Int) = ((rd_L1 l0 0).length : Int)
              · rw [if_pos c6] at H
                have c6b0 : (((rd_L1 l0 x7_1).length : Int) == ((rd_L1 l0 0).length : Int)) = true := beq_iff_eq.mpr c6
                have c6b1 : (((rd_L1 l0 x7_1).length : Int) != ((rd_L1 l0 0).length : Int)) = false := bne_eq_false_iff_eq.mpr c6
                have c6b2 : ((rd_L1 l0 x7_1).length == (rd_L1 l0 0).length) = true := by first | simpa using c6 | (simp at c6 ⊢; omega)
                clear c6
                by_cases c7 : ((rd_L1 l0 x7_1).length : Int) > 200
                · rw [if_pos c7] at H
                  have c7b0 : decide (200 < ((rd_L1 l0 x7_1).length : Int)) = true := decide_eq_true c7
                  have c7b1 : decide (200 < (rd_L1 l0 x7_1).length) = true := decide_eq_true (by omega)
                  clear c7
                  obtain rfl := Option.some.inj H
                  have p102 : 0 ≤ (x7_1 : Int) := of_decide_eq_true (by first | (with_reducible assumption) | assumption)
                  have q102 : x7_1 < (l0.length : Int) := of_decide_eq_true (by first | (with_reducible assumption) | assumption)
                  obtain ⟨ad102, A102_0, c102_0, e102, hx102_0, hl102_0, hi102_0⟩ := at_L1 HR0.out x7_1 p102 q102
                  cases e102
                  have HR102_0 := Aside0.mk hi102_0
                  have HC102_0 := Aside0.mk hl102_0
                  clear hi102_0 hl102_0
                  replace p102 := eq_true p102
                  replace q102 := eq_true q102
                  have p103 : 0 ≤ (0 : Int) := (by omega)
                  have q103 : 0 < (l0.length : Int) := of_decide_eq_true (by first | (with_reducible assumption) | assumption)
                  obtain ⟨ad103, A103_0, c103_0, e103, hx103_0, hl103_0, hi103_0⟩ := at_L1 HR0.out 0 p103 q103
                  obtain rfl : ad102 = ad103 := (by injection e103)
                  have qi103 : (0 < l0.length) = True := eq_true (by omega)
                  (try rw [show ((0 : Int)).toNat = 0 from rfl] at hx103_0)
                  (try rw [Addr.add_zero'] at hx103_0)
                  have HR103_0 := Aside0.mk hi103_0
                  have HC103_0 := Aside0.mk hl103_0
                  clear hi103_0 hl103_0
                  replace p103 := eq_true p103
                  replace q103 := eq_true q103
                  go_wp2
                  go_ret
                  exact ⟨by first | rfl | (simp; done) | (simp [*]; done), by repeat (first | exact Drawn0.refl _ | apply Drawn0.step)⟩
                · rw [if_neg c7] at H
                  have c7b0 : decide (200 < ((rd_L1 l0 x7_1).length : Int)) = false := decide_eq_false c7
                  have c7b1 : decide (200 < (rd_L1 l0 x7_1).length) = false := decide_eq_false (by omega)
                  clear c7
                  have H' := Aside0.mk H
                  clear H
                  have p102 : 0 ≤ (x7_1 : Int) := of_decide_eq_true (by first | (with_reducible assumption) | assumption)
                  have q102 : x7_1 < (l0.length : Int) := of_decide_eq_true (by first | (with_reducible assumption) | assumption)
                  obtain ⟨ad102, A102_0, c102_0, e102, hx102_0, hl102_0, hi102_0⟩ := at_L1 HR0.out x7_1 p102 q102
                  cases e102
                  have HR102_0 := Aside0.mk hi102_0
                  have HC102_0 := Aside0.mk hl102_0
                  clear hi102_0 hl102_0
                  replace p102 := eq_true p102
                  replace q102 := eq_true q102
                  have p103 : 0 ≤ (0 : Int) := (by omega)
                  have q103 : 0 < (l0.length : Int) := of_decide_eq_true (by first | (with_reducible assumption) | assumption)
                  obtain ⟨ad103, A103_0, c103_0, e103, hx103_0, hl103_0, hi103_0⟩ := at_L1 HR0.out 0 p103 q103
                  obtain rfl : ad102 = ad103 := (by injection e103)
                  have qi103 : (0 < l0.length) = True := eq_true (by omega)
                  (try rw [show ((0 : Int)).toNat = 0 from rfl] at hx103_0)
                  (try rw [Addr.add_zero'] at hx103_0)
                  have HR103_0 := Aside0.mk hi103_0
                  have HC103_0 := Aside0.mk hl103_0
                  clear hi103_0 hl103_0
                  replace p103 := eq_true p103
                  replace q103 := eq_true q103
                  go_wp2
                  go_roundg k1
                  case measure => have := HK1.out; omega
                  case rel => exact ⟨(wrap64 (x7_1 + 1)), (by first | rfl | (simp; done) | (simp [*]; done)), H', ⟨by have := HK1.out; omega⟩, by repeat (first | exact Drawn0.refl _ | apply Drawn0.step)⟩
              · rw [if_neg c6] at H
                have c6b0 : (((rd_L1 l0 x7_1).length : Int) == ((rd_L1 l0 0).length : Int)) = false := beq_eq_false_iff_ne.mpr c6
                have c6b1 : (((rd_L1 l0 x7_1).length : Int) != ((rd_L1 l0 0).length : Int)) = true := bne_iff_ne.mpr c6
                have c6b2 : ((rd_L1 l0 x7_1).length == (rd_L1 l0 0).length) = false := by first | simpa using c6 | (simp at c6 ⊢; omega)
                obtain rfl := Option.some.inj H
                have p102 : 0 ≤ (x7_1 : Int) := of_decide_eq_true (by first | (with_reducible assumption) | assumption)
                have q102 : x7_1 < (l0.length : Int) := of_decide_eq_true (by first | (with_reducible assumption) | assumption)
                obtain ⟨ad102, A102_0, c102_0, e102, hx102_0, hl102_0, hi102_0⟩ := at_L1 HR0.out x7_1 p102 q102
                cases e102
                have HR102_0 := Aside0.mk hi102_0
                have HC102_0 := Aside0.mk hl102_0
                clear hi102_0 hl102_0
                replace p102 := eq_true p102
                replace q102 := eq_true q102
                have p103 : 0 ≤ (0 : Int) := (by omega)
                have q103 : 0 < (l0.length : Int) := of_decide_eq_true (by first | (with_reducible assumption) | assumption)
                obtain ⟨ad103, A103_0, c103_0, e103, hx103_0, hl103_0, hi103_0⟩ := at_L1 HR0.out 0 p103 q103
                obtain rfl : ad102 = ad103 := (by injection e103)
                have qi103 : (0 < l0.length) = True := eq_true (by omega)
                (try rw [show ((0 : Int)).toNat = 0 from rfl] at hx103_0)
                (try rw [Addr.add_zero'] at hx103_0)
                have HR103_0 := Aside0.mk hi103_0
                have HC103_0 := Aside0.mk hl103_0
                clear hi103_0 hl103_0
                replace p103 := eq_true p103
                replace q103 := eq_true q103
                go_wp2
                go_ret
                exact ⟨by first | rfl | (simp; done) | (simp [*]; done), by repeat (first | exact Drawn0.refl _ | apply Drawn0.step)⟩
            · rw [if_neg c5] at H
              exact absurd H (by simp)
          · rw [if_neg c4] at H
            exact absurd H (by simp)
        · rw [if_neg c3] at H
          exact absurd H (by simp)
      · rw [if_neg c2] at H
        have c2b0 : decide (x7_1 < (l0.length : Int)) = false := decide_eq_false c2
        clear c2
        obtain rfl := Option.some.inj H
        go_wp2
        go_ret
        exact ⟨by first | rfl | (simp; done) | (simp [*]; done), by repeat (first | exact Drawn0.refl _ | apply Drawn0.step)⟩

/-! ### erasure_indices: function 33 -/
def erasure_indices.l0 : Nat → List Int → Int → Int → Option (List Int)
  | 0, _, _, _ => none
  | k + 1, x3, x8, x9 => if x9 < x8 then (if 0 ≤ x9 then (if x9 < (x3.length : Int) then (erasure_indices.l0 k (x3.set (x9 : Int).toNat x9) x8 (wrap64 (x9 + 1))) else (none)) else (none)) else (some x3)
def erasure_indices.f (k : Nat) (a0 : Int) : Option (List Int) := if 0 ≤ a0 then (if (a0 : Int).toNat ≤ 35184372088832 then ((some (List.replicate (a0 : Int).toNat 0 : List Int)).bind fun y104 => (erasure_indices.l0 k y104 (y104.length : Int) 0)) else (none)) else (none)
theorem erasure_indices.mono_l : ∀ k, (∀ y0 y1 y2, LeO (erasure_indices.l0 k y0 y1 y2) (erasure_indices.l0 (k + 1) y0 y1 y2))
  | 0 => fun _ _ _ r h => by simp [erasure_indices.l0] at h
  | k + 1 => by
    have ih0 := erasure_indices.mono_l k
    · intro y0 y1 y2
      unfold erasure_indices.l0
      repeat' first
      | (with_reducible exact ih0 _ _ _)
      | (with_reducible exact LeO.refl _)
      | (with_reducible exact LeO.none _)
      | (with_reducible refine LeO.ite ?_ ?_)
      | (with_reducible refine LeO.bind ?_ (fun _ => ?_))
      | exact ih0 _ _ _
      | exact LeO.none _
      | refine LeO.ite ?_ ?_
      | refine LeO.bind ?_ (fun _ => ?_)
theorem erasure_indices.mono : ∀ a0 k, LeO (erasure_indices.f k a0) (erasure_indices.f (k + 1) a0) := by
  intro a0 k
  have ih0 := erasure_indices.mono_l k
  unfold erasure_indices.f
  repeat' first
      | (with_reducible exact ih0 _ _ _)
      | (with_reducible exact LeO.refl _)
      | (with_reducible exact LeO.none _)
      | (with_reducible refine LeO.ite ?_ ?_)
      | (with_reducible refine LeO.bind ?_ (fun _ => ?_))
      | exact ih0 _ _ _
      | exact LeO.none _
      | refine LeO.ite ?_ ?_
      | refine LeO.bind ?_ (fun _ => ?_)
set_option maxHeartbeats 8000000 in
set_option maxRecDepth 100000 in
theorem erasure_indices.calls (k : Nat) (a0 : Int) (r : List Int) (w : World) (h : erasure_indices.f k a0 = some r) :
    Calls Try.prog 33 #[.int .i64 a0] w fun e w' => ∃ v0_ : Value, e = .returned (v0_) ∧ Kd.R (Kd.int .i64) 3 w' w.heap.size (fun _ => True) v0_ r ∧ Below w.heap.size w w' := by
  have HB := Aside0.mk (Below.refl w.heap.size w)
  have H : (if 0 ≤ a0 then (if (a0 : Int).toNat ≤ 35184372088832 then ((some (List.replicate (a0 : Int).toNat 0 : List Int)).bind fun y104 => (erasure_indices.l0 k y104 (y104.length : Int) 0)) else (none)) else (none)) = some r := h
  clear h
  by_cases c2 : 0 ≤ a0
  · rw [if_pos c2] at H
    have c2b0 := eq_true c2
    have c2b1 : decide (0 ≤ a0) = true := decide_eq_true c2
    clear c2
    by_cases c3 : (a0 : Int).toNat ≤ 35184372088832
    · rw [if_pos c3] at H
      have c3b0 := eq_true c3
      have c3b1 : decide ((a0 : Int).toNat ≤ 35184372088832) = true := decide_eq_true c3
      clear c3
      obtain ⟨y104, hy104⟩ : ∃ y_ : List Int, y_ = (List.replicate (a0 : Int).toNat 0) := ⟨_, rfl⟩
      replace H : (erasure_indices.l0 k y104 (y104.length : Int) 0) = some r := by first | (rw [hy104]; with_reducible exact H) | (have H2_ := (Option.bind_some _ _).symm.trans H; rw [hy104]; with_reducible exact H2_) | (have H2_ := (Option.bind_some _ _).symm.trans H; with_reducible exact H2_) | with_reducible exact H | (rw [hy104]; exact H) | exact H
      have Ny104 := Aside0.mk hy104
      clear hy104
      have H' := Aside0.mk H
      clear H
      go_enter Try.func33, Try.ntmps33
      go_wp2_with (first | ((with_reducible refine gate_dst (N := 6) rfl ?_); refine Kd.R_make (Kd.int .i64) _ 3 rfl (N := 6) rfl 33 _ _ rfl a0 rfl rfl Try.underlying33 (.int .i64 0) 8 info3 rfl (by decide) (by omega) 0 (ok := fun _ => True) (okp := fun _ => True) rfl (fun _ hk => hk) trivial (of_decide_eq_true (by first | (with_reducible assumption) | assumption)) (Nat.le_trans (Nat.mul_le_mul_right _ (of_decide_eq_true (by first | (with_reducible assumption) | assumption) : a0.toNat ≤ 35184372088832)) (by omega)) (Below.refl _ _) (Nat.le_refl _) ?_; intro v105 w4 ho5 hb hg_ hnew_; clear hg_ hnew_; (first | rw [← Ny104.out] at ho5 | (simp only [Int.reduceToNat] at ho5; rw [← Ny104.out] at ho5)); have n0_ := Aside0.mk (Kd.R_lower ho5 (below_size (by repeat (first | (with_reducible first | exact HB.out | apply below_alloc | apply pw_below_drewN | apply below_drew1) | exact HB.out)))); have n1_ := Aside0.mk (below_step (by repeat (first | (with_reducible first | exact HB.out | apply below_alloc | apply pw_below_drewN | apply below_drew1) | exact HB.out)) hb); clear HB; have HO106 := n0_; have HB := n1_; clear n0_ n1_; clear hb ho5; obtain ⟨Ao6, co6, eo6⟩ := Kd.R_slice HO106.out; subst eo6))
      go_loopg [9] k (fun kq v9 w' => ∃ (x3_1 : List Int) (x9_1 : Int), v9 = .int .i64 x9_1 ∧ Aside0 (erasure_indices.l0 kq x3_1 (y104.length : Int) x9_1 = some r) ∧ Aside0 (kq ≤ k) ∧ Aside0 (Kd.R (Kd.int .i64) 3 w' w.heap.size (fun _ => True) (.slice Ao6 y104.length co6) x3_1) ∧ Aside0 (Below w.heap.size w w'))
      case atStart => exact ⟨(y104), (0), (by first | rfl | (simp; done) | (simp [*]; done)), H', ⟨Nat.le_refl _⟩, ⟨by (with_reducible repeat (first | apply Kd.R_alloc | apply Kd.R_drewN | apply Kd.R_drew)); exact HO106.out⟩, ⟨by repeat (first | (with_reducible first | exact HB.out | apply below_alloc | apply pw_below_drewN | apply below_drew1) | exact HB.out)⟩⟩
      case round =>
        clear H'
        (try clear c2); (try clear c2b0); (try clear c2b1); (try clear p2); (try clear c3); (try clear c3b0); (try clear c3b1)
        obtain ⟨x3_1, x9_1, rfl, HA, HK1, HO_3, HB⟩ := hrel
        have hl3_1 := (Kd.R_reads' HO_3.out).1
        rw [hl3_1] at HO_3
        (try simp only [hl3_1])
        cases gk with
        | zero => exact absurd HA.out (by simp [erasure_indices.l0])
        | succ k1 =>
          have H := HA.out
          clear HA
          simp only [erasure_indices.l0] at H
          by_cases c7 : x9_1 < (y104.length : Int)
          · rw [if_pos c7] at H
            have c7b0 : decide (x9_1 < (y104.length : Int)) = true := decide_eq_true c7
            (try (have c7h0 := c7b0; simp only [hl3_1] at c7h0))
            clear c7
            by_cases c8 : 0 ≤ x9_1
            · rw [if_pos c8] at H
              have c8b0 : decide (0 ≤ x9_1) = true := decide_eq_true c8
              (try (have c8h0 := c8b0; simp only [hl3_1] at c8h0))
              clear c8
              by_cases c9 : x9_1 < (x3_1.length : Int)
              · rw [if_pos c9] at H
                have c9b0 : decide (x9_1 < (x3_1.length : Int)) = true := decide_eq_true c9
                (try (have c9h0 := c9b0; simp only [hl3_1] at c9h0))
                clear c9
                obtain ⟨y107, hy107⟩ : ∃ y_ : List Int, y_ = (x3_1.set (x9_1 : Int).toNat x9_1) := ⟨_, rfl⟩
                replace H : (erasure_indices.l0 k1 y107 (y104.length : Int) (wrap64 (x9_1 + 1))) = some r := by first | (rw [hy107]; with_reducible exact H) | (have H2_ := (Option.bind_some _ _).symm.trans H; rw [hy107]; with_reducible exact H2_) | (have H2_ := (Option.bind_some _ _).symm.trans H; with_reducible exact H2_) | with_reducible exact H | (rw [hy107]; exact H) | exact H
                have Ny107 := Aside0.mk hy107
                clear hy107
                have H' := Aside0.mk H
                clear H
                have p10 : 0 ≤ (x9_1 : Int) := of_decide_eq_true (by first | (with_reducible assumption) | assumption)
                have q10 : (x9_1 : Int) < ((x3_1.length : Int) : Int) := of_decide_eq_true (by first | (with_reducible assumption) | assumption)
                obtain ⟨go10, co10, eo10, gb10, gl10, cl10, HG10⟩ := Kd.R_form HO_3.out (by omega)
                (first | cases eo10 | (injection eo10 with ea_ en_ ec_; (first | subst ea_ | (injection ea_ with ea_; subst ea_)); subst ec_; clear en_))
                have GB10 := Aside0.mk gb10
                have GG10 := Aside0.mk HG10
                clear gb10 gl10 HG10
                obtain ⟨hx10_0, hf10_0⟩ := Kd.R_celln 0 HO_3.out (x9_1 : Int) p10 q10
                replace p10 := eq_true p10
                replace q10 := eq_true q10
                have HP11 := Kd.R_putg HO_3.out (x9_1 : Int) x9_1
                go_wp2_with (first | ((with_reducible refine gate_store (t := 3) (p := 15) rfl ?_); refine store_event (t := 3) (p := 15) (v := ?vo_w12) (w1 := (wr.setCell ⟨go10, (x9_1 : Int).toNat, none⟩ (.int .i64 x9_1))) ?hg ?ho ?hn ?hr ?_; (case ho => rfl); (case hg => rfl); (case hn => rfl); (case hr => first | (go_simp; done) | (go_simp; rfl)); intro w12 hw; have hg : wr.grownBy w12 (some go10) := (by rw [hw]; exact HP11.2); have hp_ : Kd.R (Kd.int .i64) 3 w12 w.heap.size (fun _ => True) (.slice (some ⟨go10, 0, none⟩) x3_1.length co6) y107 := (by rw [hw, Ny107.out]; exact HP11.1); clear HP11; have n0_ := Aside0.mk (hp_); have n1_ := Aside0.mk ((by rw [hw]; exact below_set (HB.out) GB10.out : Below w.heap.size w w12)); clear HO_3; clear HB; have HO_3 := n0_; have HB := n1_; clear n0_ n1_; clear hg hw hp_))
                (try simp only [← hl3_1])
                go_roundg k1
                case measure => have := HK1.out; omega
                case rel => exact ⟨(y107), (wrap64 (x9_1 + 1)), (by first | rfl | (simp; done) | (simp [*]; done)), H', ⟨by have := HK1.out; omega⟩, ⟨by (try simp only [hl3_1]); (with_reducible repeat (first | apply Kd.R_alloc | apply Kd.R_drewN | apply Kd.R_drew)); exact HO_3.out⟩, ⟨by repeat (first | (with_reducible first | exact HB.out | apply below_alloc | apply pw_below_drewN | apply below_drew1) | exact HB.out)⟩⟩
              · rw [if_neg c9] at H
                exact absurd H (by simp)
            · rw [if_neg c8] at H
              exact absurd H (by simp)
          · rw [if_neg c7] at H
            have c7b0 : decide (x9_1 < (y104.length : Int)) = false := decide_eq_false c7
            (try (have c7h0 := c7b0; simp only [hl3_1] at c7h0))
            clear c7
            obtain rfl := Option.some.inj H
            go_wp2
            go_ret
            exact ⟨_, by first | rfl | (simp [errW_none, errW_some] <;> rfl) | (simp [*, errW_none, errW_some] <;> rfl), by (with_reducible repeat (first | apply Kd.R_alloc | apply Kd.R_drewN | apply Kd.R_drew)); exact HO_3.out, by repeat (first | (with_reducible first | exact HB.out | apply below_alloc | apply pw_below_drewN | apply below_drew1) | exact HB.out)⟩
    · rw [if_neg c3] at H
      exact absurd H (by simp)
  · rw [if_neg c2] at H
    exact absurd H (by simp)

/-! ### erasure_product: function 46 -/
def erasure_product.l0 : Nat → Int → List Int → Int → Int → Option (Int)
  | 0, _, _, _, _ => none
  | k + 1, x3, x6, x7, x8 => if x8 < x7 then (if 0 ≤ x8 then (if x8 < (x6.length : Int) then ((erasure_Mul.f k x3 (rd x6 x8)).bind fun t109 => (erasure_product.l0 k t109 x6 x7 (wrap64 (x8 + 1)))) else (none)) else (none)) else (some x3)
def erasure_product.f (k : Nat) (l0 : List Int) : Option (Int) := erasure_product.l0 k 1 l0 (l0.length : Int) 0
theorem erasure_product.mono_l : ∀ k, (∀ y0 y1 y2 y3, LeO (erasure_product.l0 k y0 y1 y2 y3) (erasure_product.l0 (k + 1) y0 y1 y2 y3))
  | 0 => fun _ _ _ _ r h => by simp [erasure_product.l0] at h
  | k + 1 => by
    have ih0 := erasure_product.mono_l k
    · intro y0 y1 y2 y3
      unfold erasure_product.l0
      repeat' first
      | (with_reducible exact ih0 _ _ _ _)
      | (with_reducible exact erasure_Mul.mono _ _ _)
      | (with_reducible exact LeO.refl _)
      | (with_reducible exact LeO.none _)
      | (with_reducible refine LeO.ite ?_ ?_)
      | (with_reducible refine LeO.bind ?_ (fun _ => ?_))
      | exact ih0 _ _ _ _
      | exact erasure_Mul.mono _ _ _
      | exact LeO.none _
      | refine LeO.ite ?_ ?_
      | refine LeO.bind ?_ (fun _ => ?_)
theorem erasure_product.mono : ∀ a0 k, LeO (erasure_product.f k a0) (erasure_product.f (k + 1) a0) := by
  intro a0 k
  have ih0 := erasure_product.mono_l k
  unfold erasure_product.f
  repeat' first
      | (with_reducible exact ih0 _ _ _ _)
      | (with_reducible exact erasure_Mul.mono _ _ _)
      | (with_reducible exact LeO.refl _)
      | (with_reducible exact LeO.none _)
      | (with_reducible refine LeO.ite ?_ ?_)
      | (with_reducible refine LeO.bind ?_ (fun _ => ?_))
      | exact ih0 _ _ _ _
      | exact erasure_Mul.mono _ _ _
      | exact LeO.none _
      | refine LeO.ite ?_ ?_
      | refine LeO.bind ?_ (fun _ => ?_)
set_option maxHeartbeats 8000000 in
set_option maxRecDepth 100000 in
theorem erasure_product.calls (k : Nat) (A0 : Option Addr) (c0 : Nat) (l0 : List Int) (r : Int) (w : World) (hr0 : Kd.C (Kd.int .u8) w A0 l0.length l0) (hc0 : l0.length ≤ c0) (h : erasure_product.f k l0 = some r) :
    Calls Try.prog 46 #[.slice A0 l0.length c0] w fun e w' => e = .returned (.int .u8 r) ∧ Drawn0 w w' := by
  have HR0 := Aside0.mk hr0
  have HC0 := Aside0.mk hc0
  clear hr0 hc0
  have H : (erasure_product.l0 k 1 l0 (l0.length : Int) 0) = some r := h
  clear h
  have H' := Aside0.mk H
  clear H
  go_enter Try.func46, Try.ntmps46
  go_wp2
  go_loopg [3, 8] k (fun kq v3 v8 w' => ∃ (x3_1 : Int) (x8_1 : Int), v3 = .int .u8 x3_1 ∧ v8 = .int .i64 x8_1 ∧ Aside0 (erasure_product.l0 kq x3_1 l0 (l0.length : Int) x8_1 = some r) ∧ Aside0 (kq ≤ k) ∧ Drawn0 w w')
  case atStart => exact ⟨(1), (0), (by first | rfl | (simp; done) | (simp [*]; done)), (by first | rfl | (simp; done) | (simp [*]; done)), H', ⟨Nat.le_refl _⟩, by repeat (first | exact Drawn0.refl _ | apply Drawn0.step)⟩
  case round =>
    clear H'
    obtain ⟨x3_1, x8_1, rfl, rfl, HA, HK1, ⟨m1, rfl⟩⟩ := hrel
    cases gk with
    | zero => exact absurd HA.out (by simp [erasure_product.l0])
    | succ k1 =>
      have H := HA.out
      clear HA
      simp only [erasure_product.l0] at H
      by_cases c2 : x8_1 < (l0.length : Int)
      · rw [if_pos c2] at H
        have c2b0 : decide (x8_1 < (l0.length : Int)) = true := decide_eq_true c2
        clear c2
        by_cases c3 : 0 ≤ x8_1
        · rw [if_pos c3] at H
          have c3b0 : decide (0 ≤ x8_1) = true := decide_eq_true c3
          clear c3
          by_cases c4 : x8_1 < (l0.length : Int)
          · rw [if_pos c4] at H
            have c4b0 : decide (x8_1 < (l0.length : Int)) = true := decide_eq_true c4
            clear c4
            replace H := Option.bind_eq_some_iff.mp H
            obtain ⟨t109, A50, H⟩ := H
            replace H : (erasure_product.l0 k1 t109 l0 (l0.length : Int) (wrap64 (x8_1 + 1))) = some r := H
            have A5 := Aside0.mk A50
            clear A50
            have H' := Aside0.mk H
            clear H
            have p108 : 0 ≤ (x8_1 : Int) := of_decide_eq_true (by first | (with_reducible assumption) | assumption)
            have q108 : x8_1 < (l0.length : Int) := of_decide_eq_true (by first | (with_reducible assumption) | assumption)
            obtain ⟨ad108, e108, hx108_0⟩ := Kd.at_int HR0.out x8_1 p108 q108
            cases e108
            replace p108 := eq_true p108
            replace q108 := eq_true q108
            go_wp2_with (first | ((with_reducible refine gate_callee (f := 12) rfl ?_); refine goesL_ (some 14) rfl rfl Try.func12 (by kernel_rfl) rfl #[.int .u8 x3_1, .int .u8 (rd l0 x8_1)] rfl (by (try simp only [List.map_toArray, List.map_cons, List.map_nil]); first | done | rfl | (simp only [List.length_drop, List.length_take]; rfl)) ?_; (with_reducible refine (erasure_Mul.calls k1 x3_1 (rd l0 x8_1) t109 _ A5.out).mono ?_); rintro e w' ⟨rfl, ⟨nd, rfl⟩⟩; refine ⟨_, rfl, ?_⟩))
            go_roundg k1
            case measure => have := HK1.out; omega
            case rel => exact ⟨(t109), (wrap64 (x8_1 + 1)), (by first | rfl | (simp; done) | (simp [*]; done)), (by first | rfl | (simp; done) | (simp [*]; done)), H', ⟨by have := HK1.out; omega⟩, by repeat (first | exact Drawn0.refl _ | apply Drawn0.step)⟩
          · rw [if_neg c4] at H
            exact absurd H (by simp)
        · rw [if_neg c3] at H
          exact absurd H (by simp)
      · rw [if_neg c2] at H
        have c2b0 : decide (x8_1 < (l0.length : Int)) = false := decide_eq_false c2
        clear c2
        obtain rfl := Option.some.inj H
        go_wp2
        go_ret
        exact ⟨by first | rfl | (simp; done) | (simp [*]; done), by repeat (first | exact Drawn0.refl _ | apply Drawn0.step)⟩

-- NOT PRINTED: function 45 (erasure_factors_1)

-- NOT PRINTED: function 42 (erasure_factors)

end Go.Proofs.Ytcjjohealloglaa.E
