-- by drive.py (this session's program: it runs print.py beside functions proved by hand). Lean checks it.
import Derived.Test.YtcjjohealloglaaEx0
namespace Go.Proofs.Ytcjjohealloglaa.E
open Go.RowKit Go.Proofs.YtcjjohealloglaaW.PrintWords Go.Proofs.YtcjjohealloglaaW.PrintLast Go.Proofs.YtcjjohealloglaaW.PrintMore
attribute [local go_sem] max2_int min2_int max_two min_two max_three min_three max_four min_four   -- for this text's walks alone
set_option linter.unusedVariables false
set_option linter.unusedSimpArgs false

theorem wrap64_one_ : wrap64 1 = 1 := by unfold wrap64; omega
attribute [local go_sem] wrap64_one_
/-! ### seamarklaw29_chosen: function 16 -/
mutual
def seamarklaw29_chosen.l0 : Nat → Int → Int → List Int → List Int → Int → Option (List Int)
  | 0, _, _, _, _, _ => none
  | k + 1, x0, x1, x2, x7, x8 => if x8 < x1 then (if x7.length < 17592186044416 then (seamarklaw29_chosen.l0 k x0 x1 x2 (x7 ++ [x8]) (wrap64 (x8 + 1))) else (none)) else (seamarklaw29_chosen.l1 k x0 x2 x7 ([] : List Int) 0)
def seamarklaw29_chosen.l1 : Nat → Int → List Int → List Int → List Int → Int → Option (List Int)
  | 0, _, _, _, _, _ => none
  | k + 1, x0, x2, x7, x9, x10 => if x10 < x0 then (seamarklaw29_chosen.j2 k x0 x2 x7 x9 x10 (decide ((x7.length : Int) > 0))) else (seamarklaw29_chosen.j2 k x0 x2 x7 x9 x10 false)
def seamarklaw29_chosen.j2 : Nat → Int → List Int → List Int → List Int → Int → Bool → Option (List Int)
  | 0, _, _, _, _, _, _ => none
  | k + 1, x0, x2, x7, x9, x10, x28 => if x28 = true then (if x10 < (x2.length : Int) then (if 0 ≤ x10 then (if (x7.length : Int) = 0 then (none) else (if 0 ≤ (Int.tmod (wrap64 (rd x2 x10)) (x7.length : Int)) then (if (Int.tmod (wrap64 (rd x2 x10)) (x7.length : Int)) < (x7.length : Int) then (if x9.length < 17592186044416 then (if (Int.tmod (wrap64 (rd x2 x10)) (x7.length : Int)) ≤ (x7.length : Int) then (if 0 ≤ (wrap64 ((Int.tmod (wrap64 (rd x2 x10)) (x7.length : Int)) + 1)) then (if (wrap64 ((Int.tmod (wrap64 (rd x2 x10)) (x7.length : Int)) + 1)) ≤ (x7.length : Int) then (seamarklaw29_chosen.l1 k x0 x2 (x7.eraseIdx ((Int.tmod (wrap64 (rd x2 x10)) (x7.length : Int)) : Int).toNat) (x9 ++ [rd x7 (Int.tmod (wrap64 (rd x2 x10)) (x7.length : Int))]) (wrap64 (x10 + 1))) else (none)) else (none)) else (none)) else (none)) else (none)) else (none))) else (none)) else (if 0 < (x7.length : Int) then (if x9.length < 17592186044416 then (if 0 ≤ (x7.length : Int) then (if 1 ≤ (x7.length : Int) then (seamarklaw29_chosen.l1 k x0 x2 (x7.eraseIdx (0 : Int).toNat) (x9 ++ [rd x7 0]) (wrap64 (x10 + 1))) else (none)) else (none)) else (none)) else (none))) else (some x9)
end
def seamarklaw29_chosen.f (k : Nat) (a0 : Int) (a1 : Int) (l2 : List Int) : Option (List Int) := seamarklaw29_chosen.l0 k a0 a1 l2 ([] : List Int) 0
theorem seamarklaw29_chosen.mono_l : ∀ k, (∀ y0 y1 y2 y3 y4, LeO (seamarklaw29_chosen.l0 k y0 y1 y2 y3 y4) (seamarklaw29_chosen.l0 (k + 1) y0 y1 y2 y3 y4)) ∧ (∀ y0 y1 y2 y3 y4, LeO (seamarklaw29_chosen.l1 k y0 y1 y2 y3 y4) (seamarklaw29_chosen.l1 (k + 1) y0 y1 y2 y3 y4)) ∧ (∀ y0 y1 y2 y3 y4 y5, LeO (seamarklaw29_chosen.j2 k y0 y1 y2 y3 y4 y5) (seamarklaw29_chosen.j2 (k + 1) y0 y1 y2 y3 y4 y5))
  | 0 => ⟨fun _ _ _ _ _ r h => by simp [seamarklaw29_chosen.l0] at h, fun _ _ _ _ _ r h => by simp [seamarklaw29_chosen.l1] at h, fun _ _ _ _ _ _ r h => by simp [seamarklaw29_chosen.j2] at h⟩
  | k + 1 => by
    obtain ⟨ih0, ih1, ih2⟩ := seamarklaw29_chosen.mono_l k
    refine ⟨?_, ?_, ?_⟩
    · intro y0 y1 y2 y3 y4
      unfold seamarklaw29_chosen.l0
      repeat' first
      | (with_reducible exact ih0 _ _ _ _ _)
      | (with_reducible exact ih1 _ _ _ _ _)
      | (with_reducible exact ih2 _ _ _ _ _ _)
      | (with_reducible exact LeO.refl _)
      | (with_reducible exact LeO.none _)
      | (with_reducible refine LeO.ite ?_ ?_)
      | (with_reducible refine LeO.bind ?_ (fun _ => ?_))
      | exact ih0 _ _ _ _ _
      | exact ih1 _ _ _ _ _
      | exact ih2 _ _ _ _ _ _
      | exact LeO.none _
      | refine LeO.ite ?_ ?_
      | refine LeO.bind ?_ (fun _ => ?_)
    · intro y0 y1 y2 y3 y4
      unfold seamarklaw29_chosen.l1
      repeat' first
      | (with_reducible exact ih0 _ _ _ _ _)
      | (with_reducible exact ih1 _ _ _ _ _)
      | (with_reducible exact ih2 _ _ _ _ _ _)
      | (with_reducible exact LeO.refl _)
      | (with_reducible exact LeO.none _)
      | (with_reducible refine LeO.ite ?_ ?_)
      | (with_reducible refine LeO.bind ?_ (fun _ => ?_))
      | exact ih0 _ _ _ _ _
      | exact ih1 _ _ _ _ _
      | exact ih2 _ _ _ _ _ _
      | exact LeO.none _
      | refine LeO.ite ?_ ?_
      | refine LeO.bind ?_ (fun _ => ?_)
    · intro y0 y1 y2 y3 y4 y5
      unfold seamarklaw29_chosen.j2
      repeat' first
      | (with_reducible exact ih0 _ _ _ _ _)
      | (with_reducible exact ih1 _ _ _ _ _)
      | (with_reducible exact ih2 _ _ _ _ _ _)
      | (with_reducible exact LeO.refl _)
      | (with_reducible exact LeO.none _)
      | (with_reducible refine LeO.ite ?_ ?_)
      | (with_reducible refine LeO.bind ?_ (fun _ => ?_))
      | exact ih0 _ _ _ _ _
      | exact ih1 _ _ _ _ _
      | exact ih2 _ _ _ _ _ _
      | exact LeO.none _
      | refine LeO.ite ?_ ?_
      | refine LeO.bind ?_ (fun _ => ?_)
theorem seamarklaw29_chosen.mono : ∀ a0 a1 a2 k, LeO (seamarklaw29_chosen.f k a0 a1 a2) (seamarklaw29_chosen.f (k + 1) a0 a1 a2) := by
  intro a0 a1 a2 k
  obtain ⟨ih0, ih1, ih2⟩ := seamarklaw29_chosen.mono_l k
  unfold seamarklaw29_chosen.f
  repeat' first
      | (with_reducible exact ih0 _ _ _ _ _)
      | (with_reducible exact ih1 _ _ _ _ _)
      | (with_reducible exact ih2 _ _ _ _ _ _)
      | (with_reducible exact LeO.refl _)
      | (with_reducible exact LeO.none _)
      | (with_reducible refine LeO.ite ?_ ?_)
      | (with_reducible refine LeO.bind ?_ (fun _ => ?_))
      | exact ih0 _ _ _ _ _
      | exact ih1 _ _ _ _ _
      | exact ih2 _ _ _ _ _ _
      | exact LeO.none _
      | refine LeO.ite ?_ ?_
      | refine LeO.bind ?_ (fun _ => ?_)
def seamarklaw29_chosen.T14 : Bool × List (List Nat × List Nat) := (true, [([], []), ([], []), ([0, 1], [0, 1]), ([], []), ([], []), ([4], [4]), ([3, 5], [3, 5]), ([2, 6], [2, 6]), ([7, 7, 0, 1, 2, 3, 4, 5, 6, 7], [0, 3, 7])])
def seamarklaw29_chosen.B14 : List Nat := [0, 0, 3, 0, 0, 16, 56, 127, 255]
theorem seamarklaw29_chosen.tab14 : rtab .any (opsOf Try.f16 14) = seamarklaw29_chosen.T14 := by kernel_rfl
theorem seamarklaw29_chosen.bits14 : waitsOk seamarklaw29_chosen.T14.2 seamarklaw29_chosen.B14 = true := by kernel_rfl
set_option maxHeartbeats 8000000 in
set_option maxRecDepth 100000 in
theorem seamarklaw29_chosen.calls (k : Nat) (a0 : Int) (a1 : Int) (A2 : Option Addr) (c2 : Nat) (l2 : List Int) (r : List Int) (w : World) (hr2 : Kd.C (Kd.int .u8) w A2 l2.length l2) (hc2 : l2.length ≤ c2) (h : seamarklaw29_chosen.f k a0 a1 l2 = some r) :
    Calls Try.prog 16 #[.int .i64 a0, .int .i64 a1, .slice A2 l2.length c2] w fun e w' => ∃ v0_ : Value, e = .returned (v0_) ∧ Kd.R (Kd.int .i64) 3 w' w.heap.size (fun _ => True) v0_ r ∧ Below w.heap.size w w' := by
  have HR2 := Aside0.mk hr2
  have HC2 := Aside0.mk hc2
  clear hr2 hc2
  have HB := Aside0.mk (Below.refl w.heap.size w)
  have H : (seamarklaw29_chosen.l0 k a0 a1 l2 ([] : List Int) 0) = some r := h
  clear h
  have H' := Aside0.mk H
  clear H
  go_enter Try.func16, Try.ntmps16
  go_wp2
  go_loopg [7, 8] k (fun kq v7 v8 w' => ∃ (x7_1 : List Int) (x8_1 : Int), v8 = .int .i64 x8_1 ∧ Aside0 (seamarklaw29_chosen.l0 kq a0 a1 l2 x7_1 x8_1 = some r) ∧ Aside0 (kq ≤ k) ∧ Aside0 (Kd.R (Kd.int .i64) 3 w' w.heap.size (fun _ => True) v7 x7_1) ∧ Aside0 (Below w.heap.size w w'))
  case atStart => exact ⟨(([] : List Int)), (0), (by first | rfl | (simp; done) | (simp [*]; done)), H', ⟨Nat.le_refl _⟩, ⟨by first | exact Kd.R_nil _ _ _ _ _ | exact Kd.N_nil _ _ _ _ _ | exact Kd.V_nil _ _ _ _ _ | exact Kd.Q_nil _ _ _ _ _ | exact Kd.S_nil _ _ _ _ _⟩, ⟨by repeat (first | (with_reducible first | exact HB.out | apply below_alloc | apply pw_below_drewN | apply below_drew1) | exact HB.out)⟩⟩
  case round =>
    clear H'
    (try clear c1); (try clear c2); (try clear p2)
    obtain ⟨x7_1, x8_1, rfl, HA, HK1, HO_7, HB⟩ := hrel
    cases gk with
    | zero => exact absurd HA.out (by simp [seamarklaw29_chosen.l0])
    | succ k1 =>
      have H := HA.out
      clear HA
      simp only [seamarklaw29_chosen.l0] at H
      by_cases c4 : x8_1 < a1
      · rw [if_pos c4] at H
        have c4b0 : decide (x8_1 < a1) = true := decide_eq_true c4
        clear c4
        by_cases c5 : x7_1.length < 17592186044416
        · rw [if_pos c5] at H
          have LMc5 := Aside0.mk c5
          clear c5
          obtain ⟨y253, hy253⟩ : ∃ y_ : List Int, y_ = (x7_1 ++ [x8_1]) := ⟨_, rfl⟩
          replace H : (seamarklaw29_chosen.l0 k1 a0 a1 l2 y253 (wrap64 (x8_1 + 1))) = some r := by first | (rw [hy253]; with_reducible exact H) | (have H2_ := (Option.bind_some _ _).symm.trans H; rw [hy253]; with_reducible exact H2_) | (have H2_ := (Option.bind_some _ _).symm.trans H; with_reducible exact H2_) | with_reducible exact H | (rw [hy253]; exact H) | exact H
          have Ny253 := Aside0.mk hy253
          clear hy253
          have H' := Aside0.mk H
          clear H
          go_wp2_with (first | ((with_reducible refine gate_builtin (b := .append) (xs := #[.tmp 17, .tmp 19]) rfl ?_); (try (refine gate_guard (by rfl) ?_; dsimp only)); at_builtin; refine Kd.R_append (Kd.int .i64) (w0 := w) w.heap.size rfl (.tmp 17) (.tmp 19) 33 3 (.int .i64 0) 8 rfl Try.underlying33 info3 rfl (by decide) (by omega) u7 x7_1 x8_1 [.int .i64 x8_1] (fun _ => True) (fun _ => False) rfl rfl ?aP (fun _ hk => hk.elim) ?aF ?aO ?aB ?aS ?aL ?_; (case aP => exact rfl); (case aB => exact (by repeat (first | (with_reducible first | exact HB.out | apply below_alloc | apply pw_below_drewN | apply below_drew1) | exact HB.out))); (case aF => exact (fun _ _ => trivial)); (case aO => exact (by (with_reducible repeat (first | apply Kd.R_alloc | apply Kd.R_drewN | apply Kd.R_drew)); exact HO_7.out)); (case aS => exact (below_size (by repeat (first | (with_reducible first | exact HB.out | apply below_alloc | apply pw_below_drewN | apply below_drew1) | exact HB.out)))); (case aL => have := LMc5.out; omega); intro v254 w6 ho hb hg hat; rw [← Ny253.out] at ho; have n0_ := Aside0.mk (hb); have n1_ := Aside0.mk (ho); clear HB; clear HO_7; have HB := n0_; have HO255 := n1_; clear n0_ n1_; clear ho hb hg hat))
          go_roundg k1
          case measure => have := HK1.out; omega
          case rel => exact ⟨(y253), (wrap64 (x8_1 + 1)), (by first | rfl | (simp; done) | (simp [*]; done)), H', ⟨by have := HK1.out; omega⟩, ⟨by (with_reducible repeat (first | apply Kd.R_alloc | apply Kd.R_drewN | apply Kd.R_drew)); exact HO255.out⟩, ⟨by repeat (first | (with_reducible first | exact HB.out | apply below_alloc | apply pw_below_drewN | apply below_drew1) | exact HB.out)⟩⟩
        · rw [if_neg c5] at H
          exact absurd H (by simp)
      · rw [if_neg c4] at H
        have c4b0 : decide (x8_1 < a1) = false := decide_eq_false c4
        clear c4
        have H' := Aside0.mk H
        clear H
        go_wp2
        go_loopg [7, 9, 10] k1 (fun kq v7 v9 v10 w' => ∃ (x7_2 : List Int) (x9_2 : List Int) (x10_2 : Int), v10 = .int .i64 x10_2 ∧ Aside0 (seamarklaw29_chosen.l1 kq a0 l2 x7_2 x9_2 x10_2 = some r) ∧ Aside0 (kq ≤ k1) ∧ Aside0 (Kd.R (Kd.int .i64) 3 w' w.heap.size (fun k_ => some k_ ≠ (v9 : Value).ownBlock) v7 x7_2) ∧ Aside0 (Kd.R (Kd.int .i64) 3 w' w.heap.size (fun k_ => some k_ ≠ (v7 : Value).ownBlock) v9 x9_2) ∧ Aside0 (Below w.heap.size w w'))
        case atStart => exact ⟨(x7_1), (([] : List Int)), (0), (by first | rfl | (simp; done) | (simp [*]; done)), H', ⟨Nat.le_refl _⟩, ⟨by (with_reducible repeat (first | apply Kd.R_alloc | apply Kd.R_drewN | apply Kd.R_drew)); exact Kd.R_mono HO_7.out (fun _ hk => (by simp [Value.ownBlock]))⟩, ⟨by first | exact Kd.R_nil _ _ _ _ _ | exact Kd.N_nil _ _ _ _ _ | exact Kd.V_nil _ _ _ _ _ | exact Kd.Q_nil _ _ _ _ _ | exact Kd.S_nil _ _ _ _ _⟩, ⟨by repeat (first | (with_reducible first | exact HB.out | apply below_alloc | apply pw_below_drewN | apply below_drew1) | exact HB.out)⟩⟩
        case round =>
          clear H'
          (try clear c1); (try clear c2); (try clear p2); (try clear c4); (try clear c4b0); (try clear c5); (try clear p6); (try clear p2)
          obtain ⟨x7_2, x9_2, x10_2, rfl, HA, HK2, HO_7, HO_9, HB⟩ := hrel
          cases gk with
          | zero => exact absurd HA.out (by simp [seamarklaw29_chosen.l1])
          | succ k2 =>
            have H := HA.out
            clear HA
            simp only [seamarklaw29_chosen.l1] at H
            have HC7 := Aside0.mk H
            clear H
            go_upto_region 8 with (fail)
            go_cut [28] (fun v28 wc => ∃ (kq : Nat) (x28_6 : Bool), v28 = .bool x28_6 ∧ Aside0 (seamarklaw29_chosen.j2 kq a0 l2 x7_2 x9_2 x10_2 x28_6 = some r) ∧ Aside0 (kq ≤ k2) ∧ Aside0 (Kd.R (Kd.int .i64) 3 wc w.heap.size (fun k_ => some k_ ≠ (u9 : Value).ownBlock) u7 x7_2) ∧ Aside0 (Kd.R (Kd.int .i64) 3 wc w.heap.size (fun k_ => some k_ ≠ (u7 : Value).ownBlock) u9 x9_2) ∧ Aside0 (Below w.heap.size w wc))
            case first =>
              have H := HC7.out
              clear HC7
              by_cases c8 : x10_2 < a0
              · rw [if_pos c8] at H
                have c8b0 : decide (x10_2 < a0) = true := decide_eq_true c8
                clear c8
                (first | rw [c8b0] | (simp only [i64_w, i32_w]; rw [c8b0]) | skip)
                have H' := Aside0.mk H
                clear H
                obtain ⟨Ao9, co9, eo9⟩ := Kd.R_slice HO_7.out
                subst eo9
                go_wp2
                go_meet
                case rel => exact ⟨_, (decide ((x7_2.length : Int) > 0)), (by first | rfl | (simp; done) | (simp [*]; done)), H', ⟨by have := HK1.out; have := HK2.out; first | omega | exact Nat.le_refl _⟩, ⟨by (with_reducible repeat (first | apply Kd.R_alloc | apply Kd.R_drewN | apply Kd.R_drew)); exact HO_7.out⟩, ⟨by (with_reducible repeat (first | apply Kd.R_alloc | apply Kd.R_drewN | apply Kd.R_drew)); exact HO_9.out⟩, ⟨by repeat (first | (with_reducible first | exact HB.out | apply below_alloc | apply pw_below_drewN | apply below_drew1) | exact HB.out)⟩⟩
              · rw [if_neg c8] at H
                have c8b0 : decide (x10_2 < a0) = false := decide_eq_false c8
                clear c8
                (first | rw [c8b0] | (simp only [i64_w, i32_w]; rw [c8b0]) | skip)
                have H' := Aside0.mk H
                clear H
                go_wp2
                go_meet
                case rel => exact ⟨_, (false), (by first | rfl | (simp; done) | (simp [*]; done)), H', ⟨by have := HK1.out; have := HK2.out; first | omega | exact Nat.le_refl _⟩, ⟨by (with_reducible repeat (first | apply Kd.R_alloc | apply Kd.R_drewN | apply Kd.R_drew)); exact HO_7.out⟩, ⟨by (with_reducible repeat (first | apply Kd.R_alloc | apply Kd.R_drewN | apply Kd.R_drew)); exact HO_9.out⟩, ⟨by repeat (first | (with_reducible first | exact HB.out | apply below_alloc | apply pw_below_drewN | apply below_drew1) | exact HB.out)⟩⟩
            case rest =>
              clear HC7
              (try clear c1); (try clear c2); (try clear p2); (try clear c4); (try clear c4b0); (try clear c5); (try clear p6); (try clear c8); (try clear c8b0); (try clear p2); (try clear p6)
              obtain ⟨kq, x28_6, rfl, HA, HJ6, HO_7, HO_9, HB⟩ := hcut
              cases kq with
              | zero => exact absurd HA.out (by simp [seamarklaw29_chosen.j2])
              | succ kj6 =>
                have H := HA.out
                clear HA
                simp only [seamarklaw29_chosen.j2] at H
                by_cases c10 : x28_6 = true
                · subst c10
                  have H1 : (if x10_2 < (l2.length : Int) then (if 0 ≤ x10_2 then (if (x7_2.length : Int) = 0 then (none) else (if 0 ≤ (Int.tmod (wrap64 (rd l2 x10_2)) (x7_2.length : Int)) then (if (Int.tmod (wrap64 (rd l2 x10_2)) (x7_2.length : Int)) < (x7_2.length : Int) then (if x9_2.length < 17592186044416 then (if (Int.tmod (wrap64 (rd l2 x10_2)) (x7_2.length : Int)) ≤ (x7_2.length : Int) then (if 0 ≤ (wrap64 ((Int.tmod (wrap64 (rd l2 x10_2)) (x7_2.length : Int)) + 1)) then (if (wrap64 ((Int.tmod (wrap64 (rd l2 x10_2)) (x7_2.length : Int)) + 1)) ≤ (x7_2.length : Int) then (seamarklaw29_chosen.l1 kj6 a0 l2 (x7_2.eraseIdx ((Int.tmod (wrap64 (rd l2 x10_2)) (x7_2.length : Int)) : Int).toNat) (x9_2 ++ [rd x7_2 (Int.tmod (wrap64 (rd l2 x10_2)) (x7_2.length : Int))]) (wrap64 (x10_2 + 1))) else (none)) else (none)) else (none)) else (none)) else (none)) else (none))) else (none)) else (if 0 < (x7_2.length : Int) then (if x9_2.length < 17592186044416 then (if 0 ≤ (x7_2.length : Int) then (if 1 ≤ (x7_2.length : Int) then (seamarklaw29_chosen.l1 kj6 a0 l2 (x7_2.eraseIdx (0 : Int).toNat) (x9_2 ++ [rd x7_2 0]) (wrap64 (x10_2 + 1))) else (none)) else (none)) else (none)) else (none))) = some r := by rw [if_pos rfl] at H; exact H
                  clear H
                  have H := H1
                  clear H1
                  by_cases c11 : x10_2 < (l2.length : Int)
                  · rw [if_pos c11] at H
                    have c11b0 : decide (x10_2 < (l2.length : Int)) = true := decide_eq_true c11
                    clear c11
                    by_cases c12 : 0 ≤ x10_2
                    · rw [if_pos c12] at H
                      have c12b0 : decide (0 ≤ x10_2) = true := decide_eq_true c12
                      clear c12
                      by_cases c13 : (x7_2.length : Int) = 0
                      · rw [if_pos c13] at H
                        exact absurd H (by simp)
                      · rw [if_neg c13] at H
                        have c13b0 : ((x7_2.length : Int) == 0) = false := beq_eq_false_iff_ne.mpr c13
                        have c13b1 : ((x7_2.length : Int) != 0) = true := bne_iff_ne.mpr c13
                        have c13b2 : ¬ (x7_2 = []) := fun h_ => c13 (by rw [h_]; rfl)
                        obtain ⟨ji14, hji14⟩ : ∃ j_ : Int, (Int.tmod (wrap64 (rd l2 x10_2)) (x7_2.length : Int)) = j_ := ⟨_, rfl⟩
                        replace H : (if 0 ≤ (ji14) then (if (ji14) < (x7_2.length : Int) then (if x9_2.length < 17592186044416 then (if (ji14) ≤ (x7_2.length : Int) then (if 0 ≤ (wrap64 ((ji14) + 1)) then (if (wrap64 ((ji14) + 1)) ≤ (x7_2.length : Int) then (seamarklaw29_chosen.l1 kj6 a0 l2 (x7_2.eraseIdx ((ji14) : Int).toNat) (x9_2 ++ [rd x7_2 (ji14)]) (wrap64 (x10_2 + 1))) else (none)) else (none)) else (none)) else (none)) else (none)) else (none)) = some r := by first | (rw [hji14] at H; exact H) | (simp only [hji14] at H ⊢; exact H)
                        by_cases c15 : 0 ≤ (ji14)
                        · rw [if_pos c15] at H
                          have c15b0 : decide (0 ≤ (ji14)) = true := decide_eq_true c15
                          clear c15
                          by_cases c16 : (ji14) < (x7_2.length : Int)
                          · rw [if_pos c16] at H
                            have c16b0 : decide ((ji14) < (x7_2.length : Int)) = true := decide_eq_true c16
                            clear c16
                            by_cases c17 : x9_2.length < 17592186044416
                            · rw [if_pos c17] at H
                              have LMc17 := Aside0.mk c17
                              clear c17
                              obtain ⟨y258, hy258⟩ : ∃ y_ : List Int, y_ = (x9_2 ++ [rd x7_2 (ji14)]) := ⟨_, rfl⟩
                              replace H : (if (ji14) ≤ (x7_2.length : Int) then (if 0 ≤ (wrap64 ((ji14) + 1)) then (if (wrap64 ((ji14) + 1)) ≤ (x7_2.length : Int) then (seamarklaw29_chosen.l1 kj6 a0 l2 (x7_2.eraseIdx ((ji14) : Int).toNat) y258 (wrap64 (x10_2 + 1))) else (none)) else (none)) else (none)) = some r := by first | (rw [hy258]; with_reducible exact H) | (have H2_ := (Option.bind_some _ _).symm.trans H; rw [hy258]; with_reducible exact H2_) | (have H2_ := (Option.bind_some _ _).symm.trans H; with_reducible exact H2_) | with_reducible exact H | (rw [hy258]; exact H) | exact H
                              have Ny258 := Aside0.mk hy258
                              clear hy258
                              have c18b0 := eq_true (of_decide_eq_true (by first | (with_reducible assumption) | assumption) : 0 ≤ (ji14))
                              by_cases c19 : (ji14) ≤ (x7_2.length : Int)
                              · rw [if_pos c19] at H
                                have c19b0 := eq_true c19
                                have c19b1 : decide ((ji14) ≤ (x7_2.length : Int)) = true := decide_eq_true c19
                                clear c19
                                obtain ⟨y261, hy261⟩ : ∃ y_ : List Int, y_ = (x7_2.take ((ji14) : Int).toNat) := ⟨_, rfl⟩
                                replace H : (if 0 ≤ (wrap64 ((ji14) + 1)) then (if (wrap64 ((ji14) + 1)) ≤ (x7_2.length : Int) then (seamarklaw29_chosen.l1 kj6 a0 l2 (x7_2.eraseIdx ((ji14) : Int).toNat) y258 (wrap64 (x10_2 + 1))) else (none)) else (none)) = some r := by first | (rw [hy261]; with_reducible exact H) | (have H2_ := (Option.bind_some _ _).symm.trans H; rw [hy261]; with_reducible exact H2_) | (have H2_ := (Option.bind_some _ _).symm.trans H; with_reducible exact H2_) | with_reducible exact H | (rw [hy261]; exact H) | exact H
                                have Ny261 := Aside0.mk hy261
                                clear hy261
                                obtain ⟨ji20, hji20⟩ : ∃ j_ : Int, (wrap64 ((ji14) + 1)) = j_ := ⟨_, rfl⟩
                                replace H : (if 0 ≤ (ji20) then (if (ji20) ≤ (x7_2.length : Int) then (seamarklaw29_chosen.l1 kj6 a0 l2 (x7_2.eraseIdx ((ji14) : Int).toNat) y258 (wrap64 (x10_2 + 1))) else (none)) else (none)) = some r := by first | (rw [hji20] at H; exact H) | (simp only [hji20] at H ⊢; exact H)
                                have hji20w : (IntKind.i64.wrap ((ji14) + 1)) = ji20 := (i64_w _).trans hji20
                                by_cases c21 : 0 ≤ (ji20)
                                · rw [if_pos c21] at H
                                  have c21b0 := eq_true c21
                                  have c21b1 : decide (0 ≤ (ji20)) = true := decide_eq_true c21
                                  clear c21
                                  by_cases c22 : (ji20) ≤ (x7_2.length : Int)
                                  · rw [if_pos c22] at H
                                    have c22b0 := eq_true c22
                                    have c22b1 : decide ((ji20) ≤ (x7_2.length : Int)) = true := decide_eq_true c22
                                    clear c22
                                    obtain ⟨y265, hy265⟩ : ∃ y_ : List Int, y_ = (x7_2.drop ((ji20) : Int).toNat) := ⟨_, rfl⟩
                                    replace H : (seamarklaw29_chosen.l1 kj6 a0 l2 (x7_2.eraseIdx ((ji14) : Int).toNat) y258 (wrap64 (x10_2 + 1))) = some r := by first | (rw [hy265]; with_reducible exact H) | (have H2_ := (Option.bind_some _ _).symm.trans H; rw [hy265]; with_reducible exact H2_) | (have H2_ := (Option.bind_some _ _).symm.trans H; with_reducible exact H2_) | with_reducible exact H | (rw [hy265]; exact H) | exact H
                                    have Ny265 := Aside0.mk hy265
                                    clear hy265
                                    obtain ⟨y269, hy269⟩ : ∃ y_ : List Int, y_ = (x7_2.eraseIdx ((ji14) : Int).toNat) := ⟨_, rfl⟩
                                    replace H : (seamarklaw29_chosen.l1 kj6 a0 l2 y269 y258 (wrap64 (x10_2 + 1))) = some r := by first | (rw [hy269]; with_reducible exact H) | (have H2_ := (Option.bind_some _ _).symm.trans H; rw [hy269]; with_reducible exact H2_) | (have H2_ := (Option.bind_some _ _).symm.trans H; with_reducible exact H2_) | with_reducible exact H | (rw [hy269]; exact H) | exact H
                                    have Ny269 := Aside0.mk hy269
                                    clear hy269
                                    have H' := Aside0.mk H
                                    clear H
                                    have p256 : 0 ≤ (x10_2 : Int) := of_decide_eq_true (by first | (with_reducible assumption) | assumption)
                                    have q256 : x10_2 < (l2.length : Int) := of_decide_eq_true (by first | (with_reducible assumption) | assumption)
                                    obtain ⟨ad256, e256, hx256_0⟩ := Kd.at_int HR2.out x10_2 p256 q256
                                    cases e256
                                    replace hx256_0 := (HB.out.cell (World.block_lt_of_cell? w _ hx256_0)).trans hx256_0
                                    replace p256 := eq_true p256
                                    replace q256 := eq_true q256
                                    obtain ⟨Ao23, co23, eo23⟩ := Kd.R_slice HO_7.out
                                    subst eo23
                                    have p257 : 0 ≤ ((ji14) : Int) := of_decide_eq_true (by first | (with_reducible assumption) | assumption)
                                    have q257 : (ji14) < (x7_2.length : Int) := of_decide_eq_true (by first | (with_reducible assumption) | assumption)
                                    obtain ⟨ad257, e257, hx257_0⟩ := Kd.at_int (Kd.R_reads' HO_7.out).2.2 (ji14) p257 q257
                                    cases e257
                                    replace p257 := eq_true p257
                                    replace q257 := eq_true q257
                                    try go_wp2_with (first | ((with_reducible refine gate_builtin (b := .append) (xs := #[.tmp 43, .tmp 48]) rfl ?_); (try (refine gate_guard (by rfl) ?_; dsimp only)); at_builtin; refine Kd.R_append (Kd.int .i64) (w0 := w) w.heap.size rfl (.tmp 43) (.tmp 48) 33 3 (.int .i64 0) 8 rfl Try.underlying33 info3 rfl (by decide) (by omega) u9 x9_2 (rd x7_2 (ji14)) [.int .i64 (rd x7_2 (ji14))] (fun k_ => some k_ ≠ (.slice (some ad257) x7_2.length co23 : Value).ownBlock) (fun _ => False) rfl rfl ?aP (fun _ hk => hk.elim) ?aF ?aO ?aB ?aS ?aL ?_; (case aP => exact rfl); (case aB => exact (by repeat (first | (with_reducible first | exact HB.out | apply below_alloc | apply pw_below_drewN | apply below_drew1) | exact HB.out))); (case aF => exact (fun k_ hk => Kd.fresh' (Kd.R_lt (by (with_reducible repeat (first | apply Kd.R_alloc | apply Kd.R_drewN | apply Kd.R_drew)); exact HO_7.out)) k_ hk)); (case aO => exact (by (with_reducible repeat (first | apply Kd.R_alloc | apply Kd.R_drewN | apply Kd.R_drew)); exact HO_9.out)); (case aS => exact (below_size (by repeat (first | (with_reducible first | exact HB.out | apply below_alloc | apply pw_below_drewN | apply below_drew1) | exact HB.out)))); (case aL => have := LMc17.out; omega); intro v259 w24 ho hb hg hat; rw [← Ny258.out] at ho; have n0_ := Aside0.mk (Kd.R_after (ok := (fun _ => True)) (by (with_reducible repeat (first | apply Kd.R_alloc | apply Kd.R_drewN | apply Kd.R_drew)); exact Kd.R_mono HO_7.out (fun _ hk => ⟨trivial, hk⟩)) hg hat); have n1_ := Aside0.mk (hb); have n2_ := Aside0.mk (ho); clear HO_7; clear HB; clear HO_9; have HO_7 := n0_; have HB := n1_; have HO260 := n2_; clear n0_ n1_ n2_; clear ho hb hg hat))
                                    have n0_ := Aside0.mk (Kd.R_drew HO_7.out)
                                    have n1_ := Aside0.mk (Kd.R_drew HO260.out)
                                    have n2_ := Aside0.mk (below_drew1 HB.out)
                                    clear HO_7
                                    clear HO260
                                    clear HB
                                    have HO_7 := n0_
                                    have HO260 := n1_
                                    have HB := n2_
                                    clear n0_ n1_ n2_
                                    have q26 : ((ji14) : Int) ≤ ((x7_2.length : Int) : Int) := of_decide_eq_true (by first | (with_reducible assumption) | assumption)
                                    obtain ⟨i026, hi026, _, hsz26, _⟩ := info_parts info3
                                    have hroom26 : x7_2.length ≤ co23 := (Kd.R_reads' HO_7.out).2.1
                                    have hC26 : Kd.C (Kd.int .i64) _ (some ad257) x7_2.length x7_2 := (Kd.R_reads' HO_7.out).2.2
                                    have hcut26 := cut_to (P := Try.prog) 33 3 .i64 Try.underlying33 hi026 (some ad257) x7_2.length co23 (ji14) (of_decide_eq_true (by first | (with_reducible assumption) | assumption)) q26 hroom26
                                    have hr26 := Kd.C_take (m := ((ji14) : Int).toNat) hC26 (by omega)
                                    have hy26 : y261.length = ((ji14) : Int).toNat := (by rw [Ny261.out, List.length_take]; omega)
                                    rw [← Ny261.out] at hr26
                                    rw [← hy26] at hcut26
                                    have HR264 := Aside0.mk hr26
                                    have HC264 := Aside0.mk (show y261.length ≤ co23 from by omega)
                                    clear hr26 hC26 hroom26 hi026 hsz26
                                    have KY26 := Aside0.mk hy26
                                    clear hy26
                                    have KL26 := Aside0.mk (show ((ji14) : Int).toNat ≤ x7_2.length from by omega)
                                    replace q26 := eq_true q26
                                    have q27 : ((ji20) : Int) ≤ ((x7_2.length : Int) : Int) := of_decide_eq_true (by first | (with_reducible assumption) | assumption)
                                    obtain ⟨i027, hi027, _, hsz27, _⟩ := info_parts info3
                                    have hroom27 : x7_2.length ≤ co23 := (Kd.R_reads' HO_7.out).2.1
                                    have hC27 : Kd.C (Kd.int .i64) _ (some ad257) x7_2.length x7_2 := (Kd.R_reads' HO_7.out).2.2
                                    have q027 : (0 : Int) ≤ ((ji20) : Int) := of_decide_eq_true (by first | (with_reducible assumption) | assumption)
                                    have hcut27 := cut_from (P := Try.prog) 33 3 .i64 Try.underlying33 hi027 1 hsz27 (some ad257) x7_2.length co23 (ji20) q027 q27
                                    have hr27 := Kd.C_drop (m := ((ji20) : Int).toNat) (c := co23) hC27 (by omega) hroom27
                                    obtain ⟨A27, hA27⟩ : ∃ A1, A1 = (if co23 = ((ji20) : Int).toNat then (some ad257) else ((some ad257) : Option Addr).map (·.add (((ji20) : Int).toNat * 1))) := ⟨_, rfl⟩
                                    obtain ⟨c27, hc27⟩ : ∃ c1, c1 = co23 - ((ji20) : Int).toNat := ⟨_, rfl⟩
                                    have hy27 : y265.length = x7_2.length - ((ji20) : Int).toNat := (by rw [Ny265.out, List.length_drop] <;> omega)
                                    rw [show (x7_2).drop ((ji20) : Int).toNat = y265 from Ny265.out.symm] at hr27
                                    replace hr27 : Kd.C (Kd.int .i64) _ A27 y265.length y265 := (by rw [hA27]; exact hr27)
                                    rw [← hy27, ← hA27, ← hc27] at hcut27
                                    have HR268 := Aside0.mk hr27
                                    have HC268 := Aside0.mk (show y265.length ≤ c27 from by rw [hy27, hc27]; exact Nat.sub_le_sub_right hroom27 _)
                                    clear hr27 hC27 hroom27 hi027 hsz27 hc27
                                    have KY27 := Aside0.mk hy27
                                    have KA27 := Aside0.mk hA27
                                    clear hy27 hA27
                                    have KL27 := Aside0.mk (show ((ji20) : Int).toNat ≤ x7_2.length from by omega)
                                    replace q27 := eq_true q27
                                    have n_ := Aside0.mk (Kd.R_mono (ok' := (fun k_ => some k_ ≠ (v259 : Value).ownBlock)) HO_7.out (fun k_ hk => hk.2))
                                    clear HO_7
                                    have HO_7 := n_
                                    clear n_
                                    obtain ⟨go29, co29, eo29, gb29, gl29, cl29, HG29⟩ := Kd.R_form HO_7.out (by have hj_ : 0 ≤ ((ji14) : Int) := of_decide_eq_true (by first | (with_reducible assumption) | assumption); have hl_ : (ji20 : Int) ≤ (x7_2.length : Int) := of_decide_eq_true (by first | (with_reducible assumption) | assumption); have hh_ : ((ji14) : Int) ≤ (x7_2.length : Int) := of_decide_eq_true (by first | (with_reducible assumption) | assumption); rw [← hji20] at hl_; (try unfold wrap64 at hl_); omega)
                                    (first | cases eo29 | (injection eo29 with ea_ en_ ec_; (first | subst ea_ | (injection ea_ with ea_; subst ea_)); subst ec_; clear en_))
                                    have GB29 := Aside0.mk gb29
                                    have GG29 := Aside0.mk HG29
                                    clear gb29 gl29 HG29
                                    (first | simp only [add_plain] at hx257_0 | skip)
                                    refine start_ (n := 9) (S := fun w' => True) (ds := []) #[false, false, false, false, false, false, false, false, false] (by kernel_rfl) rfl rfl trivial (fun hHeld => ?_); refine with_tabW seamarklaw29_chosen.tab14 seamarklaw29_chosen.bits14 (fun HT_ HW_ => ?_)
                                    generalize w24.drew = w25 at HO_7 HO260 HB GG29 HR264 HR268 hx257_0 hHeld ⊢
                                    refine pure_ (i := 0) (N := some 50) (v := ?_) (a' := ?_) #[true, false, false, false, false, false, false, false, false] rfl rfl (any_of HT_.out (by kernel_rfl)) (fun _ _ _ h => h) (Or.inl ⟨by rfl, ?_⟩) ?_ ?_
                                    rotate_left
                                    · intro w'
                                      go_simp
                                      with_reducible rfl
                                    rotate_left
                                    · simp only [Act.put, List.setIfInBounds_toArray, List.set_cons_zero, List.set_cons_succ, i64_w, i32_w]
                                      rfl
                                    refine pure_ (i := 1) (N := some 51) (v := ?_) (a' := ?_) #[true, true, false, false, false, false, false, false, false] rfl rfl (any_of HT_.out (by kernel_rfl)) (fun _ _ _ h => h) (Or.inl ⟨by rfl, ?_⟩) ?_ ?_
                                    rotate_left
                                    · intro w'
                                      go_simp
                                      with_reducible rfl
                                    rotate_left
                                    · simp only [Act.put, List.setIfInBounds_toArray, List.set_cons_zero, List.set_cons_succ, i64_w, i32_w]
                                      rfl
                                    refine pure_ (i := 2) (N := some 52) (v := ?_) (a' := ?_) #[true, true, true, false, false, false, false, false, false] rfl rfl (any_of HT_.out (by kernel_rfl)) (fun _ _ _ h => h) (Or.inl ⟨by rfl, ?_⟩) ?_ ?_
                                    rotate_left
                                    · intro w'
                                      go_simp
                                      with_reducible rfl
                                    rotate_left
                                    · simp only [Act.put, List.setIfInBounds_toArray, List.set_cons_zero, List.set_cons_succ, i64_w, i32_w]
                                      rfl
                                    refine pure_ (i := 3) (N := some 53) (v := ?_) (a' := ?_) #[true, true, true, true, false, false, false, false, false] rfl rfl (any_of HT_.out (by kernel_rfl)) (fun _ _ _ h => h) (Or.inl ⟨by rfl, ?_⟩) ?_ ?_
                                    rotate_left
                                    · intro w'
                                      go_simp
                                      with_reducible rfl
                                    rotate_left
                                    · simp only [Act.put, List.setIfInBounds_toArray, List.set_cons_zero, List.set_cons_succ, i64_w, i32_w]
                                      rfl
                                    refine pure_ (i := 4) (N := some 54) (v := ?_) (a' := ?_) #[true, true, true, true, true, false, false, false, false] rfl rfl (any_of HT_.out (by kernel_rfl)) (fun _ _ _ h => h) (Or.inl ⟨by rfl, ?_⟩) ?_ ?_
                                    rotate_left
                                    · intro w'
                                      go_simp
                                      with_reducible rfl
                                    rotate_left
                                    · simp only [Act.put, List.setIfInBounds_toArray, List.set_cons_zero, List.set_cons_succ, i64_w, i32_w]
                                      rfl
                                    refine pure_ (i := 5) (N := some 55) (v := ?_) (a' := ?_) #[true, true, true, true, true, true, false, false, false] rfl rfl (any_of HT_.out (by kernel_rfl)) (fun _ _ _ h => h) (Or.inl ⟨by rfl, ?_⟩) ?_ ?_
                                    rotate_left
                                    · intro w'
                                      go_simp
                                      with_reducible rfl
                                    rotate_left
                                    · simp only [Act.put, List.setIfInBounds_toArray, List.set_cons_zero, List.set_cons_succ, i64_w, i32_w]
                                      rfl
                                    refine pure_ (i := 6) (N := some 56) (v := ?_) (a' := ?_) #[true, true, true, true, true, true, true, false, false] rfl rfl (any_of HT_.out (by kernel_rfl)) (fun _ _ _ h => h) (Or.inl ⟨by rfl, ?_⟩) ?_ ?_
                                    rotate_left
                                    · intro w'
                                      go_simp
                                      with_reducible rfl
                                    rotate_left
                                    · simp only [Act.put, List.setIfInBounds_toArray, List.set_cons_zero, List.set_cons_succ, i64_w, i32_w]
                                      rfl
                                    refine one_ (i := 7) (N := some 57) #[true, true, true, true, true, true, true, true, false] rfl rfl (one_of HT_.out (by kernel_rfl)) (by decide) (fun K hK => ?_)
                                    have hj_ : 0 ≤ ((ji14) : Int) := of_decide_eq_true (by first | (with_reducible assumption) | assumption)
                                    have hl_ : (ji20 : Int) ≤ (x7_2.length : Int) := of_decide_eq_true (by first | (with_reducible assumption) | assumption)
                                    have hh_ : ((ji14) : Int) ≤ (x7_2.length : Int) := of_decide_eq_true (by first | (with_reducible assumption) | assumption)
                                    have hb_ := (Kd.R_reads' HO_7.out).2.2.2.1
                                    have h0_ : (0 : Int) ≤ (ji20 : Int) := of_decide_eq_true (by first | (with_reducible assumption) | assumption)
                                    have hy1_ := KY26.out
                                    have hk_ : (ji20 : Int).toNat = y261.length + 1 := (by have hw_ : (ji20 : Int) = (ji14) + 1 := (by have h00_ := h0_; rw [← hji20] at h00_ ⊢; (try unfold wrap64 at h00_ ⊢); omega); rw [hw_]; omega)
                                    refine Kd.R_delete_step (Kd.int .i64) (w0 := w) w.heap.size (by rfl) (.tmp 52) (.tmp 56) 33 3 rfl Try.underlying33 (by kernel_rfl) (g := go29) (n := x7_2.length) (c := co23) (k := y261.length) rfl rfl ?hA ?hm (by (with_reducible repeat (first | apply Kd.R_alloc | apply Kd.R_drewN | apply Kd.R_drew)); exact HO_7.out) ?hk (by repeat (first | (with_reducible first | exact HB.out | apply below_alloc | apply pw_below_drewN | apply below_drew1) | exact HB.out)) (below_size (by repeat (first | (with_reducible first | exact HB.out | apply below_alloc | apply pw_below_drewN | apply below_drew1) | exact HB.out))) ?_
                                    (case hA => have ha_ := KA27.out; rw [hk_] at ha_; exact ha_)
                                    (case hm => have ha_ := KY27.out; omega)
                                    (case hk => omega)
                                    intro w28 ho hb hg
                                    clear hj_ hl_ hh_ hb_ hk_ h0_
                                    rw [hy1_, ← Ny269.out] at ho
                                    clear hy1_
                                    have hn_ : x7_2.length - 1 = y269.length := (by have := (Kd.R_reads' ho).1; omega)
                                    rw [hn_] at ho ⊢
                                    clear hn_
                                    have n0_ := Aside0.mk (ho)
                                    have n1_ := Aside0.mk (Kd.R_after (v := (.slice (some ⟨go29, 0, none⟩) x7_2.length co23)) (v1 := .slice (some ⟨go29, 0, none⟩) y269.length co23) (ok := (fun _ => True)) (by (with_reducible repeat (first | apply Kd.R_alloc | apply Kd.R_drewN | apply Kd.R_drew)); exact Kd.R_mono HO260.out (fun _ hk => ⟨trivial, hk⟩)) hg (.inl rfl))
                                    have n2_ := Aside0.mk (hb)
                                    clear HO_7
                                    clear HO260
                                    clear HB
                                    have HO_7 := n0_
                                    have HO260 := n1_
                                    have HB := n2_
                                    clear n0_ n1_ n2_
                                    clear ho hb hg
                                    refine hK.out _ _ trivial (fun hHeld => ?_)
                                    clear hK K
                                    refine norm_ (a' := ?_) ?_ ?_
                                    rotate_left
                                    · show Act.put _ (some 57) _ = _
                                      simp only [Act.put, List.setIfInBounds_toArray, List.set_cons_zero, List.set_cons_succ, i64_w, i32_w]
                                      rfl
                                    refine pure_ (i := 8) (N := some 7) (v := ?_) (a' := ?_) #[true, true, true, true, true, true, true, true, true] rfl rfl (any_of HT_.out (by kernel_rfl)) (fun _ _ _ h => h) (Or.inl ⟨by rfl, ?_⟩) ?_ ?_
                                    rotate_left
                                    · intro w'
                                      go_simp
                                      with_reducible rfl
                                    rotate_left
                                    · simp only [Act.put, List.setIfInBounds_toArray, List.set_cons_zero, List.set_cons_succ, i64_w, i32_w]
                                      rfl
                                    refine done_ (done_of HT_.out (by kernel_rfl)) ?_
                                    try go_wp2
                                    go_roundg kj6
                                    case measure => have := HK1.out; have := HK2.out; have := HJ6.out; omega
                                    case rel => exact ⟨(y269), (y258), (wrap64 (x10_2 + 1)), (by first | rfl | (simp; done) | (simp [*]; done)), H', ⟨by have := HK1.out; have := HK2.out; have := HJ6.out; omega⟩, ⟨by (with_reducible repeat (first | apply Kd.R_alloc | apply Kd.R_drewN | apply Kd.R_drew)); exact HO_7.out⟩, ⟨by (with_reducible repeat (first | apply Kd.R_alloc | apply Kd.R_drewN | apply Kd.R_drew)); exact Kd.R_mono HO260.out (fun _ hk => hk.2)⟩, ⟨by repeat (first | (with_reducible first | exact HB.out | apply below_alloc | apply pw_below_drewN | apply below_drew1) | exact HB.out)⟩⟩
                                  · rw [if_neg c22] at H
                                    exact absurd H (by simp)
                                · rw [if_neg c21] at H
                                  exact absurd H (by simp)
                              · rw [if_neg c19] at H
                                exact absurd H (by simp)
                            · rw [if_neg c17] at H
                              exact absurd H (by simp)
                          · rw [if_neg c16] at H
                            exact absurd H (by simp)
                        · rw [if_neg c15] at H
                          exact absurd H (by simp)
                    · rw [if_neg c12] at H
                      exact absurd H (by simp)
                  · rw [if_neg c11] at H
                    have c11b0 : decide (x10_2 < (l2.length : Int)) = false := decide_eq_false c11
                    clear c11
                    by_cases c30 : 0 < (x7_2.length : Int)
                    · rw [if_pos c30] at H
                      have c30b0 : decide (0 < (x7_2.length : Int)) = true := decide_eq_true c30
                      have c30b1 : decide (0 < x7_2.length) = true := decide_eq_true (by omega)
                      clear c30
                      by_cases c31 : x9_2.length < 17592186044416
                      · rw [if_pos c31] at H
                        have LMc31 := Aside0.mk c31
                        clear c31
                        obtain ⟨y273, hy273⟩ : ∃ y_ : List Int, y_ = (x9_2 ++ [rd x7_2 0]) := ⟨_, rfl⟩
                        replace H : (if 0 ≤ (x7_2.length : Int) then (if 1 ≤ (x7_2.length : Int) then (seamarklaw29_chosen.l1 kj6 a0 l2 (x7_2.eraseIdx (0 : Int).toNat) y273 (wrap64 (x10_2 + 1))) else (none)) else (none)) = some r := by first | (rw [hy273]; with_reducible exact H) | (have H2_ := (Option.bind_some _ _).symm.trans H; rw [hy273]; with_reducible exact H2_) | (have H2_ := (Option.bind_some _ _).symm.trans H; with_reducible exact H2_) | with_reducible exact H | (rw [hy273]; exact H) | exact H
                        have Ny273 := Aside0.mk hy273
                        clear hy273
                        by_cases c32 : 0 ≤ (x7_2.length : Int)
                        · rw [if_pos c32] at H
                          have c32b0 := eq_true c32
                          have c32b1 : decide (0 ≤ (x7_2.length : Int)) = true := decide_eq_true c32
                          clear c32
                          obtain ⟨y276, hy276⟩ : ∃ y_ : List Int, y_ = (x7_2.take 0) := ⟨_, rfl⟩
                          replace H : (if 1 ≤ (x7_2.length : Int) then (seamarklaw29_chosen.l1 kj6 a0 l2 (x7_2.eraseIdx (0 : Int).toNat) y273 (wrap64 (x10_2 + 1))) else (none)) = some r := by first | (rw [hy276]; with_reducible exact H) | (have H2_ := (Option.bind_some _ _).symm.trans H; rw [hy276]; with_reducible exact H2_) | (have H2_ := (Option.bind_some _ _).symm.trans H; with_reducible exact H2_) | with_reducible exact H | (rw [hy276]; exact H) | exact H
                          have Ny276 := Aside0.mk hy276
                          clear hy276
                          by_cases c33 : 1 ≤ (x7_2.length : Int)
                          · rw [if_pos c33] at H
                            have c33b0 := eq_true c33
                            have c33b1 : decide (1 ≤ (x7_2.length : Int)) = true := decide_eq_true c33
                            clear c33
                            obtain ⟨y280, hy280⟩ : ∃ y_ : List Int, y_ = (x7_2.drop 1) := ⟨_, rfl⟩
                            replace H : (seamarklaw29_chosen.l1 kj6 a0 l2 (x7_2.eraseIdx (0 : Int).toNat) y273 (wrap64 (x10_2 + 1))) = some r := by first | (rw [hy280]; with_reducible exact H) | (have H2_ := (Option.bind_some _ _).symm.trans H; rw [hy280]; with_reducible exact H2_) | (have H2_ := (Option.bind_some _ _).symm.trans H; with_reducible exact H2_) | with_reducible exact H | (rw [hy280]; exact H) | exact H
                            have Ny280 := Aside0.mk hy280
                            clear hy280
                            obtain ⟨y284, hy284⟩ : ∃ y_ : List Int, y_ = (x7_2.eraseIdx (0 : Int).toNat) := ⟨_, rfl⟩
                            replace H : (seamarklaw29_chosen.l1 kj6 a0 l2 y284 y273 (wrap64 (x10_2 + 1))) = some r := by first | (rw [hy284]; with_reducible exact H) | (have H2_ := (Option.bind_some _ _).symm.trans H; rw [hy284]; with_reducible exact H2_) | (have H2_ := (Option.bind_some _ _).symm.trans H; with_reducible exact H2_) | with_reducible exact H | (rw [hy284]; exact H) | exact H
                            have Ny284 := Aside0.mk hy284
                            clear hy284
                            have H' := Aside0.mk H
                            clear H
                            obtain ⟨Ao34, co34, eo34⟩ := Kd.R_slice HO_7.out
                            subst eo34
                            have p272 : 0 ≤ (0 : Int) := (by omega)
                            have q272 : 0 < (x7_2.length : Int) := of_decide_eq_true (by first | (with_reducible assumption) | assumption)
                            obtain ⟨ad272, e272, hx272_0⟩ := Kd.at_int (Kd.R_reads' HO_7.out).2.2 0 p272 q272
                            cases e272
                            have qi272 : (0 < x7_2.length) = True := eq_true (by omega)
                            (try rw [show ((0 : Int)).toNat = 0 from rfl] at hx272_0)
                            (try rw [Addr.add_zero'] at hx272_0)
                            replace p272 := eq_true p272
                            replace q272 := eq_true q272
                            try go_wp2_with (first | ((with_reducible refine gate_builtin (b := .append) (xs := #[.tmp 43, .tmp 48]) rfl ?_); (try (refine gate_guard (by rfl) ?_; dsimp only)); at_builtin; refine Kd.R_append (Kd.int .i64) (w0 := w) w.heap.size rfl (.tmp 43) (.tmp 48) 33 3 (.int .i64 0) 8 rfl Try.underlying33 info3 rfl (by decide) (by omega) u9 x9_2 (rd x7_2 0) [.int .i64 (rd x7_2 0)] (fun k_ => some k_ ≠ (.slice (some ad272) x7_2.length co34 : Value).ownBlock) (fun _ => False) rfl rfl ?aP (fun _ hk => hk.elim) ?aF ?aO ?aB ?aS ?aL ?_; (case aP => exact rfl); (case aB => exact (by repeat (first | (with_reducible first | exact HB.out | apply below_alloc | apply pw_below_drewN | apply below_drew1) | exact HB.out))); (case aF => exact (fun k_ hk => Kd.fresh' (Kd.R_lt (by (with_reducible repeat (first | apply Kd.R_alloc | apply Kd.R_drewN | apply Kd.R_drew)); exact HO_7.out)) k_ hk)); (case aO => exact (by (with_reducible repeat (first | apply Kd.R_alloc | apply Kd.R_drewN | apply Kd.R_drew)); exact HO_9.out)); (case aS => exact (below_size (by repeat (first | (with_reducible first | exact HB.out | apply below_alloc | apply pw_below_drewN | apply below_drew1) | exact HB.out)))); (case aL => have := LMc31.out; omega); intro v274 w35 ho hb hg hat; rw [← Ny273.out] at ho; have n0_ := Aside0.mk (Kd.R_after (ok := (fun _ => True)) (by (with_reducible repeat (first | apply Kd.R_alloc | apply Kd.R_drewN | apply Kd.R_drew)); exact Kd.R_mono HO_7.out (fun _ hk => ⟨trivial, hk⟩)) hg hat); have n1_ := Aside0.mk (hb); have n2_ := Aside0.mk (ho); clear HO_7; clear HB; clear HO_9; have HO_7 := n0_; have HB := n1_; have HO275 := n2_; clear n0_ n1_ n2_; clear ho hb hg hat))
                            have n0_ := Aside0.mk (Kd.R_drew HO_7.out)
                            have n1_ := Aside0.mk (Kd.R_drew HO275.out)
                            have n2_ := Aside0.mk (below_drew1 HB.out)
                            clear HO_7
                            clear HO275
                            clear HB
                            have HO_7 := n0_
                            have HO275 := n1_
                            have HB := n2_
                            clear n0_ n1_ n2_
                            have q37 : (0 : Int) ≤ ((x7_2.length : Int) : Int) := of_decide_eq_true (by first | (with_reducible assumption) | assumption)
                            obtain ⟨i037, hi037, _, hsz37, _⟩ := info_parts info3
                            have hroom37 : x7_2.length ≤ co34 := (Kd.R_reads' HO_7.out).2.1
                            have hC37 : Kd.C (Kd.int .i64) _ (some ad272) x7_2.length x7_2 := (Kd.R_reads' HO_7.out).2.2
                            have hcut37 := cut_to (P := Try.prog) 33 3 .i64 Try.underlying33 hi037 (some ad272) x7_2.length co34 0 (by omega) q37 hroom37
                            have hr37 := Kd.C_take (m := 0) hC37 (by omega)
                            have hy37 : y276.length = (0 : Int).toNat := (by rw [Ny276.out, List.length_take]; omega)
                            rw [← Ny276.out] at hr37
                            rw [← hy37] at hcut37
                            have HR279 := Aside0.mk hr37
                            have HC279 := Aside0.mk (show y276.length ≤ co34 from by omega)
                            clear hr37 hC37 hroom37 hi037 hsz37
                            have KY37 := Aside0.mk hy37
                            clear hy37
                            have KL37 := Aside0.mk (show 0 ≤ x7_2.length from by omega)
                            replace q37 := eq_true q37
                            have q38 : (1 : Int) ≤ ((x7_2.length : Int) : Int) := of_decide_eq_true (by first | (with_reducible assumption) | assumption)
                            obtain ⟨i038, hi038, _, hsz38, _⟩ := info_parts info3
                            have hroom38 : x7_2.length ≤ co34 := (Kd.R_reads' HO_7.out).2.1
                            have hC38 : Kd.C (Kd.int .i64) _ (some ad272) x7_2.length x7_2 := (Kd.R_reads' HO_7.out).2.2
                            have hcut38 := cut_from (P := Try.prog) 33 3 .i64 Try.underlying33 hi038 1 hsz38 (some ad272) x7_2.length co34 1 (by omega) q38
                            have hr38 := Kd.C_drop (m := (1 : Int).toNat) (c := co34) hC38 (by omega) hroom38
                            obtain ⟨A38, hA38⟩ : ∃ A1, A1 = (if co34 = (1 : Int).toNat then (some ad272) else ((some ad272) : Option Addr).map (·.add ((1 : Int).toNat * 1))) := ⟨_, rfl⟩
                            obtain ⟨c38, hc38⟩ : ∃ c1, c1 = co34 - (1 : Int).toNat := ⟨_, rfl⟩
                            have hy38 : y280.length = x7_2.length - (1 : Int).toNat := (by rw [Ny280.out, List.length_drop] <;> omega)
                            rw [show (x7_2).drop (1 : Int).toNat = y280 from Ny280.out.symm] at hr38
                            replace hr38 : Kd.C (Kd.int .i64) _ A38 y280.length y280 := (by rw [hA38]; exact hr38)
                            rw [← hy38, ← hA38, ← hc38] at hcut38
                            have HR283 := Aside0.mk hr38
                            have HC283 := Aside0.mk (show y280.length ≤ c38 from by rw [hy38, hc38]; exact Nat.sub_le_sub_right hroom38 _)
                            clear hr38 hC38 hroom38 hi038 hsz38 hc38
                            have KY38 := Aside0.mk hy38
                            have KA38 := Aside0.mk hA38
                            clear hy38 hA38
                            have KL38 := Aside0.mk (show 1 ≤ x7_2.length from by omega)
                            replace q38 := eq_true q38
                            have n_ := Aside0.mk (Kd.R_mono (ok' := (fun k_ => some k_ ≠ (v274 : Value).ownBlock)) HO_7.out (fun k_ hk => hk.2))
                            clear HO_7
                            have HO_7 := n_
                            clear n_
                            obtain ⟨go40, co40, eo40, gb40, gl40, cl40, HG40⟩ := Kd.R_form HO_7.out (by have hj_ : 0 ≤ (0 : Int) := of_decide_eq_true (by first | (with_reducible assumption) | assumption); have hl_ : (1 : Int) ≤ (x7_2.length : Int) := of_decide_eq_true (by first | (with_reducible assumption) | assumption); have hh_ : (0 : Int) ≤ (x7_2.length : Int) := of_decide_eq_true (by first | (with_reducible assumption) | assumption); (try unfold wrap64 at hl_); omega)
                            (first | cases eo40 | (injection eo40 with ea_ en_ ec_; (first | subst ea_ | (injection ea_ with ea_; subst ea_)); subst ec_; clear en_))
                            have GB40 := Aside0.mk gb40
                            have GG40 := Aside0.mk HG40
                            clear gb40 gl40 HG40
                            (first | simp only [add_plain] at hx272_0 | skip)
                            refine start_ (n := 9) (S := fun w' => True) (ds := []) #[false, false, false, false, false, false, false, false, false] (by kernel_rfl) rfl rfl trivial (fun hHeld => ?_); refine with_tabW seamarklaw29_chosen.tab14 seamarklaw29_chosen.bits14 (fun HT_ HW_ => ?_)
                            generalize w35.drew = w36 at HO_7 HO275 HB GG40 HR279 HR283 hx272_0 hHeld ⊢
                            refine pure_ (i := 0) (N := some 50) (v := ?_) (a' := ?_) #[true, false, false, false, false, false, false, false, false] rfl rfl (any_of HT_.out (by kernel_rfl)) (fun _ _ _ h => h) (Or.inl ⟨by rfl, ?_⟩) ?_ ?_
                            rotate_left
                            · intro w'
                              go_simp
                              with_reducible rfl
                            rotate_left
                            · simp only [Act.put, List.setIfInBounds_toArray, List.set_cons_zero, List.set_cons_succ, i64_w, i32_w]
                              rfl
                            refine pure_ (i := 1) (N := some 51) (v := ?_) (a' := ?_) #[true, true, false, false, false, false, false, false, false] rfl rfl (any_of HT_.out (by kernel_rfl)) (fun _ _ _ h => h) (Or.inl ⟨by rfl, ?_⟩) ?_ ?_
                            rotate_left
                            · intro w'
                              go_simp
                              with_reducible rfl
                            rotate_left
                            · simp only [Act.put, List.setIfInBounds_toArray, List.set_cons_zero, List.set_cons_succ, i64_w, i32_w]
                              rfl
                            refine pure_ (i := 2) (N := some 52) (v := ?_) (a' := ?_) #[true, true, true, false, false, false, false, false, false] rfl rfl (any_of HT_.out (by kernel_rfl)) (fun _ _ _ h => h) (Or.inl ⟨by rfl, ?_⟩) ?_ ?_
                            rotate_left
                            · intro w'
                              go_simp
                              with_reducible rfl
                            rotate_left
                            · simp only [Act.put, List.setIfInBounds_toArray, List.set_cons_zero, List.set_cons_succ, i64_w, i32_w]
                              rfl
                            refine pure_ (i := 3) (N := some 53) (v := ?_) (a' := ?_) #[true, true, true, true, false, false, false, false, false] rfl rfl (any_of HT_.out (by kernel_rfl)) (fun _ _ _ h => h) (Or.inl ⟨by rfl, ?_⟩) ?_ ?_
                            rotate_left
                            · intro w'
                              go_simp
                              with_reducible rfl
                            rotate_left
                            · simp only [Act.put, List.setIfInBounds_toArray, List.set_cons_zero, List.set_cons_succ, i64_w, i32_w]
                              rfl
                            refine pure_ (i := 4) (N := some 54) (v := ?_) (a' := ?_) #[true, true, true, true, true, false, false, false, false] rfl rfl (any_of HT_.out (by kernel_rfl)) (fun _ _ _ h => h) (Or.inl ⟨by rfl, ?_⟩) ?_ ?_
                            rotate_left
                            · intro w'
                              go_simp
                              with_reducible rfl
                            rotate_left
                            · simp only [Act.put, List.setIfInBounds_toArray, List.set_cons_zero, List.set_cons_succ, i64_w, i32_w]
                              rfl
                            refine pure_ (i := 5) (N := some 55) (v := ?_) (a' := ?_) #[true, true, true, true, true, true, false, false, false] rfl rfl (any_of HT_.out (by kernel_rfl)) (fun _ _ _ h => h) (Or.inl ⟨by rfl, ?_⟩) ?_ ?_
                            rotate_left
                            · intro w'
                              go_simp
                              with_reducible rfl
                            rotate_left
                            · simp only [Act.put, List.setIfInBounds_toArray, List.set_cons_zero, List.set_cons_succ, i64_w, i32_w]
                              rfl
                            refine pure_ (i := 6) (N := some 56) (v := ?_) (a' := ?_) #[true, true, true, true, true, true, true, false, false] rfl rfl (any_of HT_.out (by kernel_rfl)) (fun _ _ _ h => h) (Or.inl ⟨by rfl, ?_⟩) ?_ ?_
                            rotate_left
                            · intro w'
                              go_simp
                              with_reducible rfl
                            rotate_left
                            · simp only [Act.put, List.setIfInBounds_toArray, List.set_cons_zero, List.set_cons_succ, i64_w, i32_w]
                              rfl
                            refine one_ (i := 7) (N := some 57) #[true, true, true, true, true, true, true, true, false] rfl rfl (one_of HT_.out (by kernel_rfl)) (by decide) (fun K hK => ?_)
                            have hj_ : 0 ≤ (0 : Int) := of_decide_eq_true (by first | (with_reducible assumption) | assumption)
                            have hl_ : (1 : Int) ≤ (x7_2.length : Int) := of_decide_eq_true (by first | (with_reducible assumption) | assumption)
                            have hh_ : (0 : Int) ≤ (x7_2.length : Int) := of_decide_eq_true (by first | (with_reducible assumption) | assumption)
                            have hb_ := (Kd.R_reads' HO_7.out).2.2.2.1
                            have h0_ : (0 : Int) ≤ (1 : Int) := of_decide_eq_true (by first | (with_reducible assumption) | assumption)
                            have hy1_ := KY37.out
                            have hk_ : (1 : Int).toNat = y276.length + 1 := (by have hw_ : (1 : Int) = 0 + 1 := (by have h00_ := h0_; (try unfold wrap64 at h00_ ⊢); omega); rw [hw_]; omega)
                            refine Kd.R_delete_step (Kd.int .i64) (w0 := w) w.heap.size (by rfl) (.tmp 52) (.tmp 56) 33 3 rfl Try.underlying33 (by kernel_rfl) (g := go40) (n := x7_2.length) (c := co34) (k := y276.length) rfl rfl ?hA ?hm (by (with_reducible repeat (first | apply Kd.R_alloc | apply Kd.R_drewN | apply Kd.R_drew)); exact HO_7.out) ?hk (by repeat (first | (with_reducible first | exact HB.out | apply below_alloc | apply pw_below_drewN | apply below_drew1) | exact HB.out)) (below_size (by repeat (first | (with_reducible first | exact HB.out | apply below_alloc | apply pw_below_drewN | apply below_drew1) | exact HB.out))) ?_
                            (case hA => have ha_ := KA38.out; rw [hk_] at ha_; exact ha_)
                            (case hm => have ha_ := KY38.out; omega)
                            (case hk => omega)
                            intro w39 ho hb hg
                            clear hj_ hl_ hh_ hb_ hk_ h0_
                            rw [hy1_, ← Ny284.out] at ho
                            clear hy1_
                            have hn_ : x7_2.length - 1 = y284.length := (by have := (Kd.R_reads' ho).1; omega)
                            rw [hn_] at ho ⊢
                            clear hn_
                            have n0_ := Aside0.mk (ho)
                            have n1_ := Aside0.mk (Kd.R_after (v := (.slice (some ⟨go40, 0, none⟩) x7_2.length co34)) (v1 := .slice (some ⟨go40, 0, none⟩) y284.length co34) (ok := (fun _ => True)) (by (with_reducible repeat (first | apply Kd.R_alloc | apply Kd.R_drewN | apply Kd.R_drew)); exact Kd.R_mono HO275.out (fun _ hk => ⟨trivial, hk⟩)) hg (.inl rfl))
                            have n2_ := Aside0.mk (hb)
                            clear HO_7
                            clear HO275
                            clear HB
                            have HO_7 := n0_
                            have HO275 := n1_
                            have HB := n2_
                            clear n0_ n1_ n2_
                            clear ho hb hg
                            refine hK.out _ _ trivial (fun hHeld => ?_)
                            clear hK K
                            refine norm_ (a' := ?_) ?_ ?_
                            rotate_left
                            · show Act.put _ (some 57) _ = _
                              simp only [Act.put, List.setIfInBounds_toArray, List.set_cons_zero, List.set_cons_succ, i64_w, i32_w]
                              rfl
                            refine pure_ (i := 8) (N := some 7) (v := ?_) (a' := ?_) #[true, true, true, true, true, true, true, true, true] rfl rfl (any_of HT_.out (by kernel_rfl)) (fun _ _ _ h => h) (Or.inl ⟨by rfl, ?_⟩) ?_ ?_
                            rotate_left
                            · intro w'
                              go_simp
                              with_reducible rfl
                            rotate_left
                            · simp only [Act.put, List.setIfInBounds_toArray, List.set_cons_zero, List.set_cons_succ, i64_w, i32_w]
                              rfl
                            refine done_ (done_of HT_.out (by kernel_rfl)) ?_
                            try go_wp2
                            go_roundg kj6
                            case measure => have := HK1.out; have := HK2.out; have := HJ6.out; omega
                            case rel => exact ⟨(y284), (y273), (wrap64 (x10_2 + 1)), (by first | rfl | (simp; done) | (simp [*]; done)), H', ⟨by have := HK1.out; have := HK2.out; have := HJ6.out; omega⟩, ⟨by (with_reducible repeat (first | apply Kd.R_alloc | apply Kd.R_drewN | apply Kd.R_drew)); exact HO_7.out⟩, ⟨by (with_reducible repeat (first | apply Kd.R_alloc | apply Kd.R_drewN | apply Kd.R_drew)); exact Kd.R_mono HO275.out (fun _ hk => hk.2)⟩, ⟨by repeat (first | (with_reducible first | exact HB.out | apply below_alloc | apply pw_below_drewN | apply below_drew1) | exact HB.out)⟩⟩
                          · rw [if_neg c33] at H
                            exact absurd H (by simp)
                        · rw [if_neg c32] at H
                          exact absurd H (by simp)
                      · rw [if_neg c31] at H
                        exact absurd H (by simp)
                    · rw [if_neg c30] at H
                      exact absurd H (by simp)
                · replace c10 := Bool.eq_false_iff.mpr c10
                  subst c10
                  have H1 : (some x9_2) = some r := by rw [if_neg (show ¬ (false = true) by decide)] at H; exact H
                  clear H
                  have H := H1
                  clear H1
                  obtain rfl := Option.some.inj H
                  go_wp2
                  go_ret
                  exact ⟨_, by first | rfl | (simp [errW_none, errW_some] <;> rfl) | (simp [*, errW_none, errW_some] <;> rfl), by (with_reducible repeat (first | apply Kd.R_alloc | apply Kd.R_drewN | apply Kd.R_drew)); exact Kd.R_mono HO_9.out (fun _ hk => trivial), by repeat (first | (with_reducible first | exact HB.out | apply below_alloc | apply pw_below_drewN | apply below_drew1) | exact HB.out)⟩

/-! ### seamarklaw29_some: function 18 -/
def seamarklaw29_some.l0 : Nat → List (List Int) → List Int → List (List Int) → Int → Option ((List (List Int)))
  | 0, _, _, _, _ => none
  | k + 1, x0, x1, x5, x6 => if x6 < (x1.length : Int) then (if 0 ≤ x6 then (if 0 ≤ (rd x1 x6) then (if (rd x1 x6) < (x0.length : Int) then (if x5.length < 5864062014805 then (seamarklaw29_some.l0 k x0 x1 (x5 ++ [rd_L1 x0 (rd x1 x6)]) (wrap64 (x6 + 1))) else (none)) else (none)) else (none)) else (none)) else (some x5)
def seamarklaw29_some.f (k : Nat) (l0 : List (List Int)) (l1 : List Int) : Option ((List (List Int))) := seamarklaw29_some.l0 k l0 l1 ([] : List (List Int)) 0
theorem seamarklaw29_some.mono_l : ∀ k, (∀ y0 y1 y2 y3, LeO (seamarklaw29_some.l0 k y0 y1 y2 y3) (seamarklaw29_some.l0 (k + 1) y0 y1 y2 y3))
  | 0 => fun _ _ _ _ r h => by simp [seamarklaw29_some.l0] at h
  | k + 1 => by
    have ih0 := seamarklaw29_some.mono_l k
    · intro y0 y1 y2 y3
      unfold seamarklaw29_some.l0
      repeat' first
      | (with_reducible exact ih0 _ _ _ _)
      | (with_reducible exact LeO.refl _)
      | (with_reducible exact LeO.none _)
      | (with_reducible refine LeO.ite ?_ ?_)
      | (with_reducible refine LeO.bind ?_ (fun _ => ?_))
      | exact ih0 _ _ _ _
      | exact LeO.none _
      | refine LeO.ite ?_ ?_
      | refine LeO.bind ?_ (fun _ => ?_)
theorem seamarklaw29_some.mono : ∀ a0 a1 k, LeO (seamarklaw29_some.f k a0 a1) (seamarklaw29_some.f (k + 1) a0 a1) := by
  intro a0 a1 k
  have ih0 := seamarklaw29_some.mono_l k
  unfold seamarklaw29_some.f
  repeat' first
      | (with_reducible exact ih0 _ _ _ _)
      | (with_reducible exact LeO.refl _)
      | (with_reducible exact LeO.none _)
      | (with_reducible refine LeO.ite ?_ ?_)
      | (with_reducible refine LeO.bind ?_ (fun _ => ?_))
      | exact ih0 _ _ _ _
      | exact LeO.none _
      | refine LeO.ite ?_ ?_
      | refine LeO.bind ?_ (fun _ => ?_)
set_option maxHeartbeats 8000000 in
set_option maxRecDepth 100000 in
theorem seamarklaw29_some.calls (k : Nat) (P0_ : Nat → Prop) (A0 : Option Addr) (c0 : Nat) (l0 : List (List Int)) (A1 : Option Addr) (c1 : Nat) (l1 : List Int) (r : List (List Int)) (w : World) (hs0 : Kd.V (Kd.slice 5 (Kd.int .u8)) 29 w w.heap.size (fun k_ => P0_ k_) (.slice A0 l0.length c0) l0) (hr1 : Kd.C (Kd.int .i64) w A1 l1.length l1) (hc1 : l1.length ≤ c1) (h : seamarklaw29_some.f k l0 l1 = some r) :
    Calls Try.prog 18 #[.slice A0 l0.length c0, .slice A1 l1.length c1] w fun e w' => ∃ v0_ : Value, e = .returned (v0_) ∧ Kd.N (Kd.slice 5 (Kd.int .u8)) 29 w' w.heap.size (fun k_ => (P0_ k_ ∨ w.heap.size ≤ k_)) v0_ r ∧ Below w.heap.size w w' := by
  have HO0 := Aside0.mk (show Kd.V (Kd.slice 5 (Kd.int .u8)) 29 w w.heap.size (fun k_ => (P0_ k_ ∨ w.heap.size ≤ k_)) (.slice A0 l0.length c0) l0 from Kd.V_mono hs0 (fun k_ hk => .inl hk))
  have HR1 := Aside0.mk hr1
  have HC1 := Aside0.mk hc1
  clear hr1 hc1
  have HB := Aside0.mk (Below.refl w.heap.size w)
  have H : (seamarklaw29_some.l0 k l0 l1 ([] : List (List Int)) 0) = some r := h
  clear h
  have H' := Aside0.mk H
  clear H
  go_enter Try.func18, Try.ntmps18
  go_wp2
  go_loopg [5, 6] k (fun kq v5 v6 w' => ∃ (x5_1 : List (List Int)) (x6_1 : Int), v6 = .int .i64 x6_1 ∧ Aside0 (seamarklaw29_some.l0 kq l0 l1 x5_1 x6_1 = some r) ∧ Aside0 (kq ≤ k) ∧ Aside0 (Kd.V (Kd.slice 5 (Kd.int .u8)) 29 w' w.heap.size (fun k_ => (P0_ k_ ∨ w.heap.size ≤ k_) ∧ some k_ ≠ (v5 : Value).ownBlock) (.slice A0 l0.length c0) l0) ∧ Aside0 (Kd.N (Kd.slice 5 (Kd.int .u8)) 29 w' w.heap.size (fun k_ => (P0_ k_ ∨ w.heap.size ≤ k_)) v5 x5_1) ∧ Aside0 (Below w.heap.size w w'))
  case atStart => exact ⟨(([] : List (List Int))), (0), (by first | rfl | (simp; done) | (simp [*]; done)), H', ⟨Nat.le_refl _⟩, ⟨by (with_reducible repeat (first | apply Kd.V_alloc | apply Kd.V_drewN | apply Kd.V_drew)); exact Kd.V_mono HO0.out (fun _ hk => ⟨hk, (by simp [Value.ownBlock])⟩)⟩, ⟨by first | exact Kd.S_nil _ _ _ _ _ | exact Kd.N_nil _ _ _ _ _ | exact Kd.V_nil _ _ _ _ _ | exact Kd.Q_nil _ _ _ _ _ | exact Kd.R_nil _ _ _ _ _⟩, ⟨by repeat (first | (with_reducible first | exact HB.out | apply below_alloc | apply pw_below_drewN | apply below_drew1) | exact HB.out)⟩⟩
  case round =>
    clear H'
    (try clear c1); (try clear p2)
    obtain ⟨x5_1, x6_1, rfl, HA, HK1, HO_0, HO_5, HB⟩ := hrel
    cases gk with
    | zero => exact absurd HA.out (by simp [seamarklaw29_some.l0])
    | succ k1 =>
      have H := HA.out
      clear HA
      simp only [seamarklaw29_some.l0] at H
      by_cases c3 : x6_1 < (l1.length : Int)
      · rw [if_pos c3] at H
        have c3b0 : decide (x6_1 < (l1.length : Int)) = true := decide_eq_true c3
        clear c3
        by_cases c4 : 0 ≤ x6_1
        · rw [if_pos c4] at H
          have c4b0 : decide (0 ≤ x6_1) = true := decide_eq_true c4
          clear c4
          by_cases c5 : 0 ≤ (rd l1 x6_1)
          · rw [if_pos c5] at H
            have c5b0 : decide (0 ≤ (rd l1 x6_1)) = true := decide_eq_true c5
            clear c5
            by_cases c6 : (rd l1 x6_1) < (l0.length : Int)
            · rw [if_pos c6] at H
              have c6b0 : decide ((rd l1 x6_1) < (l0.length : Int)) = true := decide_eq_true c6
              clear c6
              by_cases c7 : x5_1.length < 5864062014805
              · rw [if_pos c7] at H
                have LMc7 := Aside0.mk c7
                clear c7
                obtain ⟨y289, hy289⟩ : ∃ y_ : List (List Int), y_ = (x5_1 ++ [rd_L1 l0 (rd l1 x6_1)]) := ⟨_, rfl⟩
                replace H : (seamarklaw29_some.l0 k1 l0 l1 y289 (wrap64 (x6_1 + 1))) = some r := by first | (rw [hy289]; with_reducible exact H) | (have H2_ := (Option.bind_some _ _).symm.trans H; rw [hy289]; with_reducible exact H2_) | (have H2_ := (Option.bind_some _ _).symm.trans H; with_reducible exact H2_) | with_reducible exact H | (rw [hy289]; exact H) | exact H
                have Ny289 := Aside0.mk hy289
                clear hy289
                have H' := Aside0.mk H
                clear H
                have p287 : 0 ≤ (x6_1 : Int) := of_decide_eq_true (by first | (with_reducible assumption) | assumption)
                have q287 : x6_1 < (l1.length : Int) := of_decide_eq_true (by first | (with_reducible assumption) | assumption)
                obtain ⟨ad287, e287, hx287_0⟩ := Kd.at_int HR1.out x6_1 p287 q287
                cases e287
                replace hx287_0 := (HB.out.cell (World.block_lt_of_cell? w _ hx287_0)).trans hx287_0
                replace p287 := eq_true p287
                replace q287 := eq_true q287
                have p288 : 0 ≤ ((rd l1 x6_1) : Int) := of_decide_eq_true (by first | (with_reducible assumption) | assumption)
                have q288 : (rd l1 x6_1) < (l0.length : Int) := of_decide_eq_true (by first | (with_reducible assumption) | assumption)
                obtain ⟨ad288, A288_0, c288_0, e288, hx288_0, hl288_0, hi288_0⟩ := at_L1 (Kd.V_reads' HO_0.out).2.2 (rd l1 x6_1) p288 q288
                cases e288
                obtain ⟨ce288, hce288, hMe288, hcc288⟩ := Kd.V_get HO_0.out [] (rd l1 x6_1) p288 (by first | exact q288 | exact of_decide_eq_true (by first | (with_reducible assumption) | assumption) | (have e_ := (Kd.V_reads' HO_0.out).1; omega))
                obtain ⟨ua288_0, uc288_0, rfl, ul288_0, ge288_0⟩ := Kd.FK_slice_open hMe288
                have hv288_0 := hcc288 0 _ rfl
                rw [Nat.add_zero, show ((Kd.slice 5 (Kd.int .u8))).sz = 1 from rfl, Nat.mul_one] at hv288_0
                replace hv288_0 := Option.some.inj (hv288_0.symm.trans hx288_0)
                injection hv288_0 with hva_ hvn_ hvc_
                rw [hva_] at ge288_0
                rw [hvc_] at ul288_0
                have HL288_0 := Aside0.mk (show Kd.V (Kd.int .u8) 5 _ w.heap.size _ _ (rd_L1 l0 (rd l1 x6_1)) from Kd.V_mk ul288_0 ge288_0)
                clear hva_ hvn_ hvc_ ge288_0 ul288_0
                clear hcc288 hce288
                have HR288_0 := Aside0.mk hi288_0
                have HC288_0 := Aside0.mk hl288_0
                clear hi288_0 hl288_0
                replace p288 := eq_true p288
                replace q288 := eq_true q288
                go_wp2_with (first | ((with_reducible refine gate_builtin (b := .append) (xs := #[.tmp 13, .tmp 21]) rfl ?_); at_builtin; refine Kd.N_append (Kd.slice 5 (Kd.int .u8)) (w0 := w) w.heap.size rfl (.tmp 13) (.tmp 21) 28 29 (.slice none 0 0) 24 rfl Try.underlying28 info29 rfl (by decide) (by omega) u5 x5_1 (rd_L1 l0 (rd l1 x6_1)) [.slice A288_0 (rd_L1 l0 (rd l1 x6_1)).length c288_0] (fun k_ => (P0_ k_ ∨ w.heap.size ≤ k_)) (fun k_ => ((fun k_ => (P0_ k_ ∨ w.heap.size ≤ k_))) k_ ∧ some k_ ≠ (u5 : Value).ownBlock) rfl rfl ?aP (fun _ hk => hk) ?aF ?aO ?aB ?aS ?aL ?_; (case aP => exact (Kd.FK_slice_mk (Kd.V_reads' (Kd.V_mono (ok' := (fun k_ => ((fun k_ => (P0_ k_ ∨ w.heap.size ≤ k_))) k_ ∧ some k_ ≠ (u5 : Value).ownBlock)) (HL288_0.out) (fun k_ hk => ⟨hk.1, hk.2⟩))).2.1 (Kd.V_F (Kd.V_mono (ok' := (fun k_ => ((fun k_ => (P0_ k_ ∨ w.heap.size ≤ k_))) k_ ∧ some k_ ≠ (u5 : Value).ownBlock)) (HL288_0.out) (fun k_ hk => ⟨hk.1, hk.2⟩))))); (case aB => exact (by repeat (first | (with_reducible first | exact HB.out | apply below_alloc | apply pw_below_drewN | apply below_drew1) | exact HB.out))); (case aF => exact (fun k_ hk => (.inr (Nat.le_trans (below_size (by repeat (first | (with_reducible first | exact HB.out | apply below_alloc | apply pw_below_drewN | apply below_drew1) | exact HB.out))) hk)))); (case aO => exact (by (with_reducible repeat (first | apply Kd.N_alloc | apply Kd.N_drewN | apply Kd.N_drew)); exact HO_5.out)); (case aS => exact (below_size (by repeat (first | (with_reducible first | exact HB.out | apply below_alloc | apply pw_below_drewN | apply below_drew1) | exact HB.out)))); (case aL => have := LMc7.out; omega); intro v290 w8 ho hb hg hat; rw [← Ny289.out] at ho; have n0_ := Aside0.mk (Kd.V_afterv (ok := (fun k_ => (P0_ k_ ∨ w.heap.size ≤ k_))) (by (with_reducible repeat (first | apply Kd.V_alloc | apply Kd.V_drewN | apply Kd.V_drew)); exact HO_0.out) hg hat); have n1_ := Aside0.mk (Kd.V_afterv (ok := (fun k_ => (P0_ k_ ∨ w.heap.size ≤ k_))) (by (with_reducible repeat (first | apply Kd.V_alloc | apply Kd.V_drewN | apply Kd.V_drew)); exact HL288_0.out) hg hat); have n2_ := Aside0.mk (hb); have n3_ := Aside0.mk (ho); clear HO_0; clear HL288_0; clear HB; clear HO_5; have HO_0 := n0_; have HL288_0 := n1_; have HB := n2_; have HO291 := n3_; clear n0_ n1_ n2_ n3_; clear ho hb hg hat))
                go_roundg k1
                case measure => have := HK1.out; omega
                case rel => exact ⟨(y289), (wrap64 (x6_1 + 1)), (by first | rfl | (simp; done) | (simp [*]; done)), H', ⟨by have := HK1.out; omega⟩, ⟨by (with_reducible repeat (first | apply Kd.V_alloc | apply Kd.V_drewN | apply Kd.V_drew)); exact HO_0.out⟩, ⟨by (with_reducible repeat (first | apply Kd.N_alloc | apply Kd.N_drewN | apply Kd.N_drew)); exact HO291.out⟩, ⟨by repeat (first | (with_reducible first | exact HB.out | apply below_alloc | apply pw_below_drewN | apply below_drew1) | exact HB.out)⟩⟩
              · rw [if_neg c7] at H
                exact absurd H (by simp)
            · rw [if_neg c6] at H
              exact absurd H (by simp)
          · rw [if_neg c5] at H
            exact absurd H (by simp)
        · rw [if_neg c4] at H
          exact absurd H (by simp)
      · rw [if_neg c3] at H
        have c3b0 : decide (x6_1 < (l1.length : Int)) = false := decide_eq_false c3
        clear c3
        obtain rfl := Option.some.inj H
        go_wp2
        go_ret
        exact ⟨_, by first | rfl | (simp [errW_none, errW_some] <;> rfl) | (simp [*, errW_none, errW_some] <;> rfl), by (with_reducible repeat (first | apply Kd.N_alloc | apply Kd.N_drewN | apply Kd.N_drew)); exact HO_5.out, by repeat (first | (with_reducible first | exact HB.out | apply below_alloc | apply pw_below_drewN | apply below_drew1) | exact HB.out)⟩

end Go.Proofs.Ytcjjohealloglaa.E
