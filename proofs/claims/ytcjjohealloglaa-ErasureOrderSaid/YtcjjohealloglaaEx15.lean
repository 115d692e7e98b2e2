-- by drive.py (this session's program: it runs print.py beside functions proved by hand). Lean checks it.
import Derived.Test.YtcjjohealloglaaEx0
import Derived.Test.YtcjjohealloglaaEx8
import Derived.Test.YtcjjohealloglaaEx14
namespace Go.Proofs.Ytcjjohealloglaa.E
open Go.RowKit Go.Proofs.YtcjjohealloglaaW.PrintWords Go.Proofs.YtcjjohealloglaaW.PrintLast Go.Proofs.YtcjjohealloglaaW.PrintMore
attribute [local go_sem] max2_int min2_int max_two min_two max_three min_three max_four min_four   -- for this text's walks alone
set_option linter.unusedVariables false
set_option linter.unusedSimpArgs false

/-! ### seamarkref29_First: function 39 -/
def seamarkref29_First.l0 : Nat → Int → List Int → Int → Option (List Int)
  | 0, _, _, _ => none
  | k + 1, x0, x3, x4 => if x4 < x0 then (if x3.length < 17592186044416 then (seamarkref29_First.l0 k x0 (x3 ++ [x4]) (wrap64 (x4 + 1))) else (none)) else (some x3)
def seamarkref29_First.f (k : Nat) (a0 : Int) : Option (List Int) := seamarkref29_First.l0 k a0 ([] : List Int) 0
theorem seamarkref29_First.mono_l : ∀ k, (∀ y0 y1 y2, LeO (seamarkref29_First.l0 k y0 y1 y2) (seamarkref29_First.l0 (k + 1) y0 y1 y2))
  | 0 => fun _ _ _ r h => by simp [seamarkref29_First.l0] at h
  | k + 1 => by
    have ih0 := seamarkref29_First.mono_l k
    · intro y0 y1 y2
      unfold seamarkref29_First.l0
      repeat' first
      | (with_reducible exact ih0 _ _ _)
      | (with_reducible exact LeO.refl _)
      | (with_reducible exact LeO.none _)
      | (with_reducible refine LeO.ite ?_ ?_)
      | (with_reducible refine LeO.bind ?_ (fun _ => ?_))
      | exact ih0 _ _ _
      | exact LeO.none _
      | refine LeO.ite ?_ ?_
      | refine LeO.bind ?_ (fun _ => ?_)
theorem seamarkref29_First.mono : ∀ a0 k, LeO (seamarkref29_First.f k a0) (seamarkref29_First.f (k + 1) a0) := by
  intro a0 k
  have ih0 := seamarkref29_First.mono_l k
  unfold seamarkref29_First.f
  repeat' first
      | (with_reducible exact ih0 _ _ _)
      | (with_reducible exact LeO.refl _)
      | (with_reducible exact LeO.none _)
      | (with_reducible refine LeO.ite ?_ ?_)
      | (with_reducible refine LeO.bind ?_ (fun _ => ?_))
      | exact ih0 _ _ _
      | exact LeO.none _
      | refine LeO.ite ?_ ?_
      | refine LeO.bind ?_ (fun _ => ?_)
set_option maxHeartbeats 8000000 in
set_option maxRecDepth 100000 in
theorem seamarkref29_First.calls (k : Nat) (a0 : Int) (r : List Int) (w : World) (h : seamarkref29_First.f k a0 = some r) :
    Calls Try.prog 39 #[.int .i64 a0] w fun e w' => ∃ v0_ : Value, e = .returned (v0_) ∧ Kd.R (Kd.int .i64) 3 w' w.heap.size (fun _ => True) v0_ r ∧ Below w.heap.size w w' := by
  have HB := Aside0.mk (Below.refl w.heap.size w)
  have H : (seamarkref29_First.l0 k a0 ([] : List Int) 0) = some r := h
  clear h
  have H' := Aside0.mk H
  clear H
  go_enter Try.func39, Try.ntmps39
  go_wp2
  go_loopg [3, 4] k (fun kq v3 v4 w' => ∃ (x3_1 : List Int) (x4_1 : Int), v4 = .int .i64 x4_1 ∧ Aside0 (seamarkref29_First.l0 kq a0 x3_1 x4_1 = some r) ∧ Aside0 (kq ≤ k) ∧ Aside0 (Kd.R (Kd.int .i64) 3 w' w.heap.size (fun _ => True) v3 x3_1) ∧ Aside0 (Below w.heap.size w w'))
  case atStart => exact ⟨(([] : List Int)), (0), (by first | rfl | (simp; done) | (simp [*]; done)), H', ⟨Nat.le_refl _⟩, ⟨by first | exact Kd.R_nil _ _ _ _ _ | exact Kd.N_nil _ _ _ _ _ | exact Kd.V_nil _ _ _ _ _ | exact Kd.Q_nil _ _ _ _ _ | exact Kd.S_nil _ _ _ _ _⟩, ⟨by repeat (first | (with_reducible first | exact HB.out | apply below_alloc | apply pw_below_drewN | apply below_drew1) | exact HB.out)⟩⟩
  case round =>
    clear H'
    obtain ⟨x3_1, x4_1, rfl, HA, HK1, HO_3, HB⟩ := hrel
    cases gk with
    | zero => exact absurd HA.out (by simp [seamarkref29_First.l0])
    | succ k1 =>
      have H := HA.out
      clear HA
      simp only [seamarkref29_First.l0] at H
      by_cases c2 : x4_1 < a0
      · rw [if_pos c2] at H
        have c2b0 : decide (x4_1 < a0) = true := decide_eq_true c2
        clear c2
        by_cases c3 : x3_1.length < 17592186044416
        · rw [if_pos c3] at H
          have LMc3 := Aside0.mk c3
          clear c3
          obtain ⟨y468, hy468⟩ : ∃ y_ : List Int, y_ = (x3_1 ++ [x4_1]) := ⟨_, rfl⟩
          replace H : (seamarkref29_First.l0 k1 a0 y468 (wrap64 (x4_1 + 1))) = some r := by first | (rw [hy468]; with_reducible exact H) | (have H2_ := (Option.bind_some _ _).symm.trans H; rw [hy468]; with_reducible exact H2_) | (have H2_ := (Option.bind_some _ _).symm.trans H; with_reducible exact H2_) | with_reducible exact H | (rw [hy468]; exact H) | exact H
          have Ny468 := Aside0.mk hy468
          clear hy468
          have H' := Aside0.mk H
          clear H
          go_wp2_with (first | ((with_reducible refine gate_builtin (b := .append) (xs := #[.tmp 10, .tmp 12]) rfl ?_); at_builtin; refine Kd.R_append (Kd.int .i64) (w0 := w) w.heap.size rfl (.tmp 10) (.tmp 12) 33 3 (.int .i64 0) 8 rfl Try.underlying33 info3 rfl (by decide) (by omega) u3 x3_1 x4_1 [.int .i64 x4_1] (fun _ => True) (fun _ => False) rfl rfl ?aP (fun _ hk => hk.elim) ?aF ?aO ?aB ?aS ?aL ?_; (case aP => exact rfl); (case aB => exact (by repeat (first | (with_reducible first | exact HB.out | apply below_alloc | apply pw_below_drewN | apply below_drew1) | exact HB.out))); (case aF => exact (fun _ _ => trivial)); (case aO => exact (by (with_reducible repeat (first | apply Kd.R_alloc | apply Kd.R_drewN | apply Kd.R_drew)); exact HO_3.out)); (case aS => exact (below_size (by repeat (first | (with_reducible first | exact HB.out | apply below_alloc | apply pw_below_drewN | apply below_drew1) | exact HB.out)))); (case aL => have := LMc3.out; omega); intro v469 w4 ho hb hg hat; rw [← Ny468.out] at ho; have n0_ := Aside0.mk (hb); have n1_ := Aside0.mk (ho); clear HB; clear HO_3; have HB := n0_; have HO470 := n1_; clear n0_ n1_; clear ho hb hg hat))
          go_roundg k1
          case measure => have := HK1.out; omega
          case rel => exact ⟨(y468), (wrap64 (x4_1 + 1)), (by first | rfl | (simp; done) | (simp [*]; done)), H', ⟨by have := HK1.out; omega⟩, ⟨by (with_reducible repeat (first | apply Kd.R_alloc | apply Kd.R_drewN | apply Kd.R_drew)); exact HO470.out⟩, ⟨by repeat (first | (with_reducible first | exact HB.out | apply below_alloc | apply pw_below_drewN | apply below_drew1) | exact HB.out)⟩⟩
        · rw [if_neg c3] at H
          exact absurd H (by simp)
      · rw [if_neg c2] at H
        have c2b0 : decide (x4_1 < a0) = false := decide_eq_false c2
        clear c2
        obtain rfl := Option.some.inj H
        go_wp2
        go_ret
        exact ⟨_, by first | rfl | (simp [errW_none, errW_some] <;> rfl) | (simp [*, errW_none, errW_some] <;> rfl), by (with_reducible repeat (first | apply Kd.R_alloc | apply Kd.R_drewN | apply Kd.R_drew)); exact HO_3.out, by repeat (first | (with_reducible first | exact HB.out | apply below_alloc | apply pw_below_drewN | apply below_drew1) | exact HB.out)⟩

/-! ### seamarkref29_Code: function 26 -/
mutual
def seamarkref29_Code.j0 : Nat → List (List Int) → Int → Bool → Option ((List (List Int)) × Int)
  | 0, _, _, _ => none
  | k + 1, x0, x1, x20 => if x20 = true then (some (([] : List (List Int)), 1)) else (seamarkref29_Code.l0 k x0 x1 ([] : List (List Int)) 0)
def seamarkref29_Code.l0 : Nat → List (List Int) → Int → List (List Int) → Int → Option ((List (List Int)) × Int)
  | 0, _, _, _, _ => none
  | k + 1, x0, x1, x7, x8 => if x8 < x1 then ((seamarkref29_First.f k (x0.length : Int)).bind fun t472 => ((seamarkref29_Value.f k t472 x0 x8).bind fun t475 => (if x7.length < 5864062014805 then (seamarkref29_Code.l0 k x0 x1 (x7 ++ [t475]) (wrap64 (x8 + 1))) else (none)))) else (some (x7, 0))
end
def seamarkref29_Code.f (k : Nat) (l0 : List (List Int)) (a1 : Int) : Option ((List (List Int)) × Int) := (seamarkref29_Data.f k l0).bind fun t471 => (if t471 = true then (if a1 < 0 then (seamarkref29_Code.j0 k l0 a1 true) else (seamarkref29_Code.j0 k l0 a1 (decide (a1 > 32)))) else (seamarkref29_Code.j0 k l0 a1 true))
theorem seamarkref29_Code.mono_l : ∀ k, (∀ y0 y1 y2, LeO (seamarkref29_Code.j0 k y0 y1 y2) (seamarkref29_Code.j0 (k + 1) y0 y1 y2)) ∧ (∀ y0 y1 y2 y3, LeO (seamarkref29_Code.l0 k y0 y1 y2 y3) (seamarkref29_Code.l0 (k + 1) y0 y1 y2 y3))
  | 0 => ⟨fun _ _ _ r h => by simp [seamarkref29_Code.j0] at h, fun _ _ _ _ r h => by simp [seamarkref29_Code.l0] at h⟩
  | k + 1 => by
    obtain ⟨ih0, ih1⟩ := seamarkref29_Code.mono_l k
    refine ⟨?_, ?_⟩
    · intro y0 y1 y2
      unfold seamarkref29_Code.j0
      repeat' first
      | (with_reducible exact ih0 _ _ _)
      | (with_reducible exact ih1 _ _ _ _)
      | (with_reducible exact seamarkref29_Data.mono _ _)
      | (with_reducible exact seamarkref29_First.mono _ _)
      | (with_reducible exact seamarkref29_Value.mono _ _ _ _)
      | (with_reducible exact LeO.refl _)
      | (with_reducible exact LeO.none _)
      | (with_reducible refine LeO.ite ?_ ?_)
      | (with_reducible refine LeO.bind ?_ (fun _ => ?_))
      | exact ih0 _ _ _
      | exact ih1 _ _ _ _
      | exact seamarkref29_Data.mono _ _
      | exact seamarkref29_First.mono _ _
      | exact seamarkref29_Value.mono _ _ _ _
      | exact LeO.none _
      | refine LeO.ite ?_ ?_
      | refine LeO.bind ?_ (fun _ => ?_)
    · intro y0 y1 y2 y3
      unfold seamarkref29_Code.l0
      repeat' first
      | (with_reducible exact ih0 _ _ _)
      | (with_reducible exact ih1 _ _ _ _)
      | (with_reducible exact seamarkref29_Data.mono _ _)
      | (with_reducible exact seamarkref29_First.mono _ _)
      | (with_reducible exact seamarkref29_Value.mono _ _ _ _)
      | (with_reducible exact LeO.refl _)
      | (with_reducible exact LeO.none _)
      | (with_reducible refine LeO.ite ?_ ?_)
      | (with_reducible refine LeO.bind ?_ (fun _ => ?_))
      | exact ih0 _ _ _
      | exact ih1 _ _ _ _
      | exact seamarkref29_Data.mono _ _
      | exact seamarkref29_First.mono _ _
      | exact seamarkref29_Value.mono _ _ _ _
      | exact LeO.none _
      | refine LeO.ite ?_ ?_
      | refine LeO.bind ?_ (fun _ => ?_)
theorem seamarkref29_Code.mono : ∀ a0 a1 k, LeO (seamarkref29_Code.f k a0 a1) (seamarkref29_Code.f (k + 1) a0 a1) := by
  intro a0 a1 k
  obtain ⟨ih0, ih1⟩ := seamarkref29_Code.mono_l k
  unfold seamarkref29_Code.f
  repeat' first
      | (with_reducible exact ih0 _ _ _)
      | (with_reducible exact ih1 _ _ _ _)
      | (with_reducible exact seamarkref29_Data.mono _ _)
      | (with_reducible exact seamarkref29_First.mono _ _)
      | (with_reducible exact seamarkref29_Value.mono _ _ _ _)
      | (with_reducible exact LeO.refl _)
      | (with_reducible exact LeO.none _)
      | (with_reducible refine LeO.ite ?_ ?_)
      | (with_reducible refine LeO.bind ?_ (fun _ => ?_))
      | exact ih0 _ _ _
      | exact ih1 _ _ _ _
      | exact seamarkref29_Data.mono _ _
      | exact seamarkref29_First.mono _ _
      | exact seamarkref29_Value.mono _ _ _ _
      | exact LeO.none _
      | refine LeO.ite ?_ ?_
      | refine LeO.bind ?_ (fun _ => ?_)
set_option maxHeartbeats 8000000 in
set_option maxRecDepth 100000 in
theorem seamarkref29_Code.calls (k : Nat) (A0 : Option Addr) (c0 : Nat) (l0 : List (List Int)) (a1 : Int) (r1 : List (List Int)) (r2 : Int) (w : World) (hr0 : Kd.C (Kd.slice 5 (Kd.int .u8)) w A0 l0.length l0) (hc0 : l0.length ≤ c0) (h : seamarkref29_Code.f k l0 a1 = some (r1, r2)) :
    Calls Try.prog 26 #[.slice A0 l0.length c0, .int .i64 a1] w fun e w' => ∃ v0_ : Value, e = .returned (.tuple #[v0_, .int .i64 r2]) ∧ Kd.S (Kd.slice 5 (Kd.int .u8)) 29 w' w.heap.size (fun _ => True) v0_ r1 ∧ Below w.heap.size w w' := by
  have HR0 := Aside0.mk hr0
  have HC0 := Aside0.mk hc0
  clear hr0 hc0
  have HB := Aside0.mk (Below.refl w.heap.size w)
  have H : ((seamarkref29_Data.f k l0).bind fun t471 => (if t471 = true then (if a1 < 0 then (seamarkref29_Code.j0 k l0 a1 true) else (seamarkref29_Code.j0 k l0 a1 (decide (a1 > 32)))) else (seamarkref29_Code.j0 k l0 a1 true))) = some (r1, r2) := h
  clear h
  replace H := Option.bind_eq_some_iff.mp H
  obtain ⟨t471, A30, H⟩ := H
  replace H : (if t471 = true then (if a1 < 0 then (seamarkref29_Code.j0 k l0 a1 true) else (seamarkref29_Code.j0 k l0 a1 (decide (a1 > 32)))) else (seamarkref29_Code.j0 k l0 a1 true)) = some (r1, r2) := H
  have A3 := Aside0.mk A30
  clear A30
  have HC4 := Aside0.mk H
  clear H
  go_enter Try.func26, Try.ntmps26
  go_upto_region 2 with (first | ((with_reducible refine gate_callee (f := 31) rfl ?_); refine goesL_ (some 10) rfl rfl Try.func31 (by kernel_rfl) rfl #[.slice A0 l0.length c0] rfl (by (try simp only [List.map_toArray, List.map_cons, List.map_nil]); first | done | rfl | (simp only [List.length_drop, List.length_take]; rfl)) ?_; (with_reducible refine (seamarkref29_Data.calls k _ _ l0 t471 _ ?side1 ?side2 A3.out).mono ?_); (case side1 => repeat (first | exact HR0.out | (with_reducible refine Kd.C_alloc ?_ _) | (with_reducible refine Kd.C_drewN ?_ _) | (with_reducible refine Kd.C_drew ?_))); (case side2 => exact HC0.out); rintro e w' ⟨rfl, ⟨nd, rfl⟩⟩; refine ⟨_, rfl, ?_⟩))
  (try simp only [Act.put, List.setIfInBounds_toArray, List.set_cons_zero, List.set_cons_succ])
  go_cut [20] (fun v20 wc => ∃ (kq : Nat) (x20_3 : Bool), v20 = .bool x20_3 ∧ Aside0 (seamarkref29_Code.j0 kq l0 a1 x20_3 = some (r1, r2)) ∧ Aside0 (kq ≤ k) ∧ Aside0 (Below w.heap.size w wc))
  case first =>
    have H := HC4.out
    clear HC4
    by_cases c5 : t471 = true
    · subst c5
      have H1 : (if a1 < 0 then (seamarkref29_Code.j0 k l0 a1 true) else (seamarkref29_Code.j0 k l0 a1 (decide (a1 > 32)))) = some (r1, r2) := by rw [if_pos rfl] at H; exact H
      clear H
      have H := H1
      clear H1
      by_cases c6 : a1 < 0
      · rw [if_pos c6] at H
        have c6b0 : decide (a1 < 0) = true := decide_eq_true c6
        clear c6
        (first | rw [c6b0] | (simp only [i64_w, i32_w]; rw [c6b0]) | skip)
        have H' := Aside0.mk H
        clear H
        go_wp2
        go_meet
        case rel => exact ⟨_, (true), (by first | rfl | (simp; done) | (simp [*]; done)), H', ⟨by first | omega | exact Nat.le_refl _⟩, ⟨by repeat (first | (with_reducible first | exact HB.out | apply below_alloc | apply pw_below_drewN | apply below_drew1) | exact HB.out)⟩⟩
      · rw [if_neg c6] at H
        have c6b0 : decide (a1 < 0) = false := decide_eq_false c6
        clear c6
        (first | rw [c6b0] | (simp only [i64_w, i32_w]; rw [c6b0]) | skip)
        have H' := Aside0.mk H
        clear H
        go_wp2
        go_meet
        case rel => exact ⟨_, (decide (a1 > 32)), (by first | rfl | (simp; done) | (simp [*]; done)), H', ⟨by first | omega | exact Nat.le_refl _⟩, ⟨by repeat (first | (with_reducible first | exact HB.out | apply below_alloc | apply pw_below_drewN | apply below_drew1) | exact HB.out)⟩⟩
    · replace c5 := Bool.eq_false_iff.mpr c5
      subst c5
      have H1 : (seamarkref29_Code.j0 k l0 a1 true) = some (r1, r2) := by rw [if_neg (show ¬ (false = true) by decide)] at H; exact H
      clear H
      have H := H1
      clear H1
      have H' := Aside0.mk H
      clear H
      go_wp2
      go_meet
      case rel => exact ⟨_, (true), (by first | rfl | (simp; done) | (simp [*]; done)), H', ⟨by first | omega | exact Nat.le_refl _⟩, ⟨by repeat (first | (with_reducible first | exact HB.out | apply below_alloc | apply pw_below_drewN | apply below_drew1) | exact HB.out)⟩⟩
  case rest =>
    clear HC4
    (try clear c2); (try clear p2); (try clear c3); (try clear c5); (try clear c6); (try clear c6b0)
    obtain ⟨kq, x20_3, rfl, HA, HJ3, HB⟩ := hcut
    cases kq with
    | zero => exact absurd HA.out (by simp [seamarkref29_Code.j0])
    | succ kj3 =>
      have H := HA.out
      clear HA
      simp only [seamarkref29_Code.j0] at H
      by_cases c7 : x20_3 = true
      · subst c7
        have H1 : (some (([] : List (List Int)), 1)) = some (r1, r2) := by rw [if_pos rfl] at H; exact H
        clear H
        have H := H1
        clear H1
        simp only [Option.some.injEq, Prod.mk.injEq] at H
        obtain ⟨rfl, rfl⟩ := H
        go_wp2
        go_ret2
        exact ⟨_, by first | rfl | (simp [errW_none, errW_some] <;> rfl) | (simp [*, errW_none, errW_some] <;> rfl), by first | exact Kd.S_nil _ _ _ _ _ | exact Kd.N_nil _ _ _ _ _ | exact Kd.V_nil _ _ _ _ _ | exact Kd.Q_nil _ _ _ _ _ | exact Kd.R_nil _ _ _ _ _, by repeat (first | (with_reducible first | exact HB.out | apply below_alloc | apply pw_below_drewN | apply below_drew1) | exact HB.out)⟩
      · replace c7 := Bool.eq_false_iff.mpr c7
        subst c7
        have H1 : (seamarkref29_Code.l0 kj3 l0 a1 ([] : List (List Int)) 0) = some (r1, r2) := by rw [if_neg (show ¬ (false = true) by decide)] at H; exact H
        clear H
        have H := H1
        clear H1
        have H' := Aside0.mk H
        clear H
        go_wp2
        go_loopg [7, 8] kj3 (fun kq v7 v8 w' => ∃ (x7_2 : List (List Int)) (x8_2 : Int), v8 = .int .i64 x8_2 ∧ Aside0 (seamarkref29_Code.l0 kq l0 a1 x7_2 x8_2 = some (r1, r2)) ∧ Aside0 (kq ≤ kj3) ∧ Aside0 (Kd.S (Kd.slice 5 (Kd.int .u8)) 29 w' w.heap.size (fun _ => True) v7 x7_2) ∧ Aside0 (Below w.heap.size w w'))
        case atStart => exact ⟨(([] : List (List Int))), (0), (by first | rfl | (simp; done) | (simp [*]; done)), H', ⟨Nat.le_refl _⟩, ⟨by first | exact Kd.S_nil _ _ _ _ _ | exact Kd.N_nil _ _ _ _ _ | exact Kd.V_nil _ _ _ _ _ | exact Kd.Q_nil _ _ _ _ _ | exact Kd.R_nil _ _ _ _ _⟩, ⟨by repeat (first | (with_reducible first | exact HB.out | apply below_alloc | apply pw_below_drewN | apply below_drew1) | exact HB.out)⟩⟩
        case round =>
          clear H'
          (try clear c2); (try clear p2); (try clear c3); (try clear c5); (try clear c6); (try clear c6b0); (try clear c7); (try clear p2)
          obtain ⟨x7_2, x8_2, rfl, HA, HK2, HO_7, HB⟩ := hrel
          cases gk with
          | zero => exact absurd HA.out (by simp [seamarkref29_Code.l0])
          | succ k2 =>
            have H := HA.out
            clear HA
            simp only [seamarkref29_Code.l0] at H
            by_cases c8 : x8_2 < a1
            · rw [if_pos c8] at H
              have c8b0 : decide (x8_2 < a1) = true := decide_eq_true c8
              clear c8
              replace H := Option.bind_eq_some_iff.mp H
              obtain ⟨t472, A90, H⟩ := H
              replace H : ((seamarkref29_Value.f k2 t472 l0 x8_2).bind fun t475 => (if x7_2.length < 5864062014805 then (seamarkref29_Code.l0 k2 l0 a1 (x7_2 ++ [t475]) (wrap64 (x8_2 + 1))) else (none))) = some (r1, r2) := H
              have A9 := Aside0.mk A90
              clear A90
              replace H := Option.bind_eq_some_iff.mp H
              obtain ⟨t475, A100, H⟩ := H
              replace H : (if x7_2.length < 5864062014805 then (seamarkref29_Code.l0 k2 l0 a1 (x7_2 ++ [t475]) (wrap64 (x8_2 + 1))) else (none)) = some (r1, r2) := H
              have A10 := Aside0.mk A100
              clear A100
              by_cases c11 : x7_2.length < 5864062014805
              · rw [if_pos c11] at H
                have LMc11 := Aside0.mk c11
                clear c11
                obtain ⟨y478, hy478⟩ : ∃ y_ : List (List Int), y_ = (x7_2 ++ [t475]) := ⟨_, rfl⟩
                replace H : (seamarkref29_Code.l0 k2 l0 a1 y478 (wrap64 (x8_2 + 1))) = some (r1, r2) := by first | (rw [hy478]; with_reducible exact H) | (have H2_ := (Option.bind_some _ _).symm.trans H; rw [hy478]; with_reducible exact H2_) | (have H2_ := (Option.bind_some _ _).symm.trans H; with_reducible exact H2_) | with_reducible exact H | (rw [hy478]; exact H) | exact H
                have Ny478 := Aside0.mk hy478
                clear hy478
                have H' := Aside0.mk H
                clear H
                go_wp2_with (first | ((with_reducible refine gate_callee (f := 39) rfl ?_); refine goesL_ (some 29) rfl rfl Try.func39 (by kernel_rfl) rfl #[.int .i64 (l0.length : Int)] rfl (by (try simp only [List.map_toArray, List.map_cons, List.map_nil]); first | done | rfl | (simp only [List.length_drop, List.length_take]; rfl)) ?_; (with_reducible refine (seamarkref29_First.calls k2 (l0.length : Int) t472 _ A9.out).mono ?_); rintro e w12 ⟨v473, rfl, ho0, hb⟩; refine ⟨_, rfl, ?_⟩; have n0_ := Aside0.mk (Kd.S_below (by (with_reducible repeat (first | apply Kd.S_alloc | apply Kd.S_drewN | apply Kd.S_drew)); exact HO_7.out) hb); have n1_ := Aside0.mk (Kd.R_lower ho0 (below_size (by repeat (first | (with_reducible first | exact HB.out | apply below_alloc | apply pw_below_drewN | apply below_drew1) | exact HB.out)))); have n2_ := Aside0.mk (below_step (by repeat (first | (with_reducible first | exact HB.out | apply below_alloc | apply pw_below_drewN | apply below_drew1) | exact HB.out)) hb); clear HO_7; clear HB; have HO_7 := n0_; have HO474 := n1_; have HB := n2_; clear n0_ n1_ n2_; (try clear hb); (try clear hb2); (try clear hk); (try clear hi); (try clear ho0); obtain ⟨Ao13, co13, eo13⟩ := Kd.R_slice HO474.out; subst eo13) | ((with_reducible refine gate_callee (f := 38) rfl ?_); refine goesL_ (some 32) rfl rfl Try.func38 (by kernel_rfl) rfl #[.slice Ao13 t472.length co13, .slice A0 l0.length c0, .int .i64 x8_2] rfl (by (try simp only [List.map_toArray, List.map_cons, List.map_nil]); first | done | rfl | (simp only [List.length_drop, List.length_take]; rfl)) ?_; (with_reducible refine (seamarkref29_Value.calls k2 _ _ t472 _ _ l0 x8_2 t475 _ ?side1 ?side2 ?side3 ?side4 A10.out).mono ?_); (case side1 => repeat (first | exact (Kd.R_reads' HO474.out).2.2 | (with_reducible refine Kd.C_alloc ?_ _) | (with_reducible refine Kd.C_drewN ?_ _) | (with_reducible refine Kd.C_drew ?_))); (case side2 => exact (Kd.R_reads' HO474.out).2.1); (case side3 => repeat (first | exact (Kd.C_below HR0.out HB.out) | (with_reducible refine Kd.C_alloc ?_ _) | (with_reducible refine Kd.C_drewN ?_ _) | (with_reducible refine Kd.C_drew ?_))); (case side4 => exact HC0.out); rintro e w14 ⟨v476, rfl, ho0, hb⟩; refine ⟨_, rfl, ?_⟩; have n0_ := Aside0.mk (Kd.S_elder' (by (with_reducible repeat (first | apply Kd.S_alloc | apply Kd.S_drewN | apply Kd.S_drew)); exact HO_7.out) (Kd.R_base ho0) hb); have n1_ := Aside0.mk (Kd.R_below (by (with_reducible repeat (first | apply Kd.R_alloc | apply Kd.R_drewN | apply Kd.R_drew)); exact HO474.out) hb); have n2_ := Aside0.mk (Kd.R_lower ho0 (below_size (by repeat (first | (with_reducible first | exact HB.out | apply below_alloc | apply pw_below_drewN | apply below_drew1) | exact HB.out)))); have n3_ := Aside0.mk (below_step (by repeat (first | (with_reducible first | exact HB.out | apply below_alloc | apply pw_below_drewN | apply below_drew1) | exact HB.out)) hb); clear HO_7; clear HO474; clear HB; have HO_7 := n0_; have HO474 := n1_; have HO477 := n2_; have HB := n3_; clear n0_ n1_ n2_ n3_; (try clear hb); (try clear hb2); (try clear hk); (try clear hi); (try clear ho0); obtain ⟨Ao16, co16, eo16⟩ := Kd.R_slice HO477.out; subst eo16) | ((with_reducible refine gate_builtin (b := .append) (xs := #[.tmp 26, .tmp 33]) rfl ?_); at_builtin; refine Kd.S_append (Kd.slice 5 (Kd.int .u8)) (w0 := w) w.heap.size rfl (.tmp 26) (.tmp 33) 28 29 (.slice none 0 0) 24 rfl Try.underlying28 info29 rfl (by decide) (by omega) u7 x7_2 t475 [.slice Ao16 t475.length co16] (fun _ => True) (fun k_ => some k_ = (.slice Ao16 t475.length co16 : Value).ownBlock) rfl rfl ?aP (fun k_ hk_ => ((Kd.R_mono (ok' := fun k_ => ((fun _ => True)) k_ ∧ some k_ ≠ (u7 : Value).ownBlock) (Kd.R_apart' (HO477.out) (Kd.S_typed HO_7.out) (by decide)) (fun k_ hk => ⟨trivial, hk.2⟩))).1 k_ hk_.symm) ?aF ?aO ?aB ?aS ?aL ?_; (case aP => exact Kd.M_row (Kd.R_mono (Kd.R_tight rfl (Kd.R_mono (ok' := fun k_ => ((fun _ => True)) k_ ∧ some k_ ≠ (u7 : Value).ownBlock) (Kd.R_apart' (HO477.out) (Kd.S_typed HO_7.out) (by decide)) (fun k_ hk => ⟨trivial, hk.2⟩))) (fun _ h_ => h_))); (case aB => exact (by repeat (first | (with_reducible first | exact HB.out | apply below_alloc | apply pw_below_drewN | apply below_drew1) | exact HB.out))); (case aF => exact (fun _ _ => trivial)); (case aO => exact (by (with_reducible repeat (first | apply Kd.S_alloc | apply Kd.S_drewN | apply Kd.S_drew)); exact Kd.S_mono HO_7.out (fun k_ hk => ⟨trivial, fun e_ => hk.2 e_⟩))); (case aS => exact (below_size (by repeat (first | (with_reducible first | exact HB.out | apply below_alloc | apply pw_below_drewN | apply below_drew1) | exact HB.out)))); (case aL => have := LMc11.out; omega); intro v479 w15 ho hb hg hat; rw [← Ny478.out] at ho; have n0_ := Aside0.mk (Kd.R_over' (by (with_reducible repeat (first | apply Kd.R_alloc | apply Kd.R_drewN | apply Kd.R_drew)); exact HO474.out) (Kd.S_typed (by (with_reducible repeat (first | apply Kd.S_alloc | apply Kd.S_drewN | apply Kd.S_drew)); exact HO_7.out)) (by decide) hg); have n1_ := Aside0.mk (hb); have n2_ := Aside0.mk (ho); clear HO474; clear HB; clear HO_7; clear HO477; have HO474 := n0_; have HB := n1_; have HO480 := n2_; clear n0_ n1_ n2_; clear ho hb hg hat))
                go_roundg k2
                case measure => have := HJ3.out; have := HK2.out; omega
                case rel => exact ⟨(y478), (wrap64 (x8_2 + 1)), (by first | rfl | (simp; done) | (simp [*]; done)), H', ⟨by have := HJ3.out; have := HK2.out; omega⟩, ⟨by (with_reducible repeat (first | apply Kd.S_alloc | apply Kd.S_drewN | apply Kd.S_drew)); exact HO480.out⟩, ⟨by repeat (first | (with_reducible first | exact HB.out | apply below_alloc | apply pw_below_drewN | apply below_drew1) | exact HB.out)⟩⟩
              · rw [if_neg c11] at H
                exact absurd H (by simp)
            · rw [if_neg c8] at H
              have c8b0 : decide (x8_2 < a1) = false := decide_eq_false c8
              clear c8
              simp only [Option.some.injEq, Prod.mk.injEq] at H
              obtain ⟨rfl, rfl⟩ := H
              go_wp2
              go_ret2
              exact ⟨_, by first | rfl | (simp [errW_none, errW_some] <;> rfl) | (simp [*, errW_none, errW_some] <;> rfl), by (with_reducible repeat (first | apply Kd.S_alloc | apply Kd.S_drewN | apply Kd.S_drew)); exact HO_7.out, by repeat (first | (with_reducible first | exact HB.out | apply below_alloc | apply pw_below_drewN | apply below_drew1) | exact HB.out)⟩

/-! ### seamarkref29_Given: function 40 -/
mutual
def seamarkref29_Given.j0 : Nat → List Int → List (List Int) → Bool → Option (Bool)
  | 0, _, _, _ => none
  | k + 1, x1, x2, x26 => if x26 = true then (some false) else (seamarkref29_Given.l0 k x1 x2 0)
def seamarkref29_Given.l0 : Nat → List Int → List (List Int) → Int → Option (Bool)
  | 0, _, _, _ => none
  | k + 1, x1, x2, x7 => if x7 < (x1.length : Int) then (if 0 ≤ x7 then (if (rd x1 x7) < 0 then (seamarkref29_Given.j2 k x1 x2 x7 true) else (if (rd x1 x7) ≥ 32 then (seamarkref29_Given.j2 k x1 x2 x7 true) else (if x7 < (x2.length : Int) then (if 0 < (x2.length : Int) then (if ((rd_L1 x2 x7).length : Int) = ((rd_L1 x2 0).length : Int) then (seamarkref29_Given.j2 k x1 x2 x7 (decide (((rd_L1 x2 x7).length : Int) > 200))) else (seamarkref29_Given.j2 k x1 x2 x7 true)) else (none)) else (none)))) else (none)) else (some true)
def seamarkref29_Given.j2 : Nat → List Int → List (List Int) → Int → Bool → Option (Bool)
  | 0, _, _, _, _ => none
  | k + 1, x1, x2, x7, x64 => if x64 = true then (some false) else (seamarkref29_Given.l1 k x1 x2 x7 0)
def seamarkref29_Given.l1 : Nat → List Int → List (List Int) → Int → Int → Option (Bool)
  | 0, _, _, _, _ => none
  | k + 1, x1, x2, x7, x8 => if x8 < x7 then (if 0 ≤ x8 then (if x8 < (x1.length : Int) then (if 0 ≤ x7 then (if x7 < (x1.length : Int) then (if (rd x1 x8) = (rd x1 x7) then (some false) else (seamarkref29_Given.l1 k x1 x2 x7 (wrap64 (x8 + 1)))) else (none)) else (none)) else (none)) else (none)) else (seamarkref29_Given.l0 k x1 x2 (wrap64 (x7 + 1)))
end
def seamarkref29_Given.f (k : Nat) (a0 : Int) (l1 : List Int) (l2 : List (List Int)) : Option (Bool) := if a0 < 1 then (seamarkref29_Given.j0 k l1 l2 true) else (if a0 > 32 then (seamarkref29_Given.j0 k l1 l2 true) else (if (l1.length : Int) = (l2.length : Int) then (seamarkref29_Given.j0 k l1 l2 (decide ((l1.length : Int) > 32))) else (seamarkref29_Given.j0 k l1 l2 true)))
theorem seamarkref29_Given.mono_l : ∀ k, (∀ y0 y1 y2, LeO (seamarkref29_Given.j0 k y0 y1 y2) (seamarkref29_Given.j0 (k + 1) y0 y1 y2)) ∧ (∀ y0 y1 y2, LeO (seamarkref29_Given.l0 k y0 y1 y2) (seamarkref29_Given.l0 (k + 1) y0 y1 y2)) ∧ (∀ y0 y1 y2 y3, LeO (seamarkref29_Given.j2 k y0 y1 y2 y3) (seamarkref29_Given.j2 (k + 1) y0 y1 y2 y3)) ∧ (∀ y0 y1 y2 y3, LeO (seamarkref29_Given.l1 k y0 y1 y2 y3) (seamarkref29_Given.l1 (k + 1) y0 y1 y2 y3))
  | 0 => ⟨fun _ _ _ r h => by simp [seamarkref29_Given.j0] at h, fun _ _ _ r h => by simp [seamarkref29_Given.l0] at h, fun _ _ _ _ r h => by simp [seamarkref29_Given.j2] at h, fun _ _ _ _ r h => by simp [seamarkref29_Given.l1] at h⟩
  | k + 1 => by
    obtain ⟨ih0, ih1, ih2, ih3⟩ := seamarkref29_Given.mono_l k
    refine ⟨?_, ?_, ?_, ?_⟩
    · intro y0 y1 y2
      unfold seamarkref29_Given.j0
      repeat' first
      | (with_reducible exact ih0 _ _ _)
      | (with_reducible exact ih1 _ _ _)
      | (with_reducible exact ih2 _ _ _ _)
      | (with_reducible exact ih3 _ _ _ _)
      | (with_reducible exact LeO.refl _)
      | (with_reducible exact LeO.none _)
      | (with_reducible refine LeO.ite ?_ ?_)
      | (with_reducible refine LeO.bind ?_ (fun _ => ?_))
      | exact ih0 _ _ _
      | exact ih1 _ _ _
      | exact ih2 _ _ _ _
      | exact ih3 _ _ _ _
      | exact LeO.none _
      | refine LeO.ite ?_ ?_
      | refine LeO.bind ?_ (fun _ => ?_)
    · intro y0 y1 y2
      unfold seamarkref29_Given.l0
      repeat' first
      | (with_reducible exact ih0 _ _ _)
      | (with_reducible exact ih1 _ _ _)
      | (with_reducible exact ih2 _ _ _ _)
      | (with_reducible exact ih3 _ _ _ _)
      | (with_reducible exact LeO.refl _)
      | (with_reducible exact LeO.none _)
      | (with_reducible refine LeO.ite ?_ ?_)
      | (with_reducible refine LeO.bind ?_ (fun _ => ?_))
      | exact ih0 _ _ _
      | exact ih1 _ _ _
      | exact ih2 _ _ _ _
      | exact ih3 _ _ _ _
      | exact LeO.none _
      | refine LeO.ite ?_ ?_
      | refine LeO.bind ?_ (fun _ => ?_)
    · intro y0 y1 y2 y3
      unfold seamarkref29_Given.j2
      repeat' first
      | (with_reducible exact ih0 _ _ _)
      | (with_reducible exact ih1 _ _ _)
      | (with_reducible exact ih2 _ _ _ _)
      | (with_reducible exact ih3 _ _ _ _)
      | (with_reducible exact LeO.refl _)
      | (with_reducible exact LeO.none _)
      | (with_reducible refine LeO.ite ?_ ?_)
      | (with_reducible refine LeO.bind ?_ (fun _ => ?_))
      | exact ih0 _ _ _
      | exact ih1 _ _ _
      | exact ih2 _ _ _ _
      | exact ih3 _ _ _ _
      | exact LeO.none _
      | refine LeO.ite ?_ ?_
      | refine LeO.bind ?_ (fun _ => ?_)
    · intro y0 y1 y2 y3
      unfold seamarkref29_Given.l1
      repeat' first
      | (with_reducible exact ih0 _ _ _)
      | (with_reducible exact ih1 _ _ _)
      | (with_reducible exact ih2 _ _ _ _)
      | (with_reducible exact ih3 _ _ _ _)
      | (with_reducible exact LeO.refl _)
      | (with_reducible exact LeO.none _)
      | (with_reducible refine LeO.ite ?_ ?_)
      | (with_reducible refine LeO.bind ?_ (fun _ => ?_))
      | exact ih0 _ _ _
      | exact ih1 _ _ _
      | exact ih2 _ _ _ _
      | exact ih3 _ _ _ _
      | exact LeO.none _
      | refine LeO.ite ?_ ?_
      | refine LeO.bind ?_ (fun _ => ?_)
theorem seamarkref29_Given.mono : ∀ a0 a1 a2 k, LeO (seamarkref29_Given.f k a0 a1 a2) (seamarkref29_Given.f (k + 1) a0 a1 a2) := by
  intro a0 a1 a2 k
  obtain ⟨ih0, ih1, ih2, ih3⟩ := seamarkref29_Given.mono_l k
  unfold seamarkref29_Given.f
  repeat' first
      | (with_reducible exact ih0 _ _ _)
      | (with_reducible exact ih1 _ _ _)
      | (with_reducible exact ih2 _ _ _ _)
      | (with_reducible exact ih3 _ _ _ _)
      | (with_reducible exact LeO.refl _)
      | (with_reducible exact LeO.none _)
      | (with_reducible refine LeO.ite ?_ ?_)
      | (with_reducible refine LeO.bind ?_ (fun _ => ?_))
      | exact ih0 _ _ _
      | exact ih1 _ _ _
      | exact ih2 _ _ _ _
      | exact ih3 _ _ _ _
      | exact LeO.none _
      | refine LeO.ite ?_ ?_
      | refine LeO.bind ?_ (fun _ => ?_)
set_option maxHeartbeats 8000000 in
set_option maxRecDepth 100000 in
theorem seamarkref29_Given.calls (k : Nat) (a0 : Int) (A1 : Option Addr) (c1 : Nat) (l1 : List Int) (A2 : Option Addr) (c2 : Nat) (l2 : List (List Int)) (r : Bool) (w : World) (hr1 : Kd.C (Kd.int .i64) w A1 l1.length l1) (hc1 : l1.length ≤ c1) (hr2 : Kd.C (Kd.slice 5 (Kd.int .u8)) w A2 l2.length l2) (hc2 : l2.length ≤ c2) (h : seamarkref29_Given.f k a0 l1 l2 = some r) :
    Calls Try.prog 40 #[.int .i64 a0, .slice A1 l1.length c1, .slice A2 l2.length c2] w fun e w' => e = .returned (.bool r) ∧ Drawn0 w w' := by
  have HR1 := Aside0.mk hr1
  have HC1 := Aside0.mk hc1
  clear hr1 hc1
  have HR2 := Aside0.mk hr2
  have HC2 := Aside0.mk hc2
  clear hr2 hc2
  have H : (if a0 < 1 then (seamarkref29_Given.j0 k l1 l2 true) else (if a0 > 32 then (seamarkref29_Given.j0 k l1 l2 true) else (if (l1.length : Int) = (l2.length : Int) then (seamarkref29_Given.j0 k l1 l2 (decide ((l1.length : Int) > 32))) else (seamarkref29_Given.j0 k l1 l2 true)))) = some r := h
  clear h
  have HC4 := Aside0.mk H
  clear H
  go_enter Try.func40, Try.ntmps40
  go_upto_region 1 with (fail)
  repeat (go_quiet (fail); go_upto_region 1 with (fail))
  go_cut [26] (fun v26 wc => ∃ (kq : Nat) (x26_3 : Bool), v26 = .bool x26_3 ∧ Aside0 (seamarkref29_Given.j0 kq l1 l2 x26_3 = some r) ∧ Aside0 (kq ≤ k) ∧ Drawn0 w wc)
  case first =>
    have H := HC4.out
    clear HC4
    by_cases c5 : a0 < 1
    · rw [if_pos c5] at H
      have c5b0 : decide (a0 < 1) = true := decide_eq_true c5
      clear c5
      (first | rw [c5b0] | (simp only [i64_w, i32_w]; rw [c5b0]) | skip)
      have H' := Aside0.mk H
      clear H
      go_wp2
      repeat (go_quiet (fail); try go_wp2)
      go_meet
      case rel => exact ⟨_, (true), (by first | rfl | (simp; done) | (simp [*]; done)), H', ⟨by first | omega | exact Nat.le_refl _⟩, by repeat (first | exact Drawn0.refl _ | apply Drawn0.step)⟩
    · rw [if_neg c5] at H
      have c5b0 : decide (a0 < 1) = false := decide_eq_false c5
      clear c5
      (first | rw [c5b0] | (simp only [i64_w, i32_w]; rw [c5b0]) | skip)
      by_cases c6 : a0 > 32
      · rw [if_pos c6] at H
        have c6b0 : decide (32 < a0) = true := decide_eq_true c6
        clear c6
        have H' := Aside0.mk H
        clear H
        go_wp2
        repeat (go_quiet (fail); try go_wp2)
        go_meet
        case rel => exact ⟨_, (true), (by first | rfl | (simp; done) | (simp [*]; done)), H', ⟨by first | omega | exact Nat.le_refl _⟩, by repeat (first | exact Drawn0.refl _ | apply Drawn0.step)⟩
      · rw [if_neg c6] at H
        have c6b0 : decide (32 < a0) = false := decide_eq_false c6
        clear c6
        by_cases c7 : (l1.length : Int) = (l2.length : Int)
        · rw [if_pos c7] at H
          have c7b0 : ((l1.length : Int) == (l2.length : Int)) = true := beq_iff_eq.mpr c7
          have c7b1 : ((l1.length : Int) != (l2.length : Int)) = false := bne_eq_false_iff_eq.mpr c7
          have c7b2 : (l1.length == l2.length) = true := by first | simpa using c7 | (simp at c7 ⊢; omega)
          clear c7
          have H' := Aside0.mk H
          clear H
          go_wp2
          repeat (go_quiet (fail); try go_wp2)
          go_meet
          case rel => exact ⟨_, (decide ((l1.length : Int) > 32)), (by first | rfl | (simp; done) | (simp [*]; done)), H', ⟨by first | omega | exact Nat.le_refl _⟩, by repeat (first | exact Drawn0.refl _ | apply Drawn0.step)⟩
        · rw [if_neg c7] at H
          have c7b0 : ((l1.length : Int) == (l2.length : Int)) = false := beq_eq_false_iff_ne.mpr c7
          have c7b1 : ((l1.length : Int) != (l2.length : Int)) = true := bne_iff_ne.mpr c7
          have c7b2 : (l1.length == l2.length) = false := by first | simpa using c7 | (simp at c7 ⊢; omega)
          have H' := Aside0.mk H
          clear H
          go_wp2
          repeat (go_quiet (fail); try go_wp2)
          go_meet
          case rel => exact ⟨_, (true), (by first | rfl | (simp; done) | (simp [*]; done)), H', ⟨by first | omega | exact Nat.le_refl _⟩, by repeat (first | exact Drawn0.refl _ | apply Drawn0.step)⟩
  case rest =>
    clear HC4
    (try clear c1); (try clear c2); (try clear p2); (try clear c4); (try clear c5); (try clear c5b0); (try clear c6); (try clear c6b0); (try clear c7); (try clear c7b0); (try clear c7b1); (try clear c7b2)
    obtain ⟨kq, x26_3, rfl, HA, HJ3, ⟨mc3, rfl⟩⟩ := hcut
    cases kq with
    | zero => exact absurd HA.out (by simp [seamarkref29_Given.j0])
    | succ kj3 =>
      have H := HA.out
      clear HA
      simp only [seamarkref29_Given.j0] at H
      by_cases c8 : x26_3 = true
      · subst c8
        have H1 : (some false) = some r := by rw [if_pos rfl] at H; exact H
        clear H
        have H := H1
        clear H1
        obtain rfl := Option.some.inj H
        go_wp2
        repeat (go_quiet (fail); try go_wp2)
        go_ret
        exact ⟨by first | rfl | (simp; done) | (simp [*]; done), by repeat (first | exact Drawn0.refl _ | apply Drawn0.step)⟩
      · replace c8 := Bool.eq_false_iff.mpr c8
        subst c8
        have H1 : (seamarkref29_Given.l0 kj3 l1 l2 0) = some r := by rw [if_neg (show ¬ (false = true) by decide)] at H; exact H
        clear H
        have H := H1
        clear H1
        have H' := Aside0.mk H
        clear H
        go_wp2
        repeat (go_quiet (fail); try go_wp2)
        go_loopg [7] kj3 (fun kq v7 w' => ∃ (x7_2 : Int), v7 = .int .i64 x7_2 ∧ Aside0 (seamarkref29_Given.l0 kq l1 l2 x7_2 = some r) ∧ Aside0 (kq ≤ kj3) ∧ Drawn0 w w')
        case atStart => exact ⟨(0), (by first | rfl | (simp; done) | (simp [*]; done)), H', ⟨Nat.le_refl _⟩, by repeat (first | exact Drawn0.refl _ | apply Drawn0.step)⟩
        case round =>
          clear H'
          (try clear c1); (try clear c2); (try clear p2); (try clear c3); (try clear c4); (try clear c5); (try clear c5b0); (try clear c6); (try clear c6b0); (try clear c7); (try clear c7b0); (try clear c7b1); (try clear c7b2); (try clear c8); (try clear p2)
          obtain ⟨x7_2, rfl, HA, HK2, ⟨m2, rfl⟩⟩ := hrel
          cases gk with
          | zero => exact absurd HA.out (by simp [seamarkref29_Given.l0])
          | succ k2 =>
            have H := HA.out
            clear HA
            simp only [seamarkref29_Given.l0] at H
            by_cases c9 : x7_2 < (l1.length : Int)
            · rw [if_pos c9] at H
              have c9b0 : decide (x7_2 < (l1.length : Int)) = true := decide_eq_true c9
              clear c9
              have HC10 := Aside0.mk H
              clear H
              go_upto_region 6 with (fail)
              repeat (go_quiet (fail); go_upto_region 6 with (fail))
              go_cut [64] (fun v64 wc => ∃ (kq : Nat) (x64_9 : Bool), v64 = .bool x64_9 ∧ Aside0 (seamarkref29_Given.j2 kq l1 l2 x7_2 x64_9 = some r) ∧ Aside0 (kq ≤ k2) ∧ Drawn0 w wc)
              case first =>
                have H := HC10.out
                clear HC10
                by_cases c11 : 0 ≤ x7_2
                · rw [if_pos c11] at H
                  have c11b0 : decide (0 ≤ x7_2) = true := decide_eq_true c11
                  clear c11
                  (first | rw [c11b0] | (simp only [i64_w, i32_w]; rw [c11b0]) | skip)
                  by_cases c12 : (rd l1 x7_2) < 0
                  · rw [if_pos c12] at H
                    have c12b0 : decide ((rd l1 x7_2) < 0) = true := decide_eq_true c12
                    clear c12
                    have H' := Aside0.mk H
                    clear H
                    have p481 : 0 ≤ (x7_2 : Int) := of_decide_eq_true (by first | (with_reducible assumption) | assumption)
                    have q481 : x7_2 < (l1.length : Int) := of_decide_eq_true (by first | (with_reducible assumption) | assumption)
                    obtain ⟨ad481, e481, hx481_0⟩ := Kd.at_int HR1.out x7_2 p481 q481
                    cases e481
                    replace p481 := eq_true p481
                    replace q481 := eq_true q481
                    go_wp2
                    repeat (go_quiet (fail); try go_wp2)
                    go_meet
                    case rel => exact ⟨_, (true), (by first | rfl | (simp; done) | (simp [*]; done)), H', ⟨by have := HJ3.out; have := HK2.out; first | omega | exact Nat.le_refl _⟩, by repeat (first | exact Drawn0.refl _ | apply Drawn0.step)⟩
                  · rw [if_neg c12] at H
                    have c12b0 : decide ((rd l1 x7_2) < 0) = false := decide_eq_false c12
                    clear c12
                    by_cases c13 : (rd l1 x7_2) ≥ 32
                    · rw [if_pos c13] at H
                      have c13b0 : decide (32 ≤ (rd l1 x7_2)) = true := decide_eq_true c13
                      clear c13
                      have H' := Aside0.mk H
                      clear H
                      have p481 : 0 ≤ (x7_2 : Int) := of_decide_eq_true (by first | (with_reducible assumption) | assumption)
                      have q481 : x7_2 < (l1.length : Int) := of_decide_eq_true (by first | (with_reducible assumption) | assumption)
                      obtain ⟨ad481, e481, hx481_0⟩ := Kd.at_int HR1.out x7_2 p481 q481
                      cases e481
                      replace p481 := eq_true p481
                      replace q481 := eq_true q481
                      have p482 : 0 ≤ (x7_2 : Int) := of_decide_eq_true (by first | (with_reducible assumption) | assumption)
                      have q482 : x7_2 < (l1.length : Int) := of_decide_eq_true (by first | (with_reducible assumption) | assumption)
                      obtain ⟨ad482, e482, hx482_0⟩ := Kd.at_int HR1.out x7_2 p482 q482
                      obtain rfl : ad481 = ad482 := (by injection e482)
                      replace p482 := eq_true p482
                      replace q482 := eq_true q482
                      go_wp2
                      repeat (go_quiet (fail); try go_wp2)
                      go_meet
                      case rel => exact ⟨_, (true), (by first | rfl | (simp; done) | (simp [*]; done)), H', ⟨by have := HJ3.out; have := HK2.out; first | omega | exact Nat.le_refl _⟩, by repeat (first | exact Drawn0.refl _ | apply Drawn0.step)⟩
                    · rw [if_neg c13] at H
                      have c13b0 : decide (32 ≤ (rd l1 x7_2)) = false := decide_eq_false c13
                      clear c13
                      by_cases c14 : x7_2 < (l2.length : Int)
                      · rw [if_pos c14] at H
                        have c14b0 : decide (x7_2 < (l2.length : Int)) = true := decide_eq_true c14
                        clear c14
                        by_cases c15 : 0 < (l2.length : Int)
                        · rw [if_pos c15] at H
                          have c15b0 : decide (0 < (l2.length : Int)) = true := decide_eq_true c15
                          have c15b1 : decide (0 < l2.length) = true := decide_eq_true (by omega)
                          clear c15
                          by_cases c16 : ((rd_L1 l2 x7_2).length : Int) = ((rd_L1 l2 0).length : Int)
                          · rw [if_pos c16] at H
                            have c16b0 : (((rd_L1 l2 x7_2).length : Int) == ((rd_L1 l2 0).length : Int)) = true := beq_iff_eq.mpr c16
                            have c16b1 : (((rd_L1 l2 x7_2).length : Int) != ((rd_L1 l2 0).length : Int)) = false := bne_eq_false_iff_eq.mpr c16
                            have c16b2 : ((rd_L1 l2 x7_2).length == (rd_L1 l2 0).length) = true := by first | simpa using c16 | (simp at c16 ⊢; omega)
                            clear c16
                            have H' := Aside0.mk H
                            clear H
                            have p481 : 0 ≤ (x7_2 : Int) := of_decide_eq_true (by first | (with_reducible assumption) | assumption)
                            have q481 : x7_2 < (l1.length : Int) := of_decide_eq_true (by first | (with_reducible assumption) | assumption)
                            obtain ⟨ad481, e481, hx481_0⟩ := Kd.at_int HR1.out x7_2 p481 q481
                            cases e481
                            replace p481 := eq_true p481
                            replace q481 := eq_true q481
                            have p482 : 0 ≤ (x7_2 : Int) := of_decide_eq_true (by first | (with_reducible assumption) | assumption)
                            have q482 : x7_2 < (l1.length : Int) := of_decide_eq_true (by first | (with_reducible assumption) | assumption)
                            obtain ⟨ad482, e482, hx482_0⟩ := Kd.at_int HR1.out x7_2 p482 q482
                            obtain rfl : ad481 = ad482 := (by injection e482)
                            replace p482 := eq_true p482
                            replace q482 := eq_true q482
                            have p483 : 0 ≤ (x7_2 : Int) := of_decide_eq_true (by first | (with_reducible assumption) | assumption)
                            have q483 : x7_2 < (l2.length : Int) := of_decide_eq_true (by first | (with_reducible assumption) | assumption)
                            obtain ⟨ad483, A483_0, c483_0, e483, hx483_0, hl483_0, hi483_0⟩ := at_L1 HR2.out x7_2 p483 q483
                            cases e483
                            have HR483_0 := Aside0.mk hi483_0
                            have HC483_0 := Aside0.mk hl483_0
                            clear hi483_0 hl483_0
                            replace p483 := eq_true p483
                            replace q483 := eq_true q483
                            have p484 : 0 ≤ (0 : Int) := (by omega)
                            have q484 : 0 < (l2.length : Int) := of_decide_eq_true (by first | (with_reducible assumption) | assumption)
                            obtain ⟨ad484, A484_0, c484_0, e484, hx484_0, hl484_0, hi484_0⟩ := at_L1 HR2.out 0 p484 q484
                            obtain rfl : ad483 = ad484 := (by injection e484)
                            have qi484 : (0 < l2.length) = True := eq_true (by omega)
                            (try rw [show ((0 : Int)).toNat = 0 from rfl] at hx484_0)
                            (try rw [Addr.add_zero'] at hx484_0)
                            have HR484_0 := Aside0.mk hi484_0
                            have HC484_0 := Aside0.mk hl484_0
                            clear hi484_0 hl484_0
                            replace p484 := eq_true p484
                            replace q484 := eq_true q484
                            have p485 : 0 ≤ (x7_2 : Int) := of_decide_eq_true (by first | (with_reducible assumption) | assumption)
                            have q485 : x7_2 < (l2.length : Int) := of_decide_eq_true (by first | (with_reducible assumption) | assumption)
                            obtain ⟨ad485, A485_0, c485_0, e485, hx485_0, hl485_0, hi485_0⟩ := at_L1 HR2.out x7_2 p485 q485
                            obtain rfl : ad483 = ad485 := (by injection e485)
                            have HR485_0 := Aside0.mk hi485_0
                            have HC485_0 := Aside0.mk hl485_0
                            clear hi485_0 hl485_0
                            replace p485 := eq_true p485
                            replace q485 := eq_true q485
                            have ea_ := Option.some.inj (hx483_0.symm.trans hx485_0)
                            injection ea_ with ea_ en_ ec_
                            subst ea_
                            subst ec_
                            clear en_
                            go_wp2
                            repeat (go_quiet (fail); try go_wp2)
                            go_meet
                            case rel => exact ⟨_, (decide (((rd_L1 l2 x7_2).length : Int) > 200)), (by first | rfl | (simp; done) | (simp [*]; done)), H', ⟨by have := HJ3.out; have := HK2.out; first | omega | exact Nat.le_refl _⟩, by repeat (first | exact Drawn0.refl _ | apply Drawn0.step)⟩
                          · rw [if_neg c16] at H
                            have c16b0 : (((rd_L1 l2 x7_2).length : Int) == ((rd_L1 l2 0).length : Int)) = false := beq_eq_false_iff_ne.mpr c16
                            have c16b1 : (((rd_L1 l2 x7_2).length : Int) != ((rd_L1 l2 0).length : Int)) = true := bne_iff_ne.mpr c16
                            have c16b2 : ((rd_L1 l2 x7_2).length == (rd_L1 l2 0).length) = false := by first | simpa using c16 | (simp at c16 ⊢; omega)
                            have H' := Aside0.mk H
                            clear H
                            have p481 : 0 ≤ (x7_2 : Int) := of_decide_eq_true (by first | (with_reducible assumption) | assumption)
                            have q481 : x7_2 < (l1.length : Int) := of_decide_eq_true (by first | (with_reducible assumption) | assumption)
                            obtain ⟨ad481, e481, hx481_0⟩ := Kd.at_int HR1.out x7_2 p481 q481
                            cases e481
                            replace p481 := eq_true p481
                            replace q481 := eq_true q481
                            have p482 : 0 ≤ (x7_2 : Int) := of_decide_eq_true (by first | (with_reducible assumption) | assumption)
                            have q482 : x7_2 < (l1.length : Int) := of_decide_eq_true (by first | (with_reducible assumption) | assumption)
                            obtain ⟨ad482, e482, hx482_0⟩ := Kd.at_int HR1.out x7_2 p482 q482
                            obtain rfl : ad481 = ad482 := (by injection e482)
                            replace p482 := eq_true p482
                            replace q482 := eq_true q482
                            have p483 : 0 ≤ (x7_2 : Int) := of_decide_eq_true (by first | (with_reducible assumption) | assumption)
                            have q483 : x7_2 < (l2.length : Int) := of_decide_eq_true (by first | (with_reducible assumption) | assumption)
                            obtain ⟨ad483, A483_0, c483_0, e483, hx483_0, hl483_0, hi483_0⟩ := at_L1 HR2.out x7_2 p483 q483
                            cases e483
                            have HR483_0 := Aside0.mk hi483_0
                            have HC483_0 := Aside0.mk hl483_0
                            clear hi483_0 hl483_0
                            replace p483 := eq_true p483
                            replace q483 := eq_true q483
                            have p484 : 0 ≤ (0 : Int) := (by omega)
                            have q484 : 0 < (l2.length : Int) := of_decide_eq_true (by first | (with_reducible assumption) | assumption)
                            obtain ⟨ad484, A484_0, c484_0, e484, hx484_0, hl484_0, hi484_0⟩ := at_L1 HR2.out 0 p484 q484
                            obtain rfl : ad483 = ad484 := (by injection e484)
                            have qi484 : (0 < l2.length) = True := eq_true (by omega)
                            (try rw [show ((0 : Int)).toNat = 0 from rfl] at hx484_0)
                            (try rw [Addr.add_zero'] at hx484_0)
                            have HR484_0 := Aside0.mk hi484_0
                            have HC484_0 := Aside0.mk hl484_0
                            clear hi484_0 hl484_0
                            replace p484 := eq_true p484
                            replace q484 := eq_true q484
                            go_wp2
                            repeat (go_quiet (fail); try go_wp2)
                            go_meet
                            case rel => exact ⟨_, (true), (by first | rfl | (simp; done) | (simp [*]; done)), H', ⟨by have := HJ3.out; have := HK2.out; first | omega | exact Nat.le_refl _⟩, by repeat (first | exact Drawn0.refl _ | apply Drawn0.step)⟩
                        · rw [if_neg c15] at H
                          exact absurd H (by simp)
                      · rw [if_neg c14] at H
                        exact absurd H (by simp)
                · rw [if_neg c11] at H
                  exact absurd H (by simp)
              case rest =>
                clear HC10
                (try clear c1); (try clear c2); (try clear p2); (try clear c3); (try clear c4); (try clear p4); (try clear q4); (try clear hx4); (try clear qi4); (try clear c5); (try clear c5b0); (try clear c6); (try clear c6b0); (try clear c7); (try clear c7b0); (try clear c7b1); (try clear c7b2); (try clear c8); (try clear c9); (try clear c9b0); (try clear c11); (try clear c11b0); (try clear c12); (try clear c12b0); (try clear c13); (try clear c13b0); (try clear c14); (try clear c14b0); (try clear c15); (try clear c15b0); (try clear c15b1); (try clear c16); (try clear c16b0); (try clear c16b1); (try clear c16b2); (try clear hx481_0); (try clear hx482_0); (try clear hx483_0); (try clear hx484_0); (try clear hx485_0); (try clear p2); (try clear p481); (try clear p482); (try clear p483); (try clear p484); (try clear p485); (try clear q481); (try clear q482); (try clear q483); (try clear q484); (try clear q485)
                obtain ⟨kq, x64_9, rfl, HA, HJ9, ⟨mc9, rfl⟩⟩ := hcut
                cases kq with
                | zero => exact absurd HA.out (by simp [seamarkref29_Given.j2])
                | succ kj9 =>
                  have H := HA.out
                  clear HA
                  simp only [seamarkref29_Given.j2] at H
                  by_cases c17 : x64_9 = true
                  · subst c17
                    have H1 : (some false) = some r := by rw [if_pos rfl] at H; exact H
                    clear H
                    have H := H1
                    clear H1
                    obtain rfl := Option.some.inj H
                    go_wp2
                    repeat (go_quiet (fail); try go_wp2)
                    go_ret
                    exact ⟨by first | rfl | (simp; done) | (simp [*]; done), by repeat (first | exact Drawn0.refl _ | apply Drawn0.step)⟩
                  · replace c17 := Bool.eq_false_iff.mpr c17
                    subst c17
                    have H1 : (seamarkref29_Given.l1 kj9 l1 l2 x7_2 0) = some r := by rw [if_neg (show ¬ (false = true) by decide)] at H; exact H
                    clear H
                    have H := H1
                    clear H1
                    have H' := Aside0.mk H
                    clear H
                    go_wp2
                    repeat (go_quiet (fail); try go_wp2)
                    go_loopg [8] kj9 (fun kq v8 w' => ∃ (x8_4 : Int), v8 = .int .i64 x8_4 ∧ Aside0 (seamarkref29_Given.l1 kq l1 l2 x7_2 x8_4 = some r) ∧ Aside0 (kq ≤ kj9) ∧ Drawn0 w w')
                    case atStart => exact ⟨(0), (by first | rfl | (simp; done) | (simp [*]; done)), H', ⟨Nat.le_refl _⟩, by repeat (first | exact Drawn0.refl _ | apply Drawn0.step)⟩
                    case round =>
                      clear H'
                      (try clear c1); (try clear c2); (try clear p2); (try clear c3); (try clear c4); (try clear p4); (try clear q4); (try clear hx4); (try clear qi4); (try clear c5); (try clear c5b0); (try clear c6); (try clear c6b0); (try clear c7); (try clear c7b0); (try clear c7b1); (try clear c7b2); (try clear c8); (try clear c9); (try clear c9b0); (try clear c11); (try clear c11b0); (try clear c12); (try clear c12b0); (try clear c13); (try clear c13b0); (try clear c14); (try clear c14b0); (try clear c15); (try clear c15b0); (try clear c15b1); (try clear c16); (try clear c16b0); (try clear c16b1); (try clear c16b2); (try clear c17); (try clear hx481_0); (try clear hx482_0); (try clear hx483_0); (try clear hx484_0); (try clear hx485_0); (try clear p2); (try clear p4); (try clear p481); (try clear p482); (try clear p483); (try clear p484); (try clear p485); (try clear q4); (try clear q481); (try clear q482); (try clear q483); (try clear q484); (try clear q485)
                      obtain ⟨x8_4, rfl, HA, HK4, ⟨m4, rfl⟩⟩ := hrel
                      cases gk with
                      | zero => exact absurd HA.out (by simp [seamarkref29_Given.l1])
                      | succ k4 =>
                        have H := HA.out
                        clear HA
                        simp only [seamarkref29_Given.l1] at H
                        by_cases c18 : x8_4 < x7_2
                        · rw [if_pos c18] at H
                          have c18b0 : decide (x8_4 < x7_2) = true := decide_eq_true c18
                          clear c18
                          by_cases c19 : 0 ≤ x8_4
                          · rw [if_pos c19] at H
                            have c19b0 : decide (0 ≤ x8_4) = true := decide_eq_true c19
                            clear c19
                            by_cases c20 : x8_4 < (l1.length : Int)
                            · rw [if_pos c20] at H
                              have c20b0 : decide (x8_4 < (l1.length : Int)) = true := decide_eq_true c20
                              clear c20
                              by_cases c21 : 0 ≤ x7_2
                              · rw [if_pos c21] at H
                                have c21b0 : decide (0 ≤ x7_2) = true := decide_eq_true c21
                                clear c21
                                by_cases c22 : x7_2 < (l1.length : Int)
                                · rw [if_pos c22] at H
                                  have c22b0 : decide (x7_2 < (l1.length : Int)) = true := decide_eq_true c22
                                  clear c22
                                  by_cases c23 : (rd l1 x8_4) = (rd l1 x7_2)
                                  · rw [if_pos c23] at H
                                    have c23b0 : ((rd l1 x8_4) == (rd l1 x7_2)) = true := beq_iff_eq.mpr c23
                                    have c23b1 : ((rd l1 x8_4) != (rd l1 x7_2)) = false := bne_eq_false_iff_eq.mpr c23
                                    clear c23
                                    obtain rfl := Option.some.inj H
                                    have p486 : 0 ≤ (x8_4 : Int) := of_decide_eq_true (by first | (with_reducible assumption) | assumption)
                                    have q486 : x8_4 < (l1.length : Int) := of_decide_eq_true (by first | (with_reducible assumption) | assumption)
                                    obtain ⟨ad486, e486, hx486_0⟩ := Kd.at_int HR1.out x8_4 p486 q486
                                    cases e486
                                    replace p486 := eq_true p486
                                    replace q486 := eq_true q486
                                    have p487 : 0 ≤ (x7_2 : Int) := of_decide_eq_true (by first | (with_reducible assumption) | assumption)
                                    have q487 : x7_2 < (l1.length : Int) := of_decide_eq_true (by first | (with_reducible assumption) | assumption)
                                    obtain ⟨ad487, e487, hx487_0⟩ := Kd.at_int HR1.out x7_2 p487 q487
                                    obtain rfl : ad486 = ad487 := (by injection e487)
                                    replace p487 := eq_true p487
                                    replace q487 := eq_true q487
                                    go_wp2
                                    repeat (go_quiet (fail); try go_wp2)
                                    go_ret
                                    exact ⟨by first | rfl | (simp; done) | (simp [*]; done), by repeat (first | exact Drawn0.refl _ | apply Drawn0.step)⟩
                                  · rw [if_neg c23] at H
                                    have c23b0 : ((rd l1 x8_4) == (rd l1 x7_2)) = false := beq_eq_false_iff_ne.mpr c23
                                    have c23b1 : ((rd l1 x8_4) != (rd l1 x7_2)) = true := bne_iff_ne.mpr c23
                                    have H' := Aside0.mk H
                                    clear H
                                    have p486 : 0 ≤ (x8_4 : Int) := of_decide_eq_true (by first | (with_reducible assumption) | assumption)
                                    have q486 : x8_4 < (l1.length : Int) := of_decide_eq_true (by first | (with_reducible assumption) | assumption)
                                    obtain ⟨ad486, e486, hx486_0⟩ := Kd.at_int HR1.out x8_4 p486 q486
                                    cases e486
                                    replace p486 := eq_true p486
                                    replace q486 := eq_true q486
                                    have p487 : 0 ≤ (x7_2 : Int) := of_decide_eq_true (by first | (with_reducible assumption) | assumption)
                                    have q487 : x7_2 < (l1.length : Int) := of_decide_eq_true (by first | (with_reducible assumption) | assumption)
                                    obtain ⟨ad487, e487, hx487_0⟩ := Kd.at_int HR1.out x7_2 p487 q487
                                    obtain rfl : ad486 = ad487 := (by injection e487)
                                    replace p487 := eq_true p487
                                    replace q487 := eq_true q487
                                    go_wp2
                                    repeat (go_quiet (fail); try go_wp2)
                                    go_roundg k4
                                    case measure => have := HJ3.out; have := HK2.out; have := HJ9.out; have := HK4.out; omega
                                    case rel => exact ⟨(wrap64 (x8_4 + 1)), (by first | rfl | (simp; done) | (simp [*]; done)), H', ⟨by have := HJ3.out; have := HK2.out; have := HJ9.out; have := HK4.out; omega⟩, by repeat (first | exact Drawn0.refl _ | apply Drawn0.step)⟩
                                · rw [if_neg c22] at H
                                  exact absurd H (by simp)
                              · rw [if_neg c21] at H
                                exact absurd H (by simp)
                            · rw [if_neg c20] at H
                              exact absurd H (by simp)
                          · rw [if_neg c19] at H
                            exact absurd H (by simp)
                        · rw [if_neg c18] at H
                          have c18b0 : decide (x8_4 < x7_2) = false := decide_eq_false c18
                          clear c18
                          have H' := Aside0.mk H
                          clear H
                          go_wp2
                          repeat (go_quiet (fail); try go_wp2)
                          go_roundg k4
                          case measure => have := HJ3.out; have := HK2.out; have := HJ9.out; have := HK4.out; omega
                          case rel => exact ⟨(wrap64 (x7_2 + 1)), (by first | rfl | (simp; done) | (simp [*]; done)), H', ⟨by have := HJ3.out; have := HK2.out; have := HJ9.out; have := HK4.out; omega⟩, by repeat (first | exact Drawn0.refl _ | apply Drawn0.step)⟩
            · rw [if_neg c9] at H
              have c9b0 : decide (x7_2 < (l1.length : Int)) = false := decide_eq_false c9
              clear c9
              obtain rfl := Option.some.inj H
              go_wp2
              repeat (go_quiet (fail); try go_wp2)
              go_ret
              exact ⟨by first | rfl | (simp; done) | (simp [*]; done), by repeat (first | exact Drawn0.refl _ | apply Drawn0.step)⟩

end Go.Proofs.Ytcjjohealloglaa.E
