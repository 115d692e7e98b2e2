-- by drive.py (this session's program: it runs print.py beside functions proved by hand). Lean checks it.
import Derived.Test.YtcjjohealloglaaEx0
import Derived.Test.YtcjjohealloglaaEx3
import Derived.Test.YtcjjohealloglaaEx6
import Derived.Test.YtcjjohealloglaaEx7
import Derived.Test.YtcjjohealloglaaEx8
import Derived.Test.YtcjjohealloglaaEx9
namespace Go.Proofs.Ytcjjohealloglaa.E
open Go.RowKit Go.Proofs.YtcjjohealloglaaW.PrintWords Go.Proofs.YtcjjohealloglaaW.PrintLast Go.Proofs.YtcjjohealloglaaW.PrintMore
attribute [local go_sem] max2_int min2_int max_two min_two max_three min_three max_four min_four   -- for this text's walks alone
set_option linter.unusedVariables false
set_option linter.unusedSimpArgs false

/-! ### seamarklaw29_ErasureBack: function 4 -/
def seamarklaw29_ErasureBack.j0 : Nat → List (List Int) → List Int → Bool → List (List Int) → Bool → Option (Bool)
  | 0, _, _, _, _, _ => none
  | k + 1, x0, x1, x5, x6, x27 => if x27 = true then (none) else ((seamarklaw29_chosen.f k (x0.length : Int) 32 x1).bind fun t298 => (if 0 < (x0.length : Int) then ((seamarklaw29_some.f k x6 t298).bind fun t302 => ((erasure_Decode.f k (x0.length : Int) ((rd_L1 x0 0).length : Int) t298 t302).bind fun bt305 => (if x5 = true then (if bt305.2 = 0 then ((seamarkref29_Same.f k bt305.1 x0).bind fun t309 => (some t309)) else (none)) else (none)))) else (none)))
def seamarklaw29_ErasureBack.f (k : Nat) (l0 : List (List Int)) (l1 : List Int) : Option (Bool) := (seamarklaw29_head.f k).bind fun t292 => ((seamarklaw29_few.f k l0).bind fun t293 => (if t293 = true then ((erasure_Code.f k l0 32).bind fun bt294 => (if bt294.2 = 0 then (seamarklaw29_ErasureBack.j0 k l0 l1 t292 bt294.1 ((bt294.1.length : Int) != 32)) else (seamarklaw29_ErasureBack.j0 k l0 l1 t292 bt294.1 true))) else (some t292)))
theorem seamarklaw29_ErasureBack.mono_l : ∀ k, (∀ y0 y1 y2 y3 y4, LeO (seamarklaw29_ErasureBack.j0 k y0 y1 y2 y3 y4) (seamarklaw29_ErasureBack.j0 (k + 1) y0 y1 y2 y3 y4))
  | 0 => fun _ _ _ _ _ r h => by simp [seamarklaw29_ErasureBack.j0] at h
  | k + 1 => by
    have ih0 := seamarklaw29_ErasureBack.mono_l k
    · intro y0 y1 y2 y3 y4
      unfold seamarklaw29_ErasureBack.j0
      repeat' first
      | (with_reducible exact ih0 _ _ _ _ _)
      | (with_reducible exact erasure_Code.mono _ _ _)
      | (with_reducible exact erasure_Decode.mono _ _ _ _ _)
      | (with_reducible exact seamarklaw29_chosen.mono _ _ _ _)
      | (with_reducible exact seamarklaw29_few.mono _ _)
      | (with_reducible exact seamarklaw29_head.mono _)
      | (with_reducible exact seamarklaw29_some.mono _ _ _)
      | (with_reducible exact seamarkref29_Same.mono _ _ _)
      | (with_reducible exact LeO.refl _)
      | (with_reducible exact LeO.none _)
      | (with_reducible refine LeO.ite ?_ ?_)
      | (with_reducible refine LeO.bind ?_ (fun _ => ?_))
      | exact ih0 _ _ _ _ _
      | exact erasure_Code.mono _ _ _
      | exact erasure_Decode.mono _ _ _ _ _
      | exact seamarklaw29_chosen.mono _ _ _ _
      | exact seamarklaw29_few.mono _ _
      | exact seamarklaw29_head.mono _
      | exact seamarklaw29_some.mono _ _ _
      | exact seamarkref29_Same.mono _ _ _
      | exact LeO.none _
      | refine LeO.ite ?_ ?_
      | refine LeO.bind ?_ (fun _ => ?_)
theorem seamarklaw29_ErasureBack.mono : ∀ a0 a1 k, LeO (seamarklaw29_ErasureBack.f k a0 a1) (seamarklaw29_ErasureBack.f (k + 1) a0 a1) := by
  intro a0 a1 k
  have ih0 := seamarklaw29_ErasureBack.mono_l k
  unfold seamarklaw29_ErasureBack.f
  repeat' first
      | (with_reducible exact ih0 _ _ _ _ _)
      | (with_reducible exact erasure_Code.mono _ _ _)
      | (with_reducible exact erasure_Decode.mono _ _ _ _ _)
      | (with_reducible exact seamarklaw29_chosen.mono _ _ _ _)
      | (with_reducible exact seamarklaw29_few.mono _ _)
      | (with_reducible exact seamarklaw29_head.mono _)
      | (with_reducible exact seamarklaw29_some.mono _ _ _)
      | (with_reducible exact seamarkref29_Same.mono _ _ _)
      | (with_reducible exact LeO.refl _)
      | (with_reducible exact LeO.none _)
      | (with_reducible refine LeO.ite ?_ ?_)
      | (with_reducible refine LeO.bind ?_ (fun _ => ?_))
      | exact ih0 _ _ _ _ _
      | exact erasure_Code.mono _ _ _
      | exact erasure_Decode.mono _ _ _ _ _
      | exact seamarklaw29_chosen.mono _ _ _ _
      | exact seamarklaw29_few.mono _ _
      | exact seamarklaw29_head.mono _
      | exact seamarklaw29_some.mono _ _ _
      | exact seamarkref29_Same.mono _ _ _
      | exact LeO.none _
      | refine LeO.ite ?_ ?_
      | refine LeO.bind ?_ (fun _ => ?_)
def seamarklaw29_ErasureBack.T8 : Bool × List (List Nat × List Nat) := (true, [([], []), ([0], [0]), ([], []), ([2], [2]), ([3], [3]), ([4], [4]), ([], []), ([], []), ([], []), ([7, 8], [7, 8]), ([1, 5, 6, 9, 9], [1, 5, 6, 9]), ([10], [10]), ([11], [11]), ([11], [11]), ([12, 10, 0, 1, 2, 3, 4, 5, 6, 7, 8, 9, 10, 11, 12], [12]), ([13, 14, 0, 1, 2, 3, 4, 5, 6, 7, 8, 9, 10, 11, 12, 13, 14], [13])])
def seamarklaw29_ErasureBack.B8 : List Nat := [0, 1, 0, 4, 12, 28, 0, 0, 0, 384, 1023, 2047, 4095, 4095, 8191, 32767]
theorem seamarklaw29_ErasureBack.tab8 : rtab .any (opsOf Try.f4 8) = seamarklaw29_ErasureBack.T8 := by kernel_rfl
theorem seamarklaw29_ErasureBack.bits8 : waitsOk seamarklaw29_ErasureBack.T8.2 seamarklaw29_ErasureBack.B8 = true := by kernel_rfl
set_option maxHeartbeats 8000000 in
set_option maxRecDepth 100000 in
theorem seamarklaw29_ErasureBack.calls (k : Nat) (A0 : Option Addr) (c0 : Nat) (l0 : List (List Int)) (A1 : Option Addr) (c1 : Nat) (l1 : List Int) (r : Bool) (w : World) (hr0 : Kd.C (Kd.slice 5 (Kd.int .u8)) w A0 l0.length l0) (hc0 : l0.length ≤ c0) (hr1 : Kd.C (Kd.int .u8) w A1 l1.length l1) (hc1 : l1.length ≤ c1) (h : seamarklaw29_ErasureBack.f k l0 l1 = some r) :
    Calls Try.prog 4 #[.slice A0 l0.length c0, .slice A1 l1.length c1] w fun e w' => e = .returned (.bool r) ∧ Below w.heap.size w w' := by
  have HR0 := Aside0.mk hr0
  have HC0 := Aside0.mk hc0
  clear hr0 hc0
  have HR1 := Aside0.mk hr1
  have HC1 := Aside0.mk hc1
  clear hr1 hc1
  have HB := Aside0.mk (Below.refl w.heap.size w)
  have H : ((seamarklaw29_head.f k).bind fun t292 => ((seamarklaw29_few.f k l0).bind fun t293 => (if t293 = true then ((erasure_Code.f k l0 32).bind fun bt294 => (if bt294.2 = 0 then (seamarklaw29_ErasureBack.j0 k l0 l1 t292 bt294.1 ((bt294.1.length : Int) != 32)) else (seamarklaw29_ErasureBack.j0 k l0 l1 t292 bt294.1 true))) else (some t292)))) = some r := h
  clear h
  replace H := Option.bind_eq_some_iff.mp H
  obtain ⟨t292, A30, H⟩ := H
  replace H : ((seamarklaw29_few.f k l0).bind fun t293 => (if t293 = true then ((erasure_Code.f k l0 32).bind fun bt294 => (if bt294.2 = 0 then (seamarklaw29_ErasureBack.j0 k l0 l1 t292 bt294.1 ((bt294.1.length : Int) != 32)) else (seamarklaw29_ErasureBack.j0 k l0 l1 t292 bt294.1 true))) else (some t292))) = some r := H
  have A3 := Aside0.mk A30
  clear A30
  replace H := Option.bind_eq_some_iff.mp H
  obtain ⟨t293, A40, H⟩ := H
  replace H : (if t293 = true then ((erasure_Code.f k l0 32).bind fun bt294 => (if bt294.2 = 0 then (seamarklaw29_ErasureBack.j0 k l0 l1 t292 bt294.1 ((bt294.1.length : Int) != 32)) else (seamarklaw29_ErasureBack.j0 k l0 l1 t292 bt294.1 true))) else (some t292)) = some r := H
  have A4 := Aside0.mk A40
  clear A40
  by_cases c5 : t293 = true
  · subst c5
    have H1 : ((erasure_Code.f k l0 32).bind fun bt294 => (if bt294.2 = 0 then (seamarklaw29_ErasureBack.j0 k l0 l1 t292 bt294.1 ((bt294.1.length : Int) != 32)) else (seamarklaw29_ErasureBack.j0 k l0 l1 t292 bt294.1 true))) = some r := by rw [if_pos rfl] at H; exact H
    clear H
    have H := H1
    clear H1
    replace H := Option.bind_eq_some_iff.mp H
    obtain ⟨⟨t294, t295⟩, A60, H⟩ := H
    replace H : (if t295 = 0 then (seamarklaw29_ErasureBack.j0 k l0 l1 t292 t294 ((t294.length : Int) != 32)) else (seamarklaw29_ErasureBack.j0 k l0 l1 t292 t294 true)) = some r := H
    have A6 := Aside0.mk A60
    clear A60
    have HC7 := Aside0.mk H
    clear H
    go_enter Try.func4, Try.ntmps4
    go_upto_region 5 with (first | ((with_reducible refine gate_callee (f := 11) rfl ?_); refine goesL_ (some 11) rfl rfl Try.func11 (by kernel_rfl) rfl #[] rfl (by (try simp only [List.map_toArray, List.map_cons, List.map_nil]); first | done | rfl | (simp only [List.length_drop, List.length_take]; rfl)) ?_; (with_reducible refine (seamarklaw29_head.calls k  t292 _ A3.out).mono ?_); rintro e w8 ⟨rfl, hb⟩; refine ⟨_, rfl, ?_⟩; have n0_ := Aside0.mk (below_step (by repeat (first | (with_reducible first | exact HB.out | apply below_alloc | apply pw_below_drewN | apply below_drew1) | exact HB.out)) hb); clear HB; have HB := n0_; clear n0_; (try clear hb); (try clear hb2); (try clear hk); (try clear hi)) | ((with_reducible refine gate_callee (f := 14) rfl ?_); refine goesL_ (some 13) rfl rfl Try.func14 (by kernel_rfl) rfl #[.slice A0 l0.length c0] rfl (by (try simp only [List.map_toArray, List.map_cons, List.map_nil]); first | done | rfl | (simp only [List.length_drop, List.length_take]; rfl)) ?_; (with_reducible refine (seamarklaw29_few.calls k _ _ l0 true _ ?side1 ?side2 A4.out).mono ?_); (case side1 => repeat (first | exact (Kd.C_below HR0.out HB.out) | (with_reducible refine Kd.C_alloc ?_ _) | (with_reducible refine Kd.C_drewN ?_ _) | (with_reducible refine Kd.C_drew ?_))); (case side2 => exact HC0.out); rintro e w' ⟨rfl, ⟨nd, rfl⟩⟩; refine ⟨_, rfl, ?_⟩) | ((with_reducible refine gate_callee (f := 15) rfl ?_); refine goesL_ (some 18) rfl rfl Try.func15 (by kernel_rfl) rfl #[.slice A0 l0.length c0, .int .i64 32] rfl (by (try simp only [List.map_toArray, List.map_cons, List.map_nil]); first | done | rfl | (simp only [List.length_drop, List.length_take]; rfl)) ?_; (with_reducible refine (erasure_Code.calls k _ _ l0 32 t294 t295 _ ?side1 ?side2 A6.out).mono ?_); (case side1 => repeat (first | exact (Kd.C_below HR0.out (by repeat (first | (with_reducible first | exact HB.out | apply below_alloc | apply pw_below_drewN | apply below_drew1) | exact HB.out))) | (with_reducible refine Kd.C_alloc ?_ _) | (with_reducible refine Kd.C_drewN ?_ _) | (with_reducible refine Kd.C_drew ?_))); (case side2 => exact HC0.out); rintro e w9 ⟨v296, rfl, ho0, hb⟩; refine ⟨_, rfl, ?_⟩; have n0_ := Aside0.mk (Kd.N_lower (Kd.N_mono (ok' := fun k_ => True) (Kd.S_N (Kd.S_bound ho0)) (fun k_ hk_ => trivial)) (below_size (by repeat (first | (with_reducible first | exact HB.out | apply below_alloc | apply pw_below_drewN | apply below_drew1) | exact HB.out)))); have n1_ := Aside0.mk (below_step (by repeat (first | (with_reducible first | exact HB.out | apply below_alloc | apply pw_below_drewN | apply below_drew1) | exact HB.out)) hb); clear HB; have HO297 := n0_; have HB := n1_; clear n0_ n1_; (try clear hb); (try clear hb2); (try clear hk); (try clear hi); (try clear ho0)))
    (try simp only [Act.put, List.setIfInBounds_toArray, List.set_cons_zero, List.set_cons_succ])
    go_cut [27] (fun v27 wc => ∃ (kq : Nat) (x27_6 : Bool), v27 = .bool x27_6 ∧ Aside0 (seamarklaw29_ErasureBack.j0 kq l0 l1 t292 t294 x27_6 = some r) ∧ Aside0 (kq ≤ k) ∧ Aside0 (Kd.N (Kd.slice 5 (Kd.int .u8)) 29 wc w.heap.size (fun _ => True) v296 t294) ∧ Aside0 (Below w.heap.size w wc))
    case first =>
      have H := HC7.out
      clear HC7
      by_cases c10 : t295 = 0
      · rw [if_pos c10] at H
        have c10b0 : (t295 == 0) = true := beq_iff_eq.mpr c10
        have c10b1 : (t295 != 0) = false := bne_eq_false_iff_eq.mpr c10
        clear c10
        (first | rw [c10b0] | (simp only [i64_w, i32_w]; rw [c10b0]) | skip)
        have H' := Aside0.mk H
        clear H
        obtain ⟨Ao11, co11, eo11⟩ := Kd.N_slice HO297.out
        subst eo11
        go_wp2
        go_meet
        case rel => exact ⟨_, (((t294.length : Int) != 32)), (by first | rfl | (simp; done) | (simp [*]; done)), H', ⟨by first | omega | exact Nat.le_refl _⟩, ⟨by (with_reducible repeat (first | apply Kd.N_alloc | apply Kd.N_drewN | apply Kd.N_drew)); exact HO297.out⟩, ⟨by repeat (first | (with_reducible first | exact HB.out | apply below_alloc | apply pw_below_drewN | apply below_drew1) | exact HB.out)⟩⟩
      · rw [if_neg c10] at H
        have c10b0 : (t295 == 0) = false := beq_eq_false_iff_ne.mpr c10
        have c10b1 : (t295 != 0) = true := bne_iff_ne.mpr c10
        (first | rw [c10b0] | (simp only [i64_w, i32_w]; rw [c10b0]) | skip)
        have H' := Aside0.mk H
        clear H
        go_wp2
        go_meet
        case rel => exact ⟨_, (true), (by first | rfl | (simp; done) | (simp [*]; done)), H', ⟨by first | omega | exact Nat.le_refl _⟩, ⟨by (with_reducible repeat (first | apply Kd.N_alloc | apply Kd.N_drewN | apply Kd.N_drew)); exact HO297.out⟩, ⟨by repeat (first | (with_reducible first | exact HB.out | apply below_alloc | apply pw_below_drewN | apply below_drew1) | exact HB.out)⟩⟩
    case rest =>
      clear HC7
      (try clear c1); (try clear p2); (try clear c4); (try clear c5); (try clear c10); (try clear c10b0); (try clear c10b1); (try clear c11)
      obtain ⟨kq, x27_6, rfl, HA, HJ6, HO_6, HB⟩ := hcut
      cases kq with
      | zero => exact absurd HA.out (by simp [seamarklaw29_ErasureBack.j0])
      | succ kj6 =>
        have H := HA.out
        clear HA
        simp only [seamarklaw29_ErasureBack.j0] at H
        by_cases c12 : x27_6 = true
        · subst c12
          have H1 : (none) = some r := by rw [if_pos rfl] at H; exact H
          clear H
          have H := H1
          clear H1
          exact absurd H (by simp)
        · replace c12 := Bool.eq_false_iff.mpr c12
          subst c12
          have H1 : ((seamarklaw29_chosen.f kj6 (l0.length : Int) 32 l1).bind fun t298 => (if 0 < (l0.length : Int) then ((seamarklaw29_some.f kj6 t294 t298).bind fun t302 => ((erasure_Decode.f kj6 (l0.length : Int) ((rd_L1 l0 0).length : Int) t298 t302).bind fun bt305 => (if t292 = true then (if bt305.2 = 0 then ((seamarkref29_Same.f kj6 bt305.1 l0).bind fun t309 => (some t309)) else (none)) else (none)))) else (none))) = some r := by rw [if_neg (show ¬ (false = true) by decide)] at H; exact H
          clear H
          have H := H1
          clear H1
          replace H := Option.bind_eq_some_iff.mp H
          obtain ⟨t298, A130, H⟩ := H
          replace H : (if 0 < (l0.length : Int) then ((seamarklaw29_some.f kj6 t294 t298).bind fun t302 => ((erasure_Decode.f kj6 (l0.length : Int) ((rd_L1 l0 0).length : Int) t298 t302).bind fun bt305 => (if t292 = true then (if bt305.2 = 0 then ((seamarkref29_Same.f kj6 bt305.1 l0).bind fun t309 => (some t309)) else (none)) else (none)))) else (none)) = some r := H
          have A13 := Aside0.mk A130
          clear A130
          by_cases c14 : 0 < (l0.length : Int)
          · rw [if_pos c14] at H
            have c14b0 : decide (0 < (l0.length : Int)) = true := decide_eq_true c14
            have c14b1 : decide (0 < l0.length) = true := decide_eq_true (by omega)
            clear c14
            replace H := Option.bind_eq_some_iff.mp H
            obtain ⟨t302, A150, H⟩ := H
            replace H : ((erasure_Decode.f kj6 (l0.length : Int) ((rd_L1 l0 0).length : Int) t298 t302).bind fun bt305 => (if t292 = true then (if bt305.2 = 0 then ((seamarkref29_Same.f kj6 bt305.1 l0).bind fun t309 => (some t309)) else (none)) else (none))) = some r := H
            have A15 := Aside0.mk A150
            clear A150
            replace H := Option.bind_eq_some_iff.mp H
            obtain ⟨⟨t305, t306⟩, A160, H⟩ := H
            replace H : (if t292 = true then (if t306 = 0 then ((seamarkref29_Same.f kj6 t305 l0).bind fun t309 => (some t309)) else (none)) else (none)) = some r := H
            have A16 := Aside0.mk A160
            clear A160
            by_cases c17 : t292 = true
            · subst c17
              have H1 : (if t306 = 0 then ((seamarkref29_Same.f kj6 t305 l0).bind fun t309 => (some t309)) else (none)) = some r := by rw [if_pos rfl] at H; exact H
              clear H
              have H := H1
              clear H1
              by_cases c18 : t306 = 0
              · rw [if_pos c18] at H
                have c18b0 : (t306 == 0) = true := beq_iff_eq.mpr c18
                have c18b1 : (t306 != 0) = false := bne_eq_false_iff_eq.mpr c18
                clear c18
                replace H := Option.bind_eq_some_iff.mp H
                obtain ⟨t309, A190, H⟩ := H
                replace H : (some t309) = some r := H
                have A19 := Aside0.mk A190
                clear A190
                obtain rfl := Option.some.inj H
                try go_wp2_with (first | ((with_reducible refine gate_callee (f := 16) rfl ?_); refine goesL_ (some 31) rfl rfl Try.func16 (by kernel_rfl) rfl #[.int .i64 (l0.length : Int), .int .i64 32, .slice A1 l1.length c1] rfl (by (try simp only [List.map_toArray, List.map_cons, List.map_nil]); first | done | rfl | (simp only [List.length_drop, List.length_take]; rfl)) ?_; (with_reducible refine (seamarklaw29_chosen.calls kj6 (l0.length : Int) 32 _ _ l1 t298 _ ?side1 ?side2 A13.out).mono ?_); (case side1 => repeat (first | exact (Kd.C_below HR1.out HB.out) | (with_reducible refine Kd.C_alloc ?_ _) | (with_reducible refine Kd.C_drewN ?_ _) | (with_reducible refine Kd.C_drew ?_))); (case side2 => exact HC1.out); rintro e w20 ⟨v299, rfl, ho0, hb⟩; refine ⟨_, rfl, ?_⟩; have n0_ := Aside0.mk (Kd.N_elder' (by (with_reducible repeat (first | apply Kd.N_alloc | apply Kd.N_drewN | apply Kd.N_drew)); exact HO_6.out) (Kd.R_base ho0) hb); have n1_ := Aside0.mk (Kd.R_lower ho0 (below_size (by repeat (first | (with_reducible first | exact HB.out | apply below_alloc | apply pw_below_drewN | apply below_drew1) | exact HB.out)))); have n2_ := Aside0.mk (below_step (by repeat (first | (with_reducible first | exact HB.out | apply below_alloc | apply pw_below_drewN | apply below_drew1) | exact HB.out)) hb); clear HO_6; clear HB; have HO_6 := n0_; have HO300 := n1_; have HB := n2_; clear n0_ n1_ n2_; (try clear hb); (try clear hb2); (try clear hk); (try clear hi); (try clear ho0)))
                have n0_ := Aside0.mk (Kd.N_drew HO_6.out)
                have n1_ := Aside0.mk (Kd.R_drew HO300.out)
                have n2_ := Aside0.mk (below_drew1 HB.out)
                clear HO_6
                clear HO300
                clear HB
                have HO_6 := n0_
                have HO300 := n1_
                have HB := n2_
                clear n0_ n1_ n2_
                have p301 : 0 ≤ (0 : Int) := (by omega)
                have q301 : 0 < (l0.length : Int) := of_decide_eq_true (by first | (with_reducible assumption) | assumption)
                obtain ⟨ad301, A301_0, c301_0, e301, hx301_0, hl301_0, hi301_0⟩ := at_L1 HR0.out 0 p301 q301
                have hw301_0 := hx301_0
                (try rw [show ((0 : Int)).toNat = 0 from rfl] at hw301_0)
                (try rw [show 0 * 1 = 0 from rfl] at hw301_0)
                (try rw [Addr.add_zero'] at hw301_0)
                cases e301
                have qi301 : (0 < l0.length) = True := eq_true (by omega)
                (try rw [show ((0 : Int)).toNat = 0 from rfl] at hx301_0)
                (try rw [Addr.add_zero'] at hx301_0)
                replace hx301_0 := (HB.out.cell (World.block_lt_of_cell? w _ hx301_0)).trans hx301_0
                have HR301_0 := Aside0.mk hi301_0
                have HC301_0 := Aside0.mk hl301_0
                clear hi301_0 hl301_0
                replace p301 := eq_true p301
                replace q301 := eq_true q301
                obtain ⟨Ao22, co22, eo22⟩ := Kd.N_slice HO_6.out
                (first | subst eo22 | (injection eo22 with f1_ f2_ f3_; have f4_ := f1_.symm; have f5_ := f3_.symm; clear f1_ f2_ f3_; subst f4_; subst f5_))
                obtain ⟨Ao23, co23, eo23⟩ := Kd.R_slice HO300.out
                (first | subst eo23 | (injection eo23 with f1_ f2_ f3_; have f4_ := f1_.symm; have f5_ := f3_.symm; clear f1_ f2_ f3_; subst f4_; subst f5_))
                refine start_ (n := 16) (S := fun w' => w'.cell? ad301 = some (.slice A301_0 (rd_L1 l0 0).length c301_0)) (ds := []) #[false, false, false, false, false, false, false, false, false, false, false, false, false, false, false, false] (by kernel_rfl) rfl rfl (((HB.out.cell (World.block_lt_of_cell? w _ hw301_0)).trans hw301_0)) (fun hHeld => ?_); refine with_tabW seamarklaw29_ErasureBack.tab8 seamarklaw29_ErasureBack.bits8 (fun HT_ HW_ => ?_)
                generalize w20.drew = w21 at HO_6 HO300 HB HR301_0 hx301_0 hHeld ⊢
                refine pure_ (i := 0) (N := some 33) (v := ?_) (a' := ?_) #[true, false, false, false, false, false, false, false, false, false, false, false, false, false, false, false] rfl rfl (any_of HT_.out (by kernel_rfl)) (fun _ _ _ h => h) (Or.inl ⟨by rfl, ?_⟩) ?_ ?_
                rotate_left
                · intro w'
                  go_simp
                  with_reducible rfl
                rotate_left
                · simp only [Act.put, List.setIfInBounds_toArray, List.set_cons_zero, List.set_cons_succ, i64_w, i32_w]
                  rfl
                refine pure_ (i := 1) (N := some 34) (v := ?_) (a' := ?_) #[true, true, false, false, false, false, false, false, false, false, false, false, false, false, false, false] rfl rfl (any_of HT_.out (by kernel_rfl)) (fun _ _ _ h => h) (Or.inl ⟨by rfl, ?_⟩) ?_ ?_
                rotate_left
                · intro w'
                  go_simp
                  with_reducible rfl
                rotate_left
                · simp only [Act.put, List.setIfInBounds_toArray, List.set_cons_zero, List.set_cons_succ, i64_w, i32_w]
                  rfl
                refine pure_ (i := 2) (N := some 35) (v := ?_) (a' := ?_) #[true, true, true, false, false, false, false, false, false, false, false, false, false, false, false, false] rfl rfl (any_of HT_.out (by kernel_rfl)) (fun _ _ _ h => h) (Or.inl ⟨by rfl, ?_⟩) ?_ ?_
                rotate_left
                · intro w'
                  go_simp
                  with_reducible rfl
                rotate_left
                · simp only [Act.put, List.setIfInBounds_toArray, List.set_cons_zero, List.set_cons_succ, i64_w, i32_w]
                  rfl
                refine pure_ (i := 3) (N := some 36) (v := ?_) (a' := ?_) #[true, true, true, true, false, false, false, false, false, false, false, false, false, false, false, false] rfl rfl (any_of HT_.out (by kernel_rfl)) (fun _ _ _ h => h) (Or.inl ⟨by rfl, ?_⟩) ?_ ?_
                rotate_left
                · intro w'
                  go_simp
                  with_reducible rfl
                rotate_left
                · simp only [Act.put, List.setIfInBounds_toArray, List.set_cons_zero, List.set_cons_succ, i64_w, i32_w]
                  rfl
                refine pure_ (i := 6) (N := some 39) (v := ?_) (a' := ?_) #[true, true, true, true, false, false, true, false, false, false, false, false, false, false, false, false] rfl rfl (any_of HT_.out (by kernel_rfl)) (fun _ _ _ h => h) (Or.inl ⟨by rfl, ?_⟩) ?_ ?_
                rotate_left
                · intro w'
                  go_simp
                  with_reducible rfl
                rotate_left
                · simp only [Act.put, List.setIfInBounds_toArray, List.set_cons_zero, List.set_cons_succ, i64_w, i32_w]
                  rfl
                refine pure_ (i := 7) (N := some 40) (v := ?_) (a' := ?_) #[true, true, true, true, false, false, true, true, false, false, false, false, false, false, false, false] rfl rfl (any_of HT_.out (by kernel_rfl)) (fun _ _ _ h => h) (Or.inl ⟨by rfl, ?_⟩) ?_ ?_
                rotate_left
                · intro w'
                  go_simp
                  with_reducible rfl
                rotate_left
                · simp only [Act.put, List.setIfInBounds_toArray, List.set_cons_zero, List.set_cons_succ, i64_w, i32_w]
                  rfl
                refine pure_ (i := 8) (N := some 41) (v := ?_) (a' := ?_) #[true, true, true, true, false, false, true, true, true, false, false, false, false, false, false, false] rfl rfl (any_of HT_.out (by kernel_rfl)) (fun _ _ _ h => h) (Or.inl ⟨by rfl, ?_⟩) ?_ ?_
                rotate_left
                · intro w'
                  go_simp
                  with_reducible rfl
                rotate_left
                · simp only [Act.put, List.setIfInBounds_toArray, List.set_cons_zero, List.set_cons_succ, i64_w, i32_w]
                  rfl
                refine take_ (i := 4) (N := some 37) (v := ?_) (a' := ?_) #[true, true, true, true, true, false, true, true, true, false, false, false, false, false, false, false] rfl rfl (take_ofW HT_.out HW_.out (by kernel_rfl)) (fun _ _ _ h => h) (Or.inl ⟨by rfl, ?_⟩) hHeld ?_ ?_
                rotate_left
                · intro w' s0
                  go_simp
                  with_reducible rfl
                rotate_left
                · simp only [Act.put, List.setIfInBounds_toArray, List.set_cons_zero, List.set_cons_succ, i64_w, i32_w]
                  rfl
                refine pure_ (i := 5) (N := some 38) (v := ?_) (a' := ?_) #[true, true, true, true, true, true, true, true, true, false, false, false, false, false, false, false] rfl rfl (any_of HT_.out (by kernel_rfl)) (fun _ _ _ h => h) (Or.inl ⟨by rfl, ?_⟩) ?_ ?_
                rotate_left
                · intro w'
                  go_simp
                  with_reducible rfl
                rotate_left
                · simp only [Act.put, List.setIfInBounds_toArray, List.set_cons_zero, List.set_cons_succ, i64_w, i32_w]
                  rfl
                refine one_ (i := 9) (N := some 42) #[true, true, true, true, true, true, true, true, true, true, false, false, false, false, false, false] rfl rfl (one_of HT_.out (by kernel_rfl)) (by decide) (fun K hK => ?_)
                refine goes_ Try.func18 (by kernel_rfl) rfl #[.slice Ao22 t294.length co22, .slice Ao23 t298.length co23] (by rfl) rfl rfl (by (try simp only [List.map_toArray, List.map_cons, List.map_nil]); first | done | rfl | (simp only [List.length_drop, List.length_take]; rfl)) ?_
                with_reducible refine (seamarklaw29_some.calls kj6 (fun k_ => (True ∧ some k_ ≠ (.slice Ao23 t298.length co23 : Value).ownBlock)) _ _ t294 _ _ t298 t302 _ ?side1 ?side2 ?side3 A15.out).mono ?_
                (case side1 => exact Kd.N_V (HO_6.out))
                (case side2 => repeat (first | exact (Kd.R_reads' HO300.out).2.2 | (with_reducible refine Kd.C_alloc ?_ _) | (with_reducible refine Kd.C_drewN ?_ _) | (with_reducible refine Kd.C_drew ?_)))
                (case side3 => exact (Kd.R_reads' HO300.out).2.1)
                rintro e w24 ⟨v303, rfl, ho0, hb⟩
                refine ⟨_, rfl, ?_⟩
                have n0_ := Aside0.mk (Kd.N_elder' (by (with_reducible repeat (first | apply Kd.N_alloc | apply Kd.N_drewN | apply Kd.N_drew)); exact HO_6.out) (by first | exact Kd.N_base ho0 | exact Kd.S_base ho0 | exact Kd.R_base ho0) hb)
                have n1_ := Aside0.mk (Kd.R_below (by (with_reducible repeat (first | apply Kd.R_alloc | apply Kd.R_drewN | apply Kd.R_drew)); exact HO300.out) hb)
                have n2_ := Aside0.mk (Kd.N_lower (Kd.N_mono (ok' := fun k_ => some k_ ≠ (.slice Ao23 t298.length co23 : Value).ownBlock) ho0 (fun k_ hk_ => Or.elim hk_ (fun hs_ => hs_.2) (fun hn_ => (Kd.fresh' (Kd.R_lt (by (with_reducible repeat (first | apply Kd.R_alloc | apply Kd.R_drewN | apply Kd.R_drew)); exact HO300.out)) k_ hn_)))) (below_size (by repeat (first | (with_reducible first | exact HB.out | apply below_alloc | apply pw_below_drewN | apply below_drew1) | exact HB.out))))
                have n3_ := Aside0.mk (below_step (by repeat (first | (with_reducible first | exact HB.out | apply below_alloc | apply pw_below_drewN | apply below_drew1) | exact HB.out)) hb)
                clear HO_6
                clear HO300
                clear HB
                have HO_6 := n0_
                have HO300 := n1_
                have HO304 := n2_
                have HB := n3_
                clear n0_ n1_ n2_ n3_
                (try clear hb)
                (try clear hb2)
                (try clear hk)
                (try clear hi)
                (try clear ho0)
                obtain ⟨Ao25, co25, eo25⟩ := Kd.N_slice HO304.out
                (first | subst eo25 | (injection eo25 with f1_ f2_ f3_; have f4_ := f1_.symm; have f5_ := f3_.symm; clear f1_ f2_ f3_; subst f4_; subst f5_))
                refine hK.out _ _ (((HB.out.cell (World.block_lt_of_cell? w _ hw301_0)).trans hw301_0)) (fun hHeld => ?_)
                clear hK K
                refine norm_ (a' := ?_) ?_ ?_
                rotate_left
                · show Act.put _ (some 42) _ = _
                  simp only [Act.put, List.setIfInBounds_toArray, List.set_cons_zero, List.set_cons_succ, i64_w, i32_w]
                  rfl
                refine one_ (i := 10) (N := some 43) #[true, true, true, true, true, true, true, true, true, true, true, false, false, false, false, false] rfl rfl (one_of HT_.out (by kernel_rfl)) (by decide) (fun K hK => ?_)
                refine goes_ Try.func17 (by kernel_rfl) rfl #[.int .i64 (l0.length : Int), .int .i64 ((rd_L1 l0 0).length : Int), .slice Ao23 t298.length co23, .slice Ao25 t302.length co25] (by rfl) rfl rfl (by (try simp only [List.map_toArray, List.map_cons, List.map_nil]); first | done | rfl | (simp only [List.length_drop, List.length_take]; rfl)) ?_
                with_reducible refine (erasure_Decode.calls kj6 (l0.length : Int) ((rd_L1 l0 0).length : Int) _ _ t298 _ _ t302 t305 t306 _ ?side1 ?side2 ?side3 ?side4 A16.out).mono ?_
                (case side1 => repeat (first | exact (Kd.R_reads' HO300.out).2.2 | (with_reducible refine Kd.C_alloc ?_ _) | (with_reducible refine Kd.C_drewN ?_ _) | (with_reducible refine Kd.C_drew ?_)))
                (case side2 => exact (Kd.R_reads' HO300.out).2.1)
                (case side3 => repeat (first | exact (Kd.N_reads' HO304.out).2.2 | (with_reducible refine Kd.C_alloc ?_ _) | (with_reducible refine Kd.C_drewN ?_ _) | (with_reducible refine Kd.C_drew ?_)))
                (case side4 => exact (Kd.N_reads' HO304.out).2.1)
                rintro e w26 ⟨v307, rfl, ho0, hb⟩
                refine ⟨_, rfl, ?_⟩
                have n0_ := Aside0.mk (Kd.N_elder' (by (with_reducible repeat (first | apply Kd.N_alloc | apply Kd.N_drewN | apply Kd.N_drew)); exact HO_6.out) (by first | exact Kd.N_base ho0 | exact Kd.S_base ho0 | exact Kd.R_base ho0) hb)
                have n1_ := Aside0.mk (Kd.R_below (by (with_reducible repeat (first | apply Kd.R_alloc | apply Kd.R_drewN | apply Kd.R_drew)); exact HO300.out) hb)
                have n2_ := Aside0.mk (Kd.N_elder' (by (with_reducible repeat (first | apply Kd.N_alloc | apply Kd.N_drewN | apply Kd.N_drew)); exact HO304.out) (by first | exact Kd.N_base ho0 | exact Kd.S_base ho0 | exact Kd.R_base ho0) hb)
                have n3_ := Aside0.mk (Kd.N_lower (Kd.N_mono (ok' := fun k_ => some k_ ≠ (.slice Ao22 t294.length co22 : Value).ownBlock ∧ some k_ ≠ (.slice Ao23 t298.length co23 : Value).ownBlock ∧ some k_ ≠ (.slice Ao25 t302.length co25 : Value).ownBlock) (Kd.S_N (Kd.S_bound ho0)) (fun k_ hk_ => ⟨(Kd.fresh' (Kd.N_lt (by (with_reducible repeat (first | apply Kd.N_alloc | apply Kd.N_drewN | apply Kd.N_drew)); exact HO_6.out)) k_ hk_.2.1), (Kd.fresh' (Kd.R_lt (by (with_reducible repeat (first | apply Kd.R_alloc | apply Kd.R_drewN | apply Kd.R_drew)); exact HO300.out)) k_ hk_.2.1), (Kd.fresh' (Kd.N_lt (by (with_reducible repeat (first | apply Kd.N_alloc | apply Kd.N_drewN | apply Kd.N_drew)); exact HO304.out)) k_ hk_.2.1)⟩)) (below_size (by repeat (first | (with_reducible first | exact HB.out | apply below_alloc | apply pw_below_drewN | apply below_drew1) | exact HB.out))))
                have n4_ := Aside0.mk (below_step (by repeat (first | (with_reducible first | exact HB.out | apply below_alloc | apply pw_below_drewN | apply below_drew1) | exact HB.out)) hb)
                clear HO_6
                clear HO300
                clear HO304
                clear HB
                have HO_6 := n0_
                have HO300 := n1_
                have HO304 := n2_
                have HO308 := n3_
                have HB := n4_
                clear n0_ n1_ n2_ n3_ n4_
                (try clear hb)
                (try clear hb2)
                (try clear hk)
                (try clear hi)
                (try clear ho0)
                refine hK.out _ _ (((HB.out.cell (World.block_lt_of_cell? w _ hw301_0)).trans hw301_0)) (fun hHeld => ?_)
                clear hK K
                refine norm_ (a' := ?_) ?_ ?_
                rotate_left
                · show Act.put _ (some 43) _ = _
                  simp only [Act.put, List.setIfInBounds_toArray, List.set_cons_zero, List.set_cons_succ, i64_w, i32_w]
                  rfl
                refine pure_ (i := 11) (N := some 32) (v := ?_) (a' := ?_) #[true, true, true, true, true, true, true, true, true, true, true, true, false, false, false, false] rfl rfl (any_of HT_.out (by kernel_rfl)) (fun _ _ _ h => h) (Or.inl ⟨by rfl, ?_⟩) ?_ ?_
                rotate_left
                · intro w'
                  go_simp
                  with_reducible rfl
                rotate_left
                · simp only [Act.put, List.setIfInBounds_toArray, List.set_cons_zero, List.set_cons_succ, i64_w, i32_w]
                  rfl
                refine pure_ (i := 12) (N := some 44) (v := ?_) (a' := ?_) #[true, true, true, true, true, true, true, true, true, true, true, true, true, false, false, false] rfl rfl (any_of HT_.out (by kernel_rfl)) (fun _ _ _ h => h) (Or.inl ⟨by rfl, ?_⟩) ?_ ?_
                rotate_left
                · intro w'
                  go_simp
                  with_reducible rfl
                rotate_left
                · simp only [Act.put, List.setIfInBounds_toArray, List.set_cons_zero, List.set_cons_succ, i64_w, i32_w]
                  rfl
                refine pure_ (i := 13) (N := some 45) (v := ?_) (a' := ?_) #[true, true, true, true, true, true, true, true, true, true, true, true, true, true, false, false] rfl rfl (any_of HT_.out (by kernel_rfl)) (fun _ _ _ h => h) (Or.inl ⟨by rfl, ?_⟩) ?_ ?_
                rotate_left
                · intro w'
                  go_simp
                  with_reducible rfl
                rotate_left
                · simp only [Act.put, List.setIfInBounds_toArray, List.set_cons_zero, List.set_cons_succ, i64_w, i32_w]
                  rfl
                refine pure_ (i := 14) (N := some 9) (v := ?_) (a' := ?_) #[true, true, true, true, true, true, true, true, true, true, true, true, true, true, true, false] rfl rfl (any_of HT_.out (by kernel_rfl)) (fun _ _ _ h => h) (Or.inl ⟨by rfl, ?_⟩) ?_ ?_
                rotate_left
                · intro w'
                  go_simp
                  with_reducible rfl
                rotate_left
                · simp only [Act.put, List.setIfInBounds_toArray, List.set_cons_zero, List.set_cons_succ, i64_w, i32_w]
                  rfl
                refine pure_ (i := 15) (N := some 10) (v := ?_) (a' := ?_) #[true, true, true, true, true, true, true, true, true, true, true, true, true, true, true, true] rfl rfl (any_of HT_.out (by kernel_rfl)) (fun _ _ _ h => h) (Or.inl ⟨by rfl, ?_⟩) ?_ ?_
                rotate_left
                · intro w'
                  go_simp
                  with_reducible rfl
                rotate_left
                · simp only [Act.put, List.setIfInBounds_toArray, List.set_cons_zero, List.set_cons_succ, i64_w, i32_w]
                  rfl
                refine done_ (done_of HT_.out (by kernel_rfl)) ?_
                obtain ⟨Ao27, co27, eo27⟩ := Kd.N_slice HO308.out
                subst eo27
                try go_wp2_with (first | (go_at_call 19; (with_reducible refine (seamarkref29_Same.calls kj6 _ _ t305 _ _ l0 t309 _ ?side1 ?side2 ?side3 ?side4 A19.out).mono ?_); (case side1 => repeat (first | exact (Kd.N_reads' HO308.out).2.2 | (with_reducible refine Kd.C_alloc ?_ _) | (with_reducible refine Kd.C_drewN ?_ _) | (with_reducible refine Kd.C_drew ?_))); (case side2 => exact (Kd.N_reads' HO308.out).2.1); (case side3 => repeat (first | exact (Kd.C_below HR0.out HB.out) | (with_reducible refine Kd.C_alloc ?_ _) | (with_reducible refine Kd.C_drewN ?_ _) | (with_reducible refine Kd.C_drew ?_))); (case side4 => exact HC0.out); rintro e w' ⟨rfl, ⟨nd, rfl⟩⟩))
                go_ret
                exact ⟨by first | rfl | (simp [errW_none, errW_some] <;> rfl) | (simp [*, errW_none, errW_some] <;> rfl), by repeat (first | (with_reducible first | exact HB.out | apply below_alloc | apply pw_below_drewN | apply below_drew1) | exact HB.out)⟩
              · rw [if_neg c18] at H
                exact absurd H (by simp)
            · replace c17 := Bool.eq_false_iff.mpr c17
              subst c17
              have H1 : (none) = some r := by rw [if_neg (show ¬ (false = true) by decide)] at H; exact H
              clear H
              have H := H1
              clear H1
              exact absurd H (by simp)
          · rw [if_neg c14] at H
            exact absurd H (by simp)
  · replace c5 := Bool.eq_false_iff.mpr c5
    subst c5
    have H1 : (some t292) = some r := by rw [if_neg (show ¬ (false = true) by decide)] at H; exact H
    clear H
    have H := H1
    clear H1
    obtain rfl := Option.some.inj H
    go_enter Try.func4, Try.ntmps4
    go_wp2_with (first | ((with_reducible refine gate_callee (f := 11) rfl ?_); refine goesL_ (some 11) rfl rfl Try.func11 (by kernel_rfl) rfl #[] rfl (by (try simp only [List.map_toArray, List.map_cons, List.map_nil]); first | done | rfl | (simp only [List.length_drop, List.length_take]; rfl)) ?_; (with_reducible refine (seamarklaw29_head.calls k  t292 _ A3.out).mono ?_); rintro e w28 ⟨rfl, hb⟩; refine ⟨_, rfl, ?_⟩; have n0_ := Aside0.mk (below_step (by repeat (first | (with_reducible first | exact HB.out | apply below_alloc | apply pw_below_drewN | apply below_drew1) | exact HB.out)) hb); clear HB; have HB := n0_; clear n0_; (try clear hb); (try clear hb2); (try clear hk); (try clear hi)) | ((with_reducible refine gate_callee (f := 14) rfl ?_); refine goesL_ (some 13) rfl rfl Try.func14 (by kernel_rfl) rfl #[.slice A0 l0.length c0] rfl (by (try simp only [List.map_toArray, List.map_cons, List.map_nil]); first | done | rfl | (simp only [List.length_drop, List.length_take]; rfl)) ?_; (with_reducible refine (seamarklaw29_few.calls k _ _ l0 false _ ?side1 ?side2 A4.out).mono ?_); (case side1 => repeat (first | exact (Kd.C_below HR0.out HB.out) | (with_reducible refine Kd.C_alloc ?_ _) | (with_reducible refine Kd.C_drewN ?_ _) | (with_reducible refine Kd.C_drew ?_))); (case side2 => exact HC0.out); rintro e w' ⟨rfl, ⟨nd, rfl⟩⟩; refine ⟨_, rfl, ?_⟩))
    go_ret
    exact ⟨by first | rfl | (simp [errW_none, errW_some] <;> rfl) | (simp [*, errW_none, errW_some] <;> rfl), by repeat (first | (with_reducible first | exact HB.out | apply below_alloc | apply pw_below_drewN | apply below_drew1) | exact HB.out)⟩

/-! ### seamarklaw29_ErasurePieces: function 5 -/
mutual
def seamarklaw29_ErasurePieces.j0 : Nat → List (List Int) → Int → Bool → List (List Int) → Int → List (List Int) → Bool → Option (Bool)
  | 0, _, _, _, _, _, _, _ => none
  | k + 1, x0, x2, x7, x8, x10, x11, x52 => if x52 = true then (none) else (seamarklaw29_ErasurePieces.l0 k x0 x2 x7 x8 x10 x11 ([] : List Int) 0)
def seamarklaw29_ErasurePieces.l0 : Nat → List (List Int) → Int → Bool → List (List Int) → Int → List (List Int) → List Int → Int → Option (Bool)
  | 0, _, _, _, _, _, _, _, _ => none
  | k + 1, x0, x2, x7, x8, x10, x11, x13, x14 => if x14 < 32 then (if 0 ≤ x14 then (if (Go.bits .and .u32 (shr .u32 x2 x14) 1) = 1 then (if x13.length < 17592186044416 then (seamarklaw29_ErasurePieces.l0 k x0 x2 x7 x8 x10 x11 (x13 ++ [x14]) (wrap64 (x14 + 1))) else (none)) else (seamarklaw29_ErasurePieces.l0 k x0 x2 x7 x8 x10 x11 x13 (wrap64 (x14 + 1)))) else (none)) else ((seamarklaw29_some.f k x8 x13).bind fun t323 => ((erasure_Fits.f k (x0.length : Int) x13 t323).bind fun bt326 => (if x7 = true then (if bt326.2 = 0 then (if bt326.1 = true then (if 0 ≤ x10 then (if x10 ≤ (x8.length : Int) then ((seamarkref29_Same.f k x11 (x8.take (x10 : Int).toNat)).bind fun t333 => (if t333 = true then (if 0 ≤ (x0.length : Int) then (if (x0.length : Int) ≤ (x8.length : Int) then ((seamarkref29_Same.f k (x8.take ((x0.length : Int) : Int).toNat) x0).bind fun t339 => (some t339)) else (none)) else (none)) else (none))) else (none)) else (none)) else (none)) else (none)) else (none))))
end
def seamarklaw29_ErasurePieces.f (k : Nat) (l0 : List (List Int)) (a1 : Int) (a2 : Int) : Option (Bool) := (seamarklaw29_head.f k).bind fun t310 => ((seamarklaw29_few.f k l0).bind fun t311 => (if t311 = true then ((erasure_Code.f k l0 32).bind fun bt312 => ((erasure_Code.f k l0 (Int.tmod (wrap64 (a1)) 33)).bind fun bt316 => (if bt312.2 = 0 then (if bt316.2 = 0 then (if (bt312.1.length : Int) = 32 then (seamarklaw29_ErasurePieces.j0 k l0 a2 t310 bt312.1 (Int.tmod (wrap64 (a1)) 33) bt316.1 ((bt316.1.length : Int) != (Int.tmod (wrap64 (a1)) 33))) else (seamarklaw29_ErasurePieces.j0 k l0 a2 t310 bt312.1 (Int.tmod (wrap64 (a1)) 33) bt316.1 true)) else (seamarklaw29_ErasurePieces.j0 k l0 a2 t310 bt312.1 (Int.tmod (wrap64 (a1)) 33) bt316.1 true)) else (seamarklaw29_ErasurePieces.j0 k l0 a2 t310 bt312.1 (Int.tmod (wrap64 (a1)) 33) bt316.1 true)))) else (some t310)))
theorem seamarklaw29_ErasurePieces.mono_l : ∀ k, (∀ y0 y1 y2 y3 y4 y5 y6, LeO (seamarklaw29_ErasurePieces.j0 k y0 y1 y2 y3 y4 y5 y6) (seamarklaw29_ErasurePieces.j0 (k + 1) y0 y1 y2 y3 y4 y5 y6)) ∧ (∀ y0 y1 y2 y3 y4 y5 y6 y7, LeO (seamarklaw29_ErasurePieces.l0 k y0 y1 y2 y3 y4 y5 y6 y7) (seamarklaw29_ErasurePieces.l0 (k + 1) y0 y1 y2 y3 y4 y5 y6 y7))
  | 0 => ⟨fun _ _ _ _ _ _ _ r h => by simp [seamarklaw29_ErasurePieces.j0] at h, fun _ _ _ _ _ _ _ _ r h => by simp [seamarklaw29_ErasurePieces.l0] at h⟩
  | k + 1 => by
    obtain ⟨ih0, ih1⟩ := seamarklaw29_ErasurePieces.mono_l k
    refine ⟨?_, ?_⟩
    · intro y0 y1 y2 y3 y4 y5 y6
      unfold seamarklaw29_ErasurePieces.j0
      repeat' first
      | (with_reducible exact ih0 _ _ _ _ _ _ _)
      | (with_reducible exact ih1 _ _ _ _ _ _ _ _)
      | (with_reducible exact erasure_Code.mono _ _ _)
      | (with_reducible exact erasure_Fits.mono _ _ _ _)
      | (with_reducible exact seamarklaw29_few.mono _ _)
      | (with_reducible exact seamarklaw29_head.mono _)
      | (with_reducible exact seamarklaw29_some.mono _ _ _)
      | (with_reducible exact seamarkref29_Same.mono _ _ _)
      | (with_reducible exact LeO.refl _)
      | (with_reducible exact LeO.none _)
      | (with_reducible refine LeO.ite ?_ ?_)
      | (with_reducible refine LeO.bind ?_ (fun _ => ?_))
      | exact ih0 _ _ _ _ _ _ _
      | exact ih1 _ _ _ _ _ _ _ _
      | exact erasure_Code.mono _ _ _
      | exact erasure_Fits.mono _ _ _ _
      | exact seamarklaw29_few.mono _ _
      | exact seamarklaw29_head.mono _
      | exact seamarklaw29_some.mono _ _ _
      | exact seamarkref29_Same.mono _ _ _
      | exact LeO.none _
      | refine LeO.ite ?_ ?_
      | refine LeO.bind ?_ (fun _ => ?_)
    · intro y0 y1 y2 y3 y4 y5 y6 y7
      unfold seamarklaw29_ErasurePieces.l0
      repeat' first
      | (with_reducible exact ih0 _ _ _ _ _ _ _)
      | (with_reducible exact ih1 _ _ _ _ _ _ _ _)
      | (with_reducible exact erasure_Code.mono _ _ _)
      | (with_reducible exact erasure_Fits.mono _ _ _ _)
      | (with_reducible exact seamarklaw29_few.mono _ _)
      | (with_reducible exact seamarklaw29_head.mono _)
      | (with_reducible exact seamarklaw29_some.mono _ _ _)
      | (with_reducible exact seamarkref29_Same.mono _ _ _)
      | (with_reducible exact LeO.refl _)
      | (with_reducible exact LeO.none _)
      | (with_reducible refine LeO.ite ?_ ?_)
      | (with_reducible refine LeO.bind ?_ (fun _ => ?_))
      | exact ih0 _ _ _ _ _ _ _
      | exact ih1 _ _ _ _ _ _ _ _
      | exact erasure_Code.mono _ _ _
      | exact erasure_Fits.mono _ _ _ _
      | exact seamarklaw29_few.mono _ _
      | exact seamarklaw29_head.mono _
      | exact seamarklaw29_some.mono _ _ _
      | exact seamarkref29_Same.mono _ _ _
      | exact LeO.none _
      | refine LeO.ite ?_ ?_
      | refine LeO.bind ?_ (fun _ => ?_)
theorem seamarklaw29_ErasurePieces.mono : ∀ a0 a1 a2 k, LeO (seamarklaw29_ErasurePieces.f k a0 a1 a2) (seamarklaw29_ErasurePieces.f (k + 1) a0 a1 a2) := by
  intro a0 a1 a2 k
  obtain ⟨ih0, ih1⟩ := seamarklaw29_ErasurePieces.mono_l k
  unfold seamarklaw29_ErasurePieces.f
  repeat' first
      | (with_reducible exact ih0 _ _ _ _ _ _ _)
      | (with_reducible exact ih1 _ _ _ _ _ _ _ _)
      | (with_reducible exact erasure_Code.mono _ _ _)
      | (with_reducible exact erasure_Fits.mono _ _ _ _)
      | (with_reducible exact seamarklaw29_few.mono _ _)
      | (with_reducible exact seamarklaw29_head.mono _)
      | (with_reducible exact seamarklaw29_some.mono _ _ _)
      | (with_reducible exact seamarkref29_Same.mono _ _ _)
      | (with_reducible exact LeO.refl _)
      | (with_reducible exact LeO.none _)
      | (with_reducible refine LeO.ite ?_ ?_)
      | (with_reducible refine LeO.bind ?_ (fun _ => ?_))
      | exact ih0 _ _ _ _ _ _ _
      | exact ih1 _ _ _ _ _ _ _ _
      | exact erasure_Code.mono _ _ _
      | exact erasure_Fits.mono _ _ _ _
      | exact seamarklaw29_few.mono _ _
      | exact seamarklaw29_head.mono _
      | exact seamarklaw29_some.mono _ _ _
      | exact seamarkref29_Same.mono _ _ _
      | exact LeO.none _
      | refine LeO.ite ?_ ?_
      | refine LeO.bind ?_ (fun _ => ?_)
set_option maxHeartbeats 8000000 in
set_option maxRecDepth 100000 in
theorem seamarklaw29_ErasurePieces.calls (k : Nat) (A0 : Option Addr) (c0 : Nat) (l0 : List (List Int)) (a1 : Int) (a2 : Int) (r : Bool) (w : World) (hr0 : Kd.C (Kd.slice 5 (Kd.int .u8)) w A0 l0.length l0) (hc0 : l0.length ≤ c0) (h : seamarklaw29_ErasurePieces.f k l0 a1 a2 = some r) :
    Calls Try.prog 5 #[.slice A0 l0.length c0, .int .u8 a1, .int .u32 a2] w fun e w' => e = .returned (.bool r) ∧ Below w.heap.size w w' := by
  have HR0 := Aside0.mk hr0
  have HC0 := Aside0.mk hc0
  clear hr0 hc0
  have HB := Aside0.mk (Below.refl w.heap.size w)
  have H : ((seamarklaw29_head.f k).bind fun t310 => ((seamarklaw29_few.f k l0).bind fun t311 => (if t311 = true then ((erasure_Code.f k l0 32).bind fun bt312 => ((erasure_Code.f k l0 (Int.tmod (wrap64 (a1)) 33)).bind fun bt316 => (if bt312.2 = 0 then (if bt316.2 = 0 then (if (bt312.1.length : Int) = 32 then (seamarklaw29_ErasurePieces.j0 k l0 a2 t310 bt312.1 (Int.tmod (wrap64 (a1)) 33) bt316.1 ((bt316.1.length : Int) != (Int.tmod (wrap64 (a1)) 33))) else (seamarklaw29_ErasurePieces.j0 k l0 a2 t310 bt312.1 (Int.tmod (wrap64 (a1)) 33) bt316.1 true)) else (seamarklaw29_ErasurePieces.j0 k l0 a2 t310 bt312.1 (Int.tmod (wrap64 (a1)) 33) bt316.1 true)) else (seamarklaw29_ErasurePieces.j0 k l0 a2 t310 bt312.1 (Int.tmod (wrap64 (a1)) 33) bt316.1 true)))) else (some t310)))) = some r := h
  clear h
  replace H := Option.bind_eq_some_iff.mp H
  obtain ⟨t310, A40, H⟩ := H
  replace H : ((seamarklaw29_few.f k l0).bind fun t311 => (if t311 = true then ((erasure_Code.f k l0 32).bind fun bt312 => ((erasure_Code.f k l0 (Int.tmod (wrap64 (a1)) 33)).bind fun bt316 => (if bt312.2 = 0 then (if bt316.2 = 0 then (if (bt312.1.length : Int) = 32 then (seamarklaw29_ErasurePieces.j0 k l0 a2 t310 bt312.1 (Int.tmod (wrap64 (a1)) 33) bt316.1 ((bt316.1.length : Int) != (Int.tmod (wrap64 (a1)) 33))) else (seamarklaw29_ErasurePieces.j0 k l0 a2 t310 bt312.1 (Int.tmod (wrap64 (a1)) 33) bt316.1 true)) else (seamarklaw29_ErasurePieces.j0 k l0 a2 t310 bt312.1 (Int.tmod (wrap64 (a1)) 33) bt316.1 true)) else (seamarklaw29_ErasurePieces.j0 k l0 a2 t310 bt312.1 (Int.tmod (wrap64 (a1)) 33) bt316.1 true)))) else (some t310))) = some r := H
  have A4 := Aside0.mk A40
  clear A40
  replace H := Option.bind_eq_some_iff.mp H
  obtain ⟨t311, A50, H⟩ := H
  replace H : (if t311 = true then ((erasure_Code.f k l0 32).bind fun bt312 => ((erasure_Code.f k l0 (Int.tmod (wrap64 (a1)) 33)).bind fun bt316 => (if bt312.2 = 0 then (if bt316.2 = 0 then (if (bt312.1.length : Int) = 32 then (seamarklaw29_ErasurePieces.j0 k l0 a2 t310 bt312.1 (Int.tmod (wrap64 (a1)) 33) bt316.1 ((bt316.1.length : Int) != (Int.tmod (wrap64 (a1)) 33))) else (seamarklaw29_ErasurePieces.j0 k l0 a2 t310 bt312.1 (Int.tmod (wrap64 (a1)) 33) bt316.1 true)) else (seamarklaw29_ErasurePieces.j0 k l0 a2 t310 bt312.1 (Int.tmod (wrap64 (a1)) 33) bt316.1 true)) else (seamarklaw29_ErasurePieces.j0 k l0 a2 t310 bt312.1 (Int.tmod (wrap64 (a1)) 33) bt316.1 true)))) else (some t310)) = some r := H
  have A5 := Aside0.mk A50
  clear A50
  by_cases c6 : t311 = true
  · subst c6
    have H1 : ((erasure_Code.f k l0 32).bind fun bt312 => ((erasure_Code.f k l0 (Int.tmod (wrap64 (a1)) 33)).bind fun bt316 => (if bt312.2 = 0 then (if bt316.2 = 0 then (if (bt312.1.length : Int) = 32 then (seamarklaw29_ErasurePieces.j0 k l0 a2 t310 bt312.1 (Int.tmod (wrap64 (a1)) 33) bt316.1 ((bt316.1.length : Int) != (Int.tmod (wrap64 (a1)) 33))) else (seamarklaw29_ErasurePieces.j0 k l0 a2 t310 bt312.1 (Int.tmod (wrap64 (a1)) 33) bt316.1 true)) else (seamarklaw29_ErasurePieces.j0 k l0 a2 t310 bt312.1 (Int.tmod (wrap64 (a1)) 33) bt316.1 true)) else (seamarklaw29_ErasurePieces.j0 k l0 a2 t310 bt312.1 (Int.tmod (wrap64 (a1)) 33) bt316.1 true)))) = some r := by rw [if_pos rfl] at H; exact H
    clear H
    have H := H1
    clear H1
    replace H := Option.bind_eq_some_iff.mp H
    obtain ⟨⟨t312, t313⟩, A70, H⟩ := H
    replace H : ((erasure_Code.f k l0 (Int.tmod (wrap64 (a1)) 33)).bind fun bt316 => (if t313 = 0 then (if bt316.2 = 0 then (if (t312.length : Int) = 32 then (seamarklaw29_ErasurePieces.j0 k l0 a2 t310 t312 (Int.tmod (wrap64 (a1)) 33) bt316.1 ((bt316.1.length : Int) != (Int.tmod (wrap64 (a1)) 33))) else (seamarklaw29_ErasurePieces.j0 k l0 a2 t310 t312 (Int.tmod (wrap64 (a1)) 33) bt316.1 true)) else (seamarklaw29_ErasurePieces.j0 k l0 a2 t310 t312 (Int.tmod (wrap64 (a1)) 33) bt316.1 true)) else (seamarklaw29_ErasurePieces.j0 k l0 a2 t310 t312 (Int.tmod (wrap64 (a1)) 33) bt316.1 true))) = some r := H
    have A7 := Aside0.mk A70
    clear A70
    replace H := Option.bind_eq_some_iff.mp H
    obtain ⟨⟨t316, t317⟩, A80, H⟩ := H
    replace H : (if t313 = 0 then (if t317 = 0 then (if (t312.length : Int) = 32 then (seamarklaw29_ErasurePieces.j0 k l0 a2 t310 t312 (Int.tmod (wrap64 (a1)) 33) t316 ((t316.length : Int) != (Int.tmod (wrap64 (a1)) 33))) else (seamarklaw29_ErasurePieces.j0 k l0 a2 t310 t312 (Int.tmod (wrap64 (a1)) 33) t316 true)) else (seamarklaw29_ErasurePieces.j0 k l0 a2 t310 t312 (Int.tmod (wrap64 (a1)) 33) t316 true)) else (seamarklaw29_ErasurePieces.j0 k l0 a2 t310 t312 (Int.tmod (wrap64 (a1)) 33) t316 true)) = some r := H
    have A8 := Aside0.mk A80
    clear A80
    have HC9 := Aside0.mk H
    clear H
    go_enter Try.func5, Try.ntmps5
    go_upto_region 7 with (first | ((with_reducible refine gate_callee (f := 11) rfl ?_); refine goesL_ (some 17) rfl rfl Try.func11 (by kernel_rfl) rfl #[] rfl (by (try simp only [List.map_toArray, List.map_cons, List.map_nil]); first | done | rfl | (simp only [List.length_drop, List.length_take]; rfl)) ?_; (with_reducible refine (seamarklaw29_head.calls k  t310 _ A4.out).mono ?_); rintro e w10 ⟨rfl, hb⟩; refine ⟨_, rfl, ?_⟩; have n0_ := Aside0.mk (below_step (by repeat (first | (with_reducible first | exact HB.out | apply below_alloc | apply pw_below_drewN | apply below_drew1) | exact HB.out)) hb); clear HB; have HB := n0_; clear n0_; (try clear hb); (try clear hb2); (try clear hk); (try clear hi)) | ((with_reducible refine gate_callee (f := 14) rfl ?_); refine goesL_ (some 19) rfl rfl Try.func14 (by kernel_rfl) rfl #[.slice A0 l0.length c0] rfl (by (try simp only [List.map_toArray, List.map_cons, List.map_nil]); first | done | rfl | (simp only [List.length_drop, List.length_take]; rfl)) ?_; (with_reducible refine (seamarklaw29_few.calls k _ _ l0 true _ ?side1 ?side2 A5.out).mono ?_); (case side1 => repeat (first | exact (Kd.C_below HR0.out HB.out) | (with_reducible refine Kd.C_alloc ?_ _) | (with_reducible refine Kd.C_drewN ?_ _) | (with_reducible refine Kd.C_drew ?_))); (case side2 => exact HC0.out); rintro e w' ⟨rfl, ⟨nd, rfl⟩⟩; refine ⟨_, rfl, ?_⟩) | ((with_reducible refine gate_callee (f := 15) rfl ?_); refine goesL_ (some 24) rfl rfl Try.func15 (by kernel_rfl) rfl #[.slice A0 l0.length c0, .int .i64 32] rfl (by (try simp only [List.map_toArray, List.map_cons, List.map_nil]); first | done | rfl | (simp only [List.length_drop, List.length_take]; rfl)) ?_; (with_reducible refine (erasure_Code.calls k _ _ l0 32 t312 t313 _ ?side1 ?side2 A7.out).mono ?_); (case side1 => repeat (first | exact (Kd.C_below HR0.out (by repeat (first | (with_reducible first | exact HB.out | apply below_alloc | apply pw_below_drewN | apply below_drew1) | exact HB.out))) | (with_reducible refine Kd.C_alloc ?_ _) | (with_reducible refine Kd.C_drewN ?_ _) | (with_reducible refine Kd.C_drew ?_))); (case side2 => exact HC0.out); rintro e w11 ⟨v314, rfl, ho0, hb⟩; refine ⟨_, rfl, ?_⟩; have n0_ := Aside0.mk (Kd.N_lower (Kd.N_mono (ok' := fun k_ => True) (Kd.S_N (Kd.S_bound ho0)) (fun k_ hk_ => trivial)) (below_size (by repeat (first | (with_reducible first | exact HB.out | apply below_alloc | apply pw_below_drewN | apply below_drew1) | exact HB.out)))); have n1_ := Aside0.mk (below_step (by repeat (first | (with_reducible first | exact HB.out | apply below_alloc | apply pw_below_drewN | apply below_drew1) | exact HB.out)) hb); clear HB; have HO315 := n0_; have HB := n1_; clear n0_ n1_; (try clear hb); (try clear hb2); (try clear hk); (try clear hi); (try clear ho0)) | ((with_reducible refine gate_callee (f := 15) rfl ?_); refine goesL_ (some 33) rfl rfl Try.func15 (by kernel_rfl) rfl #[.slice A0 l0.length c0, .int .i64 (Int.tmod (wrap64 (a1)) 33)] rfl (by (try simp only [List.map_toArray, List.map_cons, List.map_nil]); first | done | rfl | (simp only [List.length_drop, List.length_take]; rfl)) ?_; (with_reducible refine (erasure_Code.calls k _ _ l0 (Int.tmod (wrap64 (a1)) 33) t316 t317 _ ?side1 ?side2 A8.out).mono ?_); (case side1 => repeat (first | exact (Kd.C_below HR0.out HB.out) | (with_reducible refine Kd.C_alloc ?_ _) | (with_reducible refine Kd.C_drewN ?_ _) | (with_reducible refine Kd.C_drew ?_))); (case side2 => exact HC0.out); rintro e w12 ⟨v318, rfl, ho0, hb⟩; refine ⟨_, rfl, ?_⟩; have n0_ := Aside0.mk (Kd.N_elder' (by (with_reducible repeat (first | apply Kd.N_alloc | apply Kd.N_drewN | apply Kd.N_drew)); exact HO315.out) (by first | exact Kd.N_base ho0 | exact Kd.S_base ho0 | exact Kd.R_base ho0) hb); have n1_ := Aside0.mk (Kd.N_lower (Kd.N_mono (ok' := fun k_ => some k_ ≠ (v314 : Value).ownBlock) (Kd.S_N (Kd.S_bound ho0)) (fun k_ hk_ => (Kd.fresh' (Kd.N_lt (by (with_reducible repeat (first | apply Kd.N_alloc | apply Kd.N_drewN | apply Kd.N_drew)); exact HO315.out)) k_ hk_.2.1))) (below_size (by repeat (first | (with_reducible first | exact HB.out | apply below_alloc | apply pw_below_drewN | apply below_drew1) | exact HB.out)))); have n2_ := Aside0.mk (below_step (by repeat (first | (with_reducible first | exact HB.out | apply below_alloc | apply pw_below_drewN | apply below_drew1) | exact HB.out)) hb); clear HO315; clear HB; have HO315 := n0_; have HO319 := n1_; have HB := n2_; clear n0_ n1_ n2_; (try clear hb); (try clear hb2); (try clear hk); (try clear hi); (try clear ho0)))
    (try simp only [Act.put, List.setIfInBounds_toArray, List.set_cons_zero, List.set_cons_succ])
    go_cut [52] (fun v52 wc => ∃ (kq : Nat) (x52_8 : Bool), v52 = .bool x52_8 ∧ Aside0 (seamarklaw29_ErasurePieces.j0 kq l0 a2 t310 t312 (Int.tmod (wrap64 (a1)) 33) t316 x52_8 = some r) ∧ Aside0 (kq ≤ k) ∧ Aside0 (Kd.N (Kd.slice 5 (Kd.int .u8)) 29 wc w.heap.size (fun k_ => some k_ ≠ (v318 : Value).ownBlock) v314 t312) ∧ Aside0 (Kd.N (Kd.slice 5 (Kd.int .u8)) 29 wc w.heap.size (fun k_ => some k_ ≠ (v314 : Value).ownBlock) v318 t316) ∧ Aside0 (Below w.heap.size w wc))
    case first =>
      have H := HC9.out
      clear HC9
      by_cases c13 : t313 = 0
      · rw [if_pos c13] at H
        have c13b0 : (t313 == 0) = true := beq_iff_eq.mpr c13
        have c13b1 : (t313 != 0) = false := bne_eq_false_iff_eq.mpr c13
        clear c13
        (first | rw [c13b0] | (simp only [i64_w, i32_w]; rw [c13b0]) | skip)
        by_cases c14 : t317 = 0
        · rw [if_pos c14] at H
          have c14b0 : (t317 == 0) = true := beq_iff_eq.mpr c14
          have c14b1 : (t317 != 0) = false := bne_eq_false_iff_eq.mpr c14
          clear c14
          by_cases c15 : (t312.length : Int) = 32
          · rw [if_pos c15] at H
            have c15b0 : ((t312.length : Int) == 32) = true := beq_iff_eq.mpr c15
            have c15b1 : ((t312.length : Int) != 32) = false := bne_eq_false_iff_eq.mpr c15
            clear c15
            have H' := Aside0.mk H
            clear H
            obtain ⟨Ao16, co16, eo16⟩ := Kd.N_slice HO315.out
            subst eo16
            obtain ⟨Ao17, co17, eo17⟩ := Kd.N_slice HO319.out
            subst eo17
            go_wp2
            go_meet
            case rel => exact ⟨_, (((t316.length : Int) != (Int.tmod (wrap64 (a1)) 33))), (by first | rfl | (simp; done) | (simp [*]; done)), H', ⟨by first | omega | exact Nat.le_refl _⟩, ⟨by (with_reducible repeat (first | apply Kd.N_alloc | apply Kd.N_drewN | apply Kd.N_drew)); exact Kd.N_mono HO315.out (fun _ hk => hk.2)⟩, ⟨by (with_reducible repeat (first | apply Kd.N_alloc | apply Kd.N_drewN | apply Kd.N_drew)); exact HO319.out⟩, ⟨by repeat (first | (with_reducible first | exact HB.out | apply below_alloc | apply pw_below_drewN | apply below_drew1) | exact HB.out)⟩⟩
          · rw [if_neg c15] at H
            have c15b0 : ((t312.length : Int) == 32) = false := beq_eq_false_iff_ne.mpr c15
            have c15b1 : ((t312.length : Int) != 32) = true := bne_iff_ne.mpr c15
            have H' := Aside0.mk H
            clear H
            obtain ⟨Ao18, co18, eo18⟩ := Kd.N_slice HO315.out
            subst eo18
            go_wp2
            go_meet
            case rel => exact ⟨_, (true), (by first | rfl | (simp; done) | (simp [*]; done)), H', ⟨by first | omega | exact Nat.le_refl _⟩, ⟨by (with_reducible repeat (first | apply Kd.N_alloc | apply Kd.N_drewN | apply Kd.N_drew)); exact Kd.N_mono HO315.out (fun _ hk => hk.2)⟩, ⟨by (with_reducible repeat (first | apply Kd.N_alloc | apply Kd.N_drewN | apply Kd.N_drew)); exact HO319.out⟩, ⟨by repeat (first | (with_reducible first | exact HB.out | apply below_alloc | apply pw_below_drewN | apply below_drew1) | exact HB.out)⟩⟩
        · rw [if_neg c14] at H
          have c14b0 : (t317 == 0) = false := beq_eq_false_iff_ne.mpr c14
          have c14b1 : (t317 != 0) = true := bne_iff_ne.mpr c14
          have H' := Aside0.mk H
          clear H
          go_wp2
          go_meet
          case rel => exact ⟨_, (true), (by first | rfl | (simp; done) | (simp [*]; done)), H', ⟨by first | omega | exact Nat.le_refl _⟩, ⟨by (with_reducible repeat (first | apply Kd.N_alloc | apply Kd.N_drewN | apply Kd.N_drew)); exact Kd.N_mono HO315.out (fun _ hk => hk.2)⟩, ⟨by (with_reducible repeat (first | apply Kd.N_alloc | apply Kd.N_drewN | apply Kd.N_drew)); exact HO319.out⟩, ⟨by repeat (first | (with_reducible first | exact HB.out | apply below_alloc | apply pw_below_drewN | apply below_drew1) | exact HB.out)⟩⟩
      · rw [if_neg c13] at H
        have c13b0 : (t313 == 0) = false := beq_eq_false_iff_ne.mpr c13
        have c13b1 : (t313 != 0) = true := bne_iff_ne.mpr c13
        (first | rw [c13b0] | (simp only [i64_w, i32_w]; rw [c13b0]) | skip)
        have H' := Aside0.mk H
        clear H
        go_wp2
        go_meet
        case rel => exact ⟨_, (true), (by first | rfl | (simp; done) | (simp [*]; done)), H', ⟨by first | omega | exact Nat.le_refl _⟩, ⟨by (with_reducible repeat (first | apply Kd.N_alloc | apply Kd.N_drewN | apply Kd.N_drew)); exact Kd.N_mono HO315.out (fun _ hk => hk.2)⟩, ⟨by (with_reducible repeat (first | apply Kd.N_alloc | apply Kd.N_drewN | apply Kd.N_drew)); exact HO319.out⟩, ⟨by repeat (first | (with_reducible first | exact HB.out | apply below_alloc | apply pw_below_drewN | apply below_drew1) | exact HB.out)⟩⟩
    case rest =>
      clear HC9
      (try clear c1); (try clear p2); (try clear c5); (try clear c6); (try clear p6); (try clear c11); (try clear c13); (try clear c13b0); (try clear c13b1); (try clear c14); (try clear c14b0); (try clear c14b1); (try clear c15); (try clear c15b0); (try clear c15b1)
      obtain ⟨kq, x52_8, rfl, HA, HJ8, HO_8, HO_11, HB⟩ := hcut
      cases kq with
      | zero => exact absurd HA.out (by simp [seamarklaw29_ErasurePieces.j0])
      | succ kj8 =>
        have H := HA.out
        clear HA
        simp only [seamarklaw29_ErasurePieces.j0] at H
        by_cases c19 : x52_8 = true
        · subst c19
          have H1 : (none) = some r := by rw [if_pos rfl] at H; exact H
          clear H
          have H := H1
          clear H1
          exact absurd H (by simp)
        · replace c19 := Bool.eq_false_iff.mpr c19
          subst c19
          have H1 : (seamarklaw29_ErasurePieces.l0 kj8 l0 a2 t310 t312 (Int.tmod (wrap64 (a1)) 33) t316 ([] : List Int) 0) = some r := by rw [if_neg (show ¬ (false = true) by decide)] at H; exact H
          clear H
          have H := H1
          clear H1
          have H' := Aside0.mk H
          clear H
          go_wp2
          go_loopg [13, 14] kj8 (fun kq v13 v14 w' => ∃ (x13_2 : List Int) (x14_2 : Int), v14 = .int .i64 x14_2 ∧ Aside0 (seamarklaw29_ErasurePieces.l0 kq l0 a2 t310 t312 (Int.tmod (wrap64 (a1)) 33) t316 x13_2 x14_2 = some r) ∧ Aside0 (kq ≤ kj8) ∧ Aside0 (Kd.N (Kd.slice 5 (Kd.int .u8)) 29 w' w.heap.size (fun k_ => some k_ ≠ (v318 : Value).ownBlock ∧ some k_ ≠ (v13 : Value).ownBlock) v314 t312) ∧ Aside0 (Kd.N (Kd.slice 5 (Kd.int .u8)) 29 w' w.heap.size (fun k_ => some k_ ≠ (v314 : Value).ownBlock ∧ some k_ ≠ (v13 : Value).ownBlock) v318 t316) ∧ Aside0 (Kd.R (Kd.int .i64) 3 w' w.heap.size (fun _ => True) v13 x13_2) ∧ Aside0 (Below w.heap.size w w'))
          case atStart => exact ⟨(([] : List Int)), (0), (by first | rfl | (simp; done) | (simp [*]; done)), H', ⟨Nat.le_refl _⟩, ⟨by (with_reducible repeat (first | apply Kd.N_alloc | apply Kd.N_drewN | apply Kd.N_drew)); exact Kd.N_mono HO_8.out (fun _ hk => ⟨hk, (by simp [Value.ownBlock])⟩)⟩, ⟨by (with_reducible repeat (first | apply Kd.N_alloc | apply Kd.N_drewN | apply Kd.N_drew)); exact Kd.N_mono HO_11.out (fun _ hk => ⟨hk, (by simp [Value.ownBlock])⟩)⟩, ⟨by first | exact Kd.R_nil _ _ _ _ _ | exact Kd.N_nil _ _ _ _ _ | exact Kd.V_nil _ _ _ _ _ | exact Kd.Q_nil _ _ _ _ _ | exact Kd.S_nil _ _ _ _ _⟩, ⟨by repeat (first | (with_reducible first | exact HB.out | apply below_alloc | apply pw_below_drewN | apply below_drew1) | exact HB.out)⟩⟩
          case round =>
            clear H'
            (try clear c1); (try clear p2); (try clear c5); (try clear c6); (try clear p6); (try clear c11); (try clear c13); (try clear c13b0); (try clear c13b1); (try clear c14); (try clear c14b0); (try clear c14b1); (try clear c15); (try clear c15b0); (try clear c15b1); (try clear c19); (try clear p2); (try clear p6)
            obtain ⟨x13_2, x14_2, rfl, HA, HK2, HO_8, HO_11, HO_13, HB⟩ := hrel
            cases gk with
            | zero => exact absurd HA.out (by simp [seamarklaw29_ErasurePieces.l0])
            | succ k2 =>
              have H := HA.out
              clear HA
              simp only [seamarklaw29_ErasurePieces.l0] at H
              by_cases c20 : x14_2 < 32
              · rw [if_pos c20] at H
                have c20b0 : decide (x14_2 < 32) = true := decide_eq_true c20
                clear c20
                by_cases c21 : 0 ≤ x14_2
                · rw [if_pos c21] at H
                  have c21b0 := eq_true c21
                  have c21b1 : decide (0 ≤ x14_2) = true := decide_eq_true c21
                  clear c21
                  obtain ⟨ji22, hji22⟩ : ∃ j_ : Int, (shr .u32 a2 x14_2) = j_ := ⟨_, rfl⟩
                  replace H : (if (Go.bits .and .u32 (ji22) 1) = 1 then (if x13_2.length < 17592186044416 then (seamarklaw29_ErasurePieces.l0 k2 l0 a2 t310 t312 (Int.tmod (wrap64 (a1)) 33) t316 (x13_2 ++ [x14_2]) (wrap64 (x14_2 + 1))) else (none)) else (seamarklaw29_ErasurePieces.l0 k2 l0 a2 t310 t312 (Int.tmod (wrap64 (a1)) 33) t316 x13_2 (wrap64 (x14_2 + 1)))) = some r := by first | (rw [hji22] at H; exact H) | (simp only [hji22] at H ⊢; exact H)
                  have hji22_ : (a2 / 2 ^ min x14_2.toNat 32) = ji22 := hji22
                  have hji22z : x14_2 ≤ 32 → (a2 / 2 ^ x14_2.toNat) = ji22 := shr_small hji22
                  by_cases c23 : (Go.bits .and .u32 (ji22) 1) = 1
                  · rw [if_pos c23] at H
                    have c23b0 : ((Go.bits .and .u32 (ji22) 1) == 1) = true := beq_iff_eq.mpr c23
                    have c23b1 : ((Go.bits .and .u32 (ji22) 1) != 1) = false := bne_eq_false_iff_eq.mpr c23
                    clear c23
                    by_cases c24 : x13_2.length < 17592186044416
                    · rw [if_pos c24] at H
                      have LMc24 := Aside0.mk c24
                      clear c24
                      obtain ⟨y320, hy320⟩ : ∃ y_ : List Int, y_ = (x13_2 ++ [x14_2]) := ⟨_, rfl⟩
                      replace H : (seamarklaw29_ErasurePieces.l0 k2 l0 a2 t310 t312 (Int.tmod (wrap64 (a1)) 33) t316 y320 (wrap64 (x14_2 + 1))) = some r := by first | (rw [hy320]; with_reducible exact H) | (have H2_ := (Option.bind_some _ _).symm.trans H; rw [hy320]; with_reducible exact H2_) | (have H2_ := (Option.bind_some _ _).symm.trans H; with_reducible exact H2_) | with_reducible exact H | (rw [hy320]; exact H) | exact H
                      have Ny320 := Aside0.mk hy320
                      clear hy320
                      have H' := Aside0.mk H
                      clear H
                      go_wp2_with (first | ((with_reducible refine gate_builtin (b := .append) (xs := #[.tmp 62, .tmp 64]) rfl ?_); (try (refine gate_guard (by rfl) ?_; dsimp only)); at_builtin; refine Kd.R_append (Kd.int .i64) (w0 := w) w.heap.size rfl (.tmp 62) (.tmp 64) 33 3 (.int .i64 0) 8 rfl Try.underlying33 info3 rfl (by decide) (by omega) u13 x13_2 x14_2 [.int .i64 x14_2] (fun _ => True) (fun _ => False) rfl rfl ?aP (fun _ hk => hk.elim) ?aF ?aO ?aB ?aS ?aL ?_; (case aP => exact rfl); (case aB => exact (by repeat (first | (with_reducible first | exact HB.out | apply below_alloc | apply pw_below_drewN | apply below_drew1) | exact HB.out))); (case aF => exact (fun _ _ => trivial)); (case aO => exact (by (with_reducible repeat (first | apply Kd.R_alloc | apply Kd.R_drewN | apply Kd.R_drew)); exact HO_13.out)); (case aS => exact (below_size (by repeat (first | (with_reducible first | exact HB.out | apply below_alloc | apply pw_below_drewN | apply below_drew1) | exact HB.out)))); (case aL => have := LMc24.out; omega); intro v321 w25 ho hb hg hat; rw [← Ny320.out] at ho; have n0_ := Aside0.mk (Kd.N_afterv (ok := (fun k_ => some k_ ≠ (v318 : Value).ownBlock)) (by (with_reducible repeat (first | apply Kd.N_alloc | apply Kd.N_drewN | apply Kd.N_drew)); exact HO_8.out) hg hat); have n1_ := Aside0.mk (Kd.N_afterv (ok := (fun k_ => some k_ ≠ (v314 : Value).ownBlock)) (by (with_reducible repeat (first | apply Kd.N_alloc | apply Kd.N_drewN | apply Kd.N_drew)); exact HO_11.out) hg hat); have n2_ := Aside0.mk (hb); have n3_ := Aside0.mk (ho); clear HO_8; clear HO_11; clear HB; clear HO_13; have HO_8 := n0_; have HO_11 := n1_; have HB := n2_; have HO322 := n3_; clear n0_ n1_ n2_ n3_; clear ho hb hg hat))
                      go_roundg k2
                      case measure => have := HJ8.out; have := HK2.out; omega
                      case rel => exact ⟨(y320), (wrap64 (x14_2 + 1)), (by first | rfl | (simp; done) | (simp [*]; done)), H', ⟨by have := HJ8.out; have := HK2.out; omega⟩, ⟨by (with_reducible repeat (first | apply Kd.N_alloc | apply Kd.N_drewN | apply Kd.N_drew)); exact HO_8.out⟩, ⟨by (with_reducible repeat (first | apply Kd.N_alloc | apply Kd.N_drewN | apply Kd.N_drew)); exact HO_11.out⟩, ⟨by (with_reducible repeat (first | apply Kd.R_alloc | apply Kd.R_drewN | apply Kd.R_drew)); exact HO322.out⟩, ⟨by repeat (first | (with_reducible first | exact HB.out | apply below_alloc | apply pw_below_drewN | apply below_drew1) | exact HB.out)⟩⟩
                    · rw [if_neg c24] at H
                      exact absurd H (by simp)
                  · rw [if_neg c23] at H
                    have c23b0 : ((Go.bits .and .u32 (ji22) 1) == 1) = false := beq_eq_false_iff_ne.mpr c23
                    have c23b1 : ((Go.bits .and .u32 (ji22) 1) != 1) = true := bne_iff_ne.mpr c23
                    have H' := Aside0.mk H
                    clear H
                    go_wp2
                    go_roundg k2
                    case measure => have := HJ8.out; have := HK2.out; omega
                    case rel => exact ⟨(x13_2), (wrap64 (x14_2 + 1)), (by first | rfl | (simp; done) | (simp [*]; done)), H', ⟨by have := HJ8.out; have := HK2.out; omega⟩, ⟨by (with_reducible repeat (first | apply Kd.N_alloc | apply Kd.N_drewN | apply Kd.N_drew)); exact HO_8.out⟩, ⟨by (with_reducible repeat (first | apply Kd.N_alloc | apply Kd.N_drewN | apply Kd.N_drew)); exact HO_11.out⟩, ⟨by (with_reducible repeat (first | apply Kd.R_alloc | apply Kd.R_drewN | apply Kd.R_drew)); exact HO_13.out⟩, ⟨by repeat (first | (with_reducible first | exact HB.out | apply below_alloc | apply pw_below_drewN | apply below_drew1) | exact HB.out)⟩⟩
                · rw [if_neg c21] at H
                  exact absurd H (by simp)
              · rw [if_neg c20] at H
                have c20b0 : decide (x14_2 < 32) = false := decide_eq_false c20
                clear c20
                replace H := Option.bind_eq_some_iff.mp H
                obtain ⟨t323, A260, H⟩ := H
                replace H : ((erasure_Fits.f k2 (l0.length : Int) x13_2 t323).bind fun bt326 => (if t310 = true then (if bt326.2 = 0 then (if bt326.1 = true then (if 0 ≤ (Int.tmod (wrap64 (a1)) 33) then (if (Int.tmod (wrap64 (a1)) 33) ≤ (t312.length : Int) then ((seamarkref29_Same.f k2 t316 (t312.take ((Int.tmod (wrap64 (a1)) 33) : Int).toNat)).bind fun t333 => (if t333 = true then (if 0 ≤ (l0.length : Int) then (if (l0.length : Int) ≤ (t312.length : Int) then ((seamarkref29_Same.f k2 (t312.take ((l0.length : Int) : Int).toNat) l0).bind fun t339 => (some t339)) else (none)) else (none)) else (none))) else (none)) else (none)) else (none)) else (none)) else (none))) = some r := H
                have A26 := Aside0.mk A260
                clear A260
                replace H := Option.bind_eq_some_iff.mp H
                obtain ⟨⟨t326, t327⟩, A270, H⟩ := H
                replace H : (if t310 = true then (if t327 = 0 then (if t326 = true then (if 0 ≤ (Int.tmod (wrap64 (a1)) 33) then (if (Int.tmod (wrap64 (a1)) 33) ≤ (t312.length : Int) then ((seamarkref29_Same.f k2 t316 (t312.take ((Int.tmod (wrap64 (a1)) 33) : Int).toNat)).bind fun t333 => (if t333 = true then (if 0 ≤ (l0.length : Int) then (if (l0.length : Int) ≤ (t312.length : Int) then ((seamarkref29_Same.f k2 (t312.take ((l0.length : Int) : Int).toNat) l0).bind fun t339 => (some t339)) else (none)) else (none)) else (none))) else (none)) else (none)) else (none)) else (none)) else (none)) = some r := H
                have A27 := Aside0.mk A270
                clear A270
                by_cases c28 : t310 = true
                · subst c28
                  have H1 : (if t327 = 0 then (if t326 = true then (if 0 ≤ (Int.tmod (wrap64 (a1)) 33) then (if (Int.tmod (wrap64 (a1)) 33) ≤ (t312.length : Int) then ((seamarkref29_Same.f k2 t316 (t312.take ((Int.tmod (wrap64 (a1)) 33) : Int).toNat)).bind fun t333 => (if t333 = true then (if 0 ≤ (l0.length : Int) then (if (l0.length : Int) ≤ (t312.length : Int) then ((seamarkref29_Same.f k2 (t312.take ((l0.length : Int) : Int).toNat) l0).bind fun t339 => (some t339)) else (none)) else (none)) else (none))) else (none)) else (none)) else (none)) else (none)) = some r := by rw [if_pos rfl] at H; exact H
                  clear H
                  have H := H1
                  clear H1
                  by_cases c29 : t327 = 0
                  · rw [if_pos c29] at H
                    have c29b0 : (t327 == 0) = true := beq_iff_eq.mpr c29
                    have c29b1 : (t327 != 0) = false := bne_eq_false_iff_eq.mpr c29
                    clear c29
                    by_cases c30 : t326 = true
                    · subst c30
                      have H1 : (if 0 ≤ (Int.tmod (wrap64 (a1)) 33) then (if (Int.tmod (wrap64 (a1)) 33) ≤ (t312.length : Int) then ((seamarkref29_Same.f k2 t316 (t312.take ((Int.tmod (wrap64 (a1)) 33) : Int).toNat)).bind fun t333 => (if t333 = true then (if 0 ≤ (l0.length : Int) then (if (l0.length : Int) ≤ (t312.length : Int) then ((seamarkref29_Same.f k2 (t312.take ((l0.length : Int) : Int).toNat) l0).bind fun t339 => (some t339)) else (none)) else (none)) else (none))) else (none)) else (none)) = some r := by rw [if_pos rfl] at H; exact H
                      clear H
                      have H := H1
                      clear H1
                      obtain ⟨ji31, hji31⟩ : ∃ j_ : Int, (Int.tmod (wrap64 (a1)) 33) = j_ := ⟨_, rfl⟩
                      replace H : (if 0 ≤ (ji31) then (if (ji31) ≤ (t312.length : Int) then ((seamarkref29_Same.f k2 t316 (t312.take ((ji31) : Int).toNat)).bind fun t333 => (if t333 = true then (if 0 ≤ (l0.length : Int) then (if (l0.length : Int) ≤ (t312.length : Int) then ((seamarkref29_Same.f k2 (t312.take ((l0.length : Int) : Int).toNat) l0).bind fun t339 => (some t339)) else (none)) else (none)) else (none))) else (none)) else (none)) = some r := by first | (rw [hji31] at H; exact H) | (simp only [hji31] at H ⊢; exact H)
                      (try rw [hji31] at A26)
                      (try rw [hji31] at A27)
                      by_cases c32 : 0 ≤ (ji31)
                      · rw [if_pos c32] at H
                        have c32b0 := eq_true c32
                        have c32b1 : decide (0 ≤ (ji31)) = true := decide_eq_true c32
                        clear c32
                        by_cases c33 : (ji31) ≤ (t312.length : Int)
                        · rw [if_pos c33] at H
                          have c33b0 := eq_true c33
                          have c33b1 : decide ((ji31) ≤ (t312.length : Int)) = true := decide_eq_true c33
                          clear c33
                          obtain ⟨y328, hy328⟩ : ∃ y_ : List (List Int), y_ = (t312.take ((ji31) : Int).toNat) := ⟨_, rfl⟩
                          replace H : ((seamarkref29_Same.f k2 t316 y328).bind fun t333 => (if t333 = true then (if 0 ≤ (l0.length : Int) then (if (l0.length : Int) ≤ (t312.length : Int) then ((seamarkref29_Same.f k2 (t312.take ((l0.length : Int) : Int).toNat) l0).bind fun t339 => (some t339)) else (none)) else (none)) else (none))) = some r := by first | (rw [hy328]; with_reducible exact H) | (have H2_ := (Option.bind_some _ _).symm.trans H; rw [hy328]; with_reducible exact H2_) | (have H2_ := (Option.bind_some _ _).symm.trans H; with_reducible exact H2_) | with_reducible exact H | (rw [hy328]; exact H) | exact H
                          have Ny328 := Aside0.mk hy328
                          clear hy328
                          replace H := Option.bind_eq_some_iff.mp H
                          obtain ⟨t333, A340, H⟩ := H
                          replace H : (if t333 = true then (if 0 ≤ (l0.length : Int) then (if (l0.length : Int) ≤ (t312.length : Int) then ((seamarkref29_Same.f k2 (t312.take ((l0.length : Int) : Int).toNat) l0).bind fun t339 => (some t339)) else (none)) else (none)) else (none)) = some r := H
                          have A34 := Aside0.mk A340
                          clear A340
                          by_cases c35 : t333 = true
                          · subst c35
                            have H1 : (if 0 ≤ (l0.length : Int) then (if (l0.length : Int) ≤ (t312.length : Int) then ((seamarkref29_Same.f k2 (t312.take ((l0.length : Int) : Int).toNat) l0).bind fun t339 => (some t339)) else (none)) else (none)) = some r := by rw [if_pos rfl] at H; exact H
                            clear H
                            have H := H1
                            clear H1
                            by_cases c36 : 0 ≤ (l0.length : Int)
                            · rw [if_pos c36] at H
                              have c36b0 := eq_true c36
                              have c36b1 : decide (0 ≤ (l0.length : Int)) = true := decide_eq_true c36
                              clear c36
                              by_cases c37 : (l0.length : Int) ≤ (t312.length : Int)
                              · rw [if_pos c37] at H
                                have c37b0 := eq_true c37
                                have c37b1 : decide ((l0.length : Int) ≤ (t312.length : Int)) = true := decide_eq_true c37
                                clear c37
                                obtain ⟨y334, hy334⟩ : ∃ y_ : List (List Int), y_ = (t312.take ((l0.length : Int) : Int).toNat) := ⟨_, rfl⟩
                                replace H : ((seamarkref29_Same.f k2 y334 l0).bind fun t339 => (some t339)) = some r := by first | (rw [hy334]; with_reducible exact H) | (have H2_ := (Option.bind_some _ _).symm.trans H; rw [hy334]; with_reducible exact H2_) | (have H2_ := (Option.bind_some _ _).symm.trans H; with_reducible exact H2_) | with_reducible exact H | (rw [hy334]; exact H) | exact H
                                have Ny334 := Aside0.mk hy334
                                clear hy334
                                replace H := Option.bind_eq_some_iff.mp H
                                obtain ⟨t339, A380, H⟩ := H
                                replace H : (some t339) = some r := H
                                have A38 := Aside0.mk A380
                                clear A380
                                obtain rfl := Option.some.inj H
                                obtain ⟨Ao39, co39, eo39⟩ := Kd.N_slice HO_8.out
                                subst eo39
                                obtain ⟨Ao40, co40, eo40⟩ := Kd.R_slice HO_13.out
                                subst eo40
                                go_wp2_with (first | ((with_reducible refine gate_callee (f := 18) rfl ?_); refine goesL_ (some 72) rfl rfl Try.func18 (by kernel_rfl) rfl #[.slice Ao39 t312.length co39, .slice Ao40 x13_2.length co40] rfl (by (try simp only [List.map_toArray, List.map_cons, List.map_nil]); first | done | rfl | (simp only [List.length_drop, List.length_take]; rfl)) ?_; (with_reducible refine (seamarklaw29_some.calls k2 (fun k_ => (some k_ ≠ (v318 : Value).ownBlock ∧ some k_ ≠ (.slice Ao40 x13_2.length co40 : Value).ownBlock)) _ _ t312 _ _ x13_2 t323 _ ?side1 ?side2 ?side3 A26.out).mono ?_); (case side1 => exact Kd.N_V (HO_8.out)); (case side2 => repeat (first | exact (Kd.R_reads' HO_13.out).2.2 | (with_reducible refine Kd.C_alloc ?_ _) | (with_reducible refine Kd.C_drewN ?_ _) | (with_reducible refine Kd.C_drew ?_))); (case side3 => exact (Kd.R_reads' HO_13.out).2.1); rintro e w41 ⟨v324, rfl, ho0, hb⟩; refine ⟨_, rfl, ?_⟩; have n0_ := Aside0.mk (Kd.N_elder' (by (with_reducible repeat (first | apply Kd.N_alloc | apply Kd.N_drewN | apply Kd.N_drew)); exact HO_8.out) (by first | exact Kd.N_base ho0 | exact Kd.S_base ho0 | exact Kd.R_base ho0) hb); have n1_ := Aside0.mk (Kd.N_elder' (by (with_reducible repeat (first | apply Kd.N_alloc | apply Kd.N_drewN | apply Kd.N_drew)); exact HO_11.out) (by first | exact Kd.N_base ho0 | exact Kd.S_base ho0 | exact Kd.R_base ho0) hb); have n2_ := Aside0.mk (Kd.R_below (by (with_reducible repeat (first | apply Kd.R_alloc | apply Kd.R_drewN | apply Kd.R_drew)); exact HO_13.out) hb); have n3_ := Aside0.mk (Kd.N_lower (Kd.N_mono (ok' := fun k_ => some k_ ≠ (v318 : Value).ownBlock ∧ some k_ ≠ (.slice Ao40 x13_2.length co40 : Value).ownBlock) ho0 (fun k_ hk_ => ⟨Or.elim hk_ (fun hs_ => hs_.1) (fun hn_ => (Kd.fresh' (Kd.N_lt (by (with_reducible repeat (first | apply Kd.N_alloc | apply Kd.N_drewN | apply Kd.N_drew)); exact HO_11.out)) k_ hn_)), Or.elim hk_ (fun hs_ => hs_.2) (fun hn_ => (Kd.fresh' (Kd.R_lt (by (with_reducible repeat (first | apply Kd.R_alloc | apply Kd.R_drewN | apply Kd.R_drew)); exact HO_13.out)) k_ hn_))⟩)) (below_size (by repeat (first | (with_reducible first | exact HB.out | apply below_alloc | apply pw_below_drewN | apply below_drew1) | exact HB.out)))); have n4_ := Aside0.mk (below_step (by repeat (first | (with_reducible first | exact HB.out | apply below_alloc | apply pw_below_drewN | apply below_drew1) | exact HB.out)) hb); clear HO_8; clear HO_11; clear HO_13; clear HB; have HO_8 := n0_; have HO_11 := n1_; have HO_13 := n2_; have HO325 := n3_; have HB := n4_; clear n0_ n1_ n2_ n3_ n4_; (try clear hb); (try clear hb2); (try clear hk); (try clear hi); (try clear ho0); obtain ⟨Ao42, co42, eo42⟩ := Kd.N_slice HO325.out; subst eo42) | ((with_reducible refine gate_callee (f := 20) rfl ?_); refine goesL_ (some 73) rfl rfl Try.func20 (by kernel_rfl) rfl #[.int .i64 (l0.length : Int), .slice Ao40 x13_2.length co40, .slice Ao42 t323.length co42] rfl (by (try simp only [List.map_toArray, List.map_cons, List.map_nil]); first | done | rfl | (simp only [List.length_drop, List.length_take]; rfl)) ?_; (with_reducible refine (erasure_Fits.calls k2 (l0.length : Int) _ _ x13_2 _ _ t323 true t327 _ ?side1 ?side2 ?side3 ?side4 A27.out).mono ?_); (case side1 => repeat (first | exact (Kd.R_reads' HO_13.out).2.2 | (with_reducible refine Kd.C_alloc ?_ _) | (with_reducible refine Kd.C_drewN ?_ _) | (with_reducible refine Kd.C_drew ?_))); (case side2 => exact (Kd.R_reads' HO_13.out).2.1); (case side3 => repeat (first | exact (Kd.N_reads' HO325.out).2.2 | (with_reducible refine Kd.C_alloc ?_ _) | (with_reducible refine Kd.C_drewN ?_ _) | (with_reducible refine Kd.C_drew ?_))); (case side4 => exact (Kd.N_reads' HO325.out).2.1); rintro e w43 ⟨rfl, hb⟩; refine ⟨_, rfl, ?_⟩; have n0_ := Aside0.mk (Kd.N_below (by (with_reducible repeat (first | apply Kd.N_alloc | apply Kd.N_drewN | apply Kd.N_drew)); exact HO_8.out) hb); have n1_ := Aside0.mk (Kd.N_below (by (with_reducible repeat (first | apply Kd.N_alloc | apply Kd.N_drewN | apply Kd.N_drew)); exact HO_11.out) hb); have n2_ := Aside0.mk (Kd.R_below (by (with_reducible repeat (first | apply Kd.R_alloc | apply Kd.R_drewN | apply Kd.R_drew)); exact HO_13.out) hb); have n3_ := Aside0.mk (Kd.N_below (by (with_reducible repeat (first | apply Kd.N_alloc | apply Kd.N_drewN | apply Kd.N_drew)); exact HO325.out) hb); have n4_ := Aside0.mk (below_step (by repeat (first | (with_reducible first | exact HB.out | apply below_alloc | apply pw_below_drewN | apply below_drew1) | exact HB.out)) hb); clear HO_8; clear HO_11; clear HO_13; clear HO325; clear HB; have HO_8 := n0_; have HO_11 := n1_; have HO_13 := n2_; have HO325 := n3_; have HB := n4_; clear n0_ n1_ n2_ n3_ n4_; (try clear hb); (try clear hb2); (try clear hk); (try clear hi); have q44 : ((ji31) : Int) ≤ ((t312.length : Int) : Int) := of_decide_eq_true (by first | (with_reducible assumption) | assumption); obtain ⟨i044, hi044, _, hsz44, _⟩ := info_parts info29; have hroom44 : t312.length ≤ co39 := (Kd.N_reads' HO_8.out).2.1; have hC44 : Kd.F (Kd.slice 5 (Kd.int .u8)) _ _ Ao39 t312.length t312 := (Kd.V_at (base := w.heap.size) (Kd.N_V HO_8.out)).2.2; have hcut44 := cut_to (P := Try.prog) 28 29 .i64 Try.underlying28 hi044 Ao39 t312.length co39 (ji31) (of_decide_eq_true (by first | (with_reducible assumption) | assumption)) q44 hroom44; have hr44 := Kd.F_take (m := ((ji31) : Int).toNat) hC44 (by omega); have hy44 : y328.length = ((ji31) : Int).toNat := (by rw [Ny328.out, List.length_take]; omega); rw [← Ny328.out] at hr44; rw [← hy44] at hcut44; have HO332 := Aside0.mk (show Kd.V (Kd.slice 5 (Kd.int .u8)) 29 _ w.heap.size _ (.slice Ao39 y328.length co39) y328 from Kd.V_mk (by omega) hr44); have HC332 := Aside0.mk (show y328.length ≤ co39 from by omega); clear hr44 hC44 hroom44 hi044 hsz44; have KY44 := Aside0.mk hy44; clear hy44; replace q44 := eq_true q44; obtain ⟨Ao45, co45, eo45⟩ := Kd.N_slice HO_11.out; subst eo45) | (go_at_call 19; (with_reducible refine (seamarkref29_Same.calls k2 _ _ t316 _ _ y328 true _ ?side1 ?side2 ?side3 ?side4 A34.out).mono ?_); (case side1 => repeat (first | exact (Kd.N_reads' HO_11.out).2.2 | (with_reducible refine Kd.C_alloc ?_ _) | (with_reducible refine Kd.C_drewN ?_ _) | (with_reducible refine Kd.C_drew ?_))); (case side2 => exact (Kd.N_reads' HO_11.out).2.1); (case side3 => repeat (first | exact (Kd.V_reads' HO332.out).2.2 | (with_reducible refine Kd.C_alloc ?_ _) | (with_reducible refine Kd.C_drewN ?_ _) | (with_reducible refine Kd.C_drew ?_))); (case side4 => exact (Kd.V_reads' HO332.out).2.1); rintro e w' ⟨rfl, ⟨nd, rfl⟩⟩; have q46 : ((l0.length : Int) : Int) ≤ ((t312.length : Int) : Int) := of_decide_eq_true (by first | (with_reducible assumption) | assumption); obtain ⟨i046, hi046, _, hsz46, _⟩ := info_parts info29; have hroom46 : t312.length ≤ co39 := (Kd.N_reads' HO_8.out).2.1; have hC46 : Kd.F (Kd.slice 5 (Kd.int .u8)) _ _ Ao39 t312.length t312 := (Kd.V_at (base := w.heap.size) (Kd.N_V HO_8.out)).2.2; have hcut46 := cut_to (P := Try.prog) 28 29 .i64 Try.underlying28 hi046 Ao39 t312.length co39 (l0.length : Int) (of_decide_eq_true (by first | (with_reducible assumption) | assumption)) q46 hroom46; have hr46 := Kd.F_take (m := ((l0.length : Int) : Int).toNat) hC46 (by omega); have hy46 : y334.length = ((l0.length : Int) : Int).toNat := (by rw [Ny334.out, List.length_take]; omega); rw [← Ny334.out] at hr46; rw [← hy46] at hcut46; have HO338 := Aside0.mk (show Kd.V (Kd.slice 5 (Kd.int .u8)) 29 _ w.heap.size _ (.slice Ao39 y334.length co39) y334 from Kd.V_mk (by omega) hr46); have HC338 := Aside0.mk (show y334.length ≤ co39 from by omega); clear hr46 hC46 hroom46 hi046 hsz46; have KY46 := Aside0.mk hy46; clear hy46; replace q46 := eq_true q46) | (go_at_call 19; (with_reducible refine (seamarkref29_Same.calls k2 _ _ y334 _ _ l0 t339 _ ?side1 ?side2 ?side3 ?side4 A38.out).mono ?_); (case side1 => repeat (first | exact (Kd.V_reads' HO338.out).2.2 | (with_reducible refine Kd.C_alloc ?_ _) | (with_reducible refine Kd.C_drewN ?_ _) | (with_reducible refine Kd.C_drew ?_))); (case side2 => exact (Kd.V_reads' HO338.out).2.1); (case side3 => repeat (first | exact (Kd.C_below HR0.out (by repeat (first | (with_reducible first | exact HB.out | apply below_alloc | apply pw_below_drewN | apply below_drew1) | exact HB.out))) | (with_reducible refine Kd.C_alloc ?_ _) | (with_reducible refine Kd.C_drewN ?_ _) | (with_reducible refine Kd.C_drew ?_))); (case side4 => exact HC0.out); rintro e w' ⟨rfl, ⟨nd, rfl⟩⟩))
                                go_ret
                                exact ⟨by first | rfl | (simp [errW_none, errW_some] <;> rfl) | (simp only [← hji31]; first | rfl | (simp [errW_none, errW_some] <;> rfl)) | (simp [*, errW_none, errW_some] <;> rfl), by repeat (first | (with_reducible first | exact HB.out | apply below_alloc | apply pw_below_drewN | apply below_drew1) | exact HB.out)⟩
                              · rw [if_neg c37] at H
                                exact absurd H (by simp)
                            · rw [if_neg c36] at H
                              exact absurd H (by simp)
                          · replace c35 := Bool.eq_false_iff.mpr c35
                            subst c35
                            have H1 : (none) = some r := by rw [if_neg (show ¬ (false = true) by decide)] at H; exact H
                            clear H
                            have H := H1
                            clear H1
                            exact absurd H (by simp)
                        · rw [if_neg c33] at H
                          exact absurd H (by simp)
                      · rw [if_neg c32] at H
                        exact absurd H (by simp)
                    · replace c30 := Bool.eq_false_iff.mpr c30
                      subst c30
                      have H1 : (none) = some r := by rw [if_neg (show ¬ (false = true) by decide)] at H; exact H
                      clear H
                      have H := H1
                      clear H1
                      exact absurd H (by simp)
                  · rw [if_neg c29] at H
                    exact absurd H (by simp)
                · replace c28 := Bool.eq_false_iff.mpr c28
                  subst c28
                  have H1 : (none) = some r := by rw [if_neg (show ¬ (false = true) by decide)] at H; exact H
                  clear H
                  have H := H1
                  clear H1
                  exact absurd H (by simp)
  · replace c6 := Bool.eq_false_iff.mpr c6
    subst c6
    have H1 : (some t310) = some r := by rw [if_neg (show ¬ (false = true) by decide)] at H; exact H
    clear H
    have H := H1
    clear H1
    obtain rfl := Option.some.inj H
    go_enter Try.func5, Try.ntmps5
    go_wp2_with (first | ((with_reducible refine gate_callee (f := 11) rfl ?_); refine goesL_ (some 17) rfl rfl Try.func11 (by kernel_rfl) rfl #[] rfl (by (try simp only [List.map_toArray, List.map_cons, List.map_nil]); first | done | rfl | (simp only [List.length_drop, List.length_take]; rfl)) ?_; (with_reducible refine (seamarklaw29_head.calls k  t310 _ A4.out).mono ?_); rintro e w47 ⟨rfl, hb⟩; refine ⟨_, rfl, ?_⟩; have n0_ := Aside0.mk (below_step (by repeat (first | (with_reducible first | exact HB.out | apply below_alloc | apply pw_below_drewN | apply below_drew1) | exact HB.out)) hb); clear HB; have HB := n0_; clear n0_; (try clear hb); (try clear hb2); (try clear hk); (try clear hi)) | ((with_reducible refine gate_callee (f := 14) rfl ?_); refine goesL_ (some 19) rfl rfl Try.func14 (by kernel_rfl) rfl #[.slice A0 l0.length c0] rfl (by (try simp only [List.map_toArray, List.map_cons, List.map_nil]); first | done | rfl | (simp only [List.length_drop, List.length_take]; rfl)) ?_; (with_reducible refine (seamarklaw29_few.calls k _ _ l0 false _ ?side1 ?side2 A5.out).mono ?_); (case side1 => repeat (first | exact (Kd.C_below HR0.out HB.out) | (with_reducible refine Kd.C_alloc ?_ _) | (with_reducible refine Kd.C_drewN ?_ _) | (with_reducible refine Kd.C_drew ?_))); (case side2 => exact HC0.out); rintro e w' ⟨rfl, ⟨nd, rfl⟩⟩; refine ⟨_, rfl, ?_⟩))
    go_ret
    exact ⟨by first | rfl | (simp [errW_none, errW_some] <;> rfl) | (simp [*, errW_none, errW_some] <;> rfl), by repeat (first | (with_reducible first | exact HB.out | apply below_alloc | apply pw_below_drewN | apply below_drew1) | exact HB.out)⟩

end Go.Proofs.Ytcjjohealloglaa.E
