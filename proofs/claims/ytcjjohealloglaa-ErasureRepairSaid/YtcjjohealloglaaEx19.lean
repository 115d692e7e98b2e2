-- by drive.py (this session's program: it runs print.py beside functions proved by hand). Lean checks it.
import Derived.Test.YtcjjohealloglaaEx0
import Derived.Test.YtcjjohealloglaaEx3
import Derived.Test.YtcjjohealloglaaEx6
import Derived.Test.YtcjjohealloglaaEx7
import Derived.Test.YtcjjohealloglaaEx8
import Derived.Test.YtcjjohealloglaaEx9
import Derived.Test.YtcjjohealloglaaEx17
namespace Go.Proofs.Ytcjjohealloglaa.E
open Go.RowKit Go.Proofs.YtcjjohealloglaaW.PrintWords Go.Proofs.YtcjjohealloglaaW.PrintLast Go.Proofs.YtcjjohealloglaaW.PrintMore
attribute [local go_sem] max2_int min2_int max_two min_two max_three min_three max_four min_four   -- for this text's walks alone
set_option linter.unusedVariables false
set_option linter.unusedSimpArgs false

/-! ### seamarklaw29_ErasureRepair: function 9 -/
def seamarklaw29_ErasureRepair.j0 : Nat → List (List Int) → List Int → Int → Bool → List (List Int) → Bool → Option (Bool)
  | 0, _, _, _, _, _, _ => none
  | k + 1, x0, x1, x2, x7, x8, x30 => if x30 = true then (none) else ((seamarklaw29_chosen.f k (x0.length : Int) 32 x1).bind fun t583 => ((seamarklaw29_some.f k x8 t583).bind fun t586 => ((erasure_Repair.f k (x0.length : Int) t583 t586 (Int.tmod (wrap64 (x2)) 32)).bind fun bt589 => (if x7 = true then (if bt589.2 = 0 then (if 0 ≤ (Int.tmod (wrap64 (x2)) 32) then (if (Int.tmod (wrap64 (x2)) 32) < (x8.length : Int) then ((seamarkref29_Bytes.f k bt589.1 (rd_L1 x8 (Int.tmod (wrap64 (x2)) 32))).bind fun t594 => (some t594)) else (none)) else (none)) else (none)) else (none)))))
def seamarklaw29_ErasureRepair.f (k : Nat) (l0 : List (List Int)) (l1 : List Int) (a2 : Int) : Option (Bool) := (seamarklaw29_head.f k).bind fun t577 => ((seamarklaw29_few.f k l0).bind fun t578 => (if t578 = true then ((erasure_Code.f k l0 32).bind fun bt579 => (if bt579.2 = 0 then (seamarklaw29_ErasureRepair.j0 k l0 l1 a2 t577 bt579.1 ((bt579.1.length : Int) != 32)) else (seamarklaw29_ErasureRepair.j0 k l0 l1 a2 t577 bt579.1 true))) else (some t577)))
theorem seamarklaw29_ErasureRepair.mono_l : ∀ k, (∀ y0 y1 y2 y3 y4 y5, LeO (seamarklaw29_ErasureRepair.j0 k y0 y1 y2 y3 y4 y5) (seamarklaw29_ErasureRepair.j0 (k + 1) y0 y1 y2 y3 y4 y5))
  | 0 => fun _ _ _ _ _ _ r h => by simp [seamarklaw29_ErasureRepair.j0] at h
  | k + 1 => by
    have ih0 := seamarklaw29_ErasureRepair.mono_l k
    · intro y0 y1 y2 y3 y4 y5
      unfold seamarklaw29_ErasureRepair.j0
      repeat' first
      | (with_reducible exact ih0 _ _ _ _ _ _)
      | (with_reducible exact erasure_Code.mono _ _ _)
      | (with_reducible exact erasure_Repair.mono _ _ _ _ _)
      | (with_reducible exact seamarklaw29_chosen.mono _ _ _ _)
      | (with_reducible exact seamarklaw29_few.mono _ _)
      | (with_reducible exact seamarklaw29_head.mono _)
      | (with_reducible exact seamarklaw29_some.mono _ _ _)
      | (with_reducible exact seamarkref29_Bytes.mono _ _ _)
      | (with_reducible exact LeO.refl _)
      | (with_reducible exact LeO.none _)
      | (with_reducible refine LeO.ite ?_ ?_)
      | (with_reducible refine LeO.bind ?_ (fun _ => ?_))
      | exact ih0 _ _ _ _ _ _
      | exact erasure_Code.mono _ _ _
      | exact erasure_Repair.mono _ _ _ _ _
      | exact seamarklaw29_chosen.mono _ _ _ _
      | exact seamarklaw29_few.mono _ _
      | exact seamarklaw29_head.mono _
      | exact seamarklaw29_some.mono _ _ _
      | exact seamarkref29_Bytes.mono _ _ _
      | exact LeO.none _
      | refine LeO.ite ?_ ?_
      | refine LeO.bind ?_ (fun _ => ?_)
theorem seamarklaw29_ErasureRepair.mono : ∀ a0 a1 a2 k, LeO (seamarklaw29_ErasureRepair.f k a0 a1 a2) (seamarklaw29_ErasureRepair.f (k + 1) a0 a1 a2) := by
  intro a0 a1 a2 k
  have ih0 := seamarklaw29_ErasureRepair.mono_l k
  unfold seamarklaw29_ErasureRepair.f
  repeat' first
      | (with_reducible exact ih0 _ _ _ _ _ _)
      | (with_reducible exact erasure_Code.mono _ _ _)
      | (with_reducible exact erasure_Repair.mono _ _ _ _ _)
      | (with_reducible exact seamarklaw29_chosen.mono _ _ _ _)
      | (with_reducible exact seamarklaw29_few.mono _ _)
      | (with_reducible exact seamarklaw29_head.mono _)
      | (with_reducible exact seamarklaw29_some.mono _ _ _)
      | (with_reducible exact seamarkref29_Bytes.mono _ _ _)
      | (with_reducible exact LeO.refl _)
      | (with_reducible exact LeO.none _)
      | (with_reducible refine LeO.ite ?_ ?_)
      | (with_reducible refine LeO.bind ?_ (fun _ => ?_))
      | exact ih0 _ _ _ _ _ _
      | exact erasure_Code.mono _ _ _
      | exact erasure_Repair.mono _ _ _ _ _
      | exact seamarklaw29_chosen.mono _ _ _ _
      | exact seamarklaw29_few.mono _ _
      | exact seamarklaw29_head.mono _
      | exact seamarklaw29_some.mono _ _ _
      | exact seamarkref29_Bytes.mono _ _ _
      | exact LeO.none _
      | refine LeO.ite ?_ ?_
      | refine LeO.bind ?_ (fun _ => ?_)
set_option maxHeartbeats 8000000 in
set_option maxRecDepth 100000 in
theorem seamarklaw29_ErasureRepair.calls (k : Nat) (A0 : Option Addr) (c0 : Nat) (l0 : List (List Int)) (A1 : Option Addr) (c1 : Nat) (l1 : List Int) (a2 : Int) (r : Bool) (w : World) (hr0 : Kd.C (Kd.slice 5 (Kd.int .u8)) w A0 l0.length l0) (hc0 : l0.length ≤ c0) (hr1 : Kd.C (Kd.int .u8) w A1 l1.length l1) (hc1 : l1.length ≤ c1) (h : seamarklaw29_ErasureRepair.f k l0 l1 a2 = some r) :
    Calls Try.prog 9 #[.slice A0 l0.length c0, .slice A1 l1.length c1, .int .u8 a2] w fun e w' => e = .returned (.bool r) ∧ Below w.heap.size w w' := by
  have HR0 := Aside0.mk hr0
  have HC0 := Aside0.mk hc0
  clear hr0 hc0
  have HR1 := Aside0.mk hr1
  have HC1 := Aside0.mk hc1
  clear hr1 hc1
  have HB := Aside0.mk (Below.refl w.heap.size w)
  have H : ((seamarklaw29_head.f k).bind fun t577 => ((seamarklaw29_few.f k l0).bind fun t578 => (if t578 = true then ((erasure_Code.f k l0 32).bind fun bt579 => (if bt579.2 = 0 then (seamarklaw29_ErasureRepair.j0 k l0 l1 a2 t577 bt579.1 ((bt579.1.length : Int) != 32)) else (seamarklaw29_ErasureRepair.j0 k l0 l1 a2 t577 bt579.1 true))) else (some t577)))) = some r := h
  clear h
  replace H := Option.bind_eq_some_iff.mp H
  obtain ⟨t577, A40, H⟩ := H
  replace H : ((seamarklaw29_few.f k l0).bind fun t578 => (if t578 = true then ((erasure_Code.f k l0 32).bind fun bt579 => (if bt579.2 = 0 then (seamarklaw29_ErasureRepair.j0 k l0 l1 a2 t577 bt579.1 ((bt579.1.length : Int) != 32)) else (seamarklaw29_ErasureRepair.j0 k l0 l1 a2 t577 bt579.1 true))) else (some t577))) = some r := H
  have A4 := Aside0.mk A40
  clear A40
  replace H := Option.bind_eq_some_iff.mp H
  obtain ⟨t578, A50, H⟩ := H
  replace H : (if t578 = true then ((erasure_Code.f k l0 32).bind fun bt579 => (if bt579.2 = 0 then (seamarklaw29_ErasureRepair.j0 k l0 l1 a2 t577 bt579.1 ((bt579.1.length : Int) != 32)) else (seamarklaw29_ErasureRepair.j0 k l0 l1 a2 t577 bt579.1 true))) else (some t577)) = some r := H
  have A5 := Aside0.mk A50
  clear A50
  by_cases c6 : t578 = true
  · subst c6
    have H1 : ((erasure_Code.f k l0 32).bind fun bt579 => (if bt579.2 = 0 then (seamarklaw29_ErasureRepair.j0 k l0 l1 a2 t577 bt579.1 ((bt579.1.length : Int) != 32)) else (seamarklaw29_ErasureRepair.j0 k l0 l1 a2 t577 bt579.1 true))) = some r := by rw [if_pos rfl] at H; exact H
    clear H
    have H := H1
    clear H1
    replace H := Option.bind_eq_some_iff.mp H
    obtain ⟨⟨t579, t580⟩, A70, H⟩ := H
    replace H : (if t580 = 0 then (seamarklaw29_ErasureRepair.j0 k l0 l1 a2 t577 t579 ((t579.length : Int) != 32)) else (seamarklaw29_ErasureRepair.j0 k l0 l1 a2 t577 t579 true)) = some r := H
    have A7 := Aside0.mk A70
    clear A70
    have HC8 := Aside0.mk H
    clear H
    go_enter Try.func9, Try.ntmps9
    go_upto_region 5 with (first | ((with_reducible refine gate_callee (f := 11) rfl ?_); refine goesL_ (some 14) rfl rfl Try.func11 (by kernel_rfl) rfl #[] rfl (by (try simp only [List.map_toArray, List.map_cons, List.map_nil]); first | done | rfl | (simp only [List.length_drop, List.length_take]; rfl)) ?_; (with_reducible refine (seamarklaw29_head.calls k  t577 _ A4.out).mono ?_); rintro e w9 ⟨rfl, hb⟩; refine ⟨_, rfl, ?_⟩; have n0_ := Aside0.mk (below_step (by repeat (first | (with_reducible first | exact HB.out | apply below_alloc | apply pw_below_drewN | apply below_drew1) | exact HB.out)) hb); clear HB; have HB := n0_; clear n0_; (try clear hb); (try clear hb2); (try clear hk); (try clear hi)) | ((with_reducible refine gate_callee (f := 14) rfl ?_); refine goesL_ (some 16) rfl rfl Try.func14 (by kernel_rfl) rfl #[.slice A0 l0.length c0] rfl (by (try simp only [List.map_toArray, List.map_cons, List.map_nil]); first | done | rfl | (simp only [List.length_drop, List.length_take]; rfl)) ?_; (with_reducible refine (seamarklaw29_few.calls k _ _ l0 true _ ?side1 ?side2 A5.out).mono ?_); (case side1 => repeat (first | exact (Kd.C_below HR0.out HB.out) | (with_reducible refine Kd.C_alloc ?_ _) | (with_reducible refine Kd.C_drewN ?_ _) | (with_reducible refine Kd.C_drew ?_))); (case side2 => exact HC0.out); rintro e w' ⟨rfl, ⟨nd, rfl⟩⟩; refine ⟨_, rfl, ?_⟩) | ((with_reducible refine gate_callee (f := 15) rfl ?_); refine goesL_ (some 21) rfl rfl Try.func15 (by kernel_rfl) rfl #[.slice A0 l0.length c0, .int .i64 32] rfl (by (try simp only [List.map_toArray, List.map_cons, List.map_nil]); first | done | rfl | (simp only [List.length_drop, List.length_take]; rfl)) ?_; (with_reducible refine (erasure_Code.calls k _ _ l0 32 t579 t580 _ ?side1 ?side2 A7.out).mono ?_); (case side1 => repeat (first | exact (Kd.C_below HR0.out (by repeat (first | (with_reducible first | exact HB.out | apply below_alloc | apply pw_below_drewN | apply below_drew1) | exact HB.out))) | (with_reducible refine Kd.C_alloc ?_ _) | (with_reducible refine Kd.C_drewN ?_ _) | (with_reducible refine Kd.C_drew ?_))); (case side2 => exact HC0.out); rintro e w10 ⟨v581, rfl, ho0, hb⟩; refine ⟨_, rfl, ?_⟩; have n0_ := Aside0.mk (Kd.N_lower (Kd.N_mono (ok' := fun k_ => True) (Kd.S_N (Kd.S_bound ho0)) (fun k_ hk_ => trivial)) (below_size (by repeat (first | (with_reducible first | exact HB.out | apply below_alloc | apply pw_below_drewN | apply below_drew1) | exact HB.out)))); have n1_ := Aside0.mk (below_step (by repeat (first | (with_reducible first | exact HB.out | apply below_alloc | apply pw_below_drewN | apply below_drew1) | exact HB.out)) hb); clear HB; have HO582 := n0_; have HB := n1_; clear n0_ n1_; (try clear hb); (try clear hb2); (try clear hk); (try clear hi); (try clear ho0)))
    (try simp only [Act.put, List.setIfInBounds_toArray, List.set_cons_zero, List.set_cons_succ])
    go_cut [30] (fun v30 wc => ∃ (kq : Nat) (x30_7 : Bool), v30 = .bool x30_7 ∧ Aside0 (seamarklaw29_ErasureRepair.j0 kq l0 l1 a2 t577 t579 x30_7 = some r) ∧ Aside0 (kq ≤ k) ∧ Aside0 (Kd.N (Kd.slice 5 (Kd.int .u8)) 29 wc w.heap.size (fun _ => True) v581 t579) ∧ Aside0 (Below w.heap.size w wc))
    case first =>
      have H := HC8.out
      clear HC8
      by_cases c11 : t580 = 0
      · rw [if_pos c11] at H
        have c11b0 : (t580 == 0) = true := beq_iff_eq.mpr c11
        have c11b1 : (t580 != 0) = false := bne_eq_false_iff_eq.mpr c11
        clear c11
        (first | rw [c11b0] | (simp only [i64_w, i32_w]; rw [c11b0]) | skip)
        have H' := Aside0.mk H
        clear H
        obtain ⟨Ao12, co12, eo12⟩ := Kd.N_slice HO582.out
        subst eo12
        go_wp2
        go_meet
        case rel => exact ⟨_, (((t579.length : Int) != 32)), (by first | rfl | (simp; done) | (simp [*]; done)), H', ⟨by first | omega | exact Nat.le_refl _⟩, ⟨by (with_reducible repeat (first | apply Kd.N_alloc | apply Kd.N_drewN | apply Kd.N_drew)); exact HO582.out⟩, ⟨by repeat (first | (with_reducible first | exact HB.out | apply below_alloc | apply pw_below_drewN | apply below_drew1) | exact HB.out)⟩⟩
      · rw [if_neg c11] at H
        have c11b0 : (t580 == 0) = false := beq_eq_false_iff_ne.mpr c11
        have c11b1 : (t580 != 0) = true := bne_iff_ne.mpr c11
        (first | rw [c11b0] | (simp only [i64_w, i32_w]; rw [c11b0]) | skip)
        have H' := Aside0.mk H
        clear H
        go_wp2
        go_meet
        case rel => exact ⟨_, (true), (by first | rfl | (simp; done) | (simp [*]; done)), H', ⟨by first | omega | exact Nat.le_refl _⟩, ⟨by (with_reducible repeat (first | apply Kd.N_alloc | apply Kd.N_drewN | apply Kd.N_drew)); exact HO582.out⟩, ⟨by repeat (first | (with_reducible first | exact HB.out | apply below_alloc | apply pw_below_drewN | apply below_drew1) | exact HB.out)⟩⟩
    case rest =>
      clear HC8
      (try clear c1); (try clear p2); (try clear c6); (try clear c9); (try clear c11); (try clear c11b0); (try clear c11b1)
      obtain ⟨kq, x30_7, rfl, HA, HJ7, HO_8, HB⟩ := hcut
      cases kq with
      | zero => exact absurd HA.out (by simp [seamarklaw29_ErasureRepair.j0])
      | succ kj7 =>
        have H := HA.out
        clear HA
        simp only [seamarklaw29_ErasureRepair.j0] at H
        by_cases c13 : x30_7 = true
        · subst c13
          have H1 : (none) = some r := by rw [if_pos rfl] at H; exact H
          clear H
          have H := H1
          clear H1
          exact absurd H (by simp)
        · replace c13 := Bool.eq_false_iff.mpr c13
          subst c13
          have H1 : ((seamarklaw29_chosen.f kj7 (l0.length : Int) 32 l1).bind fun t583 => ((seamarklaw29_some.f kj7 t579 t583).bind fun t586 => ((erasure_Repair.f kj7 (l0.length : Int) t583 t586 (Int.tmod (wrap64 (a2)) 32)).bind fun bt589 => (if t577 = true then (if bt589.2 = 0 then (if 0 ≤ (Int.tmod (wrap64 (a2)) 32) then (if (Int.tmod (wrap64 (a2)) 32) < (t579.length : Int) then ((seamarkref29_Bytes.f kj7 bt589.1 (rd_L1 t579 (Int.tmod (wrap64 (a2)) 32))).bind fun t594 => (some t594)) else (none)) else (none)) else (none)) else (none))))) = some r := by rw [if_neg (show ¬ (false = true) by decide)] at H; exact H
          clear H
          have H := H1
          clear H1
          replace H := Option.bind_eq_some_iff.mp H
          obtain ⟨t583, A140, H⟩ := H
          replace H : ((seamarklaw29_some.f kj7 t579 t583).bind fun t586 => ((erasure_Repair.f kj7 (l0.length : Int) t583 t586 (Int.tmod (wrap64 (a2)) 32)).bind fun bt589 => (if t577 = true then (if bt589.2 = 0 then (if 0 ≤ (Int.tmod (wrap64 (a2)) 32) then (if (Int.tmod (wrap64 (a2)) 32) < (t579.length : Int) then ((seamarkref29_Bytes.f kj7 bt589.1 (rd_L1 t579 (Int.tmod (wrap64 (a2)) 32))).bind fun t594 => (some t594)) else (none)) else (none)) else (none)) else (none)))) = some r := H
          have A14 := Aside0.mk A140
          clear A140
          replace H := Option.bind_eq_some_iff.mp H
          obtain ⟨t586, A150, H⟩ := H
          replace H : ((erasure_Repair.f kj7 (l0.length : Int) t583 t586 (Int.tmod (wrap64 (a2)) 32)).bind fun bt589 => (if t577 = true then (if bt589.2 = 0 then (if 0 ≤ (Int.tmod (wrap64 (a2)) 32) then (if (Int.tmod (wrap64 (a2)) 32) < (t579.length : Int) then ((seamarkref29_Bytes.f kj7 bt589.1 (rd_L1 t579 (Int.tmod (wrap64 (a2)) 32))).bind fun t594 => (some t594)) else (none)) else (none)) else (none)) else (none))) = some r := H
          have A15 := Aside0.mk A150
          clear A150
          replace H := Option.bind_eq_some_iff.mp H
          obtain ⟨⟨t589, t590⟩, A160, H⟩ := H
          replace H : (if t577 = true then (if t590 = 0 then (if 0 ≤ (Int.tmod (wrap64 (a2)) 32) then (if (Int.tmod (wrap64 (a2)) 32) < (t579.length : Int) then ((seamarkref29_Bytes.f kj7 t589 (rd_L1 t579 (Int.tmod (wrap64 (a2)) 32))).bind fun t594 => (some t594)) else (none)) else (none)) else (none)) else (none)) = some r := H
          have A16 := Aside0.mk A160
          clear A160
          by_cases c17 : t577 = true
          · subst c17
            have H1 : (if t590 = 0 then (if 0 ≤ (Int.tmod (wrap64 (a2)) 32) then (if (Int.tmod (wrap64 (a2)) 32) < (t579.length : Int) then ((seamarkref29_Bytes.f kj7 t589 (rd_L1 t579 (Int.tmod (wrap64 (a2)) 32))).bind fun t594 => (some t594)) else (none)) else (none)) else (none)) = some r := by rw [if_pos rfl] at H; exact H
            clear H
            have H := H1
            clear H1
            by_cases c18 : t590 = 0
            · rw [if_pos c18] at H
              have c18b0 : (t590 == 0) = true := beq_iff_eq.mpr c18
              have c18b1 : (t590 != 0) = false := bne_eq_false_iff_eq.mpr c18
              clear c18
              obtain ⟨ji19, hji19⟩ : ∃ j_ : Int, (Int.tmod (wrap64 (a2)) 32) = j_ := ⟨_, rfl⟩
              replace H : (if 0 ≤ (ji19) then (if (ji19) < (t579.length : Int) then ((seamarkref29_Bytes.f kj7 t589 (rd_L1 t579 (ji19))).bind fun t594 => (some t594)) else (none)) else (none)) = some r := by first | (rw [hji19] at H; exact H) | (simp only [hji19] at H ⊢; exact H)
              (try rw [hji19] at A14)
              (try rw [hji19] at A15)
              (try rw [hji19] at A16)
              by_cases c20 : 0 ≤ (ji19)
              · rw [if_pos c20] at H
                have c20b0 : decide (0 ≤ (ji19)) = true := decide_eq_true c20
                clear c20
                by_cases c21 : (ji19) < (t579.length : Int)
                · rw [if_pos c21] at H
                  have c21b0 : decide ((ji19) < (t579.length : Int)) = true := decide_eq_true c21
                  clear c21
                  replace H := Option.bind_eq_some_iff.mp H
                  obtain ⟨t594, A220, H⟩ := H
                  replace H : (some t594) = some r := H
                  have A22 := Aside0.mk A220
                  clear A220
                  obtain rfl := Option.some.inj H
                  go_wp2_with (first | ((with_reducible refine gate_callee (f := 16) rfl ?_); refine goesL_ (some 34) rfl rfl Try.func16 (by kernel_rfl) rfl #[.int .i64 (l0.length : Int), .int .i64 32, .slice A1 l1.length c1] rfl (by (try simp only [List.map_toArray, List.map_cons, List.map_nil]); first | done | rfl | (simp only [List.length_drop, List.length_take]; rfl)) ?_; (with_reducible refine (seamarklaw29_chosen.calls kj7 (l0.length : Int) 32 _ _ l1 t583 _ ?side1 ?side2 A14.out).mono ?_); (case side1 => repeat (first | exact (Kd.C_below HR1.out HB.out) | (with_reducible refine Kd.C_alloc ?_ _) | (with_reducible refine Kd.C_drewN ?_ _) | (with_reducible refine Kd.C_drew ?_))); (case side2 => exact HC1.out); rintro e w23 ⟨v584, rfl, ho0, hb⟩; refine ⟨_, rfl, ?_⟩; have n0_ := Aside0.mk (Kd.N_elder' (by (with_reducible repeat (first | apply Kd.N_alloc | apply Kd.N_drewN | apply Kd.N_drew)); exact HO_8.out) (Kd.R_base ho0) hb); have n1_ := Aside0.mk (Kd.R_lower ho0 (below_size (by repeat (first | (with_reducible first | exact HB.out | apply below_alloc | apply pw_below_drewN | apply below_drew1) | exact HB.out)))); have n2_ := Aside0.mk (below_step (by repeat (first | (with_reducible first | exact HB.out | apply below_alloc | apply pw_below_drewN | apply below_drew1) | exact HB.out)) hb); clear HO_8; clear HB; have HO_8 := n0_; have HO585 := n1_; have HB := n2_; clear n0_ n1_ n2_; (try clear hb); (try clear hb2); (try clear hk); (try clear hi); (try clear ho0); obtain ⟨Ao24, co24, eo24⟩ := Kd.N_slice HO_8.out; subst eo24; obtain ⟨Ao25, co25, eo25⟩ := Kd.R_slice HO585.out; subst eo25) | ((with_reducible refine gate_callee (f := 18) rfl ?_); refine goesL_ (some 44) rfl rfl Try.func18 (by kernel_rfl) rfl #[.slice Ao24 t579.length co24, .slice Ao25 t583.length co25] rfl (by (try simp only [List.map_toArray, List.map_cons, List.map_nil]); first | done | rfl | (simp only [List.length_drop, List.length_take]; rfl)) ?_; (with_reducible refine (seamarklaw29_some.calls kj7 (fun k_ => (True ∧ some k_ ≠ (.slice Ao25 t583.length co25 : Value).ownBlock)) _ _ t579 _ _ t583 t586 _ ?side1 ?side2 ?side3 A15.out).mono ?_); (case side1 => exact Kd.N_V (HO_8.out)); (case side2 => repeat (first | exact (Kd.R_reads' HO585.out).2.2 | (with_reducible refine Kd.C_alloc ?_ _) | (with_reducible refine Kd.C_drewN ?_ _) | (with_reducible refine Kd.C_drew ?_))); (case side3 => exact (Kd.R_reads' HO585.out).2.1); rintro e w26 ⟨v587, rfl, ho0, hb⟩; refine ⟨_, rfl, ?_⟩; have n0_ := Aside0.mk (Kd.N_elder' (by (with_reducible repeat (first | apply Kd.N_alloc | apply Kd.N_drewN | apply Kd.N_drew)); exact HO_8.out) (by first | exact Kd.N_base ho0 | exact Kd.S_base ho0 | exact Kd.R_base ho0) hb); have n1_ := Aside0.mk (Kd.R_below (by (with_reducible repeat (first | apply Kd.R_alloc | apply Kd.R_drewN | apply Kd.R_drew)); exact HO585.out) hb); have n2_ := Aside0.mk (Kd.N_lower (Kd.N_mono (ok' := fun k_ => some k_ ≠ (.slice Ao25 t583.length co25 : Value).ownBlock) ho0 (fun k_ hk_ => Or.elim hk_ (fun hs_ => hs_.2) (fun hn_ => (Kd.fresh' (Kd.R_lt (by (with_reducible repeat (first | apply Kd.R_alloc | apply Kd.R_drewN | apply Kd.R_drew)); exact HO585.out)) k_ hn_)))) (below_size (by repeat (first | (with_reducible first | exact HB.out | apply below_alloc | apply pw_below_drewN | apply below_drew1) | exact HB.out)))); have n3_ := Aside0.mk (below_step (by repeat (first | (with_reducible first | exact HB.out | apply below_alloc | apply pw_below_drewN | apply below_drew1) | exact HB.out)) hb); clear HO_8; clear HO585; clear HB; have HO_8 := n0_; have HO585 := n1_; have HO588 := n2_; have HB := n3_; clear n0_ n1_ n2_ n3_; (try clear hb); (try clear hb2); (try clear hk); (try clear hi); (try clear ho0); obtain ⟨Ao27, co27, eo27⟩ := Kd.N_slice HO588.out; subst eo27) | ((with_reducible refine gate_callee (f := 28) rfl ?_); refine goesL_ (some 46) rfl rfl Try.func28 (by kernel_rfl) rfl #[.int .i64 (l0.length : Int), .slice Ao25 t583.length co25, .slice Ao27 t586.length co27, .int .i64 ji19] rfl (by (try simp only [List.map_toArray, List.map_cons, List.map_nil]); first | done | (simp only [hji19]; rfl) | rfl | (simp only [List.length_drop, List.length_take]; rfl)) ?_; (with_reducible refine (erasure_Repair.calls kj7 (l0.length : Int) _ _ t583 _ _ t586 ji19 t589 t590 _ ?side1 ?side2 ?side3 ?side4 A16.out).mono ?_); (case side1 => repeat (first | exact (Kd.R_reads' HO585.out).2.2 | (with_reducible refine Kd.C_alloc ?_ _) | (with_reducible refine Kd.C_drewN ?_ _) | (with_reducible refine Kd.C_drew ?_))); (case side2 => exact (Kd.R_reads' HO585.out).2.1); (case side3 => repeat (first | exact (Kd.N_reads' HO588.out).2.2 | (with_reducible refine Kd.C_alloc ?_ _) | (with_reducible refine Kd.C_drewN ?_ _) | (with_reducible refine Kd.C_drew ?_))); (case side4 => exact (Kd.N_reads' HO588.out).2.1); rintro e w28 ⟨v591, rfl, ho0, hb⟩; refine ⟨_, rfl, ?_⟩; have n0_ := Aside0.mk (Kd.N_elder' (by (with_reducible repeat (first | apply Kd.N_alloc | apply Kd.N_drewN | apply Kd.N_drew)); exact HO_8.out) (Kd.R_base ho0) hb); have n1_ := Aside0.mk (Kd.R_below (by (with_reducible repeat (first | apply Kd.R_alloc | apply Kd.R_drewN | apply Kd.R_drew)); exact HO585.out) hb); have n2_ := Aside0.mk (Kd.N_elder' (by (with_reducible repeat (first | apply Kd.N_alloc | apply Kd.N_drewN | apply Kd.N_drew)); exact HO588.out) (Kd.R_base ho0) hb); have n3_ := Aside0.mk (Kd.R_lower ho0 (below_size (by repeat (first | (with_reducible first | exact HB.out | apply below_alloc | apply pw_below_drewN | apply below_drew1) | exact HB.out)))); have n4_ := Aside0.mk (below_step (by repeat (first | (with_reducible first | exact HB.out | apply below_alloc | apply pw_below_drewN | apply below_drew1) | exact HB.out)) hb); clear HO_8; clear HO585; clear HO588; clear HB; have HO_8 := n0_; have HO585 := n1_; have HO588 := n2_; have HO592 := n3_; have HB := n4_; clear n0_ n1_ n2_ n3_ n4_; (try clear hb); (try clear hb2); (try clear hk); (try clear hi); (try clear ho0); have p593 : 0 ≤ ((ji19) : Int) := of_decide_eq_true (by first | (with_reducible assumption) | assumption); have q593 : (ji19) < (t579.length : Int) := of_decide_eq_true (by first | (with_reducible assumption) | assumption); obtain ⟨ad593, A593_0, c593_0, e593, hx593_0, hl593_0, hi593_0⟩ := at_L1 (Kd.N_reads' HO_8.out).2.2 (ji19) p593 q593; cases e593; obtain ⟨ce593, hce593, hMe593, hcc593⟩ := Kd.N_get HO_8.out [] (ji19) p593 (by first | exact q593 | exact of_decide_eq_true (by first | (with_reducible assumption) | assumption) | (have e_ := (Kd.N_reads' HO_8.out).1; omega)); obtain ⟨ua593_0, uc593_0, rfl, ul593_0, ge593_0⟩ := Kd.FK_slice_open hMe593; have hv593_0 := hcc593 0 _ rfl; rw [Nat.add_zero, show ((Kd.slice 5 (Kd.int .u8))).sz = 1 from rfl, Nat.mul_one] at hv593_0; replace hv593_0 := Option.some.inj (hv593_0.symm.trans hx593_0); injection hv593_0 with hva_ hvn_ hvc_; rw [hva_] at ge593_0; rw [hvc_] at ul593_0; have HL593_0 := Aside0.mk (show Kd.V (Kd.int .u8) 5 _ w.heap.size _ _ (rd_L1 t579 (ji19)) from Kd.V_mk ul593_0 ge593_0); clear hva_ hvn_ hvc_ ge593_0 ul593_0; clear hcc593 hce593; have HR593_0 := Aside0.mk hi593_0; have HC593_0 := Aside0.mk hl593_0; clear hi593_0 hl593_0; replace p593 := eq_true p593; replace q593 := eq_true q593; obtain ⟨Ao29, co29, eo29⟩ := Kd.R_slice HO592.out; subst eo29) | (go_at_call 22; (with_reducible refine (seamarkref29_Bytes.calls kj7 _ _ t589 _ _ (rd_L1 t579 (ji19)) t594 _ ?side1 ?side2 ?side3 ?side4 A22.out).mono ?_); (case side1 => repeat (first | exact (Kd.R_reads' HO592.out).2.2 | (with_reducible refine Kd.C_alloc ?_ _) | (with_reducible refine Kd.C_drewN ?_ _) | (with_reducible refine Kd.C_drew ?_))); (case side2 => exact (Kd.R_reads' HO592.out).2.1); (case side3 => repeat (first | exact (by repeat (first | (with_reducible exact HR593_0.out) | (with_reducible refine Kd.C_alloc ?_ _) | (with_reducible refine Kd.C_drewN ?_ _) | (with_reducible refine Kd.C_drew ?_) | exact HR593_0.out)) | (with_reducible refine Kd.C_alloc ?_ _) | (with_reducible refine Kd.C_drewN ?_ _) | (with_reducible refine Kd.C_drew ?_))); (case side4 => exact HC593_0.out); rintro e w' ⟨rfl, ⟨nd, rfl⟩⟩))
                  go_ret
                  exact ⟨by first | rfl | (simp [errW_none, errW_some] <;> rfl) | (simp only [← hji19]; first | rfl | (simp [errW_none, errW_some] <;> rfl)) | (simp [*, errW_none, errW_some] <;> rfl), by repeat (first | (with_reducible first | exact HB.out | apply below_alloc | apply pw_below_drewN | apply below_drew1) | exact HB.out)⟩
                · rw [if_neg c21] at H
                  exact absurd H (by simp)
              · rw [if_neg c20] at H
                exact absurd H (by simp)
            · rw [if_neg c18] at H
              exact absurd H (by simp)
          · replace c17 := Bool.eq_false_iff.mpr c17
            subst c17
            have H1 : (none) = some r := by rw [if_neg (show ¬ (false = true) by decide)] at H; exact H
            clear H
            have H := H1
            clear H1
            exact absurd H (by simp)
  · replace c6 := Bool.eq_false_iff.mpr c6
    subst c6
    have H1 : (some t577) = some r := by rw [if_neg (show ¬ (false = true) by decide)] at H; exact H
    clear H
    have H := H1
    clear H1
    obtain rfl := Option.some.inj H
    go_enter Try.func9, Try.ntmps9
    go_wp2_with (first | ((with_reducible refine gate_callee (f := 11) rfl ?_); refine goesL_ (some 14) rfl rfl Try.func11 (by kernel_rfl) rfl #[] rfl (by (try simp only [List.map_toArray, List.map_cons, List.map_nil]); first | done | rfl | (simp only [List.length_drop, List.length_take]; rfl)) ?_; (with_reducible refine (seamarklaw29_head.calls k  t577 _ A4.out).mono ?_); rintro e w30 ⟨rfl, hb⟩; refine ⟨_, rfl, ?_⟩; have n0_ := Aside0.mk (below_step (by repeat (first | (with_reducible first | exact HB.out | apply below_alloc | apply pw_below_drewN | apply below_drew1) | exact HB.out)) hb); clear HB; have HB := n0_; clear n0_; (try clear hb); (try clear hb2); (try clear hk); (try clear hi)) | ((with_reducible refine gate_callee (f := 14) rfl ?_); refine goesL_ (some 16) rfl rfl Try.func14 (by kernel_rfl) rfl #[.slice A0 l0.length c0] rfl (by (try simp only [List.map_toArray, List.map_cons, List.map_nil]); first | done | rfl | (simp only [List.length_drop, List.length_take]; rfl)) ?_; (with_reducible refine (seamarklaw29_few.calls k _ _ l0 false _ ?side1 ?side2 A5.out).mono ?_); (case side1 => repeat (first | exact (Kd.C_below HR0.out HB.out) | (with_reducible refine Kd.C_alloc ?_ _) | (with_reducible refine Kd.C_drewN ?_ _) | (with_reducible refine Kd.C_drew ?_))); (case side2 => exact HC0.out); rintro e w' ⟨rfl, ⟨nd, rfl⟩⟩; refine ⟨_, rfl, ?_⟩))
    go_ret
    exact ⟨by first | rfl | (simp [errW_none, errW_some] <;> rfl) | (simp [*, errW_none, errW_some] <;> rfl), by repeat (first | (with_reducible first | exact HB.out | apply below_alloc | apply pw_below_drewN | apply below_drew1) | exact HB.out)⟩

end Go.Proofs.Ytcjjohealloglaa.E
