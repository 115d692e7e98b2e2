-- by drive.py (this session's program: it runs print.py beside functions proved by hand). Lean checks it.
import Derived.Test.YtcjjohealloglaaEx0
import Derived.Test.YtcjjohealloglaaEx6
import Derived.Test.YtcjjohealloglaaEx7
import Derived.Test.YtcjjohealloglaaEx17
namespace Go.Proofs.Ytcjjohealloglaa.E
open Go.RowKit Go.Proofs.YtcjjohealloglaaW.PrintWords Go.Proofs.YtcjjohealloglaaW.PrintLast Go.Proofs.YtcjjohealloglaaW.PrintMore
attribute [local go_sem] max2_int min2_int max_two min_two max_three min_three max_four min_four   -- for this text's walks alone
set_option linter.unusedVariables false
set_option linter.unusedSimpArgs false

/-! ### seamarklaw29_ErasureOrder: function 10 -/
mutual
def seamarklaw29_ErasureOrder.j0 : Nat → Int → Int → List Int → List (List Int) → Int → Int → Bool → Bool → Option (Bool)
  | 0, _, _, _, _, _, _, _, _ => none
  | k + 1, x0, x1, x2, x3, x4, x5, x13, x40 => if x40 = true then (some x13) else (if (x2.length : Int) = 0 then (none) else ((some (([] : List Int) : List Int)).bind fun y597 => (if 0 ≤ (Int.tmod (wrap64 (x5)) (x2.length : Int)) then (if (Int.tmod (wrap64 (x5)) (x2.length : Int)) ≤ (x2.length : Int) then (if y597.length + (x2.drop ((Int.tmod (wrap64 (x5)) (x2.length : Int)) : Int).toNat).length < 17592186044416 then ((some (y597 ++ (x2.drop ((Int.tmod (wrap64 (x5)) (x2.length : Int)) : Int).toNat) : List Int)).bind fun y601 => (if y601.length + (x2.take ((Int.tmod (wrap64 (x5)) (x2.length : Int)) : Int).toNat).length < 17592186044416 then ((some (y601 ++ (x2.take ((Int.tmod (wrap64 (x5)) (x2.length : Int)) : Int).toNat) : List Int)).bind fun y605 => ((some (([] : List (List Int)) : List (List Int))).bind fun y608 => (if (Int.tmod (wrap64 (x5)) (x2.length : Int)) ≤ (x3.length : Int) then ((some (x3.drop ((Int.tmod (wrap64 (x5)) (x2.length : Int)) : Int).toNat : List (List Int))).bind fun y611 => (if y608.length + y611.length < 5864062014805 then ((some (y608 ++ y611 : List (List Int))).bind fun y616 => ((some (x3.take ((Int.tmod (wrap64 (x5)) (x2.length : Int)) : Int).toNat : List (List Int))).bind fun y619 => (if y616.length + y619.length < 5864062014805 then ((some (y616 ++ y619 : List (List Int))).bind fun y624 => ((erasure_Fits.f k x0 x2 x3).bind fun bt627 => ((erasure_Fits.f k x0 y605 y624).bind fun bt629 => (if x13 = true then (if (bt627.1 == bt629.1) = true then (seamarklaw29_ErasureOrder.j1 k x0 x1 x2 x3 x4 (bt627.2 == bt629.2) y605 y624) else (seamarklaw29_ErasureOrder.j1 k x0 x1 x2 x3 x4 false y605 y624)) else (seamarklaw29_ErasureOrder.j1 k x0 x1 x2 x3 x4 false y605 y624))))) else (none)))) else (none))) else (none)))) else (none))) else (none)) else (none)) else (none))))
def seamarklaw29_ErasureOrder.j1 : Nat → Int → Int → List Int → List (List Int) → Int → Bool → List Int → List (List Int) → Option (Bool)
  | 0, _, _, _, _, _, _, _, _ => none
  | k + 1, x0, x1, x2, x3, x4, x13, x15, x16 => (erasure_Decode.f k x0 x1 x2 x3).bind fun bt631 => ((erasure_Decode.f k x0 x1 x15 x16).bind fun bt635 => (if x13 = true then ((seamarkref29_Same.f k bt631.1 bt635.1).bind fun t639 => (if t639 = true then ((erasure_Repair.f k x0 x2 x3 x4).bind fun bt640 => ((erasure_Repair.f k x0 x15 x16 x4).bind fun bt644 => (if bt631.2 = bt635.2 then ((seamarkref29_Bytes.f k bt640.1 bt644.1).bind fun t648 => (if t648 = true then (some (bt640.2 == bt644.2)) else (none))) else (none)))) else (none))) else (none)))
end
def seamarklaw29_ErasureOrder.f (k : Nat) (a0 : Int) (a1 : Int) (l2 : List Int) (l3 : List (List Int)) (a4 : Int) (a5 : Int) : Option (Bool) := (seamarklaw29_head.f k).bind fun t595 => ((seamarkref29_Few.f k l3).bind fun t596 => (if t596 = true then (if (l2.length : Int) = (l3.length : Int) then (seamarklaw29_ErasureOrder.j0 k a0 a1 l2 l3 a4 a5 t595 ((l2.length : Int) == 0)) else (seamarklaw29_ErasureOrder.j0 k a0 a1 l2 l3 a4 a5 t595 true)) else (seamarklaw29_ErasureOrder.j0 k a0 a1 l2 l3 a4 a5 t595 true)))
theorem seamarklaw29_ErasureOrder.mono_l : ∀ k, (∀ y0 y1 y2 y3 y4 y5 y6 y7, LeO (seamarklaw29_ErasureOrder.j0 k y0 y1 y2 y3 y4 y5 y6 y7) (seamarklaw29_ErasureOrder.j0 (k + 1) y0 y1 y2 y3 y4 y5 y6 y7)) ∧ (∀ y0 y1 y2 y3 y4 y5 y6 y7, LeO (seamarklaw29_ErasureOrder.j1 k y0 y1 y2 y3 y4 y5 y6 y7) (seamarklaw29_ErasureOrder.j1 (k + 1) y0 y1 y2 y3 y4 y5 y6 y7))
  | 0 => ⟨fun _ _ _ _ _ _ _ _ r h => by simp [seamarklaw29_ErasureOrder.j0] at h, fun _ _ _ _ _ _ _ _ r h => by simp [seamarklaw29_ErasureOrder.j1] at h⟩
  | k + 1 => by
    obtain ⟨ih0, ih1⟩ := seamarklaw29_ErasureOrder.mono_l k
    refine ⟨?_, ?_⟩
    · intro y0 y1 y2 y3 y4 y5 y6 y7
      unfold seamarklaw29_ErasureOrder.j0
      repeat' first
      | (with_reducible exact ih0 _ _ _ _ _ _ _ _)
      | (with_reducible exact ih1 _ _ _ _ _ _ _ _)
      | (with_reducible exact erasure_Decode.mono _ _ _ _ _)
      | (with_reducible exact erasure_Fits.mono _ _ _ _)
      | (with_reducible exact erasure_Repair.mono _ _ _ _ _)
      | (with_reducible exact seamarklaw29_head.mono _)
      | (with_reducible exact seamarkref29_Bytes.mono _ _ _)
      | (with_reducible exact seamarkref29_Few.mono _ _)
      | (with_reducible exact seamarkref29_Same.mono _ _ _)
      | (with_reducible exact LeO.refl _)
      | (with_reducible exact LeO.none _)
      | (with_reducible refine LeO.ite ?_ ?_)
      | (with_reducible refine LeO.bind ?_ (fun _ => ?_))
      | exact ih0 _ _ _ _ _ _ _ _
      | exact ih1 _ _ _ _ _ _ _ _
      | exact erasure_Decode.mono _ _ _ _ _
      | exact erasure_Fits.mono _ _ _ _
      | exact erasure_Repair.mono _ _ _ _ _
      | exact seamarklaw29_head.mono _
      | exact seamarkref29_Bytes.mono _ _ _
      | exact seamarkref29_Few.mono _ _
      | exact seamarkref29_Same.mono _ _ _
      | exact LeO.none _
      | refine LeO.ite ?_ ?_
      | refine LeO.bind ?_ (fun _ => ?_)
    · intro y0 y1 y2 y3 y4 y5 y6 y7
      unfold seamarklaw29_ErasureOrder.j1
      repeat' first
      | (with_reducible exact ih0 _ _ _ _ _ _ _ _)
      | (with_reducible exact ih1 _ _ _ _ _ _ _ _)
      | (with_reducible exact erasure_Decode.mono _ _ _ _ _)
      | (with_reducible exact erasure_Fits.mono _ _ _ _)
      | (with_reducible exact erasure_Repair.mono _ _ _ _ _)
      | (with_reducible exact seamarklaw29_head.mono _)
      | (with_reducible exact seamarkref29_Bytes.mono _ _ _)
      | (with_reducible exact seamarkref29_Few.mono _ _)
      | (with_reducible exact seamarkref29_Same.mono _ _ _)
      | (with_reducible exact LeO.refl _)
      | (with_reducible exact LeO.none _)
      | (with_reducible refine LeO.ite ?_ ?_)
      | (with_reducible refine LeO.bind ?_ (fun _ => ?_))
      | exact ih0 _ _ _ _ _ _ _ _
      | exact ih1 _ _ _ _ _ _ _ _
      | exact erasure_Decode.mono _ _ _ _ _
      | exact erasure_Fits.mono _ _ _ _
      | exact erasure_Repair.mono _ _ _ _ _
      | exact seamarklaw29_head.mono _
      | exact seamarkref29_Bytes.mono _ _ _
      | exact seamarkref29_Few.mono _ _
      | exact seamarkref29_Same.mono _ _ _
      | exact LeO.none _
      | refine LeO.ite ?_ ?_
      | refine LeO.bind ?_ (fun _ => ?_)
theorem seamarklaw29_ErasureOrder.mono : ∀ a0 a1 a2 a3 a4 a5 k, LeO (seamarklaw29_ErasureOrder.f k a0 a1 a2 a3 a4 a5) (seamarklaw29_ErasureOrder.f (k + 1) a0 a1 a2 a3 a4 a5) := by
  intro a0 a1 a2 a3 a4 a5 k
  obtain ⟨ih0, ih1⟩ := seamarklaw29_ErasureOrder.mono_l k
  unfold seamarklaw29_ErasureOrder.f
  repeat' first
      | (with_reducible exact ih0 _ _ _ _ _ _ _ _)
      | (with_reducible exact ih1 _ _ _ _ _ _ _ _)
      | (with_reducible exact erasure_Decode.mono _ _ _ _ _)
      | (with_reducible exact erasure_Fits.mono _ _ _ _)
      | (with_reducible exact erasure_Repair.mono _ _ _ _ _)
      | (with_reducible exact seamarklaw29_head.mono _)
      | (with_reducible exact seamarkref29_Bytes.mono _ _ _)
      | (with_reducible exact seamarkref29_Few.mono _ _)
      | (with_reducible exact seamarkref29_Same.mono _ _ _)
      | (with_reducible exact LeO.refl _)
      | (with_reducible exact LeO.none _)
      | (with_reducible refine LeO.ite ?_ ?_)
      | (with_reducible refine LeO.bind ?_ (fun _ => ?_))
      | exact ih0 _ _ _ _ _ _ _ _
      | exact ih1 _ _ _ _ _ _ _ _
      | exact erasure_Decode.mono _ _ _ _ _
      | exact erasure_Fits.mono _ _ _ _
      | exact erasure_Repair.mono _ _ _ _ _
      | exact seamarklaw29_head.mono _
      | exact seamarkref29_Bytes.mono _ _ _
      | exact seamarkref29_Few.mono _ _
      | exact seamarkref29_Same.mono _ _ _
      | exact LeO.none _
      | refine LeO.ite ?_ ?_
      | refine LeO.bind ?_ (fun _ => ?_)
def seamarklaw29_ErasureOrder.T5 : Bool × List (List Nat × List Nat) := (true, [([], []), ([], []), ([], []), ([1, 2], [1, 2]), ([0, 3], [0, 3]), ([], []), ([], []), ([5, 6], [5, 6]), ([4, 7, 4], [4, 7]), ([8, 8, 0, 1, 2, 3, 4, 5, 6, 7, 8], [8])])
def seamarklaw29_ErasureOrder.B5 : List Nat := [0, 0, 0, 6, 15, 0, 0, 96, 255, 511]
theorem seamarklaw29_ErasureOrder.tab5 : rtab .any (opsOf Try.f10 5) = seamarklaw29_ErasureOrder.T5 := by kernel_rfl
theorem seamarklaw29_ErasureOrder.bits5 : waitsOk seamarklaw29_ErasureOrder.T5.2 seamarklaw29_ErasureOrder.B5 = true := by kernel_rfl
def seamarklaw29_ErasureOrder.T6 : Bool × List (List Nat × List Nat) := (true, [([], []), ([], []), ([], []), ([1, 2], [1, 2]), ([0, 3], [0, 3]), ([], []), ([], []), ([5, 6], [5, 6]), ([4, 7, 4], [4, 7]), ([8, 8, 0, 1, 2, 3, 4, 5, 6, 7, 8], [8])])
def seamarklaw29_ErasureOrder.B6 : List Nat := [0, 0, 0, 6, 15, 0, 0, 96, 255, 511]
theorem seamarklaw29_ErasureOrder.tab6 : rtab .any (opsOf Try.f10 6) = seamarklaw29_ErasureOrder.T6 := by kernel_rfl
theorem seamarklaw29_ErasureOrder.bits6 : waitsOk seamarklaw29_ErasureOrder.T6.2 seamarklaw29_ErasureOrder.B6 = true := by kernel_rfl
set_option maxHeartbeats 8000000 in
set_option maxRecDepth 100000 in
theorem seamarklaw29_ErasureOrder.calls (k : Nat) (a0 : Int) (a1 : Int) (A2 : Option Addr) (c2 : Nat) (l2 : List Int) (P3_ : Nat → Prop) (A3 : Option Addr) (c3 : Nat) (l3 : List (List Int)) (a4 : Int) (a5 : Int) (r : Bool) (w : World) (hr2 : Kd.C (Kd.int .i64) w A2 l2.length l2) (hc2 : l2.length ≤ c2) (hs3 : Kd.V (Kd.slice 5 (Kd.int .u8)) 29 w w.heap.size (fun k_ => P3_ k_) (.slice A3 l3.length c3) l3) (h : seamarklaw29_ErasureOrder.f k a0 a1 l2 l3 a4 a5 = some r) :
    Calls Try.prog 10 #[.int .i64 a0, .int .i64 a1, .slice A2 l2.length c2, .slice A3 l3.length c3, .int .i64 a4, .int .u8 a5] w fun e w' => e = .returned (.bool r) ∧ Below w.heap.size w w' := by
  have HR2 := Aside0.mk hr2
  have HC2 := Aside0.mk hc2
  clear hr2 hc2
  have HO3 := Aside0.mk (show Kd.V (Kd.slice 5 (Kd.int .u8)) 29 w w.heap.size (fun k_ => (P3_ k_ ∨ w.heap.size ≤ k_)) (.slice A3 l3.length c3) l3 from Kd.V_mono hs3 (fun k_ hk => .inl hk))
  have HB := Aside0.mk (Below.refl w.heap.size w)
  have H : ((seamarklaw29_head.f k).bind fun t595 => ((seamarkref29_Few.f k l3).bind fun t596 => (if t596 = true then (if (l2.length : Int) = (l3.length : Int) then (seamarklaw29_ErasureOrder.j0 k a0 a1 l2 l3 a4 a5 t595 ((l2.length : Int) == 0)) else (seamarklaw29_ErasureOrder.j0 k a0 a1 l2 l3 a4 a5 t595 true)) else (seamarklaw29_ErasureOrder.j0 k a0 a1 l2 l3 a4 a5 t595 true)))) = some r := h
  clear h
  replace H := Option.bind_eq_some_iff.mp H
  obtain ⟨t595, A70, H⟩ := H
  replace H : ((seamarkref29_Few.f k l3).bind fun t596 => (if t596 = true then (if (l2.length : Int) = (l3.length : Int) then (seamarklaw29_ErasureOrder.j0 k a0 a1 l2 l3 a4 a5 t595 ((l2.length : Int) == 0)) else (seamarklaw29_ErasureOrder.j0 k a0 a1 l2 l3 a4 a5 t595 true)) else (seamarklaw29_ErasureOrder.j0 k a0 a1 l2 l3 a4 a5 t595 true))) = some r := H
  have A7 := Aside0.mk A70
  clear A70
  have HC8 := Aside0.mk H
  clear H
  go_enter Try.func10, Try.ntmps10
  go_upto_region 2 with (first | ((with_reducible refine gate_callee (f := 11) rfl ?_); refine goesL_ (some 25) rfl rfl Try.func11 (by kernel_rfl) rfl #[] rfl (by (try simp only [List.map_toArray, List.map_cons, List.map_nil]); first | done | rfl | (simp only [List.length_drop, List.length_take]; rfl)) ?_; (with_reducible refine (seamarklaw29_head.calls k  t595 _ A7.out).mono ?_); rintro e w9 ⟨rfl, hb⟩; refine ⟨_, rfl, ?_⟩; have n0_ := Aside0.mk (Kd.V_below (by (with_reducible repeat (first | apply Kd.V_alloc | apply Kd.V_drewN | apply Kd.V_drew)); exact HO3.out) hb); have n1_ := Aside0.mk (below_step (by repeat (first | (with_reducible first | exact HB.out | apply below_alloc | apply pw_below_drewN | apply below_drew1) | exact HB.out)) hb); clear HO3; clear HB; have HO3 := n0_; have HB := n1_; clear n0_ n1_; (try clear hb); (try clear hb2); (try clear hk); (try clear hi)))
  (try simp only [Act.put, List.setIfInBounds_toArray, List.set_cons_zero, List.set_cons_succ])
  go_cut [40] (fun v40 wc => ∃ (kq : Nat) (x40_7 : Bool), v40 = .bool x40_7 ∧ Aside0 (seamarklaw29_ErasureOrder.j0 kq a0 a1 l2 l3 a4 a5 t595 x40_7 = some r) ∧ Aside0 (kq ≤ k) ∧ Aside0 (Kd.V (Kd.slice 5 (Kd.int .u8)) 29 wc w.heap.size (fun k_ => (P3_ k_ ∨ w.heap.size ≤ k_)) (.slice A3 l3.length c3) l3) ∧ Aside0 (Below w.heap.size w wc))
  case first =>
    have H := HC8.out
    clear HC8
    replace H := Option.bind_eq_some_iff.mp H
    obtain ⟨t596, A100, H⟩ := H
    replace H : (if t596 = true then (if (l2.length : Int) = (l3.length : Int) then (seamarklaw29_ErasureOrder.j0 k a0 a1 l2 l3 a4 a5 t595 ((l2.length : Int) == 0)) else (seamarklaw29_ErasureOrder.j0 k a0 a1 l2 l3 a4 a5 t595 true)) else (seamarklaw29_ErasureOrder.j0 k a0 a1 l2 l3 a4 a5 t595 true)) = some r := H
    have A10 := Aside0.mk A100
    clear A100
    by_cases c11 : t596 = true
    · subst c11
      have H1 : (if (l2.length : Int) = (l3.length : Int) then (seamarklaw29_ErasureOrder.j0 k a0 a1 l2 l3 a4 a5 t595 ((l2.length : Int) == 0)) else (seamarklaw29_ErasureOrder.j0 k a0 a1 l2 l3 a4 a5 t595 true)) = some r := by rw [if_pos rfl] at H; exact H
      clear H
      have H := H1
      clear H1
      by_cases c12 : (l2.length : Int) = (l3.length : Int)
      · rw [if_pos c12] at H
        have c12b0 : ((l2.length : Int) == (l3.length : Int)) = true := beq_iff_eq.mpr c12
        have c12b1 : ((l2.length : Int) != (l3.length : Int)) = false := bne_eq_false_iff_eq.mpr c12
        have c12b2 : (l2.length == l3.length) = true := by first | simpa using c12 | (simp at c12 ⊢; omega)
        clear c12
        (first | rw [c12b0] | (simp only [i64_w, i32_w]; rw [c12b0]) | skip)
        have H' := Aside0.mk H
        clear H
        go_wp2_with (first | ((with_reducible refine gate_callee (f := 23) rfl ?_); refine goesL_ (some 27) rfl rfl Try.func23 (by kernel_rfl) rfl #[.slice A3 l3.length c3] rfl (by (try simp only [List.map_toArray, List.map_cons, List.map_nil]); first | done | rfl | (simp only [List.length_drop, List.length_take]; rfl)) ?_; (with_reducible refine (seamarkref29_Few.calls k _ _ l3 true _ ?side1 ?side2 A10.out).mono ?_); (case side1 => repeat (first | exact (Kd.V_reads' HO3.out).2.2 | (with_reducible refine Kd.C_alloc ?_ _) | (with_reducible refine Kd.C_drewN ?_ _) | (with_reducible refine Kd.C_drew ?_))); (case side2 => exact (Kd.V_reads' HO3.out).2.1); rintro e w' ⟨rfl, ⟨nd, rfl⟩⟩; refine ⟨_, rfl, ?_⟩))
        go_meet
        case rel => exact ⟨_, (((l2.length : Int) == 0)), (by first | rfl | (simp; done) | (simp [*]; done)), H', ⟨by first | omega | exact Nat.le_refl _⟩, ⟨by (with_reducible repeat (first | apply Kd.V_alloc | apply Kd.V_drewN | apply Kd.V_drew)); exact HO3.out⟩, ⟨by repeat (first | (with_reducible first | exact HB.out | apply below_alloc | apply pw_below_drewN | apply below_drew1) | exact HB.out)⟩⟩
      · rw [if_neg c12] at H
        have c12b0 : ((l2.length : Int) == (l3.length : Int)) = false := beq_eq_false_iff_ne.mpr c12
        have c12b1 : ((l2.length : Int) != (l3.length : Int)) = true := bne_iff_ne.mpr c12
        have c12b2 : (l2.length == l3.length) = false := by first | simpa using c12 | (simp at c12 ⊢; omega)
        (first | rw [c12b0] | (simp only [i64_w, i32_w]; rw [c12b0]) | skip)
        have H' := Aside0.mk H
        clear H
        go_wp2_with (first | ((with_reducible refine gate_callee (f := 23) rfl ?_); refine goesL_ (some 27) rfl rfl Try.func23 (by kernel_rfl) rfl #[.slice A3 l3.length c3] rfl (by (try simp only [List.map_toArray, List.map_cons, List.map_nil]); first | done | rfl | (simp only [List.length_drop, List.length_take]; rfl)) ?_; (with_reducible refine (seamarkref29_Few.calls k _ _ l3 true _ ?side1 ?side2 A10.out).mono ?_); (case side1 => repeat (first | exact (Kd.V_reads' HO3.out).2.2 | (with_reducible refine Kd.C_alloc ?_ _) | (with_reducible refine Kd.C_drewN ?_ _) | (with_reducible refine Kd.C_drew ?_))); (case side2 => exact (Kd.V_reads' HO3.out).2.1); rintro e w' ⟨rfl, ⟨nd, rfl⟩⟩; refine ⟨_, rfl, ?_⟩))
        go_meet
        case rel => exact ⟨_, (true), (by first | rfl | (simp; done) | (simp [*]; done)), H', ⟨by first | omega | exact Nat.le_refl _⟩, ⟨by (with_reducible repeat (first | apply Kd.V_alloc | apply Kd.V_drewN | apply Kd.V_drew)); exact HO3.out⟩, ⟨by repeat (first | (with_reducible first | exact HB.out | apply below_alloc | apply pw_below_drewN | apply below_drew1) | exact HB.out)⟩⟩
    · replace c11 := Bool.eq_false_iff.mpr c11
      subst c11
      have H1 : (seamarklaw29_ErasureOrder.j0 k a0 a1 l2 l3 a4 a5 t595 true) = some r := by rw [if_neg (show ¬ (false = true) by decide)] at H; exact H
      clear H
      have H := H1
      clear H1
      have H' := Aside0.mk H
      clear H
      go_wp2_with (first | ((with_reducible refine gate_callee (f := 23) rfl ?_); refine goesL_ (some 27) rfl rfl Try.func23 (by kernel_rfl) rfl #[.slice A3 l3.length c3] rfl (by (try simp only [List.map_toArray, List.map_cons, List.map_nil]); first | done | rfl | (simp only [List.length_drop, List.length_take]; rfl)) ?_; (with_reducible refine (seamarkref29_Few.calls k _ _ l3 false _ ?side1 ?side2 A10.out).mono ?_); (case side1 => repeat (first | exact (Kd.V_reads' HO3.out).2.2 | (with_reducible refine Kd.C_alloc ?_ _) | (with_reducible refine Kd.C_drewN ?_ _) | (with_reducible refine Kd.C_drew ?_))); (case side2 => exact (Kd.V_reads' HO3.out).2.1); rintro e w' ⟨rfl, ⟨nd, rfl⟩⟩; refine ⟨_, rfl, ?_⟩))
      go_meet
      case rel => exact ⟨_, (true), (by first | rfl | (simp; done) | (simp [*]; done)), H', ⟨by first | omega | exact Nat.le_refl _⟩, ⟨by (with_reducible repeat (first | apply Kd.V_alloc | apply Kd.V_drewN | apply Kd.V_drew)); exact HO3.out⟩, ⟨by repeat (first | (with_reducible first | exact HB.out | apply below_alloc | apply pw_below_drewN | apply below_drew1) | exact HB.out)⟩⟩
  case rest =>
    clear HC8
    (try clear c1); (try clear c2); (try clear p2); (try clear c3); (try clear c10); (try clear c11); (try clear c12); (try clear c12b0); (try clear c12b1); (try clear c12b2)
    obtain ⟨kq, x40_7, rfl, HA, HJ7, HO_3, HB⟩ := hcut
    cases kq with
    | zero => exact absurd HA.out (by simp [seamarklaw29_ErasureOrder.j0])
    | succ kj7 =>
      have H := HA.out
      clear HA
      simp only [seamarklaw29_ErasureOrder.j0] at H
      by_cases c13 : x40_7 = true
      · subst c13
        have H1 : (some t595) = some r := by rw [if_pos rfl] at H; exact H
        clear H
        have H := H1
        clear H1
        obtain rfl := Option.some.inj H
        go_wp2
        go_ret
        exact ⟨by first | rfl | (simp [errW_none, errW_some] <;> rfl) | (simp [*, errW_none, errW_some] <;> rfl), by repeat (first | (with_reducible first | exact HB.out | apply below_alloc | apply pw_below_drewN | apply below_drew1) | exact HB.out)⟩
      · replace c13 := Bool.eq_false_iff.mpr c13
        subst c13
        have H1 : (if (l2.length : Int) = 0 then (none) else ((some (([] : List Int) : List Int)).bind fun y597 => (if 0 ≤ (Int.tmod (wrap64 (a5)) (l2.length : Int)) then (if (Int.tmod (wrap64 (a5)) (l2.length : Int)) ≤ (l2.length : Int) then (if y597.length + (l2.drop ((Int.tmod (wrap64 (a5)) (l2.length : Int)) : Int).toNat).length < 17592186044416 then ((some (y597 ++ (l2.drop ((Int.tmod (wrap64 (a5)) (l2.length : Int)) : Int).toNat) : List Int)).bind fun y601 => (if y601.length + (l2.take ((Int.tmod (wrap64 (a5)) (l2.length : Int)) : Int).toNat).length < 17592186044416 then ((some (y601 ++ (l2.take ((Int.tmod (wrap64 (a5)) (l2.length : Int)) : Int).toNat) : List Int)).bind fun y605 => ((some (([] : List (List Int)) : List (List Int))).bind fun y608 => (if (Int.tmod (wrap64 (a5)) (l2.length : Int)) ≤ (l3.length : Int) then ((some (l3.drop ((Int.tmod (wrap64 (a5)) (l2.length : Int)) : Int).toNat : List (List Int))).bind fun y611 => (if y608.length + y611.length < 5864062014805 then ((some (y608 ++ y611 : List (List Int))).bind fun y616 => ((some (l3.take ((Int.tmod (wrap64 (a5)) (l2.length : Int)) : Int).toNat : List (List Int))).bind fun y619 => (if y616.length + y619.length < 5864062014805 then ((some (y616 ++ y619 : List (List Int))).bind fun y624 => ((erasure_Fits.f kj7 a0 l2 l3).bind fun bt627 => ((erasure_Fits.f kj7 a0 y605 y624).bind fun bt629 => (if t595 = true then (if (bt627.1 == bt629.1) = true then (seamarklaw29_ErasureOrder.j1 kj7 a0 a1 l2 l3 a4 (bt627.2 == bt629.2) y605 y624) else (seamarklaw29_ErasureOrder.j1 kj7 a0 a1 l2 l3 a4 false y605 y624)) else (seamarklaw29_ErasureOrder.j1 kj7 a0 a1 l2 l3 a4 false y605 y624))))) else (none)))) else (none))) else (none)))) else (none))) else (none)) else (none)) else (none)))) = some r := by rw [if_neg (show ¬ (false = true) by decide)] at H; exact H
        clear H
        have H := H1
        clear H1
        by_cases c14 : (l2.length : Int) = 0
        · rw [if_pos c14] at H
          exact absurd H (by simp)
        · rw [if_neg c14] at H
          have c14b0 : ((l2.length : Int) == 0) = false := beq_eq_false_iff_ne.mpr c14
          have c14b1 : ((l2.length : Int) != 0) = true := bne_iff_ne.mpr c14
          have c14b2 : ¬ (l2 = []) := fun h_ => c14 (by rw [h_]; rfl)
          obtain ⟨y597, hy597⟩ : ∃ y_ : List Int, y_ = (([] : List Int)) := ⟨_, rfl⟩
          replace H : (if 0 ≤ (Int.tmod (wrap64 (a5)) (l2.length : Int)) then (if (Int.tmod (wrap64 (a5)) (l2.length : Int)) ≤ (l2.length : Int) then (if y597.length + (l2.drop ((Int.tmod (wrap64 (a5)) (l2.length : Int)) : Int).toNat).length < 17592186044416 then ((some (y597 ++ (l2.drop ((Int.tmod (wrap64 (a5)) (l2.length : Int)) : Int).toNat) : List Int)).bind fun y601 => (if y601.length + (l2.take ((Int.tmod (wrap64 (a5)) (l2.length : Int)) : Int).toNat).length < 17592186044416 then ((some (y601 ++ (l2.take ((Int.tmod (wrap64 (a5)) (l2.length : Int)) : Int).toNat) : List Int)).bind fun y605 => ((some (([] : List (List Int)) : List (List Int))).bind fun y608 => (if (Int.tmod (wrap64 (a5)) (l2.length : Int)) ≤ (l3.length : Int) then ((some (l3.drop ((Int.tmod (wrap64 (a5)) (l2.length : Int)) : Int).toNat : List (List Int))).bind fun y611 => (if y608.length + y611.length < 5864062014805 then ((some (y608 ++ y611 : List (List Int))).bind fun y616 => ((some (l3.take ((Int.tmod (wrap64 (a5)) (l2.length : Int)) : Int).toNat : List (List Int))).bind fun y619 => (if y616.length + y619.length < 5864062014805 then ((some (y616 ++ y619 : List (List Int))).bind fun y624 => ((erasure_Fits.f kj7 a0 l2 l3).bind fun bt627 => ((erasure_Fits.f kj7 a0 y605 y624).bind fun bt629 => (if t595 = true then (if (bt627.1 == bt629.1) = true then (seamarklaw29_ErasureOrder.j1 kj7 a0 a1 l2 l3 a4 (bt627.2 == bt629.2) y605 y624) else (seamarklaw29_ErasureOrder.j1 kj7 a0 a1 l2 l3 a4 false y605 y624)) else (seamarklaw29_ErasureOrder.j1 kj7 a0 a1 l2 l3 a4 false y605 y624))))) else (none)))) else (none))) else (none)))) else (none))) else (none)) else (none)) else (none)) = some r := by first | (rw [hy597]; with_reducible exact H) | (have H2_ := (Option.bind_some _ _).symm.trans H; rw [hy597]; with_reducible exact H2_) | (have H2_ := (Option.bind_some _ _).symm.trans H; with_reducible exact H2_) | with_reducible exact H | (rw [hy597]; exact H) | exact H
          have Ny597 := Aside0.mk hy597
          clear hy597
          obtain ⟨ji15, hji15⟩ : ∃ j_ : Int, (Int.tmod (wrap64 (a5)) (l2.length : Int)) = j_ := ⟨_, rfl⟩
          replace H : (if 0 ≤ (ji15) then (if (ji15) ≤ (l2.length : Int) then (if y597.length + (l2.drop ((ji15) : Int).toNat).length < 17592186044416 then ((some (y597 ++ (l2.drop ((ji15) : Int).toNat) : List Int)).bind fun y601 => (if y601.length + (l2.take ((ji15) : Int).toNat).length < 17592186044416 then ((some (y601 ++ (l2.take ((ji15) : Int).toNat) : List Int)).bind fun y605 => ((some (([] : List (List Int)) : List (List Int))).bind fun y608 => (if (ji15) ≤ (l3.length : Int) then ((some (l3.drop ((ji15) : Int).toNat : List (List Int))).bind fun y611 => (if y608.length + y611.length < 5864062014805 then ((some (y608 ++ y611 : List (List Int))).bind fun y616 => ((some (l3.take ((ji15) : Int).toNat : List (List Int))).bind fun y619 => (if y616.length + y619.length < 5864062014805 then ((some (y616 ++ y619 : List (List Int))).bind fun y624 => ((erasure_Fits.f kj7 a0 l2 l3).bind fun bt627 => ((erasure_Fits.f kj7 a0 y605 y624).bind fun bt629 => (if t595 = true then (if (bt627.1 == bt629.1) = true then (seamarklaw29_ErasureOrder.j1 kj7 a0 a1 l2 l3 a4 (bt627.2 == bt629.2) y605 y624) else (seamarklaw29_ErasureOrder.j1 kj7 a0 a1 l2 l3 a4 false y605 y624)) else (seamarklaw29_ErasureOrder.j1 kj7 a0 a1 l2 l3 a4 false y605 y624))))) else (none)))) else (none))) else (none)))) else (none))) else (none)) else (none)) else (none)) = some r := by first | (rw [hji15] at H; exact H) | (simp only [hji15] at H ⊢; exact H)
          by_cases c16 : 0 ≤ (ji15)
          · rw [if_pos c16] at H
            have c16b0 := eq_true c16
            have c16b1 : decide (0 ≤ (ji15)) = true := decide_eq_true c16
            clear c16
            by_cases c17 : (ji15) ≤ (l2.length : Int)
            · rw [if_pos c17] at H
              have c17b0 := eq_true c17
              have c17b1 : decide ((ji15) ≤ (l2.length : Int)) = true := decide_eq_true c17
              clear c17
              by_cases c18 : y597.length + (l2.drop ((ji15) : Int).toNat).length < 17592186044416
              · rw [if_pos c18] at H
                have LMc18 := Aside0.mk c18
                clear c18
                obtain ⟨y601, hy601⟩ : ∃ y_ : List Int, y_ = (y597 ++ (l2.drop ((ji15) : Int).toNat)) := ⟨_, rfl⟩
                replace H : (if y601.length + (l2.take ((ji15) : Int).toNat).length < 17592186044416 then ((some (y601 ++ (l2.take ((ji15) : Int).toNat) : List Int)).bind fun y605 => ((some (([] : List (List Int)) : List (List Int))).bind fun y608 => (if (ji15) ≤ (l3.length : Int) then ((some (l3.drop ((ji15) : Int).toNat : List (List Int))).bind fun y611 => (if y608.length + y611.length < 5864062014805 then ((some (y608 ++ y611 : List (List Int))).bind fun y616 => ((some (l3.take ((ji15) : Int).toNat : List (List Int))).bind fun y619 => (if y616.length + y619.length < 5864062014805 then ((some (y616 ++ y619 : List (List Int))).bind fun y624 => ((erasure_Fits.f kj7 a0 l2 l3).bind fun bt627 => ((erasure_Fits.f kj7 a0 y605 y624).bind fun bt629 => (if t595 = true then (if (bt627.1 == bt629.1) = true then (seamarklaw29_ErasureOrder.j1 kj7 a0 a1 l2 l3 a4 (bt627.2 == bt629.2) y605 y624) else (seamarklaw29_ErasureOrder.j1 kj7 a0 a1 l2 l3 a4 false y605 y624)) else (seamarklaw29_ErasureOrder.j1 kj7 a0 a1 l2 l3 a4 false y605 y624))))) else (none)))) else (none))) else (none)))) else (none)) = some r := by first | (rw [hy601]; with_reducible exact H) | (have H2_ := (Option.bind_some _ _).symm.trans H; rw [hy601]; with_reducible exact H2_) | (have H2_ := (Option.bind_some _ _).symm.trans H; with_reducible exact H2_) | with_reducible exact H | (rw [hy601]; exact H) | exact H
                have Ny601 := Aside0.mk hy601
                clear hy601
                have c19b0 := eq_true (of_decide_eq_true (by first | (with_reducible assumption) | assumption) : 0 ≤ (ji15))
                have c20b0 := eq_true (of_decide_eq_true (by first | (with_reducible assumption) | assumption) : (ji15) ≤ (l2.length : Int))
                by_cases c21 : y601.length + (l2.take ((ji15) : Int).toNat).length < 17592186044416
                · rw [if_pos c21] at H
                  have LMc21 := Aside0.mk c21
                  clear c21
                  obtain ⟨y605, hy605⟩ : ∃ y_ : List Int, y_ = (y601 ++ (l2.take ((ji15) : Int).toNat)) := ⟨_, rfl⟩
                  replace H : ((some (([] : List (List Int)) : List (List Int))).bind fun y608 => (if (ji15) ≤ (l3.length : Int) then ((some (l3.drop ((ji15) : Int).toNat : List (List Int))).bind fun y611 => (if y608.length + y611.length < 5864062014805 then ((some (y608 ++ y611 : List (List Int))).bind fun y616 => ((some (l3.take ((ji15) : Int).toNat : List (List Int))).bind fun y619 => (if y616.length + y619.length < 5864062014805 then ((some (y616 ++ y619 : List (List Int))).bind fun y624 => ((erasure_Fits.f kj7 a0 l2 l3).bind fun bt627 => ((erasure_Fits.f kj7 a0 y605 y624).bind fun bt629 => (if t595 = true then (if (bt627.1 == bt629.1) = true then (seamarklaw29_ErasureOrder.j1 kj7 a0 a1 l2 l3 a4 (bt627.2 == bt629.2) y605 y624) else (seamarklaw29_ErasureOrder.j1 kj7 a0 a1 l2 l3 a4 false y605 y624)) else (seamarklaw29_ErasureOrder.j1 kj7 a0 a1 l2 l3 a4 false y605 y624))))) else (none)))) else (none))) else (none))) = some r := by first | (rw [hy605]; with_reducible exact H) | (have H2_ := (Option.bind_some _ _).symm.trans H; rw [hy605]; with_reducible exact H2_) | (have H2_ := (Option.bind_some _ _).symm.trans H; with_reducible exact H2_) | with_reducible exact H | (rw [hy605]; exact H) | exact H
                  have Ny605 := Aside0.mk hy605
                  clear hy605
                  obtain ⟨y608, hy608⟩ : ∃ y_ : List (List Int), y_ = (([] : List (List Int))) := ⟨_, rfl⟩
                  replace H : (if (ji15) ≤ (l3.length : Int) then ((some (l3.drop ((ji15) : Int).toNat : List (List Int))).bind fun y611 => (if y608.length + y611.length < 5864062014805 then ((some (y608 ++ y611 : List (List Int))).bind fun y616 => ((some (l3.take ((ji15) : Int).toNat : List (List Int))).bind fun y619 => (if y616.length + y619.length < 5864062014805 then ((some (y616 ++ y619 : List (List Int))).bind fun y624 => ((erasure_Fits.f kj7 a0 l2 l3).bind fun bt627 => ((erasure_Fits.f kj7 a0 y605 y624).bind fun bt629 => (if t595 = true then (if (bt627.1 == bt629.1) = true then (seamarklaw29_ErasureOrder.j1 kj7 a0 a1 l2 l3 a4 (bt627.2 == bt629.2) y605 y624) else (seamarklaw29_ErasureOrder.j1 kj7 a0 a1 l2 l3 a4 false y605 y624)) else (seamarklaw29_ErasureOrder.j1 kj7 a0 a1 l2 l3 a4 false y605 y624))))) else (none)))) else (none))) else (none)) = some r := by first | (rw [hy608]; with_reducible exact H) | (have H2_ := (Option.bind_some _ _).symm.trans H; rw [hy608]; with_reducible exact H2_) | (have H2_ := (Option.bind_some _ _).symm.trans H; with_reducible exact H2_) | with_reducible exact H | (rw [hy608]; exact H) | exact H
                  have Ny608 := Aside0.mk hy608
                  clear hy608
                  have c22b0 := eq_true (of_decide_eq_true (by first | (with_reducible assumption) | assumption) : 0 ≤ (ji15))
                  by_cases c23 : (ji15) ≤ (l3.length : Int)
                  · rw [if_pos c23] at H
                    have c23b0 := eq_true c23
                    have c23b1 : decide ((ji15) ≤ (l3.length : Int)) = true := decide_eq_true c23
                    clear c23
                    obtain ⟨y611, hy611⟩ : ∃ y_ : List (List Int), y_ = (l3.drop ((ji15) : Int).toNat) := ⟨_, rfl⟩
                    replace H : (if y608.length + y611.length < 5864062014805 then ((some (y608 ++ y611 : List (List Int))).bind fun y616 => ((some (l3.take ((ji15) : Int).toNat : List (List Int))).bind fun y619 => (if y616.length + y619.length < 5864062014805 then ((some (y616 ++ y619 : List (List Int))).bind fun y624 => ((erasure_Fits.f kj7 a0 l2 l3).bind fun bt627 => ((erasure_Fits.f kj7 a0 y605 y624).bind fun bt629 => (if t595 = true then (if (bt627.1 == bt629.1) = true then (seamarklaw29_ErasureOrder.j1 kj7 a0 a1 l2 l3 a4 (bt627.2 == bt629.2) y605 y624) else (seamarklaw29_ErasureOrder.j1 kj7 a0 a1 l2 l3 a4 false y605 y624)) else (seamarklaw29_ErasureOrder.j1 kj7 a0 a1 l2 l3 a4 false y605 y624))))) else (none)))) else (none)) = some r := by first | (rw [hy611]; with_reducible exact H) | (have H2_ := (Option.bind_some _ _).symm.trans H; rw [hy611]; with_reducible exact H2_) | (have H2_ := (Option.bind_some _ _).symm.trans H; with_reducible exact H2_) | with_reducible exact H | (rw [hy611]; exact H) | exact H
                    have Ny611 := Aside0.mk hy611
                    clear hy611
                    by_cases c24 : y608.length + y611.length < 5864062014805
                    · rw [if_pos c24] at H
                      have LMc24 := Aside0.mk c24
                      clear c24
                      obtain ⟨y616, hy616⟩ : ∃ y_ : List (List Int), y_ = (y608 ++ y611) := ⟨_, rfl⟩
                      replace H : ((some (l3.take ((ji15) : Int).toNat : List (List Int))).bind fun y619 => (if y616.length + y619.length < 5864062014805 then ((some (y616 ++ y619 : List (List Int))).bind fun y624 => ((erasure_Fits.f kj7 a0 l2 l3).bind fun bt627 => ((erasure_Fits.f kj7 a0 y605 y624).bind fun bt629 => (if t595 = true then (if (bt627.1 == bt629.1) = true then (seamarklaw29_ErasureOrder.j1 kj7 a0 a1 l2 l3 a4 (bt627.2 == bt629.2) y605 y624) else (seamarklaw29_ErasureOrder.j1 kj7 a0 a1 l2 l3 a4 false y605 y624)) else (seamarklaw29_ErasureOrder.j1 kj7 a0 a1 l2 l3 a4 false y605 y624))))) else (none))) = some r := by first | (rw [hy616]; with_reducible exact H) | (have H2_ := (Option.bind_some _ _).symm.trans H; rw [hy616]; with_reducible exact H2_) | (have H2_ := (Option.bind_some _ _).symm.trans H; with_reducible exact H2_) | with_reducible exact H | (rw [hy616]; exact H) | exact H
                      have Ny616 := Aside0.mk hy616
                      clear hy616
                      have c25b0 := eq_true (of_decide_eq_true (by first | (with_reducible assumption) | assumption) : 0 ≤ (ji15))
                      have c26b0 := eq_true (of_decide_eq_true (by first | (with_reducible assumption) | assumption) : (ji15) ≤ (l3.length : Int))
                      obtain ⟨y619, hy619⟩ : ∃ y_ : List (List Int), y_ = (l3.take ((ji15) : Int).toNat) := ⟨_, rfl⟩
                      replace H : (if y616.length + y619.length < 5864062014805 then ((some (y616 ++ y619 : List (List Int))).bind fun y624 => ((erasure_Fits.f kj7 a0 l2 l3).bind fun bt627 => ((erasure_Fits.f kj7 a0 y605 y624).bind fun bt629 => (if t595 = true then (if (bt627.1 == bt629.1) = true then (seamarklaw29_ErasureOrder.j1 kj7 a0 a1 l2 l3 a4 (bt627.2 == bt629.2) y605 y624) else (seamarklaw29_ErasureOrder.j1 kj7 a0 a1 l2 l3 a4 false y605 y624)) else (seamarklaw29_ErasureOrder.j1 kj7 a0 a1 l2 l3 a4 false y605 y624))))) else (none)) = some r := by first | (rw [hy619]; with_reducible exact H) | (have H2_ := (Option.bind_some _ _).symm.trans H; rw [hy619]; with_reducible exact H2_) | (have H2_ := (Option.bind_some _ _).symm.trans H; with_reducible exact H2_) | with_reducible exact H | (rw [hy619]; exact H) | exact H
                      have Ny619 := Aside0.mk hy619
                      clear hy619
                      by_cases c27 : y616.length + y619.length < 5864062014805
                      · rw [if_pos c27] at H
                        have LMc27 := Aside0.mk c27
                        clear c27
                        obtain ⟨y624, hy624⟩ : ∃ y_ : List (List Int), y_ = (y616 ++ y619) := ⟨_, rfl⟩
                        replace H : ((erasure_Fits.f kj7 a0 l2 l3).bind fun bt627 => ((erasure_Fits.f kj7 a0 y605 y624).bind fun bt629 => (if t595 = true then (if (bt627.1 == bt629.1) = true then (seamarklaw29_ErasureOrder.j1 kj7 a0 a1 l2 l3 a4 (bt627.2 == bt629.2) y605 y624) else (seamarklaw29_ErasureOrder.j1 kj7 a0 a1 l2 l3 a4 false y605 y624)) else (seamarklaw29_ErasureOrder.j1 kj7 a0 a1 l2 l3 a4 false y605 y624)))) = some r := by first | (rw [hy624]; with_reducible exact H) | (have H2_ := (Option.bind_some _ _).symm.trans H; rw [hy624]; with_reducible exact H2_) | (have H2_ := (Option.bind_some _ _).symm.trans H; with_reducible exact H2_) | with_reducible exact H | (rw [hy624]; exact H) | exact H
                        have Ny624 := Aside0.mk hy624
                        clear hy624
                        replace H := Option.bind_eq_some_iff.mp H
                        obtain ⟨⟨t627, t628⟩, A280, H⟩ := H
                        replace H : ((erasure_Fits.f kj7 a0 y605 y624).bind fun bt629 => (if t595 = true then (if (t627 == bt629.1) = true then (seamarklaw29_ErasureOrder.j1 kj7 a0 a1 l2 l3 a4 (t628 == bt629.2) y605 y624) else (seamarklaw29_ErasureOrder.j1 kj7 a0 a1 l2 l3 a4 false y605 y624)) else (seamarklaw29_ErasureOrder.j1 kj7 a0 a1 l2 l3 a4 false y605 y624))) = some r := H
                        have A28 := Aside0.mk A280
                        clear A280
                        replace H := Option.bind_eq_some_iff.mp H
                        obtain ⟨⟨t629, t630⟩, A290, H⟩ := H
                        replace H : (if t595 = true then (if (t627 == t629) = true then (seamarklaw29_ErasureOrder.j1 kj7 a0 a1 l2 l3 a4 (t628 == t630) y605 y624) else (seamarklaw29_ErasureOrder.j1 kj7 a0 a1 l2 l3 a4 false y605 y624)) else (seamarklaw29_ErasureOrder.j1 kj7 a0 a1 l2 l3 a4 false y605 y624)) = some r := H
                        have A29 := Aside0.mk A290
                        clear A290
                        have HC30 := Aside0.mk H
                        clear H
                        try go_wp2
                        have n0_ := Aside0.mk (Kd.V_drew HO_3.out)
                        have n1_ := Aside0.mk (below_drew1 HB.out)
                        clear HO_3
                        clear HB
                        have HO_3 := n0_
                        have HB := n1_
                        clear n0_ n1_
                        obtain ⟨i032, hi032, _, hsz32, _⟩ := info_parts info3
                        obtain ⟨A32, hcut32, hA32, hC32⟩ := print_drop_of (P := Try.prog) (Value.int .i64) 0 33 3 .i64 Try.underlying33 hi032 hsz32 A2 c2 l2 (ji15) (of_decide_eq_true (by first | (with_reducible assumption) | assumption)) (of_decide_eq_true (by first | (with_reducible assumption) | assumption)) HC2.out
                        have HR600 := Aside0.mk (Kd.C_of_reads (h1 := fun _ => rfl) (hA32 _ (Kd.reads_of_C HR2.out)))
                        have HC600 := Aside0.mk hC32
                        clear hA32 hC32 hi032 hsz32
                        obtain ⟨i033, hi033, _, hsz33, _⟩ := info_parts info3
                        obtain ⟨hcut33, hA33, hC33⟩ := print_take_of (P := Try.prog) (Value.int .i64) 0 33 3 .i64 Try.underlying33 hi033 hsz33 A2 c2 l2 (ji15) (of_decide_eq_true (by first | (with_reducible assumption) | assumption)) (of_decide_eq_true (by first | (with_reducible assumption) | assumption)) HC2.out
                        have HR604 := Aside0.mk (Kd.C_of_reads (h1 := fun _ => rfl) (hA33 _ (Kd.reads_of_C HR2.out)))
                        have HC604 := Aside0.mk hC33
                        clear hA33 hC33 hi033 hsz33
                        refine start_ (n := 10) (S := fun w' => True) (ds := []) #[false, false, false, false, false, false, false, false, false, false] (by kernel_rfl) rfl rfl trivial (fun hHeld => ?_); refine with_tabW seamarklaw29_ErasureOrder.tab5 seamarklaw29_ErasureOrder.bits5 (fun HT_ HW_ => ?_)
                        generalize wc.drew = w31 at HO_3 HB HR600 HR604 hHeld ⊢
                        refine pure_ (i := 1) (N := some 48) (v := ?_) (a' := ?_) #[false, true, false, false, false, false, false, false, false, false] rfl rfl (any_of HT_.out (by kernel_rfl)) (fun _ _ _ h => h) (Or.inl ⟨by rfl, ?_⟩) ?_ ?_
                        rotate_left
                        · intro w'
                          go_simp
                          with_reducible rfl
                        rotate_left
                        · simp only [Act.put, List.setIfInBounds_toArray, List.set_cons_zero, List.set_cons_succ, i64_w, i32_w]
                          rfl
                        refine pure_ (i := 2) (N := some 49) (v := ?_) (a' := ?_) #[false, true, true, false, false, false, false, false, false, false] rfl rfl (any_of HT_.out (by kernel_rfl)) (fun _ _ _ h => h) (Or.inl ⟨by rfl, ?_⟩) ?_ ?_
                        rotate_left
                        · intro w'
                          go_simp
                          with_reducible rfl
                        rotate_left
                        · simp only [Act.put, List.setIfInBounds_toArray, List.set_cons_zero, List.set_cons_succ, i64_w, i32_w]
                          rfl
                        refine pure_ (i := 3) (N := some 50) (v := ?_) (a' := ?_) #[false, true, true, true, false, false, false, false, false, false] rfl rfl (any_of HT_.out (by kernel_rfl)) (fun _ _ _ h => h) (Or.inl ⟨by rfl, ?_⟩) ?_ ?_
                        rotate_left
                        · intro w'
                          go_simp
                          with_reducible rfl
                        rotate_left
                        · simp only [Act.put, List.setIfInBounds_toArray, List.set_cons_zero, List.set_cons_succ, i64_w, i32_w]
                          rfl
                        refine pure_ (i := 5) (N := some 52) (v := ?_) (a' := ?_) #[false, true, true, true, false, true, false, false, false, false] rfl rfl (any_of HT_.out (by kernel_rfl)) (fun _ _ _ h => h) (Or.inl ⟨by rfl, ?_⟩) ?_ ?_
                        rotate_left
                        · intro w'
                          go_simp
                          with_reducible rfl
                        rotate_left
                        · simp only [Act.put, List.setIfInBounds_toArray, List.set_cons_zero, List.set_cons_succ, i64_w, i32_w]
                          rfl
                        refine pure_ (i := 6) (N := some 53) (v := ?_) (a' := ?_) #[false, true, true, true, false, true, true, false, false, false] rfl rfl (any_of HT_.out (by kernel_rfl)) (fun _ _ _ h => h) (Or.inl ⟨by rfl, ?_⟩) ?_ ?_
                        rotate_left
                        · intro w'
                          go_simp
                          with_reducible rfl
                        rotate_left
                        · simp only [Act.put, List.setIfInBounds_toArray, List.set_cons_zero, List.set_cons_succ, i64_w, i32_w]
                          rfl
                        refine pure_ (i := 7) (N := some 54) (v := ?_) (a' := ?_) #[false, true, true, true, false, true, true, true, false, false] rfl rfl (any_of HT_.out (by kernel_rfl)) (fun _ _ _ h => h) (Or.inl ⟨by rfl, ?_⟩) ?_ ?_
                        rotate_left
                        · intro w'
                          go_simp
                          with_reducible rfl
                        rotate_left
                        · simp only [Act.put, List.setIfInBounds_toArray, List.set_cons_zero, List.set_cons_succ, i64_w, i32_w]
                          rfl
                        refine one_ (i := 0) (N := some 47) #[true, true, true, true, false, true, true, true, false, false] rfl rfl (one_of HT_.out (by kernel_rfl)) (by decide) (fun K hK => ?_)
                        refine Kd.R_lit_step (Kd.int .i64) _ 3 ?hg (N := 47) ?hd (xs := ([] : List Int)) (inner := []) (ok := fun _ => True) (okp := fun _ => True) ?hr ?hp (fun _ hk => hk) trivial (Below.refl _ _) (Nat.le_refl _) (by simp) ?_; (case hd => rfl); (case hg => rfl); (case hr => first | (go_simp; done) | (go_simp; rfl)); (case hp => exact (Reps.none _ _))
                        intro v598 w34 ho35 hb hg_ hnew_
                        clear hg_ hnew_
                        (first | rw [← Ny597.out] at ho35 | (simp only [Int.reduceToNat] at ho35; rw [← Ny597.out] at ho35))
                        have n0_ := Aside0.mk (Kd.V_elder' (by (with_reducible repeat (first | apply Kd.V_alloc | apply Kd.V_drewN | apply Kd.V_drew)); exact HO_3.out) (Kd.R_base ho35) hb)
                        have n1_ := Aside0.mk (Kd.R_lower (Kd.R_newM (M := fun k_ => (w.heap.size ≤ k_)) ho35 (below_size (by repeat (first | (with_reducible first | exact HB.out | apply below_alloc | apply pw_below_drewN | apply below_drew1) | exact HB.out))) (fun k_ h_ => h_)) (below_size (by repeat (first | (with_reducible first | exact HB.out | apply below_alloc | apply pw_below_drewN | apply below_drew1) | exact HB.out))))
                        have n2_ := Aside0.mk (below_step (by repeat (first | (with_reducible first | exact HB.out | apply below_alloc | apply pw_below_drewN | apply below_drew1) | exact HB.out)) hb)
                        clear HO_3
                        clear HB
                        have HO_3 := n0_
                        have HO599 := n1_
                        have HB := n2_
                        clear n0_ n1_ n2_
                        clear hb ho35
                        refine hK.out _ _ trivial (fun hHeld => ?_)
                        clear hK K
                        refine norm_ (a' := ?_) ?_ ?_
                        rotate_left
                        · show Act.put _ (some 47) _ = _
                          simp only [Act.put, List.setIfInBounds_toArray, List.set_cons_zero, List.set_cons_succ, i64_w, i32_w]
                          rfl
                        refine one_ (i := 4) (N := some 51) #[true, true, true, true, true, true, true, true, false, false] rfl rfl (one_of HT_.out (by kernel_rfl)) (by decide) (fun K hK => ?_)
                        refine Kd.R_append_rows_step (Kd.int .i64) (w0 := w) w.heap.size (by rfl) (.tmp 47) (.tmp 50) 33 3 (.int .i64 0) 8 rfl Try.underlying33 info3 rfl (by decide) (by omega) v598 y597 (l2.drop ((ji15) : Int).toNat) _ _ _ (fun k_ => (w.heap.size ≤ k_)) (fun _ => False) rfl rfl ?aO ?aR (fun _ _ h => h) (fun _ h => h.elim) ?aF ?aB ?aS ?aL ?_
                        (case aR => first | (rw [← show (l2.drop ((ji15) : Int).toNat).length = (l2.length - (ji15).toNat) from List.length_drop]; repeat (first | exact (Kd.C_below HR600.out HB.out) | (with_reducible refine Kd.C_alloc ?_ _) | (with_reducible refine Kd.C_drewN ?_ _) | (with_reducible refine Kd.C_drew ?_))) | (repeat (first | exact (Kd.C_below HR600.out HB.out) | (with_reducible refine Kd.C_alloc ?_ _) | (with_reducible refine Kd.C_drewN ?_ _) | (with_reducible refine Kd.C_drew ?_))))
                        (case aB => exact (by repeat (first | (with_reducible first | exact HB.out | apply below_alloc | apply pw_below_drewN | apply below_drew1) | exact HB.out)))
                        (case aF => exact (fun k_ hk => (Nat.le_trans (below_size (by repeat (first | (with_reducible first | exact HB.out | apply below_alloc | apply pw_below_drewN | apply below_drew1) | exact HB.out))) hk)))
                        (case aO => exact (by (with_reducible repeat (first | apply Kd.R_alloc | apply Kd.R_drewN | apply Kd.R_drew)); exact Kd.R_mono HO599.out (fun _ hk => hk.1)))
                        (case aS => exact (below_size (by repeat (first | (with_reducible first | exact HB.out | apply below_alloc | apply pw_below_drewN | apply below_drew1) | exact HB.out))))
                        (case aL => have := LMc18.out; have hlx_ := (show (l2.drop ((ji15) : Int).toNat).length = (l2.length - (ji15).toNat) from List.length_drop); omega)
                        intro v602 w36 ho hb hg hat
                        rw [← Ny601.out] at ho
                        have n0_ := Aside0.mk (Kd.V_afterv (ok := (fun k_ => (P3_ k_ ∨ w.heap.size ≤ k_))) (by (with_reducible repeat (first | apply Kd.V_alloc | apply Kd.V_drewN | apply Kd.V_drew)); exact HO_3.out) hg hat)
                        have n1_ := Aside0.mk (hb)
                        have n2_ := Aside0.mk (ho)
                        clear HO_3
                        clear HB
                        clear HO599
                        have HO_3 := n0_
                        have HB := n1_
                        have HO603 := n2_
                        clear n0_ n1_ n2_
                        clear ho hb hg hat
                        refine hK.out _ _ trivial (fun hHeld => ?_)
                        clear hK K
                        refine norm_ (a' := ?_) ?_ ?_
                        rotate_left
                        · show Act.put _ (some 51) _ = _
                          simp only [Act.put, List.setIfInBounds_toArray, List.set_cons_zero, List.set_cons_succ, i64_w, i32_w]
                          rfl
                        refine one_ (i := 8) (N := some 55) #[true, true, true, true, true, true, true, true, true, false] rfl rfl (one_of HT_.out (by kernel_rfl)) (by decide) (fun K hK => ?_)
                        refine Kd.R_append_rows_step (Kd.int .i64) (w0 := w) w.heap.size (by rfl) (.tmp 51) (.tmp 54) 33 3 (.int .i64 0) 8 rfl Try.underlying33 info3 rfl (by decide) (by omega) v602 y601 (l2.take ((ji15) : Int).toNat) _ _ _ (fun k_ => (w.heap.size ≤ k_)) (fun _ => False) rfl rfl ?aO ?aR (fun _ _ h => h) (fun _ h => h.elim) ?aF ?aB ?aS ?aL ?_
                        (case aR => have h_ := Kd.C_below HR604.out HB.out; have e_ : (l2.take ((ji15) : Int).toNat).length = (ji15).toNat := (by rw [List.length_take]; have hq_ : ((ji15) : Int) ≤ (l2.length : Int) := of_decide_eq_true (by first | (with_reducible assumption) | assumption); omega); rw [e_] at h_; exact h_)
                        (case aB => exact (by repeat (first | (with_reducible first | exact HB.out | apply below_alloc | apply pw_below_drewN | apply below_drew1) | exact HB.out)))
                        (case aF => exact (fun k_ hk => (Nat.le_trans (below_size (by repeat (first | (with_reducible first | exact HB.out | apply below_alloc | apply pw_below_drewN | apply below_drew1) | exact HB.out))) hk)))
                        (case aO => exact (by (with_reducible repeat (first | apply Kd.R_alloc | apply Kd.R_drewN | apply Kd.R_drew)); exact HO603.out))
                        (case aS => exact (below_size (by repeat (first | (with_reducible first | exact HB.out | apply below_alloc | apply pw_below_drewN | apply below_drew1) | exact HB.out))))
                        (case aL => have := LMc21.out; have hlx_ := (show (l2.take ((ji15) : Int).toNat).length = (ji15).toNat from (by rw [List.length_take]; have h_ : ((ji15) : Int) ≤ (l2.length : Int) := of_decide_eq_true (by first | (with_reducible assumption) | assumption); omega)); omega)
                        intro v606 w37 ho hb hg hat
                        rw [← Ny605.out] at ho
                        have n0_ := Aside0.mk (Kd.V_afterv (ok := (fun k_ => (P3_ k_ ∨ w.heap.size ≤ k_))) (by (with_reducible repeat (first | apply Kd.V_alloc | apply Kd.V_drewN | apply Kd.V_drew)); exact HO_3.out) hg hat)
                        have n1_ := Aside0.mk (hb)
                        have n2_ := Aside0.mk (ho)
                        clear HO_3
                        clear HB
                        clear HO603
                        have HO_3 := n0_
                        have HB := n1_
                        have HO607 := n2_
                        clear n0_ n1_ n2_
                        clear ho hb hg hat
                        refine hK.out _ _ trivial (fun hHeld => ?_)
                        clear hK K
                        refine norm_ (a' := ?_) ?_ ?_
                        rotate_left
                        · show Act.put _ (some 55) _ = _
                          simp only [Act.put, List.setIfInBounds_toArray, List.set_cons_zero, List.set_cons_succ, i64_w, i32_w]
                          rfl
                        refine pure_ (i := 9) (N := some 15) (v := ?_) (a' := ?_) #[true, true, true, true, true, true, true, true, true, true] rfl rfl (any_of HT_.out (by kernel_rfl)) (fun _ _ _ h => h) (Or.inl ⟨by rfl, ?_⟩) ?_ ?_
                        rotate_left
                        · intro w'
                          go_simp
                          with_reducible rfl
                        rotate_left
                        · simp only [Act.put, List.setIfInBounds_toArray, List.set_cons_zero, List.set_cons_succ, i64_w, i32_w]
                          rfl
                        refine done_ (done_of HT_.out (by kernel_rfl)) ?_
                        try go_wp2
                        have n0_ := Aside0.mk (Kd.V_drew HO_3.out)
                        have n1_ := Aside0.mk (Kd.R_drew HO607.out)
                        have n2_ := Aside0.mk (below_drew1 HB.out)
                        clear HO_3
                        clear HO607
                        clear HB
                        have HO_3 := n0_
                        have HO607 := n1_
                        have HB := n2_
                        clear n0_ n1_ n2_
                        have q39 : ((ji15) : Int) ≤ ((l3.length : Int) : Int) := of_decide_eq_true (by first | (with_reducible assumption) | assumption)
                        obtain ⟨i039, hi039, _, hsz39, _⟩ := info_parts info29
                        have hroom39 : l3.length ≤ c3 := (Kd.V_reads' HO_3.out).2.1
                        have hC39 : Kd.F (Kd.slice 5 (Kd.int .u8)) _ _ A3 l3.length l3 := (Kd.V_at (base := w.heap.size) HO_3.out).2.2
                        have q039 : (0 : Int) ≤ ((ji15) : Int) := of_decide_eq_true (by first | (with_reducible assumption) | assumption)
                        have hcut39 := cut_from (P := Try.prog) 28 29 .i64 Try.underlying28 hi039 1 hsz39 A3 l3.length c3 (ji15) q039 q39
                        have hr39 := Kd.F_cut (m := ((ji15) : Int).toNat) (c := c3) hC39 (by omega) hroom39
                        obtain ⟨A39, hA39⟩ : ∃ A1, A1 = (if c3 = ((ji15) : Int).toNat then A3 else (A3 : Option Addr).map (·.add (((ji15) : Int).toNat * 1))) := ⟨_, rfl⟩
                        obtain ⟨c39, hc39⟩ : ∃ c1, c1 = c3 - ((ji15) : Int).toNat := ⟨_, rfl⟩
                        have hy39 : y611.length = l3.length - ((ji15) : Int).toNat := (by rw [Ny611.out, List.length_drop] <;> omega)
                        rw [show (l3).drop ((ji15) : Int).toNat = y611 from Ny611.out.symm] at hr39
                        replace hr39 : Kd.F (Kd.slice 5 (Kd.int .u8)) _ _ A39 y611.length y611 := (by rw [hA39]; exact hr39)
                        rw [← hy39, ← hA39, ← hc39] at hcut39
                        have HO615 := Aside0.mk (show Kd.V (Kd.slice 5 (Kd.int .u8)) 29 _ w.heap.size _ (.slice A39 y611.length c39) y611 from Kd.V_mk (by rw [hy39, hc39]; exact Nat.sub_le_sub_right hroom39 _) hr39)
                        have HC615 := Aside0.mk (show y611.length ≤ c39 from by rw [hy39, hc39]; exact Nat.sub_le_sub_right hroom39 _)
                        clear hr39 hC39 hroom39 hi039 hsz39 hc39
                        have KY39 := Aside0.mk hy39
                        have KA39 := Aside0.mk hA39
                        clear hy39 hA39
                        replace q39 := eq_true q39
                        have q40 : ((ji15) : Int) ≤ ((l3.length : Int) : Int) := of_decide_eq_true (by first | (with_reducible assumption) | assumption)
                        obtain ⟨i040, hi040, _, hsz40, _⟩ := info_parts info29
                        have hroom40 : l3.length ≤ c3 := (Kd.V_reads' HO_3.out).2.1
                        have hC40 : Kd.F (Kd.slice 5 (Kd.int .u8)) _ _ A3 l3.length l3 := (Kd.V_at (base := w.heap.size) HO_3.out).2.2
                        have hcut40 := cut_to (P := Try.prog) 28 29 .i64 Try.underlying28 hi040 A3 l3.length c3 (ji15) (of_decide_eq_true (by first | (with_reducible assumption) | assumption)) q40 hroom40
                        have hr40 := Kd.F_take (m := ((ji15) : Int).toNat) hC40 (by omega)
                        have hy40 : y619.length = ((ji15) : Int).toNat := (by rw [Ny619.out, List.length_take]; omega)
                        rw [← Ny619.out] at hr40
                        rw [← hy40] at hcut40
                        have HO623 := Aside0.mk (show Kd.V (Kd.slice 5 (Kd.int .u8)) 29 _ w.heap.size _ (.slice A3 y619.length c3) y619 from Kd.V_mk (by omega) hr40)
                        have HC623 := Aside0.mk (show y619.length ≤ c3 from by omega)
                        clear hr40 hC40 hroom40 hi040 hsz40
                        have KY40 := Aside0.mk hy40
                        clear hy40
                        replace q40 := eq_true q40
                        refine start_ (n := 10) (S := fun w' => True) (ds := []) #[false, false, false, false, false, false, false, false, false, false] (by kernel_rfl) rfl rfl trivial (fun hHeld => ?_); refine with_tabW seamarklaw29_ErasureOrder.tab6 seamarklaw29_ErasureOrder.bits6 (fun HT_ HW_ => ?_)
                        generalize w37.drew = w38 at HO_3 HO607 HB HO615 HO623 hHeld ⊢
                        refine pure_ (i := 1) (N := some 57) (v := ?_) (a' := ?_) #[false, true, false, false, false, false, false, false, false, false] rfl rfl (any_of HT_.out (by kernel_rfl)) (fun _ _ _ h => h) (Or.inl ⟨by rfl, ?_⟩) ?_ ?_
                        rotate_left
                        · intro w'
                          go_simp
                          with_reducible rfl
                        rotate_left
                        · simp only [Act.put, List.setIfInBounds_toArray, List.set_cons_zero, List.set_cons_succ, i64_w, i32_w]
                          rfl
                        refine pure_ (i := 2) (N := some 58) (v := ?_) (a' := ?_) #[false, true, true, false, false, false, false, false, false, false] rfl rfl (any_of HT_.out (by kernel_rfl)) (fun _ _ _ h => h) (Or.inl ⟨by rfl, ?_⟩) ?_ ?_
                        rotate_left
                        · intro w'
                          go_simp
                          with_reducible rfl
                        rotate_left
                        · simp only [Act.put, List.setIfInBounds_toArray, List.set_cons_zero, List.set_cons_succ, i64_w, i32_w]
                          rfl
                        refine pure_ (i := 3) (N := some 59) (v := ?_) (a' := ?_) #[false, true, true, true, false, false, false, false, false, false] rfl rfl (any_of HT_.out (by kernel_rfl)) (fun _ _ _ h => h) (Or.inl ⟨by rfl, ?_⟩) ?_ ?_
                        rotate_left
                        · intro w'
                          go_simp
                          with_reducible rfl
                        rotate_left
                        · simp only [Act.put, List.setIfInBounds_toArray, List.set_cons_zero, List.set_cons_succ, i64_w, i32_w]
                          rfl
                        refine pure_ (i := 5) (N := some 61) (v := ?_) (a' := ?_) #[false, true, true, true, false, true, false, false, false, false] rfl rfl (any_of HT_.out (by kernel_rfl)) (fun _ _ _ h => h) (Or.inl ⟨by rfl, ?_⟩) ?_ ?_
                        rotate_left
                        · intro w'
                          go_simp
                          with_reducible rfl
                        rotate_left
                        · simp only [Act.put, List.setIfInBounds_toArray, List.set_cons_zero, List.set_cons_succ, i64_w, i32_w]
                          rfl
                        refine pure_ (i := 6) (N := some 62) (v := ?_) (a' := ?_) #[false, true, true, true, false, true, true, false, false, false] rfl rfl (any_of HT_.out (by kernel_rfl)) (fun _ _ _ h => h) (Or.inl ⟨by rfl, ?_⟩) ?_ ?_
                        rotate_left
                        · intro w'
                          go_simp
                          with_reducible rfl
                        rotate_left
                        · simp only [Act.put, List.setIfInBounds_toArray, List.set_cons_zero, List.set_cons_succ, i64_w, i32_w]
                          rfl
                        refine pure_ (i := 7) (N := some 63) (v := ?_) (a' := ?_) #[false, true, true, true, false, true, true, true, false, false] rfl rfl (any_of HT_.out (by kernel_rfl)) (fun _ _ _ h => h) (Or.inl ⟨by rfl, ?_⟩) ?_ ?_
                        rotate_left
                        · intro w'
                          go_simp
                          with_reducible rfl
                        rotate_left
                        · simp only [Act.put, List.setIfInBounds_toArray, List.set_cons_zero, List.set_cons_succ, i64_w, i32_w]
                          rfl
                        refine one_ (i := 0) (N := some 56) #[true, true, true, true, false, true, true, true, false, false] rfl rfl (one_of HT_.out (by kernel_rfl)) (by decide) (fun K hK => ?_)
                        refine Kd.N_lit_step (Kd.slice 5 (Kd.int .u8)) _ 29 ?hg (N' := 56) ?hd (xs := ([] : List (List Int))) (inner := []) (ok := (fun k_ => (P3_ k_ ∨ w.heap.size ≤ k_) ∧ some k_ ≠ (v606 : Value).ownBlock)) (okp := (fun k_ => (P3_ k_ ∨ w.heap.size ≤ k_) ∧ some k_ ≠ (v606 : Value).ownBlock)) ?hr ?hp (fun _ hk => hk) ((show ∀ k_, w38.heap.size ≤ k_ → (fun k_ => (P3_ k_ ∨ w.heap.size ≤ k_) ∧ some k_ ≠ (v606 : Value).ownBlock) k_ from fun k_ hk => ⟨(.inr (Nat.le_trans (below_size (by repeat (first | (with_reducible first | exact HB.out | apply below_alloc | apply pw_below_drewN | apply below_drew1) | exact HB.out))) hk)), Kd.fresh' (Kd.R_lt (by (with_reducible repeat (first | apply Kd.R_alloc | apply Kd.R_drewN | apply Kd.R_drew)); exact HO607.out)) k_ hk⟩) _ (Nat.le_refl _)) (Below.refl _ _) (Nat.le_refl _) (by simp) ?_; (case hd => rfl); (case hg => rfl); (case hr => first | (go_simp; done) | (go_simp; rfl)); (case hp => exact (Reps.none _ _))
                        intro v609 w41 ho42 hb hg_ hnew_
                        clear hg_ hnew_
                        (first | rw [← Ny608.out] at ho42 | (simp only [Int.reduceToNat] at ho42; rw [← Ny608.out] at ho42))
                        have n0_ := Aside0.mk (Kd.V_elder' (by (with_reducible repeat (first | apply Kd.V_alloc | apply Kd.V_drewN | apply Kd.V_drew)); exact HO_3.out) (by first | exact Kd.N_base ho42 | exact Kd.S_base ho42 | exact Kd.R_base ho42) hb)
                        have n1_ := Aside0.mk (Kd.R_below (by (with_reducible repeat (first | apply Kd.R_alloc | apply Kd.R_drewN | apply Kd.R_drew)); exact HO607.out) hb)
                        have n2_ := Aside0.mk (Kd.V_elder' (by (with_reducible repeat (first | apply Kd.V_alloc | apply Kd.V_drewN | apply Kd.V_drew)); exact HO615.out) (by first | exact Kd.N_base ho42 | exact Kd.S_base ho42 | exact Kd.R_base ho42) hb)
                        have n3_ := Aside0.mk (Kd.V_elder' (by (with_reducible repeat (first | apply Kd.V_alloc | apply Kd.V_drewN | apply Kd.V_drew)); exact HO623.out) (by first | exact Kd.N_base ho42 | exact Kd.S_base ho42 | exact Kd.R_base ho42) hb)
                        have n4_ := Aside0.mk (Kd.N_lower ho42 (below_size (by repeat (first | (with_reducible first | exact HB.out | apply below_alloc | apply pw_below_drewN | apply below_drew1) | exact HB.out))))
                        have n5_ := Aside0.mk (below_step (by repeat (first | (with_reducible first | exact HB.out | apply below_alloc | apply pw_below_drewN | apply below_drew1) | exact HB.out)) hb)
                        clear HO_3
                        clear HO607
                        clear HO615
                        clear HO623
                        clear HB
                        have HO_3 := n0_
                        have HO607 := n1_
                        have HO615 := n2_
                        have HO623 := n3_
                        have HO610 := n4_
                        have HB := n5_
                        clear n0_ n1_ n2_ n3_ n4_ n5_
                        clear hb ho42
                        refine hK.out _ _ trivial (fun hHeld => ?_)
                        clear hK K
                        refine norm_ (a' := ?_) ?_ ?_
                        rotate_left
                        · show Act.put _ (some 56) _ = _
                          simp only [Act.put, List.setIfInBounds_toArray, List.set_cons_zero, List.set_cons_succ, i64_w, i32_w]
                          rfl
                        refine one_ (i := 4) (N := some 60) #[true, true, true, true, true, true, true, true, false, false] rfl rfl (one_of HT_.out (by kernel_rfl)) (by decide) (fun K hK => ?_)
                        refine Kd.N_append_rows_step (Kd.slice 5 (Kd.int .u8)) (w0 := w) w.heap.size (by rfl) (.tmp 56) (.tmp 59) 28 29 (.slice none 0 0) 24 rfl Try.underlying28 info29 rfl (by decide) (by omega) v609 y608 y611 _ _ _ (fun k_ => (P3_ k_ ∨ w.heap.size ≤ k_) ∧ some k_ ≠ (v606 : Value).ownBlock) (fun k_ => ((fun k_ => (P3_ k_ ∨ w.heap.size ≤ k_) ∧ some k_ ≠ (v606 : Value).ownBlock)) k_ ∧ some k_ ≠ (v609 : Value).ownBlock) rfl rfl ?aO ?aR (fun _ hk => hk) ?aF ?aB ?aS ?aL ?_
                        (case aR => exact (by skip; exact Kd.V_F (Kd.V_mono (ok' := (fun k_ => ((fun k_ => (P3_ k_ ∨ w.heap.size ≤ k_) ∧ some k_ ≠ (v606 : Value).ownBlock)) k_ ∧ some k_ ≠ (v609 : Value).ownBlock)) (HO615.out) (fun k_ hk => ⟨⟨hk.1.1, hk.1.2⟩, hk.2⟩))))
                        (case aB => exact (by repeat (first | (with_reducible first | exact HB.out | apply below_alloc | apply pw_below_drewN | apply below_drew1) | exact HB.out)))
                        (case aF => exact (fun k_ hk => ⟨(.inr (Nat.le_trans (below_size (by repeat (first | (with_reducible first | exact HB.out | apply below_alloc | apply pw_below_drewN | apply below_drew1) | exact HB.out))) hk)), Kd.fresh' (Kd.R_lt (by (with_reducible repeat (first | apply Kd.R_alloc | apply Kd.R_drewN | apply Kd.R_drew)); exact HO607.out)) k_ hk⟩))
                        (case aO => exact (by (with_reducible repeat (first | apply Kd.N_alloc | apply Kd.N_drewN | apply Kd.N_drew)); exact HO610.out))
                        (case aS => exact (below_size (by repeat (first | (with_reducible first | exact HB.out | apply below_alloc | apply pw_below_drewN | apply below_drew1) | exact HB.out))))
                        (case aL => have := LMc24.out; omega)
                        intro v617 w43 ho hb hg hat
                        rw [← Ny616.out] at ho
                        have n0_ := Aside0.mk (Kd.V_afterv (ok := (fun k_ => (P3_ k_ ∨ w.heap.size ≤ k_) ∧ some k_ ≠ (v606 : Value).ownBlock)) (by (with_reducible repeat (first | apply Kd.V_alloc | apply Kd.V_drewN | apply Kd.V_drew)); exact HO_3.out) hg hat)
                        have n1_ := Aside0.mk (Kd.R_over' (by (with_reducible repeat (first | apply Kd.R_alloc | apply Kd.R_drewN | apply Kd.R_drew)); exact HO607.out) (Kd.N_typed (by (with_reducible repeat (first | apply Kd.N_alloc | apply Kd.N_drewN | apply Kd.N_drew)); exact HO610.out)) (by decide) hg)
                        have n2_ := Aside0.mk (Kd.V_afterv (ok := (fun k_ => (P3_ k_ ∨ w.heap.size ≤ k_) ∧ some k_ ≠ (v606 : Value).ownBlock)) (by (with_reducible repeat (first | apply Kd.V_alloc | apply Kd.V_drewN | apply Kd.V_drew)); exact HO615.out) hg hat)
                        have n3_ := Aside0.mk (Kd.V_afterv (ok := (fun k_ => (P3_ k_ ∨ w.heap.size ≤ k_) ∧ some k_ ≠ (v606 : Value).ownBlock)) (by (with_reducible repeat (first | apply Kd.V_alloc | apply Kd.V_drewN | apply Kd.V_drew)); exact HO623.out) hg hat)
                        have n4_ := Aside0.mk (hb)
                        have n5_ := Aside0.mk (ho)
                        clear HO_3
                        clear HO607
                        clear HO615
                        clear HO623
                        clear HB
                        clear HO610
                        have HO_3 := n0_
                        have HO607 := n1_
                        have HO615 := n2_
                        have HO623 := n3_
                        have HB := n4_
                        have HO618 := n5_
                        clear n0_ n1_ n2_ n3_ n4_ n5_
                        clear ho hb hg hat
                        refine hK.out _ _ trivial (fun hHeld => ?_)
                        clear hK K
                        refine norm_ (a' := ?_) ?_ ?_
                        rotate_left
                        · show Act.put _ (some 60) _ = _
                          simp only [Act.put, List.setIfInBounds_toArray, List.set_cons_zero, List.set_cons_succ, i64_w, i32_w]
                          rfl
                        refine one_ (i := 8) (N := some 64) #[true, true, true, true, true, true, true, true, true, false] rfl rfl (one_of HT_.out (by kernel_rfl)) (by decide) (fun K hK => ?_)
                        refine Kd.N_append_rows_step (Kd.slice 5 (Kd.int .u8)) (w0 := w) w.heap.size (by rfl) (.tmp 60) (.tmp 63) 28 29 (.slice none 0 0) 24 rfl Try.underlying28 info29 rfl (by decide) (by omega) v617 y616 y619 _ _ _ (fun k_ => (P3_ k_ ∨ w.heap.size ≤ k_) ∧ some k_ ≠ (v606 : Value).ownBlock) (fun k_ => ((fun k_ => (P3_ k_ ∨ w.heap.size ≤ k_) ∧ some k_ ≠ (v606 : Value).ownBlock)) k_ ∧ some k_ ≠ (v617 : Value).ownBlock) rfl rfl ?aO ?aR (fun _ hk => hk) ?aF ?aB ?aS ?aL ?_
                        (case aR => exact (by skip; exact Kd.V_F (Kd.V_mono (ok' := (fun k_ => ((fun k_ => (P3_ k_ ∨ w.heap.size ≤ k_) ∧ some k_ ≠ (v606 : Value).ownBlock)) k_ ∧ some k_ ≠ (v617 : Value).ownBlock)) (HO623.out) (fun k_ hk => ⟨⟨hk.1.1, hk.1.2⟩, hk.2⟩))))
                        (case aB => exact (by repeat (first | (with_reducible first | exact HB.out | apply below_alloc | apply pw_below_drewN | apply below_drew1) | exact HB.out)))
                        (case aF => exact (fun k_ hk => ⟨(.inr (Nat.le_trans (below_size (by repeat (first | (with_reducible first | exact HB.out | apply below_alloc | apply pw_below_drewN | apply below_drew1) | exact HB.out))) hk)), Kd.fresh' (Kd.R_lt (by (with_reducible repeat (first | apply Kd.R_alloc | apply Kd.R_drewN | apply Kd.R_drew)); exact HO607.out)) k_ hk⟩))
                        (case aO => exact (by (with_reducible repeat (first | apply Kd.N_alloc | apply Kd.N_drewN | apply Kd.N_drew)); exact HO618.out))
                        (case aS => exact (below_size (by repeat (first | (with_reducible first | exact HB.out | apply below_alloc | apply pw_below_drewN | apply below_drew1) | exact HB.out))))
                        (case aL => have := LMc27.out; omega)
                        intro v625 w44 ho hb hg hat
                        rw [← Ny624.out] at ho
                        have n0_ := Aside0.mk (Kd.V_afterv (ok := (fun k_ => (P3_ k_ ∨ w.heap.size ≤ k_) ∧ some k_ ≠ (v606 : Value).ownBlock)) (by (with_reducible repeat (first | apply Kd.V_alloc | apply Kd.V_drewN | apply Kd.V_drew)); exact HO_3.out) hg hat)
                        have n1_ := Aside0.mk (Kd.R_over' (by (with_reducible repeat (first | apply Kd.R_alloc | apply Kd.R_drewN | apply Kd.R_drew)); exact HO607.out) (Kd.N_typed (by (with_reducible repeat (first | apply Kd.N_alloc | apply Kd.N_drewN | apply Kd.N_drew)); exact HO618.out)) (by decide) hg)
                        have n2_ := Aside0.mk (Kd.V_afterv (ok := (fun k_ => (P3_ k_ ∨ w.heap.size ≤ k_) ∧ some k_ ≠ (v606 : Value).ownBlock)) (by (with_reducible repeat (first | apply Kd.V_alloc | apply Kd.V_drewN | apply Kd.V_drew)); exact HO615.out) hg hat)
                        have n3_ := Aside0.mk (Kd.V_afterv (ok := (fun k_ => (P3_ k_ ∨ w.heap.size ≤ k_) ∧ some k_ ≠ (v606 : Value).ownBlock)) (by (with_reducible repeat (first | apply Kd.V_alloc | apply Kd.V_drewN | apply Kd.V_drew)); exact HO623.out) hg hat)
                        have n4_ := Aside0.mk (hb)
                        have n5_ := Aside0.mk (ho)
                        clear HO_3
                        clear HO607
                        clear HO615
                        clear HO623
                        clear HB
                        clear HO618
                        have HO_3 := n0_
                        have HO607 := n1_
                        have HO615 := n2_
                        have HO623 := n3_
                        have HB := n4_
                        have HO626 := n5_
                        clear n0_ n1_ n2_ n3_ n4_ n5_
                        clear ho hb hg hat
                        refine hK.out _ _ trivial (fun hHeld => ?_)
                        clear hK K
                        refine norm_ (a' := ?_) ?_ ?_
                        rotate_left
                        · show Act.put _ (some 64) _ = _
                          simp only [Act.put, List.setIfInBounds_toArray, List.set_cons_zero, List.set_cons_succ, i64_w, i32_w]
                          rfl
                        refine pure_ (i := 9) (N := some 16) (v := ?_) (a' := ?_) #[true, true, true, true, true, true, true, true, true, true] rfl rfl (any_of HT_.out (by kernel_rfl)) (fun _ _ _ h => h) (Or.inl ⟨by rfl, ?_⟩) ?_ ?_
                        rotate_left
                        · intro w'
                          go_simp
                          with_reducible rfl
                        rotate_left
                        · simp only [Act.put, List.setIfInBounds_toArray, List.set_cons_zero, List.set_cons_succ, i64_w, i32_w]
                          rfl
                        refine done_ (done_of HT_.out (by kernel_rfl)) ?_
                        go_upto_region 9 with (first | ((with_reducible refine gate_callee (f := 20) rfl ?_); refine goesL_ (some 69) rfl rfl Try.func20 (by kernel_rfl) rfl #[.int .i64 a0, .slice A2 l2.length c2, .slice A3 l3.length c3] rfl (by (try simp only [List.map_toArray, List.map_cons, List.map_nil]); first | done | rfl | (simp only [List.length_drop, List.length_take]; rfl)) ?_; (with_reducible refine (erasure_Fits.calls kj7 a0 _ _ l2 _ _ l3 t627 t628 _ ?side1 ?side2 ?side3 ?side4 A28.out).mono ?_); (case side1 => repeat (first | exact (Kd.C_below HR2.out HB.out) | (with_reducible refine Kd.C_alloc ?_ _) | (with_reducible refine Kd.C_drewN ?_ _) | (with_reducible refine Kd.C_drew ?_))); (case side2 => exact HC2.out); (case side3 => repeat (first | exact (Kd.V_reads' HO_3.out).2.2 | (with_reducible refine Kd.C_alloc ?_ _) | (with_reducible refine Kd.C_drewN ?_ _) | (with_reducible refine Kd.C_drew ?_))); (case side4 => exact (Kd.V_reads' HO_3.out).2.1); rintro e w45 ⟨rfl, hb⟩; refine ⟨_, rfl, ?_⟩; have n0_ := Aside0.mk (Kd.V_below (by (with_reducible repeat (first | apply Kd.V_alloc | apply Kd.V_drewN | apply Kd.V_drew)); exact HO_3.out) hb); have n1_ := Aside0.mk (Kd.R_below (by (with_reducible repeat (first | apply Kd.R_alloc | apply Kd.R_drewN | apply Kd.R_drew)); exact HO607.out) hb); have n2_ := Aside0.mk (Kd.V_below (by (with_reducible repeat (first | apply Kd.V_alloc | apply Kd.V_drewN | apply Kd.V_drew)); exact HO615.out) hb); have n3_ := Aside0.mk (Kd.V_below (by (with_reducible repeat (first | apply Kd.V_alloc | apply Kd.V_drewN | apply Kd.V_drew)); exact HO623.out) hb); have n4_ := Aside0.mk (Kd.N_below (by (with_reducible repeat (first | apply Kd.N_alloc | apply Kd.N_drewN | apply Kd.N_drew)); exact HO626.out) hb); have n5_ := Aside0.mk (below_step (by repeat (first | (with_reducible first | exact HB.out | apply below_alloc | apply pw_below_drewN | apply below_drew1) | exact HB.out)) hb); clear HO_3; clear HO607; clear HO615; clear HO623; clear HO626; clear HB; have HO_3 := n0_; have HO607 := n1_; have HO615 := n2_; have HO623 := n3_; have HO626 := n4_; have HB := n5_; clear n0_ n1_ n2_ n3_ n4_ n5_; (try clear hb); (try clear hb2); (try clear hk); (try clear hi); obtain ⟨Ao46, co46, eo46⟩ := Kd.R_slice HO607.out; subst eo46; obtain ⟨Ao47, co47, eo47⟩ := Kd.N_slice HO626.out; subst eo47) | ((with_reducible refine gate_callee (f := 20) rfl ?_); refine goesL_ (some 76) rfl rfl Try.func20 (by kernel_rfl) rfl #[.int .i64 a0, .slice Ao46 y605.length co46, .slice Ao47 y624.length co47] rfl (by (try simp only [List.map_toArray, List.map_cons, List.map_nil]); first | done | rfl | (simp only [List.length_drop, List.length_take]; rfl)) ?_; (with_reducible refine (erasure_Fits.calls kj7 a0 _ _ y605 _ _ y624 t629 t630 _ ?side1 ?side2 ?side3 ?side4 A29.out).mono ?_); (case side1 => repeat (first | exact (Kd.R_reads' HO607.out).2.2 | (with_reducible refine Kd.C_alloc ?_ _) | (with_reducible refine Kd.C_drewN ?_ _) | (with_reducible refine Kd.C_drew ?_))); (case side2 => exact (Kd.R_reads' HO607.out).2.1); (case side3 => repeat (first | exact (Kd.N_reads' HO626.out).2.2 | (with_reducible refine Kd.C_alloc ?_ _) | (with_reducible refine Kd.C_drewN ?_ _) | (with_reducible refine Kd.C_drew ?_))); (case side4 => exact (Kd.N_reads' HO626.out).2.1); rintro e w48 ⟨rfl, hb⟩; refine ⟨_, rfl, ?_⟩; have n0_ := Aside0.mk (Kd.V_below (by (with_reducible repeat (first | apply Kd.V_alloc | apply Kd.V_drewN | apply Kd.V_drew)); exact HO_3.out) hb); have n1_ := Aside0.mk (Kd.R_below (by (with_reducible repeat (first | apply Kd.R_alloc | apply Kd.R_drewN | apply Kd.R_drew)); exact HO607.out) hb); have n2_ := Aside0.mk (Kd.V_below (by (with_reducible repeat (first | apply Kd.V_alloc | apply Kd.V_drewN | apply Kd.V_drew)); exact HO615.out) hb); have n3_ := Aside0.mk (Kd.V_below (by (with_reducible repeat (first | apply Kd.V_alloc | apply Kd.V_drewN | apply Kd.V_drew)); exact HO623.out) hb); have n4_ := Aside0.mk (Kd.N_below (by (with_reducible repeat (first | apply Kd.N_alloc | apply Kd.N_drewN | apply Kd.N_drew)); exact HO626.out) hb); have n5_ := Aside0.mk (below_step (by repeat (first | (with_reducible first | exact HB.out | apply below_alloc | apply pw_below_drewN | apply below_drew1) | exact HB.out)) hb); clear HO_3; clear HO607; clear HO615; clear HO623; clear HO626; clear HB; have HO_3 := n0_; have HO607 := n1_; have HO615 := n2_; have HO623 := n3_; have HO626 := n4_; have HB := n5_; clear n0_ n1_ n2_ n3_ n4_ n5_; (try clear hb); (try clear hb2); (try clear hk); (try clear hi)))
                        (try simp only [Act.put, List.setIfInBounds_toArray, List.set_cons_zero, List.set_cons_succ])
                        go_cut [13] (fun v13 wc => ∃ (kq : Nat) (x13_29 : Bool), v13 = .bool x13_29 ∧ Aside0 (seamarklaw29_ErasureOrder.j1 kq a0 a1 l2 l3 a4 x13_29 y605 y624 = some r) ∧ Aside0 (kq ≤ kj7) ∧ Aside0 (Kd.V (Kd.slice 5 (Kd.int .u8)) 29 wc w.heap.size (fun k_ => (P3_ k_ ∨ w.heap.size ≤ k_) ∧ some k_ ≠ ((.slice Ao46 y605.length co46) : Value).ownBlock ∧ some k_ ≠ ((.slice Ao47 y624.length co47) : Value).ownBlock) (.slice A3 l3.length c3) l3) ∧ Aside0 (Kd.R (Kd.int .i64) 3 wc w.heap.size (fun k_ => (w.heap.size ≤ k_)) (.slice Ao46 y605.length co46) y605) ∧ Aside0 (Kd.N (Kd.slice 5 (Kd.int .u8)) 29 wc w.heap.size (fun k_ => (P3_ k_ ∨ w.heap.size ≤ k_) ∧ some k_ ≠ ((.slice Ao46 y605.length co46) : Value).ownBlock) (.slice Ao47 y624.length co47) y624) ∧ Aside0 (Below w.heap.size w wc))
                        case first =>
                          have H := HC30.out
                          clear HC30
                          by_cases c49 : t595 = true
                          · subst c49
                            have H1 : (if (t627 == t629) = true then (seamarklaw29_ErasureOrder.j1 kj7 a0 a1 l2 l3 a4 (t628 == t630) y605 y624) else (seamarklaw29_ErasureOrder.j1 kj7 a0 a1 l2 l3 a4 false y605 y624)) = some r := by rw [if_pos rfl] at H; exact H
                            clear H
                            have H := H1
                            clear H1
                            by_cases c50 : (t627 == t629) = true
                            · rw [if_pos c50] at H
                              have c50b0 : (t627 == t629) = true := c50
                              (try (have c50b1 : decide (t627 = t629) = true := by simpa using c50))
                              (try (have c50b2 : (t627 == t629) = true := by simpa using c50))
                              clear c50
                              (first | rw [c50b0] | (simp only [i64_w, i32_w]; rw [c50b0]) | skip)
                              have H' := Aside0.mk H
                              clear H
                              go_wp2
                              go_meet
                              case rel => exact ⟨_, ((t628 == t630)), (by first | rfl | (simp; done) | (simp [*]; done)), H', ⟨by have := HJ7.out; first | omega | exact Nat.le_refl _⟩, ⟨by (with_reducible repeat (first | apply Kd.V_alloc | apply Kd.V_drewN | apply Kd.V_drew)); exact Kd.V_mono HO_3.out (fun _ hk => ⟨hk.1.1, ⟨hk.1.2, hk.2⟩⟩)⟩, ⟨by (with_reducible repeat (first | apply Kd.R_alloc | apply Kd.R_drewN | apply Kd.R_drew)); exact HO607.out⟩, ⟨by (with_reducible repeat (first | apply Kd.N_alloc | apply Kd.N_drewN | apply Kd.N_drew)); exact HO626.out⟩, ⟨by repeat (first | (with_reducible first | exact HB.out | apply below_alloc | apply pw_below_drewN | apply below_drew1) | exact HB.out)⟩⟩
                            · rw [if_neg c50] at H
                              have c50b0 : (t627 == t629) = false := by simpa using c50
                              (try (have c50b1 : decide (t627 = t629) = false := by simpa using c50))
                              (try (have c50b2 : (t627 == t629) = false := by simpa using c50))
                              (try (have c50b3 : ¬ (t627 = t629) := by simpa using c50))
                              clear c50
                              (first | rw [c50b0] | (simp only [i64_w, i32_w]; rw [c50b0]) | skip)
                              have H' := Aside0.mk H
                              clear H
                              go_wp2
                              go_meet
                              case rel => exact ⟨_, (false), (by first | rfl | (simp; done) | (simp [*]; done)), H', ⟨by have := HJ7.out; first | omega | exact Nat.le_refl _⟩, ⟨by (with_reducible repeat (first | apply Kd.V_alloc | apply Kd.V_drewN | apply Kd.V_drew)); exact Kd.V_mono HO_3.out (fun _ hk => ⟨hk.1.1, ⟨hk.1.2, hk.2⟩⟩)⟩, ⟨by (with_reducible repeat (first | apply Kd.R_alloc | apply Kd.R_drewN | apply Kd.R_drew)); exact HO607.out⟩, ⟨by (with_reducible repeat (first | apply Kd.N_alloc | apply Kd.N_drewN | apply Kd.N_drew)); exact HO626.out⟩, ⟨by repeat (first | (with_reducible first | exact HB.out | apply below_alloc | apply pw_below_drewN | apply below_drew1) | exact HB.out)⟩⟩
                          · replace c49 := Bool.eq_false_iff.mpr c49
                            subst c49
                            have H1 : (seamarklaw29_ErasureOrder.j1 kj7 a0 a1 l2 l3 a4 false y605 y624) = some r := by rw [if_neg (show ¬ (false = true) by decide)] at H; exact H
                            clear H
                            have H := H1
                            clear H1
                            have H' := Aside0.mk H
                            clear H
                            go_wp2
                            go_meet
                            case rel => exact ⟨_, (false), (by first | rfl | (simp; done) | (simp [*]; done)), H', ⟨by have := HJ7.out; first | omega | exact Nat.le_refl _⟩, ⟨by (with_reducible repeat (first | apply Kd.V_alloc | apply Kd.V_drewN | apply Kd.V_drew)); exact Kd.V_mono HO_3.out (fun _ hk => ⟨hk.1.1, ⟨hk.1.2, hk.2⟩⟩)⟩, ⟨by (with_reducible repeat (first | apply Kd.R_alloc | apply Kd.R_drewN | apply Kd.R_drew)); exact HO607.out⟩, ⟨by (with_reducible repeat (first | apply Kd.N_alloc | apply Kd.N_drewN | apply Kd.N_drew)); exact HO626.out⟩, ⟨by repeat (first | (with_reducible first | exact HB.out | apply below_alloc | apply pw_below_drewN | apply below_drew1) | exact HB.out)⟩⟩
                        case rest =>
                          clear HC30
                          (try clear c1); (try clear c2); (try clear p2); (try clear c3); (try clear q3); (try clear c4); (try clear q4); (try clear c5); (try clear p6); (try clear c10); (try clear c11); (try clear c12); (try clear c12b0); (try clear c12b1); (try clear c12b2); (try clear c13); (try clear c14); (try clear c14b0); (try clear c14b1); (try clear c14b2); (try clear c16); (try clear c16b0); (try clear c16b1); (try clear c17); (try clear c17b0); (try clear c17b1); (try clear c18); (try clear c19); (try clear c19b0); (try clear c20); (try clear c20b0); (try clear c21); (try clear c22); (try clear c22b0); (try clear c23); (try clear c23b0); (try clear c23b1); (try clear c24); (try clear c25); (try clear c25b0); (try clear c26); (try clear c26b0); (try clear c27); (try clear c39); (try clear q39); (try clear q40); (try clear c49); (try clear c50); (try clear c50b0); (try clear c50b1); (try clear c50b2); (try clear p2); (try clear q039); (try clear q39); (try clear q40)
                          obtain ⟨kq, x13_29, rfl, HA, HJ29, HO_3, HO_15, HO_16, HB⟩ := hcut
                          cases kq with
                          | zero => exact absurd HA.out (by simp [seamarklaw29_ErasureOrder.j1])
                          | succ kj29 =>
                            have H := HA.out
                            clear HA
                            simp only [seamarklaw29_ErasureOrder.j1] at H
                            replace H := Option.bind_eq_some_iff.mp H
                            obtain ⟨⟨t631, t632⟩, A510, H⟩ := H
                            replace H : ((erasure_Decode.f kj29 a0 a1 y605 y624).bind fun bt635 => (if x13_29 = true then ((seamarkref29_Same.f kj29 t631 bt635.1).bind fun t639 => (if t639 = true then ((erasure_Repair.f kj29 a0 l2 l3 a4).bind fun bt640 => ((erasure_Repair.f kj29 a0 y605 y624 a4).bind fun bt644 => (if t632 = bt635.2 then ((seamarkref29_Bytes.f kj29 bt640.1 bt644.1).bind fun t648 => (if t648 = true then (some (bt640.2 == bt644.2)) else (none))) else (none)))) else (none))) else (none))) = some r := H
                            have A51 := Aside0.mk A510
                            clear A510
                            replace H := Option.bind_eq_some_iff.mp H
                            obtain ⟨⟨t635, t636⟩, A520, H⟩ := H
                            replace H : (if x13_29 = true then ((seamarkref29_Same.f kj29 t631 t635).bind fun t639 => (if t639 = true then ((erasure_Repair.f kj29 a0 l2 l3 a4).bind fun bt640 => ((erasure_Repair.f kj29 a0 y605 y624 a4).bind fun bt644 => (if t632 = t636 then ((seamarkref29_Bytes.f kj29 bt640.1 bt644.1).bind fun t648 => (if t648 = true then (some (bt640.2 == bt644.2)) else (none))) else (none)))) else (none))) else (none)) = some r := H
                            have A52 := Aside0.mk A520
                            clear A520
                            by_cases c53 : x13_29 = true
                            · subst c53
                              have H1 : ((seamarkref29_Same.f kj29 t631 t635).bind fun t639 => (if t639 = true then ((erasure_Repair.f kj29 a0 l2 l3 a4).bind fun bt640 => ((erasure_Repair.f kj29 a0 y605 y624 a4).bind fun bt644 => (if t632 = t636 then ((seamarkref29_Bytes.f kj29 bt640.1 bt644.1).bind fun t648 => (if t648 = true then (some (bt640.2 == bt644.2)) else (none))) else (none)))) else (none))) = some r := by rw [if_pos rfl] at H; exact H
                              clear H
                              have H := H1
                              clear H1
                              replace H := Option.bind_eq_some_iff.mp H
                              obtain ⟨t639, A540, H⟩ := H
                              replace H : (if t639 = true then ((erasure_Repair.f kj29 a0 l2 l3 a4).bind fun bt640 => ((erasure_Repair.f kj29 a0 y605 y624 a4).bind fun bt644 => (if t632 = t636 then ((seamarkref29_Bytes.f kj29 bt640.1 bt644.1).bind fun t648 => (if t648 = true then (some (bt640.2 == bt644.2)) else (none))) else (none)))) else (none)) = some r := H
                              have A54 := Aside0.mk A540
                              clear A540
                              by_cases c55 : t639 = true
                              · subst c55
                                have H1 : ((erasure_Repair.f kj29 a0 l2 l3 a4).bind fun bt640 => ((erasure_Repair.f kj29 a0 y605 y624 a4).bind fun bt644 => (if t632 = t636 then ((seamarkref29_Bytes.f kj29 bt640.1 bt644.1).bind fun t648 => (if t648 = true then (some (bt640.2 == bt644.2)) else (none))) else (none)))) = some r := by rw [if_pos rfl] at H; exact H
                                clear H
                                have H := H1
                                clear H1
                                replace H := Option.bind_eq_some_iff.mp H
                                obtain ⟨⟨t640, t641⟩, A560, H⟩ := H
                                replace H : ((erasure_Repair.f kj29 a0 y605 y624 a4).bind fun bt644 => (if t632 = t636 then ((seamarkref29_Bytes.f kj29 t640 bt644.1).bind fun t648 => (if t648 = true then (some (t641 == bt644.2)) else (none))) else (none))) = some r := H
                                have A56 := Aside0.mk A560
                                clear A560
                                replace H := Option.bind_eq_some_iff.mp H
                                obtain ⟨⟨t644, t645⟩, A570, H⟩ := H
                                replace H : (if t632 = t636 then ((seamarkref29_Bytes.f kj29 t640 t644).bind fun t648 => (if t648 = true then (some (t641 == t645)) else (none))) else (none)) = some r := H
                                have A57 := Aside0.mk A570
                                clear A570
                                by_cases c58 : t632 = t636
                                · rw [if_pos c58] at H
                                  have c58b0 : (t632 == t636) = true := beq_iff_eq.mpr c58
                                  have c58b1 : (t632 != t636) = false := bne_eq_false_iff_eq.mpr c58
                                  clear c58
                                  replace H := Option.bind_eq_some_iff.mp H
                                  obtain ⟨t648, A590, H⟩ := H
                                  replace H : (if t648 = true then (some (t641 == t645)) else (none)) = some r := H
                                  have A59 := Aside0.mk A590
                                  clear A590
                                  by_cases c60 : t648 = true
                                  · subst c60
                                    have H1 : (some (t641 == t645)) = some r := by rw [if_pos rfl] at H; exact H
                                    clear H
                                    have H := H1
                                    clear H1
                                    obtain rfl := Option.some.inj H
                                    go_wp2_with (first | ((with_reducible refine gate_callee (f := 17) rfl ?_); refine goesL_ (some 95) rfl rfl Try.func17 (by kernel_rfl) rfl #[.int .i64 a0, .int .i64 a1, .slice A2 l2.length c2, .slice A3 l3.length c3] rfl (by (try simp only [List.map_toArray, List.map_cons, List.map_nil]); first | done | rfl | (simp only [List.length_drop, List.length_take]; rfl)) ?_; (with_reducible refine (erasure_Decode.calls kj29 a0 a1 _ _ l2 _ _ l3 t631 t632 _ ?side1 ?side2 ?side3 ?side4 A51.out).mono ?_); (case side1 => repeat (first | exact (Kd.C_below HR2.out HB.out) | (with_reducible refine Kd.C_alloc ?_ _) | (with_reducible refine Kd.C_drewN ?_ _) | (with_reducible refine Kd.C_drew ?_))); (case side2 => exact HC2.out); (case side3 => repeat (first | exact (Kd.V_reads' HO_3.out).2.2 | (with_reducible refine Kd.C_alloc ?_ _) | (with_reducible refine Kd.C_drewN ?_ _) | (with_reducible refine Kd.C_drew ?_))); (case side4 => exact (Kd.V_reads' HO_3.out).2.1); rintro e w61 ⟨v633, rfl, ho0, hb⟩; refine ⟨_, rfl, ?_⟩; have n0_ := Aside0.mk (Kd.V_elder' (by (with_reducible repeat (first | apply Kd.V_alloc | apply Kd.V_drewN | apply Kd.V_drew)); exact HO_3.out) (by first | exact Kd.N_base ho0 | exact Kd.S_base ho0 | exact Kd.R_base ho0) hb); have n1_ := Aside0.mk (Kd.R_below (by (with_reducible repeat (first | apply Kd.R_alloc | apply Kd.R_drewN | apply Kd.R_drew)); exact HO_15.out) hb); have n2_ := Aside0.mk (Kd.N_elder' (by (with_reducible repeat (first | apply Kd.N_alloc | apply Kd.N_drewN | apply Kd.N_drew)); exact HO_16.out) (by first | exact Kd.N_base ho0 | exact Kd.S_base ho0 | exact Kd.R_base ho0) hb); have n3_ := Aside0.mk (Kd.N_lower (Kd.N_mono (ok' := fun k_ => (P3_ k_ ∨ w.heap.size ≤ k_) ∧ some k_ ≠ (.slice Ao46 y605.length co46 : Value).ownBlock ∧ some k_ ≠ (.slice Ao47 y624.length co47 : Value).ownBlock) (Kd.S_N (Kd.S_bound ho0)) (fun k_ hk_ => ⟨(.inr (Nat.le_trans (below_size (by repeat (first | (with_reducible first | exact HB.out | apply below_alloc | apply pw_below_drewN | apply below_drew1) | exact HB.out))) hk_.2.1)), (Kd.fresh' (Kd.R_lt (by (with_reducible repeat (first | apply Kd.R_alloc | apply Kd.R_drewN | apply Kd.R_drew)); exact HO_15.out)) k_ hk_.2.1), (Kd.fresh' (Kd.N_lt (by (with_reducible repeat (first | apply Kd.N_alloc | apply Kd.N_drewN | apply Kd.N_drew)); exact HO_16.out)) k_ hk_.2.1)⟩)) (below_size (by repeat (first | (with_reducible first | exact HB.out | apply below_alloc | apply pw_below_drewN | apply below_drew1) | exact HB.out)))); have n4_ := Aside0.mk (below_step (by repeat (first | (with_reducible first | exact HB.out | apply below_alloc | apply pw_below_drewN | apply below_drew1) | exact HB.out)) hb); clear HO_3; clear HO_15; clear HO_16; clear HB; have HO_3 := n0_; have HO_15 := n1_; have HO_16 := n2_; have HO634 := n3_; have HB := n4_; clear n0_ n1_ n2_ n3_ n4_; (try clear hb); (try clear hb2); (try clear hk); (try clear hi); (try clear ho0)) | ((with_reducible refine gate_callee (f := 17) rfl ?_); refine goesL_ (some 103) rfl rfl Try.func17 (by kernel_rfl) rfl #[.int .i64 a0, .int .i64 a1, .slice Ao46 y605.length co46, .slice Ao47 y624.length co47] rfl (by (try simp only [List.map_toArray, List.map_cons, List.map_nil]); first | done | rfl | (simp only [List.length_drop, List.length_take]; rfl)) ?_; (with_reducible refine (erasure_Decode.calls kj29 a0 a1 _ _ y605 _ _ y624 t635 t636 _ ?side1 ?side2 ?side3 ?side4 A52.out).mono ?_); (case side1 => repeat (first | exact (Kd.R_reads' HO_15.out).2.2 | (with_reducible refine Kd.C_alloc ?_ _) | (with_reducible refine Kd.C_drewN ?_ _) | (with_reducible refine Kd.C_drew ?_))); (case side2 => exact (Kd.R_reads' HO_15.out).2.1); (case side3 => repeat (first | exact (Kd.N_reads' HO_16.out).2.2 | (with_reducible refine Kd.C_alloc ?_ _) | (with_reducible refine Kd.C_drewN ?_ _) | (with_reducible refine Kd.C_drew ?_))); (case side4 => exact (Kd.N_reads' HO_16.out).2.1); rintro e w62 ⟨v637, rfl, ho0, hb⟩; refine ⟨_, rfl, ?_⟩; have n0_ := Aside0.mk (Kd.V_elder' (by (with_reducible repeat (first | apply Kd.V_alloc | apply Kd.V_drewN | apply Kd.V_drew)); exact HO_3.out) (by first | exact Kd.N_base ho0 | exact Kd.S_base ho0 | exact Kd.R_base ho0) hb); have n1_ := Aside0.mk (Kd.R_below (by (with_reducible repeat (first | apply Kd.R_alloc | apply Kd.R_drewN | apply Kd.R_drew)); exact HO_15.out) hb); have n2_ := Aside0.mk (Kd.N_elder' (by (with_reducible repeat (first | apply Kd.N_alloc | apply Kd.N_drewN | apply Kd.N_drew)); exact HO_16.out) (by first | exact Kd.N_base ho0 | exact Kd.S_base ho0 | exact Kd.R_base ho0) hb); have n3_ := Aside0.mk (Kd.N_elder' (by (with_reducible repeat (first | apply Kd.N_alloc | apply Kd.N_drewN | apply Kd.N_drew)); exact HO634.out) (by first | exact Kd.N_base ho0 | exact Kd.S_base ho0 | exact Kd.R_base ho0) hb); have n4_ := Aside0.mk (Kd.N_lower (Kd.N_mono (ok' := fun k_ => (P3_ k_ ∨ w.heap.size ≤ k_) ∧ some k_ ≠ (.slice Ao46 y605.length co46 : Value).ownBlock ∧ some k_ ≠ (.slice Ao47 y624.length co47 : Value).ownBlock ∧ some k_ ≠ (v633 : Value).ownBlock) (Kd.S_N (Kd.S_bound ho0)) (fun k_ hk_ => ⟨(.inr (Nat.le_trans (below_size (by repeat (first | (with_reducible first | exact HB.out | apply below_alloc | apply pw_below_drewN | apply below_drew1) | exact HB.out))) hk_.2.1)), (Kd.fresh' (Kd.R_lt (by (with_reducible repeat (first | apply Kd.R_alloc | apply Kd.R_drewN | apply Kd.R_drew)); exact HO_15.out)) k_ hk_.2.1), (Kd.fresh' (Kd.N_lt (by (with_reducible repeat (first | apply Kd.N_alloc | apply Kd.N_drewN | apply Kd.N_drew)); exact HO_16.out)) k_ hk_.2.1), (Kd.fresh' (Kd.N_lt (by (with_reducible repeat (first | apply Kd.N_alloc | apply Kd.N_drewN | apply Kd.N_drew)); exact HO634.out)) k_ hk_.2.1)⟩)) (below_size (by repeat (first | (with_reducible first | exact HB.out | apply below_alloc | apply pw_below_drewN | apply below_drew1) | exact HB.out)))); have n5_ := Aside0.mk (below_step (by repeat (first | (with_reducible first | exact HB.out | apply below_alloc | apply pw_below_drewN | apply below_drew1) | exact HB.out)) hb); clear HO_3; clear HO_15; clear HO_16; clear HO634; clear HB; have HO_3 := n0_; have HO_15 := n1_; have HO_16 := n2_; have HO634 := n3_; have HO638 := n4_; have HB := n5_; clear n0_ n1_ n2_ n3_ n4_ n5_; (try clear hb); (try clear hb2); (try clear hk); (try clear hi); (try clear ho0); obtain ⟨Ao63, co63, eo63⟩ := Kd.N_slice HO634.out; subst eo63; obtain ⟨Ao64, co64, eo64⟩ := Kd.N_slice HO638.out; subst eo64) | (go_at_call 19; (with_reducible refine (seamarkref29_Same.calls kj29 _ _ t631 _ _ t635 true _ ?side1 ?side2 ?side3 ?side4 A54.out).mono ?_); (case side1 => repeat (first | exact (Kd.N_reads' HO634.out).2.2 | (with_reducible refine Kd.C_alloc ?_ _) | (with_reducible refine Kd.C_drewN ?_ _) | (with_reducible refine Kd.C_drew ?_))); (case side2 => exact (Kd.N_reads' HO634.out).2.1); (case side3 => repeat (first | exact (Kd.N_reads' HO638.out).2.2 | (with_reducible refine Kd.C_alloc ?_ _) | (with_reducible refine Kd.C_drewN ?_ _) | (with_reducible refine Kd.C_drew ?_))); (case side4 => exact (Kd.N_reads' HO638.out).2.1); rintro e w' ⟨rfl, ⟨nd, rfl⟩⟩) | ((with_reducible refine gate_callee (f := 28) rfl ?_); refine goesL_ (some 122) rfl rfl Try.func28 (by kernel_rfl) rfl #[.int .i64 a0, .slice A2 l2.length c2, .slice A3 l3.length c3, .int .i64 a4] rfl (by (try simp only [List.map_toArray, List.map_cons, List.map_nil]); first | done | rfl | (simp only [List.length_drop, List.length_take]; rfl)) ?_; (with_reducible refine (erasure_Repair.calls kj29 a0 _ _ l2 _ _ l3 a4 t640 t641 _ ?side1 ?side2 ?side3 ?side4 A56.out).mono ?_); (case side1 => repeat (first | exact (Kd.C_below HR2.out (by repeat (first | (with_reducible first | exact HB.out | apply below_alloc | apply pw_below_drewN | apply below_drew1) | exact HB.out))) | (with_reducible refine Kd.C_alloc ?_ _) | (with_reducible refine Kd.C_drewN ?_ _) | (with_reducible refine Kd.C_drew ?_))); (case side2 => exact HC2.out); (case side3 => repeat (first | exact (Kd.V_reads' HO_3.out).2.2 | (with_reducible refine Kd.C_alloc ?_ _) | (with_reducible refine Kd.C_drewN ?_ _) | (with_reducible refine Kd.C_drew ?_))); (case side4 => exact (Kd.V_reads' HO_3.out).2.1); rintro e w65 ⟨v642, rfl, ho0, hb⟩; refine ⟨_, rfl, ?_⟩; have n0_ := Aside0.mk (Kd.V_elder' (by (with_reducible repeat (first | apply Kd.V_alloc | apply Kd.V_drewN | apply Kd.V_drew)); exact HO_3.out) (Kd.R_base ho0) hb); have n1_ := Aside0.mk (Kd.R_below (by (with_reducible repeat (first | apply Kd.R_alloc | apply Kd.R_drewN | apply Kd.R_drew)); exact HO_15.out) hb); have n2_ := Aside0.mk (Kd.N_elder' (by (with_reducible repeat (first | apply Kd.N_alloc | apply Kd.N_drewN | apply Kd.N_drew)); exact HO_16.out) (Kd.R_base ho0) hb); have n3_ := Aside0.mk (Kd.N_elder' (by (with_reducible repeat (first | apply Kd.N_alloc | apply Kd.N_drewN | apply Kd.N_drew)); exact HO634.out) (Kd.R_base ho0) hb); have n4_ := Aside0.mk (Kd.N_elder' (by (with_reducible repeat (first | apply Kd.N_alloc | apply Kd.N_drewN | apply Kd.N_drew)); exact HO638.out) (Kd.R_base ho0) hb); have n5_ := Aside0.mk (Kd.R_lower (Kd.R_newM (M := fun k_ => (w.heap.size ≤ k_)) ho0 (below_size (by repeat (first | (with_reducible first | exact HB.out | apply below_alloc | apply pw_below_drewN | apply below_drew1) | exact HB.out))) (fun k_ h_ => h_)) (below_size (by repeat (first | (with_reducible first | exact HB.out | apply below_alloc | apply pw_below_drewN | apply below_drew1) | exact HB.out)))); have n6_ := Aside0.mk (below_step (by repeat (first | (with_reducible first | exact HB.out | apply below_alloc | apply pw_below_drewN | apply below_drew1) | exact HB.out)) hb); clear HO_3; clear HO_15; clear HO_16; clear HO634; clear HO638; clear HB; have HO_3 := n0_; have HO_15 := n1_; have HO_16 := n2_; have HO634 := n3_; have HO638 := n4_; have HO643 := n5_; have HB := n6_; clear n0_ n1_ n2_ n3_ n4_ n5_ n6_; (try clear hb); (try clear hb2); (try clear hk); (try clear hi); (try clear ho0)) | ((with_reducible refine gate_callee (f := 28) rfl ?_); refine goesL_ (some 130) rfl rfl Try.func28 (by kernel_rfl) rfl #[.int .i64 a0, .slice Ao46 y605.length co46, .slice Ao47 y624.length co47, .int .i64 a4] rfl (by (try simp only [List.map_toArray, List.map_cons, List.map_nil]); first | done | rfl | (simp only [List.length_drop, List.length_take]; rfl)) ?_; (with_reducible refine (erasure_Repair.calls kj29 a0 _ _ y605 _ _ y624 a4 t644 t645 _ ?side1 ?side2 ?side3 ?side4 A57.out).mono ?_); (case side1 => repeat (first | exact (Kd.R_reads' HO_15.out).2.2 | (with_reducible refine Kd.C_alloc ?_ _) | (with_reducible refine Kd.C_drewN ?_ _) | (with_reducible refine Kd.C_drew ?_))); (case side2 => exact (Kd.R_reads' HO_15.out).2.1); (case side3 => repeat (first | exact (Kd.N_reads' HO_16.out).2.2 | (with_reducible refine Kd.C_alloc ?_ _) | (with_reducible refine Kd.C_drewN ?_ _) | (with_reducible refine Kd.C_drew ?_))); (case side4 => exact (Kd.N_reads' HO_16.out).2.1); rintro e w66 ⟨v646, rfl, ho0, hb⟩; refine ⟨_, rfl, ?_⟩; have n0_ := Aside0.mk (Kd.V_elder' (by (with_reducible repeat (first | apply Kd.V_alloc | apply Kd.V_drewN | apply Kd.V_drew)); exact HO_3.out) (Kd.R_base ho0) hb); have n1_ := Aside0.mk (Kd.R_below (by (with_reducible repeat (first | apply Kd.R_alloc | apply Kd.R_drewN | apply Kd.R_drew)); exact HO_15.out) hb); have n2_ := Aside0.mk (Kd.N_elder' (by (with_reducible repeat (first | apply Kd.N_alloc | apply Kd.N_drewN | apply Kd.N_drew)); exact HO_16.out) (Kd.R_base ho0) hb); have n3_ := Aside0.mk (Kd.N_elder' (by (with_reducible repeat (first | apply Kd.N_alloc | apply Kd.N_drewN | apply Kd.N_drew)); exact HO634.out) (Kd.R_base ho0) hb); have n4_ := Aside0.mk (Kd.N_elder' (by (with_reducible repeat (first | apply Kd.N_alloc | apply Kd.N_drewN | apply Kd.N_drew)); exact HO638.out) (Kd.R_base ho0) hb); have n5_ := Aside0.mk (Kd.R_elder' (by (with_reducible repeat (first | apply Kd.R_alloc | apply Kd.R_drewN | apply Kd.R_drew)); exact HO643.out) (Kd.R_base ho0) hb); have n6_ := Aside0.mk (Kd.R_lower (Kd.R_new' (Kd.R_newM (M := fun k_ => (w.heap.size ≤ k_)) ho0 (below_size (by repeat (first | (with_reducible first | exact HB.out | apply below_alloc | apply pw_below_drewN | apply below_drew1) | exact HB.out))) (fun k_ h_ => h_)) (Kd.R_lt (by (with_reducible repeat (first | apply Kd.R_alloc | apply Kd.R_drewN | apply Kd.R_drew)); exact HO643.out))) (below_size (by repeat (first | (with_reducible first | exact HB.out | apply below_alloc | apply pw_below_drewN | apply below_drew1) | exact HB.out)))); have n7_ := Aside0.mk (below_step (by repeat (first | (with_reducible first | exact HB.out | apply below_alloc | apply pw_below_drewN | apply below_drew1) | exact HB.out)) hb); clear HO_3; clear HO_15; clear HO_16; clear HO634; clear HO638; clear HO643; clear HB; have HO_3 := n0_; have HO_15 := n1_; have HO_16 := n2_; have HO634 := n3_; have HO638 := n4_; have HO643 := n5_; have HO647 := n6_; have HB := n7_; clear n0_ n1_ n2_ n3_ n4_ n5_ n6_ n7_; (try clear hb); (try clear hb2); (try clear hk); (try clear hi); (try clear ho0); obtain ⟨Ao67, co67, eo67⟩ := Kd.R_slice HO643.out; subst eo67; obtain ⟨Ao68, co68, eo68⟩ := Kd.R_slice HO647.out; subst eo68) | (go_at_call 22; (with_reducible refine (seamarkref29_Bytes.calls kj29 _ _ t640 _ _ t644 true _ ?side1 ?side2 ?side3 ?side4 A59.out).mono ?_); (case side1 => repeat (first | exact (Kd.R_reads' HO643.out).2.2 | (with_reducible refine Kd.C_alloc ?_ _) | (with_reducible refine Kd.C_drewN ?_ _) | (with_reducible refine Kd.C_drew ?_))); (case side2 => exact (Kd.R_reads' HO643.out).2.1); (case side3 => repeat (first | exact (Kd.R_reads' HO647.out).2.2 | (with_reducible refine Kd.C_alloc ?_ _) | (with_reducible refine Kd.C_drewN ?_ _) | (with_reducible refine Kd.C_drew ?_))); (case side4 => exact (Kd.R_reads' HO647.out).2.1); rintro e w' ⟨rfl, ⟨nd, rfl⟩⟩))
                                    go_ret
                                    exact ⟨by first | rfl | (simp [errW_none, errW_some] <;> rfl) | (simp only [← hji15]; first | rfl | (simp [errW_none, errW_some] <;> rfl)) | (simp [*, errW_none, errW_some] <;> rfl), by repeat (first | (with_reducible first | exact HB.out | apply below_alloc | apply pw_below_drewN | apply below_drew1) | exact HB.out)⟩
                                  · replace c60 := Bool.eq_false_iff.mpr c60
                                    subst c60
                                    have H1 : (none) = some r := by rw [if_neg (show ¬ (false = true) by decide)] at H; exact H
                                    clear H
                                    have H := H1
                                    clear H1
                                    exact absurd H (by simp)
                                · rw [if_neg c58] at H
                                  exact absurd H (by simp)
                              · replace c55 := Bool.eq_false_iff.mpr c55
                                subst c55
                                have H1 : (none) = some r := by rw [if_neg (show ¬ (false = true) by decide)] at H; exact H
                                clear H
                                have H := H1
                                clear H1
                                exact absurd H (by simp)
                            · replace c53 := Bool.eq_false_iff.mpr c53
                              subst c53
                              have H1 : (none) = some r := by rw [if_neg (show ¬ (false = true) by decide)] at H; exact H
                              clear H
                              have H := H1
                              clear H1
                              exact absurd H (by simp)
                      · rw [if_neg c27] at H
                        exact absurd H (by simp)
                    · rw [if_neg c24] at H
                      exact absurd H (by simp)
                  · rw [if_neg c23] at H
                    exact absurd H (by simp)
                · rw [if_neg c21] at H
                  exact absurd H (by simp)
              · rw [if_neg c18] at H
                exact absurd H (by simp)
            · rw [if_neg c17] at H
              exact absurd H (by simp)
          · rw [if_neg c16] at H
            exact absurd H (by simp)

end Go.Proofs.Ytcjjohealloglaa.E
