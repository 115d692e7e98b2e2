-- by drive.py (this session's program: it runs print.py beside functions proved by hand). Lean checks it.
import Derived.Test.YtcjjohealloglaaEx0
import Derived.Test.YtcjjohealloglaaEx3
import Derived.Test.YtcjjohealloglaaEx6
import Derived.Test.YtcjjohealloglaaEx7
import Derived.Test.YtcjjohealloglaaEx8
import Derived.Test.YtcjjohealloglaaEx11
namespace Go.Proofs.Ytcjjohealloglaa.E
open Go.RowKit Go.Proofs.YtcjjohealloglaaW.PrintWords Go.Proofs.YtcjjohealloglaaW.PrintLast Go.Proofs.YtcjjohealloglaaW.PrintMore
attribute [local go_sem] max2_int min2_int max_two min_two max_three min_three max_four min_four   -- for this text's walks alone
set_option linter.unusedVariables false
set_option linter.unusedSimpArgs false

/-! ### seamarklaw29_ErasureLinear: function 6 -/
mutual
def seamarklaw29_ErasureLinear.j0 : Nat → List (List Int) → List (List Int) → Bool → Bool → Option (Bool)
  | 0, _, _, _, _ => none
  | k + 1, x0, x1, x5, x42 => if x42 = true then (some x5) else ((erasure_Code.f k x0 32).bind fun bt356 => ((erasure_Code.f k x1 32).bind fun bt360 => ((seamarklaw29_sums.f k x0 x1).bind fun t364 => ((erasure_Code.f k t364 32).bind fun bt367 => ((seamarklaw29_sums.f k x0 x0).bind fun t371 => ((erasure_Code.f k t371 32).bind fun bt374 => (if bt356.2 = 0 then (if bt360.2 = 0 then (if bt367.2 = 0 then (if bt374.2 = 0 then (if (bt356.1.length : Int) = (bt360.1.length : Int) then (seamarklaw29_ErasureLinear.j1 k x0 x5 bt356.1 bt360.1 bt367.1 bt374.1 ((bt374.1.length : Int) != (bt356.1.length : Int))) else (seamarklaw29_ErasureLinear.j1 k x0 x5 bt356.1 bt360.1 bt367.1 bt374.1 true)) else (seamarklaw29_ErasureLinear.j1 k x0 x5 bt356.1 bt360.1 bt367.1 bt374.1 true)) else (seamarklaw29_ErasureLinear.j1 k x0 x5 bt356.1 bt360.1 bt367.1 bt374.1 true)) else (seamarklaw29_ErasureLinear.j1 k x0 x5 bt356.1 bt360.1 bt367.1 bt374.1 true)) else (seamarklaw29_ErasureLinear.j1 k x0 x5 bt356.1 bt360.1 bt367.1 bt374.1 true))))))))
def seamarklaw29_ErasureLinear.j1 : Nat → List (List Int) → Bool → List (List Int) → List (List Int) → List (List Int) → List (List Int) → Bool → Option (Bool)
  | 0, _, _, _, _, _, _, _ => none
  | k + 1, x0, x5, x6, x8, x10, x12, x95 => if x95 = true then (none) else (seamarklaw29_ErasureLinear.l0 k x0 x5 x6 x8 x10 x12 0)
def seamarklaw29_ErasureLinear.l0 : Nat → List (List Int) → Bool → List (List Int) → List (List Int) → List (List Int) → List (List Int) → Int → Option (Bool)
  | 0, _, _, _, _, _, _, _ => none
  | k + 1, x0, x5, x6, x8, x10, x12, x14 => if x14 < (x6.length : Int) then (if 0 ≤ x14 then (if 0 < (x0.length : Int) then (if ((rd_L1 x6 x14).length : Int) = ((rd_L1 x0 0).length : Int) then (if x14 < (x8.length : Int) then (if ((rd_L1 x8 x14).length : Int) = ((rd_L1 x0 0).length : Int) then (if x14 < (x12.length : Int) then (seamarklaw29_ErasureLinear.j3 k x0 x5 x6 x8 x10 x12 x14 (((rd_L1 x12 x14).length : Int) != ((rd_L1 x0 0).length : Int))) else (none)) else (seamarklaw29_ErasureLinear.j3 k x0 x5 x6 x8 x10 x12 x14 true)) else (none)) else (seamarklaw29_ErasureLinear.j3 k x0 x5 x6 x8 x10 x12 x14 true)) else (none)) else (none)) else (if x5 = true then ((seamarklaw29_sums.f k x6 x8).bind fun t378 => ((seamarkref29_Same.f k x10 t378).bind fun t381 => (some t381))) else (none))
def seamarklaw29_ErasureLinear.j3 : Nat → List (List Int) → Bool → List (List Int) → List (List Int) → List (List Int) → List (List Int) → Int → Bool → Option (Bool)
  | 0, _, _, _, _, _, _, _, _ => none
  | k + 1, x0, x5, x6, x8, x10, x12, x14, x135 => if x135 = true then (none) else (seamarklaw29_ErasureLinear.l1 k x0 x5 x6 x8 x10 x12 x14 0)
def seamarklaw29_ErasureLinear.l1 : Nat → List (List Int) → Bool → List (List Int) → List (List Int) → List (List Int) → List (List Int) → Int → Int → Option (Bool)
  | 0, _, _, _, _, _, _, _, _ => none
  | k + 1, x0, x5, x6, x8, x10, x12, x14, x15 => if 0 ≤ x14 then (if x14 < (x12.length : Int) then (if x15 < ((rd_L1 x12 x14).length : Int) then (if x5 = true then (if 0 ≤ x15 then (seamarklaw29_ErasureLinear.l1 k x0 ((rd (rd_L1 x12 x14) x15) == 0) x6 x8 x10 x12 x14 (wrap64 (x15 + 1))) else (none)) else (seamarklaw29_ErasureLinear.l1 k x0 false x6 x8 x10 x12 x14 (wrap64 (x15 + 1)))) else (seamarklaw29_ErasureLinear.l0 k x0 x5 x6 x8 x10 x12 (wrap64 (x14 + 1)))) else (none)) else (none)
end
def seamarklaw29_ErasureLinear.f (k : Nat) (l0 : List (List Int)) (l1 : List (List Int)) : Option (Bool) := (seamarklaw29_head.f k).bind fun t351 => ((seamarklaw29_few.f k l0).bind fun t352 => (if t352 = true then ((seamarklaw29_few.f k l1).bind fun t353 => (if t353 = true then (if (l0.length : Int) = (l1.length : Int) then (if 0 < (l0.length : Int) then (if 0 < (l1.length : Int) then (seamarklaw29_ErasureLinear.j0 k l0 l1 t351 (((rd_L1 l0 0).length : Int) != ((rd_L1 l1 0).length : Int))) else (none)) else (none)) else (seamarklaw29_ErasureLinear.j0 k l0 l1 t351 true)) else (seamarklaw29_ErasureLinear.j0 k l0 l1 t351 true))) else (seamarklaw29_ErasureLinear.j0 k l0 l1 t351 true)))
theorem seamarklaw29_ErasureLinear.mono_l : ∀ k, (∀ y0 y1 y2 y3, LeO (seamarklaw29_ErasureLinear.j0 k y0 y1 y2 y3) (seamarklaw29_ErasureLinear.j0 (k + 1) y0 y1 y2 y3)) ∧ (∀ y0 y1 y2 y3 y4 y5 y6, LeO (seamarklaw29_ErasureLinear.j1 k y0 y1 y2 y3 y4 y5 y6) (seamarklaw29_ErasureLinear.j1 (k + 1) y0 y1 y2 y3 y4 y5 y6)) ∧ (∀ y0 y1 y2 y3 y4 y5 y6, LeO (seamarklaw29_ErasureLinear.l0 k y0 y1 y2 y3 y4 y5 y6) (seamarklaw29_ErasureLinear.l0 (k + 1) y0 y1 y2 y3 y4 y5 y6)) ∧ (∀ y0 y1 y2 y3 y4 y5 y6 y7, LeO (seamarklaw29_ErasureLinear.j3 k y0 y1 y2 y3 y4 y5 y6 y7) (seamarklaw29_ErasureLinear.j3 (k + 1) y0 y1 y2 y3 y4 y5 y6 y7)) ∧ (∀ y0 y1 y2 y3 y4 y5 y6 y7, LeO (seamarklaw29_ErasureLinear.l1 k y0 y1 y2 y3 y4 y5 y6 y7) (seamarklaw29_ErasureLinear.l1 (k + 1) y0 y1 y2 y3 y4 y5 y6 y7))
  | 0 => ⟨fun _ _ _ _ r h => by simp [seamarklaw29_ErasureLinear.j0] at h, fun _ _ _ _ _ _ _ r h => by simp [seamarklaw29_ErasureLinear.j1] at h, fun _ _ _ _ _ _ _ r h => by simp [seamarklaw29_ErasureLinear.l0] at h, fun _ _ _ _ _ _ _ _ r h => by simp [seamarklaw29_ErasureLinear.j3] at h, fun _ _ _ _ _ _ _ _ r h => by simp [seamarklaw29_ErasureLinear.l1] at h⟩
  | k + 1 => by
    obtain ⟨ih0, ih1, ih2, ih3, ih4⟩ := seamarklaw29_ErasureLinear.mono_l k
    refine ⟨?_, ?_, ?_, ?_, ?_⟩
    · intro y0 y1 y2 y3
      unfold seamarklaw29_ErasureLinear.j0
      repeat' first
      | (with_reducible exact ih0 _ _ _ _)
      | (with_reducible exact ih1 _ _ _ _ _ _ _)
      | (with_reducible exact ih2 _ _ _ _ _ _ _)
      | (with_reducible exact ih3 _ _ _ _ _ _ _ _)
      | (with_reducible exact ih4 _ _ _ _ _ _ _ _)
      | (with_reducible exact erasure_Code.mono _ _ _)
      | (with_reducible exact seamarklaw29_few.mono _ _)
      | (with_reducible exact seamarklaw29_head.mono _)
      | (with_reducible exact seamarklaw29_sums.mono _ _ _)
      | (with_reducible exact seamarkref29_Same.mono _ _ _)
      | (with_reducible exact LeO.refl _)
      | (with_reducible exact LeO.none _)
      | (with_reducible refine LeO.ite ?_ ?_)
      | (with_reducible refine LeO.bind ?_ (fun _ => ?_))
      | exact ih0 _ _ _ _
      | exact ih1 _ _ _ _ _ _ _
      | exact ih2 _ _ _ _ _ _ _
      | exact ih3 _ _ _ _ _ _ _ _
      | exact ih4 _ _ _ _ _ _ _ _
      | exact erasure_Code.mono _ _ _
      | exact seamarklaw29_few.mono _ _
      | exact seamarklaw29_head.mono _
      | exact seamarklaw29_sums.mono _ _ _
      | exact seamarkref29_Same.mono _ _ _
      | exact LeO.none _
      | refine LeO.ite ?_ ?_
      | refine LeO.bind ?_ (fun _ => ?_)
    · intro y0 y1 y2 y3 y4 y5 y6
      unfold seamarklaw29_ErasureLinear.j1
      repeat' first
      | (with_reducible exact ih0 _ _ _ _)
      | (with_reducible exact ih1 _ _ _ _ _ _ _)
      | (with_reducible exact ih2 _ _ _ _ _ _ _)
      | (with_reducible exact ih3 _ _ _ _ _ _ _ _)
      | (with_reducible exact ih4 _ _ _ _ _ _ _ _)
      | (with_reducible exact erasure_Code.mono _ _ _)
      | (with_reducible exact seamarklaw29_few.mono _ _)
      | (with_reducible exact seamarklaw29_head.mono _)
      | (with_reducible exact seamarklaw29_sums.mono _ _ _)
      | (with_reducible exact seamarkref29_Same.mono _ _ _)
      | (with_reducible exact LeO.refl _)
      | (with_reducible exact LeO.none _)
      | (with_reducible refine LeO.ite ?_ ?_)
      | (with_reducible refine LeO.bind ?_ (fun _ => ?_))
      | exact ih0 _ _ _ _
      | exact ih1 _ _ _ _ _ _ _
      | exact ih2 _ _ _ _ _ _ _
      | exact ih3 _ _ _ _ _ _ _ _
      | exact ih4 _ _ _ _ _ _ _ _
      | exact erasure_Code.mono _ _ _
      | exact seamarklaw29_few.mono _ _
      | exact seamarklaw29_head.mono _
      | exact seamarklaw29_sums.mono _ _ _
      | exact seamarkref29_Same.mono _ _ _
      | exact LeO.none _
      | refine LeO.ite ?_ ?_
      | refine LeO.bind ?_ (fun _ => ?_)
    · intro y0 y1 y2 y3 y4 y5 y6
      unfold seamarklaw29_ErasureLinear.l0
      repeat' first
      | (with_reducible exact ih0 _ _ _ _)
      | (with_reducible exact ih1 _ _ _ _ _ _ _)
      | (with_reducible exact ih2 _ _ _ _ _ _ _)
      | (with_reducible exact ih3 _ _ _ _ _ _ _ _)
      | (with_reducible exact ih4 _ _ _ _ _ _ _ _)
      | (with_reducible exact erasure_Code.mono _ _ _)
      | (with_reducible exact seamarklaw29_few.mono _ _)
      | (with_reducible exact seamarklaw29_head.mono _)
      | (with_reducible exact seamarklaw29_sums.mono _ _ _)
      | (with_reducible exact seamarkref29_Same.mono _ _ _)
      | (with_reducible exact LeO.refl _)
      | (with_reducible exact LeO.none _)
      | (with_reducible refine LeO.ite ?_ ?_)
      | (with_reducible refine LeO.bind ?_ (fun _ => ?_))
      | exact ih0 _ _ _ _
      | exact ih1 _ _ _ _ _ _ _
      | exact ih2 _ _ _ _ _ _ _
      | exact ih3 _ _ _ _ _ _ _ _
      | exact ih4 _ _ _ _ _ _ _ _
      | exact erasure_Code.mono _ _ _
      | exact seamarklaw29_few.mono _ _
      | exact seamarklaw29_head.mono _
      | exact seamarklaw29_sums.mono _ _ _
      | exact seamarkref29_Same.mono _ _ _
      | exact LeO.none _
      | refine LeO.ite ?_ ?_
      | refine LeO.bind ?_ (fun _ => ?_)
    · intro y0 y1 y2 y3 y4 y5 y6 y7
      unfold seamarklaw29_ErasureLinear.j3
      repeat' first
      | (with_reducible exact ih0 _ _ _ _)
      | (with_reducible exact ih1 _ _ _ _ _ _ _)
      | (with_reducible exact ih2 _ _ _ _ _ _ _)
      | (with_reducible exact ih3 _ _ _ _ _ _ _ _)
      | (with_reducible exact ih4 _ _ _ _ _ _ _ _)
      | (with_reducible exact erasure_Code.mono _ _ _)
      | (with_reducible exact seamarklaw29_few.mono _ _)
      | (with_reducible exact seamarklaw29_head.mono _)
      | (with_reducible exact seamarklaw29_sums.mono _ _ _)
      | (with_reducible exact seamarkref29_Same.mono _ _ _)
      | (with_reducible exact LeO.refl _)
      | (with_reducible exact LeO.none _)
      | (with_reducible refine LeO.ite ?_ ?_)
      | (with_reducible refine LeO.bind ?_ (fun _ => ?_))
      | exact ih0 _ _ _ _
      | exact ih1 _ _ _ _ _ _ _
      | exact ih2 _ _ _ _ _ _ _
      | exact ih3 _ _ _ _ _ _ _ _
      | exact ih4 _ _ _ _ _ _ _ _
      | exact erasure_Code.mono _ _ _
      | exact seamarklaw29_few.mono _ _
      | exact seamarklaw29_head.mono _
      | exact seamarklaw29_sums.mono _ _ _
      | exact seamarkref29_Same.mono _ _ _
      | exact LeO.none _
      | refine LeO.ite ?_ ?_
      | refine LeO.bind ?_ (fun _ => ?_)
    · intro y0 y1 y2 y3 y4 y5 y6 y7
      unfold seamarklaw29_ErasureLinear.l1
      repeat' first
      | (with_reducible exact ih0 _ _ _ _)
      | (with_reducible exact ih1 _ _ _ _ _ _ _)
      | (with_reducible exact ih2 _ _ _ _ _ _ _)
      | (with_reducible exact ih3 _ _ _ _ _ _ _ _)
      | (with_reducible exact ih4 _ _ _ _ _ _ _ _)
      | (with_reducible exact erasure_Code.mono _ _ _)
      | (with_reducible exact seamarklaw29_few.mono _ _)
      | (with_reducible exact seamarklaw29_head.mono _)
      | (with_reducible exact seamarklaw29_sums.mono _ _ _)
      | (with_reducible exact seamarkref29_Same.mono _ _ _)
      | (with_reducible exact LeO.refl _)
      | (with_reducible exact LeO.none _)
      | (with_reducible refine LeO.ite ?_ ?_)
      | (with_reducible refine LeO.bind ?_ (fun _ => ?_))
      | exact ih0 _ _ _ _
      | exact ih1 _ _ _ _ _ _ _
      | exact ih2 _ _ _ _ _ _ _
      | exact ih3 _ _ _ _ _ _ _ _
      | exact ih4 _ _ _ _ _ _ _ _
      | exact erasure_Code.mono _ _ _
      | exact seamarklaw29_few.mono _ _
      | exact seamarklaw29_head.mono _
      | exact seamarklaw29_sums.mono _ _ _
      | exact seamarkref29_Same.mono _ _ _
      | exact LeO.none _
      | refine LeO.ite ?_ ?_
      | refine LeO.bind ?_ (fun _ => ?_)
theorem seamarklaw29_ErasureLinear.mono : ∀ a0 a1 k, LeO (seamarklaw29_ErasureLinear.f k a0 a1) (seamarklaw29_ErasureLinear.f (k + 1) a0 a1) := by
  intro a0 a1 k
  obtain ⟨ih0, ih1, ih2, ih3, ih4⟩ := seamarklaw29_ErasureLinear.mono_l k
  unfold seamarklaw29_ErasureLinear.f
  repeat' first
      | (with_reducible exact ih0 _ _ _ _)
      | (with_reducible exact ih1 _ _ _ _ _ _ _)
      | (with_reducible exact ih2 _ _ _ _ _ _ _)
      | (with_reducible exact ih3 _ _ _ _ _ _ _ _)
      | (with_reducible exact ih4 _ _ _ _ _ _ _ _)
      | (with_reducible exact erasure_Code.mono _ _ _)
      | (with_reducible exact seamarklaw29_few.mono _ _)
      | (with_reducible exact seamarklaw29_head.mono _)
      | (with_reducible exact seamarklaw29_sums.mono _ _ _)
      | (with_reducible exact seamarkref29_Same.mono _ _ _)
      | (with_reducible exact LeO.refl _)
      | (with_reducible exact LeO.none _)
      | (with_reducible refine LeO.ite ?_ ?_)
      | (with_reducible refine LeO.bind ?_ (fun _ => ?_))
      | exact ih0 _ _ _ _
      | exact ih1 _ _ _ _ _ _ _
      | exact ih2 _ _ _ _ _ _ _
      | exact ih3 _ _ _ _ _ _ _ _
      | exact ih4 _ _ _ _ _ _ _ _
      | exact erasure_Code.mono _ _ _
      | exact seamarklaw29_few.mono _ _
      | exact seamarklaw29_head.mono _
      | exact seamarklaw29_sums.mono _ _ _
      | exact seamarkref29_Same.mono _ _ _
      | exact LeO.none _
      | refine LeO.ite ?_ ?_
      | refine LeO.bind ?_ (fun _ => ?_)
set_option maxHeartbeats 8000000 in
set_option maxRecDepth 100000 in
theorem seamarklaw29_ErasureLinear.calls (k : Nat) (A0 : Option Addr) (c0 : Nat) (l0 : List (List Int)) (A1 : Option Addr) (c1 : Nat) (l1 : List (List Int)) (r : Bool) (w : World) (hr0 : Kd.C (Kd.slice 5 (Kd.int .u8)) w A0 l0.length l0) (hc0 : l0.length ≤ c0) (hr1 : Kd.C (Kd.slice 5 (Kd.int .u8)) w A1 l1.length l1) (hc1 : l1.length ≤ c1) (h : seamarklaw29_ErasureLinear.f k l0 l1 = some r) :
    Calls Try.prog 6 #[.slice A0 l0.length c0, .slice A1 l1.length c1] w fun e w' => e = .returned (.bool r) ∧ Below w.heap.size w w' := by
  have HR0 := Aside0.mk hr0
  have HC0 := Aside0.mk hc0
  clear hr0 hc0
  have HR1 := Aside0.mk hr1
  have HC1 := Aside0.mk hc1
  clear hr1 hc1
  have HB := Aside0.mk (Below.refl w.heap.size w)
  have H : ((seamarklaw29_head.f k).bind fun t351 => ((seamarklaw29_few.f k l0).bind fun t352 => (if t352 = true then ((seamarklaw29_few.f k l1).bind fun t353 => (if t353 = true then (if (l0.length : Int) = (l1.length : Int) then (if 0 < (l0.length : Int) then (if 0 < (l1.length : Int) then (seamarklaw29_ErasureLinear.j0 k l0 l1 t351 (((rd_L1 l0 0).length : Int) != ((rd_L1 l1 0).length : Int))) else (none)) else (none)) else (seamarklaw29_ErasureLinear.j0 k l0 l1 t351 true)) else (seamarklaw29_ErasureLinear.j0 k l0 l1 t351 true))) else (seamarklaw29_ErasureLinear.j0 k l0 l1 t351 true)))) = some r := h
  clear h
  replace H := Option.bind_eq_some_iff.mp H
  obtain ⟨t351, A30, H⟩ := H
  replace H : ((seamarklaw29_few.f k l0).bind fun t352 => (if t352 = true then ((seamarklaw29_few.f k l1).bind fun t353 => (if t353 = true then (if (l0.length : Int) = (l1.length : Int) then (if 0 < (l0.length : Int) then (if 0 < (l1.length : Int) then (seamarklaw29_ErasureLinear.j0 k l0 l1 t351 (((rd_L1 l0 0).length : Int) != ((rd_L1 l1 0).length : Int))) else (none)) else (none)) else (seamarklaw29_ErasureLinear.j0 k l0 l1 t351 true)) else (seamarklaw29_ErasureLinear.j0 k l0 l1 t351 true))) else (seamarklaw29_ErasureLinear.j0 k l0 l1 t351 true))) = some r := H
  have A3 := Aside0.mk A30
  clear A30
  have HC4 := Aside0.mk H
  clear H
  go_enter Try.func6, Try.ntmps6
  go_upto_region 2 with (first | (go_at_call 11; (with_reducible refine (seamarklaw29_head.calls k  t351 _ A3.out).mono ?_); rintro e w5 ⟨rfl, hb⟩; have n0_ := Aside0.mk (below_step (by repeat (first | (with_reducible first | exact HB.out | apply below_alloc | apply pw_below_drewN | apply below_drew1) | exact HB.out)) hb); clear HB; have HB := n0_; clear n0_; (try clear hb); (try clear hb2); (try clear hk); (try clear hi)))
  repeat (go_quiet (first | (go_at_call 11; (with_reducible refine (seamarklaw29_head.calls k  t351 _ A3.out).mono ?_); rintro e w5 ⟨rfl, hb⟩; have n0_ := Aside0.mk (below_step (by repeat (first | (with_reducible first | exact HB.out | apply below_alloc | apply pw_below_drewN | apply below_drew1) | exact HB.out)) hb); clear HB; have HB := n0_; clear n0_; (try clear hb); (try clear hb2); (try clear hk); (try clear hi))); go_upto_region 2 with (first | (go_at_call 11; (with_reducible refine (seamarklaw29_head.calls k  t351 _ A3.out).mono ?_); rintro e w5 ⟨rfl, hb⟩; have n0_ := Aside0.mk (below_step (by repeat (first | (with_reducible first | exact HB.out | apply below_alloc | apply pw_below_drewN | apply below_drew1) | exact HB.out)) hb); clear HB; have HB := n0_; clear n0_; (try clear hb); (try clear hb2); (try clear hk); (try clear hi))))
  (try simp only [Act.put, List.setIfInBounds_toArray, List.set_cons_zero, List.set_cons_succ])
  go_cut [42] (fun v42 wc => ∃ (kq : Nat) (x42_3 : Bool), v42 = .bool x42_3 ∧ Aside0 (seamarklaw29_ErasureLinear.j0 kq l0 l1 t351 x42_3 = some r) ∧ Aside0 (kq ≤ k) ∧ Aside0 (Below w.heap.size w wc))
  case first =>
    have H := HC4.out
    clear HC4
    replace H := Option.bind_eq_some_iff.mp H
    obtain ⟨t352, A60, H⟩ := H
    replace H : (if t352 = true then ((seamarklaw29_few.f k l1).bind fun t353 => (if t353 = true then (if (l0.length : Int) = (l1.length : Int) then (if 0 < (l0.length : Int) then (if 0 < (l1.length : Int) then (seamarklaw29_ErasureLinear.j0 k l0 l1 t351 (((rd_L1 l0 0).length : Int) != ((rd_L1 l1 0).length : Int))) else (none)) else (none)) else (seamarklaw29_ErasureLinear.j0 k l0 l1 t351 true)) else (seamarklaw29_ErasureLinear.j0 k l0 l1 t351 true))) else (seamarklaw29_ErasureLinear.j0 k l0 l1 t351 true)) = some r := H
    have A6 := Aside0.mk A60
    clear A60
    by_cases c7 : t352 = true
    · subst c7
      have H1 : ((seamarklaw29_few.f k l1).bind fun t353 => (if t353 = true then (if (l0.length : Int) = (l1.length : Int) then (if 0 < (l0.length : Int) then (if 0 < (l1.length : Int) then (seamarklaw29_ErasureLinear.j0 k l0 l1 t351 (((rd_L1 l0 0).length : Int) != ((rd_L1 l1 0).length : Int))) else (none)) else (none)) else (seamarklaw29_ErasureLinear.j0 k l0 l1 t351 true)) else (seamarklaw29_ErasureLinear.j0 k l0 l1 t351 true))) = some r := by rw [if_pos rfl] at H; exact H
      clear H
      have H := H1
      clear H1
      replace H := Option.bind_eq_some_iff.mp H
      obtain ⟨t353, A80, H⟩ := H
      replace H : (if t353 = true then (if (l0.length : Int) = (l1.length : Int) then (if 0 < (l0.length : Int) then (if 0 < (l1.length : Int) then (seamarklaw29_ErasureLinear.j0 k l0 l1 t351 (((rd_L1 l0 0).length : Int) != ((rd_L1 l1 0).length : Int))) else (none)) else (none)) else (seamarklaw29_ErasureLinear.j0 k l0 l1 t351 true)) else (seamarklaw29_ErasureLinear.j0 k l0 l1 t351 true)) = some r := H
      have A8 := Aside0.mk A80
      clear A80
      by_cases c9 : t353 = true
      · subst c9
        have H1 : (if (l0.length : Int) = (l1.length : Int) then (if 0 < (l0.length : Int) then (if 0 < (l1.length : Int) then (seamarklaw29_ErasureLinear.j0 k l0 l1 t351 (((rd_L1 l0 0).length : Int) != ((rd_L1 l1 0).length : Int))) else (none)) else (none)) else (seamarklaw29_ErasureLinear.j0 k l0 l1 t351 true)) = some r := by rw [if_pos rfl] at H; exact H
        clear H
        have H := H1
        clear H1
        by_cases c10 : (l0.length : Int) = (l1.length : Int)
        · rw [if_pos c10] at H
          have c10b0 : ((l0.length : Int) == (l1.length : Int)) = true := beq_iff_eq.mpr c10
          have c10b1 : ((l0.length : Int) != (l1.length : Int)) = false := bne_eq_false_iff_eq.mpr c10
          have c10b2 : (l0.length == l1.length) = true := by first | simpa using c10 | (simp at c10 ⊢; omega)
          clear c10
          (first | rw [c10b0] | (simp only [i64_w, i32_w]; rw [c10b0]) | skip)
          by_cases c11 : 0 < (l0.length : Int)
          · rw [if_pos c11] at H
            have c11b0 : decide (0 < (l0.length : Int)) = true := decide_eq_true c11
            have c11b1 : decide (0 < l0.length) = true := decide_eq_true (by omega)
            clear c11
            by_cases c12 : 0 < (l1.length : Int)
            · rw [if_pos c12] at H
              have c12b0 : decide (0 < (l1.length : Int)) = true := decide_eq_true c12
              have c12b1 : decide (0 < l1.length) = true := decide_eq_true (by omega)
              clear c12
              have H' := Aside0.mk H
              clear H
              go_wp2_with (first | (go_at_call 14; (with_reducible refine (seamarklaw29_few.calls k _ _ l0 true _ ?side1 ?side2 A6.out).mono ?_); (case side1 => repeat (first | exact (Kd.C_below HR0.out HB.out) | (with_reducible refine Kd.C_alloc ?_ _) | (with_reducible refine Kd.C_drewN ?_ _) | (with_reducible refine Kd.C_drew ?_))); (case side2 => exact HC0.out); rintro e w' ⟨rfl, ⟨nd, rfl⟩⟩; (try first | exact ⟨rfl, _, World.drewN_drewN _ _ _⟩ | exact ⟨rfl, _, Eq.trans (World.drewN_drewN _ _ _) (congrArg (World.drewN _) (Nat.add_assoc _ _ _))⟩)) | (go_at_call 14; (with_reducible refine (seamarklaw29_few.calls k _ _ l1 true _ ?side1 ?side2 A8.out).mono ?_); (case side1 => repeat (first | exact (Kd.C_below HR1.out (by repeat (first | (with_reducible first | exact HB.out | apply below_alloc | apply pw_below_drewN | apply below_drew1) | exact HB.out))) | (with_reducible refine Kd.C_alloc ?_ _) | (with_reducible refine Kd.C_drewN ?_ _) | (with_reducible refine Kd.C_drew ?_))); (case side2 => exact HC1.out); rintro e w' ⟨rfl, ⟨nd, rfl⟩⟩; (try first | exact ⟨rfl, _, World.drewN_drewN _ _ _⟩ | exact ⟨rfl, _, Eq.trans (World.drewN_drewN _ _ _) (congrArg (World.drewN _) (Nat.add_assoc _ _ _))⟩); have p354 : 0 ≤ (0 : Int) := (by omega); have q354 : 0 < (l0.length : Int) := of_decide_eq_true (by first | (with_reducible assumption) | assumption); obtain ⟨ad354, A354_0, c354_0, e354, hx354_0, hl354_0, hi354_0⟩ := at_L1 HR0.out 0 p354 q354; cases e354; have qi354 : (0 < l0.length) = True := eq_true (by omega); (try rw [show ((0 : Int)).toNat = 0 from rfl] at hx354_0); (try rw [Addr.add_zero'] at hx354_0); replace hx354_0 := (HB.out.cell (World.block_lt_of_cell? w _ hx354_0)).trans hx354_0; have HR354_0 := Aside0.mk hi354_0; have HC354_0 := Aside0.mk hl354_0; clear hi354_0 hl354_0; replace p354 := eq_true p354; replace q354 := eq_true q354; have p355 : 0 ≤ (0 : Int) := (by omega); have q355 : 0 < (l1.length : Int) := of_decide_eq_true (by first | (with_reducible assumption) | assumption); obtain ⟨ad355, A355_0, c355_0, e355, hx355_0, hl355_0, hi355_0⟩ := at_L1 HR1.out 0 p355 q355; cases e355; have qi355 : (0 < l1.length) = True := eq_true (by omega); (try rw [show ((0 : Int)).toNat = 0 from rfl] at hx355_0); (try rw [Addr.add_zero'] at hx355_0); replace hx355_0 := (HB.out.cell (World.block_lt_of_cell? w _ hx355_0)).trans hx355_0; have HR355_0 := Aside0.mk hi355_0; have HC355_0 := Aside0.mk hl355_0; clear hi355_0 hl355_0; replace p355 := eq_true p355; replace q355 := eq_true q355))
              repeat (go_quiet (first | (go_at_call 14; (with_reducible refine (seamarklaw29_few.calls k _ _ l0 true _ ?side1 ?side2 A6.out).mono ?_); (case side1 => repeat (first | exact (Kd.C_below HR0.out HB.out) | (with_reducible refine Kd.C_alloc ?_ _) | (with_reducible refine Kd.C_drewN ?_ _) | (with_reducible refine Kd.C_drew ?_))); (case side2 => exact HC0.out); rintro e w' ⟨rfl, ⟨nd, rfl⟩⟩; (try first | exact ⟨rfl, _, World.drewN_drewN _ _ _⟩ | exact ⟨rfl, _, Eq.trans (World.drewN_drewN _ _ _) (congrArg (World.drewN _) (Nat.add_assoc _ _ _))⟩)) | (go_at_call 14; (with_reducible refine (seamarklaw29_few.calls k _ _ l1 true _ ?side1 ?side2 A8.out).mono ?_); (case side1 => repeat (first | exact (Kd.C_below HR1.out (by repeat (first | (with_reducible first | exact HB.out | apply below_alloc | apply pw_below_drewN | apply below_drew1) | exact HB.out))) | (with_reducible refine Kd.C_alloc ?_ _) | (with_reducible refine Kd.C_drewN ?_ _) | (with_reducible refine Kd.C_drew ?_))); (case side2 => exact HC1.out); rintro e w' ⟨rfl, ⟨nd, rfl⟩⟩; (try first | exact ⟨rfl, _, World.drewN_drewN _ _ _⟩ | exact ⟨rfl, _, Eq.trans (World.drewN_drewN _ _ _) (congrArg (World.drewN _) (Nat.add_assoc _ _ _))⟩); have p354 : 0 ≤ (0 : Int) := (by omega); have q354 : 0 < (l0.length : Int) := of_decide_eq_true (by first | (with_reducible assumption) | assumption); obtain ⟨ad354, A354_0, c354_0, e354, hx354_0, hl354_0, hi354_0⟩ := at_L1 HR0.out 0 p354 q354; cases e354; have qi354 : (0 < l0.length) = True := eq_true (by omega); (try rw [show ((0 : Int)).toNat = 0 from rfl] at hx354_0); (try rw [Addr.add_zero'] at hx354_0); replace hx354_0 := (HB.out.cell (World.block_lt_of_cell? w _ hx354_0)).trans hx354_0; have HR354_0 := Aside0.mk hi354_0; have HC354_0 := Aside0.mk hl354_0; clear hi354_0 hl354_0; replace p354 := eq_true p354; replace q354 := eq_true q354; have p355 : 0 ≤ (0 : Int) := (by omega); have q355 : 0 < (l1.length : Int) := of_decide_eq_true (by first | (with_reducible assumption) | assumption); obtain ⟨ad355, A355_0, c355_0, e355, hx355_0, hl355_0, hi355_0⟩ := at_L1 HR1.out 0 p355 q355; cases e355; have qi355 : (0 < l1.length) = True := eq_true (by omega); (try rw [show ((0 : Int)).toNat = 0 from rfl] at hx355_0); (try rw [Addr.add_zero'] at hx355_0); replace hx355_0 := (HB.out.cell (World.block_lt_of_cell? w _ hx355_0)).trans hx355_0; have HR355_0 := Aside0.mk hi355_0; have HC355_0 := Aside0.mk hl355_0; clear hi355_0 hl355_0; replace p355 := eq_true p355; replace q355 := eq_true q355)); try go_wp2_with (first | (go_at_call 14; (with_reducible refine (seamarklaw29_few.calls k _ _ l0 true _ ?side1 ?side2 A6.out).mono ?_); (case side1 => repeat (first | exact (Kd.C_below HR0.out HB.out) | (with_reducible refine Kd.C_alloc ?_ _) | (with_reducible refine Kd.C_drewN ?_ _) | (with_reducible refine Kd.C_drew ?_))); (case side2 => exact HC0.out); rintro e w' ⟨rfl, ⟨nd, rfl⟩⟩; (try first | exact ⟨rfl, _, World.drewN_drewN _ _ _⟩ | exact ⟨rfl, _, Eq.trans (World.drewN_drewN _ _ _) (congrArg (World.drewN _) (Nat.add_assoc _ _ _))⟩)) | (go_at_call 14; (with_reducible refine (seamarklaw29_few.calls k _ _ l1 true _ ?side1 ?side2 A8.out).mono ?_); (case side1 => repeat (first | exact (Kd.C_below HR1.out (by repeat (first | (with_reducible first | exact HB.out | apply below_alloc | apply pw_below_drewN | apply below_drew1) | exact HB.out))) | (with_reducible refine Kd.C_alloc ?_ _) | (with_reducible refine Kd.C_drewN ?_ _) | (with_reducible refine Kd.C_drew ?_))); (case side2 => exact HC1.out); rintro e w' ⟨rfl, ⟨nd, rfl⟩⟩; (try first | exact ⟨rfl, _, World.drewN_drewN _ _ _⟩ | exact ⟨rfl, _, Eq.trans (World.drewN_drewN _ _ _) (congrArg (World.drewN _) (Nat.add_assoc _ _ _))⟩); have p354 : 0 ≤ (0 : Int) := (by omega); have q354 : 0 < (l0.length : Int) := of_decide_eq_true (by first | (with_reducible assumption) | assumption); obtain ⟨ad354, A354_0, c354_0, e354, hx354_0, hl354_0, hi354_0⟩ := at_L1 HR0.out 0 p354 q354; cases e354; have qi354 : (0 < l0.length) = True := eq_true (by omega); (try rw [show ((0 : Int)).toNat = 0 from rfl] at hx354_0); (try rw [Addr.add_zero'] at hx354_0); replace hx354_0 := (HB.out.cell (World.block_lt_of_cell? w _ hx354_0)).trans hx354_0; have HR354_0 := Aside0.mk hi354_0; have HC354_0 := Aside0.mk hl354_0; clear hi354_0 hl354_0; replace p354 := eq_true p354; replace q354 := eq_true q354; have p355 : 0 ≤ (0 : Int) := (by omega); have q355 : 0 < (l1.length : Int) := of_decide_eq_true (by first | (with_reducible assumption) | assumption); obtain ⟨ad355, A355_0, c355_0, e355, hx355_0, hl355_0, hi355_0⟩ := at_L1 HR1.out 0 p355 q355; cases e355; have qi355 : (0 < l1.length) = True := eq_true (by omega); (try rw [show ((0 : Int)).toNat = 0 from rfl] at hx355_0); (try rw [Addr.add_zero'] at hx355_0); replace hx355_0 := (HB.out.cell (World.block_lt_of_cell? w _ hx355_0)).trans hx355_0; have HR355_0 := Aside0.mk hi355_0; have HC355_0 := Aside0.mk hl355_0; clear hi355_0 hl355_0; replace p355 := eq_true p355; replace q355 := eq_true q355)))
              go_meet
              case rel => exact ⟨_, ((((rd_L1 l0 0).length : Int) != ((rd_L1 l1 0).length : Int))), (by first | rfl | (simp; done) | (simp [*]; done)), H', ⟨by first | omega | exact Nat.le_refl _⟩, ⟨by repeat (first | (with_reducible first | exact HB.out | apply below_alloc | apply pw_below_drewN | apply below_drew1) | exact HB.out)⟩⟩
            · rw [if_neg c12] at H
              exact absurd H (by simp)
          · rw [if_neg c11] at H
            exact absurd H (by simp)
        · rw [if_neg c10] at H
          have c10b0 : ((l0.length : Int) == (l1.length : Int)) = false := beq_eq_false_iff_ne.mpr c10
          have c10b1 : ((l0.length : Int) != (l1.length : Int)) = true := bne_iff_ne.mpr c10
          have c10b2 : (l0.length == l1.length) = false := by first | simpa using c10 | (simp at c10 ⊢; omega)
          (first | rw [c10b0] | (simp only [i64_w, i32_w]; rw [c10b0]) | skip)
          have H' := Aside0.mk H
          clear H
          go_wp2_with (first | (go_at_call 14; (with_reducible refine (seamarklaw29_few.calls k _ _ l0 true _ ?side1 ?side2 A6.out).mono ?_); (case side1 => repeat (first | exact (Kd.C_below HR0.out HB.out) | (with_reducible refine Kd.C_alloc ?_ _) | (with_reducible refine Kd.C_drewN ?_ _) | (with_reducible refine Kd.C_drew ?_))); (case side2 => exact HC0.out); rintro e w' ⟨rfl, ⟨nd, rfl⟩⟩; (try first | exact ⟨rfl, _, World.drewN_drewN _ _ _⟩ | exact ⟨rfl, _, Eq.trans (World.drewN_drewN _ _ _) (congrArg (World.drewN _) (Nat.add_assoc _ _ _))⟩)) | (go_at_call 14; (with_reducible refine (seamarklaw29_few.calls k _ _ l1 true _ ?side1 ?side2 A8.out).mono ?_); (case side1 => repeat (first | exact (Kd.C_below HR1.out (by repeat (first | (with_reducible first | exact HB.out | apply below_alloc | apply pw_below_drewN | apply below_drew1) | exact HB.out))) | (with_reducible refine Kd.C_alloc ?_ _) | (with_reducible refine Kd.C_drewN ?_ _) | (with_reducible refine Kd.C_drew ?_))); (case side2 => exact HC1.out); rintro e w' ⟨rfl, ⟨nd, rfl⟩⟩; (try first | exact ⟨rfl, _, World.drewN_drewN _ _ _⟩ | exact ⟨rfl, _, Eq.trans (World.drewN_drewN _ _ _) (congrArg (World.drewN _) (Nat.add_assoc _ _ _))⟩)))
          repeat (go_quiet (first | (go_at_call 14; (with_reducible refine (seamarklaw29_few.calls k _ _ l0 true _ ?side1 ?side2 A6.out).mono ?_); (case side1 => repeat (first | exact (Kd.C_below HR0.out HB.out) | (with_reducible refine Kd.C_alloc ?_ _) | (with_reducible refine Kd.C_drewN ?_ _) | (with_reducible refine Kd.C_drew ?_))); (case side2 => exact HC0.out); rintro e w' ⟨rfl, ⟨nd, rfl⟩⟩; (try first | exact ⟨rfl, _, World.drewN_drewN _ _ _⟩ | exact ⟨rfl, _, Eq.trans (World.drewN_drewN _ _ _) (congrArg (World.drewN _) (Nat.add_assoc _ _ _))⟩)) | (go_at_call 14; (with_reducible refine (seamarklaw29_few.calls k _ _ l1 true _ ?side1 ?side2 A8.out).mono ?_); (case side1 => repeat (first | exact (Kd.C_below HR1.out (by repeat (first | (with_reducible first | exact HB.out | apply below_alloc | apply pw_below_drewN | apply below_drew1) | exact HB.out))) | (with_reducible refine Kd.C_alloc ?_ _) | (with_reducible refine Kd.C_drewN ?_ _) | (with_reducible refine Kd.C_drew ?_))); (case side2 => exact HC1.out); rintro e w' ⟨rfl, ⟨nd, rfl⟩⟩; (try first | exact ⟨rfl, _, World.drewN_drewN _ _ _⟩ | exact ⟨rfl, _, Eq.trans (World.drewN_drewN _ _ _) (congrArg (World.drewN _) (Nat.add_assoc _ _ _))⟩))); try go_wp2_with (first | (go_at_call 14; (with_reducible refine (seamarklaw29_few.calls k _ _ l0 true _ ?side1 ?side2 A6.out).mono ?_); (case side1 => repeat (first | exact (Kd.C_below HR0.out HB.out) | (with_reducible refine Kd.C_alloc ?_ _) | (with_reducible refine Kd.C_drewN ?_ _) | (with_reducible refine Kd.C_drew ?_))); (case side2 => exact HC0.out); rintro e w' ⟨rfl, ⟨nd, rfl⟩⟩; (try first | exact ⟨rfl, _, World.drewN_drewN _ _ _⟩ | exact ⟨rfl, _, Eq.trans (World.drewN_drewN _ _ _) (congrArg (World.drewN _) (Nat.add_assoc _ _ _))⟩)) | (go_at_call 14; (with_reducible refine (seamarklaw29_few.calls k _ _ l1 true _ ?side1 ?side2 A8.out).mono ?_); (case side1 => repeat (first | exact (Kd.C_below HR1.out (by repeat (first | (with_reducible first | exact HB.out | apply below_alloc | apply pw_below_drewN | apply below_drew1) | exact HB.out))) | (with_reducible refine Kd.C_alloc ?_ _) | (with_reducible refine Kd.C_drewN ?_ _) | (with_reducible refine Kd.C_drew ?_))); (case side2 => exact HC1.out); rintro e w' ⟨rfl, ⟨nd, rfl⟩⟩; (try first | exact ⟨rfl, _, World.drewN_drewN _ _ _⟩ | exact ⟨rfl, _, Eq.trans (World.drewN_drewN _ _ _) (congrArg (World.drewN _) (Nat.add_assoc _ _ _))⟩))))
          go_meet
          case rel => exact ⟨_, (true), (by first | rfl | (simp; done) | (simp [*]; done)), H', ⟨by first | omega | exact Nat.le_refl _⟩, ⟨by repeat (first | (with_reducible first | exact HB.out | apply below_alloc | apply pw_below_drewN | apply below_drew1) | exact HB.out)⟩⟩
      · replace c9 := Bool.eq_false_iff.mpr c9
        subst c9
        have H1 : (seamarklaw29_ErasureLinear.j0 k l0 l1 t351 true) = some r := by rw [if_neg (show ¬ (false = true) by decide)] at H; exact H
        clear H
        have H := H1
        clear H1
        have H' := Aside0.mk H
        clear H
        go_wp2_with (first | (go_at_call 14; (with_reducible refine (seamarklaw29_few.calls k _ _ l0 true _ ?side1 ?side2 A6.out).mono ?_); (case side1 => repeat (first | exact (Kd.C_below HR0.out HB.out) | (with_reducible refine Kd.C_alloc ?_ _) | (with_reducible refine Kd.C_drewN ?_ _) | (with_reducible refine Kd.C_drew ?_))); (case side2 => exact HC0.out); rintro e w' ⟨rfl, ⟨nd, rfl⟩⟩; (try first | exact ⟨rfl, _, World.drewN_drewN _ _ _⟩ | exact ⟨rfl, _, Eq.trans (World.drewN_drewN _ _ _) (congrArg (World.drewN _) (Nat.add_assoc _ _ _))⟩)) | (go_at_call 14; (with_reducible refine (seamarklaw29_few.calls k _ _ l1 false _ ?side1 ?side2 A8.out).mono ?_); (case side1 => repeat (first | exact (Kd.C_below HR1.out (by repeat (first | (with_reducible first | exact HB.out | apply below_alloc | apply pw_below_drewN | apply below_drew1) | exact HB.out))) | (with_reducible refine Kd.C_alloc ?_ _) | (with_reducible refine Kd.C_drewN ?_ _) | (with_reducible refine Kd.C_drew ?_))); (case side2 => exact HC1.out); rintro e w' ⟨rfl, ⟨nd, rfl⟩⟩; (try first | exact ⟨rfl, _, World.drewN_drewN _ _ _⟩ | exact ⟨rfl, _, Eq.trans (World.drewN_drewN _ _ _) (congrArg (World.drewN _) (Nat.add_assoc _ _ _))⟩)))
        repeat (go_quiet (first | (go_at_call 14; (with_reducible refine (seamarklaw29_few.calls k _ _ l0 true _ ?side1 ?side2 A6.out).mono ?_); (case side1 => repeat (first | exact (Kd.C_below HR0.out HB.out) | (with_reducible refine Kd.C_alloc ?_ _) | (with_reducible refine Kd.C_drewN ?_ _) | (with_reducible refine Kd.C_drew ?_))); (case side2 => exact HC0.out); rintro e w' ⟨rfl, ⟨nd, rfl⟩⟩; (try first | exact ⟨rfl, _, World.drewN_drewN _ _ _⟩ | exact ⟨rfl, _, Eq.trans (World.drewN_drewN _ _ _) (congrArg (World.drewN _) (Nat.add_assoc _ _ _))⟩)) | (go_at_call 14; (with_reducible refine (seamarklaw29_few.calls k _ _ l1 false _ ?side1 ?side2 A8.out).mono ?_); (case side1 => repeat (first | exact (Kd.C_below HR1.out (by repeat (first | (with_reducible first | exact HB.out | apply below_alloc | apply pw_below_drewN | apply below_drew1) | exact HB.out))) | (with_reducible refine Kd.C_alloc ?_ _) | (with_reducible refine Kd.C_drewN ?_ _) | (with_reducible refine Kd.C_drew ?_))); (case side2 => exact HC1.out); rintro e w' ⟨rfl, ⟨nd, rfl⟩⟩; (try first | exact ⟨rfl, _, World.drewN_drewN _ _ _⟩ | exact ⟨rfl, _, Eq.trans (World.drewN_drewN _ _ _) (congrArg (World.drewN _) (Nat.add_assoc _ _ _))⟩))); try go_wp2_with (first | (go_at_call 14; (with_reducible refine (seamarklaw29_few.calls k _ _ l0 true _ ?side1 ?side2 A6.out).mono ?_); (case side1 => repeat (first | exact (Kd.C_below HR0.out HB.out) | (with_reducible refine Kd.C_alloc ?_ _) | (with_reducible refine Kd.C_drewN ?_ _) | (with_reducible refine Kd.C_drew ?_))); (case side2 => exact HC0.out); rintro e w' ⟨rfl, ⟨nd, rfl⟩⟩; (try first | exact ⟨rfl, _, World.drewN_drewN _ _ _⟩ | exact ⟨rfl, _, Eq.trans (World.drewN_drewN _ _ _) (congrArg (World.drewN _) (Nat.add_assoc _ _ _))⟩)) | (go_at_call 14; (with_reducible refine (seamarklaw29_few.calls k _ _ l1 false _ ?side1 ?side2 A8.out).mono ?_); (case side1 => repeat (first | exact (Kd.C_below HR1.out (by repeat (first | (with_reducible first | exact HB.out | apply below_alloc | apply pw_below_drewN | apply below_drew1) | exact HB.out))) | (with_reducible refine Kd.C_alloc ?_ _) | (with_reducible refine Kd.C_drewN ?_ _) | (with_reducible refine Kd.C_drew ?_))); (case side2 => exact HC1.out); rintro e w' ⟨rfl, ⟨nd, rfl⟩⟩; (try first | exact ⟨rfl, _, World.drewN_drewN _ _ _⟩ | exact ⟨rfl, _, Eq.trans (World.drewN_drewN _ _ _) (congrArg (World.drewN _) (Nat.add_assoc _ _ _))⟩))))
        go_meet
        case rel => exact ⟨_, (true), (by first | rfl | (simp; done) | (simp [*]; done)), H', ⟨by first | omega | exact Nat.le_refl _⟩, ⟨by repeat (first | (with_reducible first | exact HB.out | apply below_alloc | apply pw_below_drewN | apply below_drew1) | exact HB.out)⟩⟩
    · replace c7 := Bool.eq_false_iff.mpr c7
      subst c7
      have H1 : (seamarklaw29_ErasureLinear.j0 k l0 l1 t351 true) = some r := by rw [if_neg (show ¬ (false = true) by decide)] at H; exact H
      clear H
      have H := H1
      clear H1
      have H' := Aside0.mk H
      clear H
      go_wp2_with (first | (go_at_call 14; (with_reducible refine (seamarklaw29_few.calls k _ _ l0 false _ ?side1 ?side2 A6.out).mono ?_); (case side1 => repeat (first | exact (Kd.C_below HR0.out HB.out) | (with_reducible refine Kd.C_alloc ?_ _) | (with_reducible refine Kd.C_drewN ?_ _) | (with_reducible refine Kd.C_drew ?_))); (case side2 => exact HC0.out); rintro e w' ⟨rfl, ⟨nd, rfl⟩⟩; (try first | exact ⟨rfl, _, World.drewN_drewN _ _ _⟩ | exact ⟨rfl, _, Eq.trans (World.drewN_drewN _ _ _) (congrArg (World.drewN _) (Nat.add_assoc _ _ _))⟩)))
      repeat (go_quiet (first | (go_at_call 14; (with_reducible refine (seamarklaw29_few.calls k _ _ l0 false _ ?side1 ?side2 A6.out).mono ?_); (case side1 => repeat (first | exact (Kd.C_below HR0.out HB.out) | (with_reducible refine Kd.C_alloc ?_ _) | (with_reducible refine Kd.C_drewN ?_ _) | (with_reducible refine Kd.C_drew ?_))); (case side2 => exact HC0.out); rintro e w' ⟨rfl, ⟨nd, rfl⟩⟩; (try first | exact ⟨rfl, _, World.drewN_drewN _ _ _⟩ | exact ⟨rfl, _, Eq.trans (World.drewN_drewN _ _ _) (congrArg (World.drewN _) (Nat.add_assoc _ _ _))⟩))); try go_wp2_with (first | (go_at_call 14; (with_reducible refine (seamarklaw29_few.calls k _ _ l0 false _ ?side1 ?side2 A6.out).mono ?_); (case side1 => repeat (first | exact (Kd.C_below HR0.out HB.out) | (with_reducible refine Kd.C_alloc ?_ _) | (with_reducible refine Kd.C_drewN ?_ _) | (with_reducible refine Kd.C_drew ?_))); (case side2 => exact HC0.out); rintro e w' ⟨rfl, ⟨nd, rfl⟩⟩; (try first | exact ⟨rfl, _, World.drewN_drewN _ _ _⟩ | exact ⟨rfl, _, Eq.trans (World.drewN_drewN _ _ _) (congrArg (World.drewN _) (Nat.add_assoc _ _ _))⟩))))
      go_meet
      case rel => exact ⟨_, (true), (by first | rfl | (simp; done) | (simp [*]; done)), H', ⟨by first | omega | exact Nat.le_refl _⟩, ⟨by repeat (first | (with_reducible first | exact HB.out | apply below_alloc | apply pw_below_drewN | apply below_drew1) | exact HB.out)⟩⟩
  case rest =>
    clear HC4
    (try clear c1); (try clear p2); (try clear c3); (try clear p3); (try clear q3); (try clear hx3); (try clear qi3); (try clear c6); (try clear c7); (try clear c9); (try clear c10); (try clear c10b0); (try clear c10b1); (try clear c10b2); (try clear c11); (try clear c11b0); (try clear c11b1); (try clear c12); (try clear c12b0); (try clear c12b1); (try clear hx354_0); (try clear hx355_0); (try clear p354); (try clear p355); (try clear q354); (try clear q355)
    obtain ⟨kq, x42_3, rfl, HA, HJ3, HB⟩ := hcut
    cases kq with
    | zero => exact absurd HA.out (by simp [seamarklaw29_ErasureLinear.j0])
    | succ kj3 =>
      have H := HA.out
      clear HA
      simp only [seamarklaw29_ErasureLinear.j0] at H
      by_cases c13 : x42_3 = true
      · subst c13
        have H1 : (some t351) = some r := by rw [if_pos rfl] at H; exact H
        clear H
        have H := H1
        clear H1
        obtain rfl := Option.some.inj H
        go_wp2
        repeat (go_quiet (fail); try go_wp2)
        go_ret
        exact ⟨by first | rfl | (simp [errW_none, errW_some] <;> rfl) | (simp [*, errW_none, errW_some] <;> rfl), by repeat (first | (with_reducible first | exact HB.out | apply below_alloc | apply pw_below_drewN | apply below_drew1) | exact HB.out)⟩
      · replace c13 := Bool.eq_false_iff.mpr c13
        subst c13
        have H1 : ((erasure_Code.f kj3 l0 32).bind fun bt356 => ((erasure_Code.f kj3 l1 32).bind fun bt360 => ((seamarklaw29_sums.f kj3 l0 l1).bind fun t364 => ((erasure_Code.f kj3 t364 32).bind fun bt367 => ((seamarklaw29_sums.f kj3 l0 l0).bind fun t371 => ((erasure_Code.f kj3 t371 32).bind fun bt374 => (if bt356.2 = 0 then (if bt360.2 = 0 then (if bt367.2 = 0 then (if bt374.2 = 0 then (if (bt356.1.length : Int) = (bt360.1.length : Int) then (seamarklaw29_ErasureLinear.j1 kj3 l0 t351 bt356.1 bt360.1 bt367.1 bt374.1 ((bt374.1.length : Int) != (bt356.1.length : Int))) else (seamarklaw29_ErasureLinear.j1 kj3 l0 t351 bt356.1 bt360.1 bt367.1 bt374.1 true)) else (seamarklaw29_ErasureLinear.j1 kj3 l0 t351 bt356.1 bt360.1 bt367.1 bt374.1 true)) else (seamarklaw29_ErasureLinear.j1 kj3 l0 t351 bt356.1 bt360.1 bt367.1 bt374.1 true)) else (seamarklaw29_ErasureLinear.j1 kj3 l0 t351 bt356.1 bt360.1 bt367.1 bt374.1 true)) else (seamarklaw29_ErasureLinear.j1 kj3 l0 t351 bt356.1 bt360.1 bt367.1 bt374.1 true)))))))) = some r := by rw [if_neg (show ¬ (false = true) by decide)] at H; exact H
        clear H
        have H := H1
        clear H1
        replace H := Option.bind_eq_some_iff.mp H
        obtain ⟨⟨t356, t357⟩, A140, H⟩ := H
        replace H : ((erasure_Code.f kj3 l1 32).bind fun bt360 => ((seamarklaw29_sums.f kj3 l0 l1).bind fun t364 => ((erasure_Code.f kj3 t364 32).bind fun bt367 => ((seamarklaw29_sums.f kj3 l0 l0).bind fun t371 => ((erasure_Code.f kj3 t371 32).bind fun bt374 => (if t357 = 0 then (if bt360.2 = 0 then (if bt367.2 = 0 then (if bt374.2 = 0 then (if (t356.length : Int) = (bt360.1.length : Int) then (seamarklaw29_ErasureLinear.j1 kj3 l0 t351 t356 bt360.1 bt367.1 bt374.1 ((bt374.1.length : Int) != (t356.length : Int))) else (seamarklaw29_ErasureLinear.j1 kj3 l0 t351 t356 bt360.1 bt367.1 bt374.1 true)) else (seamarklaw29_ErasureLinear.j1 kj3 l0 t351 t356 bt360.1 bt367.1 bt374.1 true)) else (seamarklaw29_ErasureLinear.j1 kj3 l0 t351 t356 bt360.1 bt367.1 bt374.1 true)) else (seamarklaw29_ErasureLinear.j1 kj3 l0 t351 t356 bt360.1 bt367.1 bt374.1 true)) else (seamarklaw29_ErasureLinear.j1 kj3 l0 t351 t356 bt360.1 bt367.1 bt374.1 true))))))) = some r := H
        have A14 := Aside0.mk A140
        clear A140
        replace H := Option.bind_eq_some_iff.mp H
        obtain ⟨⟨t360, t361⟩, A150, H⟩ := H
        replace H : ((seamarklaw29_sums.f kj3 l0 l1).bind fun t364 => ((erasure_Code.f kj3 t364 32).bind fun bt367 => ((seamarklaw29_sums.f kj3 l0 l0).bind fun t371 => ((erasure_Code.f kj3 t371 32).bind fun bt374 => (if t357 = 0 then (if t361 = 0 then (if bt367.2 = 0 then (if bt374.2 = 0 then (if (t356.length : Int) = (t360.length : Int) then (seamarklaw29_ErasureLinear.j1 kj3 l0 t351 t356 t360 bt367.1 bt374.1 ((bt374.1.length : Int) != (t356.length : Int))) else (seamarklaw29_ErasureLinear.j1 kj3 l0 t351 t356 t360 bt367.1 bt374.1 true)) else (seamarklaw29_ErasureLinear.j1 kj3 l0 t351 t356 t360 bt367.1 bt374.1 true)) else (seamarklaw29_ErasureLinear.j1 kj3 l0 t351 t356 t360 bt367.1 bt374.1 true)) else (seamarklaw29_ErasureLinear.j1 kj3 l0 t351 t356 t360 bt367.1 bt374.1 true)) else (seamarklaw29_ErasureLinear.j1 kj3 l0 t351 t356 t360 bt367.1 bt374.1 true)))))) = some r := H
        have A15 := Aside0.mk A150
        clear A150
        replace H := Option.bind_eq_some_iff.mp H
        obtain ⟨t364, A160, H⟩ := H
        replace H : ((erasure_Code.f kj3 t364 32).bind fun bt367 => ((seamarklaw29_sums.f kj3 l0 l0).bind fun t371 => ((erasure_Code.f kj3 t371 32).bind fun bt374 => (if t357 = 0 then (if t361 = 0 then (if bt367.2 = 0 then (if bt374.2 = 0 then (if (t356.length : Int) = (t360.length : Int) then (seamarklaw29_ErasureLinear.j1 kj3 l0 t351 t356 t360 bt367.1 bt374.1 ((bt374.1.length : Int) != (t356.length : Int))) else (seamarklaw29_ErasureLinear.j1 kj3 l0 t351 t356 t360 bt367.1 bt374.1 true)) else (seamarklaw29_ErasureLinear.j1 kj3 l0 t351 t356 t360 bt367.1 bt374.1 true)) else (seamarklaw29_ErasureLinear.j1 kj3 l0 t351 t356 t360 bt367.1 bt374.1 true)) else (seamarklaw29_ErasureLinear.j1 kj3 l0 t351 t356 t360 bt367.1 bt374.1 true)) else (seamarklaw29_ErasureLinear.j1 kj3 l0 t351 t356 t360 bt367.1 bt374.1 true))))) = some r := H
        have A16 := Aside0.mk A160
        clear A160
        replace H := Option.bind_eq_some_iff.mp H
        obtain ⟨⟨t367, t368⟩, A170, H⟩ := H
        replace H : ((seamarklaw29_sums.f kj3 l0 l0).bind fun t371 => ((erasure_Code.f kj3 t371 32).bind fun bt374 => (if t357 = 0 then (if t361 = 0 then (if t368 = 0 then (if bt374.2 = 0 then (if (t356.length : Int) = (t360.length : Int) then (seamarklaw29_ErasureLinear.j1 kj3 l0 t351 t356 t360 t367 bt374.1 ((bt374.1.length : Int) != (t356.length : Int))) else (seamarklaw29_ErasureLinear.j1 kj3 l0 t351 t356 t360 t367 bt374.1 true)) else (seamarklaw29_ErasureLinear.j1 kj3 l0 t351 t356 t360 t367 bt374.1 true)) else (seamarklaw29_ErasureLinear.j1 kj3 l0 t351 t356 t360 t367 bt374.1 true)) else (seamarklaw29_ErasureLinear.j1 kj3 l0 t351 t356 t360 t367 bt374.1 true)) else (seamarklaw29_ErasureLinear.j1 kj3 l0 t351 t356 t360 t367 bt374.1 true)))) = some r := H
        have A17 := Aside0.mk A170
        clear A170
        replace H := Option.bind_eq_some_iff.mp H
        obtain ⟨t371, A180, H⟩ := H
        replace H : ((erasure_Code.f kj3 t371 32).bind fun bt374 => (if t357 = 0 then (if t361 = 0 then (if t368 = 0 then (if bt374.2 = 0 then (if (t356.length : Int) = (t360.length : Int) then (seamarklaw29_ErasureLinear.j1 kj3 l0 t351 t356 t360 t367 bt374.1 ((bt374.1.length : Int) != (t356.length : Int))) else (seamarklaw29_ErasureLinear.j1 kj3 l0 t351 t356 t360 t367 bt374.1 true)) else (seamarklaw29_ErasureLinear.j1 kj3 l0 t351 t356 t360 t367 bt374.1 true)) else (seamarklaw29_ErasureLinear.j1 kj3 l0 t351 t356 t360 t367 bt374.1 true)) else (seamarklaw29_ErasureLinear.j1 kj3 l0 t351 t356 t360 t367 bt374.1 true)) else (seamarklaw29_ErasureLinear.j1 kj3 l0 t351 t356 t360 t367 bt374.1 true))) = some r := H
        have A18 := Aside0.mk A180
        clear A180
        replace H := Option.bind_eq_some_iff.mp H
        obtain ⟨⟨t374, t375⟩, A190, H⟩ := H
        replace H : (if t357 = 0 then (if t361 = 0 then (if t368 = 0 then (if t375 = 0 then (if (t356.length : Int) = (t360.length : Int) then (seamarklaw29_ErasureLinear.j1 kj3 l0 t351 t356 t360 t367 t374 ((t374.length : Int) != (t356.length : Int))) else (seamarklaw29_ErasureLinear.j1 kj3 l0 t351 t356 t360 t367 t374 true)) else (seamarklaw29_ErasureLinear.j1 kj3 l0 t351 t356 t360 t367 t374 true)) else (seamarklaw29_ErasureLinear.j1 kj3 l0 t351 t356 t360 t367 t374 true)) else (seamarklaw29_ErasureLinear.j1 kj3 l0 t351 t356 t360 t367 t374 true)) else (seamarklaw29_ErasureLinear.j1 kj3 l0 t351 t356 t360 t367 t374 true)) = some r := H
        have A19 := Aside0.mk A190
        clear A190
        have HC20 := Aside0.mk H
        clear H
        go_upto_region 8 with (first | (go_at_call 15; (with_reducible refine (erasure_Code.calls kj3 _ _ l0 32 t356 t357 _ ?side1 ?side2 A14.out).mono ?_); (case side1 => repeat (first | exact (Kd.C_below HR0.out HB.out) | (with_reducible refine Kd.C_alloc ?_ _) | (with_reducible refine Kd.C_drewN ?_ _) | (with_reducible refine Kd.C_drew ?_))); (case side2 => exact HC0.out); rintro e w21 ⟨v358, rfl, ho0, hb⟩; have n0_ := Aside0.mk (Kd.S_lower ho0 (below_size (by repeat (first | (with_reducible first | exact HB.out | apply below_alloc | apply pw_below_drewN | apply below_drew1) | exact HB.out)))); have n1_ := Aside0.mk (below_step (by repeat (first | (with_reducible first | exact HB.out | apply below_alloc | apply pw_below_drewN | apply below_drew1) | exact HB.out)) hb); clear HB; have HO359 := n0_; have HB := n1_; clear n0_ n1_; (try clear hb); (try clear hb2); (try clear hk); (try clear hi); (try clear ho0)) | (go_at_call 15; (with_reducible refine (erasure_Code.calls kj3 _ _ l1 32 t360 t361 _ ?side1 ?side2 A15.out).mono ?_); (case side1 => repeat (first | exact (Kd.C_below HR1.out HB.out) | (with_reducible refine Kd.C_alloc ?_ _) | (with_reducible refine Kd.C_drewN ?_ _) | (with_reducible refine Kd.C_drew ?_))); (case side2 => exact HC1.out); rintro e w22 ⟨v362, rfl, ho0, hb⟩; have n0_ := Aside0.mk (Kd.S_elder' (by (with_reducible repeat (first | apply Kd.S_alloc | apply Kd.S_drewN | apply Kd.S_drew)); exact HO359.out) (Kd.S_base ho0) hb); have n1_ := Aside0.mk (Kd.S_lower (Kd.S_new' ho0 (Kd.S_lt (by (with_reducible repeat (first | apply Kd.S_alloc | apply Kd.S_drewN | apply Kd.S_drew)); exact HO359.out))) (below_size (by repeat (first | (with_reducible first | exact HB.out | apply below_alloc | apply pw_below_drewN | apply below_drew1) | exact HB.out)))); have n2_ := Aside0.mk (below_step (by repeat (first | (with_reducible first | exact HB.out | apply below_alloc | apply pw_below_drewN | apply below_drew1) | exact HB.out)) hb); clear HO359; clear HB; have HO359 := n0_; have HO363 := n1_; have HB := n2_; clear n0_ n1_ n2_; (try clear hb); (try clear hb2); (try clear hk); (try clear hi); (try clear ho0)) | (go_at_call 21; (with_reducible refine (seamarklaw29_sums.calls kj3 _ _ l0 _ _ l1 t364 _ ?side1 ?side2 ?side3 ?side4 A16.out).mono ?_); (case side1 => repeat (first | exact (Kd.C_below HR0.out HB.out) | (with_reducible refine Kd.C_alloc ?_ _) | (with_reducible refine Kd.C_drewN ?_ _) | (with_reducible refine Kd.C_drew ?_))); (case side2 => exact HC0.out); (case side3 => repeat (first | exact (Kd.C_below HR1.out HB.out) | (with_reducible refine Kd.C_alloc ?_ _) | (with_reducible refine Kd.C_drewN ?_ _) | (with_reducible refine Kd.C_drew ?_))); (case side4 => exact HC1.out); rintro e w23 ⟨v365, rfl, ho0, hb⟩; have n0_ := Aside0.mk (Kd.S_elder' (by (with_reducible repeat (first | apply Kd.S_alloc | apply Kd.S_drewN | apply Kd.S_drew)); exact HO359.out) (Kd.S_base ho0) hb); have n1_ := Aside0.mk (Kd.S_elder' (by (with_reducible repeat (first | apply Kd.S_alloc | apply Kd.S_drewN | apply Kd.S_drew)); exact HO363.out) (Kd.S_base ho0) hb); have n2_ := Aside0.mk (Kd.S_lower (Kd.S_new' (Kd.S_new' ho0 (Kd.S_lt (by (with_reducible repeat (first | apply Kd.S_alloc | apply Kd.S_drewN | apply Kd.S_drew)); exact HO359.out))) (Kd.S_lt (by (with_reducible repeat (first | apply Kd.S_alloc | apply Kd.S_drewN | apply Kd.S_drew)); exact HO363.out))) (below_size (by repeat (first | (with_reducible first | exact HB.out | apply below_alloc | apply pw_below_drewN | apply below_drew1) | exact HB.out)))); have n3_ := Aside0.mk (below_step (by repeat (first | (with_reducible first | exact HB.out | apply below_alloc | apply pw_below_drewN | apply below_drew1) | exact HB.out)) hb); clear HO359; clear HO363; clear HB; have HO359 := n0_; have HO363 := n1_; have HO366 := n2_; have HB := n3_; clear n0_ n1_ n2_ n3_; (try clear hb); (try clear hb2); (try clear hk); (try clear hi); (try clear ho0); obtain ⟨Ao24, co24, eo24⟩ := Kd.S_slice HO366.out; subst eo24) | (go_at_call 15; (with_reducible refine (erasure_Code.calls kj3 _ _ t364 32 t367 t368 _ ?side1 ?side2 A17.out).mono ?_); (case side1 => repeat (first | exact (Kd.S_reads' HO366.out).2.2 | (with_reducible refine Kd.C_alloc ?_ _) | (with_reducible refine Kd.C_drewN ?_ _) | (with_reducible refine Kd.C_drew ?_))); (case side2 => exact (Kd.S_reads' HO366.out).2.1); rintro e w25 ⟨v369, rfl, ho0, hb⟩; have n0_ := Aside0.mk (Kd.S_elder' (by (with_reducible repeat (first | apply Kd.S_alloc | apply Kd.S_drewN | apply Kd.S_drew)); exact HO359.out) (Kd.S_base ho0) hb); have n1_ := Aside0.mk (Kd.S_elder' (by (with_reducible repeat (first | apply Kd.S_alloc | apply Kd.S_drewN | apply Kd.S_drew)); exact HO363.out) (Kd.S_base ho0) hb); have n2_ := Aside0.mk (Kd.S_elder' (by (with_reducible repeat (first | apply Kd.S_alloc | apply Kd.S_drewN | apply Kd.S_drew)); exact HO366.out) (Kd.S_base ho0) hb); have n3_ := Aside0.mk (Kd.S_lower (Kd.S_new' (Kd.S_new' (Kd.S_new' ho0 (Kd.S_lt (by (with_reducible repeat (first | apply Kd.S_alloc | apply Kd.S_drewN | apply Kd.S_drew)); exact HO359.out))) (Kd.S_lt (by (with_reducible repeat (first | apply Kd.S_alloc | apply Kd.S_drewN | apply Kd.S_drew)); exact HO363.out))) (Kd.S_lt (by (with_reducible repeat (first | apply Kd.S_alloc | apply Kd.S_drewN | apply Kd.S_drew)); exact HO366.out))) (below_size (by repeat (first | (with_reducible first | exact HB.out | apply below_alloc | apply pw_below_drewN | apply below_drew1) | exact HB.out)))); have n4_ := Aside0.mk (below_step (by repeat (first | (with_reducible first | exact HB.out | apply below_alloc | apply pw_below_drewN | apply below_drew1) | exact HB.out)) hb); clear HO359; clear HO363; clear HO366; clear HB; have HO359 := n0_; have HO363 := n1_; have HO366 := n2_; have HO370 := n3_; have HB := n4_; clear n0_ n1_ n2_ n3_ n4_; (try clear hb); (try clear hb2); (try clear hk); (try clear hi); (try clear ho0)) | (go_at_call 21; (with_reducible refine (seamarklaw29_sums.calls kj3 _ _ l0 _ _ l0 t371 _ ?side1 ?side2 ?side3 ?side4 A18.out).mono ?_); (case side1 => repeat (first | exact (Kd.C_below HR0.out HB.out) | (with_reducible refine Kd.C_alloc ?_ _) | (with_reducible refine Kd.C_drewN ?_ _) | (with_reducible refine Kd.C_drew ?_))); (case side2 => exact HC0.out); (case side3 => repeat (first | exact (Kd.C_below HR0.out HB.out) | (with_reducible refine Kd.C_alloc ?_ _) | (with_reducible refine Kd.C_drewN ?_ _) | (with_reducible refine Kd.C_drew ?_))); (case side4 => exact HC0.out); rintro e w26 ⟨v372, rfl, ho0, hb⟩; have n0_ := Aside0.mk (Kd.S_elder' (by (with_reducible repeat (first | apply Kd.S_alloc | apply Kd.S_drewN | apply Kd.S_drew)); exact HO359.out) (Kd.S_base ho0) hb); have n1_ := Aside0.mk (Kd.S_elder' (by (with_reducible repeat (first | apply Kd.S_alloc | apply Kd.S_drewN | apply Kd.S_drew)); exact HO363.out) (Kd.S_base ho0) hb); have n2_ := Aside0.mk (Kd.S_elder' (by (with_reducible repeat (first | apply Kd.S_alloc | apply Kd.S_drewN | apply Kd.S_drew)); exact HO366.out) (Kd.S_base ho0) hb); have n3_ := Aside0.mk (Kd.S_elder' (by (with_reducible repeat (first | apply Kd.S_alloc | apply Kd.S_drewN | apply Kd.S_drew)); exact HO370.out) (Kd.S_base ho0) hb); have n4_ := Aside0.mk (Kd.S_lower (Kd.S_new' (Kd.S_new' (Kd.S_new' (Kd.S_new' ho0 (Kd.S_lt (by (with_reducible repeat (first | apply Kd.S_alloc | apply Kd.S_drewN | apply Kd.S_drew)); exact HO359.out))) (Kd.S_lt (by (with_reducible repeat (first | apply Kd.S_alloc | apply Kd.S_drewN | apply Kd.S_drew)); exact HO363.out))) (Kd.S_lt (by (with_reducible repeat (first | apply Kd.S_alloc | apply Kd.S_drewN | apply Kd.S_drew)); exact HO366.out))) (Kd.S_lt (by (with_reducible repeat (first | apply Kd.S_alloc | apply Kd.S_drewN | apply Kd.S_drew)); exact HO370.out))) (below_size (by repeat (first | (with_reducible first | exact HB.out | apply below_alloc | apply pw_below_drewN | apply below_drew1) | exact HB.out)))); have n5_ := Aside0.mk (below_step (by repeat (first | (with_reducible first | exact HB.out | apply below_alloc | apply pw_below_drewN | apply below_drew1) | exact HB.out)) hb); clear HO359; clear HO363; clear HO366; clear HO370; clear HB; have HO359 := n0_; have HO363 := n1_; have HO366 := n2_; have HO370 := n3_; have HO373 := n4_; have HB := n5_; clear n0_ n1_ n2_ n3_ n4_ n5_; (try clear hb); (try clear hb2); (try clear hk); (try clear hi); (try clear ho0); obtain ⟨Ao27, co27, eo27⟩ := Kd.S_slice HO373.out; subst eo27) | (go_at_call 15; (with_reducible refine (erasure_Code.calls kj3 _ _ t371 32 t374 t375 _ ?side1 ?side2 A19.out).mono ?_); (case side1 => repeat (first | exact (Kd.S_reads' HO373.out).2.2 | (with_reducible refine Kd.C_alloc ?_ _) | (with_reducible refine Kd.C_drewN ?_ _) | (with_reducible refine Kd.C_drew ?_))); (case side2 => exact (Kd.S_reads' HO373.out).2.1); rintro e w28 ⟨v376, rfl, ho0, hb⟩; have n0_ := Aside0.mk (Kd.S_elder' (by (with_reducible repeat (first | apply Kd.S_alloc | apply Kd.S_drewN | apply Kd.S_drew)); exact HO359.out) (Kd.S_base ho0) hb); have n1_ := Aside0.mk (Kd.S_elder' (by (with_reducible repeat (first | apply Kd.S_alloc | apply Kd.S_drewN | apply Kd.S_drew)); exact HO363.out) (Kd.S_base ho0) hb); have n2_ := Aside0.mk (Kd.S_elder' (by (with_reducible repeat (first | apply Kd.S_alloc | apply Kd.S_drewN | apply Kd.S_drew)); exact HO366.out) (Kd.S_base ho0) hb); have n3_ := Aside0.mk (Kd.S_elder' (by (with_reducible repeat (first | apply Kd.S_alloc | apply Kd.S_drewN | apply Kd.S_drew)); exact HO370.out) (Kd.S_base ho0) hb); have n4_ := Aside0.mk (Kd.S_elder' (by (with_reducible repeat (first | apply Kd.S_alloc | apply Kd.S_drewN | apply Kd.S_drew)); exact HO373.out) (Kd.S_base ho0) hb); have n5_ := Aside0.mk (Kd.S_lower (Kd.S_new' (Kd.S_new' (Kd.S_new' (Kd.S_new' (Kd.S_new' ho0 (Kd.S_lt (by (with_reducible repeat (first | apply Kd.S_alloc | apply Kd.S_drewN | apply Kd.S_drew)); exact HO359.out))) (Kd.S_lt (by (with_reducible repeat (first | apply Kd.S_alloc | apply Kd.S_drewN | apply Kd.S_drew)); exact HO363.out))) (Kd.S_lt (by (with_reducible repeat (first | apply Kd.S_alloc | apply Kd.S_drewN | apply Kd.S_drew)); exact HO366.out))) (Kd.S_lt (by (with_reducible repeat (first | apply Kd.S_alloc | apply Kd.S_drewN | apply Kd.S_drew)); exact HO370.out))) (Kd.S_lt (by (with_reducible repeat (first | apply Kd.S_alloc | apply Kd.S_drewN | apply Kd.S_drew)); exact HO373.out))) (below_size (by repeat (first | (with_reducible first | exact HB.out | apply below_alloc | apply pw_below_drewN | apply below_drew1) | exact HB.out)))); have n6_ := Aside0.mk (below_step (by repeat (first | (with_reducible first | exact HB.out | apply below_alloc | apply pw_below_drewN | apply below_drew1) | exact HB.out)) hb); clear HO359; clear HO363; clear HO366; clear HO370; clear HO373; clear HB; have HO359 := n0_; have HO363 := n1_; have HO366 := n2_; have HO370 := n3_; have HO373 := n4_; have HO377 := n5_; have HB := n6_; clear n0_ n1_ n2_ n3_ n4_ n5_ n6_; (try clear hb); (try clear hb2); (try clear hk); (try clear hi); (try clear ho0)))
        repeat (go_quiet (first | (go_at_call 15; (with_reducible refine (erasure_Code.calls kj3 _ _ l0 32 t356 t357 _ ?side1 ?side2 A14.out).mono ?_); (case side1 => repeat (first | exact (Kd.C_below HR0.out HB.out) | (with_reducible refine Kd.C_alloc ?_ _) | (with_reducible refine Kd.C_drewN ?_ _) | (with_reducible refine Kd.C_drew ?_))); (case side2 => exact HC0.out); rintro e w21 ⟨v358, rfl, ho0, hb⟩; have n0_ := Aside0.mk (Kd.S_lower ho0 (below_size (by repeat (first | (with_reducible first | exact HB.out | apply below_alloc | apply pw_below_drewN | apply below_drew1) | exact HB.out)))); have n1_ := Aside0.mk (below_step (by repeat (first | (with_reducible first | exact HB.out | apply below_alloc | apply pw_below_drewN | apply below_drew1) | exact HB.out)) hb); clear HB; have HO359 := n0_; have HB := n1_; clear n0_ n1_; (try clear hb); (try clear hb2); (try clear hk); (try clear hi); (try clear ho0)) | (go_at_call 15; (with_reducible refine (erasure_Code.calls kj3 _ _ l1 32 t360 t361 _ ?side1 ?side2 A15.out).mono ?_); (case side1 => repeat (first | exact (Kd.C_below HR1.out HB.out) | (with_reducible refine Kd.C_alloc ?_ _) | (with_reducible refine Kd.C_drewN ?_ _) | (with_reducible refine Kd.C_drew ?_))); (case side2 => exact HC1.out); rintro e w22 ⟨v362, rfl, ho0, hb⟩; have n0_ := Aside0.mk (Kd.S_elder' (by (with_reducible repeat (first | apply Kd.S_alloc | apply Kd.S_drewN | apply Kd.S_drew)); exact HO359.out) (Kd.S_base ho0) hb); have n1_ := Aside0.mk (Kd.S_lower (Kd.S_new' ho0 (Kd.S_lt (by (with_reducible repeat (first | apply Kd.S_alloc | apply Kd.S_drewN | apply Kd.S_drew)); exact HO359.out))) (below_size (by repeat (first | (with_reducible first | exact HB.out | apply below_alloc | apply pw_below_drewN | apply below_drew1) | exact HB.out)))); have n2_ := Aside0.mk (below_step (by repeat (first | (with_reducible first | exact HB.out | apply below_alloc | apply pw_below_drewN | apply below_drew1) | exact HB.out)) hb); clear HO359; clear HB; have HO359 := n0_; have HO363 := n1_; have HB := n2_; clear n0_ n1_ n2_; (try clear hb); (try clear hb2); (try clear hk); (try clear hi); (try clear ho0)) | (go_at_call 21; (with_reducible refine (seamarklaw29_sums.calls kj3 _ _ l0 _ _ l1 t364 _ ?side1 ?side2 ?side3 ?side4 A16.out).mono ?_); (case side1 => repeat (first | exact (Kd.C_below HR0.out HB.out) | (with_reducible refine Kd.C_alloc ?_ _) | (with_reducible refine Kd.C_drewN ?_ _) | (with_reducible refine Kd.C_drew ?_))); (case side2 => exact HC0.out); (case side3 => repeat (first | exact (Kd.C_below HR1.out HB.out) | (with_reducible refine Kd.C_alloc ?_ _) | (with_reducible refine Kd.C_drewN ?_ _) | (with_reducible refine Kd.C_drew ?_))); (case side4 => exact HC1.out); rintro e w23 ⟨v365, rfl, ho0, hb⟩; have n0_ := Aside0.mk (Kd.S_elder' (by (with_reducible repeat (first | apply Kd.S_alloc | apply Kd.S_drewN | apply Kd.S_drew)); exact HO359.out) (Kd.S_base ho0) hb); have n1_ := Aside0.mk (Kd.S_elder' (by (with_reducible repeat (first | apply Kd.S_alloc | apply Kd.S_drewN | apply Kd.S_drew)); exact HO363.out) (Kd.S_base ho0) hb); have n2_ := Aside0.mk (Kd.S_lower (Kd.S_new' (Kd.S_new' ho0 (Kd.S_lt (by (with_reducible repeat (first | apply Kd.S_alloc | apply Kd.S_drewN | apply Kd.S_drew)); exact HO359.out))) (Kd.S_lt (by (with_reducible repeat (first | apply Kd.S_alloc | apply Kd.S_drewN | apply Kd.S_drew)); exact HO363.out))) (below_size (by repeat (first | (with_reducible first | exact HB.out | apply below_alloc | apply pw_below_drewN | apply below_drew1) | exact HB.out)))); have n3_ := Aside0.mk (below_step (by repeat (first | (with_reducible first | exact HB.out | apply below_alloc | apply pw_below_drewN | apply below_drew1) | exact HB.out)) hb); clear HO359; clear HO363; clear HB; have HO359 := n0_; have HO363 := n1_; have HO366 := n2_; have HB := n3_; clear n0_ n1_ n2_ n3_; (try clear hb); (try clear hb2); (try clear hk); (try clear hi); (try clear ho0); obtain ⟨Ao24, co24, eo24⟩ := Kd.S_slice HO366.out; subst eo24) | (go_at_call 15; (with_reducible refine (erasure_Code.calls kj3 _ _ t364 32 t367 t368 _ ?side1 ?side2 A17.out).mono ?_); (case side1 => repeat (first | exact (Kd.S_reads' HO366.out).2.2 | (with_reducible refine Kd.C_alloc ?_ _) | (with_reducible refine Kd.C_drewN ?_ _) | (with_reducible refine Kd.C_drew ?_))); (case side2 => exact (Kd.S_reads' HO366.out).2.1); rintro e w25 ⟨v369, rfl, ho0, hb⟩; have n0_ := Aside0.mk (Kd.S_elder' (by (with_reducible repeat (first | apply Kd.S_alloc | apply Kd.S_drewN | apply Kd.S_drew)); exact HO359.out) (Kd.S_base ho0) hb); have n1_ := Aside0.mk (Kd.S_elder' (by (with_reducible repeat (first | apply Kd.S_alloc | apply Kd.S_drewN | apply Kd.S_drew)); exact HO363.out) (Kd.S_base ho0) hb); have n2_ := Aside0.mk (Kd.S_elder' (by (with_reducible repeat (first | apply Kd.S_alloc | apply Kd.S_drewN | apply Kd.S_drew)); exact HO366.out) (Kd.S_base ho0) hb); have n3_ := Aside0.mk (Kd.S_lower (Kd.S_new' (Kd.S_new' (Kd.S_new' ho0 (Kd.S_lt (by (with_reducible repeat (first | apply Kd.S_alloc | apply Kd.S_drewN | apply Kd.S_drew)); exact HO359.out))) (Kd.S_lt (by (with_reducible repeat (first | apply Kd.S_alloc | apply Kd.S_drewN | apply Kd.S_drew)); exact HO363.out))) (Kd.S_lt (by (with_reducible repeat (first | apply Kd.S_alloc | apply Kd.S_drewN | apply Kd.S_drew)); exact HO366.out))) (below_size (by repeat (first | (with_reducible first | exact HB.out | apply below_alloc | apply pw_below_drewN | apply below_drew1) | exact HB.out)))); have n4_ := Aside0.mk (below_step (by repeat (first | (with_reducible first | exact HB.out | apply below_alloc | apply pw_below_drewN | apply below_drew1) | exact HB.out)) hb); clear HO359; clear HO363; clear HO366; clear HB; have HO359 := n0_; have HO363 := n1_; have HO366 := n2_; have HO370 := n3_; have HB := n4_; clear n0_ n1_ n2_ n3_ n4_; (try clear hb); (try clear hb2); (try clear hk); (try clear hi); (try clear ho0)) | (go_at_call 21; (with_reducible refine (seamarklaw29_sums.calls kj3 _ _ l0 _ _ l0 t371 _ ?side1 ?side2 ?side3 ?side4 A18.out).mono ?_); (case side1 => repeat (first | exact (Kd.C_below HR0.out HB.out) | (with_reducible refine Kd.C_alloc ?_ _) | (with_reducible refine Kd.C_drewN ?_ _) | (with_reducible refine Kd.C_drew ?_))); (case side2 => exact HC0.out); (case side3 => repeat (first | exact (Kd.C_below HR0.out HB.out) | (with_reducible refine Kd.C_alloc ?_ _) | (with_reducible refine Kd.C_drewN ?_ _) | (with_reducible refine Kd.C_drew ?_))); (case side4 => exact HC0.out); rintro e w26 ⟨v372, rfl, ho0, hb⟩; have n0_ := Aside0.mk (Kd.S_elder' (by (with_reducible repeat (first | apply Kd.S_alloc | apply Kd.S_drewN | apply Kd.S_drew)); exact HO359.out) (Kd.S_base ho0) hb); have n1_ := Aside0.mk (Kd.S_elder' (by (with_reducible repeat (first | apply Kd.S_alloc | apply Kd.S_drewN | apply Kd.S_drew)); exact HO363.out) (Kd.S_base ho0) hb); have n2_ := Aside0.mk (Kd.S_elder' (by (with_reducible repeat (first | apply Kd.S_alloc | apply Kd.S_drewN | apply Kd.S_drew)); exact HO366.out) (Kd.S_base ho0) hb); have n3_ := Aside0.mk (Kd.S_elder' (by (with_reducible repeat (first | apply Kd.S_alloc | apply Kd.S_drewN | apply Kd.S_drew)); exact HO370.out) (Kd.S_base ho0) hb); have n4_ := Aside0.mk (Kd.S_lower (Kd.S_new' (Kd.S_new' (Kd.S_new' (Kd.S_new' ho0 (Kd.S_lt (by (with_reducible repeat (first | apply Kd.S_alloc | apply Kd.S_drewN | apply Kd.S_drew)); exact HO359.out))) (Kd.S_lt (by (with_reducible repeat (first | apply Kd.S_alloc | apply Kd.S_drewN | apply Kd.S_drew)); exact HO363.out))) (Kd.S_lt (by (with_reducible repeat (first | apply Kd.S_alloc | apply Kd.S_drewN | apply Kd.S_drew)); exact HO366.out))) (Kd.S_lt (by (with_reducible repeat (first | apply Kd.S_alloc | apply Kd.S_drewN | apply Kd.S_drew)); exact HO370.out))) (below_size (by repeat (first | (with_reducible first | exact HB.out | apply below_alloc | apply pw_below_drewN | apply below_drew1) | exact HB.out)))); have n5_ := Aside0.mk (below_step (by repeat (first | (with_reducible first | exact HB.out | apply below_alloc | apply pw_below_drewN | apply below_drew1) | exact HB.out)) hb); clear HO359; clear HO363; clear HO366; clear HO370; clear HB; have HO359 := n0_; have HO363 := n1_; have HO366 := n2_; have HO370 := n3_; have HO373 := n4_; have HB := n5_; clear n0_ n1_ n2_ n3_ n4_ n5_; (try clear hb); (try clear hb2); (try clear hk); (try clear hi); (try clear ho0); obtain ⟨Ao27, co27, eo27⟩ := Kd.S_slice HO373.out; subst eo27) | (go_at_call 15; (with_reducible refine (erasure_Code.calls kj3 _ _ t371 32 t374 t375 _ ?side1 ?side2 A19.out).mono ?_); (case side1 => repeat (first | exact (Kd.S_reads' HO373.out).2.2 | (with_reducible refine Kd.C_alloc ?_ _) | (with_reducible refine Kd.C_drewN ?_ _) | (with_reducible refine Kd.C_drew ?_))); (case side2 => exact (Kd.S_reads' HO373.out).2.1); rintro e w28 ⟨v376, rfl, ho0, hb⟩; have n0_ := Aside0.mk (Kd.S_elder' (by (with_reducible repeat (first | apply Kd.S_alloc | apply Kd.S_drewN | apply Kd.S_drew)); exact HO359.out) (Kd.S_base ho0) hb); have n1_ := Aside0.mk (Kd.S_elder' (by (with_reducible repeat (first | apply Kd.S_alloc | apply Kd.S_drewN | apply Kd.S_drew)); exact HO363.out) (Kd.S_base ho0) hb); have n2_ := Aside0.mk (Kd.S_elder' (by (with_reducible repeat (first | apply Kd.S_alloc | apply Kd.S_drewN | apply Kd.S_drew)); exact HO366.out) (Kd.S_base ho0) hb); have n3_ := Aside0.mk (Kd.S_elder' (by (with_reducible repeat (first | apply Kd.S_alloc | apply Kd.S_drewN | apply Kd.S_drew)); exact HO370.out) (Kd.S_base ho0) hb); have n4_ := Aside0.mk (Kd.S_elder' (by (with_reducible repeat (first | apply Kd.S_alloc | apply Kd.S_drewN | apply Kd.S_drew)); exact HO373.out) (Kd.S_base ho0) hb); have n5_ := Aside0.mk (Kd.S_lower (Kd.S_new' (Kd.S_new' (Kd.S_new' (Kd.S_new' (Kd.S_new' ho0 (Kd.S_lt (by (with_reducible repeat (first | apply Kd.S_alloc | apply Kd.S_drewN | apply Kd.S_drew)); exact HO359.out))) (Kd.S_lt (by (with_reducible repeat (first | apply Kd.S_alloc | apply Kd.S_drewN | apply Kd.S_drew)); exact HO363.out))) (Kd.S_lt (by (with_reducible repeat (first | apply Kd.S_alloc | apply Kd.S_drewN | apply Kd.S_drew)); exact HO366.out))) (Kd.S_lt (by (with_reducible repeat (first | apply Kd.S_alloc | apply Kd.S_drewN | apply Kd.S_drew)); exact HO370.out))) (Kd.S_lt (by (with_reducible repeat (first | apply Kd.S_alloc | apply Kd.S_drewN | apply Kd.S_drew)); exact HO373.out))) (below_size (by repeat (first | (with_reducible first | exact HB.out | apply below_alloc | apply pw_below_drewN | apply below_drew1) | exact HB.out)))); have n6_ := Aside0.mk (below_step (by repeat (first | (with_reducible first | exact HB.out | apply below_alloc | apply pw_below_drewN | apply below_drew1) | exact HB.out)) hb); clear HO359; clear HO363; clear HO366; clear HO370; clear HO373; clear HB; have HO359 := n0_; have HO363 := n1_; have HO366 := n2_; have HO370 := n3_; have HO373 := n4_; have HO377 := n5_; have HB := n6_; clear n0_ n1_ n2_ n3_ n4_ n5_ n6_; (try clear hb); (try clear hb2); (try clear hk); (try clear hi); (try clear ho0))); go_upto_region 8 with (first | (go_at_call 15; (with_reducible refine (erasure_Code.calls kj3 _ _ l0 32 t356 t357 _ ?side1 ?side2 A14.out).mono ?_); (case side1 => repeat (first | exact (Kd.C_below HR0.out HB.out) | (with_reducible refine Kd.C_alloc ?_ _) | (with_reducible refine Kd.C_drewN ?_ _) | (with_reducible refine Kd.C_drew ?_))); (case side2 => exact HC0.out); rintro e w21 ⟨v358, rfl, ho0, hb⟩; have n0_ := Aside0.mk (Kd.S_lower ho0 (below_size (by repeat (first | (with_reducible first | exact HB.out | apply below_alloc | apply pw_below_drewN | apply below_drew1) | exact HB.out)))); have n1_ := Aside0.mk (below_step (by repeat (first | (with_reducible first | exact HB.out | apply below_alloc | apply pw_below_drewN | apply below_drew1) | exact HB.out)) hb); clear HB; have HO359 := n0_; have HB := n1_; clear n0_ n1_; (try clear hb); (try clear hb2); (try clear hk); (try clear hi); (try clear ho0)) | (go_at_call 15; (with_reducible refine (erasure_Code.calls kj3 _ _ l1 32 t360 t361 _ ?side1 ?side2 A15.out).mono ?_); (case side1 => repeat (first | exact (Kd.C_below HR1.out HB.out) | (with_reducible refine Kd.C_alloc ?_ _) | (with_reducible refine Kd.C_drewN ?_ _) | (with_reducible refine Kd.C_drew ?_))); (case side2 => exact HC1.out); rintro e w22 ⟨v362, rfl, ho0, hb⟩; have n0_ := Aside0.mk (Kd.S_elder' (by (with_reducible repeat (first | apply Kd.S_alloc | apply Kd.S_drewN | apply Kd.S_drew)); exact HO359.out) (Kd.S_base ho0) hb); have n1_ := Aside0.mk (Kd.S_lower (Kd.S_new' ho0 (Kd.S_lt (by (with_reducible repeat (first | apply Kd.S_alloc | apply Kd.S_drewN | apply Kd.S_drew)); exact HO359.out))) (below_size (by repeat (first | (with_reducible first | exact HB.out | apply below_alloc | apply pw_below_drewN | apply below_drew1) | exact HB.out)))); have n2_ := Aside0.mk (below_step (by repeat (first | (with_reducible first | exact HB.out | apply below_alloc | apply pw_below_drewN | apply below_drew1) | exact HB.out)) hb); clear HO359; clear HB; have HO359 := n0_; have HO363 := n1_; have HB := n2_; clear n0_ n1_ n2_; (try clear hb); (try clear hb2); (try clear hk); (try clear hi); (try clear ho0)) | (go_at_call 21; (with_reducible refine (seamarklaw29_sums.calls kj3 _ _ l0 _ _ l1 t364 _ ?side1 ?side2 ?side3 ?side4 A16.out).mono ?_); (case side1 => repeat (first | exact (Kd.C_below HR0.out HB.out) | (with_reducible refine Kd.C_alloc ?_ _) | (with_reducible refine Kd.C_drewN ?_ _) | (with_reducible refine Kd.C_drew ?_))); (case side2 => exact HC0.out); (case side3 => repeat (first | exact (Kd.C_below HR1.out HB.out) | (with_reducible refine Kd.C_alloc ?_ _) | (with_reducible refine Kd.C_drewN ?_ _) | (with_reducible refine Kd.C_drew ?_))); (case side4 => exact HC1.out); rintro e w23 ⟨v365, rfl, ho0, hb⟩; have n0_ := Aside0.mk (Kd.S_elder' (by (with_reducible repeat (first | apply Kd.S_alloc | apply Kd.S_drewN | apply Kd.S_drew)); exact HO359.out) (Kd.S_base ho0) hb); have n1_ := Aside0.mk (Kd.S_elder' (by (with_reducible repeat (first | apply Kd.S_alloc | apply Kd.S_drewN | apply Kd.S_drew)); exact HO363.out) (Kd.S_base ho0) hb); have n2_ := Aside0.mk (Kd.S_lower (Kd.S_new' (Kd.S_new' ho0 (Kd.S_lt (by (with_reducible repeat (first | apply Kd.S_alloc | apply Kd.S_drewN | apply Kd.S_drew)); exact HO359.out))) (Kd.S_lt (by (with_reducible repeat (first | apply Kd.S_alloc | apply Kd.S_drewN | apply Kd.S_drew)); exact HO363.out))) (below_size (by repeat (first | (with_reducible first | exact HB.out | apply below_alloc | apply pw_below_drewN | apply below_drew1) | exact HB.out)))); have n3_ := Aside0.mk (below_step (by repeat (first | (with_reducible first | exact HB.out | apply below_alloc | apply pw_below_drewN | apply below_drew1) | exact HB.out)) hb); clear HO359; clear HO363; clear HB; have HO359 := n0_; have HO363 := n1_; have HO366 := n2_; have HB := n3_; clear n0_ n1_ n2_ n3_; (try clear hb); (try clear hb2); (try clear hk); (try clear hi); (try clear ho0); obtain ⟨Ao24, co24, eo24⟩ := Kd.S_slice HO366.out; subst eo24) | (go_at_call 15; (with_reducible refine (erasure_Code.calls kj3 _ _ t364 32 t367 t368 _ ?side1 ?side2 A17.out).mono ?_); (case side1 => repeat (first | exact (Kd.S_reads' HO366.out).2.2 | (with_reducible refine Kd.C_alloc ?_ _) | (with_reducible refine Kd.C_drewN ?_ _) | (with_reducible refine Kd.C_drew ?_))); (case side2 => exact (Kd.S_reads' HO366.out).2.1); rintro e w25 ⟨v369, rfl, ho0, hb⟩; have n0_ := Aside0.mk (Kd.S_elder' (by (with_reducible repeat (first | apply Kd.S_alloc | apply Kd.S_drewN | apply Kd.S_drew)); exact HO359.out) (Kd.S_base ho0) hb); have n1_ := Aside0.mk (Kd.S_elder' (by (with_reducible repeat (first | apply Kd.S_alloc | apply Kd.S_drewN | apply Kd.S_drew)); exact HO363.out) (Kd.S_base ho0) hb); have n2_ := Aside0.mk (Kd.S_elder' (by (with_reducible repeat (first | apply Kd.S_alloc | apply Kd.S_drewN | apply Kd.S_drew)); exact HO366.out) (Kd.S_base ho0) hb); have n3_ := Aside0.mk (Kd.S_lower (Kd.S_new' (Kd.S_new' (Kd.S_new' ho0 (Kd.S_lt (by (with_reducible repeat (first | apply Kd.S_alloc | apply Kd.S_drewN | apply Kd.S_drew)); exact HO359.out))) (Kd.S_lt (by (with_reducible repeat (first | apply Kd.S_alloc | apply Kd.S_drewN | apply Kd.S_drew)); exact HO363.out))) (Kd.S_lt (by (with_reducible repeat (first | apply Kd.S_alloc | apply Kd.S_drewN | apply Kd.S_drew)); exact HO366.out))) (below_size (by repeat (first | (with_reducible first | exact HB.out | apply below_alloc | apply pw_below_drewN | apply below_drew1) | exact HB.out)))); have n4_ := Aside0.mk (below_step (by repeat (first | (with_reducible first | exact HB.out | apply below_alloc | apply pw_below_drewN | apply below_drew1) | exact HB.out)) hb); clear HO359; clear HO363; clear HO366; clear HB; have HO359 := n0_; have HO363 := n1_; have HO366 := n2_; have HO370 := n3_; have HB := n4_; clear n0_ n1_ n2_ n3_ n4_; (try clear hb); (try clear hb2); (try clear hk); (try clear hi); (try clear ho0)) | (go_at_call 21; (with_reducible refine (seamarklaw29_sums.calls kj3 _ _ l0 _ _ l0 t371 _ ?side1 ?side2 ?side3 ?side4 A18.out).mono ?_); (case side1 => repeat (first | exact (Kd.C_below HR0.out HB.out) | (with_reducible refine Kd.C_alloc ?_ _) | (with_reducible refine Kd.C_drewN ?_ _) | (with_reducible refine Kd.C_drew ?_))); (case side2 => exact HC0.out); (case side3 => repeat (first | exact (Kd.C_below HR0.out HB.out) | (with_reducible refine Kd.C_alloc ?_ _) | (with_reducible refine Kd.C_drewN ?_ _) | (with_reducible refine Kd.C_drew ?_))); (case side4 => exact HC0.out); rintro e w26 ⟨v372, rfl, ho0, hb⟩; have n0_ := Aside0.mk (Kd.S_elder' (by (with_reducible repeat (first | apply Kd.S_alloc | apply Kd.S_drewN | apply Kd.S_drew)); exact HO359.out) (Kd.S_base ho0) hb); have n1_ := Aside0.mk (Kd.S_elder' (by (with_reducible repeat (first | apply Kd.S_alloc | apply Kd.S_drewN | apply Kd.S_drew)); exact HO363.out) (Kd.S_base ho0) hb); have n2_ := Aside0.mk (Kd.S_elder' (by (with_reducible repeat (first | apply Kd.S_alloc | apply Kd.S_drewN | apply Kd.S_drew)); exact HO366.out) (Kd.S_base ho0) hb); have n3_ := Aside0.mk (Kd.S_elder' (by (with_reducible repeat (first | apply Kd.S_alloc | apply Kd.S_drewN | apply Kd.S_drew)); exact HO370.out) (Kd.S_base ho0) hb); have n4_ := Aside0.mk (Kd.S_lower (Kd.S_new' (Kd.S_new' (Kd.S_new' (Kd.S_new' ho0 (Kd.S_lt (by (with_reducible repeat (first | apply Kd.S_alloc | apply Kd.S_drewN | apply Kd.S_drew)); exact HO359.out))) (Kd.S_lt (by (with_reducible repeat (first | apply Kd.S_alloc | apply Kd.S_drewN | apply Kd.S_drew)); exact HO363.out))) (Kd.S_lt (by (with_reducible repeat (first | apply Kd.S_alloc | apply Kd.S_drewN | apply Kd.S_drew)); exact HO366.out))) (Kd.S_lt (by (with_reducible repeat (first | apply Kd.S_alloc | apply Kd.S_drewN | apply Kd.S_drew)); exact HO370.out))) (below_size (by repeat (first | (with_reducible first | exact HB.out | apply below_alloc | apply pw_below_drewN | apply below_drew1) | exact HB.out)))); have n5_ := Aside0.mk (below_step (by repeat (first | (with_reducible first | exact HB.out | apply below_alloc | apply pw_below_drewN | apply below_drew1) | exact HB.out)) hb); clear HO359; clear HO363; clear HO366; clear HO370; clear HB; have HO359 := n0_; have HO363 := n1_; have HO366 := n2_; have HO370 := n3_; have HO373 := n4_; have HB := n5_; clear n0_ n1_ n2_ n3_ n4_ n5_; (try clear hb); (try clear hb2); (try clear hk); (try clear hi); (try clear ho0); obtain ⟨Ao27, co27, eo27⟩ := Kd.S_slice HO373.out; subst eo27) | (go_at_call 15; (with_reducible refine (erasure_Code.calls kj3 _ _ t371 32 t374 t375 _ ?side1 ?side2 A19.out).mono ?_); (case side1 => repeat (first | exact (Kd.S_reads' HO373.out).2.2 | (with_reducible refine Kd.C_alloc ?_ _) | (with_reducible refine Kd.C_drewN ?_ _) | (with_reducible refine Kd.C_drew ?_))); (case side2 => exact (Kd.S_reads' HO373.out).2.1); rintro e w28 ⟨v376, rfl, ho0, hb⟩; have n0_ := Aside0.mk (Kd.S_elder' (by (with_reducible repeat (first | apply Kd.S_alloc | apply Kd.S_drewN | apply Kd.S_drew)); exact HO359.out) (Kd.S_base ho0) hb); have n1_ := Aside0.mk (Kd.S_elder' (by (with_reducible repeat (first | apply Kd.S_alloc | apply Kd.S_drewN | apply Kd.S_drew)); exact HO363.out) (Kd.S_base ho0) hb); have n2_ := Aside0.mk (Kd.S_elder' (by (with_reducible repeat (first | apply Kd.S_alloc | apply Kd.S_drewN | apply Kd.S_drew)); exact HO366.out) (Kd.S_base ho0) hb); have n3_ := Aside0.mk (Kd.S_elder' (by (with_reducible repeat (first | apply Kd.S_alloc | apply Kd.S_drewN | apply Kd.S_drew)); exact HO370.out) (Kd.S_base ho0) hb); have n4_ := Aside0.mk (Kd.S_elder' (by (with_reducible repeat (first | apply Kd.S_alloc | apply Kd.S_drewN | apply Kd.S_drew)); exact HO373.out) (Kd.S_base ho0) hb); have n5_ := Aside0.mk (Kd.S_lower (Kd.S_new' (Kd.S_new' (Kd.S_new' (Kd.S_new' (Kd.S_new' ho0 (Kd.S_lt (by (with_reducible repeat (first | apply Kd.S_alloc | apply Kd.S_drewN | apply Kd.S_drew)); exact HO359.out))) (Kd.S_lt (by (with_reducible repeat (first | apply Kd.S_alloc | apply Kd.S_drewN | apply Kd.S_drew)); exact HO363.out))) (Kd.S_lt (by (with_reducible repeat (first | apply Kd.S_alloc | apply Kd.S_drewN | apply Kd.S_drew)); exact HO366.out))) (Kd.S_lt (by (with_reducible repeat (first | apply Kd.S_alloc | apply Kd.S_drewN | apply Kd.S_drew)); exact HO370.out))) (Kd.S_lt (by (with_reducible repeat (first | apply Kd.S_alloc | apply Kd.S_drewN | apply Kd.S_drew)); exact HO373.out))) (below_size (by repeat (first | (with_reducible first | exact HB.out | apply below_alloc | apply pw_below_drewN | apply below_drew1) | exact HB.out)))); have n6_ := Aside0.mk (below_step (by repeat (first | (with_reducible first | exact HB.out | apply below_alloc | apply pw_below_drewN | apply below_drew1) | exact HB.out)) hb); clear HO359; clear HO363; clear HO366; clear HO370; clear HO373; clear HB; have HO359 := n0_; have HO363 := n1_; have HO366 := n2_; have HO370 := n3_; have HO373 := n4_; have HO377 := n5_; have HB := n6_; clear n0_ n1_ n2_ n3_ n4_ n5_ n6_; (try clear hb); (try clear hb2); (try clear hk); (try clear hi); (try clear ho0))))
        (try simp only [Act.put, List.setIfInBounds_toArray, List.set_cons_zero, List.set_cons_succ])
        go_cut [95] (fun v95 wc => ∃ (kq : Nat) (x95_19 : Bool), v95 = .bool x95_19 ∧ Aside0 (seamarklaw29_ErasureLinear.j1 kq l0 t351 t356 t360 t367 t374 x95_19 = some r) ∧ Aside0 (kq ≤ kj3) ∧ Aside0 (Kd.S (Kd.slice 5 (Kd.int .u8)) 29 wc w.heap.size (fun k_ => some k_ ≠ (v362 : Value).ownBlock ∧ some k_ ≠ (v369 : Value).ownBlock ∧ some k_ ≠ (v376 : Value).ownBlock) v358 t356) ∧ Aside0 (Kd.S (Kd.slice 5 (Kd.int .u8)) 29 wc w.heap.size (fun k_ => some k_ ≠ (v358 : Value).ownBlock ∧ some k_ ≠ (v369 : Value).ownBlock ∧ some k_ ≠ (v376 : Value).ownBlock) v362 t360) ∧ Aside0 (Kd.S (Kd.slice 5 (Kd.int .u8)) 29 wc w.heap.size (fun k_ => some k_ ≠ (v358 : Value).ownBlock ∧ some k_ ≠ (v362 : Value).ownBlock ∧ some k_ ≠ (v376 : Value).ownBlock) v369 t367) ∧ Aside0 (Kd.S (Kd.slice 5 (Kd.int .u8)) 29 wc w.heap.size (fun k_ => some k_ ≠ (v358 : Value).ownBlock ∧ some k_ ≠ (v362 : Value).ownBlock ∧ some k_ ≠ (v369 : Value).ownBlock) v376 t374) ∧ Aside0 (Below w.heap.size w wc))
        case first =>
          have H := HC20.out
          clear HC20
          by_cases c29 : t357 = 0
          · rw [if_pos c29] at H
            have c29b0 : (t357 == 0) = true := beq_iff_eq.mpr c29
            have c29b1 : (t357 != 0) = false := bne_eq_false_iff_eq.mpr c29
            clear c29
            (first | rw [c29b0] | (simp only [i64_w, i32_w]; rw [c29b0]) | skip)
            by_cases c30 : t361 = 0
            · rw [if_pos c30] at H
              have c30b0 : (t361 == 0) = true := beq_iff_eq.mpr c30
              have c30b1 : (t361 != 0) = false := bne_eq_false_iff_eq.mpr c30
              clear c30
              by_cases c31 : t368 = 0
              · rw [if_pos c31] at H
                have c31b0 : (t368 == 0) = true := beq_iff_eq.mpr c31
                have c31b1 : (t368 != 0) = false := bne_eq_false_iff_eq.mpr c31
                clear c31
                by_cases c32 : t375 = 0
                · rw [if_pos c32] at H
                  have c32b0 : (t375 == 0) = true := beq_iff_eq.mpr c32
                  have c32b1 : (t375 != 0) = false := bne_eq_false_iff_eq.mpr c32
                  clear c32
                  by_cases c33 : (t356.length : Int) = (t360.length : Int)
                  · rw [if_pos c33] at H
                    have c33b0 : ((t356.length : Int) == (t360.length : Int)) = true := beq_iff_eq.mpr c33
                    have c33b1 : ((t356.length : Int) != (t360.length : Int)) = false := bne_eq_false_iff_eq.mpr c33
                    have c33b2 : (t356.length == t360.length) = true := by first | simpa using c33 | (simp at c33 ⊢; omega)
                    clear c33
                    have H' := Aside0.mk H
                    clear H
                    obtain ⟨Ao34, co34, eo34⟩ := Kd.S_slice HO359.out
                    subst eo34
                    obtain ⟨Ao35, co35, eo35⟩ := Kd.S_slice HO363.out
                    subst eo35
                    obtain ⟨Ao36, co36, eo36⟩ := Kd.S_slice HO377.out
                    subst eo36
                    go_wp2
                    repeat (go_quiet (fail); try go_wp2)
                    go_meet
                    case rel => exact ⟨_, (((t374.length : Int) != (t356.length : Int))), (by first | rfl | (simp; done) | (simp [*]; done)), H', ⟨by have := HJ3.out; first | omega | exact Nat.le_refl _⟩, ⟨by (with_reducible repeat (first | apply Kd.S_alloc | apply Kd.S_drewN | apply Kd.S_drew)); exact Kd.S_mono HO359.out (fun _ hk => ⟨hk.1.1.1.1.2, ⟨hk.1.1.2, hk.2⟩⟩)⟩, ⟨by (with_reducible repeat (first | apply Kd.S_alloc | apply Kd.S_drewN | apply Kd.S_drew)); exact Kd.S_mono HO363.out (fun _ hk => ⟨hk.1.1.1.1.2, ⟨hk.1.1.2, hk.2⟩⟩)⟩, ⟨by (with_reducible repeat (first | apply Kd.S_alloc | apply Kd.S_drewN | apply Kd.S_drew)); exact Kd.S_mono HO370.out (fun _ hk => ⟨hk.1.1.1.1.2, ⟨hk.1.1.1.2, hk.2⟩⟩)⟩, ⟨by (with_reducible repeat (first | apply Kd.S_alloc | apply Kd.S_drewN | apply Kd.S_drew)); exact Kd.S_mono HO377.out (fun _ hk => ⟨hk.1.1.1.1.2, ⟨hk.1.1.1.2, hk.1.2⟩⟩)⟩, ⟨by repeat (first | (with_reducible first | exact HB.out | apply below_alloc | apply pw_below_drewN | apply below_drew1) | exact HB.out)⟩⟩
                  · rw [if_neg c33] at H
                    have c33b0 : ((t356.length : Int) == (t360.length : Int)) = false := beq_eq_false_iff_ne.mpr c33
                    have c33b1 : ((t356.length : Int) != (t360.length : Int)) = true := bne_iff_ne.mpr c33
                    have c33b2 : (t356.length == t360.length) = false := by first | simpa using c33 | (simp at c33 ⊢; omega)
                    have H' := Aside0.mk H
                    clear H
                    obtain ⟨Ao37, co37, eo37⟩ := Kd.S_slice HO359.out
                    subst eo37
                    obtain ⟨Ao38, co38, eo38⟩ := Kd.S_slice HO363.out
                    subst eo38
                    go_wp2
                    repeat (go_quiet (fail); try go_wp2)
                    go_meet
                    case rel => exact ⟨_, (true), (by first | rfl | (simp; done) | (simp [*]; done)), H', ⟨by have := HJ3.out; first | omega | exact Nat.le_refl _⟩, ⟨by (with_reducible repeat (first | apply Kd.S_alloc | apply Kd.S_drewN | apply Kd.S_drew)); exact Kd.S_mono HO359.out (fun _ hk => ⟨hk.1.1.1.1.2, ⟨hk.1.1.2, hk.2⟩⟩)⟩, ⟨by (with_reducible repeat (first | apply Kd.S_alloc | apply Kd.S_drewN | apply Kd.S_drew)); exact Kd.S_mono HO363.out (fun _ hk => ⟨hk.1.1.1.1.2, ⟨hk.1.1.2, hk.2⟩⟩)⟩, ⟨by (with_reducible repeat (first | apply Kd.S_alloc | apply Kd.S_drewN | apply Kd.S_drew)); exact Kd.S_mono HO370.out (fun _ hk => ⟨hk.1.1.1.1.2, ⟨hk.1.1.1.2, hk.2⟩⟩)⟩, ⟨by (with_reducible repeat (first | apply Kd.S_alloc | apply Kd.S_drewN | apply Kd.S_drew)); exact Kd.S_mono HO377.out (fun _ hk => ⟨hk.1.1.1.1.2, ⟨hk.1.1.1.2, hk.1.2⟩⟩)⟩, ⟨by repeat (first | (with_reducible first | exact HB.out | apply below_alloc | apply pw_below_drewN | apply below_drew1) | exact HB.out)⟩⟩
                · rw [if_neg c32] at H
                  have c32b0 : (t375 == 0) = false := beq_eq_false_iff_ne.mpr c32
                  have c32b1 : (t375 != 0) = true := bne_iff_ne.mpr c32
                  have H' := Aside0.mk H
                  clear H
                  go_wp2
                  repeat (go_quiet (fail); try go_wp2)
                  go_meet
                  case rel => exact ⟨_, (true), (by first | rfl | (simp; done) | (simp [*]; done)), H', ⟨by have := HJ3.out; first | omega | exact Nat.le_refl _⟩, ⟨by (with_reducible repeat (first | apply Kd.S_alloc | apply Kd.S_drewN | apply Kd.S_drew)); exact Kd.S_mono HO359.out (fun _ hk => ⟨hk.1.1.1.1.2, ⟨hk.1.1.2, hk.2⟩⟩)⟩, ⟨by (with_reducible repeat (first | apply Kd.S_alloc | apply Kd.S_drewN | apply Kd.S_drew)); exact Kd.S_mono HO363.out (fun _ hk => ⟨hk.1.1.1.1.2, ⟨hk.1.1.2, hk.2⟩⟩)⟩, ⟨by (with_reducible repeat (first | apply Kd.S_alloc | apply Kd.S_drewN | apply Kd.S_drew)); exact Kd.S_mono HO370.out (fun _ hk => ⟨hk.1.1.1.1.2, ⟨hk.1.1.1.2, hk.2⟩⟩)⟩, ⟨by (with_reducible repeat (first | apply Kd.S_alloc | apply Kd.S_drewN | apply Kd.S_drew)); exact Kd.S_mono HO377.out (fun _ hk => ⟨hk.1.1.1.1.2, ⟨hk.1.1.1.2, hk.1.2⟩⟩)⟩, ⟨by repeat (first | (with_reducible first | exact HB.out | apply below_alloc | apply pw_below_drewN | apply below_drew1) | exact HB.out)⟩⟩
              · rw [if_neg c31] at H
                have c31b0 : (t368 == 0) = false := beq_eq_false_iff_ne.mpr c31
                have c31b1 : (t368 != 0) = true := bne_iff_ne.mpr c31
                have H' := Aside0.mk H
                clear H
                go_wp2
                repeat (go_quiet (fail); try go_wp2)
                go_meet
                case rel => exact ⟨_, (true), (by first | rfl | (simp; done) | (simp [*]; done)), H', ⟨by have := HJ3.out; first | omega | exact Nat.le_refl _⟩, ⟨by (with_reducible repeat (first | apply Kd.S_alloc | apply Kd.S_drewN | apply Kd.S_drew)); exact Kd.S_mono HO359.out (fun _ hk => ⟨hk.1.1.1.1.2, ⟨hk.1.1.2, hk.2⟩⟩)⟩, ⟨by (with_reducible repeat (first | apply Kd.S_alloc | apply Kd.S_drewN | apply Kd.S_drew)); exact Kd.S_mono HO363.out (fun _ hk => ⟨hk.1.1.1.1.2, ⟨hk.1.1.2, hk.2⟩⟩)⟩, ⟨by (with_reducible repeat (first | apply Kd.S_alloc | apply Kd.S_drewN | apply Kd.S_drew)); exact Kd.S_mono HO370.out (fun _ hk => ⟨hk.1.1.1.1.2, ⟨hk.1.1.1.2, hk.2⟩⟩)⟩, ⟨by (with_reducible repeat (first | apply Kd.S_alloc | apply Kd.S_drewN | apply Kd.S_drew)); exact Kd.S_mono HO377.out (fun _ hk => ⟨hk.1.1.1.1.2, ⟨hk.1.1.1.2, hk.1.2⟩⟩)⟩, ⟨by repeat (first | (with_reducible first | exact HB.out | apply below_alloc | apply pw_below_drewN | apply below_drew1) | exact HB.out)⟩⟩
            · rw [if_neg c30] at H
              have c30b0 : (t361 == 0) = false := beq_eq_false_iff_ne.mpr c30
              have c30b1 : (t361 != 0) = true := bne_iff_ne.mpr c30
              have H' := Aside0.mk H
              clear H
              go_wp2
              repeat (go_quiet (fail); try go_wp2)
              go_meet
              case rel => exact ⟨_, (true), (by first | rfl | (simp; done) | (simp [*]; done)), H', ⟨by have := HJ3.out; first | omega | exact Nat.le_refl _⟩, ⟨by (with_reducible repeat (first | apply Kd.S_alloc | apply Kd.S_drewN | apply Kd.S_drew)); exact Kd.S_mono HO359.out (fun _ hk => ⟨hk.1.1.1.1.2, ⟨hk.1.1.2, hk.2⟩⟩)⟩, ⟨by (with_reducible repeat (first | apply Kd.S_alloc | apply Kd.S_drewN | apply Kd.S_drew)); exact Kd.S_mono HO363.out (fun _ hk => ⟨hk.1.1.1.1.2, ⟨hk.1.1.2, hk.2⟩⟩)⟩, ⟨by (with_reducible repeat (first | apply Kd.S_alloc | apply Kd.S_drewN | apply Kd.S_drew)); exact Kd.S_mono HO370.out (fun _ hk => ⟨hk.1.1.1.1.2, ⟨hk.1.1.1.2, hk.2⟩⟩)⟩, ⟨by (with_reducible repeat (first | apply Kd.S_alloc | apply Kd.S_drewN | apply Kd.S_drew)); exact Kd.S_mono HO377.out (fun _ hk => ⟨hk.1.1.1.1.2, ⟨hk.1.1.1.2, hk.1.2⟩⟩)⟩, ⟨by repeat (first | (with_reducible first | exact HB.out | apply below_alloc | apply pw_below_drewN | apply below_drew1) | exact HB.out)⟩⟩
          · rw [if_neg c29] at H
            have c29b0 : (t357 == 0) = false := beq_eq_false_iff_ne.mpr c29
            have c29b1 : (t357 != 0) = true := bne_iff_ne.mpr c29
            (first | rw [c29b0] | (simp only [i64_w, i32_w]; rw [c29b0]) | skip)
            have H' := Aside0.mk H
            clear H
            go_wp2
            repeat (go_quiet (fail); try go_wp2)
            go_meet
            case rel => exact ⟨_, (true), (by first | rfl | (simp; done) | (simp [*]; done)), H', ⟨by have := HJ3.out; first | omega | exact Nat.le_refl _⟩, ⟨by (with_reducible repeat (first | apply Kd.S_alloc | apply Kd.S_drewN | apply Kd.S_drew)); exact Kd.S_mono HO359.out (fun _ hk => ⟨hk.1.1.1.1.2, ⟨hk.1.1.2, hk.2⟩⟩)⟩, ⟨by (with_reducible repeat (first | apply Kd.S_alloc | apply Kd.S_drewN | apply Kd.S_drew)); exact Kd.S_mono HO363.out (fun _ hk => ⟨hk.1.1.1.1.2, ⟨hk.1.1.2, hk.2⟩⟩)⟩, ⟨by (with_reducible repeat (first | apply Kd.S_alloc | apply Kd.S_drewN | apply Kd.S_drew)); exact Kd.S_mono HO370.out (fun _ hk => ⟨hk.1.1.1.1.2, ⟨hk.1.1.1.2, hk.2⟩⟩)⟩, ⟨by (with_reducible repeat (first | apply Kd.S_alloc | apply Kd.S_drewN | apply Kd.S_drew)); exact Kd.S_mono HO377.out (fun _ hk => ⟨hk.1.1.1.1.2, ⟨hk.1.1.1.2, hk.1.2⟩⟩)⟩, ⟨by repeat (first | (with_reducible first | exact HB.out | apply below_alloc | apply pw_below_drewN | apply below_drew1) | exact HB.out)⟩⟩
        case rest =>
          clear HC20
          (try clear c1); (try clear c2); (try clear p2); (try clear c3); (try clear p3); (try clear q3); (try clear hx3); (try clear qi3); (try clear c6); (try clear c7); (try clear c9); (try clear c10); (try clear c10b0); (try clear c10b1); (try clear c10b2); (try clear c11); (try clear c11b0); (try clear c11b1); (try clear c12); (try clear c12b0); (try clear c12b1); (try clear c13); (try clear c29); (try clear c29b0); (try clear c29b1); (try clear c30); (try clear c30b0); (try clear c30b1); (try clear c31); (try clear c31b0); (try clear c31b1); (try clear c32); (try clear c32b0); (try clear c32b1); (try clear c33); (try clear c33b0); (try clear c33b1); (try clear c33b2); (try clear c35); (try clear p35); (try clear q35); (try clear hx35); (try clear qi35); (try clear hx354_0); (try clear hx355_0); (try clear p2); (try clear p3); (try clear p354); (try clear p355); (try clear q3); (try clear q354); (try clear q355)
          obtain ⟨kq, x95_19, rfl, HA, HJ19, HO_6, HO_8, HO_10, HO_12, HB⟩ := hcut
          cases kq with
          | zero => exact absurd HA.out (by simp [seamarklaw29_ErasureLinear.j1])
          | succ kj19 =>
            have H := HA.out
            clear HA
            simp only [seamarklaw29_ErasureLinear.j1] at H
            by_cases c39 : x95_19 = true
            · subst c39
              have H1 : (none) = some r := by rw [if_pos rfl] at H; exact H
              clear H
              have H := H1
              clear H1
              exact absurd H (by simp)
            · replace c39 := Bool.eq_false_iff.mpr c39
              subst c39
              have H1 : (seamarklaw29_ErasureLinear.l0 kj19 l0 t351 t356 t360 t367 t374 0) = some r := by rw [if_neg (show ¬ (false = true) by decide)] at H; exact H
              clear H
              have H := H1
              clear H1
              have H' := Aside0.mk H
              clear H
              go_wp2
              repeat (go_quiet (fail); try go_wp2)
              go_loopg [5, 14] kj19 (fun kq v5 v14 w' => ∃ (x5_3 : Bool) (x14_3 : Int), v5 = .bool x5_3 ∧ v14 = .int .i64 x14_3 ∧ Aside0 (seamarklaw29_ErasureLinear.l0 kq l0 x5_3 t356 t360 t367 t374 x14_3 = some r) ∧ Aside0 (kq ≤ kj19) ∧ Aside0 (Kd.S (Kd.slice 5 (Kd.int .u8)) 29 w' w.heap.size (fun k_ => some k_ ≠ (v362 : Value).ownBlock ∧ some k_ ≠ (v369 : Value).ownBlock ∧ some k_ ≠ (v376 : Value).ownBlock) v358 t356) ∧ Aside0 (Kd.S (Kd.slice 5 (Kd.int .u8)) 29 w' w.heap.size (fun k_ => some k_ ≠ (v358 : Value).ownBlock ∧ some k_ ≠ (v369 : Value).ownBlock ∧ some k_ ≠ (v376 : Value).ownBlock) v362 t360) ∧ Aside0 (Kd.S (Kd.slice 5 (Kd.int .u8)) 29 w' w.heap.size (fun k_ => some k_ ≠ (v358 : Value).ownBlock ∧ some k_ ≠ (v362 : Value).ownBlock ∧ some k_ ≠ (v376 : Value).ownBlock) v369 t367) ∧ Aside0 (Kd.S (Kd.slice 5 (Kd.int .u8)) 29 w' w.heap.size (fun k_ => some k_ ≠ (v358 : Value).ownBlock ∧ some k_ ≠ (v362 : Value).ownBlock ∧ some k_ ≠ (v369 : Value).ownBlock) v376 t374) ∧ Aside0 (Below w.heap.size w w'))
              case atStart => exact ⟨(t351), (0), (by first | rfl | (simp; done) | (simp [*]; done)), (by first | rfl | (simp; done) | (simp [*]; done)), H', ⟨Nat.le_refl _⟩, ⟨by (with_reducible repeat (first | apply Kd.S_alloc | apply Kd.S_drewN | apply Kd.S_drew)); exact HO_6.out⟩, ⟨by (with_reducible repeat (first | apply Kd.S_alloc | apply Kd.S_drewN | apply Kd.S_drew)); exact HO_8.out⟩, ⟨by (with_reducible repeat (first | apply Kd.S_alloc | apply Kd.S_drewN | apply Kd.S_drew)); exact HO_10.out⟩, ⟨by (with_reducible repeat (first | apply Kd.S_alloc | apply Kd.S_drewN | apply Kd.S_drew)); exact HO_12.out⟩, ⟨by repeat (first | (with_reducible first | exact HB.out | apply below_alloc | apply pw_below_drewN | apply below_drew1) | exact HB.out)⟩⟩
              case round =>
                clear H'
                (try clear c1); (try clear c2); (try clear p2); (try clear c3); (try clear p3); (try clear q3); (try clear hx3); (try clear qi3); (try clear c6); (try clear c7); (try clear c9); (try clear c10); (try clear c10b0); (try clear c10b1); (try clear c10b2); (try clear c11); (try clear c11b0); (try clear c11b1); (try clear c12); (try clear c12b0); (try clear c12b1); (try clear c13); (try clear c29); (try clear c29b0); (try clear c29b1); (try clear c30); (try clear c30b0); (try clear c30b1); (try clear c31); (try clear c31b0); (try clear c31b1); (try clear c32); (try clear c32b0); (try clear c32b1); (try clear c33); (try clear c33b0); (try clear c33b1); (try clear c33b2); (try clear c35); (try clear p35); (try clear q35); (try clear hx35); (try clear qi35); (try clear c39); (try clear hx354_0); (try clear hx355_0); (try clear p2); (try clear p3); (try clear p35); (try clear p354); (try clear p355); (try clear q3); (try clear q35); (try clear q354); (try clear q355)
                obtain ⟨x5_3, x14_3, rfl, rfl, HA, HK3, HO_6, HO_8, HO_10, HO_12, HB⟩ := hrel
                cases gk with
                | zero => exact absurd HA.out (by simp [seamarklaw29_ErasureLinear.l0])
                | succ k3 =>
                  have H := HA.out
                  clear HA
                  simp only [seamarklaw29_ErasureLinear.l0] at H
                  by_cases c40 : x14_3 < (t356.length : Int)
                  · rw [if_pos c40] at H
                    have c40b0 : decide (x14_3 < (t356.length : Int)) = true := decide_eq_true c40
                    clear c40
                    have HC41 := Aside0.mk H
                    clear H
                    obtain ⟨Ao42, co42, eo42⟩ := Kd.S_slice HO_6.out
                    subst eo42
                    go_upto_region 13 with (fail)
                    repeat (go_quiet (fail); go_upto_region 13 with (fail))
                    go_cut [135] (fun v135 wc => ∃ (kq : Nat) (x135_40 : Bool), v135 = .bool x135_40 ∧ Aside0 (seamarklaw29_ErasureLinear.j3 kq l0 x5_3 t356 t360 t367 t374 x14_3 x135_40 = some r) ∧ Aside0 (kq ≤ k3) ∧ Aside0 (Kd.S (Kd.slice 5 (Kd.int .u8)) 29 wc w.heap.size (fun k_ => some k_ ≠ (v362 : Value).ownBlock ∧ some k_ ≠ (v369 : Value).ownBlock ∧ some k_ ≠ (v376 : Value).ownBlock) (.slice Ao42 t356.length co42) t356) ∧ Aside0 (Kd.S (Kd.slice 5 (Kd.int .u8)) 29 wc w.heap.size (fun k_ => some k_ ≠ ((.slice Ao42 t356.length co42) : Value).ownBlock ∧ some k_ ≠ (v369 : Value).ownBlock ∧ some k_ ≠ (v376 : Value).ownBlock) v362 t360) ∧ Aside0 (Kd.S (Kd.slice 5 (Kd.int .u8)) 29 wc w.heap.size (fun k_ => some k_ ≠ ((.slice Ao42 t356.length co42) : Value).ownBlock ∧ some k_ ≠ (v362 : Value).ownBlock ∧ some k_ ≠ (v376 : Value).ownBlock) v369 t367) ∧ Aside0 (Kd.S (Kd.slice 5 (Kd.int .u8)) 29 wc w.heap.size (fun k_ => some k_ ≠ ((.slice Ao42 t356.length co42) : Value).ownBlock ∧ some k_ ≠ (v362 : Value).ownBlock ∧ some k_ ≠ (v369 : Value).ownBlock) v376 t374) ∧ Aside0 (Below w.heap.size w wc))
                    case first =>
                      have H := HC41.out
                      clear HC41
                      by_cases c43 : 0 ≤ x14_3
                      · rw [if_pos c43] at H
                        have c43b0 : decide (0 ≤ x14_3) = true := decide_eq_true c43
                        clear c43
                        (first | rw [c43b0] | (simp only [i64_w, i32_w]; rw [c43b0]) | skip)
                        by_cases c44 : 0 < (l0.length : Int)
                        · rw [if_pos c44] at H
                          have c44b0 : decide (0 < (l0.length : Int)) = true := decide_eq_true c44
                          have c44b1 : decide (0 < l0.length) = true := decide_eq_true (by omega)
                          clear c44
                          by_cases c45 : ((rd_L1 t356 x14_3).length : Int) = ((rd_L1 l0 0).length : Int)
                          · rw [if_pos c45] at H
                            have c45b0 : (((rd_L1 t356 x14_3).length : Int) == ((rd_L1 l0 0).length : Int)) = true := beq_iff_eq.mpr c45
                            have c45b1 : (((rd_L1 t356 x14_3).length : Int) != ((rd_L1 l0 0).length : Int)) = false := bne_eq_false_iff_eq.mpr c45
                            have c45b2 : ((rd_L1 t356 x14_3).length == (rd_L1 l0 0).length) = true := by first | simpa using c45 | (simp at c45 ⊢; omega)
                            clear c45
                            by_cases c46 : x14_3 < (t360.length : Int)
                            · rw [if_pos c46] at H
                              have c46b0 : decide (x14_3 < (t360.length : Int)) = true := decide_eq_true c46
                              clear c46
                              by_cases c47 : ((rd_L1 t360 x14_3).length : Int) = ((rd_L1 l0 0).length : Int)
                              · rw [if_pos c47] at H
                                have c47b0 : (((rd_L1 t360 x14_3).length : Int) == ((rd_L1 l0 0).length : Int)) = true := beq_iff_eq.mpr c47
                                have c47b1 : (((rd_L1 t360 x14_3).length : Int) != ((rd_L1 l0 0).length : Int)) = false := bne_eq_false_iff_eq.mpr c47
                                have c47b2 : ((rd_L1 t360 x14_3).length == (rd_L1 l0 0).length) = true := by first | simpa using c47 | (simp at c47 ⊢; omega)
                                clear c47
                                by_cases c48 : x14_3 < (t374.length : Int)
                                · rw [if_pos c48] at H
                                  have c48b0 : decide (x14_3 < (t374.length : Int)) = true := decide_eq_true c48
                                  clear c48
                                  have H' := Aside0.mk H
                                  clear H
                                  have p382 : 0 ≤ (x14_3 : Int) := of_decide_eq_true (by first | (with_reducible assumption) | assumption)
                                  have q382 : x14_3 < (t356.length : Int) := of_decide_eq_true (by first | (with_reducible assumption) | assumption)
                                  obtain ⟨ad382, A382_0, c382_0, e382, hx382_0, hl382_0, hi382_0⟩ := at_L1 (Kd.S_reads' HO_6.out).2.2 x14_3 p382 q382
                                  cases e382
                                  obtain ⟨ce382, hce382, hMe382, hcc382⟩ := Kd.S_get HO_6.out [] x14_3 p382 (by first | exact q382 | exact of_decide_eq_true (by first | (with_reducible assumption) | assumption) | (have e_ := (Kd.S_reads' HO_6.out).1; omega))
                                  obtain ⟨ve382_0, rfl, ge382_0⟩ := hMe382
                                  have hv382_0 := hcc382 0 _ rfl
                                  rw [Nat.add_zero, show ((Kd.slice 5 (Kd.int .u8))).sz = 1 from rfl, Nat.mul_one] at hv382_0
                                  replace hv382_0 := Option.some.inj (hv382_0.symm.trans hx382_0)
                                  rw [hv382_0] at ge382_0
                                  have HL382_0 := Aside0.mk (show Kd.R (Kd.int .u8) 5 _ _ _ _ (rd_L1 t356 x14_3) from ge382_0)
                                  clear hv382_0 ge382_0
                                  clear hcc382 hce382
                                  have HR382_0 := Aside0.mk hi382_0
                                  have HC382_0 := Aside0.mk hl382_0
                                  clear hi382_0 hl382_0
                                  replace p382 := eq_true p382
                                  replace q382 := eq_true q382
                                  have p383 : 0 ≤ (0 : Int) := (by omega)
                                  have q383 : 0 < (l0.length : Int) := of_decide_eq_true (by first | (with_reducible assumption) | assumption)
                                  obtain ⟨ad383, A383_0, c383_0, e383, hx383_0, hl383_0, hi383_0⟩ := at_L1 HR0.out 0 p383 q383
                                  cases e383
                                  have qi383 : (0 < l0.length) = True := eq_true (by omega)
                                  (try rw [show ((0 : Int)).toNat = 0 from rfl] at hx383_0)
                                  (try rw [Addr.add_zero'] at hx383_0)
                                  replace hx383_0 := (HB.out.cell (World.block_lt_of_cell? w _ hx383_0)).trans hx383_0
                                  have HR383_0 := Aside0.mk hi383_0
                                  have HC383_0 := Aside0.mk hl383_0
                                  clear hi383_0 hl383_0
                                  replace p383 := eq_true p383
                                  replace q383 := eq_true q383
                                  obtain ⟨Ao49, co49, eo49⟩ := Kd.S_slice HO_8.out
                                  subst eo49
                                  have p384 : 0 ≤ (x14_3 : Int) := of_decide_eq_true (by first | (with_reducible assumption) | assumption)
                                  have q384 : x14_3 < (t360.length : Int) := of_decide_eq_true (by first | (with_reducible assumption) | assumption)
                                  obtain ⟨ad384, A384_0, c384_0, e384, hx384_0, hl384_0, hi384_0⟩ := at_L1 (Kd.S_reads' HO_8.out).2.2 x14_3 p384 q384
                                  cases e384
                                  obtain ⟨ce384, hce384, hMe384, hcc384⟩ := Kd.S_get HO_8.out [] x14_3 p384 (by first | exact q384 | exact of_decide_eq_true (by first | (with_reducible assumption) | assumption) | (have e_ := (Kd.S_reads' HO_8.out).1; omega))
                                  obtain ⟨ve384_0, rfl, ge384_0⟩ := hMe384
                                  have hv384_0 := hcc384 0 _ rfl
                                  rw [Nat.add_zero, show ((Kd.slice 5 (Kd.int .u8))).sz = 1 from rfl, Nat.mul_one] at hv384_0
                                  replace hv384_0 := Option.some.inj (hv384_0.symm.trans hx384_0)
                                  rw [hv384_0] at ge384_0
                                  have HL384_0 := Aside0.mk (show Kd.R (Kd.int .u8) 5 _ _ _ _ (rd_L1 t360 x14_3) from ge384_0)
                                  clear hv384_0 ge384_0
                                  clear hcc384 hce384
                                  have HR384_0 := Aside0.mk hi384_0
                                  have HC384_0 := Aside0.mk hl384_0
                                  clear hi384_0 hl384_0
                                  replace p384 := eq_true p384
                                  replace q384 := eq_true q384
                                  have p385 : 0 ≤ (0 : Int) := (by omega)
                                  have q385 : 0 < (l0.length : Int) := of_decide_eq_true (by first | (with_reducible assumption) | assumption)
                                  obtain ⟨ad385, A385_0, c385_0, e385, hx385_0, hl385_0, hi385_0⟩ := at_L1 HR0.out 0 p385 q385
                                  obtain rfl : ad383 = ad385 := (by injection e385)
                                  have qi385 : (0 < l0.length) = True := eq_true (by omega)
                                  (try rw [show ((0 : Int)).toNat = 0 from rfl] at hx385_0)
                                  (try rw [Addr.add_zero'] at hx385_0)
                                  replace hx385_0 := (HB.out.cell (World.block_lt_of_cell? w _ hx385_0)).trans hx385_0
                                  have HR385_0 := Aside0.mk hi385_0
                                  have HC385_0 := Aside0.mk hl385_0
                                  clear hi385_0 hl385_0
                                  replace p385 := eq_true p385
                                  replace q385 := eq_true q385
                                  have ea_ := Option.some.inj (hx383_0.symm.trans hx385_0)
                                  injection ea_ with ea_ en_ ec_
                                  subst ea_
                                  subst ec_
                                  clear en_
                                  obtain ⟨Ao50, co50, eo50⟩ := Kd.S_slice HO_12.out
                                  subst eo50
                                  have p386 : 0 ≤ (x14_3 : Int) := of_decide_eq_true (by first | (with_reducible assumption) | assumption)
                                  have q386 : x14_3 < (t374.length : Int) := of_decide_eq_true (by first | (with_reducible assumption) | assumption)
                                  obtain ⟨ad386, A386_0, c386_0, e386, hx386_0, hl386_0, hi386_0⟩ := at_L1 (Kd.S_reads' HO_12.out).2.2 x14_3 p386 q386
                                  cases e386
                                  obtain ⟨ce386, hce386, hMe386, hcc386⟩ := Kd.S_get HO_12.out [] x14_3 p386 (by first | exact q386 | exact of_decide_eq_true (by first | (with_reducible assumption) | assumption) | (have e_ := (Kd.S_reads' HO_12.out).1; omega))
                                  obtain ⟨ve386_0, rfl, ge386_0⟩ := hMe386
                                  have hv386_0 := hcc386 0 _ rfl
                                  rw [Nat.add_zero, show ((Kd.slice 5 (Kd.int .u8))).sz = 1 from rfl, Nat.mul_one] at hv386_0
                                  replace hv386_0 := Option.some.inj (hv386_0.symm.trans hx386_0)
                                  rw [hv386_0] at ge386_0
                                  have HL386_0 := Aside0.mk (show Kd.R (Kd.int .u8) 5 _ _ _ _ (rd_L1 t374 x14_3) from ge386_0)
                                  clear hv386_0 ge386_0
                                  clear hcc386 hce386
                                  have HR386_0 := Aside0.mk hi386_0
                                  have HC386_0 := Aside0.mk hl386_0
                                  clear hi386_0 hl386_0
                                  replace p386 := eq_true p386
                                  replace q386 := eq_true q386
                                  have p387 : 0 ≤ (0 : Int) := (by omega)
                                  have q387 : 0 < (l0.length : Int) := of_decide_eq_true (by first | (with_reducible assumption) | assumption)
                                  obtain ⟨ad387, A387_0, c387_0, e387, hx387_0, hl387_0, hi387_0⟩ := at_L1 HR0.out 0 p387 q387
                                  obtain rfl : ad383 = ad387 := (by injection e387)
                                  have qi387 : (0 < l0.length) = True := eq_true (by omega)
                                  (try rw [show ((0 : Int)).toNat = 0 from rfl] at hx387_0)
                                  (try rw [Addr.add_zero'] at hx387_0)
                                  replace hx387_0 := (HB.out.cell (World.block_lt_of_cell? w _ hx387_0)).trans hx387_0
                                  have HR387_0 := Aside0.mk hi387_0
                                  have HC387_0 := Aside0.mk hl387_0
                                  clear hi387_0 hl387_0
                                  replace p387 := eq_true p387
                                  replace q387 := eq_true q387
                                  have ea_ := Option.some.inj (hx383_0.symm.trans hx387_0)
                                  injection ea_ with ea_ en_ ec_
                                  subst ea_
                                  subst ec_
                                  clear en_
                                  go_wp2
                                  repeat (go_quiet (fail); try go_wp2)
                                  go_meet
                                  case rel => exact ⟨_, ((((rd_L1 t374 x14_3).length : Int) != ((rd_L1 l0 0).length : Int))), (by first | rfl | (simp; done) | (simp [*]; done)), H', ⟨by have := HJ3.out; have := HJ19.out; have := HK3.out; first | omega | exact Nat.le_refl _⟩, ⟨by (with_reducible repeat (first | apply Kd.S_alloc | apply Kd.S_drewN | apply Kd.S_drew)); exact HO_6.out⟩, ⟨by (with_reducible repeat (first | apply Kd.S_alloc | apply Kd.S_drewN | apply Kd.S_drew)); exact HO_8.out⟩, ⟨by (with_reducible repeat (first | apply Kd.S_alloc | apply Kd.S_drewN | apply Kd.S_drew)); exact HO_10.out⟩, ⟨by (with_reducible repeat (first | apply Kd.S_alloc | apply Kd.S_drewN | apply Kd.S_drew)); exact HO_12.out⟩, ⟨by repeat (first | (with_reducible first | exact HB.out | apply below_alloc | apply pw_below_drewN | apply below_drew1) | exact HB.out)⟩⟩
                                · rw [if_neg c48] at H
                                  exact absurd H (by simp)
                              · rw [if_neg c47] at H
                                have c47b0 : (((rd_L1 t360 x14_3).length : Int) == ((rd_L1 l0 0).length : Int)) = false := beq_eq_false_iff_ne.mpr c47
                                have c47b1 : (((rd_L1 t360 x14_3).length : Int) != ((rd_L1 l0 0).length : Int)) = true := bne_iff_ne.mpr c47
                                have c47b2 : ((rd_L1 t360 x14_3).length == (rd_L1 l0 0).length) = false := by first | simpa using c47 | (simp at c47 ⊢; omega)
                                have H' := Aside0.mk H
                                clear H
                                have p382 : 0 ≤ (x14_3 : Int) := of_decide_eq_true (by first | (with_reducible assumption) | assumption)
                                have q382 : x14_3 < (t356.length : Int) := of_decide_eq_true (by first | (with_reducible assumption) | assumption)
                                obtain ⟨ad382, A382_0, c382_0, e382, hx382_0, hl382_0, hi382_0⟩ := at_L1 (Kd.S_reads' HO_6.out).2.2 x14_3 p382 q382
                                cases e382
                                obtain ⟨ce382, hce382, hMe382, hcc382⟩ := Kd.S_get HO_6.out [] x14_3 p382 (by first | exact q382 | exact of_decide_eq_true (by first | (with_reducible assumption) | assumption) | (have e_ := (Kd.S_reads' HO_6.out).1; omega))
                                obtain ⟨ve382_0, rfl, ge382_0⟩ := hMe382
                                have hv382_0 := hcc382 0 _ rfl
                                rw [Nat.add_zero, show ((Kd.slice 5 (Kd.int .u8))).sz = 1 from rfl, Nat.mul_one] at hv382_0
                                replace hv382_0 := Option.some.inj (hv382_0.symm.trans hx382_0)
                                rw [hv382_0] at ge382_0
                                have HL382_0 := Aside0.mk (show Kd.R (Kd.int .u8) 5 _ _ _ _ (rd_L1 t356 x14_3) from ge382_0)
                                clear hv382_0 ge382_0
                                clear hcc382 hce382
                                have HR382_0 := Aside0.mk hi382_0
                                have HC382_0 := Aside0.mk hl382_0
                                clear hi382_0 hl382_0
                                replace p382 := eq_true p382
                                replace q382 := eq_true q382
                                have p383 : 0 ≤ (0 : Int) := (by omega)
                                have q383 : 0 < (l0.length : Int) := of_decide_eq_true (by first | (with_reducible assumption) | assumption)
                                obtain ⟨ad383, A383_0, c383_0, e383, hx383_0, hl383_0, hi383_0⟩ := at_L1 HR0.out 0 p383 q383
                                cases e383
                                have qi383 : (0 < l0.length) = True := eq_true (by omega)
                                (try rw [show ((0 : Int)).toNat = 0 from rfl] at hx383_0)
                                (try rw [Addr.add_zero'] at hx383_0)
                                replace hx383_0 := (HB.out.cell (World.block_lt_of_cell? w _ hx383_0)).trans hx383_0
                                have HR383_0 := Aside0.mk hi383_0
                                have HC383_0 := Aside0.mk hl383_0
                                clear hi383_0 hl383_0
                                replace p383 := eq_true p383
                                replace q383 := eq_true q383
                                obtain ⟨Ao51, co51, eo51⟩ := Kd.S_slice HO_8.out
                                subst eo51
                                have p384 : 0 ≤ (x14_3 : Int) := of_decide_eq_true (by first | (with_reducible assumption) | assumption)
                                have q384 : x14_3 < (t360.length : Int) := of_decide_eq_true (by first | (with_reducible assumption) | assumption)
                                obtain ⟨ad384, A384_0, c384_0, e384, hx384_0, hl384_0, hi384_0⟩ := at_L1 (Kd.S_reads' HO_8.out).2.2 x14_3 p384 q384
                                cases e384
                                obtain ⟨ce384, hce384, hMe384, hcc384⟩ := Kd.S_get HO_8.out [] x14_3 p384 (by first | exact q384 | exact of_decide_eq_true (by first | (with_reducible assumption) | assumption) | (have e_ := (Kd.S_reads' HO_8.out).1; omega))
                                obtain ⟨ve384_0, rfl, ge384_0⟩ := hMe384
                                have hv384_0 := hcc384 0 _ rfl
                                rw [Nat.add_zero, show ((Kd.slice 5 (Kd.int .u8))).sz = 1 from rfl, Nat.mul_one] at hv384_0
                                replace hv384_0 := Option.some.inj (hv384_0.symm.trans hx384_0)
                                rw [hv384_0] at ge384_0
                                have HL384_0 := Aside0.mk (show Kd.R (Kd.int .u8) 5 _ _ _ _ (rd_L1 t360 x14_3) from ge384_0)
                                clear hv384_0 ge384_0
                                clear hcc384 hce384
                                have HR384_0 := Aside0.mk hi384_0
                                have HC384_0 := Aside0.mk hl384_0
                                clear hi384_0 hl384_0
                                replace p384 := eq_true p384
                                replace q384 := eq_true q384
                                have p385 : 0 ≤ (0 : Int) := (by omega)
                                have q385 : 0 < (l0.length : Int) := of_decide_eq_true (by first | (with_reducible assumption) | assumption)
                                obtain ⟨ad385, A385_0, c385_0, e385, hx385_0, hl385_0, hi385_0⟩ := at_L1 HR0.out 0 p385 q385
                                obtain rfl : ad383 = ad385 := (by injection e385)
                                have qi385 : (0 < l0.length) = True := eq_true (by omega)
                                (try rw [show ((0 : Int)).toNat = 0 from rfl] at hx385_0)
                                (try rw [Addr.add_zero'] at hx385_0)
                                replace hx385_0 := (HB.out.cell (World.block_lt_of_cell? w _ hx385_0)).trans hx385_0
                                have HR385_0 := Aside0.mk hi385_0
                                have HC385_0 := Aside0.mk hl385_0
                                clear hi385_0 hl385_0
                                replace p385 := eq_true p385
                                replace q385 := eq_true q385
                                have ea_ := Option.some.inj (hx383_0.symm.trans hx385_0)
                                injection ea_ with ea_ en_ ec_
                                subst ea_
                                subst ec_
                                clear en_
                                go_wp2
                                repeat (go_quiet (fail); try go_wp2)
                                go_meet
                                case rel => exact ⟨_, (true), (by first | rfl | (simp; done) | (simp [*]; done)), H', ⟨by have := HJ3.out; have := HJ19.out; have := HK3.out; first | omega | exact Nat.le_refl _⟩, ⟨by (with_reducible repeat (first | apply Kd.S_alloc | apply Kd.S_drewN | apply Kd.S_drew)); exact HO_6.out⟩, ⟨by (with_reducible repeat (first | apply Kd.S_alloc | apply Kd.S_drewN | apply Kd.S_drew)); exact HO_8.out⟩, ⟨by (with_reducible repeat (first | apply Kd.S_alloc | apply Kd.S_drewN | apply Kd.S_drew)); exact HO_10.out⟩, ⟨by (with_reducible repeat (first | apply Kd.S_alloc | apply Kd.S_drewN | apply Kd.S_drew)); exact HO_12.out⟩, ⟨by repeat (first | (with_reducible first | exact HB.out | apply below_alloc | apply pw_below_drewN | apply below_drew1) | exact HB.out)⟩⟩
                            · rw [if_neg c46] at H
                              exact absurd H (by simp)
                          · rw [if_neg c45] at H
                            have c45b0 : (((rd_L1 t356 x14_3).length : Int) == ((rd_L1 l0 0).length : Int)) = false := beq_eq_false_iff_ne.mpr c45
                            have c45b1 : (((rd_L1 t356 x14_3).length : Int) != ((rd_L1 l0 0).length : Int)) = true := bne_iff_ne.mpr c45
                            have c45b2 : ((rd_L1 t356 x14_3).length == (rd_L1 l0 0).length) = false := by first | simpa using c45 | (simp at c45 ⊢; omega)
                            have H' := Aside0.mk H
                            clear H
                            have p382 : 0 ≤ (x14_3 : Int) := of_decide_eq_true (by first | (with_reducible assumption) | assumption)
                            have q382 : x14_3 < (t356.length : Int) := of_decide_eq_true (by first | (with_reducible assumption) | assumption)
                            obtain ⟨ad382, A382_0, c382_0, e382, hx382_0, hl382_0, hi382_0⟩ := at_L1 (Kd.S_reads' HO_6.out).2.2 x14_3 p382 q382
                            cases e382
                            obtain ⟨ce382, hce382, hMe382, hcc382⟩ := Kd.S_get HO_6.out [] x14_3 p382 (by first | exact q382 | exact of_decide_eq_true (by first | (with_reducible assumption) | assumption) | (have e_ := (Kd.S_reads' HO_6.out).1; omega))
                            obtain ⟨ve382_0, rfl, ge382_0⟩ := hMe382
                            have hv382_0 := hcc382 0 _ rfl
                            rw [Nat.add_zero, show ((Kd.slice 5 (Kd.int .u8))).sz = 1 from rfl, Nat.mul_one] at hv382_0
                            replace hv382_0 := Option.some.inj (hv382_0.symm.trans hx382_0)
                            rw [hv382_0] at ge382_0
                            have HL382_0 := Aside0.mk (show Kd.R (Kd.int .u8) 5 _ _ _ _ (rd_L1 t356 x14_3) from ge382_0)
                            clear hv382_0 ge382_0
                            clear hcc382 hce382
                            have HR382_0 := Aside0.mk hi382_0
                            have HC382_0 := Aside0.mk hl382_0
                            clear hi382_0 hl382_0
                            replace p382 := eq_true p382
                            replace q382 := eq_true q382
                            have p383 : 0 ≤ (0 : Int) := (by omega)
                            have q383 : 0 < (l0.length : Int) := of_decide_eq_true (by first | (with_reducible assumption) | assumption)
                            obtain ⟨ad383, A383_0, c383_0, e383, hx383_0, hl383_0, hi383_0⟩ := at_L1 HR0.out 0 p383 q383
                            cases e383
                            have qi383 : (0 < l0.length) = True := eq_true (by omega)
                            (try rw [show ((0 : Int)).toNat = 0 from rfl] at hx383_0)
                            (try rw [Addr.add_zero'] at hx383_0)
                            replace hx383_0 := (HB.out.cell (World.block_lt_of_cell? w _ hx383_0)).trans hx383_0
                            have HR383_0 := Aside0.mk hi383_0
                            have HC383_0 := Aside0.mk hl383_0
                            clear hi383_0 hl383_0
                            replace p383 := eq_true p383
                            replace q383 := eq_true q383
                            go_wp2
                            repeat (go_quiet (fail); try go_wp2)
                            go_meet
                            case rel => exact ⟨_, (true), (by first | rfl | (simp; done) | (simp [*]; done)), H', ⟨by have := HJ3.out; have := HJ19.out; have := HK3.out; first | omega | exact Nat.le_refl _⟩, ⟨by (with_reducible repeat (first | apply Kd.S_alloc | apply Kd.S_drewN | apply Kd.S_drew)); exact HO_6.out⟩, ⟨by (with_reducible repeat (first | apply Kd.S_alloc | apply Kd.S_drewN | apply Kd.S_drew)); exact HO_8.out⟩, ⟨by (with_reducible repeat (first | apply Kd.S_alloc | apply Kd.S_drewN | apply Kd.S_drew)); exact HO_10.out⟩, ⟨by (with_reducible repeat (first | apply Kd.S_alloc | apply Kd.S_drewN | apply Kd.S_drew)); exact HO_12.out⟩, ⟨by repeat (first | (with_reducible first | exact HB.out | apply below_alloc | apply pw_below_drewN | apply below_drew1) | exact HB.out)⟩⟩
                        · rw [if_neg c44] at H
                          exact absurd H (by simp)
                      · rw [if_neg c43] at H
                        exact absurd H (by simp)
                    case rest =>
                      clear HC41
                      (try clear c1); (try clear c2); (try clear p2); (try clear c3); (try clear p3); (try clear q3); (try clear hx3); (try clear qi3); (try clear c4); (try clear c6); (try clear c7); (try clear c9); (try clear c10); (try clear c10b0); (try clear c10b1); (try clear c10b2); (try clear c11); (try clear c11b0); (try clear c11b1); (try clear c12); (try clear c12b0); (try clear c12b1); (try clear c13); (try clear c29); (try clear c29b0); (try clear c29b1); (try clear c30); (try clear c30b0); (try clear c30b1); (try clear c31); (try clear c31b0); (try clear c31b1); (try clear c32); (try clear c32b0); (try clear c32b1); (try clear c33); (try clear c33b0); (try clear c33b1); (try clear c33b2); (try clear c35); (try clear p35); (try clear q35); (try clear hx35); (try clear qi35); (try clear c38); (try clear p38); (try clear q38); (try clear hx38); (try clear qi38); (try clear c39); (try clear c40); (try clear c40b0); (try clear c43); (try clear c43b0); (try clear c44); (try clear c44b0); (try clear c44b1); (try clear c45); (try clear c45b0); (try clear c45b1); (try clear c45b2); (try clear c46); (try clear c46b0); (try clear c47); (try clear c47b0); (try clear c47b1); (try clear c47b2); (try clear c48); (try clear c48b0); (try clear hx354_0); (try clear hx355_0); (try clear hx382_0); (try clear hx383_0); (try clear hx384_0); (try clear hx385_0); (try clear hx386_0); (try clear hx387_0); (try clear p2); (try clear p3); (try clear p35); (try clear p354); (try clear p355); (try clear p382); (try clear p383); (try clear p384); (try clear p385); (try clear p386); (try clear p387); (try clear q3); (try clear q35); (try clear q354); (try clear q355); (try clear q382); (try clear q383); (try clear q384); (try clear q385); (try clear q386); (try clear q387)
                      obtain ⟨kq, x135_40, rfl, HA, HJ40, HO_6, HO_8, HO_10, HO_12, HB⟩ := hcut
                      cases kq with
                      | zero => exact absurd HA.out (by simp [seamarklaw29_ErasureLinear.j3])
                      | succ kj40 =>
                        have H := HA.out
                        clear HA
                        simp only [seamarklaw29_ErasureLinear.j3] at H
                        by_cases c52 : x135_40 = true
                        · subst c52
                          have H1 : (none) = some r := by rw [if_pos rfl] at H; exact H
                          clear H
                          have H := H1
                          clear H1
                          exact absurd H (by simp)
                        · replace c52 := Bool.eq_false_iff.mpr c52
                          subst c52
                          have H1 : (seamarklaw29_ErasureLinear.l1 kj40 l0 x5_3 t356 t360 t367 t374 x14_3 0) = some r := by rw [if_neg (show ¬ (false = true) by decide)] at H; exact H
                          clear H
                          have H := H1
                          clear H1
                          have H' := Aside0.mk H
                          clear H
                          go_wp2
                          repeat (go_quiet (fail); try go_wp2)
                          go_loopg [5, 15] kj40 (fun kq v5 v15 w' => ∃ (x5_5 : Bool) (x15_5 : Int), v5 = .bool x5_5 ∧ v15 = .int .i64 x15_5 ∧ Aside0 (seamarklaw29_ErasureLinear.l1 kq l0 x5_5 t356 t360 t367 t374 x14_3 x15_5 = some r) ∧ Aside0 (kq ≤ kj40) ∧ Aside0 (Kd.S (Kd.slice 5 (Kd.int .u8)) 29 w' w.heap.size (fun k_ => some k_ ≠ (v362 : Value).ownBlock ∧ some k_ ≠ (v369 : Value).ownBlock ∧ some k_ ≠ (v376 : Value).ownBlock) (.slice Ao42 t356.length co42) t356) ∧ Aside0 (Kd.S (Kd.slice 5 (Kd.int .u8)) 29 w' w.heap.size (fun k_ => some k_ ≠ ((.slice Ao42 t356.length co42) : Value).ownBlock ∧ some k_ ≠ (v369 : Value).ownBlock ∧ some k_ ≠ (v376 : Value).ownBlock) v362 t360) ∧ Aside0 (Kd.S (Kd.slice 5 (Kd.int .u8)) 29 w' w.heap.size (fun k_ => some k_ ≠ ((.slice Ao42 t356.length co42) : Value).ownBlock ∧ some k_ ≠ (v362 : Value).ownBlock ∧ some k_ ≠ (v376 : Value).ownBlock) v369 t367) ∧ Aside0 (Kd.S (Kd.slice 5 (Kd.int .u8)) 29 w' w.heap.size (fun k_ => some k_ ≠ ((.slice Ao42 t356.length co42) : Value).ownBlock ∧ some k_ ≠ (v362 : Value).ownBlock ∧ some k_ ≠ (v369 : Value).ownBlock) v376 t374) ∧ Aside0 (Below w.heap.size w w'))
                          case atStart => exact ⟨(x5_3), (0), (by first | rfl | (simp; done) | (simp [*]; done)), (by first | rfl | (simp; done) | (simp [*]; done)), H', ⟨Nat.le_refl _⟩, ⟨by (with_reducible repeat (first | apply Kd.S_alloc | apply Kd.S_drewN | apply Kd.S_drew)); exact HO_6.out⟩, ⟨by (with_reducible repeat (first | apply Kd.S_alloc | apply Kd.S_drewN | apply Kd.S_drew)); exact HO_8.out⟩, ⟨by (with_reducible repeat (first | apply Kd.S_alloc | apply Kd.S_drewN | apply Kd.S_drew)); exact HO_10.out⟩, ⟨by (with_reducible repeat (first | apply Kd.S_alloc | apply Kd.S_drewN | apply Kd.S_drew)); exact HO_12.out⟩, ⟨by repeat (first | (with_reducible first | exact HB.out | apply below_alloc | apply pw_below_drewN | apply below_drew1) | exact HB.out)⟩⟩
                          case round =>
                            clear H'
                            (try clear c1); (try clear c2); (try clear p2); (try clear c3); (try clear p3); (try clear q3); (try clear hx3); (try clear qi3); (try clear c4); (try clear c5); (try clear c6); (try clear c7); (try clear c9); (try clear c10); (try clear c10b0); (try clear c10b1); (try clear c10b2); (try clear c11); (try clear c11b0); (try clear c11b1); (try clear c12); (try clear c12b0); (try clear c12b1); (try clear c13); (try clear c29); (try clear c29b0); (try clear c29b1); (try clear c30); (try clear c30b0); (try clear c30b1); (try clear c31); (try clear c31b0); (try clear c31b1); (try clear c32); (try clear c32b0); (try clear c32b1); (try clear c33); (try clear c33b0); (try clear c33b1); (try clear c33b2); (try clear c35); (try clear p35); (try clear q35); (try clear hx35); (try clear qi35); (try clear c38); (try clear p38); (try clear q38); (try clear hx38); (try clear qi38); (try clear c39); (try clear c40); (try clear c40b0); (try clear c43); (try clear c43b0); (try clear c44); (try clear c44b0); (try clear c44b1); (try clear c45); (try clear c45b0); (try clear c45b1); (try clear c45b2); (try clear c46); (try clear c46b0); (try clear c47); (try clear c47b0); (try clear c47b1); (try clear c47b2); (try clear c48); (try clear c48b0); (try clear c52); (try clear hx354_0); (try clear hx355_0); (try clear hx382_0); (try clear hx383_0); (try clear hx384_0); (try clear hx385_0); (try clear hx386_0); (try clear hx387_0); (try clear p2); (try clear p3); (try clear p35); (try clear p354); (try clear p355); (try clear p38); (try clear p382); (try clear p383); (try clear p384); (try clear p385); (try clear p386); (try clear p387); (try clear q3); (try clear q35); (try clear q354); (try clear q355); (try clear q38); (try clear q382); (try clear q383); (try clear q384); (try clear q385); (try clear q386); (try clear q387)
                            obtain ⟨x5_5, x15_5, rfl, rfl, HA, HK5, HO_6, HO_8, HO_10, HO_12, HB⟩ := hrel
                            cases gk with
                            | zero => exact absurd HA.out (by simp [seamarklaw29_ErasureLinear.l1])
                            | succ k5 =>
                              have H := HA.out
                              clear HA
                              simp only [seamarklaw29_ErasureLinear.l1] at H
                              by_cases c53 : 0 ≤ x14_3
                              · rw [if_pos c53] at H
                                have c53b0 : decide (0 ≤ x14_3) = true := decide_eq_true c53
                                clear c53
                                by_cases c54 : x14_3 < (t374.length : Int)
                                · rw [if_pos c54] at H
                                  have c54b0 : decide (x14_3 < (t374.length : Int)) = true := decide_eq_true c54
                                  clear c54
                                  by_cases c55 : x15_5 < ((rd_L1 t374 x14_3).length : Int)
                                  · rw [if_pos c55] at H
                                    have c55b0 : decide (x15_5 < ((rd_L1 t374 x14_3).length : Int)) = true := decide_eq_true c55
                                    clear c55
                                    by_cases c56 : x5_5 = true
                                    · subst c56
                                      have H1 : (if 0 ≤ x15_5 then (seamarklaw29_ErasureLinear.l1 k5 l0 ((rd (rd_L1 t374 x14_3) x15_5) == 0) t356 t360 t367 t374 x14_3 (wrap64 (x15_5 + 1))) else (none)) = some r := by rw [if_pos rfl] at H; exact H
                                      clear H
                                      have H := H1
                                      clear H1
                                      by_cases c57 : 0 ≤ x15_5
                                      · rw [if_pos c57] at H
                                        have c57b0 : decide (0 ≤ x15_5) = true := decide_eq_true c57
                                        clear c57
                                        have H' := Aside0.mk H
                                        clear H
                                        obtain ⟨Ao58, co58, eo58⟩ := Kd.S_slice HO_12.out
                                        subst eo58
                                        have p388 : 0 ≤ (x14_3 : Int) := of_decide_eq_true (by first | (with_reducible assumption) | assumption)
                                        have q388 : x14_3 < (t374.length : Int) := of_decide_eq_true (by first | (with_reducible assumption) | assumption)
                                        obtain ⟨ad388, A388_0, c388_0, e388, hx388_0, hl388_0, hi388_0⟩ := at_L1 (Kd.S_reads' HO_12.out).2.2 x14_3 p388 q388
                                        cases e388
                                        obtain ⟨ce388, hce388, hMe388, hcc388⟩ := Kd.S_get HO_12.out [] x14_3 p388 (by first | exact q388 | exact of_decide_eq_true (by first | (with_reducible assumption) | assumption) | (have e_ := (Kd.S_reads' HO_12.out).1; omega))
                                        obtain ⟨ve388_0, rfl, ge388_0⟩ := hMe388
                                        have hv388_0 := hcc388 0 _ rfl
                                        rw [Nat.add_zero, show ((Kd.slice 5 (Kd.int .u8))).sz = 1 from rfl, Nat.mul_one] at hv388_0
                                        replace hv388_0 := Option.some.inj (hv388_0.symm.trans hx388_0)
                                        rw [hv388_0] at ge388_0
                                        have HL388_0 := Aside0.mk (show Kd.R (Kd.int .u8) 5 _ _ _ _ (rd_L1 t374 x14_3) from ge388_0)
                                        clear hv388_0 ge388_0
                                        clear hcc388 hce388
                                        have HR388_0 := Aside0.mk hi388_0
                                        have HC388_0 := Aside0.mk hl388_0
                                        clear hi388_0 hl388_0
                                        replace p388 := eq_true p388
                                        replace q388 := eq_true q388
                                        have p389 : 0 ≤ (x14_3 : Int) := of_decide_eq_true (by first | (with_reducible assumption) | assumption)
                                        have q389 : x14_3 < (t374.length : Int) := of_decide_eq_true (by first | (with_reducible assumption) | assumption)
                                        obtain ⟨ad389, A389_0, c389_0, e389, hx389_0, hl389_0, hi389_0⟩ := at_L1 (Kd.S_reads' HO_12.out).2.2 x14_3 p389 q389
                                        obtain rfl : ad388 = ad389 := (by injection e389)
                                        obtain ⟨ce389, hce389, hMe389, hcc389⟩ := Kd.S_get HO_12.out [] x14_3 p389 (by first | exact q389 | exact of_decide_eq_true (by first | (with_reducible assumption) | assumption) | (have e_ := (Kd.S_reads' HO_12.out).1; omega))
                                        obtain ⟨ve389_0, rfl, ge389_0⟩ := hMe389
                                        have hv389_0 := hcc389 0 _ rfl
                                        rw [Nat.add_zero, show ((Kd.slice 5 (Kd.int .u8))).sz = 1 from rfl, Nat.mul_one] at hv389_0
                                        replace hv389_0 := Option.some.inj (hv389_0.symm.trans hx389_0)
                                        rw [hv389_0] at ge389_0
                                        have HL389_0 := Aside0.mk (show Kd.R (Kd.int .u8) 5 _ _ _ _ (rd_L1 t374 x14_3) from ge389_0)
                                        clear hv389_0 ge389_0
                                        clear hcc389 hce389
                                        have HR389_0 := Aside0.mk hi389_0
                                        have HC389_0 := Aside0.mk hl389_0
                                        clear hi389_0 hl389_0
                                        replace p389 := eq_true p389
                                        replace q389 := eq_true q389
                                        have ea_ := Option.some.inj (hx388_0.symm.trans hx389_0)
                                        injection ea_ with ea_ en_ ec_
                                        subst ea_
                                        subst ec_
                                        clear en_
                                        have p390 : 0 ≤ (x15_5 : Int) := of_decide_eq_true (by first | (with_reducible assumption) | assumption)
                                        have q390 : x15_5 < ((rd_L1 t374 x14_3).length : Int) := of_decide_eq_true (by first | (with_reducible assumption) | assumption)
                                        obtain ⟨ad390, e390, hx390_0⟩ := Kd.at_int (by repeat (first | (with_reducible exact HR389_0.out) | (with_reducible refine Kd.C_alloc ?_ _) | (with_reducible refine Kd.C_drewN ?_ _) | (with_reducible refine Kd.C_drew ?_) | exact HR389_0.out)) x15_5 p390 q390
                                        cases e390
                                        replace p390 := eq_true p390
                                        replace q390 := eq_true q390
                                        go_wp2
                                        repeat (go_quiet (fail); try go_wp2)
                                        go_roundg k5
                                        case measure => have := HJ3.out; have := HJ19.out; have := HK3.out; have := HJ40.out; have := HK5.out; omega
                                        case rel => exact ⟨(((rd (rd_L1 t374 x14_3) x15_5) == 0)), (wrap64 (x15_5 + 1)), (by first | rfl | (simp; done) | (simp [*]; done)), (by first | rfl | (simp; done) | (simp [*]; done)), H', ⟨by have := HJ3.out; have := HJ19.out; have := HK3.out; have := HJ40.out; have := HK5.out; omega⟩, ⟨by (with_reducible repeat (first | apply Kd.S_alloc | apply Kd.S_drewN | apply Kd.S_drew)); exact HO_6.out⟩, ⟨by (with_reducible repeat (first | apply Kd.S_alloc | apply Kd.S_drewN | apply Kd.S_drew)); exact HO_8.out⟩, ⟨by (with_reducible repeat (first | apply Kd.S_alloc | apply Kd.S_drewN | apply Kd.S_drew)); exact HO_10.out⟩, ⟨by (with_reducible repeat (first | apply Kd.S_alloc | apply Kd.S_drewN | apply Kd.S_drew)); exact HO_12.out⟩, ⟨by repeat (first | (with_reducible first | exact HB.out | apply below_alloc | apply pw_below_drewN | apply below_drew1) | exact HB.out)⟩⟩
                                      · rw [if_neg c57] at H
                                        exact absurd H (by simp)
                                    · replace c56 := Bool.eq_false_iff.mpr c56
                                      subst c56
                                      have H1 : (seamarklaw29_ErasureLinear.l1 k5 l0 false t356 t360 t367 t374 x14_3 (wrap64 (x15_5 + 1))) = some r := by rw [if_neg (show ¬ (false = true) by decide)] at H; exact H
                                      clear H
                                      have H := H1
                                      clear H1
                                      have H' := Aside0.mk H
                                      clear H
                                      obtain ⟨Ao59, co59, eo59⟩ := Kd.S_slice HO_12.out
                                      subst eo59
                                      have p388 : 0 ≤ (x14_3 : Int) := of_decide_eq_true (by first | (with_reducible assumption) | assumption)
                                      have q388 : x14_3 < (t374.length : Int) := of_decide_eq_true (by first | (with_reducible assumption) | assumption)
                                      obtain ⟨ad388, A388_0, c388_0, e388, hx388_0, hl388_0, hi388_0⟩ := at_L1 (Kd.S_reads' HO_12.out).2.2 x14_3 p388 q388
                                      cases e388
                                      obtain ⟨ce388, hce388, hMe388, hcc388⟩ := Kd.S_get HO_12.out [] x14_3 p388 (by first | exact q388 | exact of_decide_eq_true (by first | (with_reducible assumption) | assumption) | (have e_ := (Kd.S_reads' HO_12.out).1; omega))
                                      obtain ⟨ve388_0, rfl, ge388_0⟩ := hMe388
                                      have hv388_0 := hcc388 0 _ rfl
                                      rw [Nat.add_zero, show ((Kd.slice 5 (Kd.int .u8))).sz = 1 from rfl, Nat.mul_one] at hv388_0
                                      replace hv388_0 := Option.some.inj (hv388_0.symm.trans hx388_0)
                                      rw [hv388_0] at ge388_0
                                      have HL388_0 := Aside0.mk (show Kd.R (Kd.int .u8) 5 _ _ _ _ (rd_L1 t374 x14_3) from ge388_0)
                                      clear hv388_0 ge388_0
                                      clear hcc388 hce388
                                      have HR388_0 := Aside0.mk hi388_0
                                      have HC388_0 := Aside0.mk hl388_0
                                      clear hi388_0 hl388_0
                                      replace p388 := eq_true p388
                                      replace q388 := eq_true q388
                                      go_wp2
                                      repeat (go_quiet (fail); try go_wp2)
                                      go_roundg k5
                                      case measure => have := HJ3.out; have := HJ19.out; have := HK3.out; have := HJ40.out; have := HK5.out; omega
                                      case rel => exact ⟨(false), (wrap64 (x15_5 + 1)), (by first | rfl | (simp; done) | (simp [*]; done)), (by first | rfl | (simp; done) | (simp [*]; done)), H', ⟨by have := HJ3.out; have := HJ19.out; have := HK3.out; have := HJ40.out; have := HK5.out; omega⟩, ⟨by (with_reducible repeat (first | apply Kd.S_alloc | apply Kd.S_drewN | apply Kd.S_drew)); exact HO_6.out⟩, ⟨by (with_reducible repeat (first | apply Kd.S_alloc | apply Kd.S_drewN | apply Kd.S_drew)); exact HO_8.out⟩, ⟨by (with_reducible repeat (first | apply Kd.S_alloc | apply Kd.S_drewN | apply Kd.S_drew)); exact HO_10.out⟩, ⟨by (with_reducible repeat (first | apply Kd.S_alloc | apply Kd.S_drewN | apply Kd.S_drew)); exact HO_12.out⟩, ⟨by repeat (first | (with_reducible first | exact HB.out | apply below_alloc | apply pw_below_drewN | apply below_drew1) | exact HB.out)⟩⟩
                                  · rw [if_neg c55] at H
                                    have c55b0 : decide (x15_5 < ((rd_L1 t374 x14_3).length : Int)) = false := decide_eq_false c55
                                    clear c55
                                    have H' := Aside0.mk H
                                    clear H
                                    obtain ⟨Ao60, co60, eo60⟩ := Kd.S_slice HO_12.out
                                    subst eo60
                                    have p388 : 0 ≤ (x14_3 : Int) := of_decide_eq_true (by first | (with_reducible assumption) | assumption)
                                    have q388 : x14_3 < (t374.length : Int) := of_decide_eq_true (by first | (with_reducible assumption) | assumption)
                                    obtain ⟨ad388, A388_0, c388_0, e388, hx388_0, hl388_0, hi388_0⟩ := at_L1 (Kd.S_reads' HO_12.out).2.2 x14_3 p388 q388
                                    cases e388
                                    obtain ⟨ce388, hce388, hMe388, hcc388⟩ := Kd.S_get HO_12.out [] x14_3 p388 (by first | exact q388 | exact of_decide_eq_true (by first | (with_reducible assumption) | assumption) | (have e_ := (Kd.S_reads' HO_12.out).1; omega))
                                    obtain ⟨ve388_0, rfl, ge388_0⟩ := hMe388
                                    have hv388_0 := hcc388 0 _ rfl
                                    rw [Nat.add_zero, show ((Kd.slice 5 (Kd.int .u8))).sz = 1 from rfl, Nat.mul_one] at hv388_0
                                    replace hv388_0 := Option.some.inj (hv388_0.symm.trans hx388_0)
                                    rw [hv388_0] at ge388_0
                                    have HL388_0 := Aside0.mk (show Kd.R (Kd.int .u8) 5 _ _ _ _ (rd_L1 t374 x14_3) from ge388_0)
                                    clear hv388_0 ge388_0
                                    clear hcc388 hce388
                                    have HR388_0 := Aside0.mk hi388_0
                                    have HC388_0 := Aside0.mk hl388_0
                                    clear hi388_0 hl388_0
                                    replace p388 := eq_true p388
                                    replace q388 := eq_true q388
                                    go_wp2
                                    repeat (go_quiet (fail); try go_wp2)
                                    go_roundg k5
                                    case measure => have := HJ3.out; have := HJ19.out; have := HK3.out; have := HJ40.out; have := HK5.out; omega
                                    case rel => exact ⟨(x5_5), (wrap64 (x14_3 + 1)), (by first | rfl | (simp; done) | (simp [*]; done)), (by first | rfl | (simp; done) | (simp [*]; done)), H', ⟨by have := HJ3.out; have := HJ19.out; have := HK3.out; have := HJ40.out; have := HK5.out; omega⟩, ⟨by (with_reducible repeat (first | apply Kd.S_alloc | apply Kd.S_drewN | apply Kd.S_drew)); exact HO_6.out⟩, ⟨by (with_reducible repeat (first | apply Kd.S_alloc | apply Kd.S_drewN | apply Kd.S_drew)); exact HO_8.out⟩, ⟨by (with_reducible repeat (first | apply Kd.S_alloc | apply Kd.S_drewN | apply Kd.S_drew)); exact HO_10.out⟩, ⟨by (with_reducible repeat (first | apply Kd.S_alloc | apply Kd.S_drewN | apply Kd.S_drew)); exact HO_12.out⟩, ⟨by repeat (first | (with_reducible first | exact HB.out | apply below_alloc | apply pw_below_drewN | apply below_drew1) | exact HB.out)⟩⟩
                                · rw [if_neg c54] at H
                                  exact absurd H (by simp)
                              · rw [if_neg c53] at H
                                exact absurd H (by simp)
                  · rw [if_neg c40] at H
                    have c40b0 : decide (x14_3 < (t356.length : Int)) = false := decide_eq_false c40
                    clear c40
                    by_cases c61 : x5_3 = true
                    · subst c61
                      have H1 : ((seamarklaw29_sums.f k3 t356 t360).bind fun t378 => ((seamarkref29_Same.f k3 t367 t378).bind fun t381 => (some t381))) = some r := by rw [if_pos rfl] at H; exact H
                      clear H
                      have H := H1
                      clear H1
                      replace H := Option.bind_eq_some_iff.mp H
                      obtain ⟨t378, A620, H⟩ := H
                      replace H : ((seamarkref29_Same.f k3 t367 t378).bind fun t381 => (some t381)) = some r := H
                      have A62 := Aside0.mk A620
                      clear A620
                      replace H := Option.bind_eq_some_iff.mp H
                      obtain ⟨t381, A630, H⟩ := H
                      replace H : (some t381) = some r := H
                      have A63 := Aside0.mk A630
                      clear A630
                      obtain rfl := Option.some.inj H
                      obtain ⟨Ao64, co64, eo64⟩ := Kd.S_slice HO_6.out
                      subst eo64
                      obtain ⟨Ao65, co65, eo65⟩ := Kd.S_slice HO_8.out
                      subst eo65
                      go_wp2_with (first | (go_at_call 21; (with_reducible refine (seamarklaw29_sums.calls k3 _ _ t356 _ _ t360 t378 _ ?side1 ?side2 ?side3 ?side4 A62.out).mono ?_); (case side1 => repeat (first | exact (Kd.S_reads' HO_6.out).2.2 | (with_reducible refine Kd.C_alloc ?_ _) | (with_reducible refine Kd.C_drewN ?_ _) | (with_reducible refine Kd.C_drew ?_))); (case side2 => exact (Kd.S_reads' HO_6.out).2.1); (case side3 => repeat (first | exact (Kd.S_reads' HO_8.out).2.2 | (with_reducible refine Kd.C_alloc ?_ _) | (with_reducible refine Kd.C_drewN ?_ _) | (with_reducible refine Kd.C_drew ?_))); (case side4 => exact (Kd.S_reads' HO_8.out).2.1); rintro e w66 ⟨v379, rfl, ho0, hb⟩; have n0_ := Aside0.mk (Kd.S_elder' (by (with_reducible repeat (first | apply Kd.S_alloc | apply Kd.S_drewN | apply Kd.S_drew)); exact HO_6.out) (Kd.S_base ho0) hb); have n1_ := Aside0.mk (Kd.S_elder' (by (with_reducible repeat (first | apply Kd.S_alloc | apply Kd.S_drewN | apply Kd.S_drew)); exact HO_8.out) (Kd.S_base ho0) hb); have n2_ := Aside0.mk (Kd.S_elder' (by (with_reducible repeat (first | apply Kd.S_alloc | apply Kd.S_drewN | apply Kd.S_drew)); exact HO_10.out) (Kd.S_base ho0) hb); have n3_ := Aside0.mk (Kd.S_elder' (by (with_reducible repeat (first | apply Kd.S_alloc | apply Kd.S_drewN | apply Kd.S_drew)); exact HO_12.out) (Kd.S_base ho0) hb); have n4_ := Aside0.mk (Kd.S_lower (Kd.S_new' (Kd.S_new' (Kd.S_new' (Kd.S_new' ho0 (Kd.S_lt (by (with_reducible repeat (first | apply Kd.S_alloc | apply Kd.S_drewN | apply Kd.S_drew)); exact HO_6.out))) (Kd.S_lt (by (with_reducible repeat (first | apply Kd.S_alloc | apply Kd.S_drewN | apply Kd.S_drew)); exact HO_8.out))) (Kd.S_lt (by (with_reducible repeat (first | apply Kd.S_alloc | apply Kd.S_drewN | apply Kd.S_drew)); exact HO_10.out))) (Kd.S_lt (by (with_reducible repeat (first | apply Kd.S_alloc | apply Kd.S_drewN | apply Kd.S_drew)); exact HO_12.out))) (below_size (by repeat (first | (with_reducible first | exact HB.out | apply below_alloc | apply pw_below_drewN | apply below_drew1) | exact HB.out)))); have n5_ := Aside0.mk (below_step (by repeat (first | (with_reducible first | exact HB.out | apply below_alloc | apply pw_below_drewN | apply below_drew1) | exact HB.out)) hb); clear HO_6; clear HO_8; clear HO_10; clear HO_12; clear HB; have HO_6 := n0_; have HO_8 := n1_; have HO_10 := n2_; have HO_12 := n3_; have HO380 := n4_; have HB := n5_; clear n0_ n1_ n2_ n3_ n4_ n5_; (try clear hb); (try clear hb2); (try clear hk); (try clear hi); (try clear ho0); obtain ⟨Ao67, co67, eo67⟩ := Kd.S_slice HO_10.out; subst eo67; obtain ⟨Ao68, co68, eo68⟩ := Kd.S_slice HO380.out; subst eo68) | (go_at_call 19; (with_reducible refine (seamarkref29_Same.calls k3 _ _ t367 _ _ t378 t381 _ ?side1 ?side2 ?side3 ?side4 A63.out).mono ?_); (case side1 => repeat (first | exact (Kd.S_reads' HO_10.out).2.2 | (with_reducible refine Kd.C_alloc ?_ _) | (with_reducible refine Kd.C_drewN ?_ _) | (with_reducible refine Kd.C_drew ?_))); (case side2 => exact (Kd.S_reads' HO_10.out).2.1); (case side3 => repeat (first | exact (Kd.S_reads' HO380.out).2.2 | (with_reducible refine Kd.C_alloc ?_ _) | (with_reducible refine Kd.C_drewN ?_ _) | (with_reducible refine Kd.C_drew ?_))); (case side4 => exact (Kd.S_reads' HO380.out).2.1); rintro e w' ⟨rfl, ⟨nd, rfl⟩⟩; (try first | exact ⟨rfl, _, World.drewN_drewN _ _ _⟩ | exact ⟨rfl, _, Eq.trans (World.drewN_drewN _ _ _) (congrArg (World.drewN _) (Nat.add_assoc _ _ _))⟩)))
                      repeat (go_quiet (first | (go_at_call 21; (with_reducible refine (seamarklaw29_sums.calls k3 _ _ t356 _ _ t360 t378 _ ?side1 ?side2 ?side3 ?side4 A62.out).mono ?_); (case side1 => repeat (first | exact (Kd.S_reads' HO_6.out).2.2 | (with_reducible refine Kd.C_alloc ?_ _) | (with_reducible refine Kd.C_drewN ?_ _) | (with_reducible refine Kd.C_drew ?_))); (case side2 => exact (Kd.S_reads' HO_6.out).2.1); (case side3 => repeat (first | exact (Kd.S_reads' HO_8.out).2.2 | (with_reducible refine Kd.C_alloc ?_ _) | (with_reducible refine Kd.C_drewN ?_ _) | (with_reducible refine Kd.C_drew ?_))); (case side4 => exact (Kd.S_reads' HO_8.out).2.1); rintro e w66 ⟨v379, rfl, ho0, hb⟩; have n0_ := Aside0.mk (Kd.S_elder' (by (with_reducible repeat (first | apply Kd.S_alloc | apply Kd.S_drewN | apply Kd.S_drew)); exact HO_6.out) (Kd.S_base ho0) hb); have n1_ := Aside0.mk (Kd.S_elder' (by (with_reducible repeat (first | apply Kd.S_alloc | apply Kd.S_drewN | apply Kd.S_drew)); exact HO_8.out) (Kd.S_base ho0) hb); have n2_ := Aside0.mk (Kd.S_elder' (by (with_reducible repeat (first | apply Kd.S_alloc | apply Kd.S_drewN | apply Kd.S_drew)); exact HO_10.out) (Kd.S_base ho0) hb); have n3_ := Aside0.mk (Kd.S_elder' (by (with_reducible repeat (first | apply Kd.S_alloc | apply Kd.S_drewN | apply Kd.S_drew)); exact HO_12.out) (Kd.S_base ho0) hb); have n4_ := Aside0.mk (Kd.S_lower (Kd.S_new' (Kd.S_new' (Kd.S_new' (Kd.S_new' ho0 (Kd.S_lt (by (with_reducible repeat (first | apply Kd.S_alloc | apply Kd.S_drewN | apply Kd.S_drew)); exact HO_6.out))) (Kd.S_lt (by (with_reducible repeat (first | apply Kd.S_alloc | apply Kd.S_drewN | apply Kd.S_drew)); exact HO_8.out))) (Kd.S_lt (by (with_reducible repeat (first | apply Kd.S_alloc | apply Kd.S_drewN | apply Kd.S_drew)); exact HO_10.out))) (Kd.S_lt (by (with_reducible repeat (first | apply Kd.S_alloc | apply Kd.S_drewN | apply Kd.S_drew)); exact HO_12.out))) (below_size (by repeat (first | (with_reducible first | exact HB.out | apply below_alloc | apply pw_below_drewN | apply below_drew1) | exact HB.out)))); have n5_ := Aside0.mk (below_step (by repeat (first | (with_reducible first | exact HB.out | apply below_alloc | apply pw_below_drewN | apply below_drew1) | exact HB.out)) hb); clear HO_6; clear HO_8; clear HO_10; clear HO_12; clear HB; have HO_6 := n0_; have HO_8 := n1_; have HO_10 := n2_; have HO_12 := n3_; have HO380 := n4_; have HB := n5_; clear n0_ n1_ n2_ n3_ n4_ n5_; (try clear hb); (try clear hb2); (try clear hk); (try clear hi); (try clear ho0); obtain ⟨Ao67, co67, eo67⟩ := Kd.S_slice HO_10.out; subst eo67; obtain ⟨Ao68, co68, eo68⟩ := Kd.S_slice HO380.out; subst eo68) | (go_at_call 19; (with_reducible refine (seamarkref29_Same.calls k3 _ _ t367 _ _ t378 t381 _ ?side1 ?side2 ?side3 ?side4 A63.out).mono ?_); (case side1 => repeat (first | exact (Kd.S_reads' HO_10.out).2.2 | (with_reducible refine Kd.C_alloc ?_ _) | (with_reducible refine Kd.C_drewN ?_ _) | (with_reducible refine Kd.C_drew ?_))); (case side2 => exact (Kd.S_reads' HO_10.out).2.1); (case side3 => repeat (first | exact (Kd.S_reads' HO380.out).2.2 | (with_reducible refine Kd.C_alloc ?_ _) | (with_reducible refine Kd.C_drewN ?_ _) | (with_reducible refine Kd.C_drew ?_))); (case side4 => exact (Kd.S_reads' HO380.out).2.1); rintro e w' ⟨rfl, ⟨nd, rfl⟩⟩; (try first | exact ⟨rfl, _, World.drewN_drewN _ _ _⟩ | exact ⟨rfl, _, Eq.trans (World.drewN_drewN _ _ _) (congrArg (World.drewN _) (Nat.add_assoc _ _ _))⟩))); try go_wp2_with (first | (go_at_call 21; (with_reducible refine (seamarklaw29_sums.calls k3 _ _ t356 _ _ t360 t378 _ ?side1 ?side2 ?side3 ?side4 A62.out).mono ?_); (case side1 => repeat (first | exact (Kd.S_reads' HO_6.out).2.2 | (with_reducible refine Kd.C_alloc ?_ _) | (with_reducible refine Kd.C_drewN ?_ _) | (with_reducible refine Kd.C_drew ?_))); (case side2 => exact (Kd.S_reads' HO_6.out).2.1); (case side3 => repeat (first | exact (Kd.S_reads' HO_8.out).2.2 | (with_reducible refine Kd.C_alloc ?_ _) | (with_reducible refine Kd.C_drewN ?_ _) | (with_reducible refine Kd.C_drew ?_))); (case side4 => exact (Kd.S_reads' HO_8.out).2.1); rintro e w66 ⟨v379, rfl, ho0, hb⟩; have n0_ := Aside0.mk (Kd.S_elder' (by (with_reducible repeat (first | apply Kd.S_alloc | apply Kd.S_drewN | apply Kd.S_drew)); exact HO_6.out) (Kd.S_base ho0) hb); have n1_ := Aside0.mk (Kd.S_elder' (by (with_reducible repeat (first | apply Kd.S_alloc | apply Kd.S_drewN | apply Kd.S_drew)); exact HO_8.out) (Kd.S_base ho0) hb); have n2_ := Aside0.mk (Kd.S_elder' (by (with_reducible repeat (first | apply Kd.S_alloc | apply Kd.S_drewN | apply Kd.S_drew)); exact HO_10.out) (Kd.S_base ho0) hb); have n3_ := Aside0.mk (Kd.S_elder' (by (with_reducible repeat (first | apply Kd.S_alloc | apply Kd.S_drewN | apply Kd.S_drew)); exact HO_12.out) (Kd.S_base ho0) hb); have n4_ := Aside0.mk (Kd.S_lower (Kd.S_new' (Kd.S_new' (Kd.S_new' (Kd.S_new' ho0 (Kd.S_lt (by (with_reducible repeat (first | apply Kd.S_alloc | apply Kd.S_drewN | apply Kd.S_drew)); exact HO_6.out))) (Kd.S_lt (by (with_reducible repeat (first | apply Kd.S_alloc | apply Kd.S_drewN | apply Kd.S_drew)); exact HO_8.out))) (Kd.S_lt (by (with_reducible repeat (first | apply Kd.S_alloc | apply Kd.S_drewN | apply Kd.S_drew)); exact HO_10.out))) (Kd.S_lt (by (with_reducible repeat (first | apply Kd.S_alloc | apply Kd.S_drewN | apply Kd.S_drew)); exact HO_12.out))) (below_size (by repeat (first | (with_reducible first | exact HB.out | apply below_alloc | apply pw_below_drewN | apply below_drew1) | exact HB.out)))); have n5_ := Aside0.mk (below_step (by repeat (first | (with_reducible first | exact HB.out | apply below_alloc | apply pw_below_drewN | apply below_drew1) | exact HB.out)) hb); clear HO_6; clear HO_8; clear HO_10; clear HO_12; clear HB; have HO_6 := n0_; have HO_8 := n1_; have HO_10 := n2_; have HO_12 := n3_; have HO380 := n4_; have HB := n5_; clear n0_ n1_ n2_ n3_ n4_ n5_; (try clear hb); (try clear hb2); (try clear hk); (try clear hi); (try clear ho0); obtain ⟨Ao67, co67, eo67⟩ := Kd.S_slice HO_10.out; subst eo67; obtain ⟨Ao68, co68, eo68⟩ := Kd.S_slice HO380.out; subst eo68) | (go_at_call 19; (with_reducible refine (seamarkref29_Same.calls k3 _ _ t367 _ _ t378 t381 _ ?side1 ?side2 ?side3 ?side4 A63.out).mono ?_); (case side1 => repeat (first | exact (Kd.S_reads' HO_10.out).2.2 | (with_reducible refine Kd.C_alloc ?_ _) | (with_reducible refine Kd.C_drewN ?_ _) | (with_reducible refine Kd.C_drew ?_))); (case side2 => exact (Kd.S_reads' HO_10.out).2.1); (case side3 => repeat (first | exact (Kd.S_reads' HO380.out).2.2 | (with_reducible refine Kd.C_alloc ?_ _) | (with_reducible refine Kd.C_drewN ?_ _) | (with_reducible refine Kd.C_drew ?_))); (case side4 => exact (Kd.S_reads' HO380.out).2.1); rintro e w' ⟨rfl, ⟨nd, rfl⟩⟩; (try first | exact ⟨rfl, _, World.drewN_drewN _ _ _⟩ | exact ⟨rfl, _, Eq.trans (World.drewN_drewN _ _ _) (congrArg (World.drewN _) (Nat.add_assoc _ _ _))⟩))))
                      go_ret
                      exact ⟨by first | rfl | (simp [errW_none, errW_some] <;> rfl) | (simp [*, errW_none, errW_some] <;> rfl), by repeat (first | (with_reducible first | exact HB.out | apply below_alloc | apply pw_below_drewN | apply below_drew1) | exact HB.out)⟩
                    · replace c61 := Bool.eq_false_iff.mpr c61
                      subst c61
                      have H1 : (none) = some r := by rw [if_neg (show ¬ (false = true) by decide)] at H; exact H
                      clear H
                      have H := H1
                      clear H1
                      exact absurd H (by simp)

end Go.Proofs.Ytcjjohealloglaa.E
