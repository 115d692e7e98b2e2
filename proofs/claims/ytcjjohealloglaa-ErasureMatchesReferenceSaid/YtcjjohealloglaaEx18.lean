-- by drive.py (this session's program: it runs print.py beside functions proved by hand). Lean checks it.
import Derived.Test.YtcjjohealloglaaEx0
import Derived.Test.YtcjjohealloglaaEx1
import Derived.Test.YtcjjohealloglaaEx3
import Derived.Test.YtcjjohealloglaaEx6
import Derived.Test.YtcjjohealloglaaEx7
import Derived.Test.YtcjjohealloglaaEx14
import Derived.Test.YtcjjohealloglaaEx15
import Derived.Test.YtcjjohealloglaaEx16
import Derived.Test.YtcjjohealloglaaEx17
namespace Go.Proofs.Ytcjjohealloglaa.E
open Go.RowKit Go.Proofs.YtcjjohealloglaaW.PrintWords Go.Proofs.YtcjjohealloglaaW.PrintLast Go.Proofs.YtcjjohealloglaaW.PrintMore
attribute [local go_sem] max2_int min2_int max_two min_two max_three min_three max_four min_four   -- for this text's walks alone
set_option linter.unusedVariables false
set_option linter.unusedSimpArgs false

/-! ### seamarklaw29_ErasureMatchesReference: function 8 -/
mutual
def seamarklaw29_ErasureMatchesReference.j0 : Nat → Int → Int → List (List Int) → Int → Int → Int → List Int → List (List Int) → Int → Bool → Bool → Option (Bool)
  | 0, _, _, _, _, _, _, _, _, _, _, _ => none
  | k + 1, x0, x1, x2, x3, x4, x5, x6, x7, x8, x19, x43 => if x43 = true then (some x19) else ((erasure_Inv.f k x0).bind fun bt532 => ((seamarkref29_Inv.f k x0).bind fun bt534 => (if x19 = true then ((erasure_Mul.f k x0 x1).bind fun t536 => ((seamarkref29_Mul.f k x0 x1).bind fun t537 => (if t536 = t537 then (if bt532.1 = bt534.1 then (seamarklaw29_ErasureMatchesReference.j1 k x2 x3 x4 x5 x6 x7 x8 (bt532.2 == bt534.2)) else (seamarklaw29_ErasureMatchesReference.j1 k x2 x3 x4 x5 x6 x7 x8 false)) else (seamarklaw29_ErasureMatchesReference.j1 k x2 x3 x4 x5 x6 x7 x8 false)))) else (seamarklaw29_ErasureMatchesReference.j1 k x2 x3 x4 x5 x6 x7 x8 false))))
def seamarklaw29_ErasureMatchesReference.j1 : Nat → List (List Int) → Int → Int → Int → List Int → List (List Int) → Int → Bool → Option (Bool)
  | 0, _, _, _, _, _, _, _, _ => none
  | k + 1, x2, x3, x4, x5, x6, x7, x8, x19 => (erasure_Code.f k x2 x3).bind fun bt538 => ((seamarkref29_Code.f k x2 x3).bind fun bt542 => (if x19 = true then ((seamarkref29_Same.f k bt538.1 bt542.1).bind fun t546 => (if t546 = true then (seamarklaw29_ErasureMatchesReference.j2 k x4 x5 x6 x7 x8 (bt538.2 == bt542.2)) else (seamarklaw29_ErasureMatchesReference.j2 k x4 x5 x6 x7 x8 false))) else (seamarklaw29_ErasureMatchesReference.j2 k x4 x5 x6 x7 x8 false)))
def seamarklaw29_ErasureMatchesReference.j2 : Nat → Int → Int → List Int → List (List Int) → Int → Bool → Option (Bool)
  | 0, _, _, _, _, _, _ => none
  | k + 1, x4, x5, x6, x7, x8, x19 => (erasure_Decode.f k x4 x5 x6 x7).bind fun bt547 => ((seamarkref29_Decode.f k x4 x5 x6 x7).bind fun bt551 => (if x19 = true then ((seamarkref29_Same.f k bt547.1 bt551.1).bind fun t555 => (if t555 = true then (seamarklaw29_ErasureMatchesReference.j3 k x4 x6 x7 x8 (bt547.2 == bt551.2)) else (seamarklaw29_ErasureMatchesReference.j3 k x4 x6 x7 x8 false))) else (seamarklaw29_ErasureMatchesReference.j3 k x4 x6 x7 x8 false)))
def seamarklaw29_ErasureMatchesReference.j3 : Nat → Int → List Int → List (List Int) → Int → Bool → Option (Bool)
  | 0, _, _, _, _, _ => none
  | k + 1, x4, x6, x7, x8, x19 => (erasure_Repair.f k x4 x6 x7 x8).bind fun bt556 => ((seamarkref29_Repair.f k x4 x6 x7 x8).bind fun bt560 => (if x19 = true then ((seamarkref29_Bytes.f k bt556.1 bt560.1).bind fun t564 => (if t564 = true then ((erasure_Fits.f k x4 x6 x7).bind fun bt565 => ((seamarkref29_Fits.f k x4 x6 x7).bind fun bt567 => (if bt556.2 = bt560.2 then (if (bt565.1 == bt567.1) = true then (some (bt565.2 == bt567.2)) else (none)) else (none)))) else (none))) else (none)))
end
def seamarklaw29_ErasureMatchesReference.f (k : Nat) (a0 : Int) (a1 : Int) (l2 : List (List Int)) (a3 : Int) (a4 : Int) (a5 : Int) (l6 : List Int) (l7 : List (List Int)) (a8 : Int) : Option (Bool) := (seamarklaw29_head.f k).bind fun t529 => ((seamarkref29_Few.f k l2).bind fun t530 => (if t530 = true then ((seamarkref29_Few.f k l7).bind fun t531 => (if t531 = true then (seamarklaw29_ErasureMatchesReference.j0 k a0 a1 l2 a3 a4 a5 l6 l7 a8 t529 (decide ((l6.length : Int) > 40))) else (seamarklaw29_ErasureMatchesReference.j0 k a0 a1 l2 a3 a4 a5 l6 l7 a8 t529 true))) else (seamarklaw29_ErasureMatchesReference.j0 k a0 a1 l2 a3 a4 a5 l6 l7 a8 t529 true)))
theorem seamarklaw29_ErasureMatchesReference.mono_l : ∀ k, (∀ y0 y1 y2 y3 y4 y5 y6 y7 y8 y9 y10, LeO (seamarklaw29_ErasureMatchesReference.j0 k y0 y1 y2 y3 y4 y5 y6 y7 y8 y9 y10) (seamarklaw29_ErasureMatchesReference.j0 (k + 1) y0 y1 y2 y3 y4 y5 y6 y7 y8 y9 y10)) ∧ (∀ y0 y1 y2 y3 y4 y5 y6 y7, LeO (seamarklaw29_ErasureMatchesReference.j1 k y0 y1 y2 y3 y4 y5 y6 y7) (seamarklaw29_ErasureMatchesReference.j1 (k + 1) y0 y1 y2 y3 y4 y5 y6 y7)) ∧ (∀ y0 y1 y2 y3 y4 y5, LeO (seamarklaw29_ErasureMatchesReference.j2 k y0 y1 y2 y3 y4 y5) (seamarklaw29_ErasureMatchesReference.j2 (k + 1) y0 y1 y2 y3 y4 y5)) ∧ (∀ y0 y1 y2 y3 y4, LeO (seamarklaw29_ErasureMatchesReference.j3 k y0 y1 y2 y3 y4) (seamarklaw29_ErasureMatchesReference.j3 (k + 1) y0 y1 y2 y3 y4))
  | 0 => ⟨fun _ _ _ _ _ _ _ _ _ _ _ r h => by simp [seamarklaw29_ErasureMatchesReference.j0] at h, fun _ _ _ _ _ _ _ _ r h => by simp [seamarklaw29_ErasureMatchesReference.j1] at h, fun _ _ _ _ _ _ r h => by simp [seamarklaw29_ErasureMatchesReference.j2] at h, fun _ _ _ _ _ r h => by simp [seamarklaw29_ErasureMatchesReference.j3] at h⟩
  | k + 1 => by
    obtain ⟨ih0, ih1, ih2, ih3⟩ := seamarklaw29_ErasureMatchesReference.mono_l k
    refine ⟨?_, ?_, ?_, ?_⟩
    · intro y0 y1 y2 y3 y4 y5 y6 y7 y8 y9 y10
      unfold seamarklaw29_ErasureMatchesReference.j0
      repeat' first
      | (with_reducible exact ih0 _ _ _ _ _ _ _ _ _ _ _)
      | (with_reducible exact ih1 _ _ _ _ _ _ _ _)
      | (with_reducible exact ih2 _ _ _ _ _ _)
      | (with_reducible exact ih3 _ _ _ _ _)
      | (with_reducible exact erasure_Code.mono _ _ _)
      | (with_reducible exact erasure_Decode.mono _ _ _ _ _)
      | (with_reducible exact erasure_Fits.mono _ _ _ _)
      | (with_reducible exact erasure_Inv.mono _ _)
      | (with_reducible exact erasure_Mul.mono _ _ _)
      | (with_reducible exact erasure_Repair.mono _ _ _ _ _)
      | (with_reducible exact seamarklaw29_head.mono _)
      | (with_reducible exact seamarkref29_Bytes.mono _ _ _)
      | (with_reducible exact seamarkref29_Code.mono _ _ _)
      | (with_reducible exact seamarkref29_Decode.mono _ _ _ _ _)
      | (with_reducible exact seamarkref29_Few.mono _ _)
      | (with_reducible exact seamarkref29_Fits.mono _ _ _ _)
      | (with_reducible exact seamarkref29_Inv.mono _ _)
      | (with_reducible exact seamarkref29_Mul.mono _ _ _)
      | (with_reducible exact seamarkref29_Repair.mono _ _ _ _ _)
      | (with_reducible exact seamarkref29_Same.mono _ _ _)
      | (with_reducible exact LeO.refl _)
      | (with_reducible exact LeO.none _)
      | (with_reducible refine LeO.ite ?_ ?_)
      | (with_reducible refine LeO.bind ?_ (fun _ => ?_))
      | exact ih0 _ _ _ _ _ _ _ _ _ _ _
      | exact ih1 _ _ _ _ _ _ _ _
      | exact ih2 _ _ _ _ _ _
      | exact ih3 _ _ _ _ _
      | exact erasure_Code.mono _ _ _
      | exact erasure_Decode.mono _ _ _ _ _
      | exact erasure_Fits.mono _ _ _ _
      | exact erasure_Inv.mono _ _
      | exact erasure_Mul.mono _ _ _
      | exact erasure_Repair.mono _ _ _ _ _
      | exact seamarklaw29_head.mono _
      | exact seamarkref29_Bytes.mono _ _ _
      | exact seamarkref29_Code.mono _ _ _
      | exact seamarkref29_Decode.mono _ _ _ _ _
      | exact seamarkref29_Few.mono _ _
      | exact seamarkref29_Fits.mono _ _ _ _
      | exact seamarkref29_Inv.mono _ _
      | exact seamarkref29_Mul.mono _ _ _
      | exact seamarkref29_Repair.mono _ _ _ _ _
      | exact seamarkref29_Same.mono _ _ _
      | exact LeO.none _
      | refine LeO.ite ?_ ?_
      | refine LeO.bind ?_ (fun _ => ?_)
    · intro y0 y1 y2 y3 y4 y5 y6 y7
      unfold seamarklaw29_ErasureMatchesReference.j1
      repeat' first
      | (with_reducible exact ih0 _ _ _ _ _ _ _ _ _ _ _)
      | (with_reducible exact ih1 _ _ _ _ _ _ _ _)
      | (with_reducible exact ih2 _ _ _ _ _ _)
      | (with_reducible exact ih3 _ _ _ _ _)
      | (with_reducible exact erasure_Code.mono _ _ _)
      | (with_reducible exact erasure_Decode.mono _ _ _ _ _)
      | (with_reducible exact erasure_Fits.mono _ _ _ _)
      | (with_reducible exact erasure_Inv.mono _ _)
      | (with_reducible exact erasure_Mul.mono _ _ _)
      | (with_reducible exact erasure_Repair.mono _ _ _ _ _)
      | (with_reducible exact seamarklaw29_head.mono _)
      | (with_reducible exact seamarkref29_Bytes.mono _ _ _)
      | (with_reducible exact seamarkref29_Code.mono _ _ _)
      | (with_reducible exact seamarkref29_Decode.mono _ _ _ _ _)
      | (with_reducible exact seamarkref29_Few.mono _ _)
      | (with_reducible exact seamarkref29_Fits.mono _ _ _ _)
      | (with_reducible exact seamarkref29_Inv.mono _ _)
      | (with_reducible exact seamarkref29_Mul.mono _ _ _)
      | (with_reducible exact seamarkref29_Repair.mono _ _ _ _ _)
      | (with_reducible exact seamarkref29_Same.mono _ _ _)
      | (with_reducible exact LeO.refl _)
      | (with_reducible exact LeO.none _)
      | (with_reducible refine LeO.ite ?_ ?_)
      | (with_reducible refine LeO.bind ?_ (fun _ => ?_))
      | exact ih0 _ _ _ _ _ _ _ _ _ _ _
      | exact ih1 _ _ _ _ _ _ _ _
      | exact ih2 _ _ _ _ _ _
      | exact ih3 _ _ _ _ _
      | exact erasure_Code.mono _ _ _
      | exact erasure_Decode.mono _ _ _ _ _
      | exact erasure_Fits.mono _ _ _ _
      | exact erasure_Inv.mono _ _
      | exact erasure_Mul.mono _ _ _
      | exact erasure_Repair.mono _ _ _ _ _
      | exact seamarklaw29_head.mono _
      | exact seamarkref29_Bytes.mono _ _ _
      | exact seamarkref29_Code.mono _ _ _
      | exact seamarkref29_Decode.mono _ _ _ _ _
      | exact seamarkref29_Few.mono _ _
      | exact seamarkref29_Fits.mono _ _ _ _
      | exact seamarkref29_Inv.mono _ _
      | exact seamarkref29_Mul.mono _ _ _
      | exact seamarkref29_Repair.mono _ _ _ _ _
      | exact seamarkref29_Same.mono _ _ _
      | exact LeO.none _
      | refine LeO.ite ?_ ?_
      | refine LeO.bind ?_ (fun _ => ?_)
    · intro y0 y1 y2 y3 y4 y5
      unfold seamarklaw29_ErasureMatchesReference.j2
      repeat' first
      | (with_reducible exact ih0 _ _ _ _ _ _ _ _ _ _ _)
      | (with_reducible exact ih1 _ _ _ _ _ _ _ _)
      | (with_reducible exact ih2 _ _ _ _ _ _)
      | (with_reducible exact ih3 _ _ _ _ _)
      | (with_reducible exact erasure_Code.mono _ _ _)
      | (with_reducible exact erasure_Decode.mono _ _ _ _ _)
      | (with_reducible exact erasure_Fits.mono _ _ _ _)
      | (with_reducible exact erasure_Inv.mono _ _)
      | (with_reducible exact erasure_Mul.mono _ _ _)
      | (with_reducible exact erasure_Repair.mono _ _ _ _ _)
      | (with_reducible exact seamarklaw29_head.mono _)
      | (with_reducible exact seamarkref29_Bytes.mono _ _ _)
      | (with_reducible exact seamarkref29_Code.mono _ _ _)
      | (with_reducible exact seamarkref29_Decode.mono _ _ _ _ _)
      | (with_reducible exact seamarkref29_Few.mono _ _)
      | (with_reducible exact seamarkref29_Fits.mono _ _ _ _)
      | (with_reducible exact seamarkref29_Inv.mono _ _)
      | (with_reducible exact seamarkref29_Mul.mono _ _ _)
      | (with_reducible exact seamarkref29_Repair.mono _ _ _ _ _)
      | (with_reducible exact seamarkref29_Same.mono _ _ _)
      | (with_reducible exact LeO.refl _)
      | (with_reducible exact LeO.none _)
      | (with_reducible refine LeO.ite ?_ ?_)
      | (with_reducible refine LeO.bind ?_ (fun _ => ?_))
      | exact ih0 _ _ _ _ _ _ _ _ _ _ _
      | exact ih1 _ _ _ _ _ _ _ _
      | exact ih2 _ _ _ _ _ _
      | exact ih3 _ _ _ _ _
      | exact erasure_Code.mono _ _ _
      | exact erasure_Decode.mono _ _ _ _ _
      | exact erasure_Fits.mono _ _ _ _
      | exact erasure_Inv.mono _ _
      | exact erasure_Mul.mono _ _ _
      | exact erasure_Repair.mono _ _ _ _ _
      | exact seamarklaw29_head.mono _
      | exact seamarkref29_Bytes.mono _ _ _
      | exact seamarkref29_Code.mono _ _ _
      | exact seamarkref29_Decode.mono _ _ _ _ _
      | exact seamarkref29_Few.mono _ _
      | exact seamarkref29_Fits.mono _ _ _ _
      | exact seamarkref29_Inv.mono _ _
      | exact seamarkref29_Mul.mono _ _ _
      | exact seamarkref29_Repair.mono _ _ _ _ _
      | exact seamarkref29_Same.mono _ _ _
      | exact LeO.none _
      | refine LeO.ite ?_ ?_
      | refine LeO.bind ?_ (fun _ => ?_)
    · intro y0 y1 y2 y3 y4
      unfold seamarklaw29_ErasureMatchesReference.j3
      repeat' first
      | (with_reducible exact ih0 _ _ _ _ _ _ _ _ _ _ _)
      | (with_reducible exact ih1 _ _ _ _ _ _ _ _)
      | (with_reducible exact ih2 _ _ _ _ _ _)
      | (with_reducible exact ih3 _ _ _ _ _)
      | (with_reducible exact erasure_Code.mono _ _ _)
      | (with_reducible exact erasure_Decode.mono _ _ _ _ _)
      | (with_reducible exact erasure_Fits.mono _ _ _ _)
      | (with_reducible exact erasure_Inv.mono _ _)
      | (with_reducible exact erasure_Mul.mono _ _ _)
      | (with_reducible exact erasure_Repair.mono _ _ _ _ _)
      | (with_reducible exact seamarklaw29_head.mono _)
      | (with_reducible exact seamarkref29_Bytes.mono _ _ _)
      | (with_reducible exact seamarkref29_Code.mono _ _ _)
      | (with_reducible exact seamarkref29_Decode.mono _ _ _ _ _)
      | (with_reducible exact seamarkref29_Few.mono _ _)
      | (with_reducible exact seamarkref29_Fits.mono _ _ _ _)
      | (with_reducible exact seamarkref29_Inv.mono _ _)
      | (with_reducible exact seamarkref29_Mul.mono _ _ _)
      | (with_reducible exact seamarkref29_Repair.mono _ _ _ _ _)
      | (with_reducible exact seamarkref29_Same.mono _ _ _)
      | (with_reducible exact LeO.refl _)
      | (with_reducible exact LeO.none _)
      | (with_reducible refine LeO.ite ?_ ?_)
      | (with_reducible refine LeO.bind ?_ (fun _ => ?_))
      | exact ih0 _ _ _ _ _ _ _ _ _ _ _
      | exact ih1 _ _ _ _ _ _ _ _
      | exact ih2 _ _ _ _ _ _
      | exact ih3 _ _ _ _ _
      | exact erasure_Code.mono _ _ _
      | exact erasure_Decode.mono _ _ _ _ _
      | exact erasure_Fits.mono _ _ _ _
      | exact erasure_Inv.mono _ _
      | exact erasure_Mul.mono _ _ _
      | exact erasure_Repair.mono _ _ _ _ _
      | exact seamarklaw29_head.mono _
      | exact seamarkref29_Bytes.mono _ _ _
      | exact seamarkref29_Code.mono _ _ _
      | exact seamarkref29_Decode.mono _ _ _ _ _
      | exact seamarkref29_Few.mono _ _
      | exact seamarkref29_Fits.mono _ _ _ _
      | exact seamarkref29_Inv.mono _ _
      | exact seamarkref29_Mul.mono _ _ _
      | exact seamarkref29_Repair.mono _ _ _ _ _
      | exact seamarkref29_Same.mono _ _ _
      | exact LeO.none _
      | refine LeO.ite ?_ ?_
      | refine LeO.bind ?_ (fun _ => ?_)
theorem seamarklaw29_ErasureMatchesReference.mono : ∀ a0 a1 a2 a3 a4 a5 a6 a7 a8 k, LeO (seamarklaw29_ErasureMatchesReference.f k a0 a1 a2 a3 a4 a5 a6 a7 a8) (seamarklaw29_ErasureMatchesReference.f (k + 1) a0 a1 a2 a3 a4 a5 a6 a7 a8) := by
  intro a0 a1 a2 a3 a4 a5 a6 a7 a8 k
  obtain ⟨ih0, ih1, ih2, ih3⟩ := seamarklaw29_ErasureMatchesReference.mono_l k
  unfold seamarklaw29_ErasureMatchesReference.f
  repeat' first
      | (with_reducible exact ih0 _ _ _ _ _ _ _ _ _ _ _)
      | (with_reducible exact ih1 _ _ _ _ _ _ _ _)
      | (with_reducible exact ih2 _ _ _ _ _ _)
      | (with_reducible exact ih3 _ _ _ _ _)
      | (with_reducible exact erasure_Code.mono _ _ _)
      | (with_reducible exact erasure_Decode.mono _ _ _ _ _)
      | (with_reducible exact erasure_Fits.mono _ _ _ _)
      | (with_reducible exact erasure_Inv.mono _ _)
      | (with_reducible exact erasure_Mul.mono _ _ _)
      | (with_reducible exact erasure_Repair.mono _ _ _ _ _)
      | (with_reducible exact seamarklaw29_head.mono _)
      | (with_reducible exact seamarkref29_Bytes.mono _ _ _)
      | (with_reducible exact seamarkref29_Code.mono _ _ _)
      | (with_reducible exact seamarkref29_Decode.mono _ _ _ _ _)
      | (with_reducible exact seamarkref29_Few.mono _ _)
      | (with_reducible exact seamarkref29_Fits.mono _ _ _ _)
      | (with_reducible exact seamarkref29_Inv.mono _ _)
      | (with_reducible exact seamarkref29_Mul.mono _ _ _)
      | (with_reducible exact seamarkref29_Repair.mono _ _ _ _ _)
      | (with_reducible exact seamarkref29_Same.mono _ _ _)
      | (with_reducible exact LeO.refl _)
      | (with_reducible exact LeO.none _)
      | (with_reducible refine LeO.ite ?_ ?_)
      | (with_reducible refine LeO.bind ?_ (fun _ => ?_))
      | exact ih0 _ _ _ _ _ _ _ _ _ _ _
      | exact ih1 _ _ _ _ _ _ _ _
      | exact ih2 _ _ _ _ _ _
      | exact ih3 _ _ _ _ _
      | exact erasure_Code.mono _ _ _
      | exact erasure_Decode.mono _ _ _ _ _
      | exact erasure_Fits.mono _ _ _ _
      | exact erasure_Inv.mono _ _
      | exact erasure_Mul.mono _ _ _
      | exact erasure_Repair.mono _ _ _ _ _
      | exact seamarklaw29_head.mono _
      | exact seamarkref29_Bytes.mono _ _ _
      | exact seamarkref29_Code.mono _ _ _
      | exact seamarkref29_Decode.mono _ _ _ _ _
      | exact seamarkref29_Few.mono _ _
      | exact seamarkref29_Fits.mono _ _ _ _
      | exact seamarkref29_Inv.mono _ _
      | exact seamarkref29_Mul.mono _ _ _
      | exact seamarkref29_Repair.mono _ _ _ _ _
      | exact seamarkref29_Same.mono _ _ _
      | exact LeO.none _
      | refine LeO.ite ?_ ?_
      | refine LeO.bind ?_ (fun _ => ?_)
set_option maxHeartbeats 8000000 in
set_option maxRecDepth 100000 in
theorem seamarklaw29_ErasureMatchesReference.calls (k : Nat) (a0 : Int) (a1 : Int) (A2 : Option Addr) (c2 : Nat) (l2 : List (List Int)) (a3 : Int) (a4 : Int) (a5 : Int) (A6 : Option Addr) (c6 : Nat) (l6 : List Int) (A7 : Option Addr) (c7 : Nat) (l7 : List (List Int)) (a8 : Int) (r : Bool) (w : World) (hr2 : Kd.C (Kd.slice 5 (Kd.int .u8)) w A2 l2.length l2) (hc2 : l2.length ≤ c2) (hr6 : Kd.C (Kd.int .i64) w A6 l6.length l6) (hc6 : l6.length ≤ c6) (hr7 : Kd.C (Kd.slice 5 (Kd.int .u8)) w A7 l7.length l7) (hc7 : l7.length ≤ c7) (h : seamarklaw29_ErasureMatchesReference.f k a0 a1 l2 a3 a4 a5 l6 l7 a8 = some r) :
    Calls Try.prog 8 #[.int .u8 a0, .int .u8 a1, .slice A2 l2.length c2, .int .i64 a3, .int .i64 a4, .int .i64 a5, .slice A6 l6.length c6, .slice A7 l7.length c7, .int .i64 a8] w fun e w' => e = .returned (.bool r) ∧ Below w.heap.size w w' := by
  have HR2 := Aside0.mk hr2
  have HC2 := Aside0.mk hc2
  clear hr2 hc2
  have HR6 := Aside0.mk hr6
  have HC6 := Aside0.mk hc6
  clear hr6 hc6
  have HR7 := Aside0.mk hr7
  have HC7 := Aside0.mk hc7
  clear hr7 hc7
  have HB := Aside0.mk (Below.refl w.heap.size w)
  have H : ((seamarklaw29_head.f k).bind fun t529 => ((seamarkref29_Few.f k l2).bind fun t530 => (if t530 = true then ((seamarkref29_Few.f k l7).bind fun t531 => (if t531 = true then (seamarklaw29_ErasureMatchesReference.j0 k a0 a1 l2 a3 a4 a5 l6 l7 a8 t529 (decide ((l6.length : Int) > 40))) else (seamarklaw29_ErasureMatchesReference.j0 k a0 a1 l2 a3 a4 a5 l6 l7 a8 t529 true))) else (seamarklaw29_ErasureMatchesReference.j0 k a0 a1 l2 a3 a4 a5 l6 l7 a8 t529 true)))) = some r := h
  clear h
  replace H := Option.bind_eq_some_iff.mp H
  obtain ⟨t529, A100, H⟩ := H
  replace H : ((seamarkref29_Few.f k l2).bind fun t530 => (if t530 = true then ((seamarkref29_Few.f k l7).bind fun t531 => (if t531 = true then (seamarklaw29_ErasureMatchesReference.j0 k a0 a1 l2 a3 a4 a5 l6 l7 a8 t529 (decide ((l6.length : Int) > 40))) else (seamarklaw29_ErasureMatchesReference.j0 k a0 a1 l2 a3 a4 a5 l6 l7 a8 t529 true))) else (seamarklaw29_ErasureMatchesReference.j0 k a0 a1 l2 a3 a4 a5 l6 l7 a8 t529 true))) = some r := H
  have A10 := Aside0.mk A100
  clear A100
  have HC11 := Aside0.mk H
  clear H
  go_enter Try.func8, Try.ntmps8
  go_upto_region 2 with (first | ((with_reducible refine gate_callee (f := 11) rfl ?_); refine goesL_ (some 30) rfl rfl Try.func11 (by kernel_rfl) rfl #[] rfl (by (try simp only [List.map_toArray, List.map_cons, List.map_nil]); first | done | rfl | (simp only [List.length_drop, List.length_take]; rfl)) ?_; (with_reducible refine (seamarklaw29_head.calls k  t529 _ A10.out).mono ?_); rintro e w12 ⟨rfl, hb⟩; refine ⟨_, rfl, ?_⟩; have n0_ := Aside0.mk (below_step (by repeat (first | (with_reducible first | exact HB.out | apply below_alloc | apply pw_below_drewN | apply below_drew1) | exact HB.out)) hb); clear HB; have HB := n0_; clear n0_; (try clear hb); (try clear hb2); (try clear hk); (try clear hi)))
  (try simp only [Act.put, List.setIfInBounds_toArray, List.set_cons_zero, List.set_cons_succ])
  go_cut [43] (fun v43 wc => ∃ (kq : Nat) (x43_10 : Bool), v43 = .bool x43_10 ∧ Aside0 (seamarklaw29_ErasureMatchesReference.j0 kq a0 a1 l2 a3 a4 a5 l6 l7 a8 t529 x43_10 = some r) ∧ Aside0 (kq ≤ k) ∧ Aside0 (Below w.heap.size w wc))
  case first =>
    have H := HC11.out
    clear HC11
    replace H := Option.bind_eq_some_iff.mp H
    obtain ⟨t530, A130, H⟩ := H
    replace H : (if t530 = true then ((seamarkref29_Few.f k l7).bind fun t531 => (if t531 = true then (seamarklaw29_ErasureMatchesReference.j0 k a0 a1 l2 a3 a4 a5 l6 l7 a8 t529 (decide ((l6.length : Int) > 40))) else (seamarklaw29_ErasureMatchesReference.j0 k a0 a1 l2 a3 a4 a5 l6 l7 a8 t529 true))) else (seamarklaw29_ErasureMatchesReference.j0 k a0 a1 l2 a3 a4 a5 l6 l7 a8 t529 true)) = some r := H
    have A13 := Aside0.mk A130
    clear A130
    by_cases c14 : t530 = true
    · subst c14
      have H1 : ((seamarkref29_Few.f k l7).bind fun t531 => (if t531 = true then (seamarklaw29_ErasureMatchesReference.j0 k a0 a1 l2 a3 a4 a5 l6 l7 a8 t529 (decide ((l6.length : Int) > 40))) else (seamarklaw29_ErasureMatchesReference.j0 k a0 a1 l2 a3 a4 a5 l6 l7 a8 t529 true))) = some r := by rw [if_pos rfl] at H; exact H
      clear H
      have H := H1
      clear H1
      replace H := Option.bind_eq_some_iff.mp H
      obtain ⟨t531, A150, H⟩ := H
      replace H : (if t531 = true then (seamarklaw29_ErasureMatchesReference.j0 k a0 a1 l2 a3 a4 a5 l6 l7 a8 t529 (decide ((l6.length : Int) > 40))) else (seamarklaw29_ErasureMatchesReference.j0 k a0 a1 l2 a3 a4 a5 l6 l7 a8 t529 true)) = some r := H
      have A15 := Aside0.mk A150
      clear A150
      by_cases c16 : t531 = true
      · subst c16
        have H1 : (seamarklaw29_ErasureMatchesReference.j0 k a0 a1 l2 a3 a4 a5 l6 l7 a8 t529 (decide ((l6.length : Int) > 40))) = some r := by rw [if_pos rfl] at H; exact H
        clear H
        have H := H1
        clear H1
        have H' := Aside0.mk H
        clear H
        go_wp2_with (first | ((with_reducible refine gate_callee (f := 23) rfl ?_); refine goesL_ (some 32) rfl rfl Try.func23 (by kernel_rfl) rfl #[.slice A2 l2.length c2] rfl (by (try simp only [List.map_toArray, List.map_cons, List.map_nil]); first | done | rfl | (simp only [List.length_drop, List.length_take]; rfl)) ?_; (with_reducible refine (seamarkref29_Few.calls k _ _ l2 true _ ?side1 ?side2 A13.out).mono ?_); (case side1 => repeat (first | exact (Kd.C_below HR2.out HB.out) | (with_reducible refine Kd.C_alloc ?_ _) | (with_reducible refine Kd.C_drewN ?_ _) | (with_reducible refine Kd.C_drew ?_))); (case side2 => exact HC2.out); rintro e w' ⟨rfl, ⟨nd, rfl⟩⟩; refine ⟨_, rfl, ?_⟩) | (go_at_call 23; (with_reducible refine (seamarkref29_Few.calls k _ _ l7 true _ ?side1 ?side2 A15.out).mono ?_); (case side1 => repeat (first | exact (Kd.C_below HR7.out (by repeat (first | (with_reducible first | exact HB.out | apply below_alloc | apply pw_below_drewN | apply below_drew1) | exact HB.out))) | (with_reducible refine Kd.C_alloc ?_ _) | (with_reducible refine Kd.C_drewN ?_ _) | (with_reducible refine Kd.C_drew ?_))); (case side2 => exact HC7.out); rintro e w' ⟨rfl, ⟨nd, rfl⟩⟩))
        go_meet
        case rel => exact ⟨_, (decide ((l6.length : Int) > 40)), (by first | rfl | (simp; done) | (simp [*]; done)), H', ⟨by first | omega | exact Nat.le_refl _⟩, ⟨by repeat (first | (with_reducible first | exact HB.out | apply below_alloc | apply pw_below_drewN | apply below_drew1) | exact HB.out)⟩⟩
      · replace c16 := Bool.eq_false_iff.mpr c16
        subst c16
        have H1 : (seamarklaw29_ErasureMatchesReference.j0 k a0 a1 l2 a3 a4 a5 l6 l7 a8 t529 true) = some r := by rw [if_neg (show ¬ (false = true) by decide)] at H; exact H
        clear H
        have H := H1
        clear H1
        have H' := Aside0.mk H
        clear H
        go_wp2_with (first | ((with_reducible refine gate_callee (f := 23) rfl ?_); refine goesL_ (some 32) rfl rfl Try.func23 (by kernel_rfl) rfl #[.slice A2 l2.length c2] rfl (by (try simp only [List.map_toArray, List.map_cons, List.map_nil]); first | done | rfl | (simp only [List.length_drop, List.length_take]; rfl)) ?_; (with_reducible refine (seamarkref29_Few.calls k _ _ l2 true _ ?side1 ?side2 A13.out).mono ?_); (case side1 => repeat (first | exact (Kd.C_below HR2.out HB.out) | (with_reducible refine Kd.C_alloc ?_ _) | (with_reducible refine Kd.C_drewN ?_ _) | (with_reducible refine Kd.C_drew ?_))); (case side2 => exact HC2.out); rintro e w' ⟨rfl, ⟨nd, rfl⟩⟩; refine ⟨_, rfl, ?_⟩) | (go_at_call 23; (with_reducible refine (seamarkref29_Few.calls k _ _ l7 false _ ?side1 ?side2 A15.out).mono ?_); (case side1 => repeat (first | exact (Kd.C_below HR7.out (by repeat (first | (with_reducible first | exact HB.out | apply below_alloc | apply pw_below_drewN | apply below_drew1) | exact HB.out))) | (with_reducible refine Kd.C_alloc ?_ _) | (with_reducible refine Kd.C_drewN ?_ _) | (with_reducible refine Kd.C_drew ?_))); (case side2 => exact HC7.out); rintro e w' ⟨rfl, ⟨nd, rfl⟩⟩))
        go_meet
        case rel => exact ⟨_, (true), (by first | rfl | (simp; done) | (simp [*]; done)), H', ⟨by first | omega | exact Nat.le_refl _⟩, ⟨by repeat (first | (with_reducible first | exact HB.out | apply below_alloc | apply pw_below_drewN | apply below_drew1) | exact HB.out)⟩⟩
    · replace c14 := Bool.eq_false_iff.mpr c14
      subst c14
      have H1 : (seamarklaw29_ErasureMatchesReference.j0 k a0 a1 l2 a3 a4 a5 l6 l7 a8 t529 true) = some r := by rw [if_neg (show ¬ (false = true) by decide)] at H; exact H
      clear H
      have H := H1
      clear H1
      have H' := Aside0.mk H
      clear H
      go_wp2_with (first | ((with_reducible refine gate_callee (f := 23) rfl ?_); refine goesL_ (some 32) rfl rfl Try.func23 (by kernel_rfl) rfl #[.slice A2 l2.length c2] rfl (by (try simp only [List.map_toArray, List.map_cons, List.map_nil]); first | done | rfl | (simp only [List.length_drop, List.length_take]; rfl)) ?_; (with_reducible refine (seamarkref29_Few.calls k _ _ l2 false _ ?side1 ?side2 A13.out).mono ?_); (case side1 => repeat (first | exact (Kd.C_below HR2.out HB.out) | (with_reducible refine Kd.C_alloc ?_ _) | (with_reducible refine Kd.C_drewN ?_ _) | (with_reducible refine Kd.C_drew ?_))); (case side2 => exact HC2.out); rintro e w' ⟨rfl, ⟨nd, rfl⟩⟩; refine ⟨_, rfl, ?_⟩))
      go_meet
      case rel => exact ⟨_, (true), (by first | rfl | (simp; done) | (simp [*]; done)), H', ⟨by first | omega | exact Nat.le_refl _⟩, ⟨by repeat (first | (with_reducible first | exact HB.out | apply below_alloc | apply pw_below_drewN | apply below_drew1) | exact HB.out)⟩⟩
  case rest =>
    clear HC11
    (try clear c1); (try clear c2); (try clear p2); (try clear c6); (try clear c7); (try clear c8); (try clear c11); (try clear c14); (try clear c16)
    obtain ⟨kq, x43_10, rfl, HA, HJ10, HB⟩ := hcut
    cases kq with
    | zero => exact absurd HA.out (by simp [seamarklaw29_ErasureMatchesReference.j0])
    | succ kj10 =>
      have H := HA.out
      clear HA
      simp only [seamarklaw29_ErasureMatchesReference.j0] at H
      by_cases c17 : x43_10 = true
      · subst c17
        have H1 : (some t529) = some r := by rw [if_pos rfl] at H; exact H
        clear H
        have H := H1
        clear H1
        obtain rfl := Option.some.inj H
        go_wp2
        go_ret
        exact ⟨by first | rfl | (simp [errW_none, errW_some] <;> rfl) | (simp [*, errW_none, errW_some] <;> rfl), by repeat (first | (with_reducible first | exact HB.out | apply below_alloc | apply pw_below_drewN | apply below_drew1) | exact HB.out)⟩
      · replace c17 := Bool.eq_false_iff.mpr c17
        subst c17
        have H1 : ((erasure_Inv.f kj10 a0).bind fun bt532 => ((seamarkref29_Inv.f kj10 a0).bind fun bt534 => (if t529 = true then ((erasure_Mul.f kj10 a0 a1).bind fun t536 => ((seamarkref29_Mul.f kj10 a0 a1).bind fun t537 => (if t536 = t537 then (if bt532.1 = bt534.1 then (seamarklaw29_ErasureMatchesReference.j1 kj10 l2 a3 a4 a5 l6 l7 a8 (bt532.2 == bt534.2)) else (seamarklaw29_ErasureMatchesReference.j1 kj10 l2 a3 a4 a5 l6 l7 a8 false)) else (seamarklaw29_ErasureMatchesReference.j1 kj10 l2 a3 a4 a5 l6 l7 a8 false)))) else (seamarklaw29_ErasureMatchesReference.j1 kj10 l2 a3 a4 a5 l6 l7 a8 false)))) = some r := by rw [if_neg (show ¬ (false = true) by decide)] at H; exact H
        clear H
        have H := H1
        clear H1
        replace H := Option.bind_eq_some_iff.mp H
        obtain ⟨⟨t532, t533⟩, A180, H⟩ := H
        replace H : ((seamarkref29_Inv.f kj10 a0).bind fun bt534 => (if t529 = true then ((erasure_Mul.f kj10 a0 a1).bind fun t536 => ((seamarkref29_Mul.f kj10 a0 a1).bind fun t537 => (if t536 = t537 then (if t532 = bt534.1 then (seamarklaw29_ErasureMatchesReference.j1 kj10 l2 a3 a4 a5 l6 l7 a8 (t533 == bt534.2)) else (seamarklaw29_ErasureMatchesReference.j1 kj10 l2 a3 a4 a5 l6 l7 a8 false)) else (seamarklaw29_ErasureMatchesReference.j1 kj10 l2 a3 a4 a5 l6 l7 a8 false)))) else (seamarklaw29_ErasureMatchesReference.j1 kj10 l2 a3 a4 a5 l6 l7 a8 false))) = some r := H
        have A18 := Aside0.mk A180
        clear A180
        replace H := Option.bind_eq_some_iff.mp H
        obtain ⟨⟨t534, t535⟩, A190, H⟩ := H
        replace H : (if t529 = true then ((erasure_Mul.f kj10 a0 a1).bind fun t536 => ((seamarkref29_Mul.f kj10 a0 a1).bind fun t537 => (if t536 = t537 then (if t532 = t534 then (seamarklaw29_ErasureMatchesReference.j1 kj10 l2 a3 a4 a5 l6 l7 a8 (t533 == t535)) else (seamarklaw29_ErasureMatchesReference.j1 kj10 l2 a3 a4 a5 l6 l7 a8 false)) else (seamarklaw29_ErasureMatchesReference.j1 kj10 l2 a3 a4 a5 l6 l7 a8 false)))) else (seamarklaw29_ErasureMatchesReference.j1 kj10 l2 a3 a4 a5 l6 l7 a8 false)) = some r := H
        have A19 := Aside0.mk A190
        clear A190
        have HC20 := Aside0.mk H
        clear H
        go_upto_region 6 with (first | ((with_reducible refine gate_callee (f := 13) rfl ?_); refine goesL_ (some 47) rfl rfl Try.func13 (by kernel_rfl) rfl #[.int .u8 a0] rfl (by (try simp only [List.map_toArray, List.map_cons, List.map_nil]); first | done | rfl | (simp only [List.length_drop, List.length_take]; rfl)) ?_; (with_reducible refine (erasure_Inv.calls kj10 a0 t532 t533 _ A18.out).mono ?_); rintro e w' ⟨rfl, ⟨nd, rfl⟩⟩; refine ⟨_, rfl, ?_⟩) | ((with_reducible refine gate_callee (f := 24) rfl ?_); refine goesL_ (some 52) rfl rfl Try.func24 (by kernel_rfl) rfl #[.int .u8 a0] rfl (by (try simp only [List.map_toArray, List.map_cons, List.map_nil]); first | done | rfl | (simp only [List.length_drop, List.length_take]; rfl)) ?_; (with_reducible refine (seamarkref29_Inv.calls kj10 a0 t534 t535 _ A19.out).mono ?_); rintro e w' ⟨rfl, ⟨nd, rfl⟩⟩; refine ⟨_, rfl, ?_⟩))
        (try simp only [Act.put, List.setIfInBounds_toArray, List.set_cons_zero, List.set_cons_succ])
        go_cut [19] (fun v19 wc => ∃ (kq : Nat) (x19_19 : Bool), v19 = .bool x19_19 ∧ Aside0 (seamarklaw29_ErasureMatchesReference.j1 kq l2 a3 a4 a5 l6 l7 a8 x19_19 = some r) ∧ Aside0 (kq ≤ kj10) ∧ Aside0 (Below w.heap.size w wc))
        case first =>
          have H := HC20.out
          clear HC20
          by_cases c21 : t529 = true
          · subst c21
            have H1 : ((erasure_Mul.f kj10 a0 a1).bind fun t536 => ((seamarkref29_Mul.f kj10 a0 a1).bind fun t537 => (if t536 = t537 then (if t532 = t534 then (seamarklaw29_ErasureMatchesReference.j1 kj10 l2 a3 a4 a5 l6 l7 a8 (t533 == t535)) else (seamarklaw29_ErasureMatchesReference.j1 kj10 l2 a3 a4 a5 l6 l7 a8 false)) else (seamarklaw29_ErasureMatchesReference.j1 kj10 l2 a3 a4 a5 l6 l7 a8 false)))) = some r := by rw [if_pos rfl] at H; exact H
            clear H
            have H := H1
            clear H1
            replace H := Option.bind_eq_some_iff.mp H
            obtain ⟨t536, A220, H⟩ := H
            replace H : ((seamarkref29_Mul.f kj10 a0 a1).bind fun t537 => (if t536 = t537 then (if t532 = t534 then (seamarklaw29_ErasureMatchesReference.j1 kj10 l2 a3 a4 a5 l6 l7 a8 (t533 == t535)) else (seamarklaw29_ErasureMatchesReference.j1 kj10 l2 a3 a4 a5 l6 l7 a8 false)) else (seamarklaw29_ErasureMatchesReference.j1 kj10 l2 a3 a4 a5 l6 l7 a8 false))) = some r := H
            have A22 := Aside0.mk A220
            clear A220
            replace H := Option.bind_eq_some_iff.mp H
            obtain ⟨t537, A230, H⟩ := H
            replace H : (if t536 = t537 then (if t532 = t534 then (seamarklaw29_ErasureMatchesReference.j1 kj10 l2 a3 a4 a5 l6 l7 a8 (t533 == t535)) else (seamarklaw29_ErasureMatchesReference.j1 kj10 l2 a3 a4 a5 l6 l7 a8 false)) else (seamarklaw29_ErasureMatchesReference.j1 kj10 l2 a3 a4 a5 l6 l7 a8 false)) = some r := H
            have A23 := Aside0.mk A230
            clear A230
            by_cases c24 : t536 = t537
            · rw [if_pos c24] at H
              have c24b0 : (t536 == t537) = true := beq_iff_eq.mpr c24
              have c24b1 : (t536 != t537) = false := bne_eq_false_iff_eq.mpr c24
              clear c24
              (first | rw [c24b0] | (simp only [i64_w, i32_w]; rw [c24b0]) | skip)
              by_cases c25 : t532 = t534
              · rw [if_pos c25] at H
                have c25b0 : (t532 == t534) = true := beq_iff_eq.mpr c25
                have c25b1 : (t532 != t534) = false := bne_eq_false_iff_eq.mpr c25
                clear c25
                have H' := Aside0.mk H
                clear H
                go_wp2_with (first | (go_at_call 12; (with_reducible refine (erasure_Mul.calls kj10 a0 a1 t536 _ A22.out).mono ?_); rintro e w' ⟨rfl, ⟨nd, rfl⟩⟩) | (go_at_call 25; (with_reducible refine (seamarkref29_Mul.calls kj10 a0 a1 t537 _ A23.out).mono ?_); rintro e w' ⟨rfl, ⟨nd, rfl⟩⟩))
                go_meet
                case rel => exact ⟨_, ((t533 == t535)), (by first | rfl | (simp; done) | (simp [*]; done)), H', ⟨by have := HJ10.out; first | omega | exact Nat.le_refl _⟩, ⟨by repeat (first | (with_reducible first | exact HB.out | apply below_alloc | apply pw_below_drewN | apply below_drew1) | exact HB.out)⟩⟩
              · rw [if_neg c25] at H
                have c25b0 : (t532 == t534) = false := beq_eq_false_iff_ne.mpr c25
                have c25b1 : (t532 != t534) = true := bne_iff_ne.mpr c25
                have H' := Aside0.mk H
                clear H
                go_wp2_with (first | (go_at_call 12; (with_reducible refine (erasure_Mul.calls kj10 a0 a1 t536 _ A22.out).mono ?_); rintro e w' ⟨rfl, ⟨nd, rfl⟩⟩) | (go_at_call 25; (with_reducible refine (seamarkref29_Mul.calls kj10 a0 a1 t537 _ A23.out).mono ?_); rintro e w' ⟨rfl, ⟨nd, rfl⟩⟩))
                go_meet
                case rel => exact ⟨_, (false), (by first | rfl | (simp; done) | (simp [*]; done)), H', ⟨by have := HJ10.out; first | omega | exact Nat.le_refl _⟩, ⟨by repeat (first | (with_reducible first | exact HB.out | apply below_alloc | apply pw_below_drewN | apply below_drew1) | exact HB.out)⟩⟩
            · rw [if_neg c24] at H
              have c24b0 : (t536 == t537) = false := beq_eq_false_iff_ne.mpr c24
              have c24b1 : (t536 != t537) = true := bne_iff_ne.mpr c24
              (first | rw [c24b0] | (simp only [i64_w, i32_w]; rw [c24b0]) | skip)
              have H' := Aside0.mk H
              clear H
              go_wp2_with (first | (go_at_call 12; (with_reducible refine (erasure_Mul.calls kj10 a0 a1 t536 _ A22.out).mono ?_); rintro e w' ⟨rfl, ⟨nd, rfl⟩⟩) | (go_at_call 25; (with_reducible refine (seamarkref29_Mul.calls kj10 a0 a1 t537 _ A23.out).mono ?_); rintro e w' ⟨rfl, ⟨nd, rfl⟩⟩))
              go_meet
              case rel => exact ⟨_, (false), (by first | rfl | (simp; done) | (simp [*]; done)), H', ⟨by have := HJ10.out; first | omega | exact Nat.le_refl _⟩, ⟨by repeat (first | (with_reducible first | exact HB.out | apply below_alloc | apply pw_below_drewN | apply below_drew1) | exact HB.out)⟩⟩
          · replace c21 := Bool.eq_false_iff.mpr c21
            subst c21
            have H1 : (seamarklaw29_ErasureMatchesReference.j1 kj10 l2 a3 a4 a5 l6 l7 a8 false) = some r := by rw [if_neg (show ¬ (false = true) by decide)] at H; exact H
            clear H
            have H := H1
            clear H1
            have H' := Aside0.mk H
            clear H
            go_wp2
            go_meet
            case rel => exact ⟨_, (false), (by first | rfl | (simp; done) | (simp [*]; done)), H', ⟨by have := HJ10.out; first | omega | exact Nat.le_refl _⟩, ⟨by repeat (first | (with_reducible first | exact HB.out | apply below_alloc | apply pw_below_drewN | apply below_drew1) | exact HB.out)⟩⟩
        case rest =>
          clear HC20
          (try clear c1); (try clear c2); (try clear p2); (try clear c6); (try clear c7); (try clear c8); (try clear c11); (try clear c13); (try clear c14); (try clear c16); (try clear c17); (try clear c21); (try clear c23); (try clear c24); (try clear c24b0); (try clear c24b1); (try clear c25); (try clear c25b0); (try clear c25b1); (try clear p2)
          obtain ⟨kq, x19_19, rfl, HA, HJ19, HB⟩ := hcut
          cases kq with
          | zero => exact absurd HA.out (by simp [seamarklaw29_ErasureMatchesReference.j1])
          | succ kj19 =>
            have H := HA.out
            clear HA
            simp only [seamarklaw29_ErasureMatchesReference.j1] at H
            replace H := Option.bind_eq_some_iff.mp H
            obtain ⟨⟨t538, t539⟩, A260, H⟩ := H
            replace H : ((seamarkref29_Code.f kj19 l2 a3).bind fun bt542 => (if x19_19 = true then ((seamarkref29_Same.f kj19 t538 bt542.1).bind fun t546 => (if t546 = true then (seamarklaw29_ErasureMatchesReference.j2 kj19 a4 a5 l6 l7 a8 (t539 == bt542.2)) else (seamarklaw29_ErasureMatchesReference.j2 kj19 a4 a5 l6 l7 a8 false))) else (seamarklaw29_ErasureMatchesReference.j2 kj19 a4 a5 l6 l7 a8 false))) = some r := H
            have A26 := Aside0.mk A260
            clear A260
            replace H := Option.bind_eq_some_iff.mp H
            obtain ⟨⟨t542, t543⟩, A270, H⟩ := H
            replace H : (if x19_19 = true then ((seamarkref29_Same.f kj19 t538 t542).bind fun t546 => (if t546 = true then (seamarklaw29_ErasureMatchesReference.j2 kj19 a4 a5 l6 l7 a8 (t539 == t543)) else (seamarklaw29_ErasureMatchesReference.j2 kj19 a4 a5 l6 l7 a8 false))) else (seamarklaw29_ErasureMatchesReference.j2 kj19 a4 a5 l6 l7 a8 false)) = some r := H
            have A27 := Aside0.mk A270
            clear A270
            have HC28 := Aside0.mk H
            clear H
            go_upto_region 9 with (first | ((with_reducible refine gate_callee (f := 15) rfl ?_); refine goesL_ (some 78) rfl rfl Try.func15 (by kernel_rfl) rfl #[.slice A2 l2.length c2, .int .i64 a3] rfl (by (try simp only [List.map_toArray, List.map_cons, List.map_nil]); first | done | rfl | (simp only [List.length_drop, List.length_take]; rfl)) ?_; (with_reducible refine (erasure_Code.calls kj19 _ _ l2 a3 t538 t539 _ ?side1 ?side2 A26.out).mono ?_); (case side1 => repeat (first | exact (Kd.C_below HR2.out HB.out) | (with_reducible refine Kd.C_alloc ?_ _) | (with_reducible refine Kd.C_drewN ?_ _) | (with_reducible refine Kd.C_drew ?_))); (case side2 => exact HC2.out); rintro e w29 ⟨v540, rfl, ho0, hb⟩; refine ⟨_, rfl, ?_⟩; have n0_ := Aside0.mk (Kd.S_lower ho0 (below_size (by repeat (first | (with_reducible first | exact HB.out | apply below_alloc | apply pw_below_drewN | apply below_drew1) | exact HB.out)))); have n1_ := Aside0.mk (below_step (by repeat (first | (with_reducible first | exact HB.out | apply below_alloc | apply pw_below_drewN | apply below_drew1) | exact HB.out)) hb); clear HB; have HO541 := n0_; have HB := n1_; clear n0_ n1_; (try clear hb); (try clear hb2); (try clear hk); (try clear hi); (try clear ho0)) | ((with_reducible refine gate_callee (f := 26) rfl ?_); refine goesL_ (some 84) rfl rfl Try.func26 (by kernel_rfl) rfl #[.slice A2 l2.length c2, .int .i64 a3] rfl (by (try simp only [List.map_toArray, List.map_cons, List.map_nil]); first | done | rfl | (simp only [List.length_drop, List.length_take]; rfl)) ?_; (with_reducible refine (seamarkref29_Code.calls kj19 _ _ l2 a3 t542 t543 _ ?side1 ?side2 A27.out).mono ?_); (case side1 => repeat (first | exact (Kd.C_below HR2.out HB.out) | (with_reducible refine Kd.C_alloc ?_ _) | (with_reducible refine Kd.C_drewN ?_ _) | (with_reducible refine Kd.C_drew ?_))); (case side2 => exact HC2.out); rintro e w30 ⟨v544, rfl, ho0, hb⟩; refine ⟨_, rfl, ?_⟩; have n0_ := Aside0.mk (Kd.S_elder' (by (with_reducible repeat (first | apply Kd.S_alloc | apply Kd.S_drewN | apply Kd.S_drew)); exact HO541.out) (Kd.S_base ho0) hb); have n1_ := Aside0.mk (Kd.S_lower (Kd.S_new' ho0 (Kd.S_lt (by (with_reducible repeat (first | apply Kd.S_alloc | apply Kd.S_drewN | apply Kd.S_drew)); exact HO541.out))) (below_size (by repeat (first | (with_reducible first | exact HB.out | apply below_alloc | apply pw_below_drewN | apply below_drew1) | exact HB.out)))); have n2_ := Aside0.mk (below_step (by repeat (first | (with_reducible first | exact HB.out | apply below_alloc | apply pw_below_drewN | apply below_drew1) | exact HB.out)) hb); clear HO541; clear HB; have HO541 := n0_; have HO545 := n1_; have HB := n2_; clear n0_ n1_ n2_; (try clear hb); (try clear hb2); (try clear hk); (try clear hi); (try clear ho0)))
            (try simp only [Act.put, List.setIfInBounds_toArray, List.set_cons_zero, List.set_cons_succ])
            go_cut [19] (fun v19 wc => ∃ (kq : Nat) (x19_27 : Bool), v19 = .bool x19_27 ∧ Aside0 (seamarklaw29_ErasureMatchesReference.j2 kq a4 a5 l6 l7 a8 x19_27 = some r) ∧ Aside0 (kq ≤ kj19) ∧ Aside0 (Below w.heap.size w wc))
            case first =>
              have H := HC28.out
              clear HC28
              by_cases c31 : x19_19 = true
              · subst c31
                have H1 : ((seamarkref29_Same.f kj19 t538 t542).bind fun t546 => (if t546 = true then (seamarklaw29_ErasureMatchesReference.j2 kj19 a4 a5 l6 l7 a8 (t539 == t543)) else (seamarklaw29_ErasureMatchesReference.j2 kj19 a4 a5 l6 l7 a8 false))) = some r := by rw [if_pos rfl] at H; exact H
                clear H
                have H := H1
                clear H1
                replace H := Option.bind_eq_some_iff.mp H
                obtain ⟨t546, A320, H⟩ := H
                replace H : (if t546 = true then (seamarklaw29_ErasureMatchesReference.j2 kj19 a4 a5 l6 l7 a8 (t539 == t543)) else (seamarklaw29_ErasureMatchesReference.j2 kj19 a4 a5 l6 l7 a8 false)) = some r := H
                have A32 := Aside0.mk A320
                clear A320
                by_cases c33 : t546 = true
                · subst c33
                  have H1 : (seamarklaw29_ErasureMatchesReference.j2 kj19 a4 a5 l6 l7 a8 (t539 == t543)) = some r := by rw [if_pos rfl] at H; exact H
                  clear H
                  have H := H1
                  clear H1
                  have H' := Aside0.mk H
                  clear H
                  obtain ⟨Ao34, co34, eo34⟩ := Kd.S_slice HO541.out
                  subst eo34
                  obtain ⟨Ao35, co35, eo35⟩ := Kd.S_slice HO545.out
                  subst eo35
                  go_wp2_with (first | (go_at_call 19; (with_reducible refine (seamarkref29_Same.calls kj19 _ _ t538 _ _ t542 true _ ?side1 ?side2 ?side3 ?side4 A32.out).mono ?_); (case side1 => repeat (first | exact (Kd.S_reads' HO541.out).2.2 | (with_reducible refine Kd.C_alloc ?_ _) | (with_reducible refine Kd.C_drewN ?_ _) | (with_reducible refine Kd.C_drew ?_))); (case side2 => exact (Kd.S_reads' HO541.out).2.1); (case side3 => repeat (first | exact (Kd.S_reads' HO545.out).2.2 | (with_reducible refine Kd.C_alloc ?_ _) | (with_reducible refine Kd.C_drewN ?_ _) | (with_reducible refine Kd.C_drew ?_))); (case side4 => exact (Kd.S_reads' HO545.out).2.1); rintro e w' ⟨rfl, ⟨nd, rfl⟩⟩))
                  go_meet
                  case rel => exact ⟨_, ((t539 == t543)), (by first | rfl | (simp; done) | (simp [*]; done)), H', ⟨by have := HJ10.out; have := HJ19.out; first | omega | exact Nat.le_refl _⟩, ⟨by repeat (first | (with_reducible first | exact HB.out | apply below_alloc | apply pw_below_drewN | apply below_drew1) | exact HB.out)⟩⟩
                · replace c33 := Bool.eq_false_iff.mpr c33
                  subst c33
                  have H1 : (seamarklaw29_ErasureMatchesReference.j2 kj19 a4 a5 l6 l7 a8 false) = some r := by rw [if_neg (show ¬ (false = true) by decide)] at H; exact H
                  clear H
                  have H := H1
                  clear H1
                  have H' := Aside0.mk H
                  clear H
                  obtain ⟨Ao36, co36, eo36⟩ := Kd.S_slice HO541.out
                  subst eo36
                  obtain ⟨Ao37, co37, eo37⟩ := Kd.S_slice HO545.out
                  subst eo37
                  go_wp2_with (first | (go_at_call 19; (with_reducible refine (seamarkref29_Same.calls kj19 _ _ t538 _ _ t542 false _ ?side1 ?side2 ?side3 ?side4 A32.out).mono ?_); (case side1 => repeat (first | exact (Kd.S_reads' HO541.out).2.2 | (with_reducible refine Kd.C_alloc ?_ _) | (with_reducible refine Kd.C_drewN ?_ _) | (with_reducible refine Kd.C_drew ?_))); (case side2 => exact (Kd.S_reads' HO541.out).2.1); (case side3 => repeat (first | exact (Kd.S_reads' HO545.out).2.2 | (with_reducible refine Kd.C_alloc ?_ _) | (with_reducible refine Kd.C_drewN ?_ _) | (with_reducible refine Kd.C_drew ?_))); (case side4 => exact (Kd.S_reads' HO545.out).2.1); rintro e w' ⟨rfl, ⟨nd, rfl⟩⟩))
                  go_meet
                  case rel => exact ⟨_, (false), (by first | rfl | (simp; done) | (simp [*]; done)), H', ⟨by have := HJ10.out; have := HJ19.out; first | omega | exact Nat.le_refl _⟩, ⟨by repeat (first | (with_reducible first | exact HB.out | apply below_alloc | apply pw_below_drewN | apply below_drew1) | exact HB.out)⟩⟩
              · replace c31 := Bool.eq_false_iff.mpr c31
                subst c31
                have H1 : (seamarklaw29_ErasureMatchesReference.j2 kj19 a4 a5 l6 l7 a8 false) = some r := by rw [if_neg (show ¬ (false = true) by decide)] at H; exact H
                clear H
                have H := H1
                clear H1
                have H' := Aside0.mk H
                clear H
                go_wp2
                go_meet
                case rel => exact ⟨_, (false), (by first | rfl | (simp; done) | (simp [*]; done)), H', ⟨by have := HJ10.out; have := HJ19.out; first | omega | exact Nat.le_refl _⟩, ⟨by repeat (first | (with_reducible first | exact HB.out | apply below_alloc | apply pw_below_drewN | apply below_drew1) | exact HB.out)⟩⟩
            case rest =>
              clear HC28
              (try clear c1); (try clear c2); (try clear p2); (try clear c3); (try clear c6); (try clear c7); (try clear c8); (try clear c11); (try clear c13); (try clear c14); (try clear c15); (try clear c16); (try clear c17); (try clear c21); (try clear c23); (try clear c24); (try clear c24b0); (try clear c24b1); (try clear c25); (try clear c25b0); (try clear c25b1); (try clear c26); (try clear c31); (try clear c33); (try clear p2)
              obtain ⟨kq, x19_27, rfl, HA, HJ27, HB⟩ := hcut
              cases kq with
              | zero => exact absurd HA.out (by simp [seamarklaw29_ErasureMatchesReference.j2])
              | succ kj27 =>
                have H := HA.out
                clear HA
                simp only [seamarklaw29_ErasureMatchesReference.j2] at H
                replace H := Option.bind_eq_some_iff.mp H
                obtain ⟨⟨t547, t548⟩, A380, H⟩ := H
                replace H : ((seamarkref29_Decode.f kj27 a4 a5 l6 l7).bind fun bt551 => (if x19_27 = true then ((seamarkref29_Same.f kj27 t547 bt551.1).bind fun t555 => (if t555 = true then (seamarklaw29_ErasureMatchesReference.j3 kj27 a4 l6 l7 a8 (t548 == bt551.2)) else (seamarklaw29_ErasureMatchesReference.j3 kj27 a4 l6 l7 a8 false))) else (seamarklaw29_ErasureMatchesReference.j3 kj27 a4 l6 l7 a8 false))) = some r := H
                have A38 := Aside0.mk A380
                clear A380
                replace H := Option.bind_eq_some_iff.mp H
                obtain ⟨⟨t551, t552⟩, A390, H⟩ := H
                replace H : (if x19_27 = true then ((seamarkref29_Same.f kj27 t547 t551).bind fun t555 => (if t555 = true then (seamarklaw29_ErasureMatchesReference.j3 kj27 a4 l6 l7 a8 (t548 == t552)) else (seamarklaw29_ErasureMatchesReference.j3 kj27 a4 l6 l7 a8 false))) else (seamarklaw29_ErasureMatchesReference.j3 kj27 a4 l6 l7 a8 false)) = some r := H
                have A39 := Aside0.mk A390
                clear A390
                have HC40 := Aside0.mk H
                clear H
                go_upto_region 12 with (first | ((with_reducible refine gate_callee (f := 17) rfl ?_); refine goesL_ (some 103) rfl rfl Try.func17 (by kernel_rfl) rfl #[.int .i64 a4, .int .i64 a5, .slice A6 l6.length c6, .slice A7 l7.length c7] rfl (by (try simp only [List.map_toArray, List.map_cons, List.map_nil]); first | done | rfl | (simp only [List.length_drop, List.length_take]; rfl)) ?_; (with_reducible refine (erasure_Decode.calls kj27 a4 a5 _ _ l6 _ _ l7 t547 t548 _ ?side1 ?side2 ?side3 ?side4 A38.out).mono ?_); (case side1 => repeat (first | exact (Kd.C_below HR6.out HB.out) | (with_reducible refine Kd.C_alloc ?_ _) | (with_reducible refine Kd.C_drewN ?_ _) | (with_reducible refine Kd.C_drew ?_))); (case side2 => exact HC6.out); (case side3 => repeat (first | exact (Kd.C_below HR7.out HB.out) | (with_reducible refine Kd.C_alloc ?_ _) | (with_reducible refine Kd.C_drewN ?_ _) | (with_reducible refine Kd.C_drew ?_))); (case side4 => exact HC7.out); rintro e w41 ⟨v549, rfl, ho0, hb⟩; refine ⟨_, rfl, ?_⟩; have n0_ := Aside0.mk (Kd.S_lower ho0 (below_size (by repeat (first | (with_reducible first | exact HB.out | apply below_alloc | apply pw_below_drewN | apply below_drew1) | exact HB.out)))); have n1_ := Aside0.mk (below_step (by repeat (first | (with_reducible first | exact HB.out | apply below_alloc | apply pw_below_drewN | apply below_drew1) | exact HB.out)) hb); clear HB; have HO550 := n0_; have HB := n1_; clear n0_ n1_; (try clear hb); (try clear hb2); (try clear hk); (try clear hi); (try clear ho0)) | ((with_reducible refine gate_callee (f := 27) rfl ?_); refine goesL_ (some 111) rfl rfl Try.func27 (by kernel_rfl) rfl #[.int .i64 a4, .int .i64 a5, .slice A6 l6.length c6, .slice A7 l7.length c7] rfl (by (try simp only [List.map_toArray, List.map_cons, List.map_nil]); first | done | rfl | (simp only [List.length_drop, List.length_take]; rfl)) ?_; (with_reducible refine (seamarkref29_Decode.calls kj27 a4 a5 _ _ l6 _ _ l7 t551 t552 _ ?side1 ?side2 ?side3 ?side4 A39.out).mono ?_); (case side1 => repeat (first | exact (Kd.C_below HR6.out HB.out) | (with_reducible refine Kd.C_alloc ?_ _) | (with_reducible refine Kd.C_drewN ?_ _) | (with_reducible refine Kd.C_drew ?_))); (case side2 => exact HC6.out); (case side3 => repeat (first | exact (Kd.C_below HR7.out HB.out) | (with_reducible refine Kd.C_alloc ?_ _) | (with_reducible refine Kd.C_drewN ?_ _) | (with_reducible refine Kd.C_drew ?_))); (case side4 => exact HC7.out); rintro e w42 ⟨v553, rfl, ho0, hb⟩; refine ⟨_, rfl, ?_⟩; have n0_ := Aside0.mk (Kd.S_elder' (by (with_reducible repeat (first | apply Kd.S_alloc | apply Kd.S_drewN | apply Kd.S_drew)); exact HO550.out) (Kd.S_base ho0) hb); have n1_ := Aside0.mk (Kd.S_lower (Kd.S_new' ho0 (Kd.S_lt (by (with_reducible repeat (first | apply Kd.S_alloc | apply Kd.S_drewN | apply Kd.S_drew)); exact HO550.out))) (below_size (by repeat (first | (with_reducible first | exact HB.out | apply below_alloc | apply pw_below_drewN | apply below_drew1) | exact HB.out)))); have n2_ := Aside0.mk (below_step (by repeat (first | (with_reducible first | exact HB.out | apply below_alloc | apply pw_below_drewN | apply below_drew1) | exact HB.out)) hb); clear HO550; clear HB; have HO550 := n0_; have HO554 := n1_; have HB := n2_; clear n0_ n1_ n2_; (try clear hb); (try clear hb2); (try clear hk); (try clear hi); (try clear ho0)))
                (try simp only [Act.put, List.setIfInBounds_toArray, List.set_cons_zero, List.set_cons_succ])
                go_cut [19] (fun v19 wc => ∃ (kq : Nat) (x19_39 : Bool), v19 = .bool x19_39 ∧ Aside0 (seamarklaw29_ErasureMatchesReference.j3 kq a4 l6 l7 a8 x19_39 = some r) ∧ Aside0 (kq ≤ kj27) ∧ Aside0 (Below w.heap.size w wc))
                case first =>
                  have H := HC40.out
                  clear HC40
                  by_cases c43 : x19_27 = true
                  · subst c43
                    have H1 : ((seamarkref29_Same.f kj27 t547 t551).bind fun t555 => (if t555 = true then (seamarklaw29_ErasureMatchesReference.j3 kj27 a4 l6 l7 a8 (t548 == t552)) else (seamarklaw29_ErasureMatchesReference.j3 kj27 a4 l6 l7 a8 false))) = some r := by rw [if_pos rfl] at H; exact H
                    clear H
                    have H := H1
                    clear H1
                    replace H := Option.bind_eq_some_iff.mp H
                    obtain ⟨t555, A440, H⟩ := H
                    replace H : (if t555 = true then (seamarklaw29_ErasureMatchesReference.j3 kj27 a4 l6 l7 a8 (t548 == t552)) else (seamarklaw29_ErasureMatchesReference.j3 kj27 a4 l6 l7 a8 false)) = some r := H
                    have A44 := Aside0.mk A440
                    clear A440
                    by_cases c45 : t555 = true
                    · subst c45
                      have H1 : (seamarklaw29_ErasureMatchesReference.j3 kj27 a4 l6 l7 a8 (t548 == t552)) = some r := by rw [if_pos rfl] at H; exact H
                      clear H
                      have H := H1
                      clear H1
                      have H' := Aside0.mk H
                      clear H
                      obtain ⟨Ao46, co46, eo46⟩ := Kd.S_slice HO550.out
                      subst eo46
                      obtain ⟨Ao47, co47, eo47⟩ := Kd.S_slice HO554.out
                      subst eo47
                      go_wp2_with (first | (go_at_call 19; (with_reducible refine (seamarkref29_Same.calls kj27 _ _ t547 _ _ t551 true _ ?side1 ?side2 ?side3 ?side4 A44.out).mono ?_); (case side1 => repeat (first | exact (Kd.S_reads' HO550.out).2.2 | (with_reducible refine Kd.C_alloc ?_ _) | (with_reducible refine Kd.C_drewN ?_ _) | (with_reducible refine Kd.C_drew ?_))); (case side2 => exact (Kd.S_reads' HO550.out).2.1); (case side3 => repeat (first | exact (Kd.S_reads' HO554.out).2.2 | (with_reducible refine Kd.C_alloc ?_ _) | (with_reducible refine Kd.C_drewN ?_ _) | (with_reducible refine Kd.C_drew ?_))); (case side4 => exact (Kd.S_reads' HO554.out).2.1); rintro e w' ⟨rfl, ⟨nd, rfl⟩⟩))
                      go_meet
                      case rel => exact ⟨_, ((t548 == t552)), (by first | rfl | (simp; done) | (simp [*]; done)), H', ⟨by have := HJ10.out; have := HJ19.out; have := HJ27.out; first | omega | exact Nat.le_refl _⟩, ⟨by repeat (first | (with_reducible first | exact HB.out | apply below_alloc | apply pw_below_drewN | apply below_drew1) | exact HB.out)⟩⟩
                    · replace c45 := Bool.eq_false_iff.mpr c45
                      subst c45
                      have H1 : (seamarklaw29_ErasureMatchesReference.j3 kj27 a4 l6 l7 a8 false) = some r := by rw [if_neg (show ¬ (false = true) by decide)] at H; exact H
                      clear H
                      have H := H1
                      clear H1
                      have H' := Aside0.mk H
                      clear H
                      obtain ⟨Ao48, co48, eo48⟩ := Kd.S_slice HO550.out
                      subst eo48
                      obtain ⟨Ao49, co49, eo49⟩ := Kd.S_slice HO554.out
                      subst eo49
                      go_wp2_with (first | (go_at_call 19; (with_reducible refine (seamarkref29_Same.calls kj27 _ _ t547 _ _ t551 false _ ?side1 ?side2 ?side3 ?side4 A44.out).mono ?_); (case side1 => repeat (first | exact (Kd.S_reads' HO550.out).2.2 | (with_reducible refine Kd.C_alloc ?_ _) | (with_reducible refine Kd.C_drewN ?_ _) | (with_reducible refine Kd.C_drew ?_))); (case side2 => exact (Kd.S_reads' HO550.out).2.1); (case side3 => repeat (first | exact (Kd.S_reads' HO554.out).2.2 | (with_reducible refine Kd.C_alloc ?_ _) | (with_reducible refine Kd.C_drewN ?_ _) | (with_reducible refine Kd.C_drew ?_))); (case side4 => exact (Kd.S_reads' HO554.out).2.1); rintro e w' ⟨rfl, ⟨nd, rfl⟩⟩))
                      go_meet
                      case rel => exact ⟨_, (false), (by first | rfl | (simp; done) | (simp [*]; done)), H', ⟨by have := HJ10.out; have := HJ19.out; have := HJ27.out; first | omega | exact Nat.le_refl _⟩, ⟨by repeat (first | (with_reducible first | exact HB.out | apply below_alloc | apply pw_below_drewN | apply below_drew1) | exact HB.out)⟩⟩
                  · replace c43 := Bool.eq_false_iff.mpr c43
                    subst c43
                    have H1 : (seamarklaw29_ErasureMatchesReference.j3 kj27 a4 l6 l7 a8 false) = some r := by rw [if_neg (show ¬ (false = true) by decide)] at H; exact H
                    clear H
                    have H := H1
                    clear H1
                    have H' := Aside0.mk H
                    clear H
                    go_wp2
                    go_meet
                    case rel => exact ⟨_, (false), (by first | rfl | (simp; done) | (simp [*]; done)), H', ⟨by have := HJ10.out; have := HJ19.out; have := HJ27.out; first | omega | exact Nat.le_refl _⟩, ⟨by repeat (first | (with_reducible first | exact HB.out | apply below_alloc | apply pw_below_drewN | apply below_drew1) | exact HB.out)⟩⟩
                case rest =>
                  clear HC40
                  (try clear c1); (try clear c2); (try clear p2); (try clear c3); (try clear c4); (try clear c6); (try clear c7); (try clear c8); (try clear c11); (try clear c13); (try clear c14); (try clear c15); (try clear c16); (try clear c17); (try clear c21); (try clear c23); (try clear c24); (try clear c24b0); (try clear c24b1); (try clear c25); (try clear c25b0); (try clear c25b1); (try clear c26); (try clear c27); (try clear c31); (try clear c33); (try clear c43); (try clear c45); (try clear p2)
                  obtain ⟨kq, x19_39, rfl, HA, HJ39, HB⟩ := hcut
                  cases kq with
                  | zero => exact absurd HA.out (by simp [seamarklaw29_ErasureMatchesReference.j3])
                  | succ kj39 =>
                    have H := HA.out
                    clear HA
                    simp only [seamarklaw29_ErasureMatchesReference.j3] at H
                    replace H := Option.bind_eq_some_iff.mp H
                    obtain ⟨⟨t556, t557⟩, A500, H⟩ := H
                    replace H : ((seamarkref29_Repair.f kj39 a4 l6 l7 a8).bind fun bt560 => (if x19_39 = true then ((seamarkref29_Bytes.f kj39 t556 bt560.1).bind fun t564 => (if t564 = true then ((erasure_Fits.f kj39 a4 l6 l7).bind fun bt565 => ((seamarkref29_Fits.f kj39 a4 l6 l7).bind fun bt567 => (if t557 = bt560.2 then (if (bt565.1 == bt567.1) = true then (some (bt565.2 == bt567.2)) else (none)) else (none)))) else (none))) else (none))) = some r := H
                    have A50 := Aside0.mk A500
                    clear A500
                    replace H := Option.bind_eq_some_iff.mp H
                    obtain ⟨⟨t560, t561⟩, A510, H⟩ := H
                    replace H : (if x19_39 = true then ((seamarkref29_Bytes.f kj39 t556 t560).bind fun t564 => (if t564 = true then ((erasure_Fits.f kj39 a4 l6 l7).bind fun bt565 => ((seamarkref29_Fits.f kj39 a4 l6 l7).bind fun bt567 => (if t557 = t561 then (if (bt565.1 == bt567.1) = true then (some (bt565.2 == bt567.2)) else (none)) else (none)))) else (none))) else (none)) = some r := H
                    have A51 := Aside0.mk A510
                    clear A510
                    by_cases c52 : x19_39 = true
                    · subst c52
                      have H1 : ((seamarkref29_Bytes.f kj39 t556 t560).bind fun t564 => (if t564 = true then ((erasure_Fits.f kj39 a4 l6 l7).bind fun bt565 => ((seamarkref29_Fits.f kj39 a4 l6 l7).bind fun bt567 => (if t557 = t561 then (if (bt565.1 == bt567.1) = true then (some (bt565.2 == bt567.2)) else (none)) else (none)))) else (none))) = some r := by rw [if_pos rfl] at H; exact H
                      clear H
                      have H := H1
                      clear H1
                      replace H := Option.bind_eq_some_iff.mp H
                      obtain ⟨t564, A530, H⟩ := H
                      replace H : (if t564 = true then ((erasure_Fits.f kj39 a4 l6 l7).bind fun bt565 => ((seamarkref29_Fits.f kj39 a4 l6 l7).bind fun bt567 => (if t557 = t561 then (if (bt565.1 == bt567.1) = true then (some (bt565.2 == bt567.2)) else (none)) else (none)))) else (none)) = some r := H
                      have A53 := Aside0.mk A530
                      clear A530
                      by_cases c54 : t564 = true
                      · subst c54
                        have H1 : ((erasure_Fits.f kj39 a4 l6 l7).bind fun bt565 => ((seamarkref29_Fits.f kj39 a4 l6 l7).bind fun bt567 => (if t557 = t561 then (if (bt565.1 == bt567.1) = true then (some (bt565.2 == bt567.2)) else (none)) else (none)))) = some r := by rw [if_pos rfl] at H; exact H
                        clear H
                        have H := H1
                        clear H1
                        replace H := Option.bind_eq_some_iff.mp H
                        obtain ⟨⟨t565, t566⟩, A550, H⟩ := H
                        replace H : ((seamarkref29_Fits.f kj39 a4 l6 l7).bind fun bt567 => (if t557 = t561 then (if (t565 == bt567.1) = true then (some (t566 == bt567.2)) else (none)) else (none))) = some r := H
                        have A55 := Aside0.mk A550
                        clear A550
                        replace H := Option.bind_eq_some_iff.mp H
                        obtain ⟨⟨t567, t568⟩, A560, H⟩ := H
                        replace H : (if t557 = t561 then (if (t565 == t567) = true then (some (t566 == t568)) else (none)) else (none)) = some r := H
                        have A56 := Aside0.mk A560
                        clear A560
                        by_cases c57 : t557 = t561
                        · rw [if_pos c57] at H
                          have c57b0 : (t557 == t561) = true := beq_iff_eq.mpr c57
                          have c57b1 : (t557 != t561) = false := bne_eq_false_iff_eq.mpr c57
                          clear c57
                          by_cases c58 : (t565 == t567) = true
                          · rw [if_pos c58] at H
                            have c58b0 : (t565 == t567) = true := c58
                            (try (have c58b1 : decide (t565 = t567) = true := by simpa using c58))
                            (try (have c58b2 : (t565 == t567) = true := by simpa using c58))
                            clear c58
                            obtain rfl := Option.some.inj H
                            go_wp2_with (first | ((with_reducible refine gate_callee (f := 28) rfl ?_); refine goesL_ (some 130) rfl rfl Try.func28 (by kernel_rfl) rfl #[.int .i64 a4, .slice A6 l6.length c6, .slice A7 l7.length c7, .int .i64 a8] rfl (by (try simp only [List.map_toArray, List.map_cons, List.map_nil]); first | done | rfl | (simp only [List.length_drop, List.length_take]; rfl)) ?_; (with_reducible refine (erasure_Repair.calls kj39 a4 _ _ l6 _ _ l7 a8 t556 t557 _ ?side1 ?side2 ?side3 ?side4 A50.out).mono ?_); (case side1 => repeat (first | exact (Kd.C_below HR6.out HB.out) | (with_reducible refine Kd.C_alloc ?_ _) | (with_reducible refine Kd.C_drewN ?_ _) | (with_reducible refine Kd.C_drew ?_))); (case side2 => exact HC6.out); (case side3 => repeat (first | exact (Kd.C_below HR7.out HB.out) | (with_reducible refine Kd.C_alloc ?_ _) | (with_reducible refine Kd.C_drewN ?_ _) | (with_reducible refine Kd.C_drew ?_))); (case side4 => exact HC7.out); rintro e w59 ⟨v558, rfl, ho0, hb⟩; refine ⟨_, rfl, ?_⟩; have n0_ := Aside0.mk (Kd.R_lower ho0 (below_size (by repeat (first | (with_reducible first | exact HB.out | apply below_alloc | apply pw_below_drewN | apply below_drew1) | exact HB.out)))); have n1_ := Aside0.mk (below_step (by repeat (first | (with_reducible first | exact HB.out | apply below_alloc | apply pw_below_drewN | apply below_drew1) | exact HB.out)) hb); clear HB; have HO559 := n0_; have HB := n1_; clear n0_ n1_; (try clear hb); (try clear hb2); (try clear hk); (try clear hi); (try clear ho0)) | ((with_reducible refine gate_callee (f := 29) rfl ?_); refine goesL_ (some 138) rfl rfl Try.func29 (by kernel_rfl) rfl #[.int .i64 a4, .slice A6 l6.length c6, .slice A7 l7.length c7, .int .i64 a8] rfl (by (try simp only [List.map_toArray, List.map_cons, List.map_nil]); first | done | rfl | (simp only [List.length_drop, List.length_take]; rfl)) ?_; (with_reducible refine (seamarkref29_Repair.calls kj39 a4 _ _ l6 _ _ l7 a8 t560 t561 _ ?side1 ?side2 ?side3 ?side4 A51.out).mono ?_); (case side1 => repeat (first | exact (Kd.C_below HR6.out HB.out) | (with_reducible refine Kd.C_alloc ?_ _) | (with_reducible refine Kd.C_drewN ?_ _) | (with_reducible refine Kd.C_drew ?_))); (case side2 => exact HC6.out); (case side3 => repeat (first | exact (Kd.C_below HR7.out HB.out) | (with_reducible refine Kd.C_alloc ?_ _) | (with_reducible refine Kd.C_drewN ?_ _) | (with_reducible refine Kd.C_drew ?_))); (case side4 => exact HC7.out); rintro e w60 ⟨v562, rfl, ho0, hb⟩; refine ⟨_, rfl, ?_⟩; have n0_ := Aside0.mk (Kd.R_elder' (by (with_reducible repeat (first | apply Kd.R_alloc | apply Kd.R_drewN | apply Kd.R_drew)); exact HO559.out) (Kd.R_base ho0) hb); have n1_ := Aside0.mk (Kd.R_lower (Kd.R_new' ho0 (Kd.R_lt (by (with_reducible repeat (first | apply Kd.R_alloc | apply Kd.R_drewN | apply Kd.R_drew)); exact HO559.out))) (below_size (by repeat (first | (with_reducible first | exact HB.out | apply below_alloc | apply pw_below_drewN | apply below_drew1) | exact HB.out)))); have n2_ := Aside0.mk (below_step (by repeat (first | (with_reducible first | exact HB.out | apply below_alloc | apply pw_below_drewN | apply below_drew1) | exact HB.out)) hb); clear HO559; clear HB; have HO559 := n0_; have HO563 := n1_; have HB := n2_; clear n0_ n1_ n2_; (try clear hb); (try clear hb2); (try clear hk); (try clear hi); (try clear ho0); obtain ⟨Ao61, co61, eo61⟩ := Kd.R_slice HO559.out; subst eo61; obtain ⟨Ao62, co62, eo62⟩ := Kd.R_slice HO563.out; subst eo62) | (go_at_call 22; (with_reducible refine (seamarkref29_Bytes.calls kj39 _ _ t556 _ _ t560 true _ ?side1 ?side2 ?side3 ?side4 A53.out).mono ?_); (case side1 => repeat (first | exact (Kd.R_reads' HO559.out).2.2 | (with_reducible refine Kd.C_alloc ?_ _) | (with_reducible refine Kd.C_drewN ?_ _) | (with_reducible refine Kd.C_drew ?_))); (case side2 => exact (Kd.R_reads' HO559.out).2.1); (case side3 => repeat (first | exact (Kd.R_reads' HO563.out).2.2 | (with_reducible refine Kd.C_alloc ?_ _) | (with_reducible refine Kd.C_drewN ?_ _) | (with_reducible refine Kd.C_drew ?_))); (case side4 => exact (Kd.R_reads' HO563.out).2.1); rintro e w' ⟨rfl, ⟨nd, rfl⟩⟩) | ((with_reducible refine gate_callee (f := 20) rfl ?_); refine goesL_ (some 156) rfl rfl Try.func20 (by kernel_rfl) rfl #[.int .i64 a4, .slice A6 l6.length c6, .slice A7 l7.length c7] rfl (by (try simp only [List.map_toArray, List.map_cons, List.map_nil]); first | done | rfl | (simp only [List.length_drop, List.length_take]; rfl)) ?_; (with_reducible refine (erasure_Fits.calls kj39 a4 _ _ l6 _ _ l7 t565 t566 _ ?side1 ?side2 ?side3 ?side4 A55.out).mono ?_); (case side1 => repeat (first | exact (Kd.C_below HR6.out (by repeat (first | (with_reducible first | exact HB.out | apply below_alloc | apply pw_below_drewN | apply below_drew1) | exact HB.out))) | (with_reducible refine Kd.C_alloc ?_ _) | (with_reducible refine Kd.C_drewN ?_ _) | (with_reducible refine Kd.C_drew ?_))); (case side2 => exact HC6.out); (case side3 => repeat (first | exact (Kd.C_below HR7.out (by repeat (first | (with_reducible first | exact HB.out | apply below_alloc | apply pw_below_drewN | apply below_drew1) | exact HB.out))) | (with_reducible refine Kd.C_alloc ?_ _) | (with_reducible refine Kd.C_drewN ?_ _) | (with_reducible refine Kd.C_drew ?_))); (case side4 => exact HC7.out); rintro e w63 ⟨rfl, hb⟩; refine ⟨_, rfl, ?_⟩; have n0_ := Aside0.mk (Kd.R_below (by (with_reducible repeat (first | apply Kd.R_alloc | apply Kd.R_drewN | apply Kd.R_drew)); exact HO559.out) hb); have n1_ := Aside0.mk (Kd.R_below (by (with_reducible repeat (first | apply Kd.R_alloc | apply Kd.R_drewN | apply Kd.R_drew)); exact HO563.out) hb); have n2_ := Aside0.mk (below_step (by repeat (first | (with_reducible first | exact HB.out | apply below_alloc | apply pw_below_drewN | apply below_drew1) | exact HB.out)) hb); clear HO559; clear HO563; clear HB; have HO559 := n0_; have HO563 := n1_; have HB := n2_; clear n0_ n1_ n2_; (try clear hb); (try clear hb2); (try clear hk); (try clear hi)) | ((with_reducible refine gate_callee (f := 30) rfl ?_); refine goesL_ (some 163) rfl rfl Try.func30 (by kernel_rfl) rfl #[.int .i64 a4, .slice A6 l6.length c6, .slice A7 l7.length c7] rfl (by (try simp only [List.map_toArray, List.map_cons, List.map_nil]); first | done | rfl | (simp only [List.length_drop, List.length_take]; rfl)) ?_; (with_reducible refine (seamarkref29_Fits.calls kj39 a4 _ _ l6 _ _ l7 t567 t568 _ ?side1 ?side2 ?side3 ?side4 A56.out).mono ?_); (case side1 => repeat (first | exact (Kd.C_below HR6.out HB.out) | (with_reducible refine Kd.C_alloc ?_ _) | (with_reducible refine Kd.C_drewN ?_ _) | (with_reducible refine Kd.C_drew ?_))); (case side2 => exact HC6.out); (case side3 => repeat (first | exact (Kd.C_below HR7.out HB.out) | (with_reducible refine Kd.C_alloc ?_ _) | (with_reducible refine Kd.C_drewN ?_ _) | (with_reducible refine Kd.C_drew ?_))); (case side4 => exact HC7.out); rintro e w64 ⟨rfl, hb⟩; refine ⟨_, rfl, ?_⟩; have n0_ := Aside0.mk (Kd.R_below (by (with_reducible repeat (first | apply Kd.R_alloc | apply Kd.R_drewN | apply Kd.R_drew)); exact HO559.out) hb); have n1_ := Aside0.mk (Kd.R_below (by (with_reducible repeat (first | apply Kd.R_alloc | apply Kd.R_drewN | apply Kd.R_drew)); exact HO563.out) hb); have n2_ := Aside0.mk (below_step (by repeat (first | (with_reducible first | exact HB.out | apply below_alloc | apply pw_below_drewN | apply below_drew1) | exact HB.out)) hb); clear HO559; clear HO563; clear HB; have HO559 := n0_; have HO563 := n1_; have HB := n2_; clear n0_ n1_ n2_; (try clear hb); (try clear hb2); (try clear hk); (try clear hi)))
                            go_ret
                            exact ⟨by first | rfl | (simp [errW_none, errW_some] <;> rfl) | (simp [*, errW_none, errW_some] <;> rfl), by repeat (first | (with_reducible first | exact HB.out | apply below_alloc | apply pw_below_drewN | apply below_drew1) | exact HB.out)⟩
                          · rw [if_neg c58] at H
                            exact absurd H (by simp)
                        · rw [if_neg c57] at H
                          exact absurd H (by simp)
                      · replace c54 := Bool.eq_false_iff.mpr c54
                        subst c54
                        have H1 : (none) = some r := by rw [if_neg (show ¬ (false = true) by decide)] at H; exact H
                        clear H
                        have H := H1
                        clear H1
                        exact absurd H (by simp)
                    · replace c52 := Bool.eq_false_iff.mpr c52
                      subst c52
                      have H1 : (none) = some r := by rw [if_neg (show ¬ (false = true) by decide)] at H; exact H
                      clear H
                      have H := H1
                      clear H1
                      exact absurd H (by simp)

end Go.Proofs.Ytcjjohealloglaa.E
