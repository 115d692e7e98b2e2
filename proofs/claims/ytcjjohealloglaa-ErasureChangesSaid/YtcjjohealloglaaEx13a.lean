-- by drive.py (this session's program: it runs print.py beside functions proved by hand). Lean checks it.
import Derived.Test.YtcjjohealloglaaEx0
import Derived.Test.YtcjjohealloglaaEx3
import Derived.Test.YtcjjohealloglaaEx6
import Derived.Test.YtcjjohealloglaaEx7
import Derived.Test.YtcjjohealloglaaEx8
import Derived.Test.YtcjjohealloglaaEx9
namespace Go.Proofs.Ytcjjohealloglaa.E
open Go.RowKit Go.Proofs.YtcjjohealloglaaW.PrintWords Go.Proofs.YtcjjohealloglaaW.PrintLast Go.Proofs.YtcjjohealloglaaW.PrintMore
attribute [local go_sem] max2_int min2_int max_two min_two max_three min_three max_four min_four   -- for this text's walks alone
set_option linter.unusedVariables false
set_option linter.unusedSimpArgs false

theorem FKmk_ {α : Type} {d : Kd α} {e : Nat} {W : World} {ok : Nat → Prop} {A : Option Addr} {n c : Nat} {l : List α} {Q : Prop} (h : n = l.length ∧ n ≤ c ∧ Q) (hf : Kd.F d W ok A n l) : Kd.FK (Kd.slice e d) W ok l [.slice A n c] := by
  obtain ⟨rfl, h2, _⟩ := h
  exact Kd.FK_slice_mk h2 hf
/-! ### seamarklaw29_ErasureChanges: function 7 -/
mutual
def seamarklaw29_ErasureChanges.j0 : Nat → List (List Int) → List Int → Int → Int → Int → Int → List Int → Bool → Bool → Option (Bool)
  | 0, _, _, _, _, _, _, _, _, _ => none
  | k + 1, x0, x1, x2, x3, x4, x5, x6, x15, x47 => if x47 = true then (some x15) else ((erasure_Code.f k x0 32).bind fun bt394 => (if bt394.2 = 0 then (seamarklaw29_ErasureChanges.j1 k x0 x1 x2 x3 x4 x5 x6 x15 (x0.length : Int) bt394.1 ((bt394.1.length : Int) != 32)) else (seamarklaw29_ErasureChanges.j1 k x0 x1 x2 x3 x4 x5 x6 x15 (x0.length : Int) bt394.1 true)))
def seamarklaw29_ErasureChanges.j1 : Nat → List (List Int) → List Int → Int → Int → Int → Int → List Int → Bool → Int → List (List Int) → Bool → Option (Bool)
  | 0, _, _, _, _, _, _, _, _, _, _, _ => none
  | k + 1, x0, x1, x2, x3, x4, x5, x6, x15, x16, x17, x62 => if x62 = true then (none) else ((seamarklaw29_chosen.f k (wrap64 ((wrap64 (x16 + 1)) + (Int.tmod (wrap64 (x2)) 4))) 32 x1).bind fun t398 => ((seamarklaw29_some.f k x17 t398).bind fun t401 => (if (t401.length : Int) = 0 then (none) else ((some (([] : List Int) : List Int)).bind fun y404 => (if 0 ≤ (Int.tmod (wrap64 (x3)) (t401.length : Int)) then (if (Int.tmod (wrap64 (x3)) (t401.length : Int)) < (t401.length : Int) then (if y404.length + (rd_L1 t401 (Int.tmod (wrap64 (x3)) (t401.length : Int))).length < 140737488355328 then ((some (y404 ++ (rd_L1 t401 (Int.tmod (wrap64 (x3)) (t401.length : Int))) : List Int)).bind fun y408 => (if 0 < (x0.length : Int) then (if (y408.length : Int) = ((rd_L1 x0 0).length : Int) then (if (y408.length : Int) = 0 then (none) else (if 0 ≤ (Int.tmod (wrap64 (x4)) (y408.length : Int)) then (if (Int.tmod (wrap64 (x4)) (y408.length : Int)) < (y408.length : Int) then ((some (t401.set ((Int.tmod (wrap64 (x3)) (t401.length : Int)) : Int).toNat (y408.set ((Int.tmod (wrap64 (x4)) (y408.length : Int)) : Int).toNat (Go.bits .xor .u8 (rd y408 (Int.tmod (wrap64 (x4)) (y408.length : Int))) x5)) : List (List Int))).bind fun y414 => ((erasure_Fits.f k x16 t398 y414).bind fun bt415 => ((erasure_Decode.f k x16 (y408.length : Int) t398 y414).bind fun bt417 => (if x15 = true then (if bt415.2 = 0 then (if (bt415.1 == (x5 == 0)) = true then (seamarklaw29_ErasureChanges.j2 k x0 x6 ((bt417.2 == 18) == (x5 != 0)) x16) else (seamarklaw29_ErasureChanges.j2 k x0 x6 false x16)) else (seamarklaw29_ErasureChanges.j2 k x0 x6 false x16)) else (seamarklaw29_ErasureChanges.j2 k x0 x6 false x16))))) else (none)) else (none))) else (none)) else (none))) else (none)) else (none)) else (none))))))
def seamarklaw29_ErasureChanges.j2 : Nat → List (List Int) → List Int → Bool → Int → Option (Bool)
  | 0, _, _, _, _ => none
  | k + 1, x0, x6, x15, x16 => seamarklaw29_ErasureChanges.l0 k x0 x6 x15 x16 ([] : List (List Int)) ([] : List (List Int)) false 0
def seamarklaw29_ErasureChanges.j4 : Nat → Bool → Int → List (List Int) → List (List Int) → Bool → Option (Bool)
  | 0, _, _, _, _, _ => none
  | k + 1, x15, x16, x27, x28, x29 => if (x27.length : Int) < x16 then (seamarklaw29_ErasureChanges.j5 k x15 x16 x27 x28 true) else (seamarklaw29_ErasureChanges.j5 k x15 x16 x27 x28 (!x29))
def seamarklaw29_ErasureChanges.j5 : Nat → Bool → Int → List (List Int) → List (List Int) → Bool → Option (Bool)
  | 0, _, _, _, _, _ => none
  | k + 1, x15, x16, x27, x28, x191 => if x191 = true then (some x15) else ((erasure_Code.f k x27 32).bind fun bt439 => ((erasure_Code.f k x28 32).bind fun bt443 => (if bt439.2 = 0 then (if bt443.2 = 0 then (seamarklaw29_ErasureChanges.j6 k x15 x16 bt439.1 bt443.1 ((bt439.1.length : Int) != (bt443.1.length : Int))) else (seamarklaw29_ErasureChanges.j6 k x15 x16 bt439.1 bt443.1 true)) else (seamarklaw29_ErasureChanges.j6 k x15 x16 bt439.1 bt443.1 true))))
def seamarklaw29_ErasureChanges.j6 : Nat → Bool → Int → List (List Int) → List (List Int) → Bool → Option (Bool)
  | 0, _, _, _, _, _ => none
  | k + 1, x15, x16, x31, x33, x215 => if x215 = true then (none) else (seamarklaw29_ErasureChanges.l1 k x15 x16 x31 x33 0 0)
def seamarklaw29_ErasureChanges.l1 : Nat → Bool → Int → List (List Int) → List (List Int) → Int → Int → Option (Bool)
  | 0, _, _, _, _, _, _ => none
  | k + 1, x15, x16, x31, x33, x35, x36 => if x36 < (x31.length : Int) then (if 0 ≤ x36 then (if x36 < (x33.length : Int) then ((seamarkref29_Bytes.f k (rd_L1 x31 x36) (rd_L1 x33 x36)).bind fun t449 => (if t449 = true then (seamarklaw29_ErasureChanges.l1 k x15 x16 x31 x33 (wrap64 (x35 + 1)) (wrap64 (x36 + 1))) else (seamarklaw29_ErasureChanges.l1 k x15 x16 x31 x33 x35 (wrap64 (x36 + 1))))) else (none)) else (none)) else (if x15 = true then (some (decide (x35 < x16))) else (none))
def seamarklaw29_ErasureChanges.l0 : Nat → List (List Int) → List Int → Bool → Int → List (List Int) → List (List Int) → Bool → Int → Option (Bool)
  | 0, _, _, _, _, _, _, _, _ => none
  | k + 1, x0, x6, x15, x16, x27, x28, x29, x30 => if x30 < x16 then (if x30 < (x6.length : Int) then (if 0 ≤ x30 then (if x30 < (x0.length : Int) then (if 0 < ((rd_L1 x0 x30).length : Int) then (if x27.length < 5864062014805 then ((some (x27 ++ [(([rd (rd_L1 x0 x30) 0] : List Int))] : List (List Int))).bind fun y426 => (if x28.length < 5864062014805 then ((some (x28 ++ [(([rd x6 x30] : List Int))] : List (List Int))).bind fun y433 => (if x29 = true then (seamarklaw29_ErasureChanges.l0 k x0 x6 x15 x16 y426 y433 true (wrap64 (x30 + 1))) else (seamarklaw29_ErasureChanges.l0 k x0 x6 x15 x16 y426 y433 ((rd (rd_L1 x0 x30) 0) != (rd x6 x30)) (wrap64 (x30 + 1))))) else (none))) else (none)) else (none)) else (none)) else (none)) else (seamarklaw29_ErasureChanges.j4 k x15 x16 x27 x28 x29)) else (seamarklaw29_ErasureChanges.j4 k x15 x16 x27 x28 x29)
end
def seamarklaw29_ErasureChanges.f (k : Nat) (l0 : List (List Int)) (l1 : List Int) (a2 : Int) (a3 : Int) (a4 : Int) (a5 : Int) (l6 : List Int) : Option (Bool) := (seamarklaw29_head.f k).bind fun t391 => ((seamarklaw29_few.f k l0).bind fun t392 => (if t392 = true then (if 0 < (l0.length : Int) then (seamarklaw29_ErasureChanges.j0 k l0 l1 a2 a3 a4 a5 l6 t391 (((rd_L1 l0 0).length : Int) == 0)) else (none)) else (seamarklaw29_ErasureChanges.j0 k l0 l1 a2 a3 a4 a5 l6 t391 true)))
theorem seamarklaw29_ErasureChanges.mono_l : ∀ k, (∀ y0 y1 y2 y3 y4 y5 y6 y7 y8, LeO (seamarklaw29_ErasureChanges.j0 k y0 y1 y2 y3 y4 y5 y6 y7 y8) (seamarklaw29_ErasureChanges.j0 (k + 1) y0 y1 y2 y3 y4 y5 y6 y7 y8)) ∧ (∀ y0 y1 y2 y3 y4 y5 y6 y7 y8 y9 y10, LeO (seamarklaw29_ErasureChanges.j1 k y0 y1 y2 y3 y4 y5 y6 y7 y8 y9 y10) (seamarklaw29_ErasureChanges.j1 (k + 1) y0 y1 y2 y3 y4 y5 y6 y7 y8 y9 y10)) ∧ (∀ y0 y1 y2 y3, LeO (seamarklaw29_ErasureChanges.j2 k y0 y1 y2 y3) (seamarklaw29_ErasureChanges.j2 (k + 1) y0 y1 y2 y3)) ∧ (∀ y0 y1 y2 y3 y4, LeO (seamarklaw29_ErasureChanges.j4 k y0 y1 y2 y3 y4) (seamarklaw29_ErasureChanges.j4 (k + 1) y0 y1 y2 y3 y4)) ∧ (∀ y0 y1 y2 y3 y4, LeO (seamarklaw29_ErasureChanges.j5 k y0 y1 y2 y3 y4) (seamarklaw29_ErasureChanges.j5 (k + 1) y0 y1 y2 y3 y4)) ∧ (∀ y0 y1 y2 y3 y4, LeO (seamarklaw29_ErasureChanges.j6 k y0 y1 y2 y3 y4) (seamarklaw29_ErasureChanges.j6 (k + 1) y0 y1 y2 y3 y4)) ∧ (∀ y0 y1 y2 y3 y4 y5, LeO (seamarklaw29_ErasureChanges.l1 k y0 y1 y2 y3 y4 y5) (seamarklaw29_ErasureChanges.l1 (k + 1) y0 y1 y2 y3 y4 y5)) ∧ (∀ y0 y1 y2 y3 y4 y5 y6 y7, LeO (seamarklaw29_ErasureChanges.l0 k y0 y1 y2 y3 y4 y5 y6 y7) (seamarklaw29_ErasureChanges.l0 (k + 1) y0 y1 y2 y3 y4 y5 y6 y7))
  | 0 => ⟨fun _ _ _ _ _ _ _ _ _ r h => by simp [seamarklaw29_ErasureChanges.j0] at h, fun _ _ _ _ _ _ _ _ _ _ _ r h => by simp [seamarklaw29_ErasureChanges.j1] at h, fun _ _ _ _ r h => by simp [seamarklaw29_ErasureChanges.j2] at h, fun _ _ _ _ _ r h => by simp [seamarklaw29_ErasureChanges.j4] at h, fun _ _ _ _ _ r h => by simp [seamarklaw29_ErasureChanges.j5] at h, fun _ _ _ _ _ r h => by simp [seamarklaw29_ErasureChanges.j6] at h, fun _ _ _ _ _ _ r h => by simp [seamarklaw29_ErasureChanges.l1] at h, fun _ _ _ _ _ _ _ _ r h => by simp [seamarklaw29_ErasureChanges.l0] at h⟩
  | k + 1 => by
    obtain ⟨ih0, ih1, ih2, ih3, ih4, ih5, ih6, ih7⟩ := seamarklaw29_ErasureChanges.mono_l k
    refine ⟨?_, ?_, ?_, ?_, ?_, ?_, ?_, ?_⟩
    · intro y0 y1 y2 y3 y4 y5 y6 y7 y8
      unfold seamarklaw29_ErasureChanges.j0
      repeat' first
      | (with_reducible exact ih0 _ _ _ _ _ _ _ _ _)
      | (with_reducible exact ih1 _ _ _ _ _ _ _ _ _ _ _)
      | (with_reducible exact ih2 _ _ _ _)
      | (with_reducible exact ih3 _ _ _ _ _)
      | (with_reducible exact ih4 _ _ _ _ _)
      | (with_reducible exact ih5 _ _ _ _ _)
      | (with_reducible exact ih6 _ _ _ _ _ _)
      | (with_reducible exact ih7 _ _ _ _ _ _ _ _)
      | (with_reducible exact erasure_Code.mono _ _ _)
      | (with_reducible exact erasure_Decode.mono _ _ _ _ _)
      | (with_reducible exact erasure_Fits.mono _ _ _ _)
      | (with_reducible exact seamarklaw29_chosen.mono _ _ _ _)
      | (with_reducible exact seamarklaw29_few.mono _ _)
      | (with_reducible exact seamarklaw29_head.mono _)
      | (with_reducible exact seamarklaw29_some.mono _ _ _)
      | (with_reducible exact seamarkref29_Bytes.mono _ _ _)
      | (with_reducible exact LeO.refl _)
      | (with_reducible exact LeO.none _)
      | (with_reducible refine LeO.ite ?_ ?_)
      | (with_reducible refine LeO.bind ?_ (fun _ => ?_))
      | exact ih0 _ _ _ _ _ _ _ _ _
      | exact ih1 _ _ _ _ _ _ _ _ _ _ _
      | exact ih2 _ _ _ _
      | exact ih3 _ _ _ _ _
      | exact ih4 _ _ _ _ _
      | exact ih5 _ _ _ _ _
      | exact ih6 _ _ _ _ _ _
      | exact ih7 _ _ _ _ _ _ _ _
      | exact erasure_Code.mono _ _ _
      | exact erasure_Decode.mono _ _ _ _ _
      | exact erasure_Fits.mono _ _ _ _
      | exact seamarklaw29_chosen.mono _ _ _ _
      | exact seamarklaw29_few.mono _ _
      | exact seamarklaw29_head.mono _
      | exact seamarklaw29_some.mono _ _ _
      | exact seamarkref29_Bytes.mono _ _ _
      | exact LeO.none _
      | refine LeO.ite ?_ ?_
      | refine LeO.bind ?_ (fun _ => ?_)
    · intro y0 y1 y2 y3 y4 y5 y6 y7 y8 y9 y10
      unfold seamarklaw29_ErasureChanges.j1
      repeat' first
      | (with_reducible exact ih0 _ _ _ _ _ _ _ _ _)
      | (with_reducible exact ih1 _ _ _ _ _ _ _ _ _ _ _)
      | (with_reducible exact ih2 _ _ _ _)
      | (with_reducible exact ih3 _ _ _ _ _)
      | (with_reducible exact ih4 _ _ _ _ _)
      | (with_reducible exact ih5 _ _ _ _ _)
      | (with_reducible exact ih6 _ _ _ _ _ _)
      | (with_reducible exact ih7 _ _ _ _ _ _ _ _)
      | (with_reducible exact erasure_Code.mono _ _ _)
      | (with_reducible exact erasure_Decode.mono _ _ _ _ _)
      | (with_reducible exact erasure_Fits.mono _ _ _ _)
      | (with_reducible exact seamarklaw29_chosen.mono _ _ _ _)
      | (with_reducible exact seamarklaw29_few.mono _ _)
      | (with_reducible exact seamarklaw29_head.mono _)
      | (with_reducible exact seamarklaw29_some.mono _ _ _)
      | (with_reducible exact seamarkref29_Bytes.mono _ _ _)
      | (with_reducible exact LeO.refl _)
      | (with_reducible exact LeO.none _)
      | (with_reducible refine LeO.ite ?_ ?_)
      | (with_reducible refine LeO.bind ?_ (fun _ => ?_))
      | exact ih0 _ _ _ _ _ _ _ _ _
      | exact ih1 _ _ _ _ _ _ _ _ _ _ _
      | exact ih2 _ _ _ _
      | exact ih3 _ _ _ _ _
      | exact ih4 _ _ _ _ _
      | exact ih5 _ _ _ _ _
      | exact ih6 _ _ _ _ _ _
      | exact ih7 _ _ _ _ _ _ _ _
      | exact erasure_Code.mono _ _ _
      | exact erasure_Decode.mono _ _ _ _ _
      | exact erasure_Fits.mono _ _ _ _
      | exact seamarklaw29_chosen.mono _ _ _ _
      | exact seamarklaw29_few.mono _ _
      | exact seamarklaw29_head.mono _
      | exact seamarklaw29_some.mono _ _ _
      | exact seamarkref29_Bytes.mono _ _ _
      | exact LeO.none _
      | refine LeO.ite ?_ ?_
      | refine LeO.bind ?_ (fun _ => ?_)
    · intro y0 y1 y2 y3
      unfold seamarklaw29_ErasureChanges.j2
      repeat' first
      | (with_reducible exact ih0 _ _ _ _ _ _ _ _ _)
      | (with_reducible exact ih1 _ _ _ _ _ _ _ _ _ _ _)
      | (with_reducible exact ih2 _ _ _ _)
      | (with_reducible exact ih3 _ _ _ _ _)
      | (with_reducible exact ih4 _ _ _ _ _)
      | (with_reducible exact ih5 _ _ _ _ _)
      | (with_reducible exact ih6 _ _ _ _ _ _)
      | (with_reducible exact ih7 _ _ _ _ _ _ _ _)
      | (with_reducible exact erasure_Code.mono _ _ _)
      | (with_reducible exact erasure_Decode.mono _ _ _ _ _)
      | (with_reducible exact erasure_Fits.mono _ _ _ _)
      | (with_reducible exact seamarklaw29_chosen.mono _ _ _ _)
      | (with_reducible exact seamarklaw29_few.mono _ _)
      | (with_reducible exact seamarklaw29_head.mono _)
      | (with_reducible exact seamarklaw29_some.mono _ _ _)
      | (with_reducible exact seamarkref29_Bytes.mono _ _ _)
      | (with_reducible exact LeO.refl _)
      | (with_reducible exact LeO.none _)
      | (with_reducible refine LeO.ite ?_ ?_)
      | (with_reducible refine LeO.bind ?_ (fun _ => ?_))
      | exact ih0 _ _ _ _ _ _ _ _ _
      | exact ih1 _ _ _ _ _ _ _ _ _ _ _
      | exact ih2 _ _ _ _
      | exact ih3 _ _ _ _ _
      | exact ih4 _ _ _ _ _
      | exact ih5 _ _ _ _ _
      | exact ih6 _ _ _ _ _ _
      | exact ih7 _ _ _ _ _ _ _ _
      | exact erasure_Code.mono _ _ _
      | exact erasure_Decode.mono _ _ _ _ _
      | exact erasure_Fits.mono _ _ _ _
      | exact seamarklaw29_chosen.mono _ _ _ _
      | exact seamarklaw29_few.mono _ _
      | exact seamarklaw29_head.mono _
      | exact seamarklaw29_some.mono _ _ _
      | exact seamarkref29_Bytes.mono _ _ _
      | exact LeO.none _
      | refine LeO.ite ?_ ?_
      | refine LeO.bind ?_ (fun _ => ?_)
    · intro y0 y1 y2 y3 y4
      unfold seamarklaw29_ErasureChanges.j4
      repeat' first
      | (with_reducible exact ih0 _ _ _ _ _ _ _ _ _)
      | (with_reducible exact ih1 _ _ _ _ _ _ _ _ _ _ _)
      | (with_reducible exact ih2 _ _ _ _)
      | (with_reducible exact ih3 _ _ _ _ _)
      | (with_reducible exact ih4 _ _ _ _ _)
      | (with_reducible exact ih5 _ _ _ _ _)
      | (with_reducible exact ih6 _ _ _ _ _ _)
      | (with_reducible exact ih7 _ _ _ _ _ _ _ _)
      | (with_reducible exact erasure_Code.mono _ _ _)
      | (with_reducible exact erasure_Decode.mono _ _ _ _ _)
      | (with_reducible exact erasure_Fits.mono _ _ _ _)
      | (with_reducible exact seamarklaw29_chosen.mono _ _ _ _)
      | (with_reducible exact seamarklaw29_few.mono _ _)
      | (with_reducible exact seamarklaw29_head.mono _)
      | (with_reducible exact seamarklaw29_some.mono _ _ _)
      | (with_reducible exact seamarkref29_Bytes.mono _ _ _)
      | (with_reducible exact LeO.refl _)
      | (with_reducible exact LeO.none _)
      | (with_reducible refine LeO.ite ?_ ?_)
      | (with_reducible refine LeO.bind ?_ (fun _ => ?_))
      | exact ih0 _ _ _ _ _ _ _ _ _
      | exact ih1 _ _ _ _ _ _ _ _ _ _ _
      | exact ih2 _ _ _ _
      | exact ih3 _ _ _ _ _
      | exact ih4 _ _ _ _ _
      | exact ih5 _ _ _ _ _
      | exact ih6 _ _ _ _ _ _
      | exact ih7 _ _ _ _ _ _ _ _
      | exact erasure_Code.mono _ _ _
      | exact erasure_Decode.mono _ _ _ _ _
      | exact erasure_Fits.mono _ _ _ _
      | exact seamarklaw29_chosen.mono _ _ _ _
      | exact seamarklaw29_few.mono _ _
      | exact seamarklaw29_head.mono _
      | exact seamarklaw29_some.mono _ _ _
      | exact seamarkref29_Bytes.mono _ _ _
      | exact LeO.none _
      | refine LeO.ite ?_ ?_
      | refine LeO.bind ?_ (fun _ => ?_)
    · intro y0 y1 y2 y3 y4
      unfold seamarklaw29_ErasureChanges.j5
      repeat' first
      | (with_reducible exact ih0 _ _ _ _ _ _ _ _ _)
      | (with_reducible exact ih1 _ _ _ _ _ _ _ _ _ _ _)
      | (with_reducible exact ih2 _ _ _ _)
      | (with_reducible exact ih3 _ _ _ _ _)
      | (with_reducible exact ih4 _ _ _ _ _)
      | (with_reducible exact ih5 _ _ _ _ _)
      | (with_reducible exact ih6 _ _ _ _ _ _)
      | (with_reducible exact ih7 _ _ _ _ _ _ _ _)
      | (with_reducible exact erasure_Code.mono _ _ _)
      | (with_reducible exact erasure_Decode.mono _ _ _ _ _)
      | (with_reducible exact erasure_Fits.mono _ _ _ _)
      | (with_reducible exact seamarklaw29_chosen.mono _ _ _ _)
      | (with_reducible exact seamarklaw29_few.mono _ _)
      | (with_reducible exact seamarklaw29_head.mono _)
      | (with_reducible exact seamarklaw29_some.mono _ _ _)
      | (with_reducible exact seamarkref29_Bytes.mono _ _ _)
      | (with_reducible exact LeO.refl _)
      | (with_reducible exact LeO.none _)
      | (with_reducible refine LeO.ite ?_ ?_)
      | (with_reducible refine LeO.bind ?_ (fun _ => ?_))
      | exact ih0 _ _ _ _ _ _ _ _ _
      | exact ih1 _ _ _ _ _ _ _ _ _ _ _
      | exact ih2 _ _ _ _
      | exact ih3 _ _ _ _ _
      | exact ih4 _ _ _ _ _
      | exact ih5 _ _ _ _ _
      | exact ih6 _ _ _ _ _ _
      | exact ih7 _ _ _ _ _ _ _ _
      | exact erasure_Code.mono _ _ _
      | exact erasure_Decode.mono _ _ _ _ _
      | exact erasure_Fits.mono _ _ _ _
      | exact seamarklaw29_chosen.mono _ _ _ _
      | exact seamarklaw29_few.mono _ _
      | exact seamarklaw29_head.mono _
      | exact seamarklaw29_some.mono _ _ _
      | exact seamarkref29_Bytes.mono _ _ _
      | exact LeO.none _
      | refine LeO.ite ?_ ?_
      | refine LeO.bind ?_ (fun _ => ?_)
    · intro y0 y1 y2 y3 y4
      unfold seamarklaw29_ErasureChanges.j6
      repeat' first
      | (with_reducible exact ih0 _ _ _ _ _ _ _ _ _)
      | (with_reducible exact ih1 _ _ _ _ _ _ _ _ _ _ _)
      | (with_reducible exact ih2 _ _ _ _)
      | (with_reducible exact ih3 _ _ _ _ _)
      | (with_reducible exact ih4 _ _ _ _ _)
      | (with_reducible exact ih5 _ _ _ _ _)
      | (with_reducible exact ih6 _ _ _ _ _ _)
      | (with_reducible exact ih7 _ _ _ _ _ _ _ _)
      | (with_reducible exact erasure_Code.mono _ _ _)
      | (with_reducible exact erasure_Decode.mono _ _ _ _ _)
      | (with_reducible exact erasure_Fits.mono _ _ _ _)
      | (with_reducible exact seamarklaw29_chosen.mono _ _ _ _)
      | (with_reducible exact seamarklaw29_few.mono _ _)
      | (with_reducible exact seamarklaw29_head.mono _)
      | (with_reducible exact seamarklaw29_some.mono _ _ _)
      | (with_reducible exact seamarkref29_Bytes.mono _ _ _)
      | (with_reducible exact LeO.refl _)
      | (with_reducible exact LeO.none _)
      | (with_reducible refine LeO.ite ?_ ?_)
      | (with_reducible refine LeO.bind ?_ (fun _ => ?_))
      | exact ih0 _ _ _ _ _ _ _ _ _
      | exact ih1 _ _ _ _ _ _ _ _ _ _ _
      | exact ih2 _ _ _ _
      | exact ih3 _ _ _ _ _
      | exact ih4 _ _ _ _ _
      | exact ih5 _ _ _ _ _
      | exact ih6 _ _ _ _ _ _
      | exact ih7 _ _ _ _ _ _ _ _
      | exact erasure_Code.mono _ _ _
      | exact erasure_Decode.mono _ _ _ _ _
      | exact erasure_Fits.mono _ _ _ _
      | exact seamarklaw29_chosen.mono _ _ _ _
      | exact seamarklaw29_few.mono _ _
      | exact seamarklaw29_head.mono _
      | exact seamarklaw29_some.mono _ _ _
      | exact seamarkref29_Bytes.mono _ _ _
      | exact LeO.none _
      | refine LeO.ite ?_ ?_
      | refine LeO.bind ?_ (fun _ => ?_)
    · intro y0 y1 y2 y3 y4 y5
      unfold seamarklaw29_ErasureChanges.l1
      repeat' first
      | (with_reducible exact ih0 _ _ _ _ _ _ _ _ _)
      | (with_reducible exact ih1 _ _ _ _ _ _ _ _ _ _ _)
      | (with_reducible exact ih2 _ _ _ _)
      | (with_reducible exact ih3 _ _ _ _ _)
      | (with_reducible exact ih4 _ _ _ _ _)
      | (with_reducible exact ih5 _ _ _ _ _)
      | (with_reducible exact ih6 _ _ _ _ _ _)
      | (with_reducible exact ih7 _ _ _ _ _ _ _ _)
      | (with_reducible exact erasure_Code.mono _ _ _)
      | (with_reducible exact erasure_Decode.mono _ _ _ _ _)
      | (with_reducible exact erasure_Fits.mono _ _ _ _)
      | (with_reducible exact seamarklaw29_chosen.mono _ _ _ _)
      | (with_reducible exact seamarklaw29_few.mono _ _)
      | (with_reducible exact seamarklaw29_head.mono _)
      | (with_reducible exact seamarklaw29_some.mono _ _ _)
      | (with_reducible exact seamarkref29_Bytes.mono _ _ _)
      | (with_reducible exact LeO.refl _)
      | (with_reducible exact LeO.none _)
      | (with_reducible refine LeO.ite ?_ ?_)
      | (with_reducible refine LeO.bind ?_ (fun _ => ?_))
      | exact ih0 _ _ _ _ _ _ _ _ _
      | exact ih1 _ _ _ _ _ _ _ _ _ _ _
      | exact ih2 _ _ _ _
      | exact ih3 _ _ _ _ _
      | exact ih4 _ _ _ _ _
      | exact ih5 _ _ _ _ _
      | exact ih6 _ _ _ _ _ _
      | exact ih7 _ _ _ _ _ _ _ _
      | exact erasure_Code.mono _ _ _
      | exact erasure_Decode.mono _ _ _ _ _
      | exact erasure_Fits.mono _ _ _ _
      | exact seamarklaw29_chosen.mono _ _ _ _
      | exact seamarklaw29_few.mono _ _
      | exact seamarklaw29_head.mono _
      | exact seamarklaw29_some.mono _ _ _
      | exact seamarkref29_Bytes.mono _ _ _
      | exact LeO.none _
      | refine LeO.ite ?_ ?_
      | refine LeO.bind ?_ (fun _ => ?_)
    · intro y0 y1 y2 y3 y4 y5 y6 y7
      unfold seamarklaw29_ErasureChanges.l0
      repeat' first
      | (with_reducible exact ih0 _ _ _ _ _ _ _ _ _)
      | (with_reducible exact ih1 _ _ _ _ _ _ _ _ _ _ _)
      | (with_reducible exact ih2 _ _ _ _)
      | (with_reducible exact ih3 _ _ _ _ _)
      | (with_reducible exact ih4 _ _ _ _ _)
      | (with_reducible exact ih5 _ _ _ _ _)
      | (with_reducible exact ih6 _ _ _ _ _ _)
      | (with_reducible exact ih7 _ _ _ _ _ _ _ _)
      | (with_reducible exact erasure_Code.mono _ _ _)
      | (with_reducible exact erasure_Decode.mono _ _ _ _ _)
      | (with_reducible exact erasure_Fits.mono _ _ _ _)
      | (with_reducible exact seamarklaw29_chosen.mono _ _ _ _)
      | (with_reducible exact seamarklaw29_few.mono _ _)
      | (with_reducible exact seamarklaw29_head.mono _)
      | (with_reducible exact seamarklaw29_some.mono _ _ _)
      | (with_reducible exact seamarkref29_Bytes.mono _ _ _)
      | (with_reducible exact LeO.refl _)
      | (with_reducible exact LeO.none _)
      | (with_reducible refine LeO.ite ?_ ?_)
      | (with_reducible refine LeO.bind ?_ (fun _ => ?_))
      | exact ih0 _ _ _ _ _ _ _ _ _
      | exact ih1 _ _ _ _ _ _ _ _ _ _ _
      | exact ih2 _ _ _ _
      | exact ih3 _ _ _ _ _
      | exact ih4 _ _ _ _ _
      | exact ih5 _ _ _ _ _
      | exact ih6 _ _ _ _ _ _
      | exact ih7 _ _ _ _ _ _ _ _
      | exact erasure_Code.mono _ _ _
      | exact erasure_Decode.mono _ _ _ _ _
      | exact erasure_Fits.mono _ _ _ _
      | exact seamarklaw29_chosen.mono _ _ _ _
      | exact seamarklaw29_few.mono _ _
      | exact seamarklaw29_head.mono _
      | exact seamarklaw29_some.mono _ _ _
      | exact seamarkref29_Bytes.mono _ _ _
      | exact LeO.none _
      | refine LeO.ite ?_ ?_
      | refine LeO.bind ?_ (fun _ => ?_)
theorem seamarklaw29_ErasureChanges.mono : ∀ a0 a1 a2 a3 a4 a5 a6 k, LeO (seamarklaw29_ErasureChanges.f k a0 a1 a2 a3 a4 a5 a6) (seamarklaw29_ErasureChanges.f (k + 1) a0 a1 a2 a3 a4 a5 a6) := by
  intro a0 a1 a2 a3 a4 a5 a6 k
  obtain ⟨ih0, ih1, ih2, ih3, ih4, ih5, ih6, ih7⟩ := seamarklaw29_ErasureChanges.mono_l k
  unfold seamarklaw29_ErasureChanges.f
  repeat' first
      | (with_reducible exact ih0 _ _ _ _ _ _ _ _ _)
      | (with_reducible exact ih1 _ _ _ _ _ _ _ _ _ _ _)
      | (with_reducible exact ih2 _ _ _ _)
      | (with_reducible exact ih3 _ _ _ _ _)
      | (with_reducible exact ih4 _ _ _ _ _)
      | (with_reducible exact ih5 _ _ _ _ _)
      | (with_reducible exact ih6 _ _ _ _ _ _)
      | (with_reducible exact ih7 _ _ _ _ _ _ _ _)
      | (with_reducible exact erasure_Code.mono _ _ _)
      | (with_reducible exact erasure_Decode.mono _ _ _ _ _)
      | (with_reducible exact erasure_Fits.mono _ _ _ _)
      | (with_reducible exact seamarklaw29_chosen.mono _ _ _ _)
      | (with_reducible exact seamarklaw29_few.mono _ _)
      | (with_reducible exact seamarklaw29_head.mono _)
      | (with_reducible exact seamarklaw29_some.mono _ _ _)
      | (with_reducible exact seamarkref29_Bytes.mono _ _ _)
      | (with_reducible exact LeO.refl _)
      | (with_reducible exact LeO.none _)
      | (with_reducible refine LeO.ite ?_ ?_)
      | (with_reducible refine LeO.bind ?_ (fun _ => ?_))
      | exact ih0 _ _ _ _ _ _ _ _ _
      | exact ih1 _ _ _ _ _ _ _ _ _ _ _
      | exact ih2 _ _ _ _
      | exact ih3 _ _ _ _ _
      | exact ih4 _ _ _ _ _
      | exact ih5 _ _ _ _ _
      | exact ih6 _ _ _ _ _ _
      | exact ih7 _ _ _ _ _ _ _ _
      | exact erasure_Code.mono _ _ _
      | exact erasure_Decode.mono _ _ _ _ _
      | exact erasure_Fits.mono _ _ _ _
      | exact seamarklaw29_chosen.mono _ _ _ _
      | exact seamarklaw29_few.mono _ _
      | exact seamarklaw29_head.mono _
      | exact seamarklaw29_some.mono _ _ _
      | exact seamarkref29_Bytes.mono _ _ _
      | exact LeO.none _
      | refine LeO.ite ?_ ?_
      | refine LeO.bind ?_ (fun _ => ?_)
end Go.Proofs.Ytcjjohealloglaa.E
