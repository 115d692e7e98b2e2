-- by drive.py (this session's program: it runs print.py beside functions proved by hand). Lean checks it.
import Derived.Test.YtcjjohealloglaaEx0
import Derived.Test.YtcjjohealloglaaEx1
namespace Go.Proofs.Ytcjjohealloglaa.E
open Go.RowKit Go.Proofs.YtcjjohealloglaaW.PrintWords Go.Proofs.YtcjjohealloglaaW.PrintLast Go.Proofs.YtcjjohealloglaaW.PrintMore
attribute [local go_sem] max2_int min2_int max_two min_two max_three min_three max_four min_four   -- for this text's walks alone
set_option linter.unusedVariables false
set_option linter.unusedSimpArgs false

-- BY HAND: erasure_given: function 35
/-! ### erasure_given: function 35 -/
theorem below_drewN' {B n : Nat} {w w' : World} (h : Below B w w') : Below B w (w'.drewN n) := ⟨h.os, h.tape, h.output, h.size, h.block⟩
def eqlT (l : List (List Int)) : Bool := l.all fun p => decide (p.length = (rd_L1 l 0).length) && decide (p.length ≤ 200)
theorem drop_rd_L1 {l : List (List Int)} {i : Nat} (h : i < l.length) : l.drop i = rd_L1 l (i : Int) :: l.drop (i + 1) := by
  rw [List.drop_eq_getElem_cons h]; congr 1
  unfold rd_L1; simp only [Int.toNat_natCast]; rw [List.getD_eq_getElem?_getD, List.getElem?_eq_getElem h]; rfl
theorem equal_total_l (l : List (List Int)) (hl : l.length ≤ 140737488355328) (d : Nat) : ∀ (k i : Nat), i ≤ l.length → l.length - i = d → d < k →
    erasure_equal.l0 k l l (l.length : Int) (i : Int) = some ((l.drop i).all fun p => decide (p.length = (rd_L1 l 0).length) && decide (p.length ≤ 200)) := by
  induction d with
  | zero =>
    intro k i h1 hd hk
    obtain ⟨k, rfl⟩ : ∃ q, k = q + 1 := ⟨k - 1, by omega⟩
    simp only [erasure_equal.l0]
    rw [if_neg (by omega), List.drop_eq_nil_of_le (by omega)]; rfl
  | succ d ih =>
    intro k i h1 hd hk
    obtain ⟨k, rfl⟩ : ∃ q, k = q + 1 := ⟨k - 1, by omega⟩
    have hi : i < l.length := by omega
    simp only [erasure_equal.l0]
    rw [if_pos (by omega), if_pos (by omega), if_pos (by omega), if_pos (by omega), drop_rd_L1 hi, List.all_cons]
    by_cases h2 : ((rd_L1 l (i : Int)).length : Int) = ((rd_L1 l 0).length : Int)
    · rw [if_pos h2, decide_eq_true (by omega : (rd_L1 l (i : Int)).length = (rd_L1 l 0).length)]
      by_cases h3 : ((rd_L1 l (i : Int)).length : Int) > 200
      · rw [if_pos h3, decide_eq_false (by omega)]; rfl
      · rw [if_neg h3, decide_eq_true (by omega), show wrap64 ((i : Int) + 1) = ((i + 1 : Nat) : Int) by unfold wrap64; omega, ih k (i + 1) (by omega) (by omega) (by omega)]; rfl
    · rw [if_neg h2, decide_eq_false (by omega)]; rfl
theorem equal_total (l : List (List Int)) (hl : l.length ≤ 140737488355328) (k : Nat) (hk : l.length < k) : erasure_equal.f k l = some (eqlT l) := by
  have := equal_total_l l hl l.length k 0 (Nat.zero_le _) (by omega) hk
  rwa [List.drop_zero] at this
/-- the indices are below 32, and no one stands twice -/
def idxT : List Int → List Int → Bool
  | _, [] => true
  | seen, i :: rest => decide (0 ≤ i) && decide (i < 32) && !seen.contains i && idxT (i :: seen) rest
def givT (need : Int) (idx : List Int) (pcs : List (List Int)) : Bool :=
  decide (1 ≤ need) && decide (need ≤ 32) && decide (idx.length = pcs.length) && eqlT pcs && idxT [] idx
def erasure_given.f (a0 : Int) (l1 : List Int) (l2 : List (List Int)) : Option (Bool) := if l1.length ≤ 140737488355328 ∧ l2.length ≤ 140737488355328 then some (givT a0 l1 l2) else none

/-- the array of what was seen -/
def Seen (w : World) (b : Nat) (seen : List Int) : Prop := ∃ cs : Array Value, w.heap[b]? = some (.cells cs 59 (0, 0)) ∧ ∀ j : Nat, j < 32 → cs[j]? = some (.bool (seen.contains (j : Int)))
theorem Seen.cell {w : World} {b : Nat} {seen : List Int} (h : Seen w b seen) (j : Nat) (hj : j < 32) : w.cell? ⟨b, j, none⟩ = some (.bool (seen.contains (j : Int))) := by
  obtain ⟨cs, hh, hc⟩ := h
  unfold World.cell?
  rw [hh]; exact hc j hj
theorem Seen.frozen {w : World} {b : Nat} {seen : List Int} (h : Seen w b seen) (j : Nat) (hj : j < 32) : w.frozen? ⟨b, j, none⟩ = false := by
  obtain ⟨cs, hh, hc⟩ := h
  unfold World.frozen?
  rw [hh]; simp
theorem Seen.set {w : World} {b : Nat} {seen : List Int} (h : Seen w b seen) (j : Nat) (hj : j < 32) : Seen (w.setCell ⟨b, j, none⟩ (.bool true)) b ((j : Int) :: seen) := by
  obtain ⟨cs, hh, hc⟩ := h
  obtain ⟨hlt, hk⟩ := Array.getElem?_eq_some_iff.1 hh
  refine ⟨cs.setIfInBounds j (.bool true), ?_, fun q hq => ?_⟩
  · show (w.heap.modify b _)[b]? = _
    rw [Array.getElem?_eq_getElem (by rw [Array.size_modify]; exact hlt), Array.getElem_modify_self, hk]
    rfl
  · have hs : j < cs.size := (Array.getElem?_eq_some_iff.1 (hc j hj)).1
    by_cases e : j = q
    · subst e
      rw [Array.getElem?_setIfInBounds_self_of_lt hs]; simp
    · rw [Array.getElem?_setIfInBounds_ne e, hc q hq]
      have : (q : Int) ≠ (j : Int) := by omega
      simp [this]
theorem drop_rd {l : List Int} {i : Nat} (h : i < l.length) : l.drop i = rd l (i : Int) :: l.drop (i + 1) := by
  rw [List.drop_eq_getElem_cons h]; congr 1
  unfold rd; simp only [Int.toNat_natCast]; rw [List.getD_eq_getElem?_getD, List.getElem?_eq_getElem h]; rfl
theorem take_rev {l : List Int} {i : Nat} (h : i < l.length) : rd l (i : Int) :: (l.take i).reverse = (l.take (i + 1)).reverse := by
  rw [List.take_succ_eq_append_getElem h, List.reverse_append]; simp only [List.reverse_cons, List.reverse_nil, List.nil_append, List.cons_append]
  congr 1
  unfold rd; simp only [Int.toNat_natCast]; rw [List.getD_eq_getElem?_getD, List.getElem?_eq_getElem h]; rfl

set_option maxRecDepth 100000 in
set_option maxHeartbeats 4000000 in
theorem erasure_given.calls (a0 : Int) (A1 : Option Addr) (c1 : Nat) (l1 : List Int) (A2 : Option Addr) (c2 : Nat) (l2 : List (List Int)) (r : Bool) (w : World) (hr1 : Kd.C (Kd.int .i64) w A1 l1.length l1) (hc1 : l1.length ≤ c1) (hr2 : Kd.C (Kd.slice 5 (Kd.int .u8)) w A2 l2.length l2) (hc2 : l2.length ≤ c2) (h : erasure_given.f a0 l1 l2 = some r) :
    Calls Try.prog 35 #[.int .i64 a0, .slice A1 l1.length c1, .slice A2 l2.length c2] w fun e w' => e = .returned (.bool r) ∧ Below w.heap.size w w' := by
  unfold erasure_given.f at h
  split at h
  case isFalse => exact absurd h (by simp)
  case isTrue hG =>
  obtain rfl := Option.some.inj h
  clear h
  obtain ⟨g1, g2⟩ := hG
  have HR2 := Aside0.mk hr2
  have HC2 := Aside0.mk hc2
  clear hr2 hc2
  by_cases n1 : 1 ≤ a0
  case neg =>
    have hres : givT a0 l1 l2 = false := by unfold givT; rw [decide_eq_false n1]; rfl
    have HS := Aside0.mk hres
    clear hres
    go_enter Try.func35, Try.ntmps35
    go_wp2_with fail
    go_ret
    exact ⟨by rw [HS.out]; rfl, Below.refl _ _⟩
  by_cases n2 : a0 ≤ 32
  case neg =>
    have hres : givT a0 l1 l2 = false := by unfold givT; rw [decide_eq_false n2]; simp
    have HS := Aside0.mk hres
    clear hres
    go_enter Try.func35, Try.ntmps35
    go_wp2_with fail
    go_ret
    exact ⟨by rw [HS.out]; rfl, Below.refl _ _⟩
  by_cases n3 : l1.length = l2.length
  case neg =>
    have hres : givT a0 l1 l2 = false := by unfold givT; rw [decide_eq_false n3]; simp
    have HS := Aside0.mk hres
    clear hres
    go_enter Try.func35, Try.ntmps35
    go_wp2_with fail
    go_ret
    exact ⟨by rw [HS.out]; rfl, Below.refl _ _⟩
  obtain ⟨bq, hbq⟩ : ∃ q, q = eqlT l2 := ⟨_, rfl⟩
  have HE : Aside0 (erasure_equal.f (l2.length + 1) l2 = some bq) := ⟨by rw [hbq]; exact equal_total l2 g2 _ (by omega)⟩
  have HBQ := Aside0.mk hbq
  clear hbq
  have N3 := Aside0.mk n3
  have hlb : ((l1.length : Int) != (l2.length : Int)) = false := by rw [n3]; simp
  clear n3
  cases bq with
  | false =>
    have hres : givT a0 l1 l2 = false := by unfold givT; rw [← HBQ.out]; simp
    have HS := Aside0.mk hres
    clear hres
    go_enter Try.func35, Try.ntmps35
    go_wp2_with fail
    refine (erasure_equal.calls (l2.length + 1) A2 c2 l2 false _ HR2.out HC2.out HE.out).mono ?_
    rintro e w' ⟨rfl, ⟨nd, rfl⟩⟩
    go_wp2_with fail
    go_ret
    exact ⟨by rw [HS.out]; rfl, below_drewN' (Below.refl _ _)⟩
  | true =>
    go_enter Try.func35, Try.ntmps35
    go_wp2_with fail
    refine (erasure_equal.calls (l2.length + 1) A2 c2 l2 true _ HR2.out HC2.out HE.out).mono ?_
    rintro e w' ⟨rfl, ⟨nd, rfl⟩⟩
    go_wp2_with fail
    go_loopw [30] (fun v wr => ∃ i : Nat, i ≤ l1.length ∧ v = .int .i64 i ∧ Aside0 (Seen wr w.heap.size (l1.take i).reverse) ∧ Aside0 (Below w.heap.size w wr) ∧ Aside0 (idxT (l1.take i).reverse (l1.drop i) = idxT [] l1)) (fun v _ => l1.length - (intOf v).toNat)
    case atStart =>
      refine ⟨0, Nat.zero_le _, rfl, ⟨⟨Array.replicate 32 (.bool false), World.alloc_heap_new (w.drewN nd) _, fun j hj => ?_⟩⟩, ⟨below_alloc (below_drewN' (Below.refl _ _)) _⟩, ⟨by simp⟩⟩
      rw [Array.getElem?_replicate, if_pos hj]; simp
    case round =>
      obtain ⟨i, hi, rfl, HSN, HB, HI⟩ := hrel
      by_cases hil : i < l1.length
      · obtain ⟨ad, rfl, hx⟩ := Kd.at_int (Kd.C_below hr1 HB.out) (i : Int) (by omega) (by omega)
        simp only [Int.toNat_natCast] at hx
        have hI2 := HI.out
        rw [drop_rd hil, idxT] at hI2
        obtain ⟨a, ha⟩ : ∃ z, z = rd l1 (i : Int) := ⟨_, rfl⟩
        rw [← ha] at hx hI2
        have HA := Aside0.mk ha
        clear ha HI
        by_cases ha0 : 0 ≤ a
        case neg =>
          have hres : givT a0 l1 l2 = false := by unfold givT; rw [← hI2, decide_eq_false ha0]; simp
          have HS := Aside0.mk hres
          clear hres hI2
          go_wp2_with fail
          go_ret
          exact ⟨by rw [HS.out]; rfl, HB.out⟩
        by_cases ha1 : a < 32
        case neg =>
          have hres : givT a0 l1 l2 = false := by unfold givT; rw [← hI2, decide_eq_false ha1]; simp
          have HS := Aside0.mk hres
          clear hres hI2
          go_wp2_with fail
          go_ret
          exact ⟨by rw [HS.out]; rfl, HB.out⟩
        obtain ⟨j, rfl⟩ := Int.eq_ofNat_of_zero_le ha0
        have hcell := HSN.out.cell j (by omega)
        have hfz := HSN.out.frozen j (by omega)
        obtain ⟨q, hq⟩ : ∃ q, q = (l1.take i).reverse.contains (j : Int) := ⟨_, rfl⟩
        rw [← hq] at hcell hI2
        cases q with
        | true =>
          have hres : givT a0 l1 l2 = false := by unfold givT; rw [← hI2]; simp
          have HS := Aside0.mk hres
          clear hres hI2 hq
          go_wp2_with fail
          go_ret
          exact ⟨by rw [HS.out]; rfl, HB.out⟩
        | false =>
          have hI3 : idxT (l1.take (i + 1)).reverse (l1.drop (i + 1)) = idxT [] l1 := by
            rw [← hI2, ← take_rev hil, ← HA.out, decide_eq_true ha0, decide_eq_true ha1]; simp
          have hS3 : Seen (wr.setCell ⟨w.heap.size, j, none⟩ (.bool true)) w.heap.size (l1.take (i + 1)).reverse := by
            rw [← take_rev hil, ← HA.out]; exact HSN.out.set j (by omega)
          have HI3 := Aside0.mk hI3
          have HS3 := Aside0.mk hS3
          clear hI3 hS3 hI2 hq
          go_wp2_with fail
          go_roundw
          case rel => exact ⟨i + 1, by omega, by go_num, HS3, ⟨HB.out.setCell (p := ⟨w.heap.size, j, none⟩) (Nat.le_refl _) _⟩, HI3⟩
          case measure => simp [intOf]; omega
      · obtain rfl : i = l1.length := by omega
        have hres : givT a0 l1 l2 = true := by
          have := HI.out
          rw [List.drop_length, idxT] at this
          unfold givT; rw [← this, ← HBQ.out, decide_eq_true n1, decide_eq_true n2, decide_eq_true N3.out]; rfl
        have HS := Aside0.mk hres
        clear hres
        go_wp2_with fail
        go_ret
        exact ⟨by rw [HS.out]; rfl, HB.out⟩


end Go.Proofs.Ytcjjohealloglaa.E
