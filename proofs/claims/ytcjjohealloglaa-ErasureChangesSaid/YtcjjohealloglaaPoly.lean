/-
  Pieces that lie on polynomials: they fit.
-/
import Derived.Test.YtcjjohealloglaaFun
namespace Go.Proofs.Ytcjjohealloglaa.Poly
open Go.RowKit Go.Proofs.YtcjjohealloglaaW.PrintWords Go.Proofs.YtcjjohealloglaaW.PrintLast Go.Proofs.Ytcjjohealloglaa.E Go.Proofs.Ytcjjohealloglaa.Gf Go.Proofs.Ytcjjohealloglaa.Val Go.Proofs.Ytcjjohealloglaa.Fun
set_option linter.unusedVariables false
structure PolyAt (P : Nat → F → F) (n : Nat) (idx : List Int) (pcs : List (List Int)) (L m : Nat) : Prop where
  deg : ∀ c, c < m → Deg n (P c)
  val : ∀ i, i < L → ∀ c, c < m → toF (rd (rd_L1 pcs (i : Int)) (c : Int)) = P c (toF (rd idx (i : Int)))
theorem rd_take {idx : List Int} {n i : Nat} (hi : i < n) (hn : n ≤ idx.length) : rd (idx.take n) (i : Int) = rd idx (i : Int) := by
  rw [rd_of (by rw [List.length_take]; omega), rd_of (by omega), List.getElem_take]
theorem rd_L1_take {pcs : List (List Int)} {n i : Nat} (hi : i < n) (hn : n ≤ pcs.length) : rd_L1 (pcs.take n) (i : Int) = rd_L1 pcs (i : Int) := by
  rw [rd_L1_of (by rw [List.length_take]; omega), rd_L1_of (by omega), List.getElem_take]
theorem val_poly {P : Nat → F → F} {n : Nat} {idx : List Int} {pcs : List (List Int)} {L m : Nat} (h : Given (n : Int) idx pcs L m) (hn : n ≤ L) (hP : PolyAt P n idx pcs L m) {x : Int} (hx0 : 0 ≤ x) (hx : x < 256) :
    (valT (idx.take n) (pcs.take n) x).length = m ∧ ∀ c, c < m → rd (valT (idx.take n) (pcs.take n) x) (c : Int) = ofF (P c (toF x)) := by
  have h3 := h.len
  have hp := h.rows.1
  have hlo := h.lo
  have hil : (idx.take n).length = n := by rw [List.length_take]; omega
  obtain ⟨v1, v2⟩ := valT_eq (h.idx.take n) hx0 hx (h.rows.take hn) (by rw [hil]; exact Nat.le_refl _) (by omega)
  refine ⟨v1, fun c hc => ?_⟩
  rw [v2 c hc, hil]
  have hinj : Inj (node (idx.take n)) n := by have := (h.idx.take n).inj; rwa [hil] at this
  refine congrArg ofF (interp_unique hinj _ (hP.deg c hc) (fun j hj => ?_) _)
  show P c (toF (rd (idx.take n) (j : Int))) = toF (rd (rd_L1 (pcs.take n) (j : Int)) (c : Int))
  rw [rd_take hj (by omega), rd_L1_take hj (by omega), hP.val j (by omega) c hc]
theorem fit_poly {n : Nat} {idx : List Int} {pcs : List (List Int)} {L m : Nat} (h : Given (n : Int) idx pcs L m) (hn : n ≤ L) : FitP n idx pcs ↔ ∃ P, PolyAt P n idx pcs L m := by
  have h3 := h.len
  have hp := h.rows.1
  have hlo := h.lo
  have hil : (idx.take n).length = n := by rw [List.length_take]; omega
  have hinj : Inj (node (idx.take n)) n := by have := (h.idx.take n).inj; rwa [hil] at this
  constructor
  · intro hf
    refine ⟨fun c => interp (node (idx.take n)) n (col (pcs.take n) c), fun c _ => interp_deg _ _ _, fun i hi c hc => ?_⟩
    by_cases hin : i < n
    · have := interp_at hinj (col (pcs.take n) c) hin
      have e : node (idx.take n) i = toF (rd idx (i : Int)) := by show toF (rd (idx.take n) (i : Int)) = _; rw [rd_take hin (by omega)]
      rw [e] at this
      rw [this]
      show _ = toF (rd (rd_L1 (pcs.take n) (i : Int)) (c : Int))
      rw [rd_L1_take hin (by omega)]
    · have hx := h.idx.at (i := i) (by omega)
      obtain ⟨v1, v2⟩ := valT_eq (h.idx.take n) hx.1 (by omega) (h.rows.take hn) (by rw [hil]; exact Nat.le_refl _) (by omega)
      rw [← hf i (by omega) (by omega), v2 c hc, toF_ofF, hil]
  · rintro ⟨P, hP⟩ i h1 h2
    have hx := h.idx.at h2
    obtain ⟨v1, v2⟩ := val_poly h hn hP hx.1 (by omega)
    obtain ⟨r1, r2⟩ := h.rows.at (i := i) (by omega)
    refine list_ext v1 r1 fun c hc => ?_
    have hb := r2.at (i := c) (by omega)
    rw [v2 c hc, ← hP.val i (by omega) c hc, ofF_toF hb.1 hb.2]
/-- data's pieces lie on the polynomials of the data -/
theorem poly_data {l : List (List Int)} {n m : Nat} (hr : RowsB l n m) (h0 : 0 < n) (hn : n ≤ 32) {x : Int} (hx0 : 0 ≤ x) (hx : x < 256) {c : Nat} (hc : c < m) :
    toF (rd (valT (ints l.length) l x) (c : Int)) = interp (node (ints l.length)) n (col l c) (toF x) := by
  have hl := hr.1
  obtain ⟨v1, v2⟩ := valT_eq (ints_idx (n := l.length) (by omega)) hx0 hx hr (by rw [ints_len]; omega) h0
  rw [v2 c hc, toF_ofF, ints_len, hl]
theorem toF_nodup {l : List Int} (h : Idx l) : (l.map toF).Nodup := by
  rw [List.Nodup, List.pairwise_map]
  refine List.Pairwise.imp_of_mem (R := fun a b => a ≠ b) ?_ h.2
  intro a b ha hb hab e
  have h1 := h.1 a ha; have h2 := h.1 b hb
  exact hab (toF_inj h1.1 (by omega) h2.1 (by omega) e)
/-- two polynomials of less than n coefficients that are the same at n places are the same -/
theorem poly_same {n : Nat} {f g : F → F} (hf : Deg n f) (hg : Deg n g) {l : List Int} (hl : Idx l) (hn : n ≤ l.length) (h : ∀ x ∈ l, f (toF x) = g (toF x)) (x : F) : f x = g x := by
  have := Deg.roots (l.map toF) (Deg.add hf hg) (toF_nodup hl) (by rw [List.length_map]; exact hn) (fun a ha => by
    obtain ⟨y, hy, rfl⟩ := List.mem_map.1 ha
    show f (toF y) + g (toF y) = zero
    rw [h y hy, add_self]) x
  exact add_eq_zero.1 this
end Go.Proofs.Ytcjjohealloglaa.Poly
