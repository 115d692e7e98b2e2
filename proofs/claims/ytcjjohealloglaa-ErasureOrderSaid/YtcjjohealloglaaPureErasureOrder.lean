/-
  ErasureOrder: what is answered does not hang on the order in which the pieces are given.
-/
import Derived.Test.YtcjjohealloglaaFunR
import Derived.Test.YtcjjohealloglaaEx20
namespace Go.Proofs.Ytcjjohealloglaa.Pure
open Go.RowKit Go.Proofs.YtcjjohealloglaaW.PrintWords Go.Proofs.YtcjjohealloglaaW.PrintLast Go.Proofs.Ytcjjohealloglaa.E Go.Proofs.Ytcjjohealloglaa.Gf Go.Proofs.Ytcjjohealloglaa.Val Go.Proofs.Ytcjjohealloglaa.Fun
set_option linter.unusedVariables false

theorem tmod_nat' {a : Int} (h0 : 0 ≤ a) (h : a < 256) (q : Nat) (hq : 0 < q) : ∃ z : Nat, Int.tmod (wrap64 a) (q : Int) = (z : Int) ∧ z < q := by
  obtain ⟨z, rfl⟩ := Int.eq_ofNat_of_zero_le h0
  refine ⟨z % q, ?_, Nat.mod_lt _ hq⟩
  rw [show wrap64 (z : Int) = (z : Int) by unfold wrap64; omega]; rfl

/-! ### turning -/
def rot {α : Type} (l : List α) (z : Nat) : List α := l.drop z ++ l.take z
theorem rot_len {α : Type} (l : List α) (z : Nat) (hz : z ≤ l.length) : (rot l z).length = l.length := by unfold rot; rw [List.length_append, List.length_drop, List.length_take]; omega
theorem rot_perm {α : Type} (l : List α) (z : Nat) : (rot l z).Perm l := by
  have h : (l.drop z ++ l.take z).Perm (l.take z ++ l.drop z) := List.perm_append_comm
  rwa [List.take_append_drop] at h
theorem rot_get {α : Type} (l : List α) (z i : Nat) (hz : z ≤ l.length) (hi : i < l.length) : (rot l z)[i]'(by rw [rot_len l z hz]; exact hi) = l[if i < l.length - z then i + z else i - (l.length - z)]'(by split <;> omega) := by
  unfold rot
  by_cases h : i < l.length - z
  · rw [List.getElem_append_left (by rw [List.length_drop]; exact h), List.getElem_drop]
    congr 1; rw [if_pos h]; omega
  · rw [List.getElem_append_right (by rw [List.length_drop]; omega), List.getElem_take]
    congr 1; rw [if_neg h, List.length_drop]
theorem rot_at (idx : List Int) (pcs : List (List Int)) (z : Nat) (hl : idx.length = pcs.length) (hz : z ≤ idx.length) {i : Nat} (hi : i < idx.length) :
    ∃ j, j < idx.length ∧ rd (rot idx z) (i : Int) = rd idx (j : Int) ∧ rd_L1 (rot pcs z) (i : Int) = rd_L1 pcs (j : Int) := by
  refine ⟨if i < idx.length - z then i + z else i - (idx.length - z), by split <;> omega, ?_, ?_⟩
  · rw [rd_of (by rw [rot_len idx z hz]; exact hi), rot_get idx z i hz hi, rd_of (by split <;> omega)]
  · rw [rd_L1_of (by rw [rot_len pcs z (by omega)]; omega), rot_get pcs z i (by omega) (by omega), rd_L1_of (by split <;> omega)]
    congr 1; rw [hl]
theorem rot_from (idx : List Int) (pcs : List (List Int)) (z : Nat) (hl : idx.length = pcs.length) (hz : z ≤ idx.length) {j : Nat} (hj : j < idx.length) :
    ∃ i, i < idx.length ∧ rd (rot idx z) (i : Int) = rd idx (j : Int) ∧ rd_L1 (rot pcs z) (i : Int) = rd_L1 pcs (j : Int) := by
  have hi : (if z ≤ j then j - z else j + (idx.length - z)) < idx.length := by split <;> omega
  have e : (if (if z ≤ j then j - z else j + (idx.length - z)) < idx.length - z then (if z ≤ j then j - z else j + (idx.length - z)) + z else (if z ≤ j then j - z else j + (idx.length - z)) - (idx.length - z)) = j := by
    by_cases h : z ≤ j
    · rw [if_pos h, if_pos (by omega)]; omega
    · rw [if_neg h, if_neg (by omega)]; omega
  generalize (if z ≤ j then j - z else j + (idx.length - z)) = i at hi e
  refine ⟨i, hi, ?_, ?_⟩
  · rw [rd_of (by rw [rot_len idx z hz]; exact hi), rot_get idx z i hz hi, rd_of hj]
    congr 1
  · rw [rd_L1_of (by rw [rot_len pcs z (by omega)]; omega), rot_get pcs z i (by omega) (by omega), rd_L1_of (by omega)]
    congr 1; rw [← hl]; exact e

/-! ### given, turned -/
theorem eqlT_iff (l : List (List Int)) : eqlT l = true ↔ ∀ r ∈ l, ∀ s ∈ l, r.length = s.length ∧ r.length ≤ 200 := by
  unfold eqlT
  rw [List.all_eq_true]
  constructor
  · intro h r hr s hs
    have h1 := h r hr; have h2 := h s hs
    simp only [Bool.and_eq_true, decide_eq_true_eq] at h1 h2
    exact ⟨h1.1.trans h2.1.symm, h1.2⟩
  · intro h r hr
    have h0 : 0 < l.length := List.length_pos_of_mem hr
    have h1 := h r hr (rd_L1 l ((0 : Nat) : Int)) (by rw [rd_L1_of h0]; exact List.getElem_mem h0)
    have h2 : r.length = (rd_L1 l 0).length := h1.1
    rw [decide_eq_true h2, decide_eq_true h1.2]; rfl
theorem givT_rot (need : Int) (idx : List Int) (pcs : List (List Int)) (z : Nat) (hl : idx.length = pcs.length) (hz : z ≤ idx.length) : givT need (rot idx z) (rot pcs z) = givT need idx pcs := by
  have e1 : eqlT (rot pcs z) = eqlT pcs := by
    rw [Bool.eq_iff_iff, eqlT_iff, eqlT_iff]
    have hm : ∀ r, r ∈ rot pcs z ↔ r ∈ pcs := fun r => (rot_perm pcs z).mem_iff
    exact ⟨fun h r hr s hs => h r ((hm r).2 hr) s ((hm s).2 hs), fun h r hr s hs => h r ((hm r).1 hr) s ((hm s).1 hs)⟩
  have e2 : idxT [] (rot idx z) = idxT [] idx := by
    rw [Bool.eq_iff_iff, idxT_Idx, idxT_Idx]
    have hm : ∀ r, r ∈ rot idx z ↔ r ∈ idx := fun r => (rot_perm idx z).mem_iff
    exact ⟨fun h => ⟨fun x hx => h.1 x ((hm x).2 hx), (rot_perm idx z).nodup_iff.1 h.2⟩, fun h => ⟨fun x hx => h.1 x ((hm x).1 hx), (rot_perm idx z).nodup_iff.2 h.2⟩⟩
  unfold givT
  rw [e1, e2, rot_len idx z hz, rot_len pcs z (by omega)]
theorem Given_rot {need : Int} {idx : List Int} {pcs : List (List Int)} {L m : Nat} (h : Given need idx pcs L m) (z : Nat) (hz : z ≤ L) : Given need (rot idx z) (rot pcs z) L m := by
  have h1 := h.len; have h2 := h.rows.1
  refine ⟨h.lo, h.hi, by rw [rot_len idx z (by omega)]; exact h1, ⟨by rw [rot_len pcs z (by omega)]; exact h2, fun r hr => h.rows.2 r ((rot_perm pcs z).mem_iff.1 hr)⟩, h.small,
    ⟨fun x hx => h.idx.1 x ((rot_perm idx z).mem_iff.1 hx), (rot_perm idx z).nodup_iff.2 h.idx.2⟩⟩

/-! ### the pieces lie on polynomials -/
structure PolyAt (P : Nat → F → F) (n : Nat) (idx : List Int) (pcs : List (List Int)) (L m : Nat) : Prop where
  deg : ∀ c, c < m → Deg n (P c)
  val : ∀ i, i < L → ∀ c, c < m → toF (rd (rd_L1 pcs (i : Int)) (c : Int)) = P c (toF (rd idx (i : Int)))
theorem rd_take {idx : List Int} {n i : Nat} (hi : i < n) (hn : n ≤ idx.length) : rd (idx.take n) (i : Int) = rd idx (i : Int) := by
  rw [rd_of (by rw [List.length_take]; omega), rd_of (by omega), List.getElem_take]
theorem rd_L1_take {pcs : List (List Int)} {n i : Nat} (hi : i < n) (hn : n ≤ pcs.length) : rd_L1 (pcs.take n) (i : Int) = rd_L1 pcs (i : Int) := by
  rw [rd_L1_of (by rw [List.length_take]; omega), rd_L1_of (by omega), List.getElem_take]
theorem val_poly {P : Nat → F → F} {n : Nat} {idx : List Int} {pcs : List (List Int)} {L m : Nat} (h : Given (n : Int) idx pcs L m) (hn : n ≤ L) (hP : PolyAt P n idx pcs L m) {x : Int} (hx0 : 0 ≤ x) (hx : x < 256) :
    (valT (idx.take n) (pcs.take n) x).length = m ∧ ∀ c, c < m → rd (valT (idx.take n) (pcs.take n) x) (c : Int) = ofF (P c (toF x)) := by
  have h3 := h.len
  have hp := h.rows.1
  have hlo := h.lo
  have hil : (idx.take n).length = n := by rw [List.length_take]; omega
  obtain ⟨v1, v2⟩ := valT_eq (h.idx.take n) hx0 hx (h.rows.take hn) (by rw [hil]; exact Nat.le_refl _) (by omega)
  refine ⟨v1, fun c hc => ?_⟩
  rw [v2 c hc, hil]
  have hinj : Inj (node (idx.take n)) n := by have := (h.idx.take n).inj; rwa [hil] at this
  refine congrArg ofF (interp_unique hinj _ (hP.deg c hc) (fun j hj => ?_) _)
  show P c (toF (rd (idx.take n) (j : Int))) = toF (rd (rd_L1 (pcs.take n) (j : Int)) (c : Int))
  rw [rd_take hj (by omega), rd_L1_take hj (by omega), hP.val j (by omega) c hc]
theorem fit_poly {n : Nat} {idx : List Int} {pcs : List (List Int)} {L m : Nat} (h : Given (n : Int) idx pcs L m) (hn : n ≤ L) : FitP n idx pcs ↔ ∃ P, PolyAt P n idx pcs L m := by
  have h3 := h.len
  have hp := h.rows.1
  have hlo := h.lo
  have hil : (idx.take n).length = n := by rw [List.length_take]; omega
  have hinj : Inj (node (idx.take n)) n := by have := (h.idx.take n).inj; rwa [hil] at this
  constructor
  · intro hf
    refine ⟨fun c => interp (node (idx.take n)) n (col (pcs.take n) c), fun c _ => interp_deg _ _ _, fun i hi c hc => ?_⟩
    by_cases hin : i < n
    · have := interp_at hinj (col (pcs.take n) c) hin
      have e : node (idx.take n) i = toF (rd idx (i : Int)) := by show toF (rd (idx.take n) (i : Int)) = _; rw [rd_take hin (by omega)]
      rw [e] at this
      rw [this]
      show _ = toF (rd (rd_L1 (pcs.take n) (i : Int)) (c : Int))
      rw [rd_L1_take hin (by omega)]
    · have hx := h.idx.at (i := i) (by omega)
      obtain ⟨v1, v2⟩ := valT_eq (h.idx.take n) hx.1 (by omega) (h.rows.take hn) (by rw [hil]; exact Nat.le_refl _) (by omega)
      rw [← hf i (by omega) (by omega), v2 c hc, toF_ofF, hil]
  · rintro ⟨P, hP⟩ i h1 h2
    have hx := h.idx.at h2
    obtain ⟨v1, v2⟩ := val_poly h hn hP hx.1 (by omega)
    obtain ⟨r1, r2⟩ := h.rows.at (i := i) (by omega)
    refine list_ext v1 r1 fun c hc => ?_
    have hb := r2.at (i := c) (by omega)
    rw [v2 c hc, ← hP.val i (by omega) c hc, ofF_toF hb.1 hb.2]
theorem poly_rot {P : Nat → F → F} {n : Nat} {idx : List Int} {pcs : List (List Int)} {L m : Nat} (hl : idx.length = L) (hp : pcs.length = L) (z : Nat) (hz : z ≤ L) : PolyAt P n (rot idx z) (rot pcs z) L m ↔ PolyAt P n idx pcs L m := by
  constructor
  · intro h
    refine ⟨h.deg, fun j hj c hc => ?_⟩
    obtain ⟨i, hi, e1, e2⟩ := rot_from idx pcs z (by omega) (by omega) (j := j) (by omega)
    rw [← e1, ← e2]; exact h.val i (by omega) c hc
  · intro h
    refine ⟨h.deg, fun j hj c hc => ?_⟩
    obtain ⟨i, hi, e1, e2⟩ := rot_at idx pcs z (by omega) (by omega) (i := j) (by omega)
    rw [e1, e2]; exact h.val i (by omega) c hc
theorem fit_rot {n : Nat} {idx : List Int} {pcs : List (List Int)} {L m : Nat} (h : Given (n : Int) idx pcs L m) (z : Nat) (hz : z ≤ L) : FitP n (rot idx z) (rot pcs z) ↔ FitP n idx pcs := by
  have h3 := h.len
  have hp := h.rows.1
  by_cases hn : n ≤ L
  · rw [fit_poly h hn, fit_poly (Given_rot h z hz) hn]
    exact ⟨fun ⟨P, hP⟩ => ⟨P, (poly_rot h3 hp z hz).1 hP⟩, fun ⟨P, hP⟩ => ⟨P, (poly_rot h3 hp z hz).2 hP⟩⟩
  · exact ⟨fun _ i h1 h2 => by omega, fun _ i h1 h2 => by rw [rot_len idx z (by omega)] at h2; omega⟩
theorem val_rot {n : Nat} {idx : List Int} {pcs : List (List Int)} {L m : Nat} (h : Given (n : Int) idx pcs L m) (hn : n ≤ L) (hf : FitP n idx pcs) (z : Nat) (hz : z ≤ L) {x : Int} (hx0 : 0 ≤ x) (hx : x < 256) :
    valT ((rot idx z).take n) ((rot pcs z).take n) x = valT (idx.take n) (pcs.take n) x := by
  obtain ⟨P, hP⟩ := (fit_poly h hn).1 hf
  obtain ⟨a1, a2⟩ := val_poly h hn hP hx0 hx
  obtain ⟨b1, b2⟩ := val_poly (Given_rot h z hz) hn ((poly_rot h.len h.rows.1 z hz).2 hP) hx0 hx
  exact list_ext b1 a1 fun c hc => by rw [a2 c hc, b2 c hc]
theorem recovered_rot {n : Nat} {idx : List Int} {pcs : List (List Int)} {L m : Nat} (h : Given (n : Int) idx pcs L m) (hm : m ≤ 24) (z : Nat) (hz : z ≤ L) (want : List Int) (hw : want.length ≤ 32) (hx : ∀ x ∈ want, 0 ≤ x ∧ x < 256) (k : Nat) (hk : 50 ≤ k) :
    ∃ r e, erasure_recovered.f k (n : Int) idx pcs want = some (r, e) ∧ erasure_recovered.f k (n : Int) (rot idx z) (rot pcs z) want = some (r, e) ∧ r.length ≤ 32 ∧ (∀ q ∈ r, q.length ≤ 24) ∧ (e = 0 → r.length = want.length) := by
  have h3 := h.len
  have hp := h.rows.1
  by_cases hn : n ≤ L
  · rcases recovered_eq h hn want (by omega) k hk (by omega) with ⟨hf, e⟩ | ⟨hf, e⟩
    · rcases recovered_eq (Given_rot h z hz) hn want (by omega) k hk (by omega) with ⟨hf2, e2⟩ | ⟨hf2, e2⟩
      · refine ⟨_, 0, e, ?_, by simpa using hw, fun q hq => ?_, fun _ => by simp⟩
        · rw [e2]
          refine congrArg (fun l => some (l, (0 : Int))) (List.map_congr_left fun x hxm => ?_)
          exact val_rot h hn hf z hz (hx x hxm).1 (hx x hxm).2
        · obtain ⟨x, hxm, rfl⟩ := List.mem_map.1 hq
          obtain ⟨P, hP⟩ := (fit_poly h hn).1 hf
          have := (val_poly h hn hP (hx x hxm).1 (hx x hxm).2).1
          omega
      · exact absurd ((fit_rot h z hz).2 hf) hf2
    · rcases recovered_eq (Given_rot h z hz) hn want (by omega) k hk (by omega) with ⟨hf2, e2⟩ | ⟨hf2, e2⟩
      · exact absurd ((fit_rot h z hz).1 hf2) hf
      · exact ⟨[], 18, e, e2, by simp, by simp, fun h => by omega⟩
  · exact ⟨[], 4, recovered_few h (by omega) want k, recovered_few (Given_rot h z hz) (by omega) want k, by simp, by simp, fun h => by omega⟩

theorem order (need size : Int) (idx : List Int) (pcs : List (List Int)) (want : Int) (a5 : Int) (hb : ∀ r ∈ pcs, Bytes r) (h5 : 0 ≤ a5 ∧ a5 < 256) : seamarklaw29_ErasureOrder.f 1002 need size idx pcs want a5 = some true := by
  have hj : seamarklaw29_ErasureOrder.j0 (1001 + 1) need size idx pcs want a5 true true = some true := by simp only [seamarklaw29_ErasureOrder.j0, if_true]
  unfold seamarklaw29_ErasureOrder.f
  rw [head_ok _ (by omega)]
  obtain ⟨b, e, hbf⟩ := Few_eq pcs 1002 (by omega)
  rw [e]
  simp only [Option.bind_some]
  cases b with
  | false => rw [if_neg (by simp)]; exact hj
  | true =>
    rw [if_pos rfl]
    obtain ⟨h8, h24⟩ := hbf rfl
    by_cases hl : (idx.length : Int) = (pcs.length : Int)
    · rw [if_pos hl]
      by_cases h0 : (idx.length : Int) = 0
      · rw [h0]; exact hj
      · have hl' : idx.length = pcs.length := by omega
        obtain ⟨z, hz, hzl⟩ := tmod_nat' h5.1 h5.2 idx.length (by omega)
        rw [show ((idx.length : Int) == 0) = false by simpa using h0]
        show seamarklaw29_ErasureOrder.j0 (1001 + 1) need size idx pcs want a5 true false = some true
        simp only [seamarklaw29_ErasureOrder.j0]
        rw [if_neg (by simp), if_neg h0, hz]
        simp only [Option.bind_some, Int.toNat_natCast, List.nil_append, List.length_nil]
        have hd : (idx.drop z).length + z = idx.length := by rw [List.length_drop]; omega
        have hd2 : (pcs.drop z).length + z = idx.length := by rw [List.length_drop]; omega
        have ht : (idx.take z).length = z := by rw [List.length_take]; omega
        have ht2 : (pcs.take z).length = z := by rw [List.length_take]; omega
        rw [if_pos (by omega), if_pos (by omega), if_pos (by omega), if_pos (by omega), if_pos (by omega), if_pos (by omega), if_pos (by omega)]
        show ((erasure_Fits.f 1001 need idx pcs).bind fun bt627 => (erasure_Fits.f 1001 need (rot idx z) (rot pcs z)).bind fun bt629 => _) = some true
        have key : ∃ x, erasure_Fits.f 1001 need idx pcs = some x ∧ erasure_Fits.f 1001 need (rot idx z) (rot pcs z) = some x := by
          cases hg : givT need idx pcs with
          | false =>
            have hg2 := givT_rot need idx pcs z hl' (by omega)
            rw [hg] at hg2
            exact ⟨_, Fits_bad (by omega) (by omega) hg _, Fits_bad (by rw [rot_len _ _ (by omega)]; omega) (by rw [rot_len _ _ (by omega)]; omega) hg2 _⟩
          | true =>
            obtain ⟨L, m, hG⟩ := givT_of hb hg
            have h3 := hG.len
            obtain ⟨n, rfl⟩ : ∃ n : Nat, need = (n : Int) := Int.eq_ofNat_of_zero_le (by have := hG.lo; omega)
            obtain ⟨b, e, hbf⟩ := Fits_eq hG 1001 (by omega)
            obtain ⟨c, e2, hcf⟩ := Fits_eq (Given_rot hG z (by omega)) 1001 (by omega)
            have : b = c := by
              have := fit_rot hG z (by omega)
              cases b <;> cases c <;> simp_all
            exact ⟨_, e, this ▸ e2⟩
        have key2 : ∃ r x, erasure_Decode.f (999 + 1) need size idx pcs = some (r, x) ∧ erasure_Decode.f (999 + 1) need size (rot idx z) (rot pcs z) = some (r, x) ∧ r.length ≤ 32 ∧ ∀ q ∈ r, q.length ≤ 24 := by
          cases hg : givT need idx pcs with
          | false =>
            have hg2 := givT_rot need idx pcs z hl' (by omega)
            rw [hg] at hg2
            exact ⟨_, _, Decode_bad (by omega) (by omega) hg _, Decode_bad (by rw [rot_len _ _ (by omega)]; omega) (by rw [rot_len _ _ (by omega)]; omega) hg2 _, by simp, by simp⟩
          | true =>
            obtain ⟨L, m, hG⟩ := givT_of hb hg
            have h3 := hG.len
            have hlo := hG.lo
            have hhi := hG.hi
            have hm : m ≤ 24 := by
              have h1 := (hG.rows.at (i := 0) (by omega)).1
              have := h24 (rd_L1 pcs ((0 : Nat) : Int)) (by rw [rd_L1_of (by omega)]; exact List.getElem_mem _)
              omega
            obtain ⟨n, rfl⟩ : ∃ n : Nat, need = (n : Int) := Int.eq_ofNat_of_zero_le (by have := hG.lo; omega)
            by_cases hms : (m : Int) = size
            · obtain ⟨r, x, e1, e2, e3, e4, _⟩ := recovered_rot hG hm z (by omega) (ints n) (by rw [ints_len]; omega) (fun x hx => by have := (ints_idx (n := n) (by omega)).1 x hx; omega) 999 (by omega)
              rw [Decode_eq hG (fun _ => hms) 999 (by omega), Decode_eq (Given_rot hG z (by omega)) (fun _ => hms) 999 (by omega), e1, e2]
              exact ⟨r, x, rfl, rfl, e3, e4⟩
            · exact ⟨_, _, Decode_size hG (by omega) hms _, Decode_size (Given_rot hG z (by omega)) (by omega) hms _, by simp, by simp⟩
        have key3 : ∃ r x, erasure_Repair.f (999 + 1) need idx pcs want = some (r, x) ∧ erasure_Repair.f (999 + 1) need (rot idx z) (rot pcs z) want = some (r, x) ∧ r.length ≤ 24 := by
          by_cases hbad : givT need idx pcs = false ∨ want < 0 ∨ want ≥ 32
          · have hg2 := givT_rot need idx pcs z hl' (by omega)
            exact ⟨_, _, Repair_bad (by omega) (by omega) hbad _, Repair_bad (by rw [rot_len _ _ (by omega)]; omega) (by rw [rot_len _ _ (by omega)]; omega) (by rw [hg2]; exact hbad) _, by simp⟩
          · have hg : givT need idx pcs = true := by
              cases h : givT need idx pcs with
              | true => rfl
              | false => exact absurd (.inl h) hbad
            have hx0 : 0 ≤ want := by
              by_cases h : want < 0
              · exact absurd (.inr (.inl h)) hbad
              · omega
            have hx : want < 32 := by
              by_cases h : want ≥ 32
              · exact absurd (.inr (.inr h)) hbad
              · omega
            obtain ⟨L, m, hG⟩ := givT_of hb hg
            have h3 := hG.len
            have hm : m ≤ 24 := by
              have h1 := (hG.rows.at (i := 0) (by omega)).1
              have := h24 (rd_L1 pcs ((0 : Nat) : Int)) (by rw [rd_L1_of (by omega)]; exact List.getElem_mem _)
              omega
            obtain ⟨n, rfl⟩ : ∃ n : Nat, need = (n : Int) := Int.eq_ofNat_of_zero_le (by have := hG.lo; omega)
            obtain ⟨r, x, e1, e2, e3, e4, e5⟩ := recovered_rot hG hm z (by omega) [want] (by simp) (fun x hxm => by rw [List.mem_singleton.1 hxm]; omega) 999 (by omega)
            rw [Repair_eq hG hx0 hx 999 (by omega), Repair_eq (Given_rot hG z (by omega)) hx0 hx 999 (by omega), e1, e2]
            simp only [Option.bind_some]
            by_cases hx : x = 0
            · have hr1 := e5 hx
              simp at hr1
              rw [if_pos hx, if_pos (by omega)]
              refine ⟨_, _, rfl, rfl, e4 _ ?_⟩
              rw [show (0 : Int) = ((0 : Nat) : Int) from rfl, rd_L1_of (by omega)]; exact List.getElem_mem _
            · rw [if_neg hx]; exact ⟨_, _, rfl, rfl, by simp⟩
        obtain ⟨x, f1, f2⟩ := key
        obtain ⟨r, x2, d1, d2, d3, d4⟩ := key2
        obtain ⟨r3, x3, p1, p2, p3⟩ := key3
        rw [f1, f2]
        simp only [Option.bind_some, beq_self_eq_true, if_true]
        show seamarklaw29_ErasureOrder.j1 (1000 + 1) need size idx pcs want true (rot idx z) (rot pcs z) = some true
        simp only [seamarklaw29_ErasureOrder.j1]
        rw [show (1000 : Nat) = 999 + 1 from rfl, d1, d2]
        simp only [Option.bind_some, if_true]
        rw [Same_eq _ r r (by omega) (m := 24) (by omega) d4 (by omega), p1, p2]
        simp only [Option.bind_some, decide_true, if_true]
        rw [Bytes_eq _ r3 r3 (by omega) (by omega)]
        simp
    · rw [if_neg hl]; exact hj
theorem ErasureOrder (need size : Int) (idx : List Int) (pcs : List (List Int)) (want : Int) (a5 : Int) (_ : (Lit.int .i64 need).wf = true) (_ : (Lit.int .i64 size).wf = true) (_ : ∀ n ∈ idx, (Lit.int .i64 n).wf = true) (_ : idx.length * 8 ≤ 140737488351232)
    (hb : ∀ r ∈ pcs, ∀ n ∈ r, (Lit.int .u8 n).wf = true) (_ : (Lit.int .i64 want).wf = true) (h5 : (Lit.int .u8 a5).wf = true) : ∃ k, seamarklaw29_ErasureOrder.f k need size idx pcs want a5 = some true :=
  ⟨1002, order need size idx pcs want a5 (fun r hr n hn => byte_wf (hb r hr n hn)) (byte_wf h5)⟩
end Go.Proofs.Ytcjjohealloglaa.Pure
