/-
  ErasureMatchesReference: on small inputs the package and its reference answer the same.
-/
import Derived.Test.YtcjjohealloglaaRef
namespace Go.Proofs.Ytcjjohealloglaa.Pure
open Go.RowKit Go.Proofs.YtcjjohealloglaaW.PrintWords Go.Proofs.YtcjjohealloglaaW.PrintLast Go.Proofs.Ytcjjohealloglaa.E Go.Proofs.Ytcjjohealloglaa.Gf Go.Proofs.Ytcjjohealloglaa.Val Go.Proofs.Ytcjjohealloglaa.Fun

theorem matches_ref (a0 a1 : Int) (l2 : List (List Int)) (a3 a4 a5 : Int) (l6 : List Int) (l7 : List (List Int)) (a8 : Int) (w0 : 0 ≤ a0 ∧ a0 < 256) (w1 : 0 ≤ a1 ∧ a1 < 256) (h2 : ∀ r ∈ l2, Bytes r) (h7 : ∀ r ∈ l7, Bytes r) :
    seamarklaw29_ErasureMatchesReference.f 3004 a0 a1 l2 a3 a4 a5 l6 l7 a8 = some true := by
  have hj : seamarklaw29_ErasureMatchesReference.j0 (3003 + 1) a0 a1 l2 a3 a4 a5 l6 l7 a8 true true = some true := by simp only [seamarklaw29_ErasureMatchesReference.j0, if_true]
  unfold seamarklaw29_ErasureMatchesReference.f
  rw [head_ok _ (by omega)]
  obtain ⟨b, e, hb⟩ := Few_eq l2 3004 (by omega)
  obtain ⟨b2, e2, hb2⟩ := Few_eq l7 3004 (by omega)
  rw [e, e2]
  simp only [Option.bind_some]
  cases b with
  | false => rw [if_neg (by simp)]; exact hj
  | true =>
    rw [if_pos rfl]
    cases b2 with
    | false => rw [if_neg (by simp)]; exact hj
    | true =>
      rw [if_pos rfl]
      obtain ⟨h28, h224⟩ := hb rfl
      obtain ⟨h78, h724⟩ := hb2 rfl
      by_cases h6 : (l6.length : Int) > 40
      · rw [decide_eq_true h6]; exact hj
      · rw [decide_eq_false h6]
        have h6' : l6.length ≤ 40 := by omega
        have s3 : seamarklaw29_ErasureMatchesReference.j3 (3000 + 1) a4 l6 l7 a8 true = some true := by
          obtain ⟨r, x, e1, e2, e3⟩ := Ref.Repair_both (need := a4) (x := a8) h7 h6' h78 h724 3000 (by omega)
          obtain ⟨q, e4, e5⟩ := Ref.Fits_both (need := a4) h7 h6' h78 h724 3000 (by omega)
          simp only [seamarklaw29_ErasureMatchesReference.j3]
          rw [e1, e2]
          simp only [Option.bind_some, if_true]
          rw [Bytes_eq 3000 r r (by omega) (by omega), e4, e5]
          simp
        have s2 : seamarklaw29_ErasureMatchesReference.j2 (3001 + 1) a4 a5 l6 l7 a8 true = some true := by
          obtain ⟨r, x, e1, e2, e3, e4⟩ := Ref.Decode_both (need := a4) (size := a5) h7 h6' h78 h724 3001 (by omega)
          simp only [seamarklaw29_ErasureMatchesReference.j2]
          rw [e1, e2]
          simp only [Option.bind_some, if_true]
          rw [Same_eq 3001 r r (by omega) (m := 24) (by omega) e4 (by omega)]
          simp only [Option.bind_some, decide_true, if_true, beq_self_eq_true]
          exact s3
        have s1 : seamarklaw29_ErasureMatchesReference.j1 (3002 + 1) l2 a3 a4 a5 l6 l7 a8 true = some true := by
          obtain ⟨r, x, e1, e2, e3, e4⟩ := Ref.Code_both h2 h28 h224 a3 3002 (by omega)
          simp only [seamarklaw29_ErasureMatchesReference.j1]
          rw [e1, e2]
          simp only [Option.bind_some, if_true]
          rw [Same_eq 3002 r r (by omega) (m := 24) (by omega) e4 (by omega)]
          simp only [Option.bind_some, decide_true, if_true, beq_self_eq_true]
          exact s2
        show seamarklaw29_ErasureMatchesReference.j0 (3003 + 1) a0 a1 l2 a3 a4 a5 l6 l7 a8 true false = some true
        simp only [seamarklaw29_ErasureMatchesReference.j0]
        rw [if_neg (by simp), Inv_eq 3003 (by omega) w0.1 w0.2, Ref.Inv_eq 3003 (by omega) w0.1 w0.2, Mul_eq 3003 (by omega) w0.1 w0.2 w1.1 w1.2, Ref.Mul_eq 3003 (by omega) w0.1 w0.2 w1.1 w1.2]
        simp only [Option.bind_some, if_true, beq_self_eq_true]
        exact s1
theorem ErasureMatchesReference (a0 a1 : Int) (l2 : List (List Int)) (a3 a4 a5 : Int) (l6 : List Int) (l7 : List (List Int)) (a8 : Int) (w0 : (Lit.int .u8 a0).wf = true) (w1 : (Lit.int .u8 a1).wf = true) (h2 : ∀ r ∈ l2, ∀ n ∈ r, (Lit.int .u8 n).wf = true) (_ : (Lit.int .i64 a3).wf = true) (_ : (Lit.int .i64 a4).wf = true) (_ : (Lit.int .i64 a5).wf = true)
    (_ : ∀ n ∈ l6, (Lit.int .i64 n).wf = true) (_ : l6.length * 8 ≤ 140737488351232) (h7 : ∀ r ∈ l7, ∀ n ∈ r, (Lit.int .u8 n).wf = true) (_ : (Lit.int .i64 a8).wf = true) : ∃ k, seamarklaw29_ErasureMatchesReference.f k a0 a1 l2 a3 a4 a5 l6 l7 a8 = some true :=
  ⟨3004, matches_ref a0 a1 l2 a3 a4 a5 l6 l7 a8 (byte_wf w0) (byte_wf w1) (fun r hr n hn => byte_wf (h2 r hr n hn)) (fun r hr n hn => byte_wf (h7 r hr n hn))⟩
end Go.Proofs.Ytcjjohealloglaa.Pure
