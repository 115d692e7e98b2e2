/-
  ErasureField: products are commutative and associative, distribute over sums, have 1 as neutral element and no divisors of zero; an element times its inverse is 1: for all bytes.
-/
import Derived.Test.YtcjjohealloglaaVal
namespace Go.Proofs.Ytcjjohealloglaa.Pure
open Go.RowKit Go.Proofs.YtcjjohealloglaaW.PrintWords Go.Proofs.YtcjjohealloglaaW.PrintLast Go.Proofs.Ytcjjohealloglaa.E Go.Proofs.Ytcjjohealloglaa.Gf Go.Proofs.Ytcjjohealloglaa.Val

theorem Mul_F (k : Nat) (hk : 20 ≤ k) (a b : F) : erasure_Mul.f k (ofF a) (ofF b) = some (ofF (a * b)) := by
  rw [Mul_eq k hk (ofF_byte a).1 (ofF_byte a).2 (ofF_byte b).1 (ofF_byte b).2, toF_ofF, toF_ofF]
theorem xor_F (a b : F) : Go.bits .xor .u8 (ofF a) (ofF b) = ofF (a + b) := by
  rw [xor8_toF (ofF_byte a).1 (ofF_byte a).2 (ofF_byte b).1 (ofF_byte b).2, toF_ofF, toF_ofF]
theorem ofF_eq_zero {a : F} : ofF a = 0 ↔ a = zero := ⟨fun h => ofF_inj (h.trans ofF_zero.symm), fun h => by rw [h]; rfl⟩
theorem field_j1 (k : Nat) (hk : 400 ≤ k) (a : F) : seamarklaw29_ErasureField.j1 (k + 1) (ofF a) true = some true := by
  simp only [seamarklaw29_ErasureField.j1]
  rw [Inv_eq k (by omega) (ofF_byte a).1 (ofF_byte a).2, toF_ofF]
  by_cases h : ofF a = 0
  · rw [if_pos h]; simp [h]
  · rw [if_neg h]
    have hne : a ≠ zero := fun e => h (ofF_eq_zero.2 e)
    simp only [Option.bind_some, if_true, h, if_false]
    rw [Mul_F k (by omega), mul_inv hne]; rfl
theorem field_j0 (k : Nat) (hk : 420 ≤ k) (a b : F) (t : Int) (ht : t = ofF (a * b)) : seamarklaw29_ErasureField.j0 (k + 1) (ofF a) (ofF b) true t = some true := by
  subst ht
  simp only [seamarklaw29_ErasureField.j0, if_true]
  rw [show (1 : Int) = ofF one from rfl, Mul_F k (by omega), mul_one]
  obtain ⟨k, rfl⟩ : ∃ q, k = q + 1 := ⟨k - 1, by omega⟩
  simp only [Option.bind_some, if_true]
  by_cases h : ofF a = 0
  · rw [if_pos h]
    have ha := ofF_eq_zero.1 h
    rw [ha, zero_mul]; exact field_j1 k (by omega) zero
  · rw [if_neg h]
    have hne : a ≠ zero := fun e => h (ofF_eq_zero.2 e)
    have e : ((ofF (a * b) == 0) == (ofF b == 0)) = true := by
      by_cases hb : b = zero
      · rw [hb, mul_zero]; rfl
      · have h1 : (ofF (a * b) == 0) = false := by simpa using fun h => mul_ne_zero hne hb (ofF_eq_zero.1 h)
        have h2 : (ofF b == 0) = false := by simpa using fun h => hb (ofF_eq_zero.1 h)
        rw [h1, h2]; rfl
    rw [e]; exact field_j1 k (by omega) a
theorem field_F (a b c : F) : seamarklaw29_ErasureField.f 500 (ofF a) (ofF b) (ofF c) = some true := by
  unfold seamarklaw29_ErasureField.f
  rw [head_ok 500 (by omega), Mul_F 500 (by omega) a b, Mul_F 500 (by omega) b a, Mul_F 500 (by omega) b c]
  simp only [Option.bind_some, if_true]
  rw [Mul_F 500 (by omega) (a * b) c, Mul_F 500 (by omega) a (b * c), xor_F b c, Mul_F 500 (by omega) a (b + c), Mul_F 500 (by omega) a c]
  simp only [Option.bind_some]
  rw [if_pos (by rw [mul_comm]), if_pos (by rw [mul_assoc]), xor_F]
  have e0 : (ofF (a * (b + c)) == ofF (a * b + a * c)) = true := by rw [mul_add]; simp
  rw [e0]
  exact field_j0 499 (by omega) a b _ rfl
theorem ErasureField : seamarklaw29_ErasureField.Pure := by
  intro a0 a1 a2 h0 h1 h2
  have b0 := byte_wf h0; have b1 := byte_wf h1; have b2 := byte_wf h2
  refine ⟨500, ?_⟩
  have := field_F (toF a0) (toF a1) (toF a2)
  rwa [ofF_toF b0.1 b0.2, ofF_toF b1.1 b1.2, ofF_toF b2.1 b2.2] at this
end Go.Proofs.Ytcjjohealloglaa.Pure
