/-
  The field of 256 elements (bytes; the sum is the exclusive or, the product is taken modulo x^8 + x^4 + x^3 + x^2 + 1), functions that are polynomials of less than n coefficients, and interpolation. Plain Lean: no program in sight.
-/
namespace Go.Proofs.Ytcjjohealloglaa.Gf
set_option linter.unusedVariables false

def xt (a : Nat) : Nat := if 2 * a > 255 then (2 * a) ^^^ 285 else 2 * a
def gmulL : Nat → Nat → Nat → Nat → Nat
  | 0, _, o, _ => o
  | k + 1, b, o, x => gmulL k (b / 2) (if b % 2 = 1 then o ^^^ x else o) (xt x)
def gmul (a b : Nat) : Nat := gmulL 8 b 0 a

theorem xor_lt {a b : Nat} (ha : a < 256) (hb : b < 256) : a ^^^ b < 256 := Nat.xor_lt_two_pow (n := 8) ha hb
theorem xt_lt : ∀ a, a < 256 → xt a < 256 := by
  have h : ∀ a : Fin 256, xt a.val < 256 := by decide +kernel
  exact fun a ha => h ⟨a, ha⟩
theorem two_xor (a b : Nat) : 2 * (a ^^^ b) = (2 * a) ^^^ (2 * b) := by
  have := Nat.shiftLeft_xor_distrib (a := a) (b := b) (i := 1)
  simpa [Nat.shiftLeft_eq, Nat.mul_comm] using this
theorem big_iff {a : Nat} (ha : a < 256) : 2 * a > 255 ↔ a.testBit 7 = true := by
  have h : ∀ a : Fin 256, (2 * a.val > 255) = (a.val.testBit 7 = true) := by
    have h2 : ∀ a : Fin 256, decide (2 * a.val > 255) = a.val.testBit 7 := by decide +kernel
    intro a; rw [← h2 a]; simp
  exact iff_of_eq (h ⟨a, ha⟩)
theorem xor_cc (a b c : Nat) : (a ^^^ c) ^^^ (b ^^^ c) = a ^^^ b := by
  rw [Nat.xor_comm b c, Nat.xor_assoc, ← Nat.xor_assoc c c b, Nat.xor_self, Nat.zero_xor]
theorem xt_add {a b : Nat} (ha : a < 256) (hb : b < 256) : xt (a ^^^ b) = xt a ^^^ xt b := by
  have hx := xor_lt ha hb
  unfold xt
  have e1 := big_iff ha; have e2 := big_iff hb; have e3 := big_iff hx
  rw [Nat.testBit_xor] at e3
  by_cases h1 : 2 * a > 255 <;> by_cases h2 : 2 * b > 255
  · rw [if_pos h1, if_pos h2, if_neg (by rw [e3, e1.1 h1, e2.1 h2]; decide), two_xor, xor_cc]
  · have f2 : b.testBit 7 = false := by simpa using fun h => h2 (e2.2 h)
    rw [if_pos h1, if_neg h2, if_pos (by rw [e3, e1.1 h1, f2]; decide), two_xor, Nat.xor_assoc, Nat.xor_assoc, Nat.xor_comm 285]
  · have f1 : a.testBit 7 = false := by simpa using fun h => h1 (e1.2 h)
    rw [if_neg h1, if_pos h2, if_pos (by rw [e3, f1, e2.1 h2]; decide), two_xor, Nat.xor_assoc]
  · have f1 : a.testBit 7 = false := by simpa using fun h => h1 (e1.2 h)
    have f2 : b.testBit 7 = false := by simpa using fun h => h2 (e2.2 h)
    rw [if_neg h1, if_neg h2, if_neg (by rw [e3, f1, f2]; decide), two_xor]
theorem half_xor (b c : Nat) : (b ^^^ c) / 2 = (b / 2) ^^^ (c / 2) := by
  have := Nat.shiftRight_xor_distrib (a := b) (b := c) (i := 1)
  simpa [Nat.shiftRight_eq_div_pow] using this
theorem odd_xor (b c : Nat) : (b ^^^ c) % 2 = 1 ↔ ¬ (b % 2 = 1 ↔ c % 2 = 1) := by
  have h := Nat.testBit_xor b c 0
  simp only [Nat.testBit_zero] at h
  have h2 : decide ((b ^^^ c) % 2 = 1) = (decide (b % 2 = 1) ^^ decide (c % 2 = 1)) := h
  by_cases h3 : b % 2 = 1 <;> by_cases h4 : c % 2 = 1 <;> simp [h3, h4] at h2 ⊢ <;> omega
theorem xor_4 (o p x : Nat) : (o ^^^ x) ^^^ p = (o ^^^ p) ^^^ x := by rw [Nat.xor_assoc, Nat.xor_comm x p, Nat.xor_assoc]
theorem gmulL_lt (k : Nat) : ∀ b o x, o < 256 → x < 256 → gmulL k b o x < 256 := by
  induction k with
  | zero => intro b o x ho _; exact ho
  | succ k ih =>
    intro b o x ho hx
    simp only [gmulL]
    refine ih _ _ _ ?_ (xt_lt x hx)
    split
    · exact xor_lt ho hx
    · exact ho
theorem gmulL_addb (k : Nat) : ∀ b c o p x, gmulL k (b ^^^ c) (o ^^^ p) x = gmulL k b o x ^^^ gmulL k c p x := by
  induction k with
  | zero => intro b c o p x; rfl
  | succ k ih =>
    intro b c o p x
    simp only [gmulL]
    rw [half_xor, ← ih]
    congr 1
    have h := odd_xor b c
    by_cases h1 : b % 2 = 1 <;> by_cases h2 : c % 2 = 1
    · rw [if_neg (by rw [h]; simp [h1, h2]), if_pos h1, if_pos h2, xor_cc]
    · rw [if_pos (by rw [h]; simp [h1, h2]), if_pos h1, if_neg h2, xor_4]
    · rw [if_pos (by rw [h]; simp [h1, h2]), if_neg h1, if_pos h2, Nat.xor_assoc]
    · rw [if_neg (by rw [h]; simp [h1, h2]), if_neg h1, if_neg h2]
theorem gmulL_adda (k : Nat) : ∀ b o p x y, x < 256 → y < 256 → gmulL k b (o ^^^ p) (x ^^^ y) = gmulL k b o x ^^^ gmulL k b p y := by
  induction k with
  | zero => intro b o p x y _ _; rfl
  | succ k ih =>
    intro b o p x y hx hy
    simp only [gmulL]
    rw [xt_add hx hy, ← ih _ _ _ _ _ (xt_lt x hx) (xt_lt y hy)]
    congr 1
    split
    · rw [Nat.xor_assoc, ← Nat.xor_assoc p x y, Nat.xor_comm p x, Nat.xor_assoc x p y, ← Nat.xor_assoc]
    · rfl
theorem gmul_lt {a b : Nat} (ha : a < 256) : gmul a b < 256 := gmulL_lt 8 b 0 a (by omega) ha
theorem gmul_addr (a b c : Nat) : gmul a (b ^^^ c) = gmul a b ^^^ gmul a c := by
  have := gmulL_addb 8 b c 0 0 a
  simpa [gmul] using this
theorem gmul_addl {a b : Nat} (c : Nat) (ha : a < 256) (hb : b < 256) : gmul (a ^^^ b) c = gmul a c ^^^ gmul b c := by
  have := gmulL_adda 8 c 0 0 a b ha hb
  simpa [gmul] using this

/-- two additive functions that agree on the eight single bits agree -/
theorem lin_ext (f g : Nat → Nat) (hf : ∀ a b, a < 256 → b < 256 → f (a ^^^ b) = f a ^^^ f b) (hg : ∀ a b, a < 256 → b < 256 → g (a ^^^ b) = g a ^^^ g b)
    (h : ∀ i : Fin 8, f (2 ^ i.val) = g (2 ^ i.val)) : ∀ a, a < 256 → f a = g a := by
  have f0 : f 0 = 0 := by have := hf 0 0 (by omega) (by omega); simpa using this
  have g0 : g 0 = 0 := by have := hg 0 0 (by omega) (by omega); simpa using this
  have key : ∀ n, n ≤ 8 → ∀ a, a < 2 ^ n → f a = g a := by
    intro n
    induction n with
    | zero => intro _ a ha; obtain rfl : a = 0 := by simpa using ha
              rw [f0, g0]
    | succ n ih =>
      intro hn a ha
      have hp : 2 ^ n ≤ 128 := Nat.pow_le_pow_right (by omega : 0 < 2) (by omega : n ≤ 7)
      rw [Nat.pow_succ] at ha
      by_cases hlt : a < 2 ^ n
      · exact ih (by omega) a hlt
      · have e : a = (a - 2 ^ n) ^^^ 2 ^ n := by
          have h1 : a - 2 ^ n < 2 ^ n := by omega
          have h2 := Nat.two_pow_add_eq_or_of_lt h1 1
          have h3 : 2 ^ n ^^^ (a - 2 ^ n) = 2 ^ n * 1 + (a - 2 ^ n) := by
            apply Nat.eq_of_testBit_eq
            intro j
            rw [h2, Nat.testBit_xor, Nat.testBit_or, Nat.mul_one, Nat.testBit_two_pow]
            by_cases hj : n = j
            · subst hj; rw [Nat.testBit_lt_two_pow h1]; simp
            · simp [hj]
          rw [Nat.xor_comm, h3]; omega
        rw [e, hf _ _ (by omega) (by omega), hg _ _ (by omega) (by omega), ih (by omega) (a - 2 ^ n) (by omega), h ⟨n, by omega⟩]
  exact fun a ha => key 8 (Nat.le_refl _) a ha

theorem gmul_comm {a b : Nat} (ha : a < 256) (hb : b < 256) : gmul a b = gmul b a := by
  refine lin_ext (fun a => gmul a b) (fun a => gmul b a) (fun x y hx hy => gmul_addl b hx hy) (fun x y _ _ => gmul_addr b x y) (fun i => ?_) a ha
  refine lin_ext (fun b => gmul (2 ^ i.val) b) (fun b => gmul b (2 ^ i.val)) (fun x y _ _ => gmul_addr _ x y) (fun x y hx hy => gmul_addl _ hx hy) (fun j => ?_) b hb
  have h : ∀ i j : Fin 8, gmul (2 ^ i.val) (2 ^ j.val) = gmul (2 ^ j.val) (2 ^ i.val) := by decide +kernel
  exact h i j
theorem pow8_lt (i : Fin 8) : 2 ^ i.val < 256 := Nat.pow_lt_pow_right (by omega : 1 < 2) (show i.val < 8 from i.isLt)
theorem gmul_assoc {a b c : Nat} (ha : a < 256) (hb : b < 256) (hc : c < 256) : gmul (gmul a b) c = gmul a (gmul b c) := by
  refine lin_ext (fun a => gmul (gmul a b) c) (fun a => gmul a (gmul b c)) (fun x y hx hy => ?_) (fun x y hx hy => gmul_addl _ hx hy) (fun i => ?_) a ha
  · show gmul (gmul (x ^^^ y) b) c = _
    rw [gmul_addl b hx hy, gmul_addl c (gmul_lt hx) (gmul_lt hy)]
  have hi := pow8_lt i
  refine lin_ext (fun b => gmul (gmul (2 ^ i.val) b) c) (fun b => gmul (2 ^ i.val) (gmul b c)) (fun x y hx hy => ?_) (fun x y hx hy => ?_) (fun j => ?_) b hb
  · show gmul (gmul (2 ^ i.val) (x ^^^ y)) c = _
    rw [gmul_addr, gmul_addl c (gmul_lt hi) (gmul_lt hi)]
  · show gmul (2 ^ i.val) (gmul (x ^^^ y) c) = _
    rw [gmul_addl c hx hy, gmul_addr]
  have hj := pow8_lt j
  refine lin_ext (fun c => gmul (gmul (2 ^ i.val) (2 ^ j.val)) c) (fun c => gmul (2 ^ i.val) (gmul (2 ^ j.val) c)) (fun x y _ _ => gmul_addr _ x y) (fun x y _ _ => ?_) (fun l => ?_) c hc
  · show gmul (2 ^ i.val) (gmul (2 ^ j.val) (x ^^^ y)) = _
    rw [gmul_addr, gmul_addr]
  have h : ∀ i j l : Fin 8, gmul (gmul (2 ^ i.val) (2 ^ j.val)) (2 ^ l.val) = gmul (2 ^ i.val) (gmul (2 ^ j.val) (2 ^ l.val)) := by decide +kernel
  exact h i j l
theorem gmul_one {a : Nat} (ha : a < 256) : gmul a 1 = a := by
  refine lin_ext (fun a => gmul a 1) (fun a => a) (fun x y hx hy => gmul_addl _ hx hy) (fun _ _ _ _ => rfl) (fun i => ?_) a ha
  have h : ∀ i : Fin 8, gmul (2 ^ i.val) 1 = 2 ^ i.val := by decide +kernel
  exact h i
theorem gmul_zero (a : Nat) : gmul a 0 = 0 := by
  have := gmul_addr a 0 0
  simpa using this

/-- an element of the field -/
structure F where
  v : Nat
  lt : v < 256
deriving DecidableEq
theorem F.ext {a b : F} (h : a.v = b.v) : a = b := by cases a; cases b; cases h; rfl
instance : Add F := ⟨fun a b => ⟨a.v ^^^ b.v, xor_lt a.lt b.lt⟩⟩
instance : Mul F := ⟨fun a b => ⟨gmul a.v b.v, gmul_lt a.lt⟩⟩
def zero : F := ⟨0, by omega⟩
def one : F := ⟨1, by omega⟩
theorem add_v (a b : F) : (a + b).v = a.v ^^^ b.v := rfl
theorem mul_v (a b : F) : (a * b).v = gmul a.v b.v := rfl
theorem add_comm (a b : F) : a + b = b + a := F.ext (Nat.xor_comm _ _)
theorem add_assoc (a b c : F) : a + b + c = a + (b + c) := F.ext (Nat.xor_assoc _ _ _)
theorem add_self (a : F) : a + a = zero := F.ext (Nat.xor_self _)
theorem add_zero (a : F) : a + zero = a := F.ext (Nat.xor_zero _)
theorem zero_add (a : F) : zero + a = a := F.ext (Nat.zero_xor _)
theorem mul_comm (a b : F) : a * b = b * a := F.ext (gmul_comm a.lt b.lt)
theorem mul_assoc (a b c : F) : a * b * c = a * (b * c) := F.ext (gmul_assoc a.lt b.lt c.lt)
theorem mul_add (a b c : F) : a * (b + c) = a * b + a * c := F.ext (gmul_addr a.v b.v c.v)
theorem add_mul (a b c : F) : (a + b) * c = a * c + b * c := F.ext (gmul_addl _ a.lt b.lt)
theorem mul_one (a : F) : a * one = a := F.ext (gmul_one a.lt)
theorem one_mul (a : F) : one * a = a := by rw [mul_comm, mul_one]
theorem mul_zero (a : F) : a * zero = zero := F.ext (gmul_zero a.v)
theorem zero_mul (a : F) : zero * a = zero := by rw [mul_comm, mul_zero]
instance : Std.Associative (α := F) (· + ·) := ⟨add_assoc⟩
instance : Std.Commutative (α := F) (· + ·) := ⟨add_comm⟩
instance : Std.Associative (α := F) (· * ·) := ⟨mul_assoc⟩
instance : Std.Commutative (α := F) (· * ·) := ⟨mul_comm⟩
theorem add_eq_zero {a b : F} : a + b = zero ↔ a = b := by
  constructor
  · intro h
    have : a + b + b = zero + b := by rw [h]
    rwa [add_assoc, add_self, add_zero, zero_add] at this
  · rintro rfl; exact add_self a
theorem add_cancel {a b c : F} (h : a + c = b + c) : a = b := by
  have : a + c + c = b + c + c := by rw [h]
  rwa [add_assoc, add_self, add_zero, add_assoc, add_self, add_zero] at this

/-- the power, one factor behind the other -/
def fpow (a : F) : Nat → F
  | 0 => one
  | n + 1 => fpow a n * a
theorem fpow_add (a : F) (m n : Nat) : fpow a (m + n) = fpow a m * fpow a n := by
  induction n with
  | zero => simp [fpow, mul_one]
  | succ n ih => rw [← Nat.add_assoc, fpow, fpow, ih, mul_assoc]
theorem fpow_double (a : F) (m : Nat) : fpow a (2 * m) = fpow a m * fpow a m := by rw [Nat.two_mul, fpow_add]
def finv (a : F) : F := fpow a 254
/-- the same, by squares -/
def sqs (a : Nat) : Nat :=
  let b := gmul a a; let c := gmul b b; let d := gmul c c; let e := gmul d d; let f := gmul e e; let g := gmul f f; let h := gmul g g
  gmul (gmul (gmul (gmul (gmul (gmul h g) f) e) d) c) b
theorem finv_v (a : F) : (finv a).v = sqs a.v := by
  have h2 : fpow a 2 = a * a := by rw [show (2 : Nat) = 2 * 1 from rfl, fpow_double]; simp [fpow, one_mul]
  have h4 : fpow a 4 = fpow a 2 * fpow a 2 := fpow_double a 2
  have h8 : fpow a 8 = fpow a 4 * fpow a 4 := fpow_double a 4
  have h16 : fpow a 16 = fpow a 8 * fpow a 8 := fpow_double a 8
  have h32 : fpow a 32 = fpow a 16 * fpow a 16 := fpow_double a 16
  have h64 : fpow a 64 = fpow a 32 * fpow a 32 := fpow_double a 32
  have h128 : fpow a 128 = fpow a 64 * fpow a 64 := fpow_double a 64
  have e : finv a = fpow a 128 * fpow a 64 * fpow a 32 * fpow a 16 * fpow a 8 * fpow a 4 * fpow a 2 := by
    rw [← fpow_add, ← fpow_add, ← fpow_add, ← fpow_add, ← fpow_add, ← fpow_add]; rfl
  rw [e, h128, h64, h32, h16, h8, h4, h2]
  rfl
theorem mul_inv {a : F} (h : a ≠ zero) : a * finv a = one := by
  apply F.ext
  rw [mul_v, finv_v]
  have key : ∀ a : Fin 256, a.val = 0 ∨ gmul a.val (sqs a.val) = 1 := by decide +kernel
  rcases key ⟨a.v, a.lt⟩ with h0 | h1
  · exact absurd (F.ext h0) h
  · exact h1
theorem mul_eq_zero {a b : F} (h : a * b = zero) : a = zero ∨ b = zero := by
  by_cases ha : a = zero
  · exact .inl ha
  · right
    have : finv a * (a * b) = finv a * zero := by rw [h]
    rwa [mul_zero, ← mul_assoc, mul_comm (finv a) a, mul_inv ha, one_mul] at this
theorem one_ne_zero : one ≠ zero := by decide
theorem mul_ne_zero {a b : F} (ha : a ≠ zero) (hb : b ≠ zero) : a * b ≠ zero := fun h => (mul_eq_zero h).elim ha hb
theorem finv_ne_zero {a : F} (h : a ≠ zero) : finv a ≠ zero := fun e => by have := mul_inv h; rw [e, mul_zero] at this; exact one_ne_zero this.symm
theorem inv_unique {a b : F} (h : a * b = one) : b = finv a := by
  have ha : a ≠ zero := fun e => by rw [e, zero_mul] at h; exact one_ne_zero h.symm
  have : finv a * (a * b) = finv a * one := by rw [h]
  rwa [mul_one, ← mul_assoc, mul_comm (finv a) a, mul_inv ha, one_mul] at this

/-! ### polynomials of less than n coefficients, as functions -/
def Deg : Nat → (F → F) → Prop
  | 0, f => ∀ x, f x = zero
  | n + 1, f => ∃ c g, Deg n g ∧ ∀ x, f x = c + x * g x
theorem Deg.congr {n : Nat} {f g : F → F} (h : Deg n f) (e : ∀ x, g x = f x) : Deg n g := by
  cases n with
  | zero => exact fun x => (e x).trans (h x)
  | succ n => obtain ⟨c, p, hp, hf⟩ := h; exact ⟨c, p, hp, fun x => (e x).trans (hf x)⟩
theorem Deg.add {n : Nat} : ∀ {f g : F → F}, Deg n f → Deg n g → Deg n (fun x => f x + g x) := by
  induction n with
  | zero => intro f g hf hg x; show f x + g x = zero; rw [hf x, hg x, add_zero]
  | succ n ih =>
    rintro f g ⟨c, p, hp, hf⟩ ⟨d, q, hq, hg⟩
    refine ⟨c + d, fun x => p x + q x, ih hp hq, fun x => ?_⟩
    show f x + g x = c + d + x * (p x + q x)
    rw [hf x, hg x, mul_add]; ac_rfl
theorem Deg.smul {n : Nat} (a : F) : ∀ {f : F → F}, Deg n f → Deg n (fun x => a * f x) := by
  induction n with
  | zero => intro f hf x; show a * f x = zero; rw [hf x, mul_zero]
  | succ n ih =>
    rintro f ⟨c, p, hp, hf⟩
    refine ⟨a * c, fun x => a * p x, ih hp, fun x => ?_⟩
    show a * f x = a * c + x * (a * p x)
    rw [hf x, mul_add]; ac_rfl
theorem Deg.zero (n : Nat) : Deg n (fun _ => Gf.zero) := by
  induction n with
  | zero => exact fun _ => rfl
  | succ n ih => exact ⟨Gf.zero, _, ih, fun x => by rw [mul_zero, add_zero]⟩
theorem Deg.up {n : Nat} : ∀ {f : F → F}, Deg n f → Deg (n + 1) f := by
  induction n with
  | zero => intro f hf; exact ⟨Gf.zero, fun _ => Gf.zero, fun _ => rfl, fun x => by rw [hf x, mul_zero, add_zero]⟩
  | succ n ih => rintro f ⟨c, p, hp, hf⟩; exact ⟨c, p, ih hp, hf⟩
theorem Deg.mono {m n : Nat} (h : m ≤ n) {f : F → F} (hf : Deg m f) : Deg n f := by
  induction h with
  | refl => exact hf
  | step _ ih => exact ih.up
theorem Deg.const (c : F) : Deg 1 (fun _ => c) := ⟨c, fun _ => Gf.zero, fun _ => rfl, fun x => by rw [mul_zero, add_zero]⟩
theorem Deg.shift {n : Nat} {f : F → F} (hf : Deg n f) : Deg (n + 1) (fun x => x * f x) := ⟨Gf.zero, f, hf, fun x => by rw [zero_add]⟩
theorem Deg.lin {n : Nat} (a : F) {f : F → F} (hf : Deg n f) : Deg (n + 1) (fun x => f x * (x + a)) :=
  (hf.shift.add (hf.smul a).up).congr fun x => by rw [mul_add]; ac_rfl
theorem Deg.root {n : Nat} (a : F) : ∀ {f : F → F}, Deg n f → ∃ g, Deg (n - 1) g ∧ ∀ x, f x = f a + (x + a) * g x := by
  induction n with
  | zero => intro f hf; exact ⟨fun _ => Gf.zero, fun _ => rfl, fun x => by rw [hf x, hf a, mul_zero, add_zero]⟩
  | succ n ih =>
    rintro f ⟨c, p, hp, hf⟩
    obtain ⟨q, hq, hpq⟩ := ih hp
    rcases Nat.eq_zero_or_pos n with rfl | hn
    · exact ⟨fun _ => Gf.zero, fun _ => rfl, fun x => by rw [hf x, hf a, hp x, hp a, mul_zero, mul_zero, mul_zero, add_zero]; rw [add_zero]⟩
    · obtain ⟨m, rfl⟩ : ∃ m, n = m + 1 := ⟨n - 1, by omega⟩
      refine ⟨fun x => p a + x * q x, ⟨p a, q, hq, fun x => rfl⟩, fun x => ?_⟩
      show f x = f a + (x + a) * (p a + x * q x)
      rw [hf x, hf a, hpq x]
      have e1 : x * (p a + (x + a) * q x) = x * p a + (x * (x * q x) + a * (x * q x)) := by
        rw [mul_add, add_mul, mul_add]; congr 2; ac_rfl
      have e2 : (x + a) * (p a + x * q x) = x * p a + a * p a + (x * (x * q x) + a * (x * q x)) := by
        rw [mul_add, add_mul, add_mul]
      rw [e1, e2]
      have h1 : c + a * p a + (x * p a + a * p a + (x * (x * q x) + a * (x * q x))) = c + (x * p a + (x * (x * q x) + a * (x * q x))) + (a * p a + a * p a) := by ac_rfl
      rw [h1, add_self, add_zero]
/-- a polynomial of less than n coefficients with n roots is 0 -/
theorem Deg.roots (l : List F) : ∀ {n : Nat} {f : F → F}, Deg n f → l.Nodup → n ≤ l.length → (∀ a ∈ l, f a = Gf.zero) → ∀ x, f x = Gf.zero := by
  induction l with
  | nil => intro n f hf _ hn _; obtain rfl : n = 0 := by simpa using hn
           exact hf
  | cons a l ih =>
    intro n f hf hd hn hr
    rcases Nat.eq_zero_or_pos n with rfl | hp
    · exact hf
    obtain ⟨g, hg, hfg⟩ := hf.root a
    have ha := hr a (by simp)
    have hz := ih hg (List.nodup_cons.1 hd).2 (by simp at hn; omega) (fun b hb => by
      have h1 := hr b (by simp [hb])
      rw [hfg b, ha, zero_add] at h1
      rcases mul_eq_zero h1 with h2 | h2
      · rw [add_eq_zero] at h2
        subst h2
        exact absurd hb (List.nodup_cons.1 hd).1
      · exact h2)
    intro x
    rw [hfg x, ha, hz x, mul_zero, add_zero]

/-! ### products, sums, interpolation; the nodes are at 0, .., at (n - 1) -/
def prodTo (f : Nat → F) : Nat → F
  | 0 => one
  | n + 1 => prodTo f n * f n
def sumTo (f : Nat → F) : Nat → F
  | 0 => zero
  | n + 1 => sumTo f n + f n
theorem prodTo_zero {f : Nat → F} {n j : Nat} (hj : j < n) (h : f j = zero) : prodTo f n = zero := by
  induction n with
  | zero => omega
  | succ n ih =>
    rw [prodTo]
    by_cases e : j = n
    · subst e; rw [h, mul_zero]
    · rw [ih (by omega), zero_mul]
theorem prodTo_ne {f : Nat → F} {n : Nat} (h : ∀ j, j < n → f j ≠ zero) : prodTo f n ≠ zero := by
  induction n with
  | zero => exact one_ne_zero
  | succ n ih => rw [prodTo]; exact mul_ne_zero (ih fun j hj => h j (by omega)) (h n (by omega))
theorem sumTo_congr {f g : Nat → F} {n : Nat} (h : ∀ j, j < n → f j = g j) : sumTo f n = sumTo g n := by
  induction n with
  | zero => rfl
  | succ n ih => rw [sumTo, sumTo, ih fun j hj => h j (by omega), h n (by omega)]
theorem prodTo_congr {f g : Nat → F} {n : Nat} (h : ∀ j, j < n → f j = g j) : prodTo f n = prodTo g n := by
  induction n with
  | zero => rfl
  | succ n ih => rw [prodTo, prodTo, ih fun j hj => h j (by omega), h n (by omega)]
theorem sumTo_one {f : Nat → F} {n j : Nat} (hj : j < n) (h : ∀ i, i < n → i ≠ j → f i = zero) : sumTo f n = f j := by
  induction n with
  | zero => omega
  | succ n ih =>
    rw [sumTo]
    by_cases e : j = n
    · subst e
      have : sumTo f j = zero := by
        have : sumTo f j = sumTo (fun _ => zero) j := sumTo_congr fun i hi => h i (by omega) (by omega)
        rw [this]
        clear this h ih hj
        induction j with
        | zero => rfl
        | succ j ih => rw [sumTo, ih, add_zero]
      rw [this, zero_add]
    · rw [ih (by omega) (fun i hi hne => h i (by omega) hne), h n (by omega) (by omega), add_zero]
theorem sumTo_add (f g : Nat → F) (n : Nat) : sumTo (fun i => f i + g i) n = sumTo f n + sumTo g n := by
  induction n with
  | zero => rw [sumTo, sumTo, sumTo, add_zero]
  | succ n ih => rw [sumTo, sumTo, sumTo, ih]; ac_rfl
theorem sumTo_zero (n : Nat) : sumTo (fun _ => zero) n = zero := by
  induction n with
  | zero => rfl
  | succ n ih => rw [sumTo, ih, add_zero]

/-- the product of the differences of x from the nodes but node k -/
def over (p : Nat → F) (n : Nat) (x : F) (k : Nat) : F := prodTo (fun i => if i = k then one else x + p i) n
/-- the factor of the value at node k in the value at x -/
def weight (p : Nat → F) (n : Nat) (x : F) (k : Nat) : F := over p n x k * finv (over p n (p k) k)
def interp (p : Nat → F) (n : Nat) (y : Nat → F) (x : F) : F := sumTo (fun k => weight p n x k * y k) n

theorem over_deg (p : Nat → F) (k : Nat) : ∀ m, Deg (if k < m then m else m + 1) (fun x => over p m x k) := by
  intro m
  induction m with
  | zero => rw [if_neg (by omega)]; exact Deg.const one
  | succ m ih =>
    by_cases h : k < m
    · rw [if_pos h] at ih
      rw [if_pos (by omega)]
      refine (ih.lin (p m)).congr fun x => ?_
      show prodTo _ (m + 1) = _
      rw [prodTo, if_neg (by omega)]; rfl
    · rw [if_neg h] at ih
      by_cases e : m = k
      · subst e
        rw [if_pos (by omega)]
        refine ih.congr fun x => ?_
        show prodTo _ (m + 1) = _
        rw [prodTo, if_pos rfl, mul_one]; rfl
      · rw [if_neg (by omega)]
        refine (ih.lin (p m)).congr fun x => ?_
        show prodTo _ (m + 1) = _
        rw [prodTo, if_neg e]; rfl
theorem weight_deg (p : Nat → F) (n k : Nat) (h : k < n) : Deg n (fun x => weight p n x k) := by
  have := over_deg p k n
  rw [if_pos h] at this
  exact (this.smul (finv (over p n (p k) k))).congr fun x => by rw [weight, mul_comm]
theorem interp_deg (p : Nat → F) (n : Nat) (y : Nat → F) : Deg n (interp p n y) := by
  have key : ∀ m, m ≤ n → Deg n (fun x => sumTo (fun k => weight p n x k * y k) m) := by
    intro m
    induction m with
    | zero => intro _; exact Deg.zero n
    | succ m ih =>
      intro hm
      refine ((ih (by omega)).add ((weight_deg p n m (by omega)).smul (y m))).congr fun x => ?_
      show sumTo _ (m + 1) = _
      rw [sumTo, mul_comm (y m)]
  exact key n (Nat.le_refl _)
def Inj (p : Nat → F) (n : Nat) : Prop := ∀ i j, i < n → j < n → p i = p j → i = j
theorem over_self {p : Nat → F} {n : Nat} (hp : Inj p n) {k : Nat} (hk : k < n) : over p n (p k) k ≠ zero := by
  refine prodTo_ne fun j hj => ?_
  show (if j = k then one else p k + p j) ≠ zero
  split
  · exact one_ne_zero
  · rename_i hne
    intro h
    exact hne (hp k j hk hj (add_eq_zero.1 h)).symm
theorem over_off {p : Nat → F} {n : Nat} {k j : Nat} (hj : j < n) (hne : j ≠ k) : over p n (p j) k = zero := by
  refine prodTo_zero hj ?_
  rw [if_neg hne, add_self]
/-- the weight is not 0 at what is no node -/
theorem weight_ne {p : Nat → F} {n : Nat} (hp : Inj p n) {k : Nat} (hk : k < n) {x : F} (hx : ∀ i, i < n → p i ≠ x) : weight p n x k ≠ zero := by
  refine mul_ne_zero (prodTo_ne fun j hj => ?_) (finv_ne_zero (over_self hp hk))
  show (if j = k then one else x + p j) ≠ zero
  split
  · exact one_ne_zero
  · exact fun h => hx j hj (add_eq_zero.1 h).symm
theorem interp_at {p : Nat → F} {n : Nat} (hp : Inj p n) (y : Nat → F) {j : Nat} (hj : j < n) : interp p n y (p j) = y j := by
  unfold interp
  rw [sumTo_one hj (fun i hi hne => by rw [weight, over_off hj (fun e => hne e.symm), zero_mul, zero_mul]), weight, mul_inv (over_self hp hj), one_mul]
/-- what is of less than n coefficients and has the values y at the nodes is the interpolation -/
theorem interp_unique {p : Nat → F} {n : Nat} (hp : Inj p n) (y : Nat → F) {f : F → F} (hf : Deg n f) (h : ∀ j, j < n → f (p j) = y j) (x : F) : interp p n y x = f x := by
  have hd := Deg.roots ((List.range n).map p) ((interp_deg p n y).add hf) (by
    rw [List.Nodup, List.pairwise_map]
    refine List.Pairwise.imp_of_mem ?_ (List.nodup_range (n := n))
    intro a b ha hb hne e
    exact hne (hp a b (List.mem_range.1 ha) (List.mem_range.1 hb) e)) (by simp) (fun a ha => by
      obtain ⟨j, hj, rfl⟩ := List.mem_map.1 ha
      have hj' := List.mem_range.1 hj
      show interp p n y (p j) + f (p j) = zero
      rw [interp_at hp y hj', h j hj', add_self]) x
  exact add_eq_zero.1 hd
/-- interpolation of the values of a polynomial gives it back, from whatever nodes -/
theorem interp_interp {p q : Nat → F} {n : Nat} (hq : Inj q n) (y : Nat → F) (x : F) : interp q n (fun k => interp p n y (q k)) x = interp p n y x :=
  interp_unique hq _ (interp_deg p n y) (fun _ _ => rfl) x
theorem interp_add (p : Nat → F) (n : Nat) (y z : Nat → F) (x : F) : interp p n (fun k => y k + z k) x = interp p n y x + interp p n z x := by
  unfold interp
  rw [← sumTo_add]
  exact sumTo_congr fun j _ => mul_add _ _ _
end Go.Proofs.Ytcjjohealloglaa.Gf
