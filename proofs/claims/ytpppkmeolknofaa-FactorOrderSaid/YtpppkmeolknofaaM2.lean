/- Numbers modulo p; division of polynomials by monic ones; sizes of polynomials over a field, division, greatest common divisors: plain algebra. No condition. -/
import Derived.Test.YtpppkmeolknofaaM1
namespace Go.Proofs.Ytpppkmeolknofaa.Alg
set_option linter.unusedSectionVars false

/-- p is at least 2 -/
class Two (p : Nat) : Prop where
  two : 2 ≤ p
/-- the numbers modulo p -/
structure Z (p : Nat) where
  v : Nat
  lt : v < p
theorem Z.ext {p : Nat} {a b : Z p} (h : a.v = b.v) : a = b := by cases a; cases b; cases h; rfl

section zp
variable {p : Nat} [Two p]
theorem pos : 0 < p := Nat.lt_of_lt_of_le (by decide) (Two.two (p := p))
def ofN (n : Nat) : Z p := ⟨n % p, Nat.mod_lt _ pos⟩
theorem ofN_v (n : Nat) : (ofN n : Z p).v = n % p := rfl
instance : Zero (Z p) := ⟨⟨0, pos⟩⟩
instance : One (Z p) := ⟨⟨1, Two.two⟩⟩
instance : Add (Z p) := ⟨fun a b => ofN (a.v + b.v)⟩
instance : Mul (Z p) := ⟨fun a b => ofN (a.v * b.v)⟩
instance : Neg (Z p) := ⟨fun a => ofN (p - a.v)⟩
theorem Z.add_v (a b : Z p) : (a + b).v = (a.v + b.v) % p := rfl
theorem Z.mul_v (a b : Z p) : (a * b).v = a.v * b.v % p := rfl
theorem Z.neg_v (a : Z p) : (-a).v = (p - a.v) % p := rfl
theorem Z.zero_v : (0 : Z p).v = 0 := rfl
theorem Z.one_v : (1 : Z p).v = 1 := rfl
theorem Z.v_mod (a : Z p) : a.v % p = a.v := Nat.mod_eq_of_lt a.lt
instance : CR (Z p) where
  add_assoc a b c := Z.ext (by simp only [Z.add_v, Nat.mod_add_mod, Nat.add_mod_mod, Nat.add_assoc])
  add_comm a b := Z.ext (by rw [Z.add_v, Z.add_v, Nat.add_comm])
  zero_add a := Z.ext (by rw [Z.add_v, Z.zero_v, Nat.zero_add, Z.v_mod])
  neg_add a := Z.ext (by
    have := a.lt
    rw [Z.add_v, Z.neg_v, Nat.mod_add_mod, show p - a.v + a.v = p by omega, Nat.mod_self, Z.zero_v])
  mul_assoc a b c := Z.ext (by simp only [Z.mul_v, Nat.mod_mul_mod, Nat.mul_mod_mod, Nat.mul_assoc])
  mul_comm a b := Z.ext (by rw [Z.mul_v, Z.mul_v, Nat.mul_comm])
  one_mul a := Z.ext (by rw [Z.mul_v, Z.one_v, Nat.one_mul, Z.v_mod])
  mul_add a b c := Z.ext (by simp only [Z.mul_v, Z.add_v, Nat.mod_add_mod, Nat.add_mod_mod, Nat.mul_mod_mod, Nat.mul_add])
theorem ofN_add (a b : Nat) : (ofN (a + b) : Z p) = ofN a + ofN b := Z.ext (by simp only [Z.add_v, ofN_v, Nat.mod_add_mod, Nat.add_mod_mod])
theorem ofN_mul (a b : Nat) : (ofN (a * b) : Z p) = ofN a * ofN b := Z.ext (by simp only [Z.mul_v, ofN_v, Nat.mod_mul_mod, Nat.mul_mod_mod])
theorem ofN_zero : (ofN 0 : Z p) = 0 := Z.ext (by rw [ofN_v, Nat.zero_mod]; rfl)
theorem ofN_one : (ofN 1 : Z p) = 1 := Z.ext (by rw [ofN_v, Nat.mod_eq_of_lt Two.two]; rfl)
theorem ofN_self (a : Z p) : ofN a.v = a := Z.ext (Z.v_mod a)
theorem ofN_p : (ofN p : Z p) = 0 := Z.ext (by rw [ofN_v, Nat.mod_self]; rfl)
theorem ofN_sub {n : Nat} (h : n ≤ p) : (ofN (p - n) : Z p) = -ofN n := by
  refine neg_unique ?_
  rw [← ofN_add, show n + (p - n) = p by omega, ofN_p]
end zp

section pow
variable {R : Type} [CR R]
def pw (a : R) : Nat → R
  | 0 => 1
  | n + 1 => pw a n * a
theorem pw_add (a : R) (m n : Nat) : pw a (m + n) = pw a m * pw a n := by
  induction n with
  | zero => exact (mul_one _).symm
  | succ n ih => rw [← Nat.add_assoc]; simp only [pw]; rw [ih, mul_assoc]
theorem pw_mul (a : R) (m n : Nat) : pw a (m * n) = pw (pw a m) n := by
  induction n with
  | zero => rfl
  | succ n ih => rw [Nat.mul_succ, pw_add, ih]; rfl
theorem mul_pw (a b : R) (n : Nat) : pw (a * b) n = pw a n * pw b n := by
  induction n with
  | zero => exact (mul_one _).symm
  | succ n ih => simp only [pw]; rw [ih]; ac_rfl
theorem one_pw (n : Nat) : pw (1 : R) n = 1 := by
  induction n with
  | zero => rfl
  | succ n ih => simp only [pw]; rw [ih, mul_one]
theorem pw_one (a : R) : pw a 1 = a := one_mul a
end pow

section poly
variable {R : Type} [CR R]
/-- f is monic of degree m -/
def Monic (f : Poly R) (m : Nat) : Prop := f.below (m + 1) ∧ f.c m = 1

theorem div_ex {f : Poly R} {m : Nat} (hf : Monic f m) : ∀ (n : Nat) (a : Poly R), a.below (m + n) → ∃ q r, a = q * f + r ∧ r.below m ∧ q.below n
  | 0, a, h => ⟨0, a, by rw [zero_mul, zero_add], h, below_zero⟩
  | n + 1, a, h => by
    have hb : (a + -(mono (a.c (m + n)) n * f)).below (m + n) := by
      intro i hi
      rw [add_c, neg_c, mono_mul_c]
      by_cases e : i = m + n
      · subst e
        rw [if_pos (by omega), show m + n - n = m by omega, hf.2, mul_one, add_neg]
      · rw [h i (by omega)]
        split
        · rw [hf.1 (i - n) (by omega), mul_zero, neg_zero, add_zero]
        · rw [neg_zero, add_zero]
    obtain ⟨q, r, h1, h2, h3⟩ := div_ex hf n _ hb
    refine ⟨q + mono (a.c (m + n)) n, r, ?_, h2, fun i hi => ?_⟩
    · have : a = (a + -(mono (a.c (m + n)) n * f)) + mono (a.c (m + n)) n * f := by rw [add_assoc, neg_add, add_zero]
      refine this.trans ?_
      rw [h1, add_mul]; ac_rfl
    · rw [add_c, h3 i (by omega), mono_c, if_neg (by omega), add_zero]

theorem exists_top {p : Poly R} (h : p ≠ 0) : ∃ n, p.below (n + 1) ∧ p.c n ≠ 0 := by
  obtain ⟨n, hn⟩ := p.fin
  induction n with
  | zero => exact absurd (eq_zero_of_below hn) h
  | succ n ih =>
    by_cases e : p.c n = 0
    · refine ih fun i hi => ?_
      by_cases e2 : i = n
      · rw [e2, e]
      · exact hn i (by omega)
    · exact ⟨n, hn, e⟩

/-- a multiple of a monic polynomial of degree m that is below m is zero -/
theorem mul_monic_zero {f q : Poly R} {m : Nat} (hf : Monic f m) (h : (q * f).below m) : q = 0 := by
  refine Classical.byContradiction fun hq => ?_
  obtain ⟨n, h1, h2⟩ := exists_top hq
  have := mul_top h1 hf.1
  rw [hf.2, mul_one, h (n + m) (by omega)] at this
  exact h2 this.symm
theorem div_unique {f q r q' r' : Poly R} {m : Nat} (hf : Monic f m) (h : q * f + r = q' * f + r') (hr : r.below m) (hr' : r'.below m) : q = q' ∧ r = r' := by
  have h1 : sub q q' * f = r' + -r := by
    unfold sub
    apply add_right_cancel (a := r)
    rw [add_assoc, neg_add, add_zero, add_mul, neg_mul, show q * f + -(q' * f) + r = (q * f + r) + -(q' * f) by ac_rfl, h, show q' * f + r' + -(q' * f) = r' + (q' * f + -(q' * f)) by ac_rfl, add_neg, add_zero]
  have h2 : sub q q' = 0 := mul_monic_zero hf (by rw [h1]; exact below_add hr' (below_neg hr))
  have h3 : r' + -r = 0 := by rw [← h1, h2, zero_mul]
  exact ⟨eq_of_sub h2, (add_eq_zero h3).symm⟩

/-- a and b leave the same remainder -/
def Cong (f a b : Poly R) : Prop := ∃ k, a = k * f + b
theorem Cong.refl (f a : Poly R) : Cong f a a := ⟨0, by rw [zero_mul, zero_add]⟩
theorem Cong.symm {f a b : Poly R} (h : Cong f a b) : Cong f b a := by
  obtain ⟨k, rfl⟩ := h
  exact ⟨-k, by rw [neg_mul, ← add_assoc, neg_add, zero_add]⟩
theorem Cong.trans {f a b c : Poly R} (h : Cong f a b) (h' : Cong f b c) : Cong f a c := by
  obtain ⟨k, rfl⟩ := h; obtain ⟨l, rfl⟩ := h'
  exact ⟨k + l, by rw [add_mul, add_assoc]⟩
theorem Cong.add {f a b c d : Poly R} (h : Cong f a b) (h' : Cong f c d) : Cong f (a + c) (b + d) := by
  obtain ⟨k, rfl⟩ := h; obtain ⟨l, rfl⟩ := h'
  exact ⟨k + l, by rw [add_mul]; ac_rfl⟩
theorem Cong.mul {f a b c d : Poly R} (h : Cong f a b) (h' : Cong f c d) : Cong f (a * c) (b * d) := by
  obtain ⟨k, rfl⟩ := h; obtain ⟨l, rfl⟩ := h'
  exact ⟨k * (l * f + d) + b * l, by rw [add_mul, add_mul, mul_add b]; ac_rfl⟩
theorem Cong.neg {f a b : Poly R} (h : Cong f a b) : Cong f (-a) (-b) := by
  obtain ⟨k, rfl⟩ := h
  exact ⟨-k, by rw [neg_distrib, neg_mul]⟩
theorem Cong.eq {f a b : Poly R} {m : Nat} (hf : Monic f m) (h : Cong f a b) (ha : a.below m) (hb : b.below m) : a = b := by
  obtain ⟨k, h⟩ := h
  exact (div_unique (q := 0) (r := a) (q' := k) (r' := b) hf (by rw [zero_mul, zero_add]; exact h) ha hb).2
theorem Cong.zero {f k : Poly R} : Cong f (k * f) 0 := ⟨k, by rw [add_zero]⟩
end poly

end Go.Proofs.Ytpppkmeolknofaa.Alg
