/- Commutative rings and fields, finite sums, polynomials over a ring: plain algebra. No condition. · Numbers modulo p; division of polynomials by monic ones; sizes of polynomials over a field, division, greatest common divisors: plain algebra. No condition. · Values and roots of polynomials; the powers of a primitive element of a finite field: plain algebra. Condition: at most 256 elements. · A finite field of at most 256 elements has a primitive element: plain algebra. Condition: at most 256 elements. · The residues modulo a monic polynomial over the numbers modulo p, as numbers in base p: a ring: plain algebra. Condition: p at least 2, the degree at least 1. · The residues are a field just if the modulus has no monic divisor of a degree from 1 to half of its own: plain algebra. Condition: p prime. · Horner's way to the product of residues: plain algebra. No condition. · Division by a monic polynomial, coefficient by coefficient, and the search for a monic divisor: plain algebra. Condition: p at least 2. · The sum and the negative of residues, digit by digit; powers: plain algebra. Condition: p at least 2, the degree at least 1. · The product of residues by the schoolbook's way: plain algebra. Condition: p at least 2, the degree at least 1. · Polynomials over a field: length, quotient and remainder, greatest common divisor: plain algebra. Condition: the coefficients are of a field. · Polynomials kept by a function and a length: plain algebra. No condition. · Row spaces and reduced row echelon forms over a field: plain algebra. No condition. · Gauss-Jordan elimination, column by column: plain algebra. No condition. · Cyclic codes: the multiples of a polynomial modulo x^n - 1, plain algebra. No condition. -/

namespace Go.Proofs.Ytdkdainipanacaa.Alg

class CR (R : Type) extends Add R, Mul R, Neg R, Zero R, One R where
  add_assoc : ∀ a b c : R, a + b + c = a + (b + c)
  add_comm : ∀ a b : R, a + b = b + a
  zero_add : ∀ a : R, 0 + a = a
  neg_add : ∀ a : R, -a + a = 0
  mul_assoc : ∀ a b c : R, a * b * c = a * (b * c)
  mul_comm : ∀ a b : R, a * b = b * a
  one_mul : ∀ a : R, 1 * a = a
  mul_add : ∀ a b c : R, a * (b + c) = a * b + a * c

class Fld (K : Type) [CR K] : Prop where
  inv_ex : ∀ a : K, a ≠ 0 → ∃ b, a * b = 1
  one_ne : (1 : K) ≠ 0

section ring
variable {R : Type} [CR R]

theorem add_assoc (a b c : R) : a + b + c = a + (b + c) := CR.add_assoc a b c
theorem add_comm (a b : R) : a + b = b + a := CR.add_comm a b
theorem zero_add (a : R) : 0 + a = a := CR.zero_add a
theorem add_zero (a : R) : a + 0 = a := by rw [add_comm, zero_add]
theorem neg_add (a : R) : -a + a = 0 := CR.neg_add a
theorem add_neg (a : R) : a + -a = 0 := by rw [add_comm, neg_add]
theorem mul_assoc (a b c : R) : a * b * c = a * (b * c) := CR.mul_assoc a b c
theorem mul_comm (a b : R) : a * b = b * a := CR.mul_comm a b
theorem one_mul (a : R) : 1 * a = a := CR.one_mul a
theorem mul_one (a : R) : a * 1 = a := by rw [mul_comm, one_mul]
theorem mul_add (a b c : R) : a * (b + c) = a * b + a * c := CR.mul_add a b c
theorem add_mul (a b c : R) : (a + b) * c = a * c + b * c := by rw [mul_comm, mul_add, mul_comm c a, mul_comm c b]

instance : Std.Associative (α := R) (· + ·) := ⟨add_assoc⟩
instance : Std.Commutative (α := R) (· + ·) := ⟨add_comm⟩
instance : Std.Associative (α := R) (· * ·) := ⟨mul_assoc⟩
instance : Std.Commutative (α := R) (· * ·) := ⟨mul_comm⟩

theorem add_left_cancel {a b c : R} (h : a + b = a + c) : b = c := by
  have : -a + (a + b) = -a + (a + c) := by rw [h]
  rwa [← add_assoc, ← add_assoc, neg_add, zero_add, zero_add] at this
theorem add_right_cancel {a b c : R} (h : b + a = c + a) : b = c := add_left_cancel (a := a) (by rw [add_comm a b, add_comm a c, h])
theorem mul_zero (a : R) : a * 0 = 0 := by
  apply add_left_cancel (a := a * 0)
  rw [← mul_add, add_zero, add_zero]
theorem zero_mul (a : R) : 0 * a = 0 := by rw [mul_comm, mul_zero]
theorem neg_unique {a b : R} (h : a + b = 0) : b = -a := by apply add_left_cancel (a := a); rw [h, add_neg]
theorem neg_zero : -(0 : R) = 0 := (neg_unique (by rw [add_zero])).symm
theorem neg_neg (a : R) : - -a = a := (neg_unique (neg_add a)).symm
theorem neg_mul (a b : R) : -a * b = -(a * b) := neg_unique (by rw [← add_mul, add_neg, zero_mul])
theorem mul_neg (a b : R) : a * -b = -(a * b) := by rw [mul_comm, neg_mul, mul_comm]
theorem neg_distrib (a b : R) : -(a + b) = -a + -b := (neg_unique (by
  rw [show a + b + (-a + -b) = (a + -a) + (b + -b) by ac_rfl, add_neg, add_neg, add_zero])).symm
theorem add_eq_zero {a b : R} (h : a + -b = 0) : a = b := by
  apply add_right_cancel (a := -b); rw [h, add_neg]

def sub (a b : R) : R := a + -b
theorem sub_self (a : R) : sub a a = 0 := add_neg a
theorem eq_of_sub {a b : R} (h : sub a b = 0) : a = b := add_eq_zero h
theorem sub_add (a b : R) : sub a b + b = a := by unfold sub; rw [add_assoc, neg_add, add_zero]

/-- the sum of f 0, .., f (n - 1) -/
def sum (f : Nat → R) : Nat → R
  | 0 => 0
  | n + 1 => sum f n + f n

theorem sum_congr {f g : Nat → R} {n : Nat} (h : ∀ i, i < n → f i = g i) : sum f n = sum g n := by
  induction n with
  | zero => rfl
  | succ n ih => simp only [sum]; rw [ih (fun i hi => h i (by omega)), h n (by omega)]
theorem sum_zero (n : Nat) : sum (fun _ => (0 : R)) n = 0 := by
  induction n with
  | zero => rfl
  | succ n ih => simp only [sum]; rw [ih, add_zero]
theorem sum_eq_zero {f : Nat → R} {n : Nat} (h : ∀ i, i < n → f i = 0) : sum f n = 0 := by rw [sum_congr h, sum_zero]
theorem sum_add (f g : Nat → R) (n : Nat) : sum (fun i => f i + g i) n = sum f n + sum g n := by
  induction n with
  | zero => simp only [sum]; rw [add_zero]
  | succ n ih => simp only [sum]; rw [ih]; ac_rfl
theorem sum_neg (f : Nat → R) (n : Nat) : sum (fun i => -f i) n = -sum f n := by
  induction n with
  | zero => simp only [sum]; rw [neg_zero]
  | succ n ih => simp only [sum]; rw [ih, neg_distrib]
theorem mul_sum (a : R) (f : Nat → R) (n : Nat) : a * sum f n = sum (fun i => a * f i) n := by
  induction n with
  | zero => exact mul_zero a
  | succ n ih => simp only [sum]; rw [mul_add, ih]
theorem sum_mul (f : Nat → R) (a : R) (n : Nat) : sum f n * a = sum (fun i => f i * a) n := by
  rw [mul_comm, mul_sum]; exact sum_congr fun i _ => mul_comm _ _
theorem sum_front (f : Nat → R) (n : Nat) : sum f (n + 1) = f 0 + sum (fun i => f (i + 1)) n := by
  induction n with
  | zero => simp only [sum]; rw [zero_add, add_zero]
  | succ n ih =>
    have : sum f (n + 1 + 1) = sum f (n + 1) + f (n + 1) := rfl
    rw [this, ih]
    simp only [sum]
    rw [add_assoc]
theorem sum_reflect (f : Nat → R) (n : Nat) : sum f (n + 1) = sum (fun i => f (n - i)) (n + 1) := by
  induction n generalizing f with
  | zero => rfl
  | succ n ih =>
    rw [sum_front f, ih]
    have : sum (fun i => f (n + 1 - i)) (n + 1 + 1) = sum (fun i => f (n + 1 - i)) (n + 1) + f (n + 1 - (n + 1)) := rfl
    rw [this, Nat.sub_self, add_comm]
    congr 1
    exact sum_congr fun i hi => by congr 1; omega
theorem sum_split (f : Nat → R) (m n : Nat) : sum f (m + n) = sum f m + sum (fun i => f (m + i)) n := by
  induction n with
  | zero => simp only [sum]; rw [add_zero]; rfl
  | succ n ih => rw [← Nat.add_assoc]; simp only [sum]; rw [ih, add_assoc]
theorem sum_ext {f : Nat → R} {m n : Nat} (hmn : m ≤ n) (h : ∀ i, m ≤ i → i < n → f i = 0) : sum f n = sum f m := by
  obtain ⟨k, rfl⟩ := Nat.exists_eq_add_of_le hmn
  have h0 : sum (fun i => f (m + i)) k = 0 := sum_eq_zero fun i hi => h _ (by omega) (by omega)
  rw [sum_split, h0, add_zero]
theorem sum_one {f : Nat → R} {n k : Nat} (hk : k < n) (h : ∀ i, i < n → i ≠ k → f i = 0) : sum f n = f k := by
  have h1 : sum f n = sum f (k + 1) := sum_ext (by omega) fun i h1 h2 => h i h2 (by omega)
  rw [h1]
  show sum f k + f k = f k
  rw [sum_eq_zero (fun i hi => h i (by omega) (by omega)), zero_add]
theorem sum_swap (f : Nat → Nat → R) (m n : Nat) : sum (fun i => sum (fun j => f i j) n) m = sum (fun j => sum (fun i => f i j) m) n := by
  induction m with
  | zero => simp only [sum]; rw [sum_zero]
  | succ m ih => simp only [sum]; rw [ih, ← sum_add]
/-- over the pairs below the diagonal -/
theorem sum_tri (f : Nat → Nat → R) (n : Nat) : sum (fun i => sum (fun j => f j (i - j)) (i + 1)) (n + 1) = sum (fun j => sum (fun k => f j k) (n - j + 1)) (n + 1) := by
  induction n with
  | zero => rfl
  | succ n ih =>
    have h1 : sum (fun i => sum (fun j => f j (i - j)) (i + 1)) (n + 1 + 1) = sum (fun i => sum (fun j => f j (i - j)) (i + 1)) (n + 1) + sum (fun j => f j (n + 1 - j)) (n + 1 + 1) := rfl
    have h2 : sum (fun j => sum (fun k => f j k) (n + 1 - j + 1)) (n + 1 + 1) = sum (fun j => sum (fun k => f j k) (n + 1 - j + 1)) (n + 1) + sum (fun k => f (n + 1) k) (n + 1 - (n + 1) + 1) := rfl
    rw [h1, h2, ih]
    have h3 : sum (fun j => sum (fun k => f j k) (n + 1 - j + 1)) (n + 1) = sum (fun j => sum (fun k => f j k) (n - j + 1)) (n + 1) + sum (fun j => f j (n + 1 - j)) (n + 1) := by
      rw [← sum_add]
      refine sum_congr fun j hj => ?_
      have e : n + 1 - j + 1 = (n - j + 1) + 1 := by omega
      rw [e]
      show _ + f j (n - j + 1) = _
      congr 2; omega
    rw [h3]
    have h4 : sum (fun j => f j (n + 1 - j)) (n + 1 + 1) = sum (fun j => f j (n + 1 - j)) (n + 1) + f (n + 1) (n + 1 - (n + 1)) := rfl
    have h5 : sum (fun k => f (n + 1) k) (n + 1 - (n + 1) + 1) = f (n + 1) 0 := by rw [Nat.sub_self]; simp only [sum]; rw [zero_add]
    rw [h4, h5, Nat.sub_self, add_assoc]

end ring

/-- a polynomial: coefficients that end -/
structure Poly (R : Type) [CR R] where
  c : Nat → R
  fin : ∃ n, ∀ i, n ≤ i → c i = 0

section poly
variable {R : Type} [CR R]

theorem Poly.ext {p q : Poly R} (h : ∀ i, p.c i = q.c i) : p = q := by
  cases p; cases q
  congr
  exact funext h

/-- all coefficients from n on are zero -/
def Poly.below (p : Poly R) (n : Nat) : Prop := ∀ i, n ≤ i → p.c i = 0
theorem Poly.below.mono {p : Poly R} {m n : Nat} (h : p.below m) (hmn : m ≤ n) : p.below n := fun i hi => h i (by omega)

instance : Zero (Poly R) := ⟨⟨fun _ => 0, 0, fun _ _ => rfl⟩⟩
instance : Add (Poly R) := ⟨fun p q => ⟨fun i => p.c i + q.c i, by
  obtain ⟨m, hm⟩ := p.fin; obtain ⟨n, hn⟩ := q.fin
  exact ⟨max m n, fun i hi => by rw [hm i (by omega), hn i (by omega), add_zero]⟩⟩⟩
instance : Neg (Poly R) := ⟨fun p => ⟨fun i => -p.c i, by
  obtain ⟨m, hm⟩ := p.fin
  exact ⟨m, fun i hi => by rw [hm i hi, neg_zero]⟩⟩⟩
theorem conv_zero {f g : Nat → R} {m n : Nat} (hf : ∀ i, m ≤ i → f i = 0) (hg : ∀ i, n ≤ i → g i = 0) (k : Nat) (hk : m + n ≤ k + 1) : sum (fun i => f i * g (k - i)) (k + 1) = 0 := by
  refine sum_eq_zero fun i hi => ?_
  by_cases h : m ≤ i
  · rw [hf i h, zero_mul]
  · rw [hg (k - i) (by omega), mul_zero]
instance : Mul (Poly R) := ⟨fun p q => ⟨fun k => sum (fun i => p.c i * q.c (k - i)) (k + 1), by
  obtain ⟨m, hm⟩ := p.fin; obtain ⟨n, hn⟩ := q.fin
  exact ⟨m + n, fun k hk => conv_zero hm hn k (by omega)⟩⟩⟩
/-- the constant a -/
def C (a : R) : Poly R := ⟨fun i => if i = 0 then a else 0, 1, fun i hi => by rw [if_neg (by omega)]⟩
instance : One (Poly R) := ⟨C 1⟩

theorem zero_c (i : Nat) : (0 : Poly R).c i = 0 := rfl
theorem add_c (p q : Poly R) (i : Nat) : (p + q).c i = p.c i + q.c i := rfl
theorem neg_c (p : Poly R) (i : Nat) : (-p).c i = -p.c i := rfl
theorem mul_c (p q : Poly R) (k : Nat) : (p * q).c k = sum (fun i => p.c i * q.c (k - i)) (k + 1) := rfl
theorem C_c (a : R) (i : Nat) : (C a).c i = if i = 0 then a else 0 := rfl
theorem one_c (i : Nat) : (1 : Poly R).c i = if i = 0 then 1 else 0 := rfl

theorem C_mul_c (a : R) (p : Poly R) (k : Nat) : (C a * p).c k = a * p.c k := by
  rw [mul_c, sum_one (k := 0) (by omega) (fun i _ hi => by rw [C_c, if_neg hi, zero_mul]), C_c, if_pos rfl, Nat.sub_zero]

instance : CR (Poly R) where
  add_assoc a b c := Poly.ext fun i => add_assoc _ _ _
  add_comm a b := Poly.ext fun i => add_comm _ _
  zero_add a := Poly.ext fun i => zero_add _
  neg_add a := Poly.ext fun i => neg_add _
  mul_assoc a b c := Poly.ext fun n => by
    rw [mul_c, mul_c]
    have h1 : sum (fun i => (a * b).c i * c.c (n - i)) (n + 1) = sum (fun i => sum (fun j => a.c j * b.c (i - j) * c.c (n - j - (i - j))) (i + 1)) (n + 1) := by
      refine sum_congr fun i hi => ?_
      rw [mul_c, sum_mul]
      refine sum_congr fun j hj => ?_
      congr 2; omega
    have h2 := sum_tri (fun j k => a.c j * b.c k * c.c (n - j - k)) n
    rw [h1, h2]
    refine sum_congr fun j hj => ?_
    rw [mul_c, mul_sum]
    exact sum_congr fun k hk => mul_assoc _ _ _
  mul_comm a b := Poly.ext fun n => by
    rw [mul_c, mul_c, sum_reflect]
    refine sum_congr fun i hi => ?_
    rw [mul_comm]
    congr 2; omega
  one_mul a := Poly.ext fun n => by
    show (C 1 * a).c n = a.c n
    rw [C_mul_c, one_mul]
  mul_add a b c := Poly.ext fun n => by
    rw [add_c, mul_c, mul_c, mul_c, ← sum_add]
    exact sum_congr fun i _ => mul_add _ _ _

/-- a times x to the power of n -/
def mono (a : R) (n : Nat) : Poly R := ⟨fun i => if i = n then a else 0, n + 1, fun i hi => by rw [if_neg (by omega)]⟩
theorem mono_c (a : R) (n i : Nat) : (mono a n).c i = if i = n then a else 0 := rfl
theorem mono_mul_c (a : R) (n : Nat) (p : Poly R) (k : Nat) : (mono a n * p).c k = if n ≤ k then a * p.c (k - n) else 0 := by
  rw [mul_c]
  by_cases h : n ≤ k
  · rw [if_pos h, sum_one (k := n) (by omega) (fun i _ hi => by rw [mono_c, if_neg hi, zero_mul]), mono_c, if_pos rfl]
  · rw [if_neg h]
    exact sum_eq_zero fun i hi => by rw [mono_c, if_neg (by omega), zero_mul]

theorem below_add {p q : Poly R} {n : Nat} (hp : p.below n) (hq : q.below n) : (p + q).below n := fun i hi => by rw [add_c, hp i hi, hq i hi, add_zero]
theorem below_neg {p : Poly R} {n : Nat} (hp : p.below n) : (-p).below n := fun i hi => by rw [neg_c, hp i hi, neg_zero]
theorem below_mul {p q : Poly R} {m n : Nat} (hp : p.below m) (hq : q.below n) (k : Nat) (hk : m + n ≤ k + 1) : (p * q).below k := fun i hi => by
  rw [mul_c]; exact conv_zero hp hq i (by omega)
theorem below_zero : (0 : Poly R).below 0 := fun _ _ => rfl
theorem eq_zero_of_below {p : Poly R} (h : p.below 0) : p = 0 := Poly.ext fun i => h i (Nat.zero_le _)
/-- the highest coefficient of a product -/
theorem mul_top {p q : Poly R} {m n : Nat} (hp : p.below (m + 1)) (hq : q.below (n + 1)) : (p * q).c (m + n) = p.c m * q.c n := by
  rw [mul_c, sum_one (k := m) (by omega), show m + n - m = n by omega]
  intro i hi hne
  by_cases h : m < i
  · rw [hp i (by omega), zero_mul]
  · rw [hq (m + n - i) (by omega), mul_zero]
end poly

end Go.Proofs.Ytdkdainipanacaa.Alg
namespace Go.Proofs.Ytdkdainipanacaa.Alg
set_option linter.unusedSectionVars false

/-- p is at least 2 -/
class Two (p : Nat) : Prop where
  two : 2 ≤ p
/-- the numbers modulo p -/
structure Z (p : Nat) where
  v : Nat
  lt : v < p
theorem Z.ext {p : Nat} {a b : Z p} (h : a.v = b.v) : a = b := by cases a; cases b; cases h; rfl

section zp
variable {p : Nat} [Two p]
theorem pos : 0 < p := Nat.lt_of_lt_of_le (by decide) (Two.two (p := p))
def ofN (n : Nat) : Z p := ⟨n % p, Nat.mod_lt _ pos⟩
theorem ofN_v (n : Nat) : (ofN n : Z p).v = n % p := rfl
instance : Zero (Z p) := ⟨⟨0, pos⟩⟩
instance : One (Z p) := ⟨⟨1, Two.two⟩⟩
instance : Add (Z p) := ⟨fun a b => ofN (a.v + b.v)⟩
instance : Mul (Z p) := ⟨fun a b => ofN (a.v * b.v)⟩
instance : Neg (Z p) := ⟨fun a => ofN (p - a.v)⟩
theorem Z.add_v (a b : Z p) : (a + b).v = (a.v + b.v) % p := rfl
theorem Z.mul_v (a b : Z p) : (a * b).v = a.v * b.v % p := rfl
theorem Z.neg_v (a : Z p) : (-a).v = (p - a.v) % p := rfl
theorem Z.zero_v : (0 : Z p).v = 0 := rfl
theorem Z.one_v : (1 : Z p).v = 1 := rfl
theorem Z.v_mod (a : Z p) : a.v % p = a.v := Nat.mod_eq_of_lt a.lt
instance : CR (Z p) where
  add_assoc a b c := Z.ext (by simp only [Z.add_v, Nat.mod_add_mod, Nat.add_mod_mod, Nat.add_assoc])
  add_comm a b := Z.ext (by rw [Z.add_v, Z.add_v, Nat.add_comm])
  zero_add a := Z.ext (by rw [Z.add_v, Z.zero_v, Nat.zero_add, Z.v_mod])
  neg_add a := Z.ext (by
    have := a.lt
    rw [Z.add_v, Z.neg_v, Nat.mod_add_mod, show p - a.v + a.v = p by omega, Nat.mod_self, Z.zero_v])
  mul_assoc a b c := Z.ext (by simp only [Z.mul_v, Nat.mod_mul_mod, Nat.mul_mod_mod, Nat.mul_assoc])
  mul_comm a b := Z.ext (by rw [Z.mul_v, Z.mul_v, Nat.mul_comm])
  one_mul a := Z.ext (by rw [Z.mul_v, Z.one_v, Nat.one_mul, Z.v_mod])
  mul_add a b c := Z.ext (by simp only [Z.mul_v, Z.add_v, Nat.mod_add_mod, Nat.add_mod_mod, Nat.mul_mod_mod, Nat.mul_add])
theorem ofN_add (a b : Nat) : (ofN (a + b) : Z p) = ofN a + ofN b := Z.ext (by simp only [Z.add_v, ofN_v, Nat.mod_add_mod, Nat.add_mod_mod])
theorem ofN_mul (a b : Nat) : (ofN (a * b) : Z p) = ofN a * ofN b := Z.ext (by simp only [Z.mul_v, ofN_v, Nat.mod_mul_mod, Nat.mul_mod_mod])
theorem ofN_zero : (ofN 0 : Z p) = 0 := Z.ext (by rw [ofN_v, Nat.zero_mod]; rfl)
theorem ofN_one : (ofN 1 : Z p) = 1 := Z.ext (by rw [ofN_v, Nat.mod_eq_of_lt Two.two]; rfl)
theorem ofN_self (a : Z p) : ofN a.v = a := Z.ext (Z.v_mod a)
theorem ofN_p : (ofN p : Z p) = 0 := Z.ext (by rw [ofN_v, Nat.mod_self]; rfl)
theorem ofN_sub {n : Nat} (h : n ≤ p) : (ofN (p - n) : Z p) = -ofN n := by
  refine neg_unique ?_
  rw [← ofN_add, show n + (p - n) = p by omega, ofN_p]
end zp

section pow
variable {R : Type} [CR R]
def pw (a : R) : Nat → R
  | 0 => 1
  | n + 1 => pw a n * a
theorem pw_add (a : R) (m n : Nat) : pw a (m + n) = pw a m * pw a n := by
  induction n with
  | zero => exact (mul_one _).symm
  | succ n ih => rw [← Nat.add_assoc]; simp only [pw]; rw [ih, mul_assoc]
theorem pw_mul (a : R) (m n : Nat) : pw a (m * n) = pw (pw a m) n := by
  induction n with
  | zero => rfl
  | succ n ih => rw [Nat.mul_succ, pw_add, ih]; rfl
theorem mul_pw (a b : R) (n : Nat) : pw (a * b) n = pw a n * pw b n := by
  induction n with
  | zero => exact (mul_one _).symm
  | succ n ih => simp only [pw]; rw [ih]; ac_rfl
theorem one_pw (n : Nat) : pw (1 : R) n = 1 := by
  induction n with
  | zero => rfl
  | succ n ih => simp only [pw]; rw [ih, mul_one]
theorem pw_one (a : R) : pw a 1 = a := one_mul a
end pow

section poly
variable {R : Type} [CR R]
/-- f is monic of degree m -/
def Monic (f : Poly R) (m : Nat) : Prop := f.below (m + 1) ∧ f.c m = 1

theorem div_ex {f : Poly R} {m : Nat} (hf : Monic f m) : ∀ (n : Nat) (a : Poly R), a.below (m + n) → ∃ q r, a = q * f + r ∧ r.below m ∧ q.below n
  | 0, a, h => ⟨0, a, by rw [zero_mul, zero_add], h, below_zero⟩
  | n + 1, a, h => by
    have hb : (a + -(mono (a.c (m + n)) n * f)).below (m + n) := by
      intro i hi
      rw [add_c, neg_c, mono_mul_c]
      by_cases e : i = m + n
      · subst e
        rw [if_pos (by omega), show m + n - n = m by omega, hf.2, mul_one, add_neg]
      · rw [h i (by omega)]
        split
        · rw [hf.1 (i - n) (by omega), mul_zero, neg_zero, add_zero]
        · rw [neg_zero, add_zero]
    obtain ⟨q, r, h1, h2, h3⟩ := div_ex hf n _ hb
    refine ⟨q + mono (a.c (m + n)) n, r, ?_, h2, fun i hi => ?_⟩
    · have : a = (a + -(mono (a.c (m + n)) n * f)) + mono (a.c (m + n)) n * f := by rw [add_assoc, neg_add, add_zero]
      refine this.trans ?_
      rw [h1, add_mul]; ac_rfl
    · rw [add_c, h3 i (by omega), mono_c, if_neg (by omega), add_zero]

theorem exists_top {p : Poly R} (h : p ≠ 0) : ∃ n, p.below (n + 1) ∧ p.c n ≠ 0 := by
  obtain ⟨n, hn⟩ := p.fin
  induction n with
  | zero => exact absurd (eq_zero_of_below hn) h
  | succ n ih =>
    by_cases e : p.c n = 0
    · refine ih fun i hi => ?_
      by_cases e2 : i = n
      · rw [e2, e]
      · exact hn i (by omega)
    · exact ⟨n, hn, e⟩

/-- a multiple of a monic polynomial of degree m that is below m is zero -/
theorem mul_monic_zero {f q : Poly R} {m : Nat} (hf : Monic f m) (h : (q * f).below m) : q = 0 := by
  refine Classical.byContradiction fun hq => ?_
  obtain ⟨n, h1, h2⟩ := exists_top hq
  have := mul_top h1 hf.1
  rw [hf.2, mul_one, h (n + m) (by omega)] at this
  exact h2 this.symm
theorem div_unique {f q r q' r' : Poly R} {m : Nat} (hf : Monic f m) (h : q * f + r = q' * f + r') (hr : r.below m) (hr' : r'.below m) : q = q' ∧ r = r' := by
  have h1 : sub q q' * f = r' + -r := by
    unfold sub
    apply add_right_cancel (a := r)
    rw [add_assoc, neg_add, add_zero, add_mul, neg_mul, show q * f + -(q' * f) + r = (q * f + r) + -(q' * f) by ac_rfl, h, show q' * f + r' + -(q' * f) = r' + (q' * f + -(q' * f)) by ac_rfl, add_neg, add_zero]
  have h2 : sub q q' = 0 := mul_monic_zero hf (by rw [h1]; exact below_add hr' (below_neg hr))
  have h3 : r' + -r = 0 := by rw [← h1, h2, zero_mul]
  exact ⟨eq_of_sub h2, (add_eq_zero h3).symm⟩

/-- a and b leave the same remainder -/
def Cong (f a b : Poly R) : Prop := ∃ k, a = k * f + b
theorem Cong.refl (f a : Poly R) : Cong f a a := ⟨0, by rw [zero_mul, zero_add]⟩
theorem Cong.symm {f a b : Poly R} (h : Cong f a b) : Cong f b a := by
  obtain ⟨k, rfl⟩ := h
  exact ⟨-k, by rw [neg_mul, ← add_assoc, neg_add, zero_add]⟩
theorem Cong.trans {f a b c : Poly R} (h : Cong f a b) (h' : Cong f b c) : Cong f a c := by
  obtain ⟨k, rfl⟩ := h; obtain ⟨l, rfl⟩ := h'
  exact ⟨k + l, by rw [add_mul, add_assoc]⟩
theorem Cong.add {f a b c d : Poly R} (h : Cong f a b) (h' : Cong f c d) : Cong f (a + c) (b + d) := by
  obtain ⟨k, rfl⟩ := h; obtain ⟨l, rfl⟩ := h'
  exact ⟨k + l, by rw [add_mul]; ac_rfl⟩
theorem Cong.mul {f a b c d : Poly R} (h : Cong f a b) (h' : Cong f c d) : Cong f (a * c) (b * d) := by
  obtain ⟨k, rfl⟩ := h; obtain ⟨l, rfl⟩ := h'
  exact ⟨k * (l * f + d) + b * l, by rw [add_mul, add_mul, mul_add b]; ac_rfl⟩
theorem Cong.neg {f a b : Poly R} (h : Cong f a b) : Cong f (-a) (-b) := by
  obtain ⟨k, rfl⟩ := h
  exact ⟨-k, by rw [neg_distrib, neg_mul]⟩
theorem Cong.eq {f a b : Poly R} {m : Nat} (hf : Monic f m) (h : Cong f a b) (ha : a.below m) (hb : b.below m) : a = b := by
  obtain ⟨k, h⟩ := h
  exact (div_unique (q := 0) (r := a) (q' := k) (r' := b) hf (by rw [zero_mul, zero_add]; exact h) ha hb).2
theorem Cong.zero {f k : Poly R} : Cong f (k * f) 0 := ⟨k, by rw [add_zero]⟩
end poly

end Go.Proofs.Ytdkdainipanacaa.Alg
namespace Go.Proofs.Ytdkdainipanacaa.Alg
set_option linter.unusedSectionVars false

section eval
variable {R : Type} [CR R]
open Classical in
/-- the value of p at x -/
noncomputable def ev (p : Poly R) (x : R) : R := sum (fun i => p.c i * pw x i) (choose p.fin)
theorem ev_eq {p : Poly R} {n : Nat} (h : p.below n) (x : R) : ev p x = sum (fun i => p.c i * pw x i) n := by
  have hs := Classical.choose_spec p.fin
  unfold ev
  rcases Nat.le_total n (Classical.choose p.fin) with hn | hn
  · exact sum_ext hn fun i h1 _ => by rw [h i h1, zero_mul]
  · exact (sum_ext hn fun i h1 _ => by rw [hs i h1, zero_mul]).symm
theorem ev_add (p q : Poly R) (x : R) : ev (p + q) x = ev p x + ev q x := by
  obtain ⟨m, hm⟩ := p.fin; obtain ⟨n, hn⟩ := q.fin
  have hm' : p.below (max m n) := Poly.below.mono hm (by omega)
  have hn' : q.below (max m n) := Poly.below.mono hn (by omega)
  rw [ev_eq (below_add hm' hn'), ev_eq hm', ev_eq hn', ← sum_add]
  exact sum_congr fun i _ => by rw [add_c, add_mul]
theorem ev_mul (p q : Poly R) (x : R) : ev (p * q) x = ev p x * ev q x := by
  obtain ⟨m, hm⟩ := p.fin; obtain ⟨n, hn⟩ := q.fin
  have hb : (p * q).below (m + n + 1) := below_mul hm hn _ (by omega)
  have h1 : ev (p * q) x = sum (fun k => sum (fun j => p.c j * pw x j * (q.c (k - j) * pw x (k - j))) (k + 1)) (m + n + 1) := by
    rw [ev_eq hb]
    refine sum_congr fun k _ => ?_
    rw [mul_c, sum_mul]
    refine sum_congr fun j hj => ?_
    have e : pw x k = pw x j * pw x (k - j) := by rw [← pw_add]; congr 1; omega
    rw [e]; ac_rfl
  rw [h1, sum_tri (fun j k => p.c j * pw x j * (q.c k * pw x k)) (m + n)]
  have h2 : sum (fun j => sum (fun k => p.c j * pw x j * (q.c k * pw x k)) (m + n - j + 1)) (m + n + 1) = sum (fun j => p.c j * pw x j * ev q x) (m + n + 1) := by
    refine sum_congr fun j _ => ?_
    by_cases hj : m ≤ j
    · have : p.c j = 0 := hm j hj
      rw [this, zero_mul, zero_mul]
      exact sum_eq_zero fun k _ => zero_mul _
    · rw [ev_eq (Poly.below.mono hn (show n ≤ m + n - j + 1 by omega)), mul_sum]
  rw [h2, ev_eq (Poly.below.mono hm (show m ≤ m + n + 1 by omega)), sum_mul]
theorem ev_mono (a : R) (n : Nat) (x : R) : ev (mono a n) x = a * pw x n := by
  rw [ev_eq (n := n + 1) (fun i hi => by rw [mono_c, if_neg (by omega)]), sum_one (k := n) (by omega) (fun i _ hi => by rw [mono_c, if_neg hi, zero_mul]), mono_c, if_pos rfl]
theorem ev_zero (x : R) : ev (0 : Poly R) x = 0 := by
  rw [ev_eq (n := 0) below_zero]; rfl
theorem ev_one1 {r : Poly R} (h : r.below 1) (x : R) : ev r x = r.c 0 := by
  rw [ev_eq h]
  show 0 + r.c 0 * 1 = _
  rw [zero_add, mul_one]
/-- x - a -/
def lin (a : R) : Poly R := mono 1 1 + mono (-a) 0
theorem lin_monic (a : R) : Monic (lin a) 1 := by
  refine ⟨fun i hi => ?_, ?_⟩
  · show (mono 1 1 + mono (-a) 0).c i = 0
    rw [add_c, mono_c, mono_c, if_neg (by omega), if_neg (by omega), add_zero]
  · show (mono 1 1 + mono (-a) 0).c 1 = 1
    rw [add_c, mono_c, mono_c, if_pos rfl, if_neg (by omega), add_zero]
theorem ev_lin (a x : R) : ev (lin a) x = x + -a := by
  rw [lin, ev_add, ev_mono, ev_mono]
  show 1 * (1 * x) + -a * 1 = _
  rw [one_mul, one_mul, mul_one]
end eval

section field
variable {K : Type} [CR K] [Fld K]
open Classical in
noncomputable def inv (a : K) : K := if h : a ≠ 0 then choose (Fld.inv_ex a h) else 0
theorem mul_inv {a : K} (h : a ≠ 0) : a * inv a = 1 := by
  unfold inv
  rw [dif_pos h]
  exact Classical.choose_spec (Fld.inv_ex a h)
theorem one_ne : (1 : K) ≠ 0 := Fld.one_ne
theorem mul_eq_zero {a b : K} (h : a * b = 0) : a = 0 ∨ b = 0 := by
  by_cases ha : a = 0
  · exact .inl ha
  · right
    have : inv a * (a * b) = 0 := by rw [h, mul_zero]
    rwa [← mul_assoc, mul_comm (inv a), mul_inv ha, one_mul] at this
theorem mul_cancel {a b c : K} (ha : a ≠ 0) (h : a * b = a * c) : b = c := by
  have : a * (b + -c) = 0 := by rw [mul_add, mul_neg, h, add_neg]
  rcases mul_eq_zero this with e | e
  · exact absurd e ha
  · exact add_eq_zero e
theorem mul_ne {a b : K} (ha : a ≠ 0) (hb : b ≠ 0) : a * b ≠ 0 := fun h => (mul_eq_zero h).elim ha hb
theorem pw_ne {a : K} (ha : a ≠ 0) : ∀ n, pw a n ≠ 0
  | 0 => one_ne
  | n + 1 => mul_ne (pw_ne ha n) ha

/-- a polynomial not zero of degree at most n has at most n roots -/
theorem roots_le : ∀ (n : Nat) (p : Poly K) (l : List K), p ≠ 0 → p.below (n + 1) → l.Nodup → (∀ x ∈ l, ev p x = 0) → l.length ≤ n
  | _, _, [], _, _, _, _ => Nat.zero_le _
  | 0, p, a :: l, hp, hb, _, hr => by
    have h := hr a (by simp)
    rw [ev_one1 hb] at h
    exact absurd (Poly.ext fun i => by
      cases i with
      | zero => exact h
      | succ i => exact hb (i + 1) (by omega)) hp
  | n + 1, p, a :: l, hp, hb, hnd, hr => by
    obtain ⟨q, r, h1, h2, h3⟩ := div_ex (lin_monic a) (n + 1) p (by rw [Nat.add_comm]; exact hb)
    have hra : ev r a = 0 := by
      have := hr a (by simp)
      rwa [h1, ev_add, ev_mul, ev_lin, add_neg, mul_zero, zero_add] at this
    have hr0 : r = 0 := Poly.ext fun i => by
      cases i with
      | zero => rw [ev_one1 h2] at hra; exact hra
      | succ i => exact h2 (i + 1) (by omega)
    rw [hr0, add_zero] at h1
    have hq : q ≠ 0 := fun e => hp (by rw [h1, e, zero_mul])
    obtain ⟨hal, hnd'⟩ := List.nodup_cons.mp hnd
    have := roots_le n q l hq h3 hnd' fun x hx => by
      have h4 := hr x (by simp [hx])
      rw [h1, ev_mul, ev_lin] at h4
      rcases mul_eq_zero h4 with e | e
      · exact e
      · have : x = a := add_eq_zero e
        subst this; exact absurd hx hal
    simp only [List.length_cons]; omega

theorem pw_gcd {u : K} : ∀ (a b : Nat), pw u a = 1 → pw u b = 1 → pw u (Nat.gcd a b) = 1 := by
  intro a
  induction a using Nat.strongRecOn with
  | _ a ih =>
    intro b ha hb
    by_cases h : a = 0
    · subst h; rw [Nat.gcd_zero_left]; exact hb
    · rw [Nat.gcd_rec]
      refine ih (b % a) (Nat.mod_lt _ (by omega)) a ?_ ha
      have e := Nat.div_add_mod b a
      rw [← e, pw_add, pw_mul, ha, one_pw, one_mul] at hb
      exact hb

def prodL (l : List K) : K := l.foldr (· * ·) 1
theorem prodL_perm {l m : List K} (h : l.Perm m) : prodL l = prodL m := by
  induction h with
  | nil => rfl
  | cons x _ ih => show x * prodL _ = x * prodL _; rw [ih]
  | swap x y l => show y * (x * prodL l) = x * (y * prodL l); ac_rfl
  | trans _ _ h1 h2 => exact h1.trans h2
theorem prodL_map (a : K) (l : List K) : prodL (l.map (a * ·)) = pw a l.length * prodL l := by
  induction l with
  | nil => show (1 : K) = 1 * 1; rw [mul_one]
  | cons x l ih =>
    show a * x * prodL (l.map (a * ·)) = pw a l.length * a * (x * prodL l)
    rw [ih]; ac_rfl
theorem prodL_ne {l : List K} (h : ∀ x ∈ l, x ≠ 0) : prodL l ≠ 0 := by
  induction l with
  | nil => exact one_ne
  | cons x l ih => exact mul_ne (h x (by simp)) (ih fun y hy => h y (by simp [hy]))

/-- l lists all elements other than zero -/
def Units (l : List K) : Prop := l.Nodup ∧ ∀ x, x ∈ l ↔ x ≠ 0
theorem Units.pw {l : List K} (hl : Units l) {a : K} (ha : a ≠ 0) : pw a l.length = 1 := by
  have hnd : (l.map (a * ·)).Nodup := by
    rw [List.Nodup, List.pairwise_map]
    exact hl.1.imp fun hne e => hne (mul_cancel ha e)
  have hp : (l.map (a * ·)).Perm l := by
    rw [List.perm_ext_iff_of_nodup hnd hl.1]
    intro x
    rw [List.mem_map, hl.2]
    constructor
    · rintro ⟨y, hy, rfl⟩; exact mul_ne ha ((hl.2 y).mp hy)
    · intro hx
      refine ⟨inv a * x, (hl.2 _).mpr (mul_ne ?_ hx), by rw [← mul_assoc, mul_inv ha, one_mul]⟩
      intro e
      have := mul_inv ha
      rw [e, mul_zero] at this
      exact one_ne this.symm
  have := prodL_perm hp
  rw [prodL_map] at this
  have h0 := prodL_ne fun x hx => (hl.2 x).mp hx
  apply mul_cancel h0
  rw [mul_one, mul_comm]; exact this
end field

/-- the primes that divide n, and the powers of them in n -/
def primesOf (n : Nat) : List Nat := (List.range (n + 1)).filter fun r => 2 ≤ r && n % r == 0 && (List.range r).all fun d => d < 2 || r % d != 0
def part (n r : Nat) : Nat := ((List.range 9).map (r ^ ·)).foldl (fun a b => if n % b == 0 then b else a) 1
def arith (n : Nat) : Bool :=
  ((primesOf n).all fun r => (primesOf n).all fun s => s == r || (n / part n s) * (n / r) % n == 0) &&
  ((primesOf n).all fun r => Nat.gcd (n / part n r) r == 1 && n % r == 0 && n % part n r == 0 && n / r < n && 0 < n / r && (decide (r ≥ 1))) &&
  ((List.range n).all fun d => n % d != 0 || (primesOf n).any fun r => n / r % d == 0)
theorem arith_all : (List.range 256).all (fun n => n == 0 || arith n) = true := by decide +kernel

end Go.Proofs.Ytdkdainipanacaa.Alg
namespace Go.Proofs.Ytdkdainipanacaa.Alg
set_option linter.unusedSectionVars false

theorem arith_of {n : Nat} (h0 : 0 < n) (h1 : n < 256) : arith n = true := by
  have := List.all_eq_true.mp arith_all n (List.mem_range.mpr h1)
  simp only [Bool.or_eq_true, beq_iff_eq] at this
  rcases this with h | h
  · omega
  · exact h
structure Arith (n : Nat) : Prop where
  cross : ∀ r ∈ primesOf n, ∀ s ∈ primesOf n, s ≠ r → n ∣ (n / part n s) * (n / r)
  cop : ∀ r ∈ primesOf n, Nat.gcd (n / part n r) r = 1
  dvd : ∀ r ∈ primesOf n, r ∣ n
  lt : ∀ r ∈ primesOf n, n / r < n
  pos : ∀ r ∈ primesOf n, 0 < n / r
  all : ∀ d, d < n → d ∣ n → ∃ r ∈ primesOf n, d ∣ n / r
theorem arith_holds {n : Nat} (h0 : 0 < n) (h1 : n < 256) : Arith n := by
  have h := arith_of h0 h1
  simp only [arith, Bool.and_eq_true, List.all_eq_true, Bool.or_eq_true, beq_iff_eq, decide_eq_true_eq, bne_iff_ne, ne_eq, List.any_eq_true, List.mem_range] at h
  obtain ⟨⟨ha, hb⟩, hc⟩ := h
  refine ⟨?_, ?_, ?_, ?_, ?_, ?_⟩
  · intro r hr s hs hne
    rcases ha r hr s hs with e | e
    · exact absurd e hne
    · exact Nat.dvd_of_mod_eq_zero e
  · intro r hr; exact (hb r hr).1.1.1.1.1
  · intro r hr; exact Nat.dvd_of_mod_eq_zero (hb r hr).1.1.1.1.2
  · intro r hr; exact (hb r hr).1.1.2
  · intro r hr; exact (hb r hr).1.2
  · intro d hd hdv
    rcases hc d hd with e | ⟨r, hr, e⟩
    · exact absurd (Nat.mod_eq_zero_of_dvd hdv) e
    · exact ⟨r, hr, Nat.dvd_of_mod_eq_zero e⟩

section field
variable {K : Type} [CR K] [Fld K]

/-- not all elements are roots of x^k - 1 for k less than their number -/
theorem exists_pw_ne {l : List K} (hl : Units l) {k : Nat} (hk : 0 < k) (hkl : k < l.length) : ∃ a : K, a ≠ 0 ∧ pw a k ≠ 1 := by
  refine Classical.byContradiction fun h => ?_
  have hall : ∀ a : K, a ≠ 0 → pw a k = 1 := fun a ha => Classical.byContradiction fun h2 => h ⟨a, ha, h2⟩
  have hb : (mono (1 : K) k + mono (-1) 0).below (k + 1) := fun i hi => by
    rw [add_c, mono_c, mono_c, if_neg (by omega), if_neg (by omega), add_zero]
  have hne : mono (1 : K) k + mono (-1) 0 ≠ 0 := fun e => by
    have := congrArg (fun p => Poly.c p k) e
    have h2 : (mono (1 : K) k).c k + (mono (-1) 0).c k = 0 := this
    rw [mono_c, mono_c, if_pos rfl, if_neg (by omega), add_zero] at h2
    exact one_ne h2
  have := roots_le k _ l hne hb hl.1 fun x hx => by
    rw [ev_add, ev_mono, ev_mono, hall x ((hl.2 x).mp hx)]
    show 1 * 1 + -1 * 1 = (0 : K)
    rw [mul_one, mul_one, add_neg]
  omega

theorem pw_dvd {u : K} {a b : Nat} (h : pw u a = 1) (hd : a ∣ b) : pw u b = 1 := by
  obtain ⟨c, rfl⟩ := hd
  rw [pw_mul, h, one_pw]

/-- one factor of a primitive element -/
theorem exists_part {l : List K} (hl : Units l) (A : Arith l.length) {s : Nat} (hs : s ∈ primesOf l.length) :
    ∃ b : K, b ≠ 0 ∧ pw b (l.length / s) ≠ 1 ∧ ∀ r ∈ primesOf l.length, s ≠ r → pw b (l.length / r) = 1 := by
  obtain ⟨a, ha, h1⟩ := exists_pw_ne hl (A.pos s hs) (A.lt s hs)
  refine ⟨pw a (l.length / part l.length s), pw_ne ha _, ?_, ?_⟩
  · intro h
    apply h1
    have h2 : pw (pw a (l.length / s)) s = 1 := by
      rw [← pw_mul, Nat.div_mul_cancel (A.dvd s hs)]; exact hl.pw ha
    have h3 : pw (pw a (l.length / s)) (l.length / part l.length s) = 1 := by
      rw [← pw_mul, Nat.mul_comm, pw_mul]; exact h
    have := pw_gcd _ _ h3 h2
    rwa [A.cop s hs, pw_one] at this
  · intro r hr hne
    rw [← pw_mul]
    exact pw_dvd (hl.pw ha) (A.cross r hr s hs hne)

theorem exists_prod {l : List K} (hl : Units l) (A : Arith l.length) : ∀ (ps done : List Nat), done ++ ps = primesOf l.length → (done ++ ps).Nodup →
    ∃ g : K, g ≠ 0 ∧ (∀ r ∈ ps, pw g (l.length / r) ≠ 1) ∧ ∀ r ∈ done, pw g (l.length / r) = 1
  | [], done, _, _ => ⟨1, one_ne, by simp, fun r _ => one_pw _⟩
  | s :: ps, done, h, hnd => by
    have hs : s ∈ primesOf l.length := by rw [← h]; simp
    have hnd2 : (s :: ps).Nodup := (List.nodup_append.mp hnd).2.1
    have hnd3 : ∀ r ∈ done, r ≠ s := fun r hr => (List.nodup_append.mp hnd).2.2 r hr s (by simp)
    obtain ⟨g, h1, h2, h3⟩ := exists_prod hl A ps (done ++ [s]) (by simpa using h) (by simpa using hnd)
    obtain ⟨b, k1, k2, k3⟩ := exists_part hl A hs
    refine ⟨g * b, mul_ne h1 k1, ?_, ?_⟩
    · intro r hr
      rw [mul_pw]
      rcases List.mem_cons.mp hr with e | e
      · subst e; rw [h3 r (by simp), one_mul]; exact k2
      · rw [k3 r (by rw [← h]; simp [e]) (fun q => (List.nodup_cons.mp hnd2).1 (q ▸ e)), mul_one]; exact h2 r e
    · intro r hr
      rw [mul_pw, h3 r (by simp [hr]), k3 r (by rw [← h]; simp [hr]) (Ne.symm (hnd3 r hr)), one_mul]

/-- g's powers up to the number of units are different -/
theorem exists_primitive {l : List K} (hl : Units l) (hn : l.length < 256) : ∃ g : K, g ≠ 0 ∧ pw g l.length = 1 ∧ ∀ d, 0 < d → d < l.length → pw g d ≠ 1 := by
  have h0 : 0 < l.length := List.length_pos_of_mem ((hl.2 1).mpr one_ne)
  have A := arith_holds h0 hn
  have hnd : (primesOf l.length).Nodup := List.nodup_range.filter _
  obtain ⟨g, h1, h2, _⟩ := exists_prod hl A (primesOf l.length) [] rfl (by simpa using hnd)
  refine ⟨g, h1, hl.pw h1, fun d hd hdl h => ?_⟩
  have h3 := pw_gcd _ _ h (hl.pw h1)
  have h4 : Nat.gcd d l.length < l.length := Nat.lt_of_le_of_lt (Nat.gcd_le_left _ hd) hdl
  obtain ⟨r, hr, hdv⟩ := A.all _ h4 (Nat.gcd_dvd_right _ _)
  exact h2 r hr (pw_dvd h3 hdv)
end field

end Go.Proofs.Ytdkdainipanacaa.Alg
namespace Go.Proofs.Ytdkdainipanacaa.Alg
set_option linter.unusedSectionVars false

/-- digit i of x in base p -/
def dig (p x i : Nat) : Nat := x / p ^ i % p
/-- the number with the digits d -/
def valN (p : Nat) (d : Nat → Nat) : Nat → Nat
  | 0 => 0
  | m + 1 => valN p d m + d m * p ^ m
theorem valN_lt {p : Nat} {d : Nat → Nat} {m : Nat} (h : ∀ i, i < m → d i < p) : valN p d m < p ^ m := by
  induction m with
  | zero => exact Nat.lt_of_lt_of_le Nat.zero_lt_one (Nat.le_of_eq rfl)
  | succ m ih =>
    have h1 := ih fun i hi => h i (by omega)
    have h2 : d m * p ^ m ≤ (p - 1) * p ^ m := Nat.mul_le_mul_right _ (by have := h m (by omega); omega)
    have h3 : p ^ (m + 1) = (p - 1) * p ^ m + p ^ m := by
      have hp : 0 < p := by have := h m (by omega); omega
      rw [Nat.pow_succ, Nat.mul_comm, ← Nat.succ_mul]; congr 1; omega
    show valN p d m + d m * p ^ m < _
    omega
theorem valN_congr {p : Nat} {d e : Nat → Nat} {m : Nat} (h : ∀ i, i < m → d i = e i) : valN p d m = valN p e m := by
  induction m with
  | zero => rfl
  | succ m ih => simp only [valN]; rw [ih (fun i hi => h i (by omega)), h m (by omega)]
theorem dig_valN {p : Nat} {d : Nat → Nat} {m : Nat} (h : ∀ i, i < m → d i < p) (i : Nat) (hi : i < m) : dig p (valN p d m) i = d i := by
  have hp : 0 < p := by have := h i hi; omega
  induction m with
  | zero => omega
  | succ m ih =>
    unfold dig
    simp only [valN]
    have h1 := valN_lt (p := p) (d := d) (m := m) fun i hi => h i (by omega)
    by_cases e : i = m
    · subst e
      rw [Nat.add_mul_div_right _ _ (Nat.pow_pos hp), Nat.div_eq_of_lt h1, Nat.zero_add, Nat.mod_eq_of_lt (h i hi)]
    · have h2 : d m * p ^ m = d m * p ^ (m - i - 1) * p * p ^ i := by
        rw [Nat.mul_assoc (d m * _), ← Nat.pow_succ', Nat.mul_assoc, ← Nat.pow_add]
        congr 2; omega
      rw [h2, Nat.add_mul_div_right _ _ (Nat.pow_pos hp), Nat.add_mul_mod_self_right]
      exact ih (fun i hi => h i (by omega)) (by omega)
theorem valN_dig (p x m : Nat) : valN p (dig p x) m = x % p ^ m := by
  induction m with
  | zero => simp [valN, Nat.mod_one]
  | succ m ih =>
    simp only [valN]
    rw [ih, Nat.pow_succ, Nat.mod_mul, dig, Nat.mul_comm (p ^ m)]

/-- a description of residues: p, the degree, the lower coefficients of the modulus -/
structure Desc where
  p : Nat
  m : Nat
  mod : List Nat
class Desc.Ok (D : Desc) : Prop extends Two D.p where
  m1 : 1 ≤ D.m
variable (D : Desc) [Desc.Ok D]
def Desc.q : Nat := D.p ^ D.m
/-- the modulus -/
def Desc.f : Poly (Z D.p) := ⟨fun i => if i = D.m then 1 else if i < D.m then ofN (D.mod.getD i 0) else 0, D.m + 1, fun i hi => by rw [if_neg (by omega), if_neg (by omega)]⟩
theorem Desc.f_monic : Monic D.f D.m := ⟨fun i hi => by show (if _ then _ else _) = _; rw [if_neg (by omega), if_neg (by omega)], by show (if _ then _ else _) = _; rw [if_pos rfl]⟩

/-- the elements -/
structure El (D : Desc) where
  v : Nat
  lt : v < D.q
theorem El.ext {D : Desc} {a b : El D} (h : a.v = b.v) : a = b := by cases a; cases b; cases h; rfl

variable {D}
/-- the polynomial of a number -/
def pol (D : Desc) [Desc.Ok D] (x : Nat) : Poly (Z D.p) := ⟨fun i => if i < D.m then ofN (dig D.p x i) else 0, D.m, fun i hi => by rw [if_neg (by omega)]⟩
theorem pol_c (x i : Nat) : (pol D x).c i = if i < D.m then ofN (dig D.p x i) else 0 := rfl
theorem pol_below (x : Nat) : (pol D x).below D.m := fun i hi => by rw [pol_c, if_neg (by omega)]
/-- the number of a polynomial's lowest m coefficients -/
def num (r : Poly (Z D.p)) : El D := ⟨valN D.p (fun i => (r.c i).v) D.m, valN_lt fun i _ => (r.c i).lt⟩
theorem pol_num {r : Poly (Z D.p)} (h : r.below D.m) : pol D (num (D := D) r).v = r := Poly.ext fun i => by
  rw [pol_c]
  split
  · rename_i hi
    show ofN (dig D.p (valN D.p _ D.m) i) = _
    rw [dig_valN (fun i _ => (r.c i).lt) i hi, ofN_self]
  · rename_i hi
    exact (h i (by omega)).symm
theorem num_pol (x : El D) : num (pol D x.v) = x := El.ext (by
  show valN D.p _ D.m = _
  rw [valN_congr (e := dig D.p x.v) fun i hi => by rw [pol_c, if_pos hi, ofN_v, dig, Nat.mod_mod], valN_dig]
  exact Nat.mod_eq_of_lt x.lt)
theorem pol_inj {x y : El D} (h : pol D x.v = pol D y.v) : x = y := by rw [← num_pol x, h, num_pol y]

theorem rem_ex (a : Poly (Z D.p)) : ∃ r, Cong D.f r a ∧ r.below D.m := by
  obtain ⟨n, hn⟩ := a.fin
  obtain ⟨q, r, h1, h2, _⟩ := div_ex D.f_monic n a (Poly.below.mono hn (by omega))
  refine ⟨r, Cong.symm ⟨q, h1⟩, h2⟩
noncomputable def rem (a : Poly (Z D.p)) : Poly (Z D.p) := Classical.choose (rem_ex (D := D) a)
theorem rem_cong (a : Poly (Z D.p)) : Cong D.f (rem a) a := (Classical.choose_spec (rem_ex (D := D) a)).1
theorem rem_below (a : Poly (Z D.p)) : (rem (D := D) a).below D.m := (Classical.choose_spec (rem_ex (D := D) a)).2

instance : Zero (El D) := ⟨⟨0, Nat.pow_pos (pos (p := D.p))⟩⟩
theorem q_gt : 1 < D.q := Nat.one_lt_pow (by have := Desc.Ok.m1 (D := D); omega) (Two.two (p := D.p))
instance : One (El D) := ⟨⟨1, q_gt⟩⟩
instance : Add (El D) := ⟨fun a b => num (pol D a.v + pol D b.v)⟩
instance : Neg (El D) := ⟨fun a => num (-pol D a.v)⟩
noncomputable instance : Mul (El D) := ⟨fun a b => num (rem (pol D a.v * pol D b.v))⟩
theorem pol_zero : pol D (0 : El D).v = 0 := Poly.ext fun i => by
  rw [pol_c, zero_c]
  split
  · show ofN (dig D.p 0 i) = 0
    rw [dig, Nat.zero_div, Nat.zero_mod, ofN_zero]
  · rfl
theorem pol_one : pol D (1 : El D).v = 1 := Poly.ext fun i => by
  rw [pol_c, one_c]
  have h1 := Desc.Ok.m1 (D := D)
  have h2 := Two.two (p := D.p)
  show (if i < D.m then ofN (dig D.p 1 i) else 0) = _
  by_cases h : i = 0
  · subst h; rw [if_pos (by omega), if_pos rfl, dig, Nat.pow_zero, Nat.div_one, Nat.mod_eq_of_lt (by omega), ofN_one]
  · rw [if_neg h]
    split
    · rw [dig, Nat.div_eq_of_lt (Nat.one_lt_pow h h2), Nat.zero_mod, ofN_zero]
    · rfl
theorem pol_add (a b : El D) : pol D (a + b).v = pol D a.v + pol D b.v := pol_num (below_add (pol_below _) (pol_below _))
theorem pol_neg (a : El D) : pol D (-a).v = -pol D a.v := pol_num (below_neg (pol_below _))
theorem pol_mul (a b : El D) : Cong D.f (pol D (a * b).v) (pol D a.v * pol D b.v) := by
  have : pol D (a * b).v = rem (pol D a.v * pol D b.v) := pol_num (rem_below _)
  rw [this]; exact rem_cong _
theorem el_eq {a b : El D} (h : Cong D.f (pol D a.v) (pol D b.v)) : a = b := pol_inj (h.eq D.f_monic (pol_below _) (pol_below _))
/-- the product is what is congruent -/
theorem mul_eq {a b c : El D} (h : Cong D.f (pol D c.v) (pol D a.v * pol D b.v)) : a * b = c := el_eq ((pol_mul a b).trans h.symm)

noncomputable instance : CR (El D) where
  add_assoc a b c := pol_inj (by simp only [pol_add, add_assoc])
  add_comm a b := pol_inj (by rw [pol_add, pol_add, add_comm])
  zero_add a := pol_inj (by rw [pol_add, pol_zero, zero_add])
  neg_add a := pol_inj (by rw [pol_add, pol_neg, neg_add, pol_zero])
  mul_assoc a b c := el_eq (by
    refine (pol_mul _ _).trans (((pol_mul a b).mul (.refl _ _)).trans ?_)
    rw [mul_assoc]
    exact (((Cong.refl _ _).mul (pol_mul b c)).symm).trans (pol_mul _ _).symm)
  mul_comm a b := el_eq ((pol_mul a b).trans (by rw [mul_comm]; exact (pol_mul b a).symm))
  one_mul a := mul_eq (by rw [pol_one, one_mul]; exact .refl _ _)
  mul_add a b c := mul_eq (by
    rw [pol_add, pol_add, mul_add]
    exact (pol_mul a b).add (pol_mul a c))

end Go.Proofs.Ytdkdainipanacaa.Alg
namespace Go.Proofs.Ytdkdainipanacaa.Alg
set_option linter.unusedSectionVars false

/-- a finite ring without divisors of zero is a field -/
theorem fld_of_finite {R : Type} [CR R] (l : List R) (hall : ∀ x : R, x ∈ l) (h1 : (1 : R) ≠ 0) (hz : ∀ a b : R, a * b = 0 → a = 0 ∨ b = 0) : Fld R where
  one_ne := h1
  inv_ex a ha := by
    refine Classical.byContradiction fun hno => ?_
    have hinj : ∀ x y : R, a * x = a * y → x = y := fun x y e => by
      have : a * (x + -y) = 0 := by rw [mul_add, mul_neg, e, add_neg]
      rcases hz _ _ this with h | h
      · exact absurd h ha
      · exact add_eq_zero h
    -- a list without repeats of all elements
    have key : ∀ l : List R, ∃ m : List R, m.Nodup ∧ ∀ x, x ∈ l → x ∈ m := by
      intro l
      induction l with
      | nil => exact ⟨[], List.nodup_nil, by simp⟩
      | cons y l ih =>
        obtain ⟨m, hm, hl⟩ := ih
        by_cases hy : y ∈ m
        · exact ⟨m, hm, fun x hx => (List.mem_cons.mp hx).elim (fun e => e ▸ hy) (hl x)⟩
        · exact ⟨y :: m, List.nodup_cons.mpr ⟨hy, hm⟩, fun x hx => (List.mem_cons.mp hx).elim (fun e => by simp [e]) (fun e => by simp [hl x e])⟩
    obtain ⟨m, hm, hm2⟩ := key l
    have hmall : ∀ x, x ∈ m := fun x => hm2 x (hall x)
    have hnd : (1 :: m.map (a * ·)).Nodup := by
      refine List.nodup_cons.mpr ⟨fun h => ?_, ?_⟩
      · obtain ⟨b, _, hb⟩ := List.mem_map.mp h; exact hno ⟨b, hb⟩
      · rw [List.Nodup, List.pairwise_map]
        exact hm.imp fun hne e => hne (hinj _ _ e)
    have := hnd.length_le_of_subset (l₂ := m) fun x _ => hmall x
    simp only [List.length_cons, List.length_map] at this
    omega

def Prime (p : Nat) : Prop := 2 ≤ p ∧ ∀ d, 2 ≤ d → d < p → p % d ≠ 0
theorem Prime.coprime {p a : Nat} (hp : Prime p) (ha : ¬ p ∣ a) : Nat.Coprime p a := by
  have h1 := Nat.gcd_dvd_left p a
  have h2 := Nat.gcd_dvd_right p a
  have hp0 : 0 < p := by have := hp.1; omega
  have hle := Nat.le_of_dvd hp0 h1
  have hpos : 0 < Nat.gcd p a := Nat.gcd_pos_of_pos_left _ hp0
  by_cases e : Nat.gcd p a = 1
  · exact e
  · by_cases e2 : Nat.gcd p a = p
    · rw [e2] at h2; exact absurd h2 ha
    · exact absurd (Nat.mod_eq_zero_of_dvd h1) (hp.2 _ (by omega) (by omega))
theorem Prime.fld {p : Nat} [Two p] (hp : Prime p) : Fld (Z p) := by
  refine fld_of_finite ((List.range p).map ofN) (fun x => List.mem_map.mpr ⟨x.v, List.mem_range.mpr x.lt, ofN_self x⟩) ?_ ?_
  · intro h
    have := congrArg Z.v h
    rw [Z.one_v, Z.zero_v] at this
    omega
  · intro a b h
    have h1 := congrArg Z.v h
    rw [Z.mul_v, Z.zero_v] at h1
    have h2 : p ∣ a.v * b.v := Nat.dvd_of_mod_eq_zero h1
    by_cases ha : p ∣ a.v
    · exact .inl (Z.ext (Nat.eq_zero_of_dvd_of_lt ha a.lt))
    · have h3 : p ∣ b.v := (hp.coprime ha).dvd_of_dvd_mul_left h2
      exact .inr (Z.ext (Nat.eq_zero_of_dvd_of_lt h3 b.lt))

section bez
variable {K : Type} [CR K] [Fld K]
/-- a greatest common divisor, as a combination -/
theorem bezout (a b : Poly K) (h : a ≠ 0) : ∃ (n : Nat) (d u v : Poly K), Monic d n ∧ d = u * a + v * b ∧ (∃ k, a = k * d) ∧ ∃ k, b = k * d := by
  -- the least degree of a monic combination
  have hex : ∃ n d u v, Monic d n ∧ d = u * a + v * b := by
    obtain ⟨n, h1, h2⟩ := exists_top h
    refine ⟨n, C (inv (a.c n)) * a, C (inv (a.c n)), 0, ⟨?_, ?_⟩, by rw [zero_mul, add_zero]⟩
    · intro i hi; rw [C_mul_c, h1 i hi, mul_zero]
    · rw [C_mul_c, mul_comm, mul_inv h2]
  have hmin : ∃ n, (∃ d u v, Monic d n ∧ d = u * a + v * b) ∧ ∀ k, k < n → ¬ ∃ d u v, Monic d k ∧ d = u * a + v * b := by
    obtain ⟨n, hn⟩ := hex
    induction n using Nat.strongRecOn with
    | _ n ih =>
      by_cases hk : ∃ k, k < n ∧ ∃ d u v, Monic d k ∧ d = u * a + v * b
      · obtain ⟨k, hkn, hk2⟩ := hk; exact ih k hkn hk2
      · exact ⟨n, hn, fun k hkn h2 => hk ⟨k, hkn, h2⟩⟩
  obtain ⟨n, ⟨d, u, v, hd, he⟩, hleast⟩ := hmin
  have hdiv : ∀ c s t : Poly K, c = s * a + t * b → ∃ k, c = k * d := by
    intro c s t hc
    obtain ⟨N, hN⟩ := c.fin
    obtain ⟨q, r, h1, h2, _⟩ := div_ex hd N c (Poly.below.mono hN (by omega))
    by_cases hr : r = 0
    · exact ⟨q, by rw [h1, hr, add_zero]⟩
    · exfalso
      obtain ⟨k, k1, k2⟩ := exists_top hr
      have hkn : k < n := Nat.lt_of_not_le fun hle => k2 (h2 k hle)
      refine hleast k hkn ⟨C (inv (r.c k)) * r, C (inv (r.c k)) * (s + -(q * u)), C (inv (r.c k)) * (t + -(q * v)), ⟨?_, ?_⟩, ?_⟩
      · intro i hi; rw [C_mul_c, k1 i hi, mul_zero]
      · rw [C_mul_c, mul_comm, mul_inv k2]
      · rw [mul_assoc, mul_assoc, ← mul_add]
        congr 1
        apply add_left_cancel (a := q * d)
        rw [← h1, hc, he, add_mul, add_mul, neg_mul, neg_mul, mul_add, mul_assoc, mul_assoc]
        rw [show q * (u * a) + q * (v * b) + (s * a + -(q * (u * a)) + (t * b + -(q * (v * b)))) = (s * a + t * b) + ((q * (u * a) + -(q * (u * a))) + (q * (v * b) + -(q * (v * b)))) by ac_rfl, add_neg, add_neg, add_zero, add_zero]
  exact ⟨n, d, u, v, hd, he, hdiv a 1 0 (by rw [one_mul, zero_mul, add_zero]), hdiv b 0 1 (by rw [one_mul, zero_mul, zero_add])⟩
end bez

variable {D : Desc} [Desc.Ok D]
/-- no monic divisor of a degree from 1 to half the modulus's -/
def Desc.Irr (D : Desc) [Desc.Ok D] : Prop := ∀ (d : Nat) (b k : Poly (Z D.p)), 1 ≤ d → 2 * d ≤ D.m → Monic b d → k * b ≠ D.f

theorem monic_cofactor {R : Type} [CR R] {f b k : Poly R} {m d : Nat} (hf : Monic f m) (hb : Monic b d) (hdm : d ≤ m) (h : k * b = f) (h1 : (1 : R) ≠ 0) : Monic k (m - d) := by
  have hk : k ≠ 0 := fun e => by
    rw [e, zero_mul] at h
    exact h1 (by rw [← hf.2, ← h]; rfl)
  obtain ⟨n, h2, h3⟩ := exists_top hk
  have h4 := mul_top h2 hb.1
  rw [h, hb.2, mul_one] at h4
  have hn : n + d ≤ m := Nat.le_of_not_lt fun hlt => h3 (by rw [← h4]; exact hf.1 _ (by omega))
  have hn2 : n + d = m := by
    refine Nat.le_antisymm hn (Nat.le_of_not_lt fun hlt => h1 ?_)
    rw [← hf.2, ← h]
    exact below_mul h2 hb.1 m (by omega) m (Nat.le_refl _)
  have e : n = m - d := by omega
  subst e
  exact ⟨h2, by rw [← h4, hn2]; exact hf.2⟩

theorem z_one_ne : (1 : Z D.p) ≠ 0 := fun h => by have := congrArg Z.v h; rw [Z.one_v, Z.zero_v] at this; omega
theorem el_one_ne : (1 : El D) ≠ 0 := fun h => by have h2 : (1 : Nat) = 0 := congrArg El.v h; omega
theorem f_zero : Cong D.f D.f 0 := ⟨1, by rw [one_mul, add_zero]⟩

theorem irr_of_fld [Fld (El D)] : D.Irr := by
  intro d b k h1 h2 hb h
  have hk := monic_cofactor D.f_monic hb (by omega) h z_one_ne
  have hbm : b.below D.m := hb.1.mono (by omega)
  have hkm : k.below D.m := hk.1.mono (by omega)
  have h0 : (num k : El D) * num b = 0 := mul_eq (by
    rw [pol_num hkm, pol_num hbm, pol_zero, h]; exact f_zero.symm)
  have hne : ∀ (g : Poly (Z D.p)) (n : Nat), Monic g n → g.below D.m → (num g : El D) ≠ 0 := fun g n hg hgm e => by
    have : g = 0 := by rw [← pol_num (D := D) hgm, e, pol_zero]
    exact z_one_ne (D := D) (by rw [← hg.2, this]; rfl)
  rcases mul_eq_zero h0 with e | e
  · exact hne k _ hk hkm e
  · exact hne b _ hb hbm e

theorem fld_of_irr (hp : Prime D.p) (hi : D.Irr) : Fld (El D) where
  one_ne := el_one_ne
  inv_ex x hx := by
    haveI := hp.fld
    have ha : pol D x.v ≠ 0 := fun e => hx (pol_inj (by rw [e, pol_zero]))
    obtain ⟨n, d, u, v, hd, he, ⟨k, hk⟩, ⟨l, hl⟩⟩ := bezout (pol D x.v) D.f ha
    have hnm : n < D.m := by
      refine Nat.lt_of_not_le fun hle => ha ?_
      have hk0 : k = 0 := mul_monic_zero hd (by rw [← hk]; exact (pol_below _).mono hle)
      rw [hk, hk0, zero_mul]
    have hn0 : n = 0 := by
      refine Classical.byContradiction fun hn => ?_
      have hlm := monic_cofactor D.f_monic hd (by omega) hl.symm z_one_ne
      by_cases h2 : 2 * n ≤ D.m
      · exact hi n d l (by omega) h2 hd hl.symm
      · exact hi (D.m - n) l d (by omega) (by omega) hlm (by rw [mul_comm]; exact hl.symm)
    subst hn0
    have hd1 : d = 1 := Poly.ext fun i => by
      rw [one_c]
      by_cases h : i = 0
      · subst h; rw [if_pos rfl]; exact hd.2
      · rw [if_neg h]; exact hd.1 i (by omega)
    refine ⟨num (rem u), mul_eq ?_⟩
    rw [pol_one, pol_num (rem_below _), ← hd1, he]
    refine Cong.trans ?_ ((Cong.refl _ _).mul (rem_cong u).symm)
    rw [mul_comm u]
    have := (Cong.refl D.f (pol D x.v * u)).add (Cong.zero (f := D.f) (k := v))
    rwa [add_zero] at this

/-- the elements other than zero -/
def units (D : Desc) [Desc.Ok D] : List (El D) := (List.range (D.q - 1)).pmap (fun i h => ⟨i + 1, h⟩) fun i hi => by have := List.mem_range.mp hi; omega
theorem units_len : (units D).length = D.q - 1 := by simp [units]
theorem units_ok : Units (units D) := by
  refine ⟨?_, fun x => ?_⟩
  · unfold units
    rw [List.Nodup, List.pairwise_pmap]
    exact List.pairwise_lt_range.imp fun h _ _ e => by have := congrArg El.v e; simp at this; omega
  · unfold units
    rw [List.mem_pmap]
    constructor
    · rintro ⟨i, hi, rfl⟩ e
      have := congrArg El.v e
      exact absurd this (by show i + 1 ≠ 0; omega)
    · intro hx
      have h0 : x.v ≠ 0 := fun e => hx (El.ext e)
      have := x.lt
      exact ⟨x.v - 1, List.mem_range.mpr (by omega), El.ext (by show x.v - 1 + 1 = x.v; omega)⟩
/-- a primitive element -/
theorem primitive [Fld (El D)] (hq : D.q ≤ 256) : ∃ g : El D, g ≠ 0 ∧ pw g (D.q - 1) = 1 ∧ ∀ d, 0 < d → d < D.q - 1 → pw g d ≠ 1 := by
  have := exists_primitive (units_ok (D := D)) (by rw [units_len]; have := q_gt (D := D); omega)
  rwa [units_len] at this

end Go.Proofs.Ytdkdainipanacaa.Alg
namespace Go.Proofs.Ytdkdainipanacaa.Alg
set_option linter.unusedSectionVars false
variable {D : Desc} [Desc.Ok D]

/-- the polynomial with the m coefficients o -/
def pf (D : Desc) [Desc.Ok D] (o : Nat → Nat) : Poly (Z D.p) := ⟨fun i => if i < D.m then ofN (o i) else 0, D.m, fun i hi => by rw [if_neg (by omega)]⟩
theorem pf_c (o : Nat → Nat) (i : Nat) : (pf D o).c i = if i < D.m then ofN (o i) else 0 := rfl
theorem pf_below (o : Nat → Nat) : (pf D o).below D.m := fun i hi => by rw [pf_c, if_neg (by omega)]
theorem pf_dig (x : Nat) : pf D (dig D.p x) = pol D x := rfl
theorem pf_num {o : Nat → Nat} (h : ∀ i, i < D.m → o i < D.p) : (num (pf D o) : El D).v = valN D.p o D.m := by
  show valN D.p _ D.m = _
  refine valN_congr fun i hi => ?_
  rw [pf_c, if_pos hi, ofN_v, Nat.mod_eq_of_lt (h i hi)]
/-- the low coefficients of the modulus -/
def low (D : Desc) (i : Nat) : Nat := D.mod.getD i 0

/-- one step of Horner's way -/
theorem horner_step {o o' a : Nat → Nat} {b : Nat} (ho : ∀ i, i < D.m → o i < D.p) (h : ∀ j, j < D.m → o' j % D.p = ((if j = 0 then 0 else o (j - 1)) + (D.p - o (D.m - 1)) * low D j + b * a j) % D.p) :
    Cong D.f (mono 1 1 * pf D o + C (ofN b) * pf D a) (pf D o') := by
  have hm1 := Desc.Ok.m1 (D := D)
  refine ⟨C (ofN (o (D.m - 1))), Poly.ext fun i => ?_⟩
  rw [add_c, add_c, C_mul_c, C_mul_c, mono_mul_c, pf_c, pf_c, pf_c]
  show _ = ofN (o (D.m - 1)) * (if i = D.m then 1 else if i < D.m then ofN (low D i) else 0) + _
  by_cases h1 : i < D.m
  · rw [if_pos h1, if_pos h1, if_neg (show ¬ i = D.m by omega), if_pos h1]
    have e : (ofN (o' i) : Z D.p) = ofN ((if i = 0 then 0 else o (i - 1)) + (D.p - o (D.m - 1)) * low D i + b * a i) := Z.ext (by rw [ofN_v, ofN_v, h i h1])
    rw [e, ofN_add, ofN_add, ofN_mul, ofN_mul, ofN_sub (Nat.le_of_lt (ho _ (by omega))), neg_mul]
    have e2 : (if 1 ≤ i then (1 : Z D.p) * (if i - 1 < D.m then ofN (o (i - 1)) else 0) else 0) = ofN (if i = 0 then 0 else o (i - 1)) := by
      by_cases hi0 : i = 0
      · subst hi0; rw [if_neg (by omega), if_pos rfl, ofN_zero]
      · rw [if_pos (by omega), if_neg hi0, if_pos (by omega), one_mul]
    rw [e2]
    generalize (ofN (if i = 0 then 0 else o (i - 1)) : Z D.p) = s
    generalize (ofN (o (D.m - 1)) * ofN (low D i) : Z D.p) = t
    rw [show t + (s + -t + ofN b * ofN (a i)) = (t + -t) + (s + ofN b * ofN (a i)) by ac_rfl, add_neg, zero_add]
  · rw [if_neg h1, if_neg h1, if_neg h1, mul_zero, add_zero, add_zero, if_pos (show 1 ≤ i by omega)]
    by_cases h2 : i = D.m
    · rw [if_pos h2, if_pos (show i - 1 < D.m by omega), one_mul, mul_one, h2]
    · rw [if_neg h2, if_neg (show ¬ i - 1 < D.m by omega), mul_zero, mul_zero]
/-- what Horner's way has taken in: the digits from k on -/
def tailP (D : Desc) [Desc.Ok D] (b : Nat → Nat) (k : Nat) : Poly (Z D.p) := pf D fun i => if k + i < D.m then b (k + i) else 0
theorem tailP_m (b : Nat → Nat) : tailP D b D.m = 0 := Poly.ext fun i => by
  rw [tailP, pf_c, zero_c]
  split
  · rw [if_neg (by omega), ofN_zero]
  · rfl
theorem tailP_zero (b : Nat → Nat) : tailP D b 0 = pf D b := Poly.ext fun i => by
  rw [tailP, pf_c, pf_c]
  split
  · rw [Nat.zero_add, if_pos (by assumption)]
  · rfl
theorem tailP_step (b : Nat → Nat) (k : Nat) (hk : k < D.m) : tailP D b k = mono 1 1 * tailP D b (k + 1) + C (ofN (b k)) := Poly.ext fun i => by
  rw [add_c, mono_mul_c, C_c, tailP, tailP, pf_c, pf_c]
  by_cases h0 : i = 0
  · subst h0
    rw [if_pos (show 0 < D.m by omega), if_neg (show ¬ 1 ≤ 0 by omega), if_pos rfl, zero_add, Nat.add_zero, if_pos hk]
  · rw [if_pos (show 1 ≤ i by omega), if_neg h0, add_zero, one_mul]
    by_cases h1 : i < D.m
    · rw [if_pos h1, if_pos (show i - 1 < D.m by omega), show k + 1 + (i - 1) = k + i by omega]
    · rw [if_neg h1, show k + 1 + (i - 1) = k + i by omega, if_neg (show ¬ k + i < D.m by omega)]
      split
      · rw [ofN_zero]
      · rfl
/-- the whole way -/
theorem horner_one {o o' a b : Nat → Nat} {k : Nat} (hk : k < D.m) (ho : ∀ i, i < D.m → o i < D.p) (hc : Cong D.f (pf D o) (pf D a * tailP D b (k + 1)))
    (h : ∀ j, j < D.m → o' j % D.p = ((if j = 0 then 0 else o (j - 1)) + (D.p - o (D.m - 1)) * low D j + b k * a j) % D.p) : Cong D.f (pf D o') (pf D a * tailP D b k) := by
  refine (horner_step ho h).symm.trans ?_
  rw [tailP_step b k hk, mul_add, mul_comm (pf D a) (C _), show pf D a * (mono 1 1 * tailP D b (k + 1)) = mono 1 1 * (pf D a * tailP D b (k + 1)) by ac_rfl]
  exact ((Cong.refl _ _).mul hc).add (.refl _ _)
theorem horner_end {o : Nat → Nat} {x y : El D} (ho : ∀ i, i < D.m → o i < D.p) (hc : Cong D.f (pf D o) (pf D (dig D.p x.v) * tailP D (dig D.p y.v) 0)) : valN D.p o D.m = (x * y).v := by
  rw [← pf_num ho]
  rw [tailP_zero, pf_dig, pf_dig] at hc
  have : x * y = num (pf D o) := mul_eq (by rw [pol_num (pf_below o)]; exact hc)
  rw [this]

end Go.Proofs.Ytdkdainipanacaa.Alg
namespace Go.Proofs.Ytdkdainipanacaa.Alg
set_option linter.unusedSectionVars false
section
variable {p : Nat} [Two p]
/-- the polynomial with the n coefficients o -/
def pN (p : Nat) [Two p] (n : Nat) (o : Nat → Nat) : Poly (Z p) := ⟨fun i => if i < n then ofN (o i) else 0, n, fun i hi => by rw [if_neg (by omega)]⟩
theorem pN_c (n : Nat) (o : Nat → Nat) (i : Nat) : (pN p n o).c i = if i < n then ofN (o i) else 0 := rfl
/-- the monic polynomial of degree d with the low coefficients lo -/
def bP (p : Nat) [Two p] (d : Nat) (lo : Nat → Nat) : Poly (Z p) := ⟨fun i => if i = d then 1 else if i < d then ofN (lo i) else 0, d + 1, fun i hi => by rw [if_neg (by omega), if_neg (by omega)]⟩
theorem bP_c (d : Nat) (lo : Nat → Nat) (i : Nat) : (bP p d lo).c i = if i = d then 1 else if i < d then ofN (lo i) else 0 := rfl
theorem bP_monic (d : Nat) (lo : Nat → Nat) : Monic (bP p d lo) d := ⟨fun i hi => by rw [bP_c, if_neg (by omega), if_neg (by omega)], by rw [bP_c, if_pos rfl]⟩
theorem bP_congr {d : Nat} {lo lo' : Nat → Nat} (h : ∀ i, i < d → lo i = lo' i) : bP p d lo = bP p d lo' := Poly.ext fun i => by
  rw [bP_c, bP_c]
  by_cases h1 : i = d
  · rw [if_pos h1, if_pos h1]
  · rw [if_neg h1, if_neg h1]
    by_cases h2 : i < d
    · rw [if_pos h2, if_pos h2, h i h2]
    · rw [if_neg h2, if_neg h2]

theorem red_step {n d i : Nat} {o o' lo : Nat → Nat} (hdi : d ≤ i) (hin : i < n) (ho : o i ≤ p)
    (h : ∀ k, k < n → (ofN (o' k) : Z p) = if k = i then 0 else if i - d ≤ k ∧ k < i then ofN (o k + (p - o i) * lo (k - (i - d))) else ofN (o k)) :
    Cong (bP p d lo) (pN p n o) (pN p n o') := by
  refine ⟨C (ofN (o i)) * mono 1 (i - d), Poly.ext fun k => ?_⟩
  rw [add_c, mul_assoc, C_mul_c, mono_mul_c, pN_c, pN_c, bP_c]
  by_cases hk : k < n
  · rw [if_pos hk, if_pos hk, h k hk]
    by_cases h1 : k = i
    · subst h1
      rw [if_pos rfl, if_pos (by omega), if_pos (by omega), mul_one, mul_one, add_zero]
    · rw [if_neg h1]
      by_cases h2 : i - d ≤ k ∧ k < i
      · rw [if_pos h2, if_pos h2.1, if_neg (by omega), if_pos (by omega), one_mul, ofN_add, ofN_mul, ofN_sub ho, neg_mul]
        rw [show ∀ a b : Z p, b + (a + -b) = a + (b + -b) from fun a b => by ac_rfl, add_neg, add_zero]
      · rw [if_neg h2]
        by_cases h3 : i - d ≤ k
        · rw [if_pos h3, if_neg (by omega), if_neg (by omega), mul_zero, mul_zero, zero_add]
        · rw [if_neg h3, mul_zero, zero_add]
  · rw [if_neg hk, if_neg hk, add_zero]
    rw [if_pos (by omega), if_neg (by omega), if_neg (by omega), mul_zero, mul_zero]

theorem div_test {n d : Nat} {lo o : Nat → Nat} {f : Poly (Z p)} (hc : Cong (bP p d lo) f (pN p n o)) (hz : ∀ k, d ≤ k → k < n → o k = 0) (hl : ∀ k, k < n → o k < p) :
    (∃ k, k * bP p d lo = f) ↔ ∀ k, k < n → o k = 0 := by
  have hb : (pN p n o).below d := fun i hi => by
    rw [pN_c]
    split
    · rw [hz i hi (by assumption), ofN_zero]
    · rfl
  constructor
  · rintro ⟨k, rfl⟩ i hi
    have h0 : pN p n o = 0 := Cong.eq (bP_monic d lo) (hc.symm.trans Cong.zero) hb (fun _ _ => rfl)
    have := congrArg (fun z => (Poly.c z i).v) h0
    simp only [pN_c, if_pos hi] at this
    rw [ofN_v, Nat.mod_eq_of_lt (hl i hi)] at this
    exact this
  · intro h
    have h0 : pN p n o = 0 := Poly.ext fun i => by
      rw [pN_c, zero_c]
      split
      · rw [h i (by assumption), ofN_zero]
      · rfl
    obtain ⟨k, hk⟩ := hc
    exact ⟨k, by rw [hk, h0, add_zero]⟩
end

variable {D : Desc} [Desc.Ok D]
theorem f_bP : D.f = bP D.p D.m (low D) := rfl
theorem f_pN : D.f = pN D.p (D.m + 1) fun i => if i < D.m then low D i else 1 := Poly.ext fun i => by
  rw [f_bP, bP_c, pN_c]
  by_cases h : i = D.m
  · rw [if_pos h, if_pos (by omega), if_neg (by omega), ofN_one]
  · rw [if_neg h]
    by_cases h1 : i < D.m
    · rw [if_pos h1, if_pos (by omega), if_pos h1]
    · rw [if_neg h1, if_neg (by omega)]
/-- the monic polynomial of degree d with the digits of v divides the modulus -/
def Div (D : Desc) [Desc.Ok D] (d v : Nat) : Prop := ∃ k, k * bP D.p d (dig D.p v) = D.f
theorem irr_iff : D.Irr ↔ ∀ d, 1 ≤ d → 2 * d ≤ D.m → ∀ v, v < D.p ^ d → ¬ Div D d v := by
  constructor
  · rintro h d h1 h2 v _ ⟨k, hk⟩
    exact h d _ k h1 h2 (bP_monic _ _) hk
  · intro h d b k h1 h2 hb hk
    have hl : ∀ i, i < d → (b.c i).v < D.p := fun i _ => (b.c i).lt
    refine h d h1 h2 (valN D.p (fun i => (b.c i).v) d) (valN_lt hl) ⟨k, ?_⟩
    rw [← hk]
    congr 1
    rw [bP_congr (lo' := fun i => (b.c i).v) fun i hi => dig_valN hl i hi]
    refine Poly.ext fun i => ?_
    rw [bP_c]
    by_cases e : i = d
    · rw [if_pos e, e, hb.2]
    · rw [if_neg e]
      by_cases e1 : i < d
      · rw [if_pos e1, ofN_self]
      · rw [if_neg e1, hb.1 i (by omega)]

/-- the powers of x go through different elements other than zero, k of them -/
def Run (x : El D) (k : Nat) : Prop := (∀ i, i < k → pw x i ≠ 0) ∧ ∀ i j, i < j → j < k → pw x i ≠ pw x j
/-- x is a primitive element -/
def Gen (x : El D) : Prop := Run x (D.q - 1) ∧ pw x (D.q - 1) = 1
theorem Run.nodup {x : El D} {k : Nat} (h : Run x k) : ((List.range k).map (pw x)).Nodup := by
  rw [List.Nodup, List.pairwise_map]
  have h2 : (List.range k).Pairwise (· < ·) := List.pairwise_lt_range
  exact (List.Pairwise.and_mem.mp h2).imp fun {s t} h3 => h.2 s t h3.2.2 (List.mem_range.mp h3.2.1)
theorem run_bound {x : El D} {k : Nat} (h : Run x k) : k ≤ D.q - 1 := by
  have := h.nodup.length_le_of_subset (l₂ := units D) fun y hy => by
    obtain ⟨i, hi, rfl⟩ := List.mem_map.mp hy
    exact (units_ok.2 _).mpr (h.1 i (List.mem_range.mp hi))
  rw [units_len] at this
  simpa using this
theorem gen_all {g : El D} (hg : Gen g) {x : El D} (hx : x ≠ 0) : ∃ i, i < D.q - 1 ∧ x = pw g i := by
  refine Classical.byContradiction fun hno => ?_
  have hnd : (x :: (List.range (D.q - 1)).map (pw g)).Nodup := by
    refine List.nodup_cons.mpr ⟨fun h => ?_, hg.1.nodup⟩
    obtain ⟨i, hi, e⟩ := List.mem_map.mp h
    exact hno ⟨i, List.mem_range.mp hi, e.symm⟩
  have := hnd.length_le_of_subset (l₂ := units D) fun y hy => by
    rcases List.mem_cons.mp hy with rfl | hy
    · exact (units_ok.2 _).mpr hx
    · obtain ⟨i, hi, rfl⟩ := List.mem_map.mp hy
      exact (units_ok.2 _).mpr (hg.1.1 i (List.mem_range.mp hi))
  rw [units_len] at this
  simp at this
  omega
theorem fld_of_gen {g : El D} (hg : Gen g) : Fld (El D) where
  one_ne := el_one_ne
  inv_ex x hx := by
    obtain ⟨i, hi, rfl⟩ := gen_all hg hx
    refine ⟨pw g (D.q - 1 - i), ?_⟩
    rw [← pw_add, show i + (D.q - 1 - i) = D.q - 1 by omega, hg.2]
theorem gen_of_fld [Fld (El D)] (hq : D.q ≤ 256) : ∃ g : El D, Gen g := by
  obtain ⟨g, h0, h1, h2⟩ := primitive (D := D) hq
  refine ⟨g, ⟨fun i _ => pw_ne h0 i, fun i j hij hj e => ?_⟩, h1⟩
  refine h2 (j - i) (by omega) (by omega) (mul_cancel (pw_ne h0 i) ?_)
  rw [← pw_add, mul_one, e, show i + (j - i) = j by omega]
theorem gen_iff (hp : Prime D.p) (hq : D.q ≤ 256) : (∃ g : El D, Gen g) ↔ D.Irr := by
  constructor
  · rintro ⟨g, hg⟩
    haveI := fld_of_gen hg
    exact irr_of_fld
  · intro h
    haveI := fld_of_irr hp h
    exact gen_of_fld hq

end Go.Proofs.Ytdkdainipanacaa.Alg
namespace Go.Proofs.Ytdkdainipanacaa.Alg
set_option linter.unusedSectionVars false
theorem dig_lt {p : Nat} (hp : 0 < p) (x i : Nat) : dig p x i < p := Nat.mod_lt _ hp
theorem valN_ext {p : Nat} {d : Nat → Nat} {k m : Nat} (hk : k ≤ m) (h : ∀ i, k ≤ i → i < m → d i = 0) : valN p d m = valN p d k := by
  induction m with
  | zero => rw [show k = 0 by omega]
  | succ m ih =>
    by_cases e : k = m + 1
    · rw [e]
    · show valN p d m + d m * p ^ m = _
      rw [h m (by omega) (by omega), Nat.zero_mul, Nat.add_zero]
      exact ih (by omega) fun i h1 h2 => h i h1 (by omega)
variable {D : Desc} [Desc.Ok D]
theorem pp : 0 < D.p := pos (p := D.p)
theorem el_add_v (a b : El D) : (a + b).v = valN D.p (fun i => (dig D.p a.v i + dig D.p b.v i) % D.p) D.m := by
  show valN D.p (fun i => ((pol D a.v + pol D b.v).c i).v) D.m = _
  refine valN_congr fun i hi => ?_
  rw [add_c, pol_c, pol_c, if_pos hi, if_pos hi, ← ofN_add, ofN_v]
theorem el_neg_v (a : El D) : (-a).v = valN D.p (fun i => (D.p - dig D.p a.v i) % D.p) D.m := by
  show valN D.p (fun i => ((-pol D a.v).c i).v) D.m = _
  refine valN_congr fun i hi => ?_
  rw [neg_c, pol_c, if_pos hi, Z.neg_v, ofN_v, Nat.mod_eq_of_lt (dig_lt pp _ _)]
theorem dig_zero_of_lt {p x k i : Nat} (_ : 0 < p) (h : x / p ^ k = 0) (hi : k ≤ i) : dig p x i = 0 := by
  unfold dig
  have e : p ^ i = p ^ k * p ^ (i - k) := by rw [← Nat.pow_add]; congr 1; omega
  rw [e, ← Nat.div_div_eq_div_mul, h, Nat.zero_div, Nat.zero_mod]
theorem xor_v (h2 : D.p = 2) (a b : El D) : a.v ^^^ b.v = (a + b).v := by
  have ha : a.v < 2 ^ D.m := by have := a.lt; unfold Desc.q at this; rwa [h2] at this
  have hb : b.v < 2 ^ D.m := by have := b.lt; unfold Desc.q at this; rwa [h2] at this
  rw [el_add_v, h2]
  have hx : a.v ^^^ b.v < 2 ^ D.m := Nat.xor_lt_two_pow ha hb
  have e := valN_dig 2 (a.v ^^^ b.v) D.m
  rw [Nat.mod_eq_of_lt hx] at e
  rw [← e]
  refine valN_congr fun i _ => ?_
  have key : ∀ x : Nat, dig 2 x i = (x.testBit i).toNat := fun x => by
    unfold dig
    rw [Nat.testBit_eq_decide_div_mod_eq]
    have : x / 2 ^ i % 2 < 2 := Nat.mod_lt _ (by omega)
    by_cases h : x / 2 ^ i % 2 = 1
    · rw [h]; rfl
    · rw [decide_eq_false h, show x / 2 ^ i % 2 = 0 by omega]; rfl
  rw [key, key, key, Nat.testBit_xor]
  cases a.v.testBit i <;> cases b.v.testBit i <;> rfl

/-- powers of a primitive element repeat -/
theorem gen_mod {g : El D} (hg : Gen g) (n : Nat) : pw g (n % (D.q - 1)) = pw g n := by
  conv => rhs; rw [← Nat.div_add_mod n (D.q - 1), pw_add, pw_mul, hg.2, one_pw, one_mul]
theorem gen_pow {g : El D} (hg : Gen g) (i n : Nat) : pw g (i * n % (D.q - 1)) = pw (pw g i) n := by rw [gen_mod hg, pw_mul]
theorem gen_mul {g : El D} (hg : Gen g) (i j : Nat) : pw g ((i + j) % (D.q - 1)) = pw g i * pw g j := by rw [gen_mod hg, pw_add]
theorem gen_inv {g : El D} (hg : Gen g) {i : Nat} (hi : i < D.q - 1) : pw g i * pw g ((D.q - 1 - i) % (D.q - 1)) = 1 := by
  rw [gen_mod hg, ← pw_add, show i + (D.q - 1 - i) = D.q - 1 by omega, hg.2]
theorem inv_of_mul [Fld (El D)] {a b : El D} (h : a * b = 1) : b = inv a := by
  have ha : a ≠ 0 := fun e => by rw [e, zero_mul] at h; exact el_one_ne h.symm
  exact mul_cancel ha (h.trans (mul_inv ha).symm)
theorem inv_zero [Fld (El D)] : inv (0 : El D) = 0 := by unfold inv; rw [dif_neg (fun h => h rfl)]
theorem inv_ne [Fld (El D)] {a : El D} (h : a ≠ 0) : inv a ≠ 0 := fun e => by
  have := mul_inv h
  rw [e, mul_zero] at this
  exact el_one_ne this.symm
/-- the power, as the program takes it -/
noncomputable def powI (x : El D) (n : Int) : El D := open Classical in if n = 0 then 1 else if x = 0 then 0 else pw x ((n.tmod ((D.q : Int) - 1) + ((D.q : Int) - 1)).tmod ((D.q : Int) - 1)).toNat
theorem zero_pw {n : Nat} (h : n ≠ 0) : pw (0 : El D) n = 0 := by
  obtain ⟨k, rfl⟩ : ∃ k, n = k + 1 := ⟨n - 1, by omega⟩
  rw [pw, mul_zero]
theorem pw_order [Fld (El D)] {x : El D} (hx : x ≠ 0) : pw x (D.q - 1) = 1 := by
  have := Units.pw (units_ok (D := D)) hx
  rwa [units_len] at this
theorem powI_nat [Fld (El D)] (x : El D) (n : Nat) : powI x n = pw x n := by
  unfold powI
  by_cases h0 : n = 0
  · subst h0; rw [if_pos (show ((0 : Nat) : Int) = 0 from rfl)]; rfl
  rw [if_neg (by omega)]
  by_cases hx : x = 0
  · rw [if_pos hx, hx, zero_pw h0]
  rw [if_neg hx]
  have hq := q_gt (D := D)
  have e1 : ((n : Int).tmod ((D.q : Int) - 1) + ((D.q : Int) - 1)).tmod ((D.q : Int) - 1) = ((n % (D.q - 1) : Nat) : Int) := by
    rw [show (D.q : Int) - 1 = ((D.q - 1 : Nat) : Int) by omega]
    have e2 : (n : Int).tmod ((D.q - 1 : Nat) : Int) = ((n % (D.q - 1) : Nat) : Int) := by
      rw [Int.tmod_eq_emod_of_nonneg (by omega), ← Int.natCast_emod]
    rw [e2, Int.tmod_eq_emod_of_nonneg (by omega), ← Int.natCast_add, ← Int.natCast_emod, Nat.add_mod_right, Nat.mod_mod]
  rw [e1, Int.toNat_natCast]
  conv => rhs; rw [← Nat.div_add_mod n (D.q - 1), pw_add, pw_mul, pw_order hx, one_pw, one_mul]
end Go.Proofs.Ytdkdainipanacaa.Alg
namespace Go.Proofs.Ytdkdainipanacaa.Alg
set_option linter.unusedSectionVars false
section
variable {p : Nat} [Two p]
theorem pN_zero (d : Nat → Nat) : pN p 0 d = 0 := Poly.ext fun i => by rw [pN_c, if_neg (by omega), zero_c]
theorem pN_z0 (n : Nat) : pN p n (fun _ => 0) = 0 := Poly.ext fun i => by
  rw [pN_c, zero_c]
  split
  · exact ofN_zero
  · rfl
theorem pN_succ (n : Nat) (d : Nat → Nat) : pN p (n + 1) d = pN p n d + mono (ofN (d n)) n := Poly.ext fun i => by
  rw [add_c, pN_c, pN_c, mono_c]
  by_cases h : i = n
  · subst h; rw [if_pos (by omega), if_neg (by omega), if_pos rfl, zero_add]
  · rw [if_neg h, add_zero]
    by_cases h1 : i < n
    · rw [if_pos h1, if_pos (by omega)]
    · rw [if_neg h1, if_neg (by omega)]
theorem pN_congr {n : Nat} {d e : Nat → Nat} (h : ∀ i, i < n → (ofN (d i) : Z p) = ofN (e i)) : pN p n d = pN p n e := Poly.ext fun i => by
  rw [pN_c, pN_c]
  split
  · exact h i (by assumption)
  · rfl
theorem mono_mono (a b : Z p) (m n : Nat) : mono a m * mono b n = mono (a * b) (m + n) := Poly.ext fun i => by
  rw [mono_mul_c, mono_c, mono_c]
  by_cases h : i = m + n
  · rw [if_pos (by omega), if_pos (by omega), if_pos h]
  · rw [if_neg h]
    by_cases h1 : m ≤ i
    · rw [if_pos h1, if_neg (by omega), mul_zero]
    · rw [if_neg h1]
theorem pN_set {n s : Nat} {o o' : Nat → Nat} {e : Z p} (hs : s < n) (h : (ofN (o' s) : Z p) = ofN (o s) + e) (h2 : ∀ i, i ≠ s → o' i = o i) : pN p n o' = pN p n o + mono e s := Poly.ext fun i => by
  rw [add_c, pN_c, pN_c, mono_c]
  by_cases hi : i = s
  · subst hi; rw [if_pos hs, if_pos hs, if_pos rfl, h]
  · rw [if_neg hi, add_zero, h2 i hi]
end
variable {D : Desc} [Desc.Ok D]
/-- one product of digits is taken in -/
theorem conv_step {n k j : Nat} {o o' da db : Nat → Nat} (hkj : k + j < n) (ho : o' (k + j) % D.p = (o (k + j) + da k * db j) % D.p) (h2 : ∀ i, i ≠ k + j → o' i = o i)
    (h : pN D.p n o = pN D.p k da * pN D.p D.m db + mono (ofN (da k)) k * pN D.p j db) : pN D.p n o' = pN D.p k da * pN D.p D.m db + mono (ofN (da k)) k * pN D.p (j + 1) db := by
  rw [pN_set hkj (e := ofN (da k) * ofN (db j)) ?_ h2, h, pN_succ j, mul_add, mono_mono, add_assoc]
  rw [← ofN_mul, ← ofN_add]
  exact Z.ext (by rw [ofN_v, ofN_v, ho])
theorem conv_row {n k : Nat} {o da db : Nat → Nat} (h : pN D.p n o = pN D.p k da * pN D.p D.m db + mono (ofN (da k)) k * pN D.p D.m db) :
    pN D.p n o = pN D.p (k + 1) da * pN D.p D.m db + mono (ofN (da (k + 1))) (k + 1) * pN D.p 0 db := by
  rw [h, pN_zero, mul_zero, add_zero, pN_succ k, add_mul]
/-- the highest coefficient is taken off -/
theorem red_top {i : Nat} {o o' : Nat → Nat} (hmi : D.m ≤ i) (ho : o i ≤ D.p) (h1 : ∀ k, i - D.m ≤ k → k < i → o' k % D.p = (o k + (D.p - o i) * low D (k - (i - D.m))) % D.p) (h2 : ∀ k, k < i - D.m → o' k = o k) :
    Cong D.f (pN D.p (i + 1) o) (pN D.p i o') := by
  have := red_step (p := D.p) (n := i + 1) (d := D.m) (i := i) (o := o) (o' := fun k => if k = i then 0 else o' k) (lo := low D) hmi (by omega) ho fun k hk => by
    by_cases e : k = i
    · rw [if_pos e, if_pos e, ofN_zero]
    · rw [if_neg e, if_neg e]
      by_cases hc : i - D.m ≤ k ∧ k < i
      · rw [if_pos hc]
        exact Z.ext (by rw [ofN_v, ofN_v, h1 k hc.1 hc.2])
      · rw [if_neg hc, h2 k (by omega)]
  rw [f_bP]
  have e : pN D.p (i + 1) (fun k => if k = i then 0 else o' k) = pN D.p i o' := Poly.ext fun k => by
    rw [pN_c, pN_c]
    by_cases h : k < i
    · rw [if_pos h, if_pos (by omega), if_neg (by omega)]
    · rw [if_neg h]
      by_cases h3 : k < i + 1
      · rw [if_pos h3, if_pos (by omega), ofN_zero]
      · rw [if_neg h3]
  rwa [e] at this
theorem conv_end {o : Nat → Nat} {x y : El D} (ho : ∀ i, i < D.m → o i < D.p) (hc : Cong D.f (pN D.p D.m (dig D.p x.v) * pN D.p D.m (dig D.p y.v)) (pN D.p D.m o)) : valN D.p o D.m = (x * y).v := by
  rw [← pf_num ho]
  have : x * y = num (pf D o) := mul_eq (by rw [pol_num (pf_below o)]; exact hc.symm)
  rw [this]
end Go.Proofs.Ytdkdainipanacaa.Alg
namespace Go.Proofs.Ytdkdainipanacaa.Alg
set_option linter.unusedSectionVars false
section
variable {R : Type} [CR R]
open Classical in
/-- one more than the degree, 0 for the zero polynomial -/
noncomputable def len (P : Poly R) : Nat := if h : P = 0 then 0 else choose (exists_top h) + 1
theorem len_zero : len (0 : Poly R) = 0 := by unfold len; rw [dif_pos rfl]
theorem len_spec {P : Poly R} (h : P ≠ 0) : ∃ n, len P = n + 1 ∧ P.below (n + 1) ∧ P.c n ≠ 0 := by
  unfold len
  rw [dif_neg h]
  exact ⟨_, rfl, Classical.choose_spec (exists_top h)⟩
theorem below_len (P : Poly R) : P.below (len P) := by
  by_cases h : P = 0
  · subst h; exact fun _ _ => rfl
  · obtain ⟨n, h1, h2, _⟩ := len_spec h
    rw [h1]; exact h2
theorem len_le {P : Poly R} {n : Nat} (h : P.below n) : len P ≤ n := by
  by_cases h0 : P = 0
  · rw [h0, len_zero]; omega
  · obtain ⟨k, h1, _, h3⟩ := len_spec h0
    rw [h1]
    exact Nat.lt_of_not_le fun hle => h3 (h k hle)
theorem len_eq {P : Poly R} {n : Nat} (h : P.below (n + 1)) (h2 : P.c n ≠ 0) : len P = n + 1 := by
  have h1 := len_le h
  refine Nat.le_antisymm h1 (Nat.lt_of_not_le fun hle => h2 (below_len P n hle))
theorem len_pos {P : Poly R} (h : P ≠ 0) : 0 < len P := by obtain ⟨n, h1, _⟩ := len_spec h; omega
theorem len_zero_iff {P : Poly R} : len P = 0 ↔ P = 0 := ⟨fun h => Classical.byContradiction fun hn => by have := len_pos hn; omega, fun h => by rw [h, len_zero]⟩
/-- the leading coefficient -/
noncomputable def lead (P : Poly R) : R := P.c (len P - 1)
theorem lead_ne {P : Poly R} (h : P ≠ 0) : lead P ≠ 0 := by
  obtain ⟨n, h1, _, h3⟩ := len_spec h
  unfold lead
  rw [h1]; exact h3
theorem lead_zero : lead (0 : Poly R) = 0 := rfl
theorem C_zero : C (0 : R) = 0 := Poly.ext fun i => by rw [C_c, zero_c]; split <;> rfl
theorem C_one : C (1 : R) = 1 := rfl
theorem C_mul (a b : R) : C a * C b = C (a * b) := Poly.ext fun i => by
  rw [C_mul_c, C_c, C_c]
  split
  · rfl
  · rw [mul_zero]
theorem C_add (a b : R) : C a + C b = C (a + b) := Poly.ext fun i => by
  rw [add_c, C_c, C_c, C_c]
  split
  · rfl
  · rw [add_zero]
theorem C_neg (a : R) : C (-a) = -C a := Poly.ext fun i => by
  rw [neg_c, C_c, C_c]
  split
  · rfl
  · rw [neg_zero]
end
section
variable {K : Type} [CR K] [Fld K]
theorem len_C_mul {a : K} (ha : a ≠ 0) (P : Poly K) : len (C a * P) = len P := by
  by_cases h : P = 0
  · rw [h, mul_zero]
  · obtain ⟨n, h1, h2, h3⟩ := len_spec h
    rw [h1]
    exact len_eq (fun i hi => by rw [C_mul_c, h2 i hi, mul_zero]) (by rw [C_mul_c]; exact mul_ne ha h3)
theorem lead_C_mul {a : K} (ha : a ≠ 0) (P : Poly K) : lead (C a * P) = a * lead P := by
  unfold lead
  rw [len_C_mul ha, C_mul_c]
theorem mul_ne_zero {P Q : Poly K} (hp : P ≠ 0) (hq : Q ≠ 0) : P * Q ≠ 0 ∧ len (P * Q) = len P + len Q - 1 ∧ lead (P * Q) = lead P * lead Q := by
  obtain ⟨m, h1, h2, h3⟩ := len_spec hp
  obtain ⟨n, k1, k2, k3⟩ := len_spec hq
  have ht := mul_top h2 k2
  have hne : (P * Q).c (m + n) ≠ 0 := by rw [ht]; exact mul_ne h3 k3
  have hl : len (P * Q) = m + n + 1 := len_eq (below_mul h2 k2 _ (by omega)) hne
  refine ⟨fun e => hne (by rw [e]; rfl), by omega, ?_⟩
  unfold lead
  rw [hl, h1, k1]
  exact ht
theorem poly_mul_zero {P Q : Poly K} (h : P * Q = 0) : P = 0 ∨ Q = 0 := by
  by_cases hp : P = 0
  · exact .inl hp
  · by_cases hq : Q = 0
    · exact .inr hq
    · exact absurd h (mul_ne_zero hp hq).1
/-- the monic multiple -/
noncomputable def monicP (P : Poly K) : Poly K := C (inv (lead P)) * P
theorem monicP_zero : monicP (0 : Poly K) = 0 := mul_zero _
theorem inv_lead_ne {P : Poly K} (h : P ≠ 0) : inv (lead P) ≠ 0 := fun e => by
  have := mul_inv (lead_ne h)
  rw [e, mul_zero] at this
  exact one_ne this.symm
theorem monicP_monic {P : Poly K} (h : P ≠ 0) : Monic (monicP P) (len P - 1) := by
  obtain ⟨n, h1, h2, h3⟩ := len_spec h
  refine ⟨fun i hi => ?_, ?_⟩
  · unfold monicP; rw [C_mul_c, h2 i (by omega), mul_zero]
  · unfold monicP; rw [C_mul_c, mul_comm]
    exact mul_inv (lead_ne h)
theorem div_any {Q : Poly K} (hQ : Q ≠ 0) (P : Poly K) : ∃ q r, P = q * Q + r ∧ r.below (len Q - 1) := by
  obtain ⟨n, hn⟩ := P.fin
  obtain ⟨q, r, h1, h2, _⟩ := div_ex (monicP_monic hQ) n P (Poly.below.mono hn (by omega))
  refine ⟨q * C (inv (lead Q)), r, ?_, h2⟩
  rw [mul_assoc]; exact h1
theorem div_uniq {Q q r q' r' : Poly K} (hQ : Q ≠ 0) (h : q * Q + r = q' * Q + r') (hr : r.below (len Q - 1)) (hr' : r'.below (len Q - 1)) : q = q' ∧ r = r' := by
  have hm := monicP_monic hQ
  have e : ∀ s : Poly K, s * Q = s * C (lead Q) * monicP Q := fun s => by
    unfold monicP
    rw [mul_assoc, ← mul_assoc (C (lead Q)), C_mul, mul_inv (lead_ne hQ), C_one, one_mul]
  rw [e, e] at h
  obtain ⟨h1, h2⟩ := div_unique hm h hr hr'
  refine ⟨?_, h2⟩
  have := congrArg (· * C (inv (lead Q))) h1
  simp only [mul_assoc, C_mul, mul_inv (lead_ne hQ), C_one, mul_one] at this
  exact this
open Classical in
noncomputable def divP (P Q : Poly K) : Poly K := if h : Q = 0 then 0 else choose (div_any h P)
open Classical in
noncomputable def modP (P Q : Poly K) : Poly K := if h : Q = 0 then P else choose (choose_spec (div_any h P))
theorem divmod_spec {Q : Poly K} (hQ : Q ≠ 0) (P : Poly K) : P = divP P Q * Q + modP P Q ∧ (modP P Q).below (len Q - 1) := by
  unfold divP modP
  rw [dif_neg hQ, dif_neg hQ]
  exact Classical.choose_spec (Classical.choose_spec (div_any hQ P))
theorem divmod_eq {P Q q r : Poly K} (hQ : Q ≠ 0) (h : P = q * Q + r) (hr : r.below (len Q - 1)) : divP P Q = q ∧ modP P Q = r := by
  obtain ⟨h1, h2⟩ := divmod_spec hQ P
  exact div_uniq hQ (h1.symm.trans h) h2 hr
theorem mod_len {Q : Poly K} (hQ : Q ≠ 0) (P : Poly K) : len (modP P Q) < len Q := by
  have h1 := len_le (divmod_spec hQ P).2
  have h2 := len_pos hQ
  omega
/-- d divides P -/
def Dvd (d P : Poly K) : Prop := ∃ k, P = k * d
theorem Dvd.refl (P : Poly K) : Dvd P P := ⟨1, (one_mul P).symm⟩
theorem Dvd.zero (P : Poly K) : Dvd P 0 := ⟨0, (zero_mul P).symm⟩
theorem Dvd.trans {a b c : Poly K} (h : Dvd a b) (h' : Dvd b c) : Dvd a c := by
  obtain ⟨k, rfl⟩ := h; obtain ⟨l, rfl⟩ := h'; exact ⟨l * k, (mul_assoc _ _ _).symm⟩
theorem Dvd.add {d a b : Poly K} (h : Dvd d a) (h' : Dvd d b) : Dvd d (a + b) := by
  obtain ⟨k, rfl⟩ := h; obtain ⟨l, rfl⟩ := h'; exact ⟨k + l, (add_mul _ _ _).symm⟩
theorem Dvd.mul {d a : Poly K} (h : Dvd d a) (b : Poly K) : Dvd d (b * a) := by
  obtain ⟨k, rfl⟩ := h; exact ⟨b * k, (mul_assoc _ _ _).symm⟩
theorem Dvd.neg {d a : Poly K} (h : Dvd d a) : Dvd d (-a) := by
  obtain ⟨k, rfl⟩ := h; exact ⟨-k, (neg_mul _ _).symm⟩
theorem Dvd.of_add {d a b : Poly K} (h : Dvd d (a + b)) (ha : Dvd d a) : Dvd d b := by
  have : b = (a + b) + -a := by rw [add_comm a b, add_assoc, add_neg, add_zero]
  rw [this]; exact h.add ha.neg
theorem Dvd.len {d P : Poly K} (h : Dvd d P) (hP : P ≠ 0) : Alg.len d ≤ Alg.len P := by
  obtain ⟨k, rfl⟩ := h
  have hk : k ≠ 0 := fun e => hP (by rw [e, zero_mul])
  have hd : d ≠ 0 := fun e => hP (by rw [e, mul_zero])
  have := (mul_ne_zero hk hd).2.1
  have := len_pos hk
  omega
theorem dvd_iff_mod {Q : Poly K} (hQ : Q ≠ 0) (P : Poly K) : Dvd Q P ↔ modP P Q = 0 := by
  constructor
  · rintro ⟨k, h⟩
    exact (divmod_eq hQ (q := k) (r := 0) (by rw [add_zero]; exact h) (fun _ _ => rfl)).2
  · intro h
    have := (divmod_spec hQ P).1
    rw [h, add_zero] at this
    exact ⟨_, this⟩
/-- two monic polynomials that divide each other are equal -/
theorem monic_dvd_eq {a b : Poly K} {m n : Nat} (ha : Monic a m) (hb : Monic b n) (h : Dvd a b) (h' : Dvd b a) : a = b := by
  have ha0 : a ≠ 0 := fun e => one_ne (K := K) (by rw [← ha.2, e]; rfl)
  have hb0 : b ≠ 0 := fun e => one_ne (K := K) (by rw [← hb.2, e]; rfl)
  have hla : Alg.len a = m + 1 := len_eq ha.1 (by rw [ha.2]; exact one_ne)
  have hlb : Alg.len b = n + 1 := len_eq hb.1 (by rw [hb.2]; exact one_ne)
  have h1 := h.len hb0
  have h2 := h'.len ha0
  have hmn : m = n := by omega
  subst hmn
  obtain ⟨k, hk⟩ := h
  have hk0 : k ≠ 0 := fun e => hb0 (by rw [hk, e, zero_mul])
  have h3 := mul_ne_zero hk0 ha0
  rw [← hk] at h3
  have hlk : Alg.len k = 1 := by have := len_pos hk0; omega
  have hkc : k = C (k.c 0) := Poly.ext fun i => by
    rw [C_c]
    by_cases hi : i = 0
    · subst hi; rw [if_pos rfl]
    · rw [if_neg hi]; exact below_len k i (by omega)
  have h4 : b.c m = k.c 0 * a.c m := by
    conv => lhs; rw [hk, hkc]
    rw [C_mul_c]
  rw [ha.2, hb.2, mul_one] at h4
  rw [hk, hkc, ← h4, C_one, one_mul]

/-- d is the monic greatest common divisor of a and b, or all three are zero -/
def IsGcd (d a b : Poly K) : Prop := Dvd d a ∧ Dvd d b ∧ (∃ u v, d = u * a + v * b) ∧ (d = 0 ∨ ∃ n, Monic d n)
theorem gcd_ex (a b : Poly K) : ∃ d, IsGcd d a b := by
  by_cases h : a = 0
  · by_cases hb : b = 0
    · exact ⟨0, by rw [h]; exact .refl 0, by rw [hb]; exact .refl 0, ⟨0, 0, by rw [zero_mul, zero_mul, add_zero]⟩, .inl rfl⟩
    · refine ⟨monicP b, by rw [h]; exact .zero _, ⟨C (lead b), ?_⟩, ⟨0, C (inv (lead b)), by rw [zero_mul, zero_add]; rfl⟩, .inr ⟨_, monicP_monic hb⟩⟩
      unfold monicP
      rw [← mul_assoc, C_mul, mul_inv (lead_ne hb), C_one, one_mul]
  · obtain ⟨n, d, u, v, h1, h2, ⟨k, hk⟩, ⟨l, hl⟩⟩ := bezout a b h
    exact ⟨d, ⟨k, hk⟩, ⟨l, hl⟩, ⟨u, v, h2⟩, .inr ⟨n, h1⟩⟩
theorem gcd_unique {d e a b : Poly K} (h : IsGcd d a b) (h' : IsGcd e a b) : d = e := by
  obtain ⟨h1, h2, ⟨u, v, h3⟩, h4⟩ := h
  obtain ⟨k1, k2, ⟨s, t, k3⟩, k4⟩ := h'
  have hed : Dvd e d := by rw [h3]; exact (k1.mul u).add (k2.mul v)
  have hde : Dvd d e := by rw [k3]; exact (h1.mul s).add (h2.mul t)
  rcases h4 with rfl | ⟨m, hm⟩
  · obtain ⟨k, hk⟩ := hde; rw [hk, mul_zero]
  · rcases k4 with rfl | ⟨n, hn⟩
    · obtain ⟨k, hk⟩ := hed; rw [hk, mul_zero]
    · exact monic_dvd_eq hm hn hde hed
noncomputable def gcdP (a b : Poly K) : Poly K := Classical.choose (gcd_ex a b)
theorem gcdP_spec (a b : Poly K) : IsGcd (gcdP a b) a b := Classical.choose_spec (gcd_ex a b)
theorem gcdP_eq {d a b : Poly K} (h : IsGcd d a b) : gcdP a b = d := gcd_unique (gcdP_spec a b) h
theorem gcdP_zero (a : Poly K) : gcdP a 0 = monicP a := by
  refine gcdP_eq ?_
  by_cases h : a = 0
  · subst h
    rw [monicP_zero]
    exact ⟨.refl 0, .refl 0, ⟨0, 0, by rw [zero_mul, add_zero]⟩, .inl rfl⟩
  · refine ⟨⟨C (lead a), ?_⟩, .zero _, ⟨C (inv (lead a)), 0, by rw [zero_mul, add_zero]; rfl⟩, .inr ⟨_, monicP_monic h⟩⟩
    unfold monicP
    rw [← mul_assoc, C_mul, mul_inv (lead_ne h), C_one, one_mul]
theorem gcdP_step (a : Poly K) {b : Poly K} (hb : b ≠ 0) : gcdP b (modP a b) = gcdP a b := by
  obtain ⟨h1, h2, ⟨u, v, h3⟩, h4⟩ := gcdP_spec a b
  have hs := (divmod_spec hb a).1
  refine gcdP_eq ⟨h2, ?_, ⟨v + u * divP a b, u, ?_⟩, h4⟩
  · exact Dvd.of_add (a := divP a b * b) (by rw [← hs]; exact h1) (h2.mul _)
  · conv => lhs; rw [h3]
    conv => lhs; rw [hs]
    rw [mul_add, add_mul, mul_assoc, add_comm (v * b) (u * (divP a b * b)), add_assoc, add_assoc, add_comm (v * b)]
theorem gcdP_comm (a b : Poly K) : gcdP a b = gcdP b a := by
  obtain ⟨h1, h2, ⟨u, v, h3⟩, h4⟩ := gcdP_spec b a
  exact gcdP_eq ⟨h2, h1, ⟨v, u, by rw [h3, add_comm]⟩, h4⟩
end
end Go.Proofs.Ytdkdainipanacaa.Alg
namespace Go.Proofs.Ytdkdainipanacaa.Alg
set_option linter.unusedSectionVars false
section
variable {R : Type} [CR R]
/-- the polynomial with the n coefficients o -/
def pO (n : Nat) (o : Nat → R) : Poly R := ⟨fun i => if i < n then o i else 0, n, fun i hi => by rw [if_neg (by omega)]⟩
theorem pO_c (n : Nat) (o : Nat → R) (i : Nat) : (pO n o).c i = if i < n then o i else 0 := rfl
theorem pO_below (n : Nat) (o : Nat → R) : (pO n o).below n := fun i hi => by rw [pO_c, if_neg (by omega)]
theorem pO_self {P : Poly R} {n : Nat} (h : P.below n) : pO n P.c = P := Poly.ext fun i => by
  rw [pO_c]
  split
  · rfl
  · exact (h i (by omega)).symm
theorem pO_zero (o : Nat → R) : pO 0 o = 0 := Poly.ext fun i => by rw [pO_c, if_neg (by omega), zero_c]
theorem pO_z0 (n : Nat) : pO n (fun _ => (0 : R)) = 0 := Poly.ext fun i => by rw [pO_c, zero_c]; split <;> rfl
theorem pO_succ (n : Nat) (o : Nat → R) : pO (n + 1) o = pO n o + mono (o n) n := Poly.ext fun i => by
  rw [add_c, pO_c, pO_c, mono_c]
  by_cases h : i = n
  · subst h; rw [if_pos (by omega), if_neg (by omega), if_pos rfl, zero_add]
  · rw [if_neg h, add_zero]
    by_cases h1 : i < n
    · rw [if_pos h1, if_pos (by omega)]
    · rw [if_neg h1, if_neg (by omega)]
theorem pO_congr {n : Nat} {o u : Nat → R} (h : ∀ i, i < n → o i = u i) : pO n o = pO n u := Poly.ext fun i => by
  rw [pO_c, pO_c]
  split
  · exact h i (by assumption)
  · rfl
theorem monoR_mono (a b : R) (m n : Nat) : mono a m * mono b n = mono (a * b) (m + n) := Poly.ext fun i => by
  rw [mono_mul_c, mono_c, mono_c]
  by_cases h : i = m + n
  · rw [if_pos (by omega), if_pos (by omega), if_pos h]
  · rw [if_neg h]
    by_cases h1 : m ≤ i
    · rw [if_pos h1, if_neg (by omega), mul_zero]
    · rw [if_neg h1]
theorem pO_set {n s : Nat} {o u : Nat → R} {e : R} (hs : s < n) (h : u s = o s + e) (h2 : ∀ i, i ≠ s → u i = o i) : pO n u = pO n o + mono e s := Poly.ext fun i => by
  rw [add_c, pO_c, pO_c, mono_c]
  by_cases hi : i = s
  · subst hi; rw [if_pos hs, if_pos hs, if_pos rfl, h]
  · rw [if_neg hi, add_zero, h2 i hi]
/-- one product of coefficients is taken in -/
theorem prod_step {n k j : Nat} {o u : Nat → R} {P Q : Poly R} (hkj : k + j < n) (h1 : u (k + j) = o (k + j) + P.c k * Q.c j) (h2 : ∀ i, i ≠ k + j → u i = o i)
    (h : pO n o = pO k P.c * Q + mono (P.c k) k * pO j Q.c) : pO n u = pO k P.c * Q + mono (P.c k) k * pO (j + 1) Q.c := by
  rw [pO_set hkj h1 h2, h, pO_succ j, mul_add, monoR_mono, add_assoc]
theorem prod_row {n k m : Nat} {o : Nat → R} {P Q : Poly R} (hm : Q.below m) (h : pO n o = pO k P.c * Q + mono (P.c k) k * pO m Q.c) :
    pO n o = pO (k + 1) P.c * Q + mono (P.c (k + 1)) (k + 1) * pO 0 Q.c := by
  rw [h, pO_zero, mul_zero, add_zero, pO_succ k, add_mul, pO_self hm]
theorem prod_start (n : Nat) (P Q : Poly R) : pO n (fun _ => (0 : R)) = pO 0 P.c * Q + mono (P.c 0) 0 * pO 0 Q.c := by
  rw [pO_z0, pO_zero, pO_zero, zero_mul, mul_zero, add_zero]
/-- the product of a constant, a power and a polynomial, taken off -/
theorem sub_set {n s d : Nat} {o u : Nat → R} {a : R} {Q : Poly R} (hQ : Q.below d) (hs : s + d ≤ n) (h : ∀ i, u i = if s ≤ i ∧ i < s + d then o i + -(a * Q.c (i - s)) else o i) :
    pO n o = mono a s * Q + pO n u := Poly.ext fun i => by
  rw [add_c, mono_mul_c, pO_c, pO_c, h i]
  by_cases hi : i < n
  · rw [if_pos hi, if_pos hi]
    by_cases h1 : s ≤ i ∧ i < s + d
    · rw [if_pos h1, if_pos h1.1, add_comm (o i), ← add_assoc, add_neg, zero_add]
    · rw [if_neg h1]
      by_cases h2 : s ≤ i
      · rw [if_pos h2, hQ _ (by omega), mul_zero, zero_add]
      · rw [if_neg h2, zero_add]
  · rw [if_neg hi, if_neg hi, add_zero]
    by_cases h2 : s ≤ i
    · rw [if_pos h2, hQ _ (by omega), mul_zero]
    · rw [if_neg h2]
end
end Go.Proofs.Ytdkdainipanacaa.Alg
namespace Go.Proofs.Ytdkdainipanacaa.Alg
set_option linter.unusedSectionVars false
set_option linter.unusedVariables false
section
variable {K : Type} [CR K] [Fld K]

/-- the combination of the first n rows of M with the coefficients a -/
def comb (n : Nat) (a : Nat → K) (M : Nat → Nat → K) (c : Nat) : K := sum (fun i => a i * M i c) n
/-- v is, in the first w places, a combination of the first n rows of M -/
def InSp (w n : Nat) (M : Nat → Nat → K) (v : Nat → K) : Prop := ∃ a : Nat → K, ∀ c, c < w → v c = comb n a M c
/-- each of the first m rows of N is in the row space of M -/
def SubSp (w m n : Nat) (N M : Nat → Nat → K) : Prop := ∀ i, i < m → InSp w n M (N i)
theorem InSp.row {w n : Nat} {M : Nat → Nat → K} {i : Nat} (hi : i < n) : InSp w n M (M i) := by
  refine ⟨fun j => if j = i then 1 else 0, fun c _ => ?_⟩
  unfold comb
  rw [sum_one (k := i) hi (fun j _ hne => by show (if j = i then (1 : K) else 0) * _ = 0; rw [if_neg hne, zero_mul])]
  show _ = (if i = i then (1 : K) else 0) * _
  rw [if_pos rfl, one_mul]
theorem InSp.zero (w n : Nat) (M : Nat → Nat → K) : InSp w n M (fun _ => 0) := ⟨fun _ => 0, fun c _ => (sum_eq_zero fun i _ => zero_mul _).symm⟩
theorem InSp.add {w n : Nat} {M : Nat → Nat → K} {u v : Nat → K} (h : InSp w n M u) (h' : InSp w n M v) : InSp w n M (fun c => u c + v c) := by
  obtain ⟨a, ha⟩ := h
  obtain ⟨b, hb⟩ := h'
  refine ⟨fun i => a i + b i, fun c hc => ?_⟩
  show u c + v c = _
  rw [ha c hc, hb c hc]
  unfold comb
  rw [← sum_add]
  exact sum_congr fun i _ => (add_mul _ _ _).symm
theorem InSp.smul {w n : Nat} {M : Nat → Nat → K} {u : Nat → K} (h : InSp w n M u) (b : K) : InSp w n M (fun c => b * u c) := by
  obtain ⟨a, ha⟩ := h
  refine ⟨fun i => b * a i, fun c hc => ?_⟩
  show b * u c = _
  rw [ha c hc]
  unfold comb
  rw [mul_sum]
  exact sum_congr fun i _ => (mul_assoc _ _ _).symm
theorem InSp.congr {w n : Nat} {M : Nat → Nat → K} {u v : Nat → K} (h : InSp w n M u) (e : ∀ c, c < w → v c = u c) : InSp w n M v := by
  obtain ⟨a, ha⟩ := h
  exact ⟨a, fun c hc => (e c hc).trans (ha c hc)⟩
theorem InSp.comb {w n m : Nat} {M : Nat → Nat → K} {N : Nat → Nat → K} {a : Nat → K} (h : SubSp w m n N M) : InSp w n M (Alg.comb m a N) := by
  induction m with
  | zero => exact (InSp.zero w n M).congr fun c _ => rfl
  | succ m ih =>
    refine ((ih fun i hi => h i (by omega)).add ((h m (by omega)).smul (a m))).congr fun c _ => ?_
    rfl
theorem InSp.trans {w n m : Nat} {M N : Nat → Nat → K} {v : Nat → K} (h : InSp w m N v) (h' : SubSp w m n N M) : InSp w n M v := by
  obtain ⟨a, ha⟩ := h
  exact (InSp.comb h').congr ha
theorem SubSp.trans {w l m n : Nat} {L N M : Nat → Nat → K} (h : SubSp w l m L N) (h' : SubSp w m n N M) : SubSp w l n L M := fun i hi => (h i hi).trans h'
theorem SubSp.refl (w n : Nat) (M : Nat → Nat → K) : SubSp w n n M M := fun _ hi => .row hi

/-- the first r rows of M are in reduced row echelon form with the pivots p -/
structure Rref (w r : Nat) (M : Nat → Nat → K) (p : Nat → Nat) : Prop where
  inc : ∀ i j, i < j → j < r → p i < p j
  lt : ∀ i, i < r → p i < w
  one : ∀ i, i < r → M i (p i) = 1
  zero : ∀ i j, i < r → j < r → j ≠ i → M j (p i) = 0
  low : ∀ i c, i < r → c < p i → M i c = 0
theorem Rref.coef {w r : Nat} {M : Nat → Nat → K} {p : Nat → Nat} (h : Rref w r M p) {v a : Nat → K} (hv : ∀ c, c < w → v c = comb r a M c) {k : Nat} (hk : k < r) : a k = v (p k) := by
  rw [hv _ (h.lt k hk)]
  unfold comb
  rw [sum_one (k := k) hk (fun j hj hne => by rw [h.zero k j hk hj hne, mul_zero]), h.one k hk, mul_one]
/-- where a vector of the row space begins, there is a pivot -/
theorem Rref.lead {w r : Nat} {M : Nat → Nat → K} {p : Nat → Nat} (h : Rref w r M p) {v : Nat → K} (hv : InSp w r M v) {q : Nat} (hq : q < w) (h0 : ∀ c, c < q → v c = 0) (h1 : v q ≠ 0) : ∃ k, k < r ∧ q = p k := by
  obtain ⟨a, ha⟩ := hv
  refine Classical.byContradiction fun hno => h1 ?_
  rw [ha q hq]
  refine sum_eq_zero fun i hi => ?_
  rcases Nat.lt_trichotomy (p i) q with hlt | heq | hgt
  · rw [h.coef ha hi, h0 _ hlt, zero_mul]
  · exact absurd ⟨i, hi, heq.symm⟩ hno
  · rw [h.low i q hi hgt, mul_zero]
theorem inc_eq {f g : Nat → Nat} {r s : Nat} (hf : ∀ i j, i < j → j < r → f i < f j) (hg : ∀ i j, i < j → j < s → g i < g j) (h1 : ∀ i, i < r → ∃ j, j < s ∧ f i = g j) (h2 : ∀ j, j < s → ∃ i, i < r ∧ g j = f i) :
    ∀ i, i < r → i < s ∧ f i = g i := by
  intro i
  induction i using Nat.strongRecOn with
  | _ i ih =>
    intro hi
    obtain ⟨j, hj, ej⟩ := h1 i hi
    have hij : i ≤ j := Nat.le_of_not_lt fun hlt => by
      have := (ih j hlt (by omega)).2
      have := hf j i hlt hi
      omega
    have his : i < s := by omega
    refine ⟨his, ?_⟩
    obtain ⟨i', hi', ei⟩ := h2 i his
    have hii : i ≤ i' := Nat.le_of_not_lt fun hlt => by
      have e1 := (ih i' hlt hi').2
      have := hg i' i hlt his
      omega
    have g1 : g i ≤ g j := by
      by_cases e : i = j
      · rw [e]; omega
      · exact Nat.le_of_lt (hg i j (by omega) hj)
    have g2 : f i ≤ f i' := by
      by_cases e : i = i'
      · rw [← e]; omega
      · exact Nat.le_of_lt (hf i i' (by omega) hi')
    omega
/-- the reduced row echelon form of a row space is one -/
theorem Rref.unique {w r s : Nat} {M N : Nat → Nat → K} {p q : Nat → Nat} (hM : Rref w r M p) (hN : Rref w s N q) (h1 : SubSp w r s M N) (h2 : SubSp w s r N M) :
    r = s ∧ (∀ i, i < r → p i = q i) ∧ ∀ i c, i < r → c < w → M i c = N i c := by
  have a1 : ∀ i, i < r → ∃ j, j < s ∧ p i = q j := fun i hi => hN.lead (h1 i hi) (hM.lt i hi) (fun c hc => hM.low i c hi hc) (by rw [hM.one i hi]; exact one_ne)
  have a2 : ∀ j, j < s → ∃ i, i < r ∧ q j = p i := fun j hj => hM.lead (h2 j hj) (hN.lt j hj) (fun c hc => hN.low j c hj hc) (by rw [hN.one j hj]; exact one_ne)
  have e1 := inc_eq hM.inc hN.inc a1 a2
  have e2 := inc_eq hN.inc hM.inc a2 a1
  have hrs : r = s := by
    rcases Nat.lt_trichotomy r s with h | h | h
    · have := (e2 r h).1; omega
    · exact h
    · have := (e1 s h).1; omega
  subst hrs
  refine ⟨rfl, fun i hi => (e1 i hi).2, fun i c hi hc => ?_⟩
  obtain ⟨a, ha⟩ := h1 i hi
  rw [ha c hc]
  unfold comb
  have hco : ∀ k, k < r → a k = if k = i then 1 else 0 := fun k hk => by
    rw [hN.coef ha hk, ← (e1 k hk).2]
    by_cases e : k = i
    · subst e; rw [if_pos rfl, hM.one k hk]
    · rw [if_neg e, hM.zero k i hk hi (Ne.symm e)]
  rw [sum_one (k := i) hi (fun j hj hne => by rw [hco j hj, if_neg hne, zero_mul]), hco i hi, if_pos rfl, one_mul]
end
end Go.Proofs.Ytdkdainipanacaa.Alg
namespace Go.Proofs.Ytdkdainipanacaa.Alg
set_option linter.unusedSectionVars false
set_option linter.unusedVariables false
section
variable {K : Type} [CR K] [Fld K]

def swapR (M : Nat → Nat → K) (i j : Nat) : Nat → Nat → K := fun k => if k = i then M j else if k = j then M i else M k
def scaleR (M : Nat → Nat → K) (i : Nat) (b : K) : Nat → Nat → K := fun k c => if k = i then b * M i c else M k c
/-- column c is cleared by row r in all other rows -/
def elimR (M : Nat → Nat → K) (r c : Nat) : Nat → Nat → K := fun i d => if i = r then M r d else M i d + -(M i c) * M r d
/-- one row space -/
def Eqv (w n : Nat) (M N : Nat → Nat → K) : Prop := SubSp w n n M N ∧ SubSp w n n N M
theorem Eqv.refl (w n : Nat) (M : Nat → Nat → K) : Eqv w n M M := ⟨.refl w n M, .refl w n M⟩
theorem Eqv.trans {w n : Nat} {L M N : Nat → Nat → K} (h : Eqv w n L M) (h' : Eqv w n M N) : Eqv w n L N := ⟨h.1.trans h'.1, h'.2.trans h.2⟩
theorem Eqv.symm {w n : Nat} {M N : Nat → Nat → K} (h : Eqv w n M N) : Eqv w n N M := ⟨h.2, h.1⟩
theorem swap_sub {w n i j : Nat} (M : Nat → Nat → K) (hi : i < n) (hj : j < n) : SubSp w n n (swapR M i j) M := fun k hk => by
  unfold swapR
  split
  · exact .row hj
  · split
    · exact .row hi
    · exact .row hk
theorem swap_swap (M : Nat → Nat → K) (i j : Nat) : swapR (swapR M i j) i j = M := funext fun k => by
  unfold swapR
  by_cases h1 : k = i
  · subst h1
    rw [if_pos rfl]
    by_cases h2 : j = k
    · rw [if_pos h2, h2]
    · rw [if_neg h2, if_pos rfl]
  · rw [if_neg h1]
    by_cases h2 : k = j
    · subst h2; rw [if_pos rfl, if_pos rfl]
    · rw [if_neg h2, if_neg h1, if_neg h2]
theorem swap_eqv {w n i j : Nat} (M : Nat → Nat → K) (hi : i < n) (hj : j < n) : Eqv w n (swapR M i j) M := ⟨swap_sub M hi hj, by
  have := swap_sub (w := w) (swapR M i j) hi hj
  rwa [swap_swap] at this⟩
theorem scale_eqv {w n i : Nat} (M : Nat → Nat → K) (hi : i < n) {b : K} (hb : b ≠ 0) : Eqv w n (scaleR M i b) M := by
  constructor
  · intro k hk
    by_cases h : k = i
    · subst h
      exact ((InSp.row (M := M) hk).smul b).congr fun c _ => by show (if k = k then _ else _) = _; rw [if_pos rfl]
    · exact (InSp.row (M := M) hk).congr fun c _ => by show (if k = i then _ else _) = _; rw [if_neg h]
  · intro k hk
    by_cases h : k = i
    · subst h
      refine ((InSp.row (M := scaleR M k b) hk).smul (inv b)).congr fun c _ => ?_
      show _ = inv b * (if k = k then _ else _)
      rw [if_pos rfl, ← mul_assoc, mul_comm (inv b), mul_inv hb, one_mul]
    · refine (InSp.row (M := scaleR M i b) hk).congr fun c _ => ?_
      show _ = (if k = i then _ else _)
      rw [if_neg h]
theorem elim_eqv {w n r c : Nat} (M : Nat → Nat → K) (hr : r < n) : Eqv w n (elimR M r c) M := by
  constructor
  · intro k hk
    by_cases h : k = r
    · subst h
      exact (InSp.row (M := M) hk).congr fun d _ => by show (if k = k then _ else _) = _; rw [if_pos rfl]
    · exact ((InSp.row (M := M) hk).add ((InSp.row (M := M) hr).smul (-(M k c)))).congr fun d _ => by show (if k = r then _ else _) = _; rw [if_neg h]
  · intro k hk
    by_cases h : k = r
    · subst h
      refine (InSp.row (M := elimR M k c) hk).congr fun d _ => ?_
      show _ = (if k = k then _ else _)
      rw [if_pos rfl]
    · refine ((InSp.row (M := elimR M r c) hk).add ((InSp.row (M := elimR M r c) hr).smul (M k c))).congr fun d _ => ?_
      show _ = (if k = r then _ else _) + M k c * (if r = r then _ else _)
      rw [if_neg h, if_pos rfl, add_assoc, ← add_mul, neg_add, zero_mul, add_zero]

/-- the columns before c are done, with r pivots -/
structure GJ (n c r : Nat) (M : Nat → Nat → K) (p : Nat → Nat) : Prop where
  rn : r ≤ n
  inc : ∀ i j, i < j → j < r → p i < p j
  lt : ∀ i, i < r → p i < c
  one : ∀ i, i < r → M i (p i) = 1
  zero : ∀ i j, i < r → j < n → j ≠ i → M j (p i) = 0
  low : ∀ i d, i < r → d < p i → M i d = 0
  rest : ∀ j d, r ≤ j → j < n → d < c → M j d = 0
theorem GJ.start (n : Nat) (M : Nat → Nat → K) (p : Nat → Nat) : GJ n 0 0 M p := ⟨Nat.zero_le _, fun i j _ h => by omega, fun i h => by omega, fun i h => by omega, fun i j h => by omega, fun i d h => by omega, fun j d _ _ h => by omega⟩
theorem GJ.skip {n c r : Nat} {M : Nat → Nat → K} {p : Nat → Nat} (h : GJ n c r M p) (h0 : ∀ k, r ≤ k → k < n → M k c = 0) : GJ n (c + 1) r M p :=
  ⟨h.rn, h.inc, fun i hi => by have := h.lt i hi; omega, h.one, h.zero, h.low, fun j d h1 h2 h3 => by
    by_cases e : d = c
    · rw [e]; exact h0 j h1 h2
    · exact h.rest j d h1 h2 (by omega)⟩
/-- the step of elimination at column c with the row k -/
noncomputable def gjR (M : Nat → Nat → K) (r k c : Nat) : Nat → Nat → K := elimR (scaleR (swapR M r k) r (inv (M k c))) r c
theorem gj_eqv {w n r k c : Nat} (M : Nat → Nat → K) (hr : r < n) (hk : k < n) (h : M k c ≠ 0) : Eqv w n (gjR M r k c) M :=
  (elim_eqv _ hr).trans ((scale_eqv _ hr (fun e => by
    have := mul_inv h
    rw [e, mul_zero] at this
    exact one_ne this.symm)).trans (swap_eqv M hr hk))
theorem GJ.step {n c r k : Nat} {M : Nat → Nat → K} {p : Nat → Nat} (h : GJ n c r M p) (hrk : r ≤ k) (hk : k < n) (h0 : M k c ≠ 0) : GJ n (c + 1) (r + 1) (gjR M r k c) (fun i => if i = r then c else p i) := by
  have hrn : r < n := by omega
  obtain ⟨S, hS⟩ : ∃ S, S = scaleR (swapR M r k) r (inv (M k c)) := ⟨_, rfl⟩
  have hg : gjR M r k c = elimR S r c := by rw [hS]; rfl
  have hSr : ∀ d, S r d = inv (M k c) * M k d := fun d => by
    rw [hS]
    show (if r = r then inv (M k c) * (swapR M r k) r d else _) = _
    rw [if_pos rfl]
    unfold swapR
    rw [if_pos rfl]
  have hSo : ∀ j d, j ≠ r → S j d = if j = k then M r d else M j d := fun j d hj => by
    rw [hS]
    show (if j = r then _ else swapR M r k j d) = _
    rw [if_neg hj]
    unfold swapR
    rw [if_neg hj]
    split <;> rfl
  have hSz : ∀ d, d < c → S r d = 0 := fun d hd => by rw [hSr, h.rest k d hrk hk hd, mul_zero]
  have hSc : S r c = 1 := by rw [hSr, mul_comm, mul_inv h0]
  have hG : ∀ j d, j ≠ r → gjR M r k c j d = S j d + -(S j c) * S r d := fun j d hj => by
    rw [hg]; show (if j = r then _ else _) = _; rw [if_neg hj]
  have hGr : ∀ d, gjR M r k c r d = S r d := fun d => by rw [hg]; show (if r = r then _ else _) = _; rw [if_pos rfl]
  have hold : ∀ j d, j ≠ r → d < c → gjR M r k c j d = S j d := fun j d hj hd => by rw [hG j d hj, hSz d hd, mul_zero, add_zero]
  refine ⟨by omega, fun i j hij hj => ?_, fun i hi => ?_, fun i hi => ?_, fun i j hi hj hji => ?_, fun i d hi hd => ?_, fun j d hj1 hj2 hd => ?_⟩
  · rw [if_neg (show i ≠ r by omega)]
    by_cases e : j = r
    · rw [if_pos e]; exact h.lt i (by omega)
    · rw [if_neg e]; exact h.inc i j hij (by omega)
  · split
    · omega
    · have := h.lt i (by omega); omega
  · by_cases e : i = r
    · subst e; rw [if_pos rfl, hGr, hSc]
    · rw [if_neg e, hold i _ e (h.lt i (by omega)), hSo i _ e, if_neg (by omega)]
      exact h.one i (by omega)
  · by_cases e : i = r
    · subst e
      rw [if_pos rfl, hG j c hji, hSc, mul_one, add_neg]
    · have hlt := h.lt i (by omega)
      rw [if_neg e]
      by_cases e2 : j = r
      · subst e2; rw [hGr, hSz _ hlt]
      · rw [hold j _ e2 hlt, hSo j _ e2]
        split
        · exact h.zero i r (by omega) hrn (Ne.symm e)
        · exact h.zero i j (by omega) hj hji
  · skip
    by_cases e : i = r
    · subst e
      rw [if_pos rfl] at hd
      rw [hGr, hSz d hd]
    · rw [if_neg e] at hd
      have hlt := h.lt i (by omega)
      rw [hold i d e (by omega), hSo i d e, if_neg (by omega)]
      exact h.low i d (by omega) hd
  · have e : j ≠ r := by omega
    by_cases e2 : d = c
    · rw [e2, hG j c e, hSc, mul_one, add_neg]
    · rw [hold j d e (by omega), hSo j d e]
      split
      · exact h.rest r d (Nat.le_refl _) hrn (by omega)
      · exact h.rest j d (by omega) hj2 (by omega)
/-- at the end: the first r rows are in reduced row echelon form, the others are zero -/
theorem GJ.rref {n c r w : Nat} {M : Nat → Nat → K} {p : Nat → Nat} (h : GJ n c r M p) (hc : c ≤ w) (hend : c = w ∨ r = n) : Rref w r M p ∧ SubSp w n r M M ∧ SubSp w r n M M := by
  refine ⟨⟨h.inc, fun i hi => by have := h.lt i hi; omega, h.one, fun i j hi hj hne => h.zero i j hi (by have := h.rn; omega) hne, h.low⟩, fun i hi => ?_, fun i hi => .row (by have := h.rn; omega)⟩
  by_cases hir : i < r
  · exact .row hir
  · refine (InSp.zero w r M).congr fun d hd => ?_
    rcases hend with e | e
    · exact h.rest i d (by omega) hi (by omega)
    · omega
end
end Go.Proofs.Ytdkdainipanacaa.Alg
namespace Go.Proofs.Ytdkdainipanacaa.Alg
set_option linter.unusedSectionVars false
set_option linter.unusedVariables false
section
variable {K : Type} [CR K] [Fld K]

/-- x^n - 1 -/
def xn (n : Nat) : Poly K := mono 1 n + -1
theorem xn_c (n i : Nat) : (xn n : Poly K).c i = (if i = n then 1 else 0) + -(if i = 0 then 1 else 0) := by
  show (mono 1 n + -1 : Poly K).c i = _
  rw [add_c, neg_c, mono_c, one_c]
theorem xn_monic {n : Nat} (h : 0 < n) : Monic (xn n : Poly K) n := by
  constructor
  · intro i hi
    rw [xn_c, if_neg (by omega), if_neg (by omega), neg_zero, add_zero]
  · rw [xn_c, if_pos rfl, if_neg (by omega), neg_zero, add_zero]
theorem xn_ne {n : Nat} (h : 0 < n) : (xn n : Poly K) ≠ 0 := fun e => by
  have := (xn_monic (K := K) h).2
  rw [e, zero_c] at this
  exact one_ne this.symm
theorem xn_len {n : Nat} (h : 0 < n) : len (xn n : Poly K) = n + 1 := len_eq (xn_monic h).1 (by rw [(xn_monic h).2]; exact one_ne)
theorem mod_below {n : Nat} (h : 0 < n) (P : Poly K) : (modP P (xn n)).below n := by
  have := (divmod_spec (xn_ne (K := K) h) P).2
  rwa [xn_len h, Nat.add_sub_cancel] at this
theorem mod_cong {n : Nat} (h : 0 < n) (P : Poly K) : Cong (xn n) P (modP P (xn n)) := ⟨_, (divmod_spec (xn_ne h) P).1⟩
theorem mod_of_cong {n : Nat} (h : 0 < n) {P R : Poly K} (hc : Cong (xn n) P R) (hb : R.below n) : modP P (xn n) = R := by
  obtain ⟨k, hk⟩ := hc
  exact (divmod_eq (xn_ne h) hk (by rw [xn_len h, Nat.add_sub_cancel]; exact hb)).2
theorem cong_mono {n : Nat} (h : 0 < n) (a : K) (t : Nat) : Cong (xn n) (mono a t) (mono a (t % n)) := by
  induction t using Nat.strongRecOn with
  | _ t ih =>
    by_cases ht : t < n
    · rw [Nat.mod_eq_of_lt ht]; exact .refl _ _
    · have e1 : (mono a t : Poly K) = mono a (t - n) * xn n + mono a (t - n) := by
        show _ = mono a (t - n) * (mono 1 n + -1) + mono a (t - n)
        rw [mul_add, monoR_mono, mul_one, show t - n + n = t by omega, mul_neg, mul_one, add_assoc, neg_add, add_zero]
      rw [Nat.mod_eq_sub_mod (by omega)]
      exact Cong.trans ⟨_, e1⟩ (ih (t - n) (by omega))
theorem mod_add {n : Nat} (h : 0 < n) (A B : Poly K) : modP (A + B) (xn n) = modP A (xn n) + modP B (xn n) :=
  mod_of_cong h ((mod_cong h A).add (mod_cong h B)) (below_add (mod_below h A) (mod_below h B))
theorem mod_zero {n : Nat} (h : 0 < n) : modP (0 : Poly K) (xn n) = 0 := mod_of_cong h (.refl _ _) (below_zero.mono (Nat.zero_le _))
theorem mod_mono_mul {n : Nat} (h : 0 < n) (a : K) (t : Nat) (P : Poly K) : modP (mono a t * P) (xn n) = C a * modP (mono 1 (t % n) * P) (xn n) := by
  refine mod_of_cong h ?_ ?_
  · have h1 := (cong_mono h a t).mul (Cong.refl (xn n) P)
    refine h1.trans ?_
    have h2 := (Cong.refl (xn n) (C a)).mul (mod_cong h (mono 1 (t % n) * P))
    have e : C a * (mono 1 (t % n) * P) = mono a (t % n) * P := by
      rw [← mul_assoc]
      congr 1
      refine Poly.ext fun i => ?_
      rw [C_mul_c, mono_c, mono_c]
      split
      · rw [mul_one]
      · rw [mul_zero]
    rwa [e] at h2
  · intro i hi
    rw [C_mul_c, mod_below h _ i hi, mul_zero]

/-- the row of x^i P -/
def shR (P : Poly K) (i j : Nat) : K := if i ≤ j then P.c (j - i) else 0
/-- the row of x^i P modulo x^n - 1 -/
noncomputable def wrR (n : Nat) (P : Poly K) (i : Nat) : Nat → K := (modP (mono 1 i * P) (xn n)).c
/-- all multiples of P are in the span of the words x^i P -/
theorem mul_in_words {n : Nat} (h : 0 < n) (P : Poly K) (W : Poly K) : InSp n n (wrR n P) (modP (W * P) (xn n)).c := by
  have key : ∀ N, InSp n n (wrR n P) (modP (pO N W.c * P) (xn n)).c := by
    intro N
    induction N with
    | zero =>
      rw [pO_zero, zero_mul, mod_zero h]
      exact (InSp.zero n n _).congr fun c _ => zero_c c
    | succ N ih =>
      rw [pO_succ, add_mul, mod_add h, mod_mono_mul h]
      refine (ih.add ((InSp.row (M := wrR n P) (Nat.mod_lt N h)).smul (W.c N))).congr fun c _ => ?_
      rw [add_c, C_mul_c]
      rfl
  have := key (len W)
  rwa [pO_self (below_len W)] at this
theorem mul_in_shifts {k w : Nat} (g A : Poly K) (hA : A.below k) : InSp w k (shR g) (A * g).c := by
  refine ⟨A.c, fun c _ => ?_⟩
  unfold comb
  rw [mul_c]
  have e1 : sum (fun i => A.c i * g.c (c - i)) (c + 1) = sum (fun i => A.c i * shR g i c) (c + 1) := sum_congr fun i hi => by unfold shR; rw [if_pos (by omega)]
  rw [e1]
  by_cases hk : k ≤ c + 1
  · exact sum_ext hk fun i h1 h2 => by rw [hA i h1, zero_mul]
  · exact (sum_ext (by omega) fun i h1 h2 => by unfold shR; rw [if_neg (by omega), mul_zero]).symm
theorem shR_mono (g : Poly K) (i : Nat) : (mono 1 i * g).c = shR g i := funext fun j => by
  rw [mono_mul_c]
  unfold shR
  split
  · rw [one_mul]
  · rfl
/-- the multiples of P modulo x^n - 1 are those of the greatest common divisor -/
theorem cyc_span {n : Nat} (h : 0 < n) (P : Poly K) : SubSp n (n + 1 - len (gcdP P (xn n))) n (shR (gcdP P (xn n))) (wrR n P) ∧ SubSp n n (n + 1 - len (gcdP P (xn n))) (wrR n P) (shR (gcdP P (xn n))) := by
  obtain ⟨hd1, hd2, ⟨u, v, huv⟩, _⟩ := gcdP_spec P (xn n : Poly K)
  generalize gcdP P (xn n) = g at *
  have hg0 : g ≠ 0 := fun e => by
    obtain ⟨k, hk⟩ := hd2
    rw [e, mul_zero] at hk
    exact xn_ne h hk
  constructor
  · intro i hi
    have hb : (mono 1 i * g).below n := fun j hj => by
      rw [shR_mono]
      unfold shR
      rw [if_pos (by omega)]
      exact below_len g _ (by omega)
    have hm : modP ((mono 1 i * u) * P) (xn n) = mono 1 i * g := by
      refine mod_of_cong h ?_ hb
      refine Cong.symm ⟨mono 1 i * v, ?_⟩
      rw [huv, mul_add, mul_assoc, mul_assoc, add_comm]
    have := mul_in_words h P (mono 1 i * u)
    rw [hm, shR_mono] at this
    exact this
  · intro t ht
    obtain ⟨k1, e1⟩ := hd1
    obtain ⟨k2, e2⟩ := hd2
    have hR := (divmod_spec (xn_ne (K := K) h) (mono 1 t * P)).1
    have hdv : Dvd g (modP (mono 1 t * P) (xn n)) := by
      refine Dvd.of_add (a := divP (mono 1 t * P) (xn n) * xn n) ?_ ⟨divP (mono 1 t * P) (xn n) * k2, by rw [mul_assoc, ← e2]⟩
      rw [← hR]
      exact ⟨mono 1 t * k1, by rw [mul_assoc, ← e1]⟩
    obtain ⟨A, hA⟩ := hdv
    have hAb : A.below (n + 1 - len g) := by
      by_cases hA0 : A = 0
      · rw [hA0]; exact below_zero.mono (Nat.zero_le _)
      · have h1 := (mul_ne_zero hA0 hg0).2.1
        have h2 := len_le (mod_below h (mono 1 t * P))
        rw [hA, h1] at h2
        have := len_pos hg0
        exact (below_len A).mono (by omega)
    have := mul_in_shifts (w := n) g A hAb
    rw [← hA] at this
    exact this
/-- a word of length n whose polynomial is a multiple of g is in the span of the shifts of g -/
theorem dvd_in_shifts {n : Nat} {g R : Poly K} (hg0 : g ≠ 0) (hR : R.below n) (hd : Dvd g R) : InSp n (n + 1 - len g) (shR g) R.c := by
  obtain ⟨A, hA⟩ := hd
  have hAb : A.below (n + 1 - len g) := by
    by_cases hA0 : A = 0
    · rw [hA0]; exact below_zero.mono (Nat.zero_le _)
    · have h1 := (mul_ne_zero hA0 hg0).2.1
      have h2 := len_le hR
      rw [hA, h1] at h2
      have := len_pos hg0
      exact (below_len A).mono (by omega)
  have := mul_in_shifts (w := n) g A hAb
  rw [← hA] at this
  exact this
/-- the sum of the coefficients by their exponents modulo n -/
noncomputable def fldW (n : Nat) (P : Poly K) : Nat → Poly K
  | 0 => 0
  | i + 1 => fldW n P i + mono (P.c i) (i % n)
theorem fldW_below {n : Nat} (h : 0 < n) (P : Poly K) : ∀ i, (fldW n P i).below n
  | 0 => below_zero.mono (Nat.zero_le _)
  | i + 1 => below_add (fldW_below h P i) fun j hj => by
    rw [mono_c, if_neg (by have := Nat.mod_lt i h; omega)]
theorem fldW_cong {n : Nat} (h : 0 < n) (P : Poly K) : ∀ i, Cong (xn n) (pO i P.c) (fldW n P i)
  | 0 => by rw [pO_zero]; exact .refl _ _
  | i + 1 => by rw [pO_succ]; exact (fldW_cong h P i).add (cong_mono h _ _)
theorem fldW_mod {n N : Nat} (h : 0 < n) {P : Poly K} (hP : P.below N) : fldW n P N = modP P (xn n) := by
  have := fldW_cong h P N
  rw [pO_self hP] at this
  exact (mod_of_cong h this (fldW_below h P N)).symm
end
end Go.Proofs.Ytdkdainipanacaa.Alg
