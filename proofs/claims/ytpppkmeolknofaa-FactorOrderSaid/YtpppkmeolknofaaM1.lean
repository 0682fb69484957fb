/- Commutative rings and fields, finite sums, polynomials over a ring: plain algebra. No condition. -/
namespace Go.Proofs.Ytpppkmeolknofaa.Alg

class CR (R : Type) extends Add R, Mul R, Neg R, Zero R, One R where
  add_assoc : ∀ a b c : R, a + b + c = a + (b + c)
  add_comm : ∀ a b : R, a + b = b + a
  zero_add : ∀ a : R, 0 + a = a
  neg_add : ∀ a : R, -a + a = 0
  mul_assoc : ∀ a b c : R, a * b * c = a * (b * c)
  mul_comm : ∀ a b : R, a * b = b * a
  one_mul : ∀ a : R, 1 * a = a
  mul_add : ∀ a b c : R, a * (b + c) = a * b + a * c

class Fld (K : Type) [CR K] : Prop where
  inv_ex : ∀ a : K, a ≠ 0 → ∃ b, a * b = 1
  one_ne : (1 : K) ≠ 0

section ring
variable {R : Type} [CR R]

theorem add_assoc (a b c : R) : a + b + c = a + (b + c) := CR.add_assoc a b c
theorem add_comm (a b : R) : a + b = b + a := CR.add_comm a b
theorem zero_add (a : R) : 0 + a = a := CR.zero_add a
theorem add_zero (a : R) : a + 0 = a := by rw [add_comm, zero_add]
theorem neg_add (a : R) : -a + a = 0 := CR.neg_add a
theorem add_neg (a : R) : a + -a = 0 := by rw [add_comm, neg_add]
theorem mul_assoc (a b c : R) : a * b * c = a * (b * c) := CR.mul_assoc a b c
theorem mul_comm (a b : R) : a * b = b * a := CR.mul_comm a b
theorem one_mul (a : R) : 1 * a = a := CR.one_mul a
theorem mul_one (a : R) : a * 1 = a := by rw [mul_comm, one_mul]
theorem mul_add (a b c : R) : a * (b + c) = a * b + a * c := CR.mul_add a b c
theorem add_mul (a b c : R) : (a + b) * c = a * c + b * c := by rw [mul_comm, mul_add, mul_comm c a, mul_comm c b]

instance : Std.Associative (α := R) (· + ·) := ⟨add_assoc⟩
instance : Std.Commutative (α := R) (· + ·) := ⟨add_comm⟩
instance : Std.Associative (α := R) (· * ·) := ⟨mul_assoc⟩
instance : Std.Commutative (α := R) (· * ·) := ⟨mul_comm⟩

theorem add_left_cancel {a b c : R} (h : a + b = a + c) : b = c := by
  have : -a + (a + b) = -a + (a + c) := by rw [h]
  rwa [← add_assoc, ← add_assoc, neg_add, zero_add, zero_add] at this
theorem add_right_cancel {a b c : R} (h : b + a = c + a) : b = c := add_left_cancel (a := a) (by rw [add_comm a b, add_comm a c, h])
theorem mul_zero (a : R) : a * 0 = 0 := by
  apply add_left_cancel (a := a * 0)
  rw [← mul_add, add_zero, add_zero]
theorem zero_mul (a : R) : 0 * a = 0 := by rw [mul_comm, mul_zero]
theorem neg_unique {a b : R} (h : a + b = 0) : b = -a := by apply add_left_cancel (a := a); rw [h, add_neg]
theorem neg_zero : -(0 : R) = 0 := (neg_unique (by rw [add_zero])).symm
theorem neg_neg (a : R) : - -a = a := (neg_unique (neg_add a)).symm
theorem neg_mul (a b : R) : -a * b = -(a * b) := neg_unique (by rw [← add_mul, add_neg, zero_mul])
theorem mul_neg (a b : R) : a * -b = -(a * b) := by rw [mul_comm, neg_mul, mul_comm]
theorem neg_distrib (a b : R) : -(a + b) = -a + -b := (neg_unique (by
  rw [show a + b + (-a + -b) = (a + -a) + (b + -b) by ac_rfl, add_neg, add_neg, add_zero])).symm
theorem add_eq_zero {a b : R} (h : a + -b = 0) : a = b := by
  apply add_right_cancel (a := -b); rw [h, add_neg]

def sub (a b : R) : R := a + -b
theorem sub_self (a : R) : sub a a = 0 := add_neg a
theorem eq_of_sub {a b : R} (h : sub a b = 0) : a = b := add_eq_zero h
theorem sub_add (a b : R) : sub a b + b = a := by unfold sub; rw [add_assoc, neg_add, add_zero]

/-- the sum of f 0, .., f (n - 1) -/
def sum (f : Nat → R) : Nat → R
  | 0 => 0
  | n + 1 => sum f n + f n

theorem sum_congr {f g : Nat → R} {n : Nat} (h : ∀ i, i < n → f i = g i) : sum f n = sum g n := by
  induction n with
  | zero => rfl
  | succ n ih => simp only [sum]; rw [ih (fun i hi => h i (by omega)), h n (by omega)]
theorem sum_zero (n : Nat) : sum (fun _ => (0 : R)) n = 0 := by
  induction n with
  | zero => rfl
  | succ n ih => simp only [sum]; rw [ih, add_zero]
theorem sum_eq_zero {f : Nat → R} {n : Nat} (h : ∀ i, i < n → f i = 0) : sum f n = 0 := by rw [sum_congr h, sum_zero]
theorem sum_add (f g : Nat → R) (n : Nat) : sum (fun i => f i + g i) n = sum f n + sum g n := by
  induction n with
  | zero => simp only [sum]; rw [add_zero]
  | succ n ih => simp only [sum]; rw [ih]; ac_rfl
theorem sum_neg (f : Nat → R) (n : Nat) : sum (fun i => -f i) n = -sum f n := by
  induction n with
  | zero => simp only [sum]; rw [neg_zero]
  | succ n ih => simp only [sum]; rw [ih, neg_distrib]
theorem mul_sum (a : R) (f : Nat → R) (n : Nat) : a * sum f n = sum (fun i => a * f i) n := by
  induction n with
  | zero => exact mul_zero a
  | succ n ih => simp only [sum]; rw [mul_add, ih]
theorem sum_mul (f : Nat → R) (a : R) (n : Nat) : sum f n * a = sum (fun i => f i * a) n := by
  rw [mul_comm, mul_sum]; exact sum_congr fun i _ => mul_comm _ _
theorem sum_front (f : Nat → R) (n : Nat) : sum f (n + 1) = f 0 + sum (fun i => f (i + 1)) n := by
  induction n with
  | zero => simp only [sum]; rw [zero_add, add_zero]
  | succ n ih =>
    have : sum f (n + 1 + 1) = sum f (n + 1) + f (n + 1) := rfl
    rw [this, ih]
    simp only [sum]
    rw [add_assoc]
theorem sum_reflect (f : Nat → R) (n : Nat) : sum f (n + 1) = sum (fun i => f (n - i)) (n + 1) := by
  induction n generalizing f with
  | zero => rfl
  | succ n ih =>
    rw [sum_front f, ih]
    have : sum (fun i => f (n + 1 - i)) (n + 1 + 1) = sum (fun i => f (n + 1 - i)) (n + 1) + f (n + 1 - (n + 1)) := rfl
    rw [this, Nat.sub_self, add_comm]
    congr 1
    exact sum_congr fun i hi => by congr 1; omega
theorem sum_split (f : Nat → R) (m n : Nat) : sum f (m + n) = sum f m + sum (fun i => f (m + i)) n := by
  induction n with
  | zero => simp only [sum]; rw [add_zero]; rfl
  | succ n ih => rw [← Nat.add_assoc]; simp only [sum]; rw [ih, add_assoc]
theorem sum_ext {f : Nat → R} {m n : Nat} (hmn : m ≤ n) (h : ∀ i, m ≤ i → i < n → f i = 0) : sum f n = sum f m := by
  obtain ⟨k, rfl⟩ := Nat.exists_eq_add_of_le hmn
  have h0 : sum (fun i => f (m + i)) k = 0 := sum_eq_zero fun i hi => h _ (by omega) (by omega)
  rw [sum_split, h0, add_zero]
theorem sum_one {f : Nat → R} {n k : Nat} (hk : k < n) (h : ∀ i, i < n → i ≠ k → f i = 0) : sum f n = f k := by
  have h1 : sum f n = sum f (k + 1) := sum_ext (by omega) fun i h1 h2 => h i h2 (by omega)
  rw [h1]
  show sum f k + f k = f k
  rw [sum_eq_zero (fun i hi => h i (by omega) (by omega)), zero_add]
theorem sum_swap (f : Nat → Nat → R) (m n : Nat) : sum (fun i => sum (fun j => f i j) n) m = sum (fun j => sum (fun i => f i j) m) n := by
  induction m with
  | zero => simp only [sum]; rw [sum_zero]
  | succ m ih => simp only [sum]; rw [ih, ← sum_add]
/-- over the pairs below the diagonal -/
theorem sum_tri (f : Nat → Nat → R) (n : Nat) : sum (fun i => sum (fun j => f j (i - j)) (i + 1)) (n + 1) = sum (fun j => sum (fun k => f j k) (n - j + 1)) (n + 1) := by
  induction n with
  | zero => rfl
  | succ n ih =>
    have h1 : sum (fun i => sum (fun j => f j (i - j)) (i + 1)) (n + 1 + 1) = sum (fun i => sum (fun j => f j (i - j)) (i + 1)) (n + 1) + sum (fun j => f j (n + 1 - j)) (n + 1 + 1) := rfl
    have h2 : sum (fun j => sum (fun k => f j k) (n + 1 - j + 1)) (n + 1 + 1) = sum (fun j => sum (fun k => f j k) (n + 1 - j + 1)) (n + 1) + sum (fun k => f (n + 1) k) (n + 1 - (n + 1) + 1) := rfl
    rw [h1, h2, ih]
    have h3 : sum (fun j => sum (fun k => f j k) (n + 1 - j + 1)) (n + 1) = sum (fun j => sum (fun k => f j k) (n - j + 1)) (n + 1) + sum (fun j => f j (n + 1 - j)) (n + 1) := by
      rw [← sum_add]
      refine sum_congr fun j hj => ?_
      have e : n + 1 - j + 1 = (n - j + 1) + 1 := by omega
      rw [e]
      show _ + f j (n - j + 1) = _
      congr 2; omega
    rw [h3]
    have h4 : sum (fun j => f j (n + 1 - j)) (n + 1 + 1) = sum (fun j => f j (n + 1 - j)) (n + 1) + f (n + 1) (n + 1 - (n + 1)) := rfl
    have h5 : sum (fun k => f (n + 1) k) (n + 1 - (n + 1) + 1) = f (n + 1) 0 := by rw [Nat.sub_self]; simp only [sum]; rw [zero_add]
    rw [h4, h5, Nat.sub_self, add_assoc]

end ring

/-- a polynomial: coefficients that end -/
structure Poly (R : Type) [CR R] where
  c : Nat → R
  fin : ∃ n, ∀ i, n ≤ i → c i = 0

section poly
variable {R : Type} [CR R]

theorem Poly.ext {p q : Poly R} (h : ∀ i, p.c i = q.c i) : p = q := by
  cases p; cases q
  congr
  exact funext h

/-- all coefficients from n on are zero -/
def Poly.below (p : Poly R) (n : Nat) : Prop := ∀ i, n ≤ i → p.c i = 0
theorem Poly.below.mono {p : Poly R} {m n : Nat} (h : p.below m) (hmn : m ≤ n) : p.below n := fun i hi => h i (by omega)

instance : Zero (Poly R) := ⟨⟨fun _ => 0, 0, fun _ _ => rfl⟩⟩
instance : Add (Poly R) := ⟨fun p q => ⟨fun i => p.c i + q.c i, by
  obtain ⟨m, hm⟩ := p.fin; obtain ⟨n, hn⟩ := q.fin
  exact ⟨max m n, fun i hi => by rw [hm i (by omega), hn i (by omega), add_zero]⟩⟩⟩
instance : Neg (Poly R) := ⟨fun p => ⟨fun i => -p.c i, by
  obtain ⟨m, hm⟩ := p.fin
  exact ⟨m, fun i hi => by rw [hm i hi, neg_zero]⟩⟩⟩
theorem conv_zero {f g : Nat → R} {m n : Nat} (hf : ∀ i, m ≤ i → f i = 0) (hg : ∀ i, n ≤ i → g i = 0) (k : Nat) (hk : m + n ≤ k + 1) : sum (fun i => f i * g (k - i)) (k + 1) = 0 := by
  refine sum_eq_zero fun i hi => ?_
  by_cases h : m ≤ i
  · rw [hf i h, zero_mul]
  · rw [hg (k - i) (by omega), mul_zero]
instance : Mul (Poly R) := ⟨fun p q => ⟨fun k => sum (fun i => p.c i * q.c (k - i)) (k + 1), by
  obtain ⟨m, hm⟩ := p.fin; obtain ⟨n, hn⟩ := q.fin
  exact ⟨m + n, fun k hk => conv_zero hm hn k (by omega)⟩⟩⟩
/-- the constant a -/
def C (a : R) : Poly R := ⟨fun i => if i = 0 then a else 0, 1, fun i hi => by rw [if_neg (by omega)]⟩
instance : One (Poly R) := ⟨C 1⟩

theorem zero_c (i : Nat) : (0 : Poly R).c i = 0 := rfl
theorem add_c (p q : Poly R) (i : Nat) : (p + q).c i = p.c i + q.c i := rfl
theorem neg_c (p : Poly R) (i : Nat) : (-p).c i = -p.c i := rfl
theorem mul_c (p q : Poly R) (k : Nat) : (p * q).c k = sum (fun i => p.c i * q.c (k - i)) (k + 1) := rfl
theorem C_c (a : R) (i : Nat) : (C a).c i = if i = 0 then a else 0 := rfl
theorem one_c (i : Nat) : (1 : Poly R).c i = if i = 0 then 1 else 0 := rfl

theorem C_mul_c (a : R) (p : Poly R) (k : Nat) : (C a * p).c k = a * p.c k := by
  rw [mul_c, sum_one (k := 0) (by omega) (fun i _ hi => by rw [C_c, if_neg hi, zero_mul]), C_c, if_pos rfl, Nat.sub_zero]

instance : CR (Poly R) where
  add_assoc a b c := Poly.ext fun i => add_assoc _ _ _
  add_comm a b := Poly.ext fun i => add_comm _ _
  zero_add a := Poly.ext fun i => zero_add _
  neg_add a := Poly.ext fun i => neg_add _
  mul_assoc a b c := Poly.ext fun n => by
    rw [mul_c, mul_c]
    have h1 : sum (fun i => (a * b).c i * c.c (n - i)) (n + 1) = sum (fun i => sum (fun j => a.c j * b.c (i - j) * c.c (n - j - (i - j))) (i + 1)) (n + 1) := by
      refine sum_congr fun i hi => ?_
      rw [mul_c, sum_mul]
      refine sum_congr fun j hj => ?_
      congr 2; omega
    have h2 := sum_tri (fun j k => a.c j * b.c k * c.c (n - j - k)) n
    rw [h1, h2]
    refine sum_congr fun j hj => ?_
    rw [mul_c, mul_sum]
    exact sum_congr fun k hk => mul_assoc _ _ _
  mul_comm a b := Poly.ext fun n => by
    rw [mul_c, mul_c, sum_reflect]
    refine sum_congr fun i hi => ?_
    rw [mul_comm]
    congr 2; omega
  one_mul a := Poly.ext fun n => by
    show (C 1 * a).c n = a.c n
    rw [C_mul_c, one_mul]
  mul_add a b c := Poly.ext fun n => by
    rw [add_c, mul_c, mul_c, mul_c, ← sum_add]
    exact sum_congr fun i _ => mul_add _ _ _

/-- a times x to the power of n -/
def mono (a : R) (n : Nat) : Poly R := ⟨fun i => if i = n then a else 0, n + 1, fun i hi => by rw [if_neg (by omega)]⟩
theorem mono_c (a : R) (n i : Nat) : (mono a n).c i = if i = n then a else 0 := rfl
theorem mono_mul_c (a : R) (n : Nat) (p : Poly R) (k : Nat) : (mono a n * p).c k = if n ≤ k then a * p.c (k - n) else 0 := by
  rw [mul_c]
  by_cases h : n ≤ k
  · rw [if_pos h, sum_one (k := n) (by omega) (fun i _ hi => by rw [mono_c, if_neg hi, zero_mul]), mono_c, if_pos rfl]
  · rw [if_neg h]
    exact sum_eq_zero fun i hi => by rw [mono_c, if_neg (by omega), zero_mul]

theorem below_add {p q : Poly R} {n : Nat} (hp : p.below n) (hq : q.below n) : (p + q).below n := fun i hi => by rw [add_c, hp i hi, hq i hi, add_zero]
theorem below_neg {p : Poly R} {n : Nat} (hp : p.below n) : (-p).below n := fun i hi => by rw [neg_c, hp i hi, neg_zero]
theorem below_mul {p q : Poly R} {m n : Nat} (hp : p.below m) (hq : q.below n) (k : Nat) (hk : m + n ≤ k + 1) : (p * q).below k := fun i hi => by
  rw [mul_c]; exact conv_zero hp hq i (by omega)
theorem below_zero : (0 : Poly R).below 0 := fun _ _ => rfl
theorem eq_zero_of_below {p : Poly R} (h : p.below 0) : p = 0 := Poly.ext fun i => h i (Nat.zero_le _)
/-- the highest coefficient of a product -/
theorem mul_top {p q : Poly R} {m n : Nat} (hp : p.below (m + 1)) (hq : q.below (n + 1)) : (p * q).c (m + n) = p.c m * q.c n := by
  rw [mul_c, sum_one (k := m) (by omega), show m + n - m = n by omega]
  intro i hi hne
  by_cases h : m < i
  · rw [hp i (by omega), zero_mul]
  · rw [hq (m + n - i) (by omega), mul_zero]
end poly

end Go.Proofs.Ytpppkmeolknofaa.Alg
