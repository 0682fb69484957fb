/- Values and roots of polynomials; the powers of a primitive element of a finite field: plain algebra. Condition: at most 256 elements. -/
import Derived.Test.YtpppkmeolknofaaM2
namespace Go.Proofs.Ytpppkmeolknofaa.Alg
set_option linter.unusedSectionVars false

section eval
variable {R : Type} [CR R]
open Classical in
/-- the value of p at x -/
noncomputable def ev (p : Poly R) (x : R) : R := sum (fun i => p.c i * pw x i) (choose p.fin)
theorem ev_eq {p : Poly R} {n : Nat} (h : p.below n) (x : R) : ev p x = sum (fun i => p.c i * pw x i) n := by
  have hs := Classical.choose_spec p.fin
  unfold ev
  rcases Nat.le_total n (Classical.choose p.fin) with hn | hn
  · exact sum_ext hn fun i h1 _ => by rw [h i h1, zero_mul]
  · exact (sum_ext hn fun i h1 _ => by rw [hs i h1, zero_mul]).symm
theorem ev_add (p q : Poly R) (x : R) : ev (p + q) x = ev p x + ev q x := by
  obtain ⟨m, hm⟩ := p.fin; obtain ⟨n, hn⟩ := q.fin
  have hm' : p.below (max m n) := Poly.below.mono hm (by omega)
  have hn' : q.below (max m n) := Poly.below.mono hn (by omega)
  rw [ev_eq (below_add hm' hn'), ev_eq hm', ev_eq hn', ← sum_add]
  exact sum_congr fun i _ => by rw [add_c, add_mul]
theorem ev_mul (p q : Poly R) (x : R) : ev (p * q) x = ev p x * ev q x := by
  obtain ⟨m, hm⟩ := p.fin; obtain ⟨n, hn⟩ := q.fin
  have hb : (p * q).below (m + n + 1) := below_mul hm hn _ (by omega)
  have h1 : ev (p * q) x = sum (fun k => sum (fun j => p.c j * pw x j * (q.c (k - j) * pw x (k - j))) (k + 1)) (m + n + 1) := by
    rw [ev_eq hb]
    refine sum_congr fun k _ => ?_
    rw [mul_c, sum_mul]
    refine sum_congr fun j hj => ?_
    have e : pw x k = pw x j * pw x (k - j) := by rw [← pw_add]; congr 1; omega
    rw [e]; ac_rfl
  rw [h1, sum_tri (fun j k => p.c j * pw x j * (q.c k * pw x k)) (m + n)]
  have h2 : sum (fun j => sum (fun k => p.c j * pw x j * (q.c k * pw x k)) (m + n - j + 1)) (m + n + 1) = sum (fun j => p.c j * pw x j * ev q x) (m + n + 1) := by
    refine sum_congr fun j _ => ?_
    by_cases hj : m ≤ j
    · have : p.c j = 0 := hm j hj
      rw [this, zero_mul, zero_mul]
      exact sum_eq_zero fun k _ => zero_mul _
    · rw [ev_eq (Poly.below.mono hn (show n ≤ m + n - j + 1 by omega)), mul_sum]
  rw [h2, ev_eq (Poly.below.mono hm (show m ≤ m + n + 1 by omega)), sum_mul]
theorem ev_mono (a : R) (n : Nat) (x : R) : ev (mono a n) x = a * pw x n := by
  rw [ev_eq (n := n + 1) (fun i hi => by rw [mono_c, if_neg (by omega)]), sum_one (k := n) (by omega) (fun i _ hi => by rw [mono_c, if_neg hi, zero_mul]), mono_c, if_pos rfl]
theorem ev_zero (x : R) : ev (0 : Poly R) x = 0 := by
  rw [ev_eq (n := 0) below_zero]; rfl
theorem ev_one1 {r : Poly R} (h : r.below 1) (x : R) : ev r x = r.c 0 := by
  rw [ev_eq h]
  show 0 + r.c 0 * 1 = _
  rw [zero_add, mul_one]
/-- x - a -/
def lin (a : R) : Poly R := mono 1 1 + mono (-a) 0
theorem lin_monic (a : R) : Monic (lin a) 1 := by
  refine ⟨fun i hi => ?_, ?_⟩
  · show (mono 1 1 + mono (-a) 0).c i = 0
    rw [add_c, mono_c, mono_c, if_neg (by omega), if_neg (by omega), add_zero]
  · show (mono 1 1 + mono (-a) 0).c 1 = 1
    rw [add_c, mono_c, mono_c, if_pos rfl, if_neg (by omega), add_zero]
theorem ev_lin (a x : R) : ev (lin a) x = x + -a := by
  rw [lin, ev_add, ev_mono, ev_mono]
  show 1 * (1 * x) + -a * 1 = _
  rw [one_mul, one_mul, mul_one]
end eval

section field
variable {K : Type} [CR K] [Fld K]
open Classical in
noncomputable def inv (a : K) : K := if h : a ≠ 0 then choose (Fld.inv_ex a h) else 0
theorem mul_inv {a : K} (h : a ≠ 0) : a * inv a = 1 := by
  unfold inv
  rw [dif_pos h]
  exact Classical.choose_spec (Fld.inv_ex a h)
theorem one_ne : (1 : K) ≠ 0 := Fld.one_ne
theorem mul_eq_zero {a b : K} (h : a * b = 0) : a = 0 ∨ b = 0 := by
  by_cases ha : a = 0
  · exact .inl ha
  · right
    have : inv a * (a * b) = 0 := by rw [h, mul_zero]
    rwa [← mul_assoc, mul_comm (inv a), mul_inv ha, one_mul] at this
theorem mul_cancel {a b c : K} (ha : a ≠ 0) (h : a * b = a * c) : b = c := by
  have : a * (b + -c) = 0 := by rw [mul_add, mul_neg, h, add_neg]
  rcases mul_eq_zero this with e | e
  · exact absurd e ha
  · exact add_eq_zero e
theorem mul_ne {a b : K} (ha : a ≠ 0) (hb : b ≠ 0) : a * b ≠ 0 := fun h => (mul_eq_zero h).elim ha hb
theorem pw_ne {a : K} (ha : a ≠ 0) : ∀ n, pw a n ≠ 0
  | 0 => one_ne
  | n + 1 => mul_ne (pw_ne ha n) ha

/-- a polynomial not zero of degree at most n has at most n roots -/
theorem roots_le : ∀ (n : Nat) (p : Poly K) (l : List K), p ≠ 0 → p.below (n + 1) → l.Nodup → (∀ x ∈ l, ev p x = 0) → l.length ≤ n
  | _, _, [], _, _, _, _ => Nat.zero_le _
  | 0, p, a :: l, hp, hb, _, hr => by
    have h := hr a (by simp)
    rw [ev_one1 hb] at h
    exact absurd (Poly.ext fun i => by
      cases i with
      | zero => exact h
      | succ i => exact hb (i + 1) (by omega)) hp
  | n + 1, p, a :: l, hp, hb, hnd, hr => by
    obtain ⟨q, r, h1, h2, h3⟩ := div_ex (lin_monic a) (n + 1) p (by rw [Nat.add_comm]; exact hb)
    have hra : ev r a = 0 := by
      have := hr a (by simp)
      rwa [h1, ev_add, ev_mul, ev_lin, add_neg, mul_zero, zero_add] at this
    have hr0 : r = 0 := Poly.ext fun i => by
      cases i with
      | zero => rw [ev_one1 h2] at hra; exact hra
      | succ i => exact h2 (i + 1) (by omega)
    rw [hr0, add_zero] at h1
    have hq : q ≠ 0 := fun e => hp (by rw [h1, e, zero_mul])
    obtain ⟨hal, hnd'⟩ := List.nodup_cons.mp hnd
    have := roots_le n q l hq h3 hnd' fun x hx => by
      have h4 := hr x (by simp [hx])
      rw [h1, ev_mul, ev_lin] at h4
      rcases mul_eq_zero h4 with e | e
      · exact e
      · have : x = a := add_eq_zero e
        subst this; exact absurd hx hal
    simp only [List.length_cons]; omega

theorem pw_gcd {u : K} : ∀ (a b : Nat), pw u a = 1 → pw u b = 1 → pw u (Nat.gcd a b) = 1 := by
  intro a
  induction a using Nat.strongRecOn with
  | _ a ih =>
    intro b ha hb
    by_cases h : a = 0
    · subst h; rw [Nat.gcd_zero_left]; exact hb
    · rw [Nat.gcd_rec]
      refine ih (b % a) (Nat.mod_lt _ (by omega)) a ?_ ha
      have e := Nat.div_add_mod b a
      rw [← e, pw_add, pw_mul, ha, one_pw, one_mul] at hb
      exact hb

def prodL (l : List K) : K := l.foldr (· * ·) 1
theorem prodL_perm {l m : List K} (h : l.Perm m) : prodL l = prodL m := by
  induction h with
  | nil => rfl
  | cons x _ ih => show x * prodL _ = x * prodL _; rw [ih]
  | swap x y l => show y * (x * prodL l) = x * (y * prodL l); ac_rfl
  | trans _ _ h1 h2 => exact h1.trans h2
theorem prodL_map (a : K) (l : List K) : prodL (l.map (a * ·)) = pw a l.length * prodL l := by
  induction l with
  | nil => show (1 : K) = 1 * 1; rw [mul_one]
  | cons x l ih =>
    show a * x * prodL (l.map (a * ·)) = pw a l.length * a * (x * prodL l)
    rw [ih]; ac_rfl
theorem prodL_ne {l : List K} (h : ∀ x ∈ l, x ≠ 0) : prodL l ≠ 0 := by
  induction l with
  | nil => exact one_ne
  | cons x l ih => exact mul_ne (h x (by simp)) (ih fun y hy => h y (by simp [hy]))

/-- l lists all elements other than zero -/
def Units (l : List K) : Prop := l.Nodup ∧ ∀ x, x ∈ l ↔ x ≠ 0
theorem Units.pw {l : List K} (hl : Units l) {a : K} (ha : a ≠ 0) : pw a l.length = 1 := by
  have hnd : (l.map (a * ·)).Nodup := by
    rw [List.Nodup, List.pairwise_map]
    exact hl.1.imp fun hne e => hne (mul_cancel ha e)
  have hp : (l.map (a * ·)).Perm l := by
    rw [List.perm_ext_iff_of_nodup hnd hl.1]
    intro x
    rw [List.mem_map, hl.2]
    constructor
    · rintro ⟨y, hy, rfl⟩; exact mul_ne ha ((hl.2 y).mp hy)
    · intro hx
      refine ⟨inv a * x, (hl.2 _).mpr (mul_ne ?_ hx), by rw [← mul_assoc, mul_inv ha, one_mul]⟩
      intro e
      have := mul_inv ha
      rw [e, mul_zero] at this
      exact one_ne this.symm
  have := prodL_perm hp
  rw [prodL_map] at this
  have h0 := prodL_ne fun x hx => (hl.2 x).mp hx
  apply mul_cancel h0
  rw [mul_one, mul_comm]; exact this
end field

/-- the primes that divide n, and the powers of them in n -/
def primesOf (n : Nat) : List Nat := (List.range (n + 1)).filter fun r => 2 ≤ r && n % r == 0 && (List.range r).all fun d => d < 2 || r % d != 0
def part (n r : Nat) : Nat := ((List.range 9).map (r ^ ·)).foldl (fun a b => if n % b == 0 then b else a) 1
def arith (n : Nat) : Bool :=
  ((primesOf n).all fun r => (primesOf n).all fun s => s == r || (n / part n s) * (n / r) % n == 0) &&
  ((primesOf n).all fun r => Nat.gcd (n / part n r) r == 1 && n % r == 0 && n % part n r == 0 && n / r < n && 0 < n / r && (decide (r ≥ 1))) &&
  ((List.range n).all fun d => n % d != 0 || (primesOf n).any fun r => n / r % d == 0)
theorem arith_all : (List.range 256).all (fun n => n == 0 || arith n) = true := by decide +kernel

end Go.Proofs.Ytpppkmeolknofaa.Alg
