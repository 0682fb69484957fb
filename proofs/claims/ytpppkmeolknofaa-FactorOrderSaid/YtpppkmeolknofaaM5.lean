/- The residues modulo a monic polynomial over the numbers modulo p, as numbers in base p: a ring: plain algebra. Condition: p at least 2, the degree at least 1. -/
import Derived.Test.YtpppkmeolknofaaM4
namespace Go.Proofs.Ytpppkmeolknofaa.Alg
set_option linter.unusedSectionVars false

/-- digit i of x in base p -/
def dig (p x i : Nat) : Nat := x / p ^ i % p
/-- the number with the digits d -/
def valN (p : Nat) (d : Nat → Nat) : Nat → Nat
  | 0 => 0
  | m + 1 => valN p d m + d m * p ^ m
theorem valN_lt {p : Nat} {d : Nat → Nat} {m : Nat} (h : ∀ i, i < m → d i < p) : valN p d m < p ^ m := by
  induction m with
  | zero => exact Nat.lt_of_lt_of_le Nat.zero_lt_one (Nat.le_of_eq rfl)
  | succ m ih =>
    have h1 := ih fun i hi => h i (by omega)
    have h2 : d m * p ^ m ≤ (p - 1) * p ^ m := Nat.mul_le_mul_right _ (by have := h m (by omega); omega)
    have h3 : p ^ (m + 1) = (p - 1) * p ^ m + p ^ m := by
      have hp : 0 < p := by have := h m (by omega); omega
      rw [Nat.pow_succ, Nat.mul_comm, ← Nat.succ_mul]; congr 1; omega
    show valN p d m + d m * p ^ m < _
    omega
theorem valN_congr {p : Nat} {d e : Nat → Nat} {m : Nat} (h : ∀ i, i < m → d i = e i) : valN p d m = valN p e m := by
  induction m with
  | zero => rfl
  | succ m ih => simp only [valN]; rw [ih (fun i hi => h i (by omega)), h m (by omega)]
theorem dig_valN {p : Nat} {d : Nat → Nat} {m : Nat} (h : ∀ i, i < m → d i < p) (i : Nat) (hi : i < m) : dig p (valN p d m) i = d i := by
  have hp : 0 < p := by have := h i hi; omega
  induction m with
  | zero => omega
  | succ m ih =>
    unfold dig
    simp only [valN]
    have h1 := valN_lt (p := p) (d := d) (m := m) fun i hi => h i (by omega)
    by_cases e : i = m
    · subst e
      rw [Nat.add_mul_div_right _ _ (Nat.pow_pos hp), Nat.div_eq_of_lt h1, Nat.zero_add, Nat.mod_eq_of_lt (h i hi)]
    · have h2 : d m * p ^ m = d m * p ^ (m - i - 1) * p * p ^ i := by
        rw [Nat.mul_assoc (d m * _), ← Nat.pow_succ', Nat.mul_assoc, ← Nat.pow_add]
        congr 2; omega
      rw [h2, Nat.add_mul_div_right _ _ (Nat.pow_pos hp), Nat.add_mul_mod_self_right]
      exact ih (fun i hi => h i (by omega)) (by omega)
theorem valN_dig (p x m : Nat) : valN p (dig p x) m = x % p ^ m := by
  induction m with
  | zero => simp [valN, Nat.mod_one]
  | succ m ih =>
    simp only [valN]
    rw [ih, Nat.pow_succ, Nat.mod_mul, dig, Nat.mul_comm (p ^ m)]

/-- a description of residues: p, the degree, the lower coefficients of the modulus -/
structure Desc where
  p : Nat
  m : Nat
  mod : List Nat
class Desc.Ok (D : Desc) : Prop extends Two D.p where
  m1 : 1 ≤ D.m
variable (D : Desc) [Desc.Ok D]
def Desc.q : Nat := D.p ^ D.m
/-- the modulus -/
def Desc.f : Poly (Z D.p) := ⟨fun i => if i = D.m then 1 else if i < D.m then ofN (D.mod.getD i 0) else 0, D.m + 1, fun i hi => by rw [if_neg (by omega), if_neg (by omega)]⟩
theorem Desc.f_monic : Monic D.f D.m := ⟨fun i hi => by show (if _ then _ else _) = _; rw [if_neg (by omega), if_neg (by omega)], by show (if _ then _ else _) = _; rw [if_pos rfl]⟩

/-- the elements -/
structure El (D : Desc) where
  v : Nat
  lt : v < D.q
theorem El.ext {D : Desc} {a b : El D} (h : a.v = b.v) : a = b := by cases a; cases b; cases h; rfl

variable {D}
/-- the polynomial of a number -/
def pol (D : Desc) [Desc.Ok D] (x : Nat) : Poly (Z D.p) := ⟨fun i => if i < D.m then ofN (dig D.p x i) else 0, D.m, fun i hi => by rw [if_neg (by omega)]⟩
theorem pol_c (x i : Nat) : (pol D x).c i = if i < D.m then ofN (dig D.p x i) else 0 := rfl
theorem pol_below (x : Nat) : (pol D x).below D.m := fun i hi => by rw [pol_c, if_neg (by omega)]
/-- the number of a polynomial's lowest m coefficients -/
def num (r : Poly (Z D.p)) : El D := ⟨valN D.p (fun i => (r.c i).v) D.m, valN_lt fun i _ => (r.c i).lt⟩
theorem pol_num {r : Poly (Z D.p)} (h : r.below D.m) : pol D (num (D := D) r).v = r := Poly.ext fun i => by
  rw [pol_c]
  split
  · rename_i hi
    show ofN (dig D.p (valN D.p _ D.m) i) = _
    rw [dig_valN (fun i _ => (r.c i).lt) i hi, ofN_self]
  · rename_i hi
    exact (h i (by omega)).symm
theorem num_pol (x : El D) : num (pol D x.v) = x := El.ext (by
  show valN D.p _ D.m = _
  rw [valN_congr (e := dig D.p x.v) fun i hi => by rw [pol_c, if_pos hi, ofN_v, dig, Nat.mod_mod], valN_dig]
  exact Nat.mod_eq_of_lt x.lt)
theorem pol_inj {x y : El D} (h : pol D x.v = pol D y.v) : x = y := by rw [← num_pol x, h, num_pol y]

theorem rem_ex (a : Poly (Z D.p)) : ∃ r, Cong D.f r a ∧ r.below D.m := by
  obtain ⟨n, hn⟩ := a.fin
  obtain ⟨q, r, h1, h2, _⟩ := div_ex D.f_monic n a (Poly.below.mono hn (by omega))
  refine ⟨r, Cong.symm ⟨q, h1⟩, h2⟩
noncomputable def rem (a : Poly (Z D.p)) : Poly (Z D.p) := Classical.choose (rem_ex (D := D) a)
theorem rem_cong (a : Poly (Z D.p)) : Cong D.f (rem a) a := (Classical.choose_spec (rem_ex (D := D) a)).1
theorem rem_below (a : Poly (Z D.p)) : (rem (D := D) a).below D.m := (Classical.choose_spec (rem_ex (D := D) a)).2

instance : Zero (El D) := ⟨⟨0, Nat.pow_pos (pos (p := D.p))⟩⟩
theorem q_gt : 1 < D.q := Nat.one_lt_pow (by have := Desc.Ok.m1 (D := D); omega) (Two.two (p := D.p))
instance : One (El D) := ⟨⟨1, q_gt⟩⟩
instance : Add (El D) := ⟨fun a b => num (pol D a.v + pol D b.v)⟩
instance : Neg (El D) := ⟨fun a => num (-pol D a.v)⟩
noncomputable instance : Mul (El D) := ⟨fun a b => num (rem (pol D a.v * pol D b.v))⟩
theorem pol_zero : pol D (0 : El D).v = 0 := Poly.ext fun i => by
  rw [pol_c, zero_c]
  split
  · show ofN (dig D.p 0 i) = 0
    rw [dig, Nat.zero_div, Nat.zero_mod, ofN_zero]
  · rfl
theorem pol_one : pol D (1 : El D).v = 1 := Poly.ext fun i => by
  rw [pol_c, one_c]
  have h1 := Desc.Ok.m1 (D := D)
  have h2 := Two.two (p := D.p)
  show (if i < D.m then ofN (dig D.p 1 i) else 0) = _
  by_cases h : i = 0
  · subst h; rw [if_pos (by omega), if_pos rfl, dig, Nat.pow_zero, Nat.div_one, Nat.mod_eq_of_lt (by omega), ofN_one]
  · rw [if_neg h]
    split
    · rw [dig, Nat.div_eq_of_lt (Nat.one_lt_pow h h2), Nat.zero_mod, ofN_zero]
    · rfl
theorem pol_add (a b : El D) : pol D (a + b).v = pol D a.v + pol D b.v := pol_num (below_add (pol_below _) (pol_below _))
theorem pol_neg (a : El D) : pol D (-a).v = -pol D a.v := pol_num (below_neg (pol_below _))
theorem pol_mul (a b : El D) : Cong D.f (pol D (a * b).v) (pol D a.v * pol D b.v) := by
  have : pol D (a * b).v = rem (pol D a.v * pol D b.v) := pol_num (rem_below _)
  rw [this]; exact rem_cong _
theorem el_eq {a b : El D} (h : Cong D.f (pol D a.v) (pol D b.v)) : a = b := pol_inj (h.eq D.f_monic (pol_below _) (pol_below _))
/-- the product is what is congruent -/
theorem mul_eq {a b c : El D} (h : Cong D.f (pol D c.v) (pol D a.v * pol D b.v)) : a * b = c := el_eq ((pol_mul a b).trans h.symm)

noncomputable instance : CR (El D) where
  add_assoc a b c := pol_inj (by simp only [pol_add, add_assoc])
  add_comm a b := pol_inj (by rw [pol_add, pol_add, add_comm])
  zero_add a := pol_inj (by rw [pol_add, pol_zero, zero_add])
  neg_add a := pol_inj (by rw [pol_add, pol_neg, neg_add, pol_zero])
  mul_assoc a b c := el_eq (by
    refine (pol_mul _ _).trans (((pol_mul a b).mul (.refl _ _)).trans ?_)
    rw [mul_assoc]
    exact (((Cong.refl _ _).mul (pol_mul b c)).symm).trans (pol_mul _ _).symm)
  mul_comm a b := el_eq ((pol_mul a b).trans (by rw [mul_comm]; exact (pol_mul b a).symm))
  one_mul a := mul_eq (by rw [pol_one, one_mul]; exact .refl _ _)
  mul_add a b c := mul_eq (by
    rw [pol_add, pol_add, mul_add]
    exact (pol_mul a b).add (pol_mul a c))

end Go.Proofs.Ytpppkmeolknofaa.Alg
