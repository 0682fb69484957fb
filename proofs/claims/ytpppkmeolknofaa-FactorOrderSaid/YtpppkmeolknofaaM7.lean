/- Horner's way to the product of residues: plain algebra. No condition. -/
import Derived.Test.YtpppkmeolknofaaM6
namespace Go.Proofs.Ytpppkmeolknofaa.Alg
set_option linter.unusedSectionVars false
variable {D : Desc} [Desc.Ok D]

/-- the polynomial with the m coefficients o -/
def pf (D : Desc) [Desc.Ok D] (o : Nat → Nat) : Poly (Z D.p) := ⟨fun i => if i < D.m then ofN (o i) else 0, D.m, fun i hi => by rw [if_neg (by omega)]⟩
theorem pf_c (o : Nat → Nat) (i : Nat) : (pf D o).c i = if i < D.m then ofN (o i) else 0 := rfl
theorem pf_below (o : Nat → Nat) : (pf D o).below D.m := fun i hi => by rw [pf_c, if_neg (by omega)]
theorem pf_dig (x : Nat) : pf D (dig D.p x) = pol D x := rfl
theorem pf_num {o : Nat → Nat} (h : ∀ i, i < D.m → o i < D.p) : (num (pf D o) : El D).v = valN D.p o D.m := by
  show valN D.p _ D.m = _
  refine valN_congr fun i hi => ?_
  rw [pf_c, if_pos hi, ofN_v, Nat.mod_eq_of_lt (h i hi)]
/-- the low coefficients of the modulus -/
def low (D : Desc) (i : Nat) : Nat := D.mod.getD i 0

/-- one step of Horner's way -/
theorem horner_step {o o' a : Nat → Nat} {b : Nat} (ho : ∀ i, i < D.m → o i < D.p) (h : ∀ j, j < D.m → o' j % D.p = ((if j = 0 then 0 else o (j - 1)) + (D.p - o (D.m - 1)) * low D j + b * a j) % D.p) :
    Cong D.f (mono 1 1 * pf D o + C (ofN b) * pf D a) (pf D o') := by
  have hm1 := Desc.Ok.m1 (D := D)
  refine ⟨C (ofN (o (D.m - 1))), Poly.ext fun i => ?_⟩
  rw [add_c, add_c, C_mul_c, C_mul_c, mono_mul_c, pf_c, pf_c, pf_c]
  show _ = ofN (o (D.m - 1)) * (if i = D.m then 1 else if i < D.m then ofN (low D i) else 0) + _
  by_cases h1 : i < D.m
  · rw [if_pos h1, if_pos h1, if_neg (show ¬ i = D.m by omega), if_pos h1]
    have e : (ofN (o' i) : Z D.p) = ofN ((if i = 0 then 0 else o (i - 1)) + (D.p - o (D.m - 1)) * low D i + b * a i) := Z.ext (by rw [ofN_v, ofN_v, h i h1])
    rw [e, ofN_add, ofN_add, ofN_mul, ofN_mul, ofN_sub (Nat.le_of_lt (ho _ (by omega))), neg_mul]
    have e2 : (if 1 ≤ i then (1 : Z D.p) * (if i - 1 < D.m then ofN (o (i - 1)) else 0) else 0) = ofN (if i = 0 then 0 else o (i - 1)) := by
      by_cases hi0 : i = 0
      · subst hi0; rw [if_neg (by omega), if_pos rfl, ofN_zero]
      · rw [if_pos (by omega), if_neg hi0, if_pos (by omega), one_mul]
    rw [e2]
    generalize (ofN (if i = 0 then 0 else o (i - 1)) : Z D.p) = s
    generalize (ofN (o (D.m - 1)) * ofN (low D i) : Z D.p) = t
    rw [show t + (s + -t + ofN b * ofN (a i)) = (t + -t) + (s + ofN b * ofN (a i)) by ac_rfl, add_neg, zero_add]
  · rw [if_neg h1, if_neg h1, if_neg h1, mul_zero, add_zero, add_zero, if_pos (show 1 ≤ i by omega)]
    by_cases h2 : i = D.m
    · rw [if_pos h2, if_pos (show i - 1 < D.m by omega), one_mul, mul_one, h2]
    · rw [if_neg h2, if_neg (show ¬ i - 1 < D.m by omega), mul_zero, mul_zero]
/-- what Horner's way has taken in: the digits from k on -/
def tailP (D : Desc) [Desc.Ok D] (b : Nat → Nat) (k : Nat) : Poly (Z D.p) := pf D fun i => if k + i < D.m then b (k + i) else 0
theorem tailP_m (b : Nat → Nat) : tailP D b D.m = 0 := Poly.ext fun i => by
  rw [tailP, pf_c, zero_c]
  split
  · rw [if_neg (by omega), ofN_zero]
  · rfl
theorem tailP_zero (b : Nat → Nat) : tailP D b 0 = pf D b := Poly.ext fun i => by
  rw [tailP, pf_c, pf_c]
  split
  · rw [Nat.zero_add, if_pos (by assumption)]
  · rfl
theorem tailP_step (b : Nat → Nat) (k : Nat) (hk : k < D.m) : tailP D b k = mono 1 1 * tailP D b (k + 1) + C (ofN (b k)) := Poly.ext fun i => by
  rw [add_c, mono_mul_c, C_c, tailP, tailP, pf_c, pf_c]
  by_cases h0 : i = 0
  · subst h0
    rw [if_pos (show 0 < D.m by omega), if_neg (show ¬ 1 ≤ 0 by omega), if_pos rfl, zero_add, Nat.add_zero, if_pos hk]
  · rw [if_pos (show 1 ≤ i by omega), if_neg h0, add_zero, one_mul]
    by_cases h1 : i < D.m
    · rw [if_pos h1, if_pos (show i - 1 < D.m by omega), show k + 1 + (i - 1) = k + i by omega]
    · rw [if_neg h1, show k + 1 + (i - 1) = k + i by omega, if_neg (show ¬ k + i < D.m by omega)]
      split
      · rw [ofN_zero]
      · rfl
/-- the whole way -/
theorem horner_one {o o' a b : Nat → Nat} {k : Nat} (hk : k < D.m) (ho : ∀ i, i < D.m → o i < D.p) (hc : Cong D.f (pf D o) (pf D a * tailP D b (k + 1)))
    (h : ∀ j, j < D.m → o' j % D.p = ((if j = 0 then 0 else o (j - 1)) + (D.p - o (D.m - 1)) * low D j + b k * a j) % D.p) : Cong D.f (pf D o') (pf D a * tailP D b k) := by
  refine (horner_step ho h).symm.trans ?_
  rw [tailP_step b k hk, mul_add, mul_comm (pf D a) (C _), show pf D a * (mono 1 1 * tailP D b (k + 1)) = mono 1 1 * (pf D a * tailP D b (k + 1)) by ac_rfl]
  exact ((Cong.refl _ _).mul hc).add (.refl _ _)
theorem horner_end {o : Nat → Nat} {x y : El D} (ho : ∀ i, i < D.m → o i < D.p) (hc : Cong D.f (pf D o) (pf D (dig D.p x.v) * tailP D (dig D.p y.v) 0)) : valN D.p o D.m = (x * y).v := by
  rw [← pf_num ho]
  rw [tailP_zero, pf_dig, pf_dig] at hc
  have : x * y = num (pf D o) := mul_eq (by rw [pol_num (pf_below o)]; exact hc)
  rw [this]

end Go.Proofs.Ytpppkmeolknofaa.Alg
