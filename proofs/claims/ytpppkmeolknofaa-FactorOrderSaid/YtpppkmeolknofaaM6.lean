/- The residues are a field just if the modulus has no monic divisor of a degree from 1 to half of its own: plain algebra. Condition: p prime. -/
import Derived.Test.YtpppkmeolknofaaM5
namespace Go.Proofs.Ytpppkmeolknofaa.Alg
set_option linter.unusedSectionVars false

/-- a finite ring without divisors of zero is a field -/
theorem fld_of_finite {R : Type} [CR R] (l : List R) (hall : ∀ x : R, x ∈ l) (h1 : (1 : R) ≠ 0) (hz : ∀ a b : R, a * b = 0 → a = 0 ∨ b = 0) : Fld R where
  one_ne := h1
  inv_ex a ha := by
    refine Classical.byContradiction fun hno => ?_
    have hinj : ∀ x y : R, a * x = a * y → x = y := fun x y e => by
      have : a * (x + -y) = 0 := by rw [mul_add, mul_neg, e, add_neg]
      rcases hz _ _ this with h | h
      · exact absurd h ha
      · exact add_eq_zero h
    -- a list without repeats of all elements
    have key : ∀ l : List R, ∃ m : List R, m.Nodup ∧ ∀ x, x ∈ l → x ∈ m := by
      intro l
      induction l with
      | nil => exact ⟨[], List.nodup_nil, by simp⟩
      | cons y l ih =>
        obtain ⟨m, hm, hl⟩ := ih
        by_cases hy : y ∈ m
        · exact ⟨m, hm, fun x hx => (List.mem_cons.mp hx).elim (fun e => e ▸ hy) (hl x)⟩
        · exact ⟨y :: m, List.nodup_cons.mpr ⟨hy, hm⟩, fun x hx => (List.mem_cons.mp hx).elim (fun e => by simp [e]) (fun e => by simp [hl x e])⟩
    obtain ⟨m, hm, hm2⟩ := key l
    have hmall : ∀ x, x ∈ m := fun x => hm2 x (hall x)
    have hnd : (1 :: m.map (a * ·)).Nodup := by
      refine List.nodup_cons.mpr ⟨fun h => ?_, ?_⟩
      · obtain ⟨b, _, hb⟩ := List.mem_map.mp h; exact hno ⟨b, hb⟩
      · rw [List.Nodup, List.pairwise_map]
        exact hm.imp fun hne e => hne (hinj _ _ e)
    have := hnd.length_le_of_subset (l₂ := m) fun x _ => hmall x
    simp only [List.length_cons, List.length_map] at this
    omega

def Prime (p : Nat) : Prop := 2 ≤ p ∧ ∀ d, 2 ≤ d → d < p → p % d ≠ 0
theorem Prime.coprime {p a : Nat} (hp : Prime p) (ha : ¬ p ∣ a) : Nat.Coprime p a := by
  have h1 := Nat.gcd_dvd_left p a
  have h2 := Nat.gcd_dvd_right p a
  have hp0 : 0 < p := by have := hp.1; omega
  have hle := Nat.le_of_dvd hp0 h1
  have hpos : 0 < Nat.gcd p a := Nat.gcd_pos_of_pos_left _ hp0
  by_cases e : Nat.gcd p a = 1
  · exact e
  · by_cases e2 : Nat.gcd p a = p
    · rw [e2] at h2; exact absurd h2 ha
    · exact absurd (Nat.mod_eq_zero_of_dvd h1) (hp.2 _ (by omega) (by omega))
theorem Prime.fld {p : Nat} [Two p] (hp : Prime p) : Fld (Z p) := by
  refine fld_of_finite ((List.range p).map ofN) (fun x => List.mem_map.mpr ⟨x.v, List.mem_range.mpr x.lt, ofN_self x⟩) ?_ ?_
  · intro h
    have := congrArg Z.v h
    rw [Z.one_v, Z.zero_v] at this
    omega
  · intro a b h
    have h1 := congrArg Z.v h
    rw [Z.mul_v, Z.zero_v] at h1
    have h2 : p ∣ a.v * b.v := Nat.dvd_of_mod_eq_zero h1
    by_cases ha : p ∣ a.v
    · exact .inl (Z.ext (Nat.eq_zero_of_dvd_of_lt ha a.lt))
    · have h3 : p ∣ b.v := (hp.coprime ha).dvd_of_dvd_mul_left h2
      exact .inr (Z.ext (Nat.eq_zero_of_dvd_of_lt h3 b.lt))

section bez
variable {K : Type} [CR K] [Fld K]
/-- a greatest common divisor, as a combination -/
theorem bezout (a b : Poly K) (h : a ≠ 0) : ∃ (n : Nat) (d u v : Poly K), Monic d n ∧ d = u * a + v * b ∧ (∃ k, a = k * d) ∧ ∃ k, b = k * d := by
  -- the least degree of a monic combination
  have hex : ∃ n d u v, Monic d n ∧ d = u * a + v * b := by
    obtain ⟨n, h1, h2⟩ := exists_top h
    refine ⟨n, C (inv (a.c n)) * a, C (inv (a.c n)), 0, ⟨?_, ?_⟩, by rw [zero_mul, add_zero]⟩
    · intro i hi; rw [C_mul_c, h1 i hi, mul_zero]
    · rw [C_mul_c, mul_comm, mul_inv h2]
  have hmin : ∃ n, (∃ d u v, Monic d n ∧ d = u * a + v * b) ∧ ∀ k, k < n → ¬ ∃ d u v, Monic d k ∧ d = u * a + v * b := by
    obtain ⟨n, hn⟩ := hex
    induction n using Nat.strongRecOn with
    | _ n ih =>
      by_cases hk : ∃ k, k < n ∧ ∃ d u v, Monic d k ∧ d = u * a + v * b
      · obtain ⟨k, hkn, hk2⟩ := hk; exact ih k hkn hk2
      · exact ⟨n, hn, fun k hkn h2 => hk ⟨k, hkn, h2⟩⟩
  obtain ⟨n, ⟨d, u, v, hd, he⟩, hleast⟩ := hmin
  have hdiv : ∀ c s t : Poly K, c = s * a + t * b → ∃ k, c = k * d := by
    intro c s t hc
    obtain ⟨N, hN⟩ := c.fin
    obtain ⟨q, r, h1, h2, _⟩ := div_ex hd N c (Poly.below.mono hN (by omega))
    by_cases hr : r = 0
    · exact ⟨q, by rw [h1, hr, add_zero]⟩
    · exfalso
      obtain ⟨k, k1, k2⟩ := exists_top hr
      have hkn : k < n := Nat.lt_of_not_le fun hle => k2 (h2 k hle)
      refine hleast k hkn ⟨C (inv (r.c k)) * r, C (inv (r.c k)) * (s + -(q * u)), C (inv (r.c k)) * (t + -(q * v)), ⟨?_, ?_⟩, ?_⟩
      · intro i hi; rw [C_mul_c, k1 i hi, mul_zero]
      · rw [C_mul_c, mul_comm, mul_inv k2]
      · rw [mul_assoc, mul_assoc, ← mul_add]
        congr 1
        apply add_left_cancel (a := q * d)
        rw [← h1, hc, he, add_mul, add_mul, neg_mul, neg_mul, mul_add, mul_assoc, mul_assoc]
        rw [show q * (u * a) + q * (v * b) + (s * a + -(q * (u * a)) + (t * b + -(q * (v * b)))) = (s * a + t * b) + ((q * (u * a) + -(q * (u * a))) + (q * (v * b) + -(q * (v * b)))) by ac_rfl, add_neg, add_neg, add_zero, add_zero]
  exact ⟨n, d, u, v, hd, he, hdiv a 1 0 (by rw [one_mul, zero_mul, add_zero]), hdiv b 0 1 (by rw [one_mul, zero_mul, zero_add])⟩
end bez

variable {D : Desc} [Desc.Ok D]
/-- no monic divisor of a degree from 1 to half the modulus's -/
def Desc.Irr (D : Desc) [Desc.Ok D] : Prop := ∀ (d : Nat) (b k : Poly (Z D.p)), 1 ≤ d → 2 * d ≤ D.m → Monic b d → k * b ≠ D.f

theorem monic_cofactor {R : Type} [CR R] {f b k : Poly R} {m d : Nat} (hf : Monic f m) (hb : Monic b d) (hdm : d ≤ m) (h : k * b = f) (h1 : (1 : R) ≠ 0) : Monic k (m - d) := by
  have hk : k ≠ 0 := fun e => by
    rw [e, zero_mul] at h
    exact h1 (by rw [← hf.2, ← h]; rfl)
  obtain ⟨n, h2, h3⟩ := exists_top hk
  have h4 := mul_top h2 hb.1
  rw [h, hb.2, mul_one] at h4
  have hn : n + d ≤ m := Nat.le_of_not_lt fun hlt => h3 (by rw [← h4]; exact hf.1 _ (by omega))
  have hn2 : n + d = m := by
    refine Nat.le_antisymm hn (Nat.le_of_not_lt fun hlt => h1 ?_)
    rw [← hf.2, ← h]
    exact below_mul h2 hb.1 m (by omega) m (Nat.le_refl _)
  have e : n = m - d := by omega
  subst e
  exact ⟨h2, by rw [← h4, hn2]; exact hf.2⟩

theorem z_one_ne : (1 : Z D.p) ≠ 0 := fun h => by have := congrArg Z.v h; rw [Z.one_v, Z.zero_v] at this; omega
theorem el_one_ne : (1 : El D) ≠ 0 := fun h => by have h2 : (1 : Nat) = 0 := congrArg El.v h; omega
theorem f_zero : Cong D.f D.f 0 := ⟨1, by rw [one_mul, add_zero]⟩

theorem irr_of_fld [Fld (El D)] : D.Irr := by
  intro d b k h1 h2 hb h
  have hk := monic_cofactor D.f_monic hb (by omega) h z_one_ne
  have hbm : b.below D.m := hb.1.mono (by omega)
  have hkm : k.below D.m := hk.1.mono (by omega)
  have h0 : (num k : El D) * num b = 0 := mul_eq (by
    rw [pol_num hkm, pol_num hbm, pol_zero, h]; exact f_zero.symm)
  have hne : ∀ (g : Poly (Z D.p)) (n : Nat), Monic g n → g.below D.m → (num g : El D) ≠ 0 := fun g n hg hgm e => by
    have : g = 0 := by rw [← pol_num (D := D) hgm, e, pol_zero]
    exact z_one_ne (D := D) (by rw [← hg.2, this]; rfl)
  rcases mul_eq_zero h0 with e | e
  · exact hne k _ hk hkm e
  · exact hne b _ hb hbm e

theorem fld_of_irr (hp : Prime D.p) (hi : D.Irr) : Fld (El D) where
  one_ne := el_one_ne
  inv_ex x hx := by
    haveI := hp.fld
    have ha : pol D x.v ≠ 0 := fun e => hx (pol_inj (by rw [e, pol_zero]))
    obtain ⟨n, d, u, v, hd, he, ⟨k, hk⟩, ⟨l, hl⟩⟩ := bezout (pol D x.v) D.f ha
    have hnm : n < D.m := by
      refine Nat.lt_of_not_le fun hle => ha ?_
      have hk0 : k = 0 := mul_monic_zero hd (by rw [← hk]; exact (pol_below _).mono hle)
      rw [hk, hk0, zero_mul]
    have hn0 : n = 0 := by
      refine Classical.byContradiction fun hn => ?_
      have hlm := monic_cofactor D.f_monic hd (by omega) hl.symm z_one_ne
      by_cases h2 : 2 * n ≤ D.m
      · exact hi n d l (by omega) h2 hd hl.symm
      · exact hi (D.m - n) l d (by omega) (by omega) hlm (by rw [mul_comm]; exact hl.symm)
    subst hn0
    have hd1 : d = 1 := Poly.ext fun i => by
      rw [one_c]
      by_cases h : i = 0
      · subst h; rw [if_pos rfl]; exact hd.2
      · rw [if_neg h]; exact hd.1 i (by omega)
    refine ⟨num (rem u), mul_eq ?_⟩
    rw [pol_one, pol_num (rem_below _), ← hd1, he]
    refine Cong.trans ?_ ((Cong.refl _ _).mul (rem_cong u).symm)
    rw [mul_comm u]
    have := (Cong.refl D.f (pol D x.v * u)).add (Cong.zero (f := D.f) (k := v))
    rwa [add_zero] at this

/-- the elements other than zero -/
def units (D : Desc) [Desc.Ok D] : List (El D) := (List.range (D.q - 1)).pmap (fun i h => ⟨i + 1, h⟩) fun i hi => by have := List.mem_range.mp hi; omega
theorem units_len : (units D).length = D.q - 1 := by simp [units]
theorem units_ok : Units (units D) := by
  refine ⟨?_, fun x => ?_⟩
  · unfold units
    rw [List.Nodup, List.pairwise_pmap]
    exact List.pairwise_lt_range.imp fun h _ _ e => by have := congrArg El.v e; simp at this; omega
  · unfold units
    rw [List.mem_pmap]
    constructor
    · rintro ⟨i, hi, rfl⟩ e
      have := congrArg El.v e
      exact absurd this (by show i + 1 ≠ 0; omega)
    · intro hx
      have h0 : x.v ≠ 0 := fun e => hx (El.ext e)
      have := x.lt
      exact ⟨x.v - 1, List.mem_range.mpr (by omega), El.ext (by show x.v - 1 + 1 = x.v; omega)⟩
/-- a primitive element -/
theorem primitive [Fld (El D)] (hq : D.q ≤ 256) : ∃ g : El D, g ≠ 0 ∧ pw g (D.q - 1) = 1 ∧ ∀ d, 0 < d → d < D.q - 1 → pw g d ≠ 1 := by
  have := exists_primitive (units_ok (D := D)) (by rw [units_len]; have := q_gt (D := D); omega)
  rwa [units_len] at this

end Go.Proofs.Ytpppkmeolknofaa.Alg
