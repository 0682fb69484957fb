/- Division by a monic polynomial, coefficient by coefficient, and the search for a monic divisor: plain algebra. Condition: p at least 2. -/
import Derived.Test.YtpppkmeolknofaaM7
namespace Go.Proofs.Ytpppkmeolknofaa.Alg
set_option linter.unusedSectionVars false
section
variable {p : Nat} [Two p]
/-- the polynomial with the n coefficients o -/
def pN (p : Nat) [Two p] (n : Nat) (o : Nat → Nat) : Poly (Z p) := ⟨fun i => if i < n then ofN (o i) else 0, n, fun i hi => by rw [if_neg (by omega)]⟩
theorem pN_c (n : Nat) (o : Nat → Nat) (i : Nat) : (pN p n o).c i = if i < n then ofN (o i) else 0 := rfl
/-- the monic polynomial of degree d with the low coefficients lo -/
def bP (p : Nat) [Two p] (d : Nat) (lo : Nat → Nat) : Poly (Z p) := ⟨fun i => if i = d then 1 else if i < d then ofN (lo i) else 0, d + 1, fun i hi => by rw [if_neg (by omega), if_neg (by omega)]⟩
theorem bP_c (d : Nat) (lo : Nat → Nat) (i : Nat) : (bP p d lo).c i = if i = d then 1 else if i < d then ofN (lo i) else 0 := rfl
theorem bP_monic (d : Nat) (lo : Nat → Nat) : Monic (bP p d lo) d := ⟨fun i hi => by rw [bP_c, if_neg (by omega), if_neg (by omega)], by rw [bP_c, if_pos rfl]⟩
theorem bP_congr {d : Nat} {lo lo' : Nat → Nat} (h : ∀ i, i < d → lo i = lo' i) : bP p d lo = bP p d lo' := Poly.ext fun i => by
  rw [bP_c, bP_c]
  by_cases h1 : i = d
  · rw [if_pos h1, if_pos h1]
  · rw [if_neg h1, if_neg h1]
    by_cases h2 : i < d
    · rw [if_pos h2, if_pos h2, h i h2]
    · rw [if_neg h2, if_neg h2]

theorem red_step {n d i : Nat} {o o' lo : Nat → Nat} (hdi : d ≤ i) (hin : i < n) (ho : o i ≤ p)
    (h : ∀ k, k < n → (ofN (o' k) : Z p) = if k = i then 0 else if i - d ≤ k ∧ k < i then ofN (o k + (p - o i) * lo (k - (i - d))) else ofN (o k)) :
    Cong (bP p d lo) (pN p n o) (pN p n o') := by
  refine ⟨C (ofN (o i)) * mono 1 (i - d), Poly.ext fun k => ?_⟩
  rw [add_c, mul_assoc, C_mul_c, mono_mul_c, pN_c, pN_c, bP_c]
  by_cases hk : k < n
  · rw [if_pos hk, if_pos hk, h k hk]
    by_cases h1 : k = i
    · subst h1
      rw [if_pos rfl, if_pos (by omega), if_pos (by omega), mul_one, mul_one, add_zero]
    · rw [if_neg h1]
      by_cases h2 : i - d ≤ k ∧ k < i
      · rw [if_pos h2, if_pos h2.1, if_neg (by omega), if_pos (by omega), one_mul, ofN_add, ofN_mul, ofN_sub ho, neg_mul]
        rw [show ∀ a b : Z p, b + (a + -b) = a + (b + -b) from fun a b => by ac_rfl, add_neg, add_zero]
      · rw [if_neg h2]
        by_cases h3 : i - d ≤ k
        · rw [if_pos h3, if_neg (by omega), if_neg (by omega), mul_zero, mul_zero, zero_add]
        · rw [if_neg h3, mul_zero, zero_add]
  · rw [if_neg hk, if_neg hk, add_zero]
    rw [if_pos (by omega), if_neg (by omega), if_neg (by omega), mul_zero, mul_zero]

theorem div_test {n d : Nat} {lo o : Nat → Nat} {f : Poly (Z p)} (hc : Cong (bP p d lo) f (pN p n o)) (hz : ∀ k, d ≤ k → k < n → o k = 0) (hl : ∀ k, k < n → o k < p) :
    (∃ k, k * bP p d lo = f) ↔ ∀ k, k < n → o k = 0 := by
  have hb : (pN p n o).below d := fun i hi => by
    rw [pN_c]
    split
    · rw [hz i hi (by assumption), ofN_zero]
    · rfl
  constructor
  · rintro ⟨k, rfl⟩ i hi
    have h0 : pN p n o = 0 := Cong.eq (bP_monic d lo) (hc.symm.trans Cong.zero) hb (fun _ _ => rfl)
    have := congrArg (fun z => (Poly.c z i).v) h0
    simp only [pN_c, if_pos hi] at this
    rw [ofN_v, Nat.mod_eq_of_lt (hl i hi)] at this
    exact this
  · intro h
    have h0 : pN p n o = 0 := Poly.ext fun i => by
      rw [pN_c, zero_c]
      split
      · rw [h i (by assumption), ofN_zero]
      · rfl
    obtain ⟨k, hk⟩ := hc
    exact ⟨k, by rw [hk, h0, add_zero]⟩
end

variable {D : Desc} [Desc.Ok D]
theorem f_bP : D.f = bP D.p D.m (low D) := rfl
theorem f_pN : D.f = pN D.p (D.m + 1) fun i => if i < D.m then low D i else 1 := Poly.ext fun i => by
  rw [f_bP, bP_c, pN_c]
  by_cases h : i = D.m
  · rw [if_pos h, if_pos (by omega), if_neg (by omega), ofN_one]
  · rw [if_neg h]
    by_cases h1 : i < D.m
    · rw [if_pos h1, if_pos (by omega), if_pos h1]
    · rw [if_neg h1, if_neg (by omega)]
/-- the monic polynomial of degree d with the digits of v divides the modulus -/
def Div (D : Desc) [Desc.Ok D] (d v : Nat) : Prop := ∃ k, k * bP D.p d (dig D.p v) = D.f
theorem irr_iff : D.Irr ↔ ∀ d, 1 ≤ d → 2 * d ≤ D.m → ∀ v, v < D.p ^ d → ¬ Div D d v := by
  constructor
  · rintro h d h1 h2 v _ ⟨k, hk⟩
    exact h d _ k h1 h2 (bP_monic _ _) hk
  · intro h d b k h1 h2 hb hk
    have hl : ∀ i, i < d → (b.c i).v < D.p := fun i _ => (b.c i).lt
    refine h d h1 h2 (valN D.p (fun i => (b.c i).v) d) (valN_lt hl) ⟨k, ?_⟩
    rw [← hk]
    congr 1
    rw [bP_congr (lo' := fun i => (b.c i).v) fun i hi => dig_valN hl i hi]
    refine Poly.ext fun i => ?_
    rw [bP_c]
    by_cases e : i = d
    · rw [if_pos e, e, hb.2]
    · rw [if_neg e]
      by_cases e1 : i < d
      · rw [if_pos e1, ofN_self]
      · rw [if_neg e1, hb.1 i (by omega)]

/-- the powers of x go through different elements other than zero, k of them -/
def Run (x : El D) (k : Nat) : Prop := (∀ i, i < k → pw x i ≠ 0) ∧ ∀ i j, i < j → j < k → pw x i ≠ pw x j
/-- x is a primitive element -/
def Gen (x : El D) : Prop := Run x (D.q - 1) ∧ pw x (D.q - 1) = 1
theorem Run.nodup {x : El D} {k : Nat} (h : Run x k) : ((List.range k).map (pw x)).Nodup := by
  rw [List.Nodup, List.pairwise_map]
  have h2 : (List.range k).Pairwise (· < ·) := List.pairwise_lt_range
  exact (List.Pairwise.and_mem.mp h2).imp fun {s t} h3 => h.2 s t h3.2.2 (List.mem_range.mp h3.2.1)
theorem run_bound {x : El D} {k : Nat} (h : Run x k) : k ≤ D.q - 1 := by
  have := h.nodup.length_le_of_subset (l₂ := units D) fun y hy => by
    obtain ⟨i, hi, rfl⟩ := List.mem_map.mp hy
    exact (units_ok.2 _).mpr (h.1 i (List.mem_range.mp hi))
  rw [units_len] at this
  simpa using this
theorem gen_all {g : El D} (hg : Gen g) {x : El D} (hx : x ≠ 0) : ∃ i, i < D.q - 1 ∧ x = pw g i := by
  refine Classical.byContradiction fun hno => ?_
  have hnd : (x :: (List.range (D.q - 1)).map (pw g)).Nodup := by
    refine List.nodup_cons.mpr ⟨fun h => ?_, hg.1.nodup⟩
    obtain ⟨i, hi, e⟩ := List.mem_map.mp h
    exact hno ⟨i, List.mem_range.mp hi, e.symm⟩
  have := hnd.length_le_of_subset (l₂ := units D) fun y hy => by
    rcases List.mem_cons.mp hy with rfl | hy
    · exact (units_ok.2 _).mpr hx
    · obtain ⟨i, hi, rfl⟩ := List.mem_map.mp hy
      exact (units_ok.2 _).mpr (hg.1.1 i (List.mem_range.mp hi))
  rw [units_len] at this
  simp at this
  omega
theorem fld_of_gen {g : El D} (hg : Gen g) : Fld (El D) where
  one_ne := el_one_ne
  inv_ex x hx := by
    obtain ⟨i, hi, rfl⟩ := gen_all hg hx
    refine ⟨pw g (D.q - 1 - i), ?_⟩
    rw [← pw_add, show i + (D.q - 1 - i) = D.q - 1 by omega, hg.2]
theorem gen_of_fld [Fld (El D)] (hq : D.q ≤ 256) : ∃ g : El D, Gen g := by
  obtain ⟨g, h0, h1, h2⟩ := primitive (D := D) hq
  refine ⟨g, ⟨fun i _ => pw_ne h0 i, fun i j hij hj e => ?_⟩, h1⟩
  refine h2 (j - i) (by omega) (by omega) (mul_cancel (pw_ne h0 i) ?_)
  rw [← pw_add, mul_one, e, show i + (j - i) = j by omega]
theorem gen_iff (hp : Prime D.p) (hq : D.q ≤ 256) : (∃ g : El D, Gen g) ↔ D.Irr := by
  constructor
  · rintro ⟨g, hg⟩
    haveI := fld_of_gen hg
    exact irr_of_fld
  · intro h
    haveI := fld_of_irr hp h
    exact gen_of_fld hq

end Go.Proofs.Ytpppkmeolknofaa.Alg
