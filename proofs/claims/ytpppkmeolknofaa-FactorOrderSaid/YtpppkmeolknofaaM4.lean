/- A finite field of at most 256 elements has a primitive element: plain algebra. Condition: at most 256 elements. -/
import Derived.Test.YtpppkmeolknofaaM3
namespace Go.Proofs.Ytpppkmeolknofaa.Alg
set_option linter.unusedSectionVars false

theorem arith_of {n : Nat} (h0 : 0 < n) (h1 : n < 256) : arith n = true := by
  have := List.all_eq_true.mp arith_all n (List.mem_range.mpr h1)
  simp only [Bool.or_eq_true, beq_iff_eq] at this
  rcases this with h | h
  · omega
  · exact h
structure Arith (n : Nat) : Prop where
  cross : ∀ r ∈ primesOf n, ∀ s ∈ primesOf n, s ≠ r → n ∣ (n / part n s) * (n / r)
  cop : ∀ r ∈ primesOf n, Nat.gcd (n / part n r) r = 1
  dvd : ∀ r ∈ primesOf n, r ∣ n
  lt : ∀ r ∈ primesOf n, n / r < n
  pos : ∀ r ∈ primesOf n, 0 < n / r
  all : ∀ d, d < n → d ∣ n → ∃ r ∈ primesOf n, d ∣ n / r
theorem arith_holds {n : Nat} (h0 : 0 < n) (h1 : n < 256) : Arith n := by
  have h := arith_of h0 h1
  simp only [arith, Bool.and_eq_true, List.all_eq_true, Bool.or_eq_true, beq_iff_eq, decide_eq_true_eq, bne_iff_ne, ne_eq, List.any_eq_true, List.mem_range] at h
  obtain ⟨⟨ha, hb⟩, hc⟩ := h
  refine ⟨?_, ?_, ?_, ?_, ?_, ?_⟩
  · intro r hr s hs hne
    rcases ha r hr s hs with e | e
    · exact absurd e hne
    · exact Nat.dvd_of_mod_eq_zero e
  · intro r hr; exact (hb r hr).1.1.1.1.1
  · intro r hr; exact Nat.dvd_of_mod_eq_zero (hb r hr).1.1.1.1.2
  · intro r hr; exact (hb r hr).1.1.2
  · intro r hr; exact (hb r hr).1.2
  · intro d hd hdv
    rcases hc d hd with e | ⟨r, hr, e⟩
    · exact absurd (Nat.mod_eq_zero_of_dvd hdv) e
    · exact ⟨r, hr, Nat.dvd_of_mod_eq_zero e⟩

section field
variable {K : Type} [CR K] [Fld K]

/-- not all elements are roots of x^k - 1 for k less than their number -/
theorem exists_pw_ne {l : List K} (hl : Units l) {k : Nat} (hk : 0 < k) (hkl : k < l.length) : ∃ a : K, a ≠ 0 ∧ pw a k ≠ 1 := by
  refine Classical.byContradiction fun h => ?_
  have hall : ∀ a : K, a ≠ 0 → pw a k = 1 := fun a ha => Classical.byContradiction fun h2 => h ⟨a, ha, h2⟩
  have hb : (mono (1 : K) k + mono (-1) 0).below (k + 1) := fun i hi => by
    rw [add_c, mono_c, mono_c, if_neg (by omega), if_neg (by omega), add_zero]
  have hne : mono (1 : K) k + mono (-1) 0 ≠ 0 := fun e => by
    have := congrArg (fun p => Poly.c p k) e
    have h2 : (mono (1 : K) k).c k + (mono (-1) 0).c k = 0 := this
    rw [mono_c, mono_c, if_pos rfl, if_neg (by omega), add_zero] at h2
    exact one_ne h2
  have := roots_le k _ l hne hb hl.1 fun x hx => by
    rw [ev_add, ev_mono, ev_mono, hall x ((hl.2 x).mp hx)]
    show 1 * 1 + -1 * 1 = (0 : K)
    rw [mul_one, mul_one, add_neg]
  omega

theorem pw_dvd {u : K} {a b : Nat} (h : pw u a = 1) (hd : a ∣ b) : pw u b = 1 := by
  obtain ⟨c, rfl⟩ := hd
  rw [pw_mul, h, one_pw]

/-- one factor of a primitive element -/
theorem exists_part {l : List K} (hl : Units l) (A : Arith l.length) {s : Nat} (hs : s ∈ primesOf l.length) :
    ∃ b : K, b ≠ 0 ∧ pw b (l.length / s) ≠ 1 ∧ ∀ r ∈ primesOf l.length, s ≠ r → pw b (l.length / r) = 1 := by
  obtain ⟨a, ha, h1⟩ := exists_pw_ne hl (A.pos s hs) (A.lt s hs)
  refine ⟨pw a (l.length / part l.length s), pw_ne ha _, ?_, ?_⟩
  · intro h
    apply h1
    have h2 : pw (pw a (l.length / s)) s = 1 := by
      rw [← pw_mul, Nat.div_mul_cancel (A.dvd s hs)]; exact hl.pw ha
    have h3 : pw (pw a (l.length / s)) (l.length / part l.length s) = 1 := by
      rw [← pw_mul, Nat.mul_comm, pw_mul]; exact h
    have := pw_gcd _ _ h3 h2
    rwa [A.cop s hs, pw_one] at this
  · intro r hr hne
    rw [← pw_mul]
    exact pw_dvd (hl.pw ha) (A.cross r hr s hs hne)

theorem exists_prod {l : List K} (hl : Units l) (A : Arith l.length) : ∀ (ps done : List Nat), done ++ ps = primesOf l.length → (done ++ ps).Nodup →
    ∃ g : K, g ≠ 0 ∧ (∀ r ∈ ps, pw g (l.length / r) ≠ 1) ∧ ∀ r ∈ done, pw g (l.length / r) = 1
  | [], done, _, _ => ⟨1, one_ne, by simp, fun r _ => one_pw _⟩
  | s :: ps, done, h, hnd => by
    have hs : s ∈ primesOf l.length := by rw [← h]; simp
    have hnd2 : (s :: ps).Nodup := (List.nodup_append.mp hnd).2.1
    have hnd3 : ∀ r ∈ done, r ≠ s := fun r hr => (List.nodup_append.mp hnd).2.2 r hr s (by simp)
    obtain ⟨g, h1, h2, h3⟩ := exists_prod hl A ps (done ++ [s]) (by simpa using h) (by simpa using hnd)
    obtain ⟨b, k1, k2, k3⟩ := exists_part hl A hs
    refine ⟨g * b, mul_ne h1 k1, ?_, ?_⟩
    · intro r hr
      rw [mul_pw]
      rcases List.mem_cons.mp hr with e | e
      · subst e; rw [h3 r (by simp), one_mul]; exact k2
      · rw [k3 r (by rw [← h]; simp [e]) (fun q => (List.nodup_cons.mp hnd2).1 (q ▸ e)), mul_one]; exact h2 r e
    · intro r hr
      rw [mul_pw, h3 r (by simp [hr]), k3 r (by rw [← h]; simp [hr]) (Ne.symm (hnd3 r hr)), one_mul]

/-- g's powers up to the number of units are different -/
theorem exists_primitive {l : List K} (hl : Units l) (hn : l.length < 256) : ∃ g : K, g ≠ 0 ∧ pw g l.length = 1 ∧ ∀ d, 0 < d → d < l.length → pw g d ≠ 1 := by
  have h0 : 0 < l.length := List.length_pos_of_mem ((hl.2 1).mpr one_ne)
  have A := arith_holds h0 hn
  have hnd : (primesOf l.length).Nodup := List.nodup_range.filter _
  obtain ⟨g, h1, h2, _⟩ := exists_prod hl A (primesOf l.length) [] rfl (by simpa using hnd)
  refine ⟨g, h1, hl.pw h1, fun d hd hdl h => ?_⟩
  have h3 := pw_gcd _ _ h (hl.pw h1)
  have h4 : Nat.gcd d l.length < l.length := Nat.lt_of_le_of_lt (Nat.gcd_le_left _ hd) hdl
  obtain ⟨r, hr, hdv⟩ := A.all _ h4 (Nat.gcd_dvd_right _ _)
  exact h2 r hr (pw_dvd h3 hdv)
end field

end Go.Proofs.Ytpppkmeolknofaa.Alg
