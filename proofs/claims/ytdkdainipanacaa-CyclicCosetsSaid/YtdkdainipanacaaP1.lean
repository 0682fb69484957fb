/- Cyclotomic cosets, in plain numbers. No condition. -/
namespace Go.Proofs.Ytdkdainipanacaa

/-- the t-th member of the coset of i -/
def orb (q n i t : Nat) : Nat := i * q ^ t % n
def InO (q n i x : Nat) : Prop := ∃ t, x = orb q n i t

theorem orb_lt {q n i t : Nat} (hn : 0 < n) : orb q n i t < n := Nat.mod_lt _ hn
theorem orb_zero {q n i : Nat} (hi : i < n) : orb q n i 0 = i := by simp [orb, Nat.mod_eq_of_lt hi]
theorem orb_succ (q n i t : Nat) : orb q n i (t + 1) = orb q n i t * q % n := by
  unfold orb
  rw [Nat.pow_succ, ← Nat.mul_assoc, Nat.mul_mod, Nat.mul_mod (i * q ^ t % n) q, Nat.mod_mod]
theorem step_inj {q n x y : Nat} (hc : Nat.Coprime q n) (hx : x < n) (hy : y < n) (h : x * q % n = y * q % n) : x = y := by
  have key : ∀ x y, x ≤ y → y < n → x * q % n = y * q % n → x = y := by
    intro x y hxy hy h
    have h1 : (y * q - x * q) % n = 0 := Nat.sub_mod_eq_zero_of_mod_eq h.symm
    rw [← Nat.sub_mul] at h1
    have h2 : n ∣ (y - x) * q := Nat.dvd_of_mod_eq_zero h1
    have h3 : n ∣ y - x := Nat.Coprime.dvd_of_dvd_mul_right hc.symm h2
    have h4 : y - x = 0 := Nat.eq_zero_of_dvd_of_lt h3 (by omega)
    omega
  rcases Nat.le_total x y with h1 | h1
  · exact key x y h1 hy h
  · exact (key y x h1 hx h.symm).symm
theorem orb_back {q n i s t : Nat} (hc : Nat.Coprime q n) (hn : 0 < n) (h : orb q n i (s + 1) = orb q n i (t + 1)) : orb q n i s = orb q n i t := by
  rw [orb_succ, orb_succ] at h
  exact step_inj hc (orb_lt hn) (orb_lt hn) h
theorem orb_shift {q n i a b : Nat} (hc : Nat.Coprime q n) (hn : 0 < n) : ∀ c, orb q n i (a + c) = orb q n i (b + c) → orb q n i a = orb q n i b
  | 0, h => h
  | c + 1, h => orb_shift hc hn c (orb_back hc hn h)
/-- the coset comes back to where it began -/
theorem orb_period {q n i : Nat} (hc : Nat.Coprime q n) (hi : i < n) : ∃ k, 0 < k ∧ orb q n i k = i := by
  have hn : 0 < n := by omega
  by_cases h : ∃ a b, a < b ∧ orb q n i a = orb q n i b
  · obtain ⟨a, b, hab, he⟩ := h
    refine ⟨b - a, by omega, ?_⟩
    have := orb_shift hc hn (a := 0) (b := b - a) a (by rw [Nat.zero_add, show b - a + a = b by omega]; exact he)
    rw [← this, orb_zero hi]
  · exfalso
    have hnd : ((List.range (n + 1)).map (orb q n i)).Nodup := by
      rw [List.Nodup, List.pairwise_map]
      exact List.pairwise_lt_range.imp fun hab he => h ⟨_, _, hab, he⟩
    have := hnd.length_le_of_subset (l₂ := List.range n) (fun x hx => by
      obtain ⟨t, _, rfl⟩ := List.mem_map.mp hx
      exact List.mem_range.mpr (orb_lt hn))
    simp at this
    omega
theorem orb_add (q n i s t : Nat) : orb q n (orb q n i s) t = orb q n i (s + t) := by
  induction t with
  | zero => simp [orb]
  | succ t ih => rw [orb_succ, ih, ← Nat.add_assoc, orb_succ]
theorem orb_mod {q n i k : Nat} (h : orb q n i k = i) (t : Nat) : orb q n i (t + k) = orb q n i t := by
  rw [Nat.add_comm, ← orb_add, h]
theorem orb_mul {q n i k : Nat} (h : orb q n i k = i) (t : Nat) : ∀ c, orb q n i (t + c * k) = orb q n i t
  | 0 => by simp
  | c + 1 => by rw [show t + (c + 1) * k = (t + c * k) + k by rw [Nat.add_mul]; omega, orb_mod h, orb_mul h t c]
theorem InO.symm {q n i x : Nat} (hc : Nat.Coprime q n) (hi : i < n) (h : InO q n i x) : InO q n x i := by
  obtain ⟨t, rfl⟩ := h
  obtain ⟨k, hk, hk2⟩ := orb_period hc hi
  refine ⟨t * k - t, ?_⟩
  rw [orb_add]
  have h1 : t ≤ t * k := Nat.le_mul_of_pos_right t hk
  have := orb_mul hk2 0 t
  rw [Nat.zero_add] at this
  rw [show t + (t * k - t) = t * k by omega, this, orb, Nat.pow_zero, Nat.mul_one, Nat.mod_eq_of_lt hi]
theorem InO.trans {q n i x y : Nat} (h : InO q n i x) (k : InO q n x y) : InO q n i y := by
  obtain ⟨s, rfl⟩ := h; obtain ⟨t, rfl⟩ := k
  exact ⟨s + t, orb_add q n i s t⟩
theorem InO.refl {q n i : Nat} (hi : i < n) : InO q n i i := ⟨0, (orb_zero hi).symm⟩
theorem InO.lt {q n i x : Nat} (hn : 0 < n) (h : InO q n i x) : x < n := by obtain ⟨t, rfl⟩ := h; exact orb_lt hn
theorem InO.step {q n i x : Nat} (h : InO q n i x) : InO q n i (x * q % n) := by obtain ⟨t, rfl⟩ := h; exact ⟨t + 1, (orb_succ q n i t).symm⟩
theorem InO.back {q n i x : Nat} (hc : Nat.Coprime q n) (hi : i < n) (hx : x < n) (h : InO q n i (x * q % n)) : InO q n i x := by
  obtain ⟨t, ht⟩ := h
  obtain ⟨k, hk, hk2⟩ := orb_period hc hi
  obtain ⟨s, hs⟩ : ∃ s, t + k = s + 1 := ⟨t + k - 1, by omega⟩
  rw [← orb_mod hk2, hs, orb_succ] at ht
  exact ⟨s, step_inj hc hx (orb_lt (by omega)) ht⟩

/-- where the walk of one coset ends -/
theorem orbit_exit {q n i k : Nat} {S : Nat → Bool} (hc : Nat.Coprime q n) (hi : i < n) (hcl : ∀ x, x < n → S (x * q % n) = true → S x = true) (h0 : S i = false)
    (hd : ∀ t, t < k → S (orb q n i t) = false) (hnd : ∀ s t, s < t → t < k → orb q n i s ≠ orb q n i t) (hex : S (orb q n i k) = true ∨ ∃ t, t < k ∧ orb q n i k = orb q n i t) :
    0 < k ∧ orb q n i k = i ∧ ∀ x, InO q n i x ↔ ∃ t, t < k ∧ x = orb q n i t := by
  have hn : 0 < n := by omega
  have hk : 0 < k := by
    rcases Nat.eq_zero_or_pos k with h | h
    · subst h
      rcases hex with e | ⟨t, ht, _⟩
      · rw [orb_zero hi, h0] at e; cases e
      · omega
    · exact h
  obtain ⟨k', rfl⟩ : ∃ k', k = k' + 1 := ⟨k - 1, by omega⟩
  have hki : orb q n i (k' + 1) = i := by
    rcases hex with e | ⟨t, ht, e⟩
    · rw [orb_succ] at e
      have := hcl _ (orb_lt hn) e
      rw [hd k' (by omega)] at this
      cases this
    · rcases Nat.eq_zero_or_pos t with h | h
      · subst h; rw [e, orb_zero hi]
      · obtain ⟨t', rfl⟩ : ∃ t', t = t' + 1 := ⟨t - 1, by omega⟩
        exact absurd (orb_back hc hn e).symm (hnd t' k' (by omega) (by omega))
  refine ⟨hk, hki, fun x => ⟨?_, fun ⟨t, _, e⟩ => ⟨t, e⟩⟩⟩
  rintro ⟨t, rfl⟩
  refine ⟨t % (k' + 1), Nat.mod_lt _ hk, ?_⟩
  have := orb_mul hki (t % (k' + 1)) (t / (k' + 1))
  rw [Nat.mul_comm, Nat.mod_add_div] at this
  exact this

open Classical in
/-- the coset of i, in ascending order -/
noncomputable def orbL (q n i : Nat) : List Nat := (List.range n).filter fun x => decide (InO q n i x)
open Classical in
noncomputable def mins (q n m : Nat) : List Nat := (List.range m).filter fun i => decide (∀ x, InO q n i x → i ≤ x)
/-- all cosets -/
noncomputable def cosN (q n : Nat) : List (List Nat) := (mins q n n).map (orbL q n)

open Classical in
theorem mem_orbL {q n i x : Nat} (hn : 0 < n) : x ∈ orbL q n i ↔ InO q n i x := by
  unfold orbL
  rw [List.mem_filter, List.mem_range, decide_eq_true_iff]
  exact ⟨fun h => h.2, fun h => ⟨h.lt hn, h⟩⟩
theorem orbL_sorted (q n i : Nat) : (orbL q n i).Pairwise (· < ·) := List.pairwise_lt_range.filter _
open Classical in
theorem mem_mins {q n m i : Nat} : i ∈ mins q n m ↔ i < m ∧ ∀ x, InO q n i x → i ≤ x := by
  unfold mins
  rw [List.mem_filter, List.mem_range, decide_eq_true_iff]
theorem mins_sorted (q n m : Nat) : (mins q n m).Pairwise (· < ·) := List.pairwise_lt_range.filter _
open Classical in
theorem mins_succ (q n m : Nat) : mins q n (m + 1) = if (∀ x, InO q n m x → m ≤ x) then mins q n m ++ [m] else mins q n m := by
  unfold mins
  rw [List.range_succ, List.filter_append]
  split
  · rename_i h; rw [List.filter_cons_of_pos (by simpa using h)]; rfl
  · rename_i h; rw [List.filter_cons_of_neg (by simpa using h)]; simp

/-- each member lies in one coset alone -/
theorem cosN_cover {q n x : Nat} (hc : Nat.Coprime q n) (hx : x < n) : ∃ i, i ∈ mins q n n ∧ InO q n i x := by
  have hn : 0 < n := by omega
  have key : ∀ m y, y < m → InO q n y x → y < n → ∃ i, i ∈ mins q n n ∧ InO q n i x := by
    intro m
    induction m with
    | zero => intro y hy; omega
    | succ m ih =>
      intro y hy hyx hyn
      by_cases h : ∀ z, InO q n y z → y ≤ z
      · exact ⟨y, mem_mins.mpr ⟨hyn, h⟩, hyx⟩
      · obtain ⟨z, hz⟩ : ∃ z, InO q n y z ∧ z < y := by
          refine Classical.byContradiction fun hh => h fun z hz => ?_
          exact Nat.le_of_not_lt fun hlt => hh ⟨z, hz, hlt⟩
        exact ih z (by omega) ((hz.1.symm hc hyn).trans hyx) (by omega)
  exact key (x + 1) x (by omega) (.refl hx) hx
theorem cosN_one {q n x i j : Nat} (hc : Nat.Coprime q n) (hi : i ∈ mins q n n) (hj : j ∈ mins q n n) (h1 : InO q n i x) (h2 : InO q n j x) : i = j := by
  obtain ⟨a, b⟩ := mem_mins.mp hi
  obtain ⟨c, d⟩ := mem_mins.mp hj
  have e1 := b j (h1.trans (h2.symm hc c))
  have e2 := d i (h2.trans (h1.symm hc a))
  omega

end Go.Proofs.Ytdkdainipanacaa
