/- Marks in plain numbers: the partition by the cosets. No condition. -/
import Derived.Test.YtdkdainipanacaaD2
import Derived.Test.YtdkdainipanacaaP1
namespace Go.Proofs.Ytdkdainipanacaa
open Go Go.RowKit
set_option linter.unusedSimpArgs false
set_option linter.unusedVariables false
set_option linter.constructorNameAsVariable false

theorem countP_one {l : List Nat} {f : Nat → Bool} {y : Nat} (hnd : l.Nodup) (hy : y ∈ l) (hf : f y = false) : (l.countP fun x => f x || x == y) = l.countP f + 1 := by
  induction l with
  | nil => cases hy
  | cons z l ih =>
    obtain ⟨hz, hnd'⟩ := List.nodup_cons.mp hnd
    rw [List.countP_cons, List.countP_cons]
    by_cases e : z = y
    · subst e
      have : (l.countP fun x => f x || x == z) = l.countP f := by
        refine List.countP_congr fun x hx => ?_
        have : x ≠ z := fun h => hz (h ▸ hx)
        simp [this]
      rw [this, hf]; simp
    · have hy' : y ∈ l := by
        rcases List.mem_cons.mp hy with h | h
        · exact absurd h.symm e
        · exact h
      rw [ih hnd' hy']
      simp [e]; omega

/-- a list of numbers kept by a function -/
def tab (n : Nat) (f : Nat → Int) : List AV := (List.range n).map fun x => I (f x)
theorem tab_len (n : Nat) (f : Nat → Int) : (tab n f).length = n := by simp [tab]
theorem tab_get {n x : Nat} (f : Nat → Int) (h : x < n) : (tab n f)[x]? = some (I (f x)) := by simp [tab, h]
theorem tab_rep (n : Nat) (c : Int) : List.replicate n (I c) = tab n fun _ => c := by simp [tab, List.map_const']
theorem tab_set {n x : Nat} (f : Nat → Int) (c : Int) (h : x < n) : (tab n f).set x (I c) = tab n fun y => if y = x then c else f y := by
  apply List.ext_getElem?
  intro y
  rw [List.getElem?_set]
  by_cases hy : y < n
  · rw [tab_get _ hy, tab_get _ hy, tab_len]
    by_cases e : x = y
    · subst e; simp [h]
    · rw [if_neg e, if_neg (Ne.symm e)]
  · rw [List.getElem?_eq_none (by rw [tab_len]; omega), tab_len]
    by_cases e : x = y
    · omega
    · rw [if_neg e, List.getElem?_eq_none (by rw [tab_len]; omega)]
theorem tab_rd {H : AH} {sid n x : Nat} {f : Nat → Int} {rw sz} (h : H sid = some ⟨tab n f, rw, sz⟩) (hx : x < n) : rdc H sid x = some (I (f x)) := by
  unfold rdc
  rw [h]
  exact tab_get _ hx

/-- what the walk over the rows has marked: rows ahead of k whole, of row k the first i -/
structure Marked (ls : List (List Nat)) (n k i : Nat) (h : Nat → Int) (tot : Nat) : Prop where
  old : ∀ j r x, ls[j]? = some r → j < k → x ∈ r → h x = j + 1
  now : ∀ r j x, ls[k]? = some r → r[j]? = some x → j < i → h x = k + 1
  non : ∀ x, h x ≠ 0 → (∃ j r, ls[j]? = some r ∧ j < k ∧ x ∈ r) ∨ ∃ r j, ls[k]? = some r ∧ r[j]? = some x ∧ j < i
  tot : (List.range n).countP (fun x => h x != 0) = tot

theorem Marked.row {ls : List (List Nat)} {n k : Nat} {h : Nat → Int} {tot : Nat} {r : List Nat} (hr : ls[k]? = some r) (m : Marked ls n k r.length h tot) : Marked ls n (k + 1) 0 h tot := by
  refine ⟨?_, ?_, ?_, m.tot⟩
  · intro j r' x h1 h2 h3
    by_cases e : j = k
    · subst e
      rw [hr] at h1
      obtain rfl := Option.some.inj h1
      obtain ⟨j', h4⟩ := List.mem_iff_getElem?.mp h3
      exact m.now _ j' x hr h4 (List.getElem?_eq_some_iff.mp h4).1
    · exact m.old j r' x h1 (by omega) h3
  · intro r' j x _ _ h3; omega
  · intro x hx
    rcases m.non x hx with ⟨j, r', h1, h2, h3⟩ | ⟨r', j, h1, h2, h3⟩
    · exact .inl ⟨j, r', h1, by omega, h3⟩
    · rw [hr] at h1
      obtain rfl := Option.some.inj h1
      exact .inl ⟨k, r, hr, by omega, List.mem_iff_getElem?.mpr ⟨j, h2⟩⟩

theorem Marked.one {ls : List (List Nat)} {n k i : Nat} {h : Nat → Int} {tot : Nat} {r : List Nat} {x : Nat} (hr : ls[k]? = some r) (hx : r[i]? = some x) (hn : x < n) (h0 : h x = 0) (m : Marked ls n k i h tot) :
    Marked ls n k (i + 1) (fun y => if y = x then k + 1 else h y) (tot + 1) := by
  refine ⟨?_, ?_, ?_, ?_⟩
  · intro j r' y h1 h2 h3
    have h4 := m.old j r' y h1 h2 h3
    rw [if_neg]
    · exact h4
    · rintro rfl; rw [h0] at h4; omega
  · intro r' j y h1 h2 h3
    rw [hr] at h1
    obtain rfl := Option.some.inj h1
    by_cases e : y = x
    · rw [if_pos e]
    · rw [if_neg e]
      by_cases hj : j = i
      · subst hj; rw [hx] at h2; exact absurd (Option.some.inj h2).symm e
      · exact m.now r j y hr h2 (by omega)
  · intro y hy
    by_cases e : y = x
    · subst e; exact .inr ⟨r, i, hr, hx, by omega⟩
    · rw [if_neg e] at hy
      rcases m.non y hy with h1 | ⟨r', j, h1, h2, h3⟩
      · exact .inl h1
      · exact .inr ⟨r', j, h1, h2, by omega⟩
  · rw [← m.tot, ← countP_one (List.nodup_range) (List.mem_range.mpr hn) (by simp [h0])]
    refine List.countP_congr fun y _ => ?_
    by_cases e : y = x
    · subst e; simp; omega
    · simp [e]

theorem cosN_get {q n k : Nat} {r : List Nat} (h : (cosN q n)[k]? = some r) : ∃ i, (mins q n n)[k]? = some i ∧ r = orbL q n i := by
  rw [cosN, List.getElem?_map] at h
  cases e : (mins q n n)[k]? with
  | none => rw [e] at h; cases h
  | some i => rw [e] at h; exact ⟨i, rfl, (Option.some.inj h).symm⟩
theorem cosN_disj {q n j k x : Nat} {r r' : List Nat} (hc : Nat.Coprime q n) (hn : 0 < n) (h : (cosN q n)[j]? = some r) (h' : (cosN q n)[k]? = some r') (hx : x ∈ r) (hx' : x ∈ r') : j = k := by
  obtain ⟨i, h1, rfl⟩ := cosN_get h
  obtain ⟨i', h2, rfl⟩ := cosN_get h'
  have := cosN_one hc (List.mem_of_getElem? h1) (List.mem_of_getElem? h2) ((mem_orbL hn).mp hx) ((mem_orbL hn).mp hx')
  subst this
  have hnd : (mins q n n).Nodup := (mins_sorted q n n).imp fun h => by omega
  have hj := (List.getElem?_eq_some_iff.mp h1).1
  exact (List.getElem?_inj hj hnd).mp (h1.trans h2.symm)
theorem cosN_nodup {q n k : Nat} {r : List Nat} (h : (cosN q n)[k]? = some r) : r.Nodup := by
  obtain ⟨i, _, rfl⟩ := cosN_get h
  exact (orbL_sorted q n i).imp fun h => by omega
theorem cosN_lt {q n k x : Nat} {r : List Nat} (hn : 0 < n) (h : (cosN q n)[k]? = some r) (hx : x ∈ r) : x < n := by
  obtain ⟨i, _, rfl⟩ := cosN_get h
  exact ((mem_orbL hn).mp hx).lt hn
theorem cosN_step {q n k x : Nat} {r : List Nat} (hn : 0 < n) (h : (cosN q n)[k]? = some r) (hx : x ∈ r) : x * q % n ∈ r := by
  obtain ⟨i, _, rfl⟩ := cosN_get h
  exact (mem_orbL hn).mpr ((mem_orbL hn).mp hx).step
theorem cosN_all {q n x : Nat} (hc : Nat.Coprime q n) (hx : x < n) : ∃ (k : Nat) (r : List Nat), (cosN q n)[k]? = some r ∧ x ∈ r := by
  obtain ⟨i, h1, h2⟩ := cosN_cover hc hx
  obtain ⟨k, hk⟩ := List.mem_iff_getElem?.mp h1
  exact ⟨k, orbL q n i, by rw [cosN, List.getElem?_map, hk]; rfl, (mem_orbL (by omega)).mpr h2⟩

theorem cosN_len' (q n : Nat) : (cosN q n).length ≤ n := by
  rw [cosN, List.length_map]
  exact Nat.le_trans (List.length_filter_le _ _) (by simp)
theorem Marked.start (ls : List (List Nat)) (n : Nat) : Marked ls n 0 0 (fun _ => 0) 0 := by
  refine ⟨?_, ?_, ?_, ?_⟩
  · intro j r x _ h; omega
  · intro r j x _ _ h; omega
  · intro x h; exact absurd rfl h
  · exact List.countP_eq_zero.mpr (by simp)
theorem Marked.le {ls : List (List Nat)} {n k i : Nat} {h : Nat → Int} {tot : Nat} (m : Marked ls n k i h tot) : tot ≤ n := by
  rw [← m.tot]
  exact Nat.le_trans List.countP_le_length (by simp)
theorem Marked.fresh {q n k i x : Nat} {h : Nat → Int} {tot : Nat} {r : List Nat} (hc : Nat.Coprime q n) (hn : 0 < n) (m : Marked (cosN q n) n k i h tot) (hr : (cosN q n)[k]? = some r) (hx : r[i]? = some x) : h x = 0 := by
  refine Classical.byContradiction fun h0 => ?_
  rcases m.non x h0 with ⟨j, r', h1, h2, h3⟩ | ⟨r', j, h1, h2, h3⟩
  · have := cosN_disj hc hn h1 hr h3 (List.mem_of_getElem? hx)
    omega
  · rw [hr] at h1
    obtain rfl := Option.some.inj h1
    have hj := (List.getElem?_eq_some_iff.mp h2).1
    have := (List.getElem?_inj hj (cosN_nodup hr)).mp (h2.trans hx.symm)
    omega
theorem Marked.same {q n x : Nat} {h : Nat → Int} {tot : Nat} (hc : Nat.Coprime q n) (m : Marked (cosN q n) n (cosN q n).length 0 h tot) (hx : x < n) : h x = h (x * q % n) := by
  obtain ⟨k, r, h1, h2⟩ := cosN_all hc hx
  have hk := (List.getElem?_eq_some_iff.mp h1).1
  rw [m.old k r x h1 hk h2, m.old k r _ h1 hk (cosN_step (by omega) h1 h2)]
theorem Marked.full {q n : Nat} {h : Nat → Int} {tot : Nat} (hc : Nat.Coprime q n) (m : Marked (cosN q n) n (cosN q n).length 0 h tot) : tot = n := by
  rw [← m.tot]
  have : (List.range n).countP (fun x => h x != 0) = (List.range n).length := by
    refine List.countP_eq_length.mpr fun x hx => ?_
    obtain ⟨k, r, h1, h2⟩ := cosN_all hc (List.mem_range.mp hx)
    rw [m.old k r x h1 (List.getElem?_eq_some_iff.mp h1).1 h2]
    simp; omega
  rw [this, List.length_range]

end Go.Proofs.Ytdkdainipanacaa
