/- Contract of cyclic.Cosets. Condition: the sort's contract holds of the program. -/
import Derived.Test.YtdkdainipanacaaF1
import Derived.Test.YtdkdainipanacaaD2
import Derived.Test.YtdkdainipanacaaL1
namespace Go.Proofs.Ytdkdainipanacaa
open Go Go.RowKit
set_option linter.unusedSimpArgs false
set_option linter.unusedVariables false
set_option linter.constructorNameAsVariable false
attribute [local irreducible] aopL W

/-- marks, as the program keeps them -/
def marks (n : Nat) (f : Nat → Bool) : List AV := (List.range n).map fun x => AV.b (f x)
theorem marks_len (n : Nat) (f : Nat → Bool) : (marks n f).length = n := by simp [marks]
theorem marks_get {n x : Nat} (f : Nat → Bool) (h : x < n) : (marks n f)[x]? = some (.b (f x)) := by simp [marks, h]
theorem marks_rep (n : Nat) : List.replicate n (AV.b false) = marks n fun _ => false := by
  simp [marks, List.map_const']
theorem marks_set {n x : Nat} (f : Nat → Bool) (h : x < n) : (marks n f).set x (.b true) = marks n fun y => f y || y == x := by
  apply List.ext_getElem?
  intro y
  rw [List.getElem?_set]
  by_cases hy : y < n
  · rw [marks_get _ hy, marks_get _ hy, marks_len]
    by_cases e : x = y
    · subst e; simp [h]
    · rw [if_neg e]; simp [Ne.symm e]
  · rw [List.getElem?_eq_none (by rw [marks_len]; omega), marks_len]
    by_cases e : x = y
    · omega
    · rw [if_neg e, List.getElem?_eq_none (by rw [marks_len]; omega)]

theorem seen_rd {H : AH} {sid n x : Nat} {f : Nat → Bool} (h : H sid = some ⟨marks n f, true, 1⟩) (hx : x < n) : rdc H sid x = some (.b (f x)) := by
  unfold rdc
  rw [h]
  show (marks n f)[x]? = _
  rw [marks_get _ hx]

/-- marks after k steps of one coset -/
def mk (q n i : Nat) (f : Nat → Bool) (k : Nat) (x : Nat) : Bool := f x || (List.range k).any fun t => x == orb q n i t
theorem mk_zero (q n i : Nat) (f : Nat → Bool) : mk q n i f 0 = f := by funext x; simp [mk]
theorem mk_succ (q n i : Nat) (f : Nat → Bool) (k : Nat) : (fun y => mk q n i f k y || y == orb q n i k) = mk q n i f (k + 1) := by
  funext y; simp [mk, List.range_succ, Bool.or_assoc]
theorem mk_true {q n i : Nat} {f : Nat → Bool} {k x : Nat} : mk q n i f k x = true ↔ f x = true ∨ ∃ t, t < k ∧ x = orb q n i t := by
  simp [mk]

def orbI (q n i k : Nat) : List Int := (List.range k).map fun t => (orb q n i t : Int)
theorem orbI_succ (q n i k : Nat) : (orbI q n i k).map I ++ [I (orb q n i k)] = (orbI q n i (k + 1)).map I := by simp [orbI, List.range_succ]
theorem orbI_len (q n i k : Nat) : ((orbI q n i k).map I).length = k := by simp [orbI]

theorem orb_bound {q n i k : Nat} (hn : 0 < n) (hnd : ∀ s t, s < t → t < k → orb q n i s ≠ orb q n i t) : k ≤ n := by
  have h : ((List.range k).map (orb q n i)).Nodup := by
    rw [List.Nodup, List.pairwise_map]
    have : (List.range k).Pairwise fun a b => a < b ∧ a ∈ List.range k ∧ b ∈ List.range k := by
      have h1 : (List.range k).Pairwise (· < ·) := List.pairwise_lt_range
      exact List.Pairwise.and_mem.mp h1 |>.imp fun h => ⟨h.2.2, h.1, h.2.1⟩
    exact this.imp fun hab => hnd _ _ hab.1 (List.mem_range.mp hab.2.2)
  have := h.length_le_of_subset (l₂ := List.range n) (fun x hx => by
    obtain ⟨t, _, rfl⟩ := List.mem_map.mp hx
    exact List.mem_range.mpr (orb_lt hn))
  simpa using this

def toI (l : List Nat) : List Int := l.map Int.ofNat
/-- the coset, sorted -/
theorem orb_sort {q n i k : Nat} (hn : 0 < n) (hnd : ∀ s t, s < t → t < k → orb q n i s ≠ orb q n i t) (hall : ∀ x, InO q n i x ↔ ∃ t, t < k ∧ x = orb q n i t) :
    ((orbI q n i k).mergeSort fun x y => decide (x ≤ y)) = toI (orbL q n i) := by
  have htot : ∀ a b : Int, (decide (a ≤ b) || decide (b ≤ a)) = true := by intro a b; simp; omega
  have htr : ∀ a b c : Int, decide (a ≤ b) = true → decide (b ≤ c) = true → decide (a ≤ c) = true := by intro a b c; simp; omega
  have h1 : (orbI q n i k).Nodup := by
    rw [List.Nodup, orbI, List.pairwise_map]
    have h2 : (List.range k).Pairwise (· < ·) := List.pairwise_lt_range
    exact (List.Pairwise.and_mem.mp h2).imp fun {s t} h e => hnd s t h.2.2 (List.mem_range.mp h.2.1) (Int.ofNat.inj e)
  have hs : (toI (orbL q n i)).Pairwise (· < ·) := by
    rw [toI, List.pairwise_map]
    exact (orbL_sorted q n i).imp fun h => Int.ofNat_lt.mpr h
  refine List.Perm.eq_of_pairwise (le := fun a b : Int => a ≤ b) (fun a b _ _ h h' => by omega) ?_ (hs.imp fun h => by omega) ?_
  · exact (List.pairwise_mergeSort htr htot _).imp fun h => by simpa using h
  · refine (List.mergeSort_perm _ _).trans ?_
    rw [List.perm_ext_iff_of_nodup h1 (hs.imp fun h => by omega)]
    intro x
    unfold orbI toI
    rw [List.mem_map, List.mem_map]
    constructor
    · rintro ⟨t, ht, rfl⟩
      exact ⟨orb q n i t, (mem_orbL hn).mpr ⟨t, rfl⟩, rfl⟩
    · rintro ⟨y, hy, rfl⟩
      obtain ⟨t, ht, rfl⟩ := (hall y).mp ((mem_orbL hn).mp hy)
      exact ⟨t, List.mem_range.mpr ht, rfl⟩

theorem orbL_len {q n i k : Nat} (hn : 0 < n) (hnd : ∀ s t, s < t → t < k → orb q n i s ≠ orb q n i t) (hall : ∀ x, InO q n i x ↔ ∃ t, t < k ∧ x = orb q n i t) : (orbL q n i).length = k := by
  have := congrArg List.length (orb_sort hn hnd hall)
  rw [List.length_mergeSort] at this
  simpa [orbI, toI] using this.symm
theorem toI_len (l : List Nat) : (toI l).length = l.length := by simp [toI]

end Go.Proofs.Ytdkdainipanacaa
