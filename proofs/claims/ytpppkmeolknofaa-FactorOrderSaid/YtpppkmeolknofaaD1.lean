/- Lists in memory: a slice that reads as a list of ints; arrays of one's own. No condition. -/
import Derived.Test.YtpppkmeolknofaaC0
namespace Go.Proofs.Ytpppkmeolknofaa
open Go Go.RowKit
set_option linter.unusedSimpArgs false
set_option linter.unusedVariables false
set_option linter.constructorNameAsVariable false

/-- x reads as the list l of ints -/
def IntS (H : AH) (x : AV) (l : List Int) : Prop :=
  (l = [] ∧ (x = .ns ∨ x = .es)) ∨ ∃ id off ob, x = .s id off l.length ∧ H id = some ob ∧ ob.sz = 1 ∧ off + l.length ≤ ob.cells.length ∧ (ob.cells.drop off).take l.length = l.map I

theorem IntS.mono {H H' : AH} (hl : HLe H H') {x : AV} {l : List Int} (h : IntS H x l) : IntS H' x l := by
  rcases h with h | ⟨id, off, ob, h1, h2, h3⟩
  · exact .inl h
  · exact .inr ⟨id, off, ob, h1, hl _ _ h2, h3⟩

theorem IntS.own {H : AH} {id : Nat} {l : List Int} {rw : Bool} (h : H id = some ⟨l.map I, rw, 1⟩) : IntS H (.s id 0 l.length) l :=
  .inr ⟨id, 0, _, rfl, h, rfl, by simp, by simp [List.take_of_length_le]⟩

theorem rdc_map {α : Type} {H : AH} {id j : Nat} {l : List α} {f : α → AV} {rw : Bool} {sz : Nat} {v : α} (h : H id = some ⟨l.map f, rw, sz⟩) (hv : l[j]? = some v) : rdc H id j = some (f v) := by
  unfold rdc
  rw [h]
  show (l.map f)[j]? = _
  rw [List.getElem?_map, hv]; rfl

theorem part_get {cells : List AV} {off n j : Nat} {l : List Int} (hn : l.length = n) (h : (cells.drop off).take n = l.map I) {v : Int} (hv : l[j]? = some v) : cells[off + j]? = some (I v) := by
  have hj : j < n := by rw [← hn]; exact (List.getElem?_eq_some_iff.mp hv).1
  have := congrArg (fun z => z[j]?) h
  simp only [List.getElem?_take, if_pos hj, List.getElem?_drop, List.getElem?_map, hv, Option.map_some] at this
  exact this

theorem IntS.rd {H : AH} {id off n j : Nat} {l : List Int} (h : IntS H (.s id off n) l) {v : Int} (hv : l[j]? = some v) : n = l.length ∧ rdc H id (off + j) = some (I v) := by
  rcases h with ⟨_, h | h⟩ | ⟨id', off', ob, h1, h2, h3, h4, h5⟩
  · cases h
  · cases h
  · cases h1
    refine ⟨rfl, ?_⟩
    unfold rdc
    rw [h2]
    exact part_get rfl h5 hv

theorem IntS.len {H : AH} {id off n : Nat} {l : List Int} (h : IntS H (.s id off n) l) : n = l.length := by
  rcases h with ⟨_, h | h⟩ | ⟨id', off', ob, h1, h2⟩
  · cases h
  · cases h
  · cases h1; rfl

/-- the shapes of a slice of ints -/
theorem IntS.cases {H : AH} {x : AV} {l : List Int} (h : IntS H x l) : (l = [] ∧ x = .ns) ∨ (l = [] ∧ x = .es) ∨ ∃ id off, x = .s id off l.length := by
  rcases h with ⟨h, e | e⟩ | ⟨id, off, ob, h1, _⟩
  · exact .inl ⟨h, e⟩
  · exact .inr (.inl ⟨h, e⟩)
  · exact .inr (.inr ⟨id, off, h1⟩)

theorem IntS.src {H : AH} {x : AV} {l : List Int} (h : IntS H x l) : Go.Proofs.Ytpppkmeolknofaa.src H 1 x = some (l.length, l.map I) := by
  rcases h with ⟨rfl, rfl | rfl⟩ | ⟨id, off, ob, rfl, h2, h3, h4, h5⟩
  · rfl
  · rfl
  · show (H id).bind _ = _
    rw [h2]
    show (if off + l.length * 1 ≤ ob.cells.length then _ else _) = _
    rw [Nat.mul_one, if_pos h4, h5]

theorem splice_one {α : Type} {l : List α} {j : Nat} {v : α} (h : j < l.length) : splice l j [v] = l.set j v := by
  apply List.ext_getElem?
  intro k
  rw [splice_get _ _ _ (by simp; omega)]
  by_cases e : k = j
  · subst e; rw [if_pos (by simp), List.getElem?_set_self h]; simp
  · rw [if_neg (by simp; omega), List.getElem?_set_ne (Ne.symm e)]

theorem splice_map {α : Type} {l : List α} {f : α → AV} {j : Nat} {v : α} (h : j < l.length) : splice (l.map f) j [f v] = (l.set j v).map f := by
  rw [splice_one (by simpa using h), List.map_set]

theorem rdc_ne {H : AH} {id j off : Nat} {ob : AObj} (h : j ≠ id) : rdc (upd H id ob) j off = rdc H j off := by unfold rdc; rw [upd_ne _ _ h]
theorem ne_fresh {H : AH} {i j : Nat} {ob : AObj} (h : H i = some ob) (k : H j = none) : i ≠ j := fun e => by rw [e, k] at h; cases h
theorem upd_upd {α : Type} (H : Nat → Option α) (i : Nat) (x y : α) : upd (upd H i x) i y = upd H i y := by
  funext t
  by_cases q : t = i
  · subst q; rw [upd_same, upd_same]
  · rw [upd_ne _ _ q, upd_ne _ _ q, upd_ne _ _ q]
theorem HLe.upd_of {H H' : AH} (h : HLe H H') {id : Nat} (hid : H id = none) (ob : AObj) : HLe H (upd H' id ob) := by
  intro j o hj
  have : j ≠ id := fun q => by rw [q, hid] at hj; cases hj
  rw [upd_ne _ _ this]; exact h _ _ hj
/-- one's own array changes: what was there ahead of it stays -/
theorem HLe.set {H : AH} {id : Nat} {ob ob' : AObj} (hid : H id = none) : HLe (upd H id ob) (upd (upd H id ob) id ob') → True := fun _ => trivial

end Go.Proofs.Ytpppkmeolknofaa
