/- Heaps by parts, appends of one, slices of slices. No condition. -/
import Derived.Test.YtpppkmeolknofaaD1
namespace Go.Proofs.Ytpppkmeolknofaa
open Go Go.RowKit
set_option linter.unusedSimpArgs false
set_option linter.unusedVariables false
set_option linter.constructorNameAsVariable false

theorem upd_get {α : Type} (H : Nat → Option α) (i : Nat) (x : α) (j : Nat) : upd H i x j = if j = i then some x else H j := by
  by_cases h : j = i
  · subst h; rw [upd_same, if_pos rfl]
  · rw [upd_ne _ _ h, if_neg h]
theorem del_get {α : Type} (H : Nat → Option α) (i : Nat) (j : Nat) : del H i j = if j = i then none else H j := by
  by_cases h : j = i
  · subst h; rw [del_same, if_pos rfl]
  · rw [del_ne _ h, if_neg h]
theorem HLe.put {A B : AH} {i : Nat} {ob : AObj} (h : HLe A B) (hb : B i = some ob) : HLe (upd A i ob) B := by
  intro j o hj
  rw [upd_get] at hj
  split at hj
  · rename_i e; rw [e, hb]; exact hj
  · exact h _ _ hj
theorem HLe.del_of {A B : AH} {i : Nat} (h : HLe A B) (hi : A i = none) : HLe A (Go.Proofs.Ytpppkmeolknofaa.del B i) := by
  intro j o hj
  rw [del_get, if_neg]
  · exact h _ _ hj
  · intro e; rw [e, hi] at hj; cases hj
theorem HLe.upd_to {A B : AH} {i : Nat} {ob : AObj} (h : HLe A B) (hi : A i = none) : HLe A (upd B i ob) := h.upd_of hi ob
theorem HLe.absent {A B : AH} (h : HLe A B) {i : Nat} (hi : B i = none) : A i = none := by
  cases e : A i with
  | none => rfl
  | some o => rw [h _ _ e] at hi; cases hi
/-- one object set apart -/
theorem HLe.apart {A B : AH} {i : Nat} (h : HLe A B) (hi : A i = none) : HLe A (Go.Proofs.Ytpppkmeolknofaa.del B i) := h.del_of hi

variable {P : Program} {pv : Bool} {rs : List SOp} {a : Nat → AV} {H : AH} {K : (Nat → AV) → AH → Prop}
/-- one value is appended to nothing -/
theorem apN {d1 d2 j by_ : Nat} {z v : AV} {y : SV} (hx : a j = .ns) (hj : j ≠ d1) (hv : evS a y = v) (hc : cellsOf v = some [v]) (hb : by_ ≤ 1024)
    (k : ∀ t, H t = none → ∀ id, upd H t ⟨[v], true, 1⟩ id = none → aopL P false rs (put (put a d1 (.s t 0 1)) d2 (.s id 0 1)) (upd (upd H t ⟨[v], true, 1⟩) id ⟨[v], true, 1⟩) K) :
    aopL P false (⟨some d1, .bs 1 [z] 1 [(0, y)], none⟩ :: ⟨some d2, .ap 1 by_ (.t j) (.t d1), none⟩ :: rs) a H K := by
  refine bL (cs := [v]) ?_ ?_
  · show afill _ _ [(0, evS a y)] = _
    rw [hv]; simp [afill, hc, splice]
  intro t ht
  refine ⟨1, [v], ?_, .inl ⟨?_, ?_, ?_⟩⟩
  · show src _ 1 (put a d1 _ d1) = _
    rw [put_eq]; simp [src, upd_same]
  · show put a d1 _ j = _ ∨ _
    rw [put_ne hj]; exact .inl hx
  · intro h; omega
  · intro _
    refine ⟨by omega, by decide, ?_⟩
    intro id hid
    exact ⟨fun e => (by cases e), k t ht id hid⟩

/-- one value is appended to one's own slice -/
theorem apS {d1 d2 j by_ id len : Nat} {z v : AV} {y : SV} {cells : List AV} (hx : a j = .s id 0 len) (ho : H id = some ⟨cells, true, 1⟩) (hl : cells.length = len) (hj : j ≠ d1) (hv : evS a y = v) (hc : cellsOf v = some [v])
    (hb : by_ ≤ 1024) (hn : len ≤ 100000000)
    (k : ∀ t, H t = none → t ≠ id → ∀ i, i ≠ t → H i = none → i ≠ id → aopL P false rs (put (put a d1 (.s t 0 1)) d2 (.s i 0 (len + 1))) (upd (del (upd H t ⟨[v], true, 1⟩) id) i ⟨cells ++ [v], true, 1⟩) K) :
    aopL P false (⟨some d1, .bs 1 [z] 1 [(0, y)], none⟩ :: ⟨some d2, .ap 1 by_ (.t j) (.t d1), none⟩ :: rs) a H K := by
  refine bL (cs := [v]) ?_ ?_
  · show afill _ _ [(0, evS a y)] = _
    rw [hv]; simp [afill, hc, splice]
  intro t ht
  have hti : t ≠ id := fun e => by rw [e, ho] at ht; cases ht
  refine ⟨1, [v], ?_, .inr ⟨id, 0, len, ⟨cells, true, 1⟩, ?_, ?_, rfl, rfl, ?_, ?_, ?_, ?_⟩⟩
  · show src _ 1 (put a d1 _ d1) = _
    rw [put_eq]; simp [src, upd_same]
  · show put a d1 _ j = _
    rw [put_ne hj]; exact hx
  · rw [upd_ne _ _ (Ne.symm hti)]; exact ho
  · simp [hl]
  · calc (len + 1) * by_ ≤ 100000001 * 1024 := Nat.mul_le_mul (by omega) hb
      _ ≤ _ := by decide
  · exact Nat.le_trans (show len + 1 ≤ 100000001 by omega) (by decide)
  · intro i hi
    rw [upd_get] at hi
    split at hi
    · cases hi
    · rename_i hit
      have := k t ht hti i hit hi (fun e => by rw [e, ho] at hi; cases hi)
      refine ⟨fun e => (by cases e), ?_⟩
      have e : (List.drop 0 cells).take (len * 1) = cells := by rw [List.drop_zero, Nat.mul_one, ← hl, List.take_length]
      rw [e]
      exact this

theorem bRN {x y : SV} {d m l : Nat} (hx : evS a x = I (m : Int)) (hy : evS a y = I (l : Int)) (h1 : 0 < l) (k : aopL P pv rs (put a d (I ((m % l : Nat) : Int))) H K) : aopL P pv (⟨some d, .bin .rem x y, none⟩ :: rs) a H K :=
  bR hx hy (Int.natCast_nonneg m) (by omega) (by rw [← Int.natCast_emod]; exact k)
theorem bQN {x y : SV} {d m l : Nat} (hx : evS a x = I (m : Int)) (hy : evS a y = I (l : Int)) (h1 : 0 < l) (h2 : m ≤ 9223372036854775807) (k : aopL P pv rs (put a d (I ((m / l : Nat) : Int))) H K) : aopL P pv (⟨some d, .bin .quo x y, none⟩ :: rs) a H K :=
  bQ hx hy ⟨Int.natCast_nonneg m, by omega⟩ (by omega) (by rw [← Int.natCast_ediv]; exact k)
theorem bMN {x y : SV} {d m l : Nat} (hx : evS a x = I (m : Int)) (hy : evS a y = I (l : Int)) (h2 : m * l ≤ 9223372036854775807) (k : aopL P pv rs (put a d (I ((m * l : Nat) : Int))) H K) : aopL P pv (⟨some d, .bin .mul x y, none⟩ :: rs) a H K := by
  have e : ((m * l : Nat) : Int) = (m : Int) * (l : Int) := Int.natCast_mul _ _
  exact bM hx hy (by rw [← e]; omega) (by rw [← e]; exact k)
theorem bAN {x y : SV} {d m l : Nat} (hx : evS a x = I (m : Int)) (hy : evS a y = I (l : Int)) (h2 : m + l ≤ 9223372036854775807) (k : aopL P pv rs (put a d (I ((m + l : Nat) : Int))) H K) : aopL P pv (⟨some d, .bin .add x y, none⟩ :: rs) a H K := by
  have e : ((m + l : Nat) : Int) = (m : Int) + (l : Int) := Int.natCast_add _ _
  exact bA hx hy (by rw [← e]; omega) (by rw [← e]; exact k)
theorem bSN {x y : SV} {d m l : Nat} (hx : evS a x = I (m : Int)) (hy : evS a y = I (l : Int)) (h2 : l ≤ m) (h3 : m ≤ 9223372036854775807) (k : aopL P pv rs (put a d (I ((m - l : Nat) : Int))) H K) : aopL P pv (⟨some d, .bin .sub x y, none⟩ :: rs) a H K := by
  have e : ((m - l : Nat) : Int) = (m : Int) - (l : Int) := Int.natCast_sub h2
  exact bS hx hy (by rw [← e]; omega) (by rw [← e]; exact k)
/-- one value is stored -/
theorem sV {x y : SV} {id off sz : Nat} {cells : List AV} {v : AV} (hx : evS a x = .p id off) (ho : H id = some ⟨cells, true, sz⟩) (hv : evS a y = v) (hc : cellsOf v = some [v]) (hi : off < cells.length)
    (k : aopL P pv rs a (upd H id ⟨cells.set off v, true, sz⟩) K) : aopL P pv (⟨none, .st 1 x y, none⟩ :: rs) a H K := by
  refine sT hx ho rfl (cs := [v]) (by rw [hv]; exact hc) rfl (by simp only; omega) ?_
  rw [splice_one hi]; exact k

/-- x is a slice that holds the cells cs -/
def Cs (H : AH) (x : AV) (cs : List AV) : Prop :=
  (cs = [] ∧ (x = .ns ∨ x = .es)) ∨ ∃ id off ob, x = .s id off cs.length ∧ H id = some ob ∧ ob.sz = 1 ∧ off + cs.length ≤ ob.cells.length ∧ (ob.cells.drop off).take cs.length = cs
theorem Cs.mono {H H' : AH} (hl : HLe H H') {x : AV} {l : List AV} (h : Cs H x l) : Cs H' x l := by
  rcases h with h | ⟨id, off, ob, h1, h2, h3⟩
  · exact .inl h
  · exact .inr ⟨id, off, ob, h1, hl _ _ h2, h3⟩
theorem Cs.own {H : AH} {id : Nat} {l : List AV} {rw : Bool} (h : H id = some ⟨l, rw, 1⟩) : Cs H (.s id 0 l.length) l :=
  .inr ⟨id, 0, _, rfl, h, rfl, by simp, by simp [List.take_of_length_le]⟩
theorem Cs.cases {H : AH} {x : AV} {l : List AV} (h : Cs H x l) : (l = [] ∧ x = .ns) ∨ (l = [] ∧ x = .es) ∨ ∃ id off, x = .s id off l.length := by
  rcases h with ⟨h, e | e⟩ | ⟨id, off, ob, h1, _⟩
  · exact .inl ⟨h, e⟩
  · exact .inr (.inl ⟨h, e⟩)
  · exact .inr (.inr ⟨id, off, h1⟩)
theorem Cs.rd {H : AH} {id off n j : Nat} {l : List AV} (h : Cs H (.s id off n) l) {v : AV} (hv : l[j]? = some v) : n = l.length ∧ rdc H id (off + j) = some v := by
  rcases h with ⟨_, h | h⟩ | ⟨id', off', ob, h1, h2, h3, h4, h5⟩
  · cases h
  · cases h
  · cases h1
    refine ⟨rfl, ?_⟩
    unfold rdc
    rw [h2]
    have hj : j < l.length := (List.getElem?_eq_some_iff.mp hv).1
    have := congrArg (fun z => z[j]?) h5
    simp only [List.getElem?_take, if_pos hj, List.getElem?_drop, hv] at this
    exact this
/-- the length of a slice that holds cs -/
theorem lC {x : SV} {d : Nat} {v : AV} {cs : List AV} (hx : evS a x = v) (hc : Cs H v cs) (k : aopL P pv rs (put a d (I cs.length)) H K) : aopL P pv (⟨some d, .ln x, none⟩ :: rs) a H K := by
  rcases hc.cases with ⟨h, e⟩ | ⟨h, e⟩ | ⟨id, off, e⟩
  · exact lNs (hx.trans e) (by subst h; exact k)
  · exact lEs (hx.trans e) (by subst h; exact k)
  · exact lS (hx.trans e) k
/-- a place of a slice that holds cs -/
theorem iC {x i : SV} {d m : Nat} {v w : AV} {cs : List AV} {kk : IntKind} (hx : evS a x = v) (hc : Cs H v cs) (hi : evS a i = .i kk (m : Int)) (hw : cs[m]? = some w)
    (k : ∀ id off, v = .s id off cs.length → rdc H id (off + m) = some w → aopL P pv rs (put a d (.p id (off + m))) H K) : aopL P pv (⟨some d, .ix 1 x i, none⟩ :: rs) a H K := by
  have hm : m < cs.length := (List.getElem?_eq_some_iff.mp hw).1
  rcases hc.cases with ⟨h, e⟩ | ⟨h, e⟩ | ⟨id, off, e⟩
  · subst h; exact absurd hm (by simp)
  · subst h; exact absurd hm (by simp)
  · subst e
    exact iX1 hx hi hm (k id off rfl (hc.rd hw).2)
theorem IntS.cs {H : AH} {x : AV} {l : List Int} (h : IntS H x l) : Cs H x (l.map I) := by
  rcases h with ⟨rfl, h⟩ | ⟨id, off, ob, h1, h2, h3, h4, h5⟩
  · exact .inl ⟨rfl, h⟩
  · exact .inr ⟨id, off, ob, by simpa using h1, h2, h3, by simpa using h4, by simpa using h5⟩
theorem Cs.ints {H : AH} {x : AV} {l : List Int} (h : Cs H x (l.map I)) : IntS H x l := by
  rcases h with ⟨h0, h⟩ | ⟨id, off, ob, h1, h2, h3, h4, h5⟩
  · exact .inl ⟨by simpa using h0, h⟩
  · exact .inr ⟨id, off, ob, by simpa using h1, h2, h3, by simpa using h4, by simpa using h5⟩

/-- each cell reads as the list beside it -/
def Rows2 (H : AH) (cs : List AV) (ls : List (List Int)) : Prop := cs.length = ls.length ∧ ∀ (i : Nat) (c : AV) (l : List Int), cs[i]? = some c → ls[i]? = some l → IntS H c l
theorem Rows2.nil (H : AH) : Rows2 H [] [] := ⟨rfl, by simp⟩
theorem Rows2.mono {H H' : AH} (hl : HLe H H') {cs : List AV} {ls : List (List Int)} (h : Rows2 H cs ls) : Rows2 H' cs ls := ⟨h.1, fun i c l a b => (h.2 i c l a b).mono hl⟩
theorem Rows2.snoc {H : AH} {cs : List AV} {ls : List (List Int)} (h : Rows2 H cs ls) {c : AV} {l : List Int} (hc : IntS H c l) : Rows2 H (cs ++ [c]) (ls ++ [l]) := by
  refine ⟨by simp [h.1], fun i c' l' h1 h2 => ?_⟩
  rw [List.getElem?_append] at h1 h2
  have := h.1
  split at h1
  · rename_i hlt
    rw [if_pos (by omega)] at h2
    exact h.2 i c' l' h1 h2
  · rename_i hlt
    rw [if_neg (by omega)] at h2
    have e1 : i - cs.length = 0 := by have := (List.getElem?_eq_some_iff.mp h1).1; simp at this; omega
    rw [e1] at h1; rw [show i - ls.length = 0 by omega] at h2
    simp at h1 h2
    subst h1; subst h2; exact hc

def RowsS (H : AH) (x : AV) (ls : List (List Int)) : Prop := ∃ cs, Cs H x cs ∧ Rows2 H cs ls
theorem RowsS.mono {H H' : AH} (hl : HLe H H') {x : AV} {ls : List (List Int)} (h : RowsS H x ls) : RowsS H' x ls := by
  obtain ⟨cs, h1, h2⟩ := h; exact ⟨cs, h1.mono hl, h2.mono hl⟩
theorem RowsS.nil (H : AH) : RowsS H .ns [] := ⟨[], .inl ⟨rfl, .inl rfl⟩, .nil H⟩
theorem RowsS.cases {H : AH} {x : AV} {ls : List (List Int)} (h : RowsS H x ls) : (ls = [] ∧ x = .ns) ∨ (ls = [] ∧ x = .es) ∨ ∃ id off, x = .s id off ls.length := by
  obtain ⟨cs, h1, h2, _⟩ := h
  rcases h1.cases with ⟨rfl, e⟩ | ⟨rfl, e⟩ | ⟨id, off, e⟩
  · exact .inl ⟨by simpa using h2.symm, e⟩
  · exact .inr (.inl ⟨by simpa using h2.symm, e⟩)
  · exact .inr (.inr ⟨id, off, by rw [← h2]; exact e⟩)
theorem RowsS.rd {H : AH} {id off n j : Nat} {ls : List (List Int)} (h : RowsS H (.s id off n) ls) {l : List Int} (hv : ls[j]? = some l) : n = ls.length ∧ ∃ c, rdc H id (off + j) = some c ∧ IntS H c l := by
  obtain ⟨cs, h1, h2, h3⟩ := h
  have hj : j < cs.length := by rw [h2]; exact (List.getElem?_eq_some_iff.mp hv).1
  have hc : cs[j]? = some cs[j] := List.getElem?_eq_getElem hj
  obtain ⟨k1, k2⟩ := h1.rd hc
  exact ⟨by rw [k1, h2], cs[j], k2, h3 j _ _ hc hv⟩

/-- the heap with one's own growing slice -/
def hpO (G : AH) (x : AV) (cells : List AV) : AH := match x with
  | .s id _ _ => upd G id ⟨cells, true, 1⟩
  | _ => G
def OwnS (G : AH) (x : AV) (cells : List AV) : Prop := (x = .ns ∧ cells = []) ∨ ∃ id, x = .s id 0 cells.length ∧ G id = none
theorem OwnS.nil (G : AH) : OwnS G .ns [] := .inl ⟨rfl, rfl⟩
theorem OwnS.sl {G : AH} {id : Nat} {cells : List AV} {n : Nat} (h : G id = none) (hn : cells.length = n) : OwnS G (.s id 0 n) cells := .inr ⟨id, by rw [hn], h⟩
theorem OwnS.low {G G' : AH} {x : AV} {cells : List AV} (hl : HLe G' G) (h : OwnS G x cells) : OwnS G' x cells := by
  rcases h with h | ⟨id, h1, h2⟩
  · exact .inl h
  · exact .inr ⟨id, h1, hl.absent h2⟩
theorem OwnS.same {G : AH} {x : AV} {cells : List AV} {s : Nat} {S S' : AObj} (h : OwnS (upd G s S) x cells) : OwnS (upd G s S') x cells := by
  rcases h with h | ⟨id, h1, h2⟩
  · exact .inl h
  · rw [upd_get] at h2
    split at h2
    · cases h2
    · rename_i hne
      exact .inr ⟨id, h1, by rw [upd_ne _ _ hne]; exact h2⟩
theorem OwnS.hle {G : AH} {x : AV} {cells : List AV} (h : OwnS G x cells) : HLe G (hpO G x cells) := by
  rcases h with ⟨rfl, _⟩ | ⟨id, rfl, h2⟩
  · exact .refl G
  · exact .upd_new h2 _
theorem OwnS.cs {G : AH} {x : AV} {cells : List AV} (h : OwnS G x cells) : Cs (hpO G x cells) x cells := by
  rcases h with ⟨rfl, rfl⟩ | ⟨id, rfl, h2⟩
  · exact .inl ⟨rfl, .inl rfl⟩
  · exact Cs.own (upd_same _ _ _)
theorem hpO_get {G : AH} {x : AV} {cells : List AV} (h : OwnS G x cells) {j : Nat} {ob : AObj} (hj : G j = some ob) : hpO G x cells j = some ob := h.hle _ _ hj
theorem hpO_upd {G : AH} {x : AV} {cells : List AV} {s : Nat} {S S' : AObj} (h : OwnS (upd G s S) x cells) : upd (hpO (upd G s S) x cells) s S' = hpO (upd G s S') x cells := by
  rcases h with ⟨rfl, _⟩ | ⟨id, rfl, h2⟩
  · exact upd_upd _ _ _ _
  · rw [upd_get] at h2
    split at h2
    · cases h2
    · rename_i hne
      show upd (upd (upd G s S) id _) s S' = upd (upd G s S') id _
      rw [upd_comm _ hne, upd_upd]
theorem hpO_comm {G : AH} {x : AV} {cells : List AV} {s : Nat} {S : AObj} (h : OwnS (upd G s S) x cells) : upd (hpO G x cells) s S = hpO (upd G s S) x cells := by
  rcases h with ⟨rfl, _⟩ | ⟨id, rfl, h2⟩
  · rfl
  · rw [upd_get] at h2
    split at h2
    · cases h2
    · rename_i hne
      exact upd_comm _ hne _ _
theorem HLe.hpO {A B : AH} {x : AV} {cells : List AV} (h : HLe A B) (hx : ∀ id, x = .s id 0 cells.length → B id = some ⟨cells, true, 1⟩) (ho : OwnS A x cells) : HLe (hpO A x cells) B := by
  rcases ho with ⟨rfl, _⟩ | ⟨id, rfl, _⟩
  · exact h
  · exact h.put (hx id rfl)
theorem HLe.upd_both {A B : AH} (h : HLe A B) (i : Nat) (ob : AObj) : HLe (upd A i ob) (upd B i ob) := by
  intro j o hj
  rw [upd_get] at hj ⊢
  split
  · rename_i e; rw [if_pos e] at hj; exact hj
  · rename_i e; rw [if_neg e] at hj; exact h _ _ hj
theorem HLe.hpO_both {A B : AH} (h : HLe A B) (x : AV) (cells : List AV) : HLe (Go.Proofs.Ytpppkmeolknofaa.hpO A x cells) (Go.Proofs.Ytpppkmeolknofaa.hpO B x cells) := by
  unfold Go.Proofs.Ytpppkmeolknofaa.hpO
  split
  · exact h.upd_both _ _
  · exact h

theorem OwnS.add {G : AH} {x : AV} {cells : List AV} {c : Nat} {C : AObj} (h : OwnS G x cells) (hc : hpO G x cells c = none) : OwnS (upd G c C) x cells := by
  rcases h with h | ⟨id, rfl, h2⟩
  · exact .inl h
  · have : c ≠ id := fun e => by rw [e, show hpO G (.s id 0 cells.length) cells id = some ⟨cells, true, 1⟩ from upd_same _ _ _] at hc; cases hc
    exact .inr ⟨id, rfl, by rw [upd_ne _ _ (Ne.symm this)]; exact h2⟩
theorem hpO_upd_self {G : AH} {id o n : Nat} {cells : List AV} {ob : AObj} : upd (hpO G (.s id o n) cells) id ob = upd G id ob := upd_upd _ _ _ _
theorem splice_all {l m : List AV} (h : l.length = m.length) : splice l 0 m = m := by
  apply List.ext_getElem?
  intro j
  rw [splice_get _ _ _ (by omega)]
  by_cases hj : j < m.length
  · rw [if_pos (by omega)]; rfl
  · rw [if_neg (by omega), List.getElem?_eq_none (by omega), List.getElem?_eq_none (by omega)]
/-- one value is appended to one's own slice, be it nil or not -/
theorem ap1 {G : AH} {x : AV} {cells : List AV} {d1 d2 j by_ : Nat} {z v : AV} {y : SV} (hH : H = hpO G x cells) (hO : OwnS G x cells) (hx : a j = x) (hj : j ≠ d1) (hv : evS a y = v) (hc : cellsOf v = some [v])
    (hb : by_ ≤ 1024) (hn : cells.length ≤ 100000000)
    (k : ∀ t i, G t = none → G i = none → i ≠ t → aopL P false rs (put (put a d1 (.s t 0 1)) d2 (.s i 0 (cells.length + 1))) (upd (upd G t ⟨[v], true, 1⟩) i ⟨cells ++ [v], true, 1⟩) K) :
    aopL P false (⟨some d1, .bs 1 [z] 1 [(0, y)], none⟩ :: ⟨some d2, .ap 1 by_ (.t j) (.t d1), none⟩ :: rs) a H K := by
  subst hH
  rcases hO with ⟨rfl, rfl⟩ | ⟨id, rfl, h2⟩
  · refine apN hx hj hv hc hb ?_
    intro t ht i hi
    rw [upd_get] at hi
    split at hi
    · cases hi
    · rename_i hne
      exact k t i ht hi hne
  · refine apS (id := id) (len := cells.length) (cells := cells) hx (upd_same _ _ _) rfl hj hv hc hb hn ?_
    intro t ht hti i hit hi hid
    rw [show hpO G (.s id 0 cells.length) cells = upd G id ⟨cells, true, 1⟩ from rfl] at *
    rw [upd_ne _ _ hti] at ht
    rw [upd_ne _ _ hid] at hi
    have e : del (upd (upd G id ⟨cells, true, 1⟩) t ⟨[v], true, 1⟩) id = upd G t ⟨[v], true, 1⟩ := by
      funext u
      rw [del_get, upd_get, upd_get, upd_get]
      by_cases hu : u = id
      · subst hu; rw [if_pos rfl, if_neg (Ne.symm hti), h2]
      · rw [if_neg hu, if_neg hu]
    rw [e]
    exact k t i ht hi hit

end Go.Proofs.Ytpppkmeolknofaa
