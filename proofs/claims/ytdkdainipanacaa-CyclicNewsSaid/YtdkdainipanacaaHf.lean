/- Contracts of matrix.check, open, clone, canon, Canonical. Condition: the arguments stand in memory. · Contracts of matrix.open, clone. Condition: the arguments stand in memory. · Contracts of matrix.canon, Canonical, code.length, own, of, New. Condition: the arguments stand in memory. -/
import Derived.Test.YtdkdainipanacaaHe
import Derived.Test.YtdkdainipanacaaXD
import Derived.Test.YtdkdainipanacaaG6
import Derived.Test.YtdkdainipanacaaGg
namespace Go.Proofs.Ytdkdainipanacaa
open Go Go.RowKit Alg
set_option linter.unusedSimpArgs false
set_option linter.unusedVariables false
set_option linter.constructorNameAsVariable false
set_option linter.unusedSectionVars false
attribute [local irreducible] aopL W

section
variable {D : Desc} [Desc.Ok D]
/-- x is a slice of n cells; cell i is a slice of the w values of row i of M -/
def MatS (H : AH) (x : AV) (n w : Nat) (M : Nat → Nat → El D) : Prop := ∃ cs, Cs H x cs ∧ cs.length = n ∧ ∀ i c, cs[i]? = some c → Cs H c (tabN w fun j => (M i j).v)
theorem MatS.mono {H H' : AH} {x : AV} {n w : Nat} {M : Nat → Nat → El D} (hl : HLe H H') (h : MatS H x n w M) : MatS H' x n w M := by
  obtain ⟨cs, h1, h2, h3⟩ := h; exact ⟨cs, h1.mono hl, h2, fun i c hi => (h3 i c hi).mono hl⟩
theorem MatS.congr {H : AH} {x : AV} {n w : Nat} {M N : Nat → Nat → El D} (h : MatS H x n w M) (e : ∀ i j, i < n → j < w → M i j = N i j) : MatS H x n w N := by
  obtain ⟨cs, h1, h2, h3⟩ := h
  refine ⟨cs, h1, h2, fun i c hi => ?_⟩
  have hin : i < n := by rw [← h2]; exact (List.getElem?_eq_some_iff.mp hi).1
  rw [tabN_congr fun j hj => congrArg El.v (e i j hin hj).symm]
  exact h3 i c hi
/-- the matrix of a list of lists -/
def matL (ls : List (List Int)) : Nat → Nat → El D := fun i j => el ((ls.getD i []).getD j 0)
theorem elems_tab {l : List Int} (h : Elems D.q l) : l.map I = tabN l.length fun j => (el (l.getD j 0) : El D).v := by
  apply List.ext_getElem?
  intro j
  by_cases hj : j < l.length
  · rw [tabN_get _ hj, List.getElem?_map, List.getElem?_eq_getElem hj, List.getD_eq_getElem?_getD, List.getElem?_eq_getElem hj]
    have := h _ (List.getElem_mem hj)
    show some (I l[j]) = some (I ((el l[j] : El D).v : Nat))
    rw [el_v, cin_in this]
    congr 2
    omega
  · rw [List.getElem?_eq_none (by simpa using hj), List.getElem?_eq_none (by rw [tabN_len]; omega)]
theorem RowsS.mat {H : AH} {x : AV} {ls : List (List Int)} {w : Nat} (h : RowsS H x ls) (hw : ∀ l, l ∈ ls → l.length = w) (he : ∀ l, l ∈ ls → Elems D.q l) : MatS H x ls.length w (matL ls : Nat → Nat → El D) := by
  obtain ⟨cs, h1, h2, h3⟩ := h
  refine ⟨cs, h1, h2, fun i c hi => ?_⟩
  have hin : i < ls.length := by rw [← h2]; exact (List.getElem?_eq_some_iff.mp hi).1
  have hl : ls[i]? = some ls[i] := List.getElem?_eq_getElem hin
  have hm := List.getElem_mem hin
  have hC := (h3 i c _ hi hl).cs
  rw [elems_tab (he _ hm), hw _ hm] at hC
  unfold matL
  rw [List.getD_eq_getElem?_getD, hl]
  exact hC

open Classical in
noncomputable def matE (q : Nat) (cols : Int) (ls : List (List Int)) : Int :=
  if cols < 0 ∨ 256 < cols ∨ 256 < ls.length ∨ ∃ l, l ∈ ls ∧ (l.length : Int) ≠ cols then 3 else if ∀ l, l ∈ ls → Elems q l then 0 else 2
theorem matE_shape {q : Nat} {cols : Int} {ls : List (List Int)} (h : cols < 0 ∨ 256 < cols ∨ 256 < ls.length ∨ ∃ l, l ∈ ls ∧ (l.length : Int) ≠ cols) : matE q cols ls = 3 := if_pos h
theorem matE_ok {q : Nat} {cols : Int} {ls : List (List Int)} (h0 : 0 ≤ cols) (h1 : cols ≤ 256) (h2 : ls.length ≤ 256) (h3 : ∀ l, l ∈ ls → (l.length : Int) = cols) (h4 : ∀ l, l ∈ ls → Elems q l) : matE q cols ls = 0 := by
  unfold matE
  rw [if_neg, if_pos h4]
  rintro (h | h | h | ⟨l, hl, h⟩)
  · omega
  · omega
  · omega
  · exact h (h3 l hl)
theorem matE_elem {q : Nat} {cols : Int} {ls : List (List Int)} (h0 : 0 ≤ cols) (h1 : cols ≤ 256) (h2 : ls.length ≤ 256) (h3 : ∀ l, l ∈ ls → (l.length : Int) = cols) (h4 : ¬ ∀ l, l ∈ ls → Elems q l) : matE q cols ls = 2 := by
  unfold matE
  rw [if_neg, if_neg h4]
  rintro (h | h | h | ⟨l, hl, h⟩)
  · omega
  · omega
  · omega
  · exact h (h3 l hl)
theorem matE_zero {q : Nat} {cols : Int} {ls : List (List Int)} (h : matE q cols ls = 0) : 0 ≤ cols ∧ cols ≤ 256 ∧ ls.length ≤ 256 ∧ (∀ l, l ∈ ls → (l.length : Int) = cols) ∧ ∀ l, l ∈ ls → Elems q l := by
  unfold matE at h
  split at h
  · cases h
  · rename_i h1
    split at h
    · rename_i h2
      refine ⟨?_, ?_, ?_, fun l hl => ?_, h2⟩
      · exact Int.not_lt.mp fun h => h1 (.inl h)
      · exact Int.not_lt.mp fun h => h1 (.inr (.inl h))
      · exact Nat.not_lt.mp fun h => h1 (.inr (.inr (.inl h)))
      · exact Classical.byContradiction fun h => h1 (.inr (.inr (.inr ⟨l, hl, h⟩)))
    · cases h

open Classical in
set_option maxHeartbeats 2000000 in
theorem matrix_check_calls {cols : Int} {ls : List (List Int)} {vx vy : AV} {H : AH} (hG : GFS D H vx) (hR : RowsS H vy ls) :
    ACalls Try.prog n_matrix_check [vx, .ag [I cols, vy]] H (fun r H' => r = I (matE D.q cols ls) ∧ HLe H H') := by
  obtain ⟨cs, hC, hlen, hrow⟩ := hR
  refine calls_of F_matrix_check hmix (by show 2 ≤ 51; decide) ?_
  unfold s_matrix_check
  (refine stpU ?_; repeat (refine Al4.mk ?_; intro _ _ _ _; refine stpU ?_))
  refine bXg rfl ?_
  intro bid H1 _ hl1 fb _
  have f0 : rdc H1 bid 0 = some (I cols) := rdc_of fb rfl
  have f1 : rdc H1 bid 1 = some vy := rdc_of fb rfl
  replace hC := hC.mono hl1
  replace hG := hG.mono hl1
  replace hrow : ∀ i c l, cs[i]? = some c → ls[i]? = some l → IntS H1 c l := fun i c l a b => (hrow i c l a b).mono hl1
  by_cases h0 : cols < 0
  · (refine stpU ?_; repeat (refine Al4.mk ?_; intro _ _ _ _; refine stpU ?_))
    exact ⟨by rw [matE_shape (.inl h0)]; rfl, hl1⟩
  by_cases h1 : 256 < cols
  · (refine stpU ?_; repeat (refine Al4.mk ?_; intro _ _ _ _; refine stpU ?_))
    exact ⟨by rw [matE_shape (.inr (.inl h1))]; rfl, hl1⟩
  by_cases h2 : 256 < cs.length
  · (refine stpU ?_; repeat (refine Al4.mk ?_; intro _ _ _ _; refine stpU ?_))
    exact ⟨by rw [matE_shape (.inr (.inr (.inl (by omega))))]; rfl, hl1⟩
  (refine stpU ?_; repeat (refine Al4.mk ?_; intro _ _ _ _; refine stpU ?_))
  refine W_loopF (X := Nat) (fun i => [(0, vx), (3, .p bid 0), (25, vy), (26, I (cs.length : Nat)), (27, I (i : Nat))]) (fun _ => H1) (fun i => i ≤ cs.length ∧ ∀ j l, j < i → ls[j]? = some l → (l.length : Int) = cols) (fun i => cs.length - i) 0 ⟨Nat.zero_le _, fun j l h => absurd h (Nat.not_lt_zero _)⟩ ⟨rfl, rfl, rfl, rfl, rfl, trivial⟩ (.refl _) ?_
  rintro i ⟨hi, hok⟩
  by_cases hil : i < cs.length
  · have hget : ls[i]? = some ls[i] := List.getElem?_eq_getElem (by omega)
    obtain ⟨l, hl⟩ : ∃ l, l = ls[i] := ⟨_, rfl⟩
    rw [← hl] at hget
    have hw : cs[i]? = some cs[i] := List.getElem?_eq_getElem hil
    obtain ⟨vz, hz⟩ : ∃ v, v = cs[i] := ⟨_, rfl⟩
    rw [← hz] at hw
    have hCz := (hrow i _ _ hw hget).cs
    have hll : (l.map I).length = l.length := List.length_map ..
    by_cases e : (l.length : Int) = cols
    · (refine stpU ?_; repeat (refine Al4.mk ?_; intro _ _ _ _; refine stpU ?_))
      refine ⟨i + 1, ⟨by omega, fun j l' hj hl' => ?_⟩, by omega, ⟨rfl, rfl, rfl, rfl, rfl, trivial⟩, .refl _⟩
      by_cases e2 : j = i
      · subst e2
        have : l = l' := Option.some.inj (hget.symm.trans hl')
        rw [← this]; exact e
      · exact hok j l' (by omega) hl'
    · (refine stpU ?_; repeat (refine Al4.mk ?_; intro _ _ _ _; refine stpU ?_))
      exact ⟨by rw [matE_shape (.inr (.inr (.inr ⟨l, List.mem_of_getElem? hget, e⟩)))]; rfl, hl1⟩
  have hall : ∀ l, l ∈ ls → (l.length : Int) = cols := fun l hl => by
    obtain ⟨j, hj⟩ := List.getElem?_of_mem hl
    exact hok j l (by have := (List.getElem?_eq_some_iff.mp hj).1; omega) hj
  clear hok
  (refine stpU ?_; repeat (refine Al4.mk ?_; intro _ _ _ _; refine stpU ?_))
  refine W_loopF (X := Nat) (fun i => [(0, vx), (38, vy), (39, I (cs.length : Nat)), (40, I (i : Nat))]) (fun _ => H1) (fun i => i ≤ cs.length ∧ ∀ j l, j < i → ls[j]? = some l → Elems D.q l) (fun i => cs.length - i) 0 ⟨Nat.zero_le _, fun j l h => absurd h (Nat.not_lt_zero _)⟩ ⟨rfl, rfl, rfl, rfl, trivial⟩ (.refl _) ?_
  rintro i ⟨hi, hok⟩
  by_cases hil : i < cs.length
  · have hget : ls[i]? = some ls[i] := List.getElem?_eq_getElem (by omega)
    obtain ⟨l, hl⟩ : ∃ l, l = ls[i] := ⟨_, rfl⟩
    rw [← hl] at hget
    have hw : cs[i]? = some cs[i] := List.getElem?_eq_getElem hil
    obtain ⟨vz, hz⟩ : ∃ v, v = cs[i] := ⟨_, rfl⟩
    rw [← hz] at hw
    have hCz := (hrow i _ _ hw hget).cs
    have hlc := hall l (List.mem_of_getElem? hget)
    (refine stpU ?_; repeat (refine Al4.mk ?_; intro _ _ _ _; refine stpU ?_))
    refine cA (matrix_entries_calls hG hCz (by omega)) ?_
    rintro _ H2 ⟨rfl, rfl⟩
    by_cases e : Elems D.q l
    · rw [if_pos e]
      (refine stpU ?_; repeat (refine Al4.mk ?_; intro _ _ _ _; refine stpU ?_))
      refine ⟨i + 1, ⟨by omega, fun j l' hj hl' => ?_⟩, by omega, ⟨rfl, rfl, rfl, rfl, trivial⟩, .refl _⟩
      by_cases e2 : j = i
      · subst e2
        have : l = l' := Option.some.inj (hget.symm.trans hl')
        rw [← this]; exact e
      · exact hok j l' (by omega) hl'
    · rw [if_neg e]
      (refine stpU ?_; repeat (refine Al4.mk ?_; intro _ _ _ _; refine stpU ?_))
      exact ⟨by rw [matE_elem (by omega) (by omega) (by omega) hall (fun h => e (h l (List.mem_of_getElem? hget)))]; rfl, hl1⟩
  · (refine stpU ?_; repeat (refine Al4.mk ?_; intro _ _ _ _; refine stpU ?_))
    exact ⟨by rw [matE_ok (by omega) (by omega) (by omega) hall (fun l hl => by
      obtain ⟨j, hj⟩ := List.getElem?_of_mem hl
      exact hok j l (by have := (List.getElem?_eq_some_iff.mp hj).1; omega) hj)]; rfl, hl1⟩
end

end Go.Proofs.Ytdkdainipanacaa
namespace Go.Proofs.Ytdkdainipanacaa
open Go Go.RowKit Alg
set_option linter.unusedSimpArgs false
set_option linter.unusedVariables false
set_option linter.constructorNameAsVariable false
set_option linter.unusedSectionVars false
attribute [local irreducible] aopL W

/-- a field's description in memory -/
def FS (D : Desc) [Desc.Ok D] (H : AH) (vm : AV) : Prop := ∃ ml, Shape D.p D.m ml D ∧ D.Irr ∧ Cs H vm (ml.map I)
section
variable {D : Desc} [Desc.Ok D]
theorem FS.mono {H H' : AH} {vm : AV} (hl : HLe H H') (h : FS D H vm) : FS D H' vm := by
  obtain ⟨ml, h1, h2, h3⟩ := h; exact ⟨ml, h1, h2, h3.mono hl⟩
theorem FS.small {H : AH} {vm : AV} (h : FS D H vm) : D.Small := by obtain ⟨ml, h1, _⟩ := h; exact h1.small
theorem FS.fld {H : AH} {vm : AV} (h : FS D H vm) : Fld (El D) := by obtain ⟨ml, h1, h2, _⟩ := h; exact fld_of_irr h1.prime h2
theorem FS.mods {H : AH} {vm : AV} (h : FS D H vm) : ModS H D vm := by obtain ⟨ml, h1, _, h3⟩ := h; exact h1.mods h3
theorem field_New_ok {vm : AV} {H : AH} (h : FS D H vm) : ACalls Try.prog n_field_New [fd D vm] H (fun r H' => HLe H H' ∧ ∃ vg, r = .tu [vg, I 0] ∧ GFS D H' vg ∧ cellsOf vg = some [vg]) := by
  obtain ⟨ml, h1, h2, h3⟩ := h
  refine ACalls.mono (field_New_calls D.p D.m ml h3) ?_
  rintro r H' ⟨hl, ⟨_, hno⟩ | ⟨E, hS, vg, hI, rfl, hG⟩⟩
  · exact absurd ⟨D, h1, h2⟩ hno
  · obtain rfl := hS.uniq h1
    have hG' := hG
    obtain ⟨gid, eid, lid, xm, z, g, lg, rfl, -⟩ := hG'
    exact ⟨hl, _, rfl, hG, rfl⟩

set_option maxHeartbeats 2000000 in
theorem matrix_open_calls {cols : Int} {ls : List (List Int)} {vm vy : AV} {H : AH} {lid : Nat} {rw_ : Bool} (hF : FS D H vm) (hR : RowsS H vy ls) (hl : H lid = some ⟨[I cols, vy], rw_, 2⟩) :
    ACalls Try.prog n_matrix_open [fd D vm, .s lid 0 1] H (fun r H' => HLe H H' ∧ ∃ vg, GFS D H' vg ∧ ((matE D.q cols ls = 0 ∧ r = .tu [vg, I 0]) ∨ (matE D.q cols ls ≠ 0 ∧ r = .tu [.np, I (matE D.q cols ls)]))) := by
  refine calls_of F_matrix_open hmix (by show 2 ≤ 32; decide) ?_
  unfold s_matrix_open
  (refine stpU ?_; repeat (refine Al4.mk ?_; intro _ _ _ _; refine stpU ?_))
  refine bXg (cs := [I D.p, I D.m, vm]) rfl ?_
  intro bid H1 _ hl1 fb _
  replace hF := hF.mono hl1
  replace hR := hR.mono hl1
  replace hl := hl1 _ _ hl
  (refine stpU ?_; repeat (refine Al4.mk ?_; intro _ _ _ _; refine stpU ?_))
  refine ldn_own rfl fb rfl ?_
  (refine stpU ?_; repeat (refine Al4.mk ?_; intro _ _ _ _; refine stpU ?_))
  refine cA (field_New_ok hF) ?_
  rintro r H2 ⟨hl2, vw, rfl, hG, _⟩
  replace hR := hR.mono hl2
  replace hl := hl2 _ _ hl
  replace hl1 := hl1.trans hl2
  (refine stpU ?_; repeat (refine Al4.mk ?_; intro _ _ _ _; refine stpU ?_))
  refine W_loopF (X := Nat) (fun i => [(6, vw), (18, .s lid 0 1), (19, I (1 : Nat)), (20, I (i : Nat))]) (fun _ => H2) (fun i => i ≤ 1 ∧ (i = 1 → matE D.q cols ls = 0)) (fun i => 1 - i) 0 ⟨by omega, fun h => by cases h⟩ ⟨rfl, rfl, rfl, rfl, trivial⟩ (.refl _) ?_
  rintro i ⟨hi, hb⟩
  by_cases h1 : i = 1
  · subst h1
    (refine stpU ?_; repeat (refine Al4.mk ?_; intro _ _ _ _; refine stpU ?_))
    exact ⟨hl1, vw, hG, .inl ⟨hb rfl, rfl⟩⟩
  · obtain rfl : i = 0 := by omega
    (refine stpU ?_; repeat (refine Al4.mk ?_; intro _ _ _ _; refine stpU ?_))
    refine ldn_own rfl hl rfl ?_
    (refine stpU ?_; repeat (refine Al4.mk ?_; intro _ _ _ _; refine stpU ?_))
    refine aLg ?_
    intro cid H3 hcid hl3 fc _
    refine sA (cs := [I cols, vy]) rfl fc rfl rfl rfl ?_
    rintro H4 hH4
    have hl4 : HLe H2 H4 := by rw [hH4]; exact hl3.upd_of hcid _
    have fc4 : H4 cid = some ⟨[I cols, vy], true, 0⟩ := by rw [hH4]; exact upd_same _ _ _
    clear hH4
    (refine stpU ?_; repeat (refine Al4.mk ?_; intro _ _ _ _; refine stpU ?_))
    refine ldn_own rfl fc4 rfl ?_
    (refine stpU ?_; repeat (refine Al4.mk ?_; intro _ _ _ _; refine stpU ?_))
    refine cA (matrix_check_calls (hG.mono hl4) (hR.mono hl4)) ?_
    rintro _ H5 ⟨rfl, hl5⟩
    by_cases e : matE D.q cols ls = 0
    · rw [e]
      (refine stpU ?_; repeat (refine Al4.mk ?_; intro _ _ _ _; refine stpU ?_))
      exact ⟨1, ⟨by omega, fun _ => rfl⟩, by omega, ⟨rfl, rfl, rfl, rfl, trivial⟩, hl4.trans hl5⟩
    · (refine stpU ?_; repeat (refine Al4.mk ?_; intro _ _ _ _; refine stpU ?_))
      exact ⟨hl1.trans (hl4.trans hl5), vw, hG.mono (hl4.trans hl5), .inr ⟨e, rfl⟩⟩

section
variable {G : AH} {oid n w k : Nat} {ids : Nat → Nat} {M : Nat → Nat → El D}
theorem rowsK_snoc (O : OwnK G oid n k ids) (hk : k < n) {id : Nat} (hid : rowsK G oid n w k ids M id = none) :
    OwnK G oid n (k + 1) (fun j => if j = k then id else ids j) ∧
    upd (upd (rowsK G oid n w k ids M) id ⟨tabN w fun c => (M k c).v, true, 1⟩) oid ⟨((List.range n).map fun i => if i < k then .s (ids i) 0 w else .ns).set k (.s id 0 w), true, 1⟩ = rowsK G oid n w (k + 1) (fun j => if j = k then id else ids j) M := by
  obtain ⟨h1, h2, h3⟩ := rowsK_none O hid
  have O' : OwnK G oid n (k + 1) (fun j => if j = k then id else ids j) := by
    refine ⟨hk, O.out, fun i hi => ?_, fun i hi => ?_, fun i j hi hj e => ?_⟩
    · by_cases e : i = k
      · rw [if_pos e]; exact h1
      · rw [if_neg e]; exact O.row i (by omega)
    · by_cases e : i = k
      · rw [if_pos e]; exact h2
      · rw [if_neg e]; exact O.ne i (by omega)
    · by_cases e1 : i = k <;> by_cases e2 : j = k
      · rw [e1, e2]
      · rw [if_pos e1, if_neg e2] at e; exact absurd e.symm (h3 j (by omega))
      · rw [if_neg e1, if_pos e2] at e; exact absurd e (h3 i (by omega))
      · rw [if_neg e1, if_neg e2] at e; exact O.inj i j (by omega) (by omega) e
  refine ⟨O', funext fun t => ?_⟩
  rw [upd_get]
  by_cases e1 : t = oid
  · subst e1
    rw [if_pos rfl, rowsK_out]
    have := tabV_set (n := n) (fun i => if i < k then AV.s (ids i) 0 w else .ns) (.s id 0 w) hk
    unfold tabV at this
    rw [this]
    congr 2
    refine List.map_congr_left fun i hi => ?_
    by_cases e2 : i = k
    · rw [if_pos e2, if_pos (by omega), if_pos e2]
    · rw [if_neg e2, if_neg e2]
      by_cases e3 : i < k
      · rw [if_pos e3, if_pos (by omega)]
      · rw [if_neg e3, if_neg (by omega)]
  · rw [if_neg e1, upd_get]
    by_cases e2 : t = id
    · subst e2
      rw [if_pos rfl]
      have := rowsK_row (w := w) (M := M) O' (i := k) (by omega)
      rw [if_pos rfl] at this
      exact this.symm
    · rw [if_neg e2]
      by_cases e3 : ∃ i, i < k ∧ ids i = t
      · obtain ⟨i, hi, rfl⟩ := e3
        have := rowsK_row (w := w) (M := M) O' (i := i) (by omega)
        rw [if_neg (by omega)] at this
        rw [this, rowsK_row O hi]
      · rw [rowsK_old e1 (fun i hi q => e3 ⟨i, hi, q⟩), rowsK_old e1 (fun i hi q => ?_)]
        by_cases e4 : i = k
        · rw [if_pos e4] at q; exact e2 q.symm
        · rw [if_neg e4] at q; exact e3 ⟨i, by omega, q⟩
theorem rowsK_mat (O : OwnK G oid n n ids) {H : AH} (hl : HLe (rowsK G oid n w n ids M) H) {k : Nat} (hk : k ≤ n) : MatS H (.s oid 0 k) k w M := by
  have h1 := Cs.own (hl _ _ (rowsK_tab (w := w) (M := M) (ids := ids) (G := G) (oid := oid) (n := n)))
  rw [tabV_len] at h1
  refine ⟨_, h1.take hk, by rw [List.length_take, tabV_len]; omega, fun i c hi => ?_⟩
  rw [List.getElem?_take] at hi
  split at hi
  · rename_i hik
    rw [tabV_get _ (by omega)] at hi
    obtain rfl := Option.some.inj hi
    have h2 := Cs.own (hl _ _ (rowsK_row (w := w) (M := M) O (i := i) (by omega)))
    rw [tabN_len] at h2
    exact h2
  · cases hi
end

set_option maxHeartbeats 2000000 in
theorem matrix_clone_calls {n w : Nat} {M : Nat → Nat → El D} {vy : AV} {H : AH} (hM : MatS H vy n w M) (hw : 0 < w) (hw2 : w ≤ 100000000) (hn : n ≤ 1000000) :
    ACalls Try.prog n_matrix_clone [vy] H (fun r H' => ∃ oid ids, r = .s oid 0 n ∧ OwnK H oid n n ids ∧ H' = rowsK H oid n w n ids M) := by
  obtain ⟨cs, hC, hlen, hrow⟩ := hM
  refine calls_of F_matrix_clone hmix (by show 1 ≤ 23; decide) ?_
  unfold s_matrix_clone
  (refine stpU ?_; repeat (refine Al4.mk ?_; intro _ _ _ _; refine stpU ?_))
  refine mKN (n := n) (l := n) (congrArg (fun z : Nat => I (z : Int)) hlen) (congrArg (fun z : Nat => I (z : Int)) hlen) (Nat.le_refl _) (by omega) (by omega) ?_
  intro oid H1 hoid hl1 fo hH1
  have e0 : H1 = rowsK H oid n w 0 (fun _ => 0) M := by
    rw [hH1]
    funext t
    rw [upd_get]
    by_cases e : t = oid
    · subst e
      rw [if_pos rfl, rowsK_out]
      congr 2
      apply List.ext_getElem?
      intro i
      by_cases hi : i < n
      · rw [List.getElem?_replicate, if_pos hi]
        simp [hi]
      · rw [List.getElem?_eq_none (by simpa using hi), List.getElem?_eq_none (by simpa using hi)]
    · rw [if_neg e, rowsK_old e (fun i hi => absurd hi (Nat.not_lt_zero _))]
  have O0 : OwnK H oid n 0 (fun _ => 0) := ⟨Nat.zero_le _, hoid, fun i hi => absurd hi (Nat.not_lt_zero _), fun i hi => absurd hi (Nat.not_lt_zero _), fun i j hi => absurd hi (Nat.not_lt_zero _)⟩
  have hC1 := hC.mono hl1
  rw [e0] at hC1 ⊢
  clear hl1 fo hH1 e0
  (refine stpU ?_; repeat (refine Al4.mk ?_; intro _ _ _ _; refine stpU ?_))
  refine W_loopF (X := Nat × (Nat → Nat)) (fun x => [(3, .s oid 0 n), (9, vy), (10, I (n : Nat)), (11, I (x.1 : Nat))]) (fun x => rowsK H oid n w x.1 x.2 M) (fun x => x.1 ≤ n ∧ OwnK H oid n x.1 x.2) (fun x => n - x.1) (0, fun _ => 0) ⟨Nat.zero_le _, O0⟩ ⟨rfl, rfl, congrArg (fun z : Nat => I (z : Int)) hlen, rfl, trivial⟩ (.refl _) ?_
  rintro ⟨i, ids⟩ ⟨hi, O⟩
  dsimp only at hi O ⊢
  have hl : HLe H (rowsK H oid n w i ids M) := rowsK_hle O
  by_cases hil : i < n
  · have hw' : cs[i]? = some cs[i] := List.getElem?_eq_getElem (by omega)
    obtain ⟨vz, hz⟩ : ∃ v, v = cs[i] := ⟨_, rfl⟩
    rw [← hz] at hw'
    have hCi := (hrow i _ hw').mono hl
    have hCv := hC.mono hl
    (refine stpU ?_; repeat (refine Al4.mk ?_; intro _ _ _ _; refine stpU ?_))
    refine cA (slices_Clone_calls hCi (fun h => by have := congrArg List.length h; rw [tabN_len] at this; simp at this; omega) (by rw [tabN_len]; omega)) ?_
    rintro _ _ ⟨id, rfl, hid, rfl⟩
    obtain ⟨O', he⟩ := rowsK_snoc O hil hid
    obtain ⟨g1, g2, g3⟩ := rowsK_none O hid
    rw [tabN_len]
    (refine stpU ?_; repeat (refine Al4.mk ?_; intro _ _ _ _; refine stpU ?_))
    refine sV (off := i) (v := .s id 0 w) rfl (by rw [upd_ne _ _ (Ne.symm g2)]; exact rowsK_out) rfl rfl (by simp; omega) ?_
    rw [he]
    (refine stpU ?_; repeat (refine Al4.mk ?_; intro _ _ _ _; refine stpU ?_))
    exact ⟨(i + 1, _), ⟨by omega, O'⟩, by dsimp only; omega, ⟨rfl, rfl, rfl, rfl, trivial⟩, .refl _⟩
  · have : i = n := by omega
    subst this
    (refine stpU ?_; repeat (refine Al4.mk ?_; intro _ _ _ _; refine stpU ?_))
    exact ⟨oid, ids, rfl, O, rfl⟩
end
end Go.Proofs.Ytdkdainipanacaa
namespace Go.Proofs.Ytdkdainipanacaa
open Go Go.RowKit Alg
set_option linter.unusedSimpArgs false
set_option linter.unusedVariables false
set_option linter.constructorNameAsVariable false
set_option linter.unusedSectionVars false
section
variable {P : Program} {pv : Bool} {rs : List SOp} {a : Nat → AV} {H : AH} {K : (Nat → AV) → AH → Prop}
theorem s3N {x hi cx : SV} {d id off len r : Nat} (hx : evS a x = .s id off len) (hh : evS a hi = I (r : Int)) (hc : evS a cx = I (r : Int)) (hr : r ≤ len) (k : aopL P pv rs (put a d (.s id off r)) H K) : aopL P pv (⟨some d, .sl3 x hi cx, none⟩ :: rs) a H K :=
  ⟨.i64, .i64, r, r, hh, hc, by omega, by omega, id, off, len, hx, by omega, by rw [Int.toNat_natCast]; exact k⟩
end
/-- readings of slices outlive changes of cells that are no array's -/
theorem Cs.cell {H : AH} {x : AV} {l : List AV} {b : Nat} {ob ob' : AObj} (h : Cs H x l) (hb : H b = some ob) (hz : ob.sz ≠ 1) : Cs (upd H b ob') x l := by
  rcases h with h | ⟨id, off, o, h1, h2, h3, h4⟩
  · exact .inl h
  · refine .inr ⟨id, off, o, h1, ?_, h3, h4⟩
    rw [upd_ne _ _ (fun e => hz (by rw [e, hb] at h2; rw [Option.some.inj h2]; exact h3))]
    exact h2
attribute [local irreducible] aopL W
variable {D : Desc} [Desc.Ok D]

theorem MatS.cell {H : AH} {x : AV} {n w : Nat} {M : Nat → Nat → El D} {b : Nat} {ob ob' : AObj} (h : MatS H x n w M) (hb : H b = some ob) (hz : ob.sz ≠ 1) : MatS (upd H b ob') x n w M := by
  obtain ⟨cs, h1, h2, h3⟩ := h; exact ⟨cs, h1.cell hb hz, h2, fun i c hi => (h3 i c hi).cell hb hz⟩
theorem MatS.one {H : AH} {x : AV} {n w : Nat} {M : Nat → Nat → El D} (h : MatS H x n w M) : cellsOf x = some [x] := by
  obtain ⟨cs, hcs, _⟩ := h
  rcases hcs.cases with ⟨_, rfl⟩ | ⟨_, rfl⟩ | ⟨id, off, rfl⟩ <;> rfl
theorem Cs.one {H : AH} {x : AV} {l : List AV} (h : Cs H x l) : cellsOf x = some [x] := by
  rcases h.cases with ⟨_, rfl⟩ | ⟨_, rfl⟩ | ⟨id, off, rfl⟩ <;> rfl
theorem FS.cell {H : AH} {vm : AV} {b : Nat} {ob ob' : AObj} (h : FS D H vm) (hb : H b = some ob) (hz : ob.sz ≠ 1) : FS D (upd H b ob') vm := by
  obtain ⟨ml, h1, h2, h3⟩ := h; exact ⟨ml, h1, h2, h3.cell hb hz⟩

/-- N has k rows in reduced row echelon form with the pivots p, and the row space of M, of n rows -/
structure CanM (w n k : Nat) (M : Nat → Nat → El D) (p : Nat → Nat) (N : Nat → Nat → El D) : Prop where
  rref : Rref w k N p
  sub : SubSp w k n N M
  sup : SubSp w n k M N

set_option maxHeartbeats 2000000 in
theorem matrix_canon_calls (hD : D.Small) [Fld (El D)] {n w : Nat} {M : Nat → Nat → El D} {vx vy : AV} {H : AH} (hG : GFS D H vx) (hM : MatS H vy n w M) (hw : 0 < w) (hw2 : w ≤ 1000000) (hn : n ≤ 1000000) :
    ACalls Try.prog n_matrix_canon [vx, vy, I (w : Nat)] H (fun r H' => HLe H H' ∧ ∃ k p N vr vp, r = .tu [vr, vp] ∧ MatS H' vr k w N ∧ Cs H' vp (tabN k p) ∧ k ≤ n ∧ CanM w n k M p N) := by
  refine calls_of F_matrix_canon hmix (by show 3 ≤ 27; decide) ?_
  unfold s_matrix_canon
  (refine stpU ?_; repeat (refine Al4.mk ?_; intro _ _ _ _; refine stpU ?_))
  refine cA (matrix_clone_calls hM hw (by omega) hn) ?_
  rintro _ _ ⟨oid, ids, rfl, O, rfl⟩
  (refine stpU ?_; repeat (refine Al4.mk ?_; intro _ _ _ _; refine stpU ?_))
  refine cA (matrix_eliminate_calls hD hG O hn hw2) ?_
  rintro _ H2 ⟨c, k, p, ids', N, vz, det, G2, rfl, hl2, O2, hl3, hp, hGJ, hc, hend, hE⟩
  obtain ⟨hR, h1, h2⟩ := hGJ.rref hc hend
  have hk := hGJ.rn
  have hlp : (tabN k p).length = k := tabN_len k p
  have hp2 := hp.mono ((rowsK_hle O2).trans hl3)
  (refine stpU ?_; repeat (refine Al4.mk ?_; intro _ _ _ _; refine stpU ?_))
  refine s3N (r := k) rfl (congrArg (fun z : Nat => I (z : Int)) hlp) (congrArg (fun z : Nat => I (z : Int)) hlp) hk ?_
  (refine stpU ?_; repeat (refine Al4.mk ?_; intro _ _ _ _; refine stpU ?_))
  exact ⟨hl2.trans ((rowsK_hle O2).trans hl3), k, p, N, _, _, rfl, rowsK_mat O2 hl3 hk, hp2, hk, hR, fun i hi => (hE.1 i (by omega)), fun i hi => (hE.2 i hi).trans h1⟩

/-- what is left of a matrix's rows -/
def CanS (H' : AH) (cols n : Nat) (M : Nat → Nat → El D) (vr vp : AV) (k : Nat) (p : Nat → Nat) (N : Nat → Nat → El D) : Prop := MatS H' vr k cols N ∧ Cs H' vp (tabN k p) ∧ k ≤ n ∧ CanM cols n k M p N

set_option maxHeartbeats 2000000 in
theorem matrix_Canonical_calls {cols : Nat} {ls : List (List Int)} {vm vy : AV} {H : AH} (hF : FS D H vm) (hR : RowsS H vy ls) (hw : 0 < cols) :
    ACalls Try.prog n_matrix_Canonical [fd D vm, .ag [I (cols : Nat), vy]] H (fun r H' => HLe H H' ∧ ((matE D.q cols ls ≠ 0 ∧ r = .tu [.ag [I 0, .ns], .ns, I (matE D.q cols ls)]) ∨ (matE D.q cols ls = 0 ∧ ∃ k p N vr vp, r = .tu [.ag [I (cols : Nat), vr], vp, I 0] ∧ CanS H' cols ls.length (matL ls : Nat → Nat → El D) vr vp k p N))) := by
  haveI := hF.fld
  have hD := hF.small
  refine calls_ofC F_matrix_Canonical hmix (by show 2 ≤ 36; decide) ?_
  unfold s_matrix_Canonical
  (refine stpU ?_; repeat (refine Al4.mk ?_; intro _ _ _ _; refine stpU ?_))
  refine bXg (cs := [I D.p, I D.m, vm]) rfl ?_
  intro b2 H1 _ l1 f2 _
  (refine stpU ?_; repeat (refine Al4.mk ?_; intro _ _ _ _; refine stpU ?_))
  refine bXg (cs := [I (cols : Nat), vy]) rfl ?_
  intro b3 H2 _ l2 f3 _
  (refine stpU ?_; repeat (refine Al4.mk ?_; intro _ _ _ _; refine stpU ?_))
  refine aLg ?_
  intro b4 H3 h4 l3 f4 _
  replace f2 := l3 _ _ (l2 _ _ f2)
  replace f3 := l3 _ _ f3
  replace h4 := (l1.trans l2).absent h4
  have l : HLe H H3 := l1.trans (l2.trans l3)
  clear l1 l2 l3
  replace hF := hF.mono l
  replace hR := hR.mono l
  (refine stpU ?_; repeat (refine Al4.mk ?_; intro _ _ _ _; refine stpU ?_))
  refine ldn_own rfl f2 rfl ?_
  (refine stpU ?_; repeat (refine Al4.mk ?_; intro _ _ _ _; refine stpU ?_))
  refine ldn_own rfl f3 rfl ?_
  (refine stpU ?_; repeat (refine Al4.mk ?_; intro _ _ _ _; refine stpU ?_))
  refine bLg (cs := [I (cols : Nat), vy]) rfl ?_
  intro lid H4 _ l4 f5 _
  (refine stpU ?_; repeat (refine Al4.mk ?_; intro _ _ _ _; refine stpU ?_))
  refine cA (matrix_open_calls (hF.mono l4) (hR.mono l4) f5) ?_
  rintro r H5 ⟨l5, vx, hG, ⟨h0, rfl⟩ | ⟨h0, rfl⟩⟩
  rotate_left
  · have l6 := l4.trans l5
    (refine stpU ?_; repeat (refine Al4.mk ?_; intro _ _ _ _; refine stpU ?_))
    refine bD (cs := [I 0, .ns]) rfl ?_
    (refine stpU ?_; repeat (refine Al4.mk ?_; intro _ _ _ _; refine stpU ?_))
    refine sA (cs := [I 0, .ns]) rfl (l6 _ _ f4) rfl rfl rfl ?_
    rintro H6 hH6
    have f7 : H6 b4 = some ⟨[I 0, .ns], true, 0⟩ := by rw [hH6]; exact upd_same _ _ _
    (refine stpU ?_; repeat (refine Al4.mk ?_; intro _ _ _ _; refine stpU ?_))
    exact ⟨[.ag [I 0, .ns], .ns, I (matE D.q cols ls)], ⟨⟨b4, 0, _, rfl, f7, by decide, rfl⟩, rfl, rfl, trivial⟩, by rw [hH6]; exact (l.trans l6).upd_of h4 _, .inl ⟨h0, rfl⟩⟩
  have l6 := l4.trans l5
  obtain ⟨e0, e1, e2, e3, e4⟩ := matE_zero h0
  have hM := (hR.mono l6).mat (w := cols) (fun l hl => by have := e3 l hl; omega) e4
  replace f3 := l6 _ _ f3
  replace f4 := l6 _ _ f4
  have g0 : rdc H5 b3 0 = some (I (cols : Nat)) := rdc_of f3 rfl
  have g1 : rdc H5 b3 1 = some vy := rdc_of f3 rfl
  (refine stpU ?_; repeat (refine Al4.mk ?_; intro _ _ _ _; refine stpU ?_))
  refine cA (matrix_canon_calls hD hG hM hw (by omega) (by omega)) ?_
  rintro _ H6 ⟨l7, k, p, N, vz, vw, rfl, hMS, hp, hk, hC⟩
  have g2 : rdc H6 b3 0 = some (I (cols : Nat)) := rdc_mono l7 g0
  replace f4 := l7 _ _ f4
  have hcz : cellsOf vz = some [vz] := hMS.one
  (refine stpU ?_; repeat (refine Al4.mk ?_; intro _ _ _ _; refine stpU ?_))
  refine bD (cs := [I (cols : Nat), vz]) ?_ ?_
  · refine (afill_cons rfl rfl rfl (show 1 ≤ 2 by decide)).trans ((afill_cons rfl hcz rfl (show 2 ≤ 2 by decide)).trans rfl)
  (refine stpU ?_; repeat (refine Al4.mk ?_; intro _ _ _ _; refine stpU ?_))
  refine sA (cs := [I (cols : Nat), vz]) rfl f4 rfl rfl rfl ?_
  rintro H7 hH7
  have f7 : H7 b4 = some ⟨[I (cols : Nat), vz], true, 0⟩ := by rw [hH7]; exact upd_same _ _ _
  have l8 : HLe H H7 := by rw [hH7]; exact (l.trans (l6.trans l7)).upd_of h4 _
  (refine stpU ?_; repeat (refine Al4.mk ?_; intro _ _ _ _; refine stpU ?_))
  exact ⟨[.ag [I (cols : Nat), vz], vw, I 0], ⟨⟨b4, 0, _, rfl, f7, by simp, rfl⟩, rfl, rfl, trivial⟩, l8, .inr ⟨h0, k, p, N, vz, vw, rfl, by rw [hH7]; exact ⟨hMS.cell f4 (by decide), hp.cell f4 (by decide), hk, hC⟩⟩⟩
end Go.Proofs.Ytdkdainipanacaa
