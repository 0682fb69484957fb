/- Contracts of the reference's Canon, Field, Make; SameInts, SameRows, Same. Condition: the arguments stand in memory. · Matrices as lists; contracts of ref Same (codes), cyclic.around, cyclic.New. Condition: the arguments stand in memory. -/
import Derived.Test.YtdkdainipanacaaHk
import Derived.Test.YtdkdainipanacaaXM
import Derived.Test.YtdkdainipanacaaS5
import Derived.Test.YtdkdainipanacaaGd
namespace Go.Proofs.Ytdkdainipanacaa
open Go Go.RowKit Alg
set_option linter.unusedSimpArgs false
set_option linter.unusedVariables false
set_option linter.constructorNameAsVariable false
set_option linter.unusedSectionVars false
section
variable {P : Program} {pv : Bool} {rs : List SOp} {a : Nat → AV} {H : AH} {K : (Nat → AV) → AH → Prop}
/-- the first r of a slice -/
theorem sHiC {x y : SV} {d r : Nat} {v : AV} {cs : List AV} (hx : evS a x = v) (hC : Cs H v cs) (hy : evS a y = I (r : Int)) (hr : r ≤ cs.length) (k : ∀ v', Cs H v' (cs.take r) → (∀ id off len, v = .s id off len → v' = .s id off r) → aopL P pv rs (put a d v') H K) :
    aopL P pv (⟨some d, .sl 1 x none (some y), none⟩ :: rs) a H K := by
  have hCC := hC
  rcases hC with ⟨rfl, h⟩ | ⟨id, off, ob, rfl, h2, h3, h4, h5⟩
  · have hr0 : r = 0 := by simpa using hr
    subst hr0
    refine Or.inr ⟨by rw [hx]; exact h, rfl, ⟨.i64, hy⟩, ?_⟩
    rw [hx]
    exact k v hCC fun id off len e => by rcases h with h | h <;> rw [h] at e <;> cases e
  · exact sHi hx h2 h3 hy hr (k _ (hCC.take hr) fun id' off' len' e => by cases e; rfl)
end
attribute [local irreducible] aopL W
variable {D : Desc} [Desc.Ok D]

set_option maxHeartbeats 2000000 in
theorem r09_Canon_calls (hD : D.Small) [Fld (El D)] {n w : Nat} {M : Nat → Nat → El D} {vm vy : AV} {H : AH} (hM : ModS H D vm) (hR : MatS H vy n w M) (hw : 0 < w) (hw2 : w ≤ 1000000) (hn : n ≤ 1000000) :
    ACalls Try.prog n_r09_Canon [fd D vm, vy, I (w : Nat)] H (fun r H' => HLe H H' ∧ ∃ k p N vr vp, r = .tu [vr, vp] ∧ MatS H' vr k w N ∧ Cs H' vp (tabN k p) ∧ k ≤ n ∧ CanM w n k M p N) := by
  refine calls_of F_r09_Canon hmix (by show 3 ≤ 22; decide) ?_
  unfold s_r09_Canon
  (refine stpU ?_; repeat (refine Al4.mk ?_; intro _ _ _ _; refine stpU ?_))
  refine bXg (cs := [I D.p, I D.m, vm]) rfl ?_
  intro b3 H1 h3 l1 f3 _
  (refine stpU ?_; repeat (refine Al4.mk ?_; intro _ _ _ _; refine stpU ?_))
  refine ldn_own rfl f3 rfl ?_
  (refine stpU ?_; repeat (refine Al4.mk ?_; intro _ _ _ _; refine stpU ?_))
  refine cA (r09_Eliminate_calls hD (hM.mono l1) (hR.mono l1) hw hw2 hn) ?_
  rintro _ H2 ⟨l2, c, k, p, N, vx, vy, rfl, hN, hp, hGJ, hcw, hend, hE⟩
  obtain ⟨hRr, h1, h2⟩ := hGJ.rref hcw hend
  have hk := hGJ.rn
  have hlen : (tabN k p).length = k := tabN_len k p
  obtain ⟨cs, hC, hcl, hrow⟩ := hN
  (refine stpU ?_; repeat (refine Al4.mk ?_; intro _ _ _ _; refine stpU ?_))
  refine sHiC (r := k) rfl hC (congrArg (fun z : Nat => I (z : Int)) hlen) (by omega) ?_
  intro vz hCz _
  (refine stpU ?_; repeat (refine Al4.mk ?_; intro _ _ _ _; refine stpU ?_))
  refine ⟨l1.trans l2, k, p, N, vz, vy, rfl, ⟨cs.take k, hCz, by rw [List.length_take]; omega, fun i c hi => hrow i c ?_⟩, hp, hk, hRr, fun i hi => hE.1 i (by omega), fun i hi => (hE.2 i hi).trans h1⟩
  rw [List.getElem?_take] at hi
  split at hi
  · exact hi
  · cases hi

theorem r12_Field_calls {vm : AV} {H : AH} (hF : FS D H vm) : ACalls Try.prog n_r12_Field [fd D vm] H (fun r H' => HLe H H' ∧ ∃ vf, r = fd D vf ∧ FS D H' vf) := by
  refine calls_ofC F_r12_Field hmix (by show 1 ≤ 12; decide) ?_
  unfold s_r12_Field
  (refine stpU ?_; repeat (refine Al4.mk ?_; intro _ _ _ _; refine stpU ?_))
  refine bXg (cs := [I D.p, I D.m, vm]) rfl ?_
  intro b1 H1 h1 l1 f1 _
  (refine stpU ?_; repeat (refine Al4.mk ?_; intro _ _ _ _; refine stpU ?_))
  refine aLg ?_
  intro b2 H2 h2 l2 f2 _
  have l : HLe H H2 := l1.trans l2
  replace f1 := l2 _ _ f1
  replace h2 := l1.absent h2
  replace hF := hF.mono l
  obtain ⟨vx, hvx⟩ : ∃ v, v = vm := ⟨_, rfl⟩
  rw [← hvx] at hF f1
  have g0 : rdc H2 b1 0 = some (I D.p) := rdc_of f1 rfl
  have g1 : rdc H2 b1 1 = some (I D.m) := rdc_of f1 rfl
  have g2 : rdc H2 b1 2 = some vx := rdc_of f1 rfl
  obtain ⟨ml, k1, k2, k3⟩ := hF
  (refine stpU ?_; repeat (refine Al4.mk ?_; intro _ _ _ _; refine stpU ?_))
  refine bE ?_
  (refine stpU ?_; repeat (refine Al4.mk ?_; intro _ _ _ _; refine stpU ?_))
  refine apC rfl rfl k3 (by decide) (by have := k1.few; rw [List.length_map]; omega) ?_
  intro vy H3 l3 hC _ _
  (refine stpU ?_; repeat (refine Al4.mk ?_; intro _ _ _ _; refine stpU ?_))
  refine bD (cs := [I D.p, I D.m, vy]) ?_ ?_
  · refine (afill_cons rfl rfl rfl (show 1 ≤ 3 by decide)).trans ((afill_cons rfl rfl rfl (show 2 ≤ 3 by decide)).trans ((afill_cons rfl hC.one rfl (show 3 ≤ 3 by decide)).trans rfl))
  (refine stpU ?_; repeat (refine Al4.mk ?_; intro _ _ _ _; refine stpU ?_))
  refine sA (cs := [I D.p, I D.m, vy]) rfl (l3 _ _ f2) rfl rfl rfl ?_
  rintro H5 hH5
  have f6 : H5 b2 = some ⟨[I D.p, I D.m, vy], true, 0⟩ := by rw [hH5]; exact upd_same _ _ _
  have l5 : HLe H H5 := by rw [hH5]; exact (l.trans l3).upd_of h2 _
  have hC5 : Cs H5 vy (ml.map I) := by rw [hH5]; exact hC.cell (l3 _ _ f2) (by simp)
  (refine stpU ?_; repeat (refine Al4.mk ?_; intro _ _ _ _; refine stpU ?_))
  exact ⟨[.ag [I D.p, I D.m, vy]], ⟨⟨b2, 0, _, rfl, f6, by simp, rfl⟩, trivial⟩, l5, vy, rfl, ml, k1, k2, hC5⟩

set_option maxHeartbeats 1000000 in
theorem r12_Make_calls {n k : Nat} {M : Nat → Nat → El D} {vm vy : AV} {H : AH} (hF : FS D H vm) (hM : MatS H vy k n M) (h1 : 1 ≤ n) (h64 : n ≤ 1000000) (hk : k ≤ 1000000) :
    ACalls Try.prog n_r12_Make [fd D vm, vy, I (n : Nat)] H (fun r H' => HLe H H' ∧ ∃ k' p N vf vg, r = cdA D vf n vg ∧ FS D H' vf ∧ MatS H' vg k' n N ∧ k' ≤ k ∧ CanM n k k' M p N) := by
  haveI := hF.fld
  have hD := hF.small
  refine calls_ofC F_r12_Make hmix (by show 3 ≤ 21; decide) ?_
  unfold s_r12_Make
  (refine stpU ?_; repeat (refine Al4.mk ?_; intro _ _ _ _; refine stpU ?_))
  refine bXg (cs := [I D.p, I D.m, vm]) rfl ?_
  intro b3 H1 h3 l1 f3 _
  (refine stpU ?_; repeat (refine Al4.mk ?_; intro _ _ _ _; refine stpU ?_))
  refine aLg ?_
  intro b6 H2 h6 l2 f6 _
  have l : HLe H H2 := l1.trans l2
  replace f3 := l2 _ _ f3
  replace h6 := l1.absent h6
  replace hF := hF.mono l
  clear l1 l2
  (refine stpU ?_; repeat (refine Al4.mk ?_; intro _ _ _ _; refine stpU ?_))
  refine ldn_own rfl f3 rfl ?_
  (refine stpU ?_; repeat (refine Al4.mk ?_; intro _ _ _ _; refine stpU ?_))
  refine cA (r09_Canon_calls hD hF.mods (hM.mono l) h1 h64 hk) ?_
  rintro _ H3 ⟨l3, k', p, N, vx, vz, rfl, hN, hp, hk', hC⟩
  (refine stpU ?_; repeat (refine Al4.mk ?_; intro _ _ _ _; refine stpU ?_))
  refine ldn_own rfl (l3 _ _ f3) rfl ?_
  (refine stpU ?_; repeat (refine Al4.mk ?_; intro _ _ _ _; refine stpU ?_))
  refine cA (r12_Field_calls (hF.mono l3)) ?_
  rintro _ H4 ⟨l4, vf, rfl, hF4⟩
  replace hN := hN.mono l4
  replace f6 := l4 _ _ (l3 _ _ f6)
  (refine stpU ?_; repeat (refine Al4.mk ?_; intro _ _ _ _; refine stpU ?_))
  refine bD (cs := [I D.p, I D.m, vf, I (n : Nat), vx]) ?_ ?_
  · refine (afill_cons (cs := [I D.p, I D.m, vf]) rfl rfl rfl (show 3 ≤ 5 by decide)).trans ((afill_cons rfl rfl rfl (show 4 ≤ 5 by decide)).trans ((afill_cons rfl hN.one rfl (show 5 ≤ 5 by decide)).trans rfl))
  (refine stpU ?_; repeat (refine Al4.mk ?_; intro _ _ _ _; refine stpU ?_))
  refine sA (cs := [I D.p, I D.m, vf, I (n : Nat), vx]) rfl f6 rfl rfl rfl ?_
  rintro H5 hH5
  have f5 : H5 b6 = some ⟨[I D.p, I D.m, vf, I (n : Nat), vx], true, 0⟩ := by rw [hH5]; exact upd_same _ _ _
  have l5 : HLe H H5 := by rw [hH5]; exact (l.trans (l3.trans l4)).upd_of h6 _
  (refine stpU ?_; repeat (refine Al4.mk ?_; intro _ _ _ _; refine stpU ?_))
  exact ⟨[cdA D vf n vx], ⟨⟨b6, 0, _, rfl, f5, by simp, rfl⟩, trivial⟩, l5, k', p, N, vf, vx, rfl, by rw [hH5]; exact hF4.cell f6 (by simp), by rw [hH5]; exact hN.cell f6 (by simp), hk', hC⟩

open Classical in
set_option maxHeartbeats 1000000 in
/-- two lists of ints are the same -/
theorem r09_SameInts_calls {la lb : List Int} {vx vy : AV} {H : AH} (hA : Cs H vx (la.map I)) (hB : Cs H vy (lb.map I)) (hn : la.length ≤ 1000000000000) :
    ACalls Try.prog n_r09_SameInts [vx, vy] H (fun r H' => r = .b (decide (la = lb)) ∧ H' = H) := by
  refine calls_of F_r09_SameInts hmix (by show 2 ≤ 26; decide) ?_
  unfold s_r09_SameInts
  have hla : (la.map I).length = la.length := List.length_map ..
  have hlb : (lb.map I).length = lb.length := List.length_map ..
  by_cases hl : la.length = lb.length
  rotate_left
  · (refine stpU ?_; repeat (refine Al4.mk ?_; intro _ _ _ _; refine stpU ?_))
    exact ⟨by rw [decide_eq_false (fun e => hl (by rw [e]))]; rfl, rfl⟩
  (refine stpU ?_; repeat (refine Al4.mk ?_; intro _ _ _ _; refine stpU ?_))
  refine W_loopF (X := Nat) (fun i => [(0, vx), (1, vy), (5, I (i : Nat))]) (fun _ => H) (fun i => i ≤ la.length ∧ ∀ j, j < i → la[j]? = lb[j]?) (fun i => la.length - i) 0 ⟨Nat.zero_le _, fun j h => absurd h (Nat.not_lt_zero _)⟩ ⟨rfl, rfl, rfl, trivial⟩ (.refl _) ?_
  rintro i ⟨hi, hok⟩
  by_cases hil : i < la.length
  · obtain ⟨x, hx⟩ : ∃ x, la[i]? = some x := ⟨_, List.getElem?_eq_getElem hil⟩
    obtain ⟨y, hy⟩ : ∃ y, lb[i]? = some y := ⟨_, List.getElem?_eq_getElem (by omega)⟩
    have hx' : (la.map I)[i]? = some (I x) := by rw [List.getElem?_map, hx]; rfl
    have hy' : (lb.map I)[i]? = some (I y) := by rw [List.getElem?_map, hy]; rfl
    by_cases e : x = y
    · (refine stpU ?_; repeat (refine Al4.mk ?_; intro _ _ _ _; refine stpU ?_))
      refine ⟨i + 1, ⟨by omega, fun j hj => ?_⟩, by omega, ⟨rfl, rfl, rfl, trivial⟩, .refl _⟩
      by_cases e2 : j = i
      · rw [e2, hx, hy, e]
      · exact hok j (by omega)
    · (refine stpU ?_; repeat (refine Al4.mk ?_; intro _ _ _ _; refine stpU ?_))
      refine ⟨?_, rfl⟩
      rw [decide_eq_false (fun h => e (by rw [h, hy] at hx; exact (Option.some.inj hx).symm))]; rfl
  · (refine stpU ?_; repeat (refine Al4.mk ?_; intro _ _ _ _; refine stpU ?_))
    refine ⟨?_, rfl⟩
    have : la = lb := List.ext_getElem? fun j => by
      by_cases hj : j < i
      · exact hok j hj
      · rw [List.getElem?_eq_none (by omega), List.getElem?_eq_none (by omega)]
    rw [decide_eq_true this]; rfl

open Classical in
set_option maxHeartbeats 1000000 in
theorem r09_SameRows_calls {la lb : List (List Int)} {vx vy : AV} {H : AH} (hA : RowsS H vx la) (hB : RowsS H vy lb) (hn : la.length ≤ 1000000000000) (hr : ∀ l, l ∈ la → l.length ≤ 1000000000000) :
    ACalls Try.prog n_r09_SameRows [vx, vy] H (fun r H' => r = .b (decide (la = lb)) ∧ H' = H) := by
  obtain ⟨ca, hA1, hA2, hA3⟩ := hA
  obtain ⟨cb, hB1, hB2, hB3⟩ := hB
  refine calls_of F_r09_SameRows hmix (by show 2 ≤ 27; decide) ?_
  unfold s_r09_SameRows
  by_cases hl : la.length = lb.length
  rotate_left
  · (refine stpU ?_; repeat (refine Al4.mk ?_; intro _ _ _ _; refine stpU ?_))
    exact ⟨by rw [decide_eq_false (fun e => hl (by rw [e]))]; rfl, rfl⟩
  (refine stpU ?_; repeat (refine Al4.mk ?_; intro _ _ _ _; refine stpU ?_))
  refine W_loopF (X := Nat) (fun i => [(0, vx), (1, vy), (5, I (i : Nat))]) (fun _ => H) (fun i => i ≤ la.length ∧ ∀ j, j < i → la[j]? = lb[j]?) (fun i => la.length - i) 0 ⟨Nat.zero_le _, fun j h => absurd h (Nat.not_lt_zero _)⟩ ⟨rfl, rfl, rfl, trivial⟩ (.refl _) ?_
  rintro i ⟨hi, hok⟩
  by_cases hil : i < la.length
  · obtain ⟨x, hx⟩ : ∃ x, la[i]? = some x := ⟨_, List.getElem?_eq_getElem hil⟩
    obtain ⟨y, hy⟩ : ∃ y, lb[i]? = some y := ⟨_, List.getElem?_eq_getElem (by omega)⟩
    obtain ⟨vz, hx'⟩ : ∃ x, ca[i]? = some x := ⟨_, List.getElem?_eq_getElem (by omega)⟩
    obtain ⟨vw, hy'⟩ : ∃ y, cb[i]? = some y := ⟨_, List.getElem?_eq_getElem (by omega)⟩
    (refine stpU ?_; repeat (refine Al4.mk ?_; intro _ _ _ _; refine stpU ?_))
    refine cAt (r09_SameInts_calls (hA3 _ _ _ hx' hx).cs (hB3 _ _ _ hy' hy).cs (hr _ (List.mem_of_getElem? hx))) ?_
    rintro _ _ ⟨rfl, rfl⟩
    refine ⟨.refl _, ?_⟩
    by_cases e : x = y
    · rw [decide_eq_true e]
      (refine stpU ?_; repeat (refine Al4.mk ?_; intro _ _ _ _; refine stpU ?_))
      refine ⟨i + 1, ⟨by omega, fun j hj => ?_⟩, by omega, ⟨rfl, rfl, rfl, trivial⟩, .refl _⟩
      by_cases e2 : j = i
      · rw [e2, hx, hy, e]
      · exact hok j (by omega)
    · rw [decide_eq_false e]
      (refine stpU ?_; repeat (refine Al4.mk ?_; intro _ _ _ _; refine stpU ?_))
      refine ⟨?_, rfl⟩
      rw [decide_eq_false (fun h => e (by rw [h, hy] at hx; exact (Option.some.inj hx).symm))]; rfl
  · (refine stpU ?_; repeat (refine Al4.mk ?_; intro _ _ _ _; refine stpU ?_))
    refine ⟨?_, rfl⟩
    have : la = lb := List.ext_getElem? fun j => by
      by_cases hj : j < i
      · exact hok j hj
      · rw [List.getElem?_eq_none (by omega), List.getElem?_eq_none (by omega)]
    rw [decide_eq_true this]; rfl

set_option maxHeartbeats 1000000 in
/-- one field: the descriptions of two fields are the same where the lists are -/
theorem r04_Same_calls {pa ma pb mb : Int} {la lb : List Int} {vx vy : AV} {H : AH} (hA : Cs H vx (la.map I)) (hB : Cs H vy (lb.map I)) (hn : la.length ≤ 1000000000000) :
    ACalls Try.prog n_r04_Same [.ag [I pa, I ma, vx], .ag [I pb, I mb, vy]] H (fun r H' => r = .b (decide (pa = pb ∧ ma = mb ∧ la = lb)) ∧ HLe H H') := by
  refine calls_of F_r04_Same hmix (by show 2 ≤ 45; decide) ?_
  unfold s_r04_Same
  have hla : (la.map I).length = la.length := List.length_map ..
  have hlb : (lb.map I).length = lb.length := List.length_map ..
  have hcx := hA.one
  have hcy := hB.one
  (refine stpU ?_; repeat (refine Al4.mk ?_; intro _ _ _ _; refine stpU ?_))
  refine bXg (cs := [I pa, I ma, vx]) rfl ?_
  intro b2 H1 h2 l1 f2 _
  (refine stpU ?_; repeat (refine Al4.mk ?_; intro _ _ _ _; refine stpU ?_))
  refine bXg (cs := [I pb, I mb, vy]) rfl ?_
  intro b3 H2 h3 l2 f3 _
  have l := l1.trans l2
  replace f2 := l2 _ _ f2
  replace hA := hA.mono l
  replace hB := hB.mono l
  have a0 : rdc H2 b2 0 = some (I pa) := rdc_of f2 rfl
  have a1 : rdc H2 b2 1 = some (I ma) := rdc_of f2 rfl
  have a2 : rdc H2 b2 2 = some vx := rdc_of f2 rfl
  have c0 : rdc H2 b3 0 = some (I pb) := rdc_of f3 rfl
  have c1 : rdc H2 b3 1 = some (I mb) := rdc_of f3 rfl
  have c2 : rdc H2 b3 2 = some vy := rdc_of f3 rfl
  by_cases e0 : pa = pb
  rotate_left
  · (refine stpU ?_; repeat (refine Al4.mk ?_; intro _ _ _ _; refine stpU ?_))
    exact ⟨by rw [decide_eq_false (fun e => e0 e.1)]; rfl, l⟩
  by_cases e1 : ma = mb
  rotate_left
  · (refine stpU ?_; repeat (refine Al4.mk ?_; intro _ _ _ _; refine stpU ?_))
    exact ⟨by rw [decide_eq_false (fun e => e1 e.2.1)]; rfl, l⟩
  by_cases hl : la.length = lb.length
  rotate_left
  · (refine stpU ?_; repeat (refine Al4.mk ?_; intro _ _ _ _; refine stpU ?_))
    exact ⟨by rw [decide_eq_false (fun e => hl (by rw [e.2.2]))]; rfl, l⟩
  (refine stpU ?_; repeat (refine Al4.mk ?_; intro _ _ _ _; refine stpU ?_))
  refine W_loopF (X := Nat) (fun i => [(2, .p b2 0), (3, .p b3 0), (5, I (i : Nat))]) (fun _ => H2) (fun i => i ≤ la.length ∧ ∀ j, j < i → la[j]? = lb[j]?) (fun i => la.length - i) 0 ⟨Nat.zero_le _, fun j h => absurd h (Nat.not_lt_zero _)⟩ ⟨rfl, rfl, rfl, trivial⟩ (.refl _) ?_
  rintro i ⟨hi, hok⟩
  by_cases hil : i < la.length
  · obtain ⟨x, hx⟩ : ∃ x, la[i]? = some x := ⟨_, List.getElem?_eq_getElem hil⟩
    obtain ⟨y, hy⟩ : ∃ y, lb[i]? = some y := ⟨_, List.getElem?_eq_getElem (by omega)⟩
    have hx' : (la.map I)[i]? = some (I x) := by rw [List.getElem?_map, hx]; rfl
    have hy' : (lb.map I)[i]? = some (I y) := by rw [List.getElem?_map, hy]; rfl
    by_cases e : x = y
    · (refine stpU ?_; repeat (refine Al4.mk ?_; intro _ _ _ _; refine stpU ?_))
      refine ⟨i + 1, ⟨by omega, fun j hj => ?_⟩, by omega, ⟨rfl, rfl, rfl, trivial⟩, .refl _⟩
      by_cases e2 : j = i
      · rw [e2, hx, hy, e]
      · exact hok j (by omega)
    · (refine stpU ?_; repeat (refine Al4.mk ?_; intro _ _ _ _; refine stpU ?_))
      refine ⟨?_, l⟩
      rw [decide_eq_false (fun h => e (by rw [h.2.2, hy] at hx; exact (Option.some.inj hx).symm))]; rfl
  · (refine stpU ?_; repeat (refine Al4.mk ?_; intro _ _ _ _; refine stpU ?_))
    refine ⟨?_, l⟩
    have : la = lb := List.ext_getElem? fun j => by
      by_cases hj : j < i
      · exact hok j hj
      · rw [List.getElem?_eq_none (by omega), List.getElem?_eq_none (by omega)]
    rw [decide_eq_true ⟨e0, e1, this⟩]; rfl
end Go.Proofs.Ytdkdainipanacaa
namespace Go.Proofs.Ytdkdainipanacaa
open Go Go.RowKit Alg
set_option linter.unusedSimpArgs false
set_option linter.unusedVariables false
set_option linter.constructorNameAsVariable false
set_option linter.unusedSectionVars false
attribute [local irreducible] aopL W
section
variable {D : Desc} [Desc.Ok D]
/-- a matrix as a list of lists -/
def matI (k w : Nat) (M : Nat → Nat → El D) : List (List Int) := (List.range k).map fun i => (List.range w).map fun j => ((M i j).v : Int)
theorem matI_len (k w : Nat) (M : Nat → Nat → El D) : (matI k w M).length = k := by simp [matI]
theorem matI_get {k w i : Nat} (M : Nat → Nat → El D) (h : i < k) : (matI k w M)[i]? = some ((List.range w).map fun j => ((M i j).v : Int)) := by simp [matI, h]
theorem matI_row {k w : Nat} {M : Nat → Nat → El D} {l : List Int} (h : l ∈ matI k w M) : l.length = w ∧ Elems D.q l := by
  unfold matI at h
  obtain ⟨i, _, rfl⟩ := List.mem_map.mp h
  refine ⟨by simp, fun x hx => ?_⟩
  obtain ⟨j, _, rfl⟩ := List.mem_map.mp hx
  have := (M i j).lt
  omega
theorem matL_matI {k w i j : Nat} (M : Nat → Nat → El D) (hi : i < k) (hj : j < w) : (matL (matI k w M) i j : El D) = M i j := by
  have e : (matI k w M).getD i [] = (List.range w).map fun j => ((M i j).v : Int) := by rw [List.getD_eq_getElem?_getD, matI_get M hi]; rfl
  unfold matL
  rw [e, List.getD_eq_getElem?_getD, List.getElem?_map, List.getElem?_range hj]
  exact el_of _
theorem matE_matI {k w : Nat} (M : Nat → Nat → El D) (hk : k ≤ 256) (hw : w ≤ 256) : matE D.q w (matI k w M) = 0 :=
  matE_ok (by omega) (by omega) (by rw [matI_len]; omega) (fun l hl => by rw [(matI_row hl).1]) (fun l hl => (matI_row hl).2)
theorem matI_ext {k k' w : Nat} {M N : Nat → Nat → El D} (hk : k = k') (h : ∀ i j, i < k → j < w → M i j = N i j) : matI k w M = matI k' w N := by
  subst hk
  unfold matI
  refine List.map_congr_left fun i hi => List.map_congr_left fun j hj => ?_
  rw [h i j (List.mem_range.mp hi) (List.mem_range.mp hj)]
theorem MatS.rows {H : AH} {x : AV} {k w : Nat} {M : Nat → Nat → El D} (h : MatS H x k w M) : RowsS H x (matI k w M) := by
  obtain ⟨cs, h1, h2, h3⟩ := h
  refine ⟨cs, h1, by rw [matI_len, h2], fun i c l hc hl => ?_⟩
  have hi : i < k := by rw [← h2]; exact (List.getElem?_eq_some_iff.mp hc).1
  rw [matI_get M hi] at hl
  obtain rfl := Option.some.inj hl
  have := h3 i c hc
  rw [tab_map] at this
  exact this.ints
theorem InSp_congrM {w n : Nat} {M N : Nat → Nat → El D} {v : Nat → El D} (h : InSp w n M v) (e : ∀ i j, i < n → j < w → M i j = N i j) : InSp w n N v := by
  obtain ⟨a, ha⟩ := h
  exact ⟨a, fun c hc => (ha c hc).trans (sum_congr fun i hi => by rw [e i c hi hc])⟩
theorem CanM.congr [Fld (El D)] {w n k : Nat} {M N T : Nat → Nat → El D} {p : Nat → Nat} (h : CanM w n k M p N) (e : ∀ i j, i < n → j < w → M i j = T i j) : CanM w n k T p N :=
  ⟨h.rref, fun i hi => InSp_congrM (h.sub i hi) e, fun i hi => (h.sup i hi).congr fun c hc => (e i c hi hc).symm⟩
/-- canonical rows of one row space are the same -/
theorem CanM.same [Fld (El D)] {w n n' k k' : Nat} {M M' N N' : Nat → Nat → El D} {p p' : Nat → Nat} (h : CanM w n k M p N) (h' : CanM w n' k' M' p' N') (e1 : SubSp w n n' M M') (e2 : SubSp w n' n M' M) : matI k w N = matI k' w N' := by
  obtain ⟨a, _, b⟩ := h.rref.unique h'.rref ((h.sub.trans e1).trans h'.sup) ((h'.sub.trans e2).trans h.sup)
  exact matI_ext a b

open Classical in
set_option maxHeartbeats 1000000 in
theorem r12_Same_calls {pa ma pb mb na nb : Int} {la lb : List Int} {ra rb : List (List Int)} {vx vy vz vw : AV} {H : AH} (hA : Cs H vx (la.map I)) (hB : Cs H vy (lb.map I)) (hn : la.length ≤ 1000000000000)
    (hRA : RowsS H vz ra) (hRB : RowsS H vw rb) (hra : ra.length ≤ 1000000000000) (hrl : ∀ l, l ∈ ra → l.length ≤ 1000000000000) :
    ACalls Try.prog n_r12_Same [.ag [I pa, I ma, vx, I na, vz], .ag [I pb, I mb, vy, I nb, vw]] H (fun r H' => r = .b (decide ((pa = pb ∧ ma = mb ∧ la = lb) ∧ na = nb ∧ ra = rb)) ∧ HLe H H') := by
  refine calls_of F_r12_Same hmix (by show 2 ≤ 24; decide) ?_
  unfold s_r12_Same
  (refine stpU ?_; repeat (refine Al4.mk ?_; intro _ _ _ _; refine stpU ?_))
  refine bXg (cs := [I pa, I ma, vx, I na, vz]) rfl ?_
  intro b2 H1 h2 l1 f2 _
  (refine stpU ?_; repeat (refine Al4.mk ?_; intro _ _ _ _; refine stpU ?_))
  refine bXg (cs := [I pb, I mb, vy, I nb, vw]) rfl ?_
  intro b3 H2 h3 l2 f3 _
  have l := l1.trans l2
  replace f2 := l2 _ _ f2
  replace hA := hA.mono l
  replace hB := hB.mono l
  replace hRA := hRA.mono l
  replace hRB := hRB.mono l
  (refine stpU ?_; repeat (refine Al4.mk ?_; intro _ _ _ _; refine stpU ?_))
  refine lN rfl f2 (by simp) ?_
  (refine stpU ?_; repeat (refine Al4.mk ?_; intro _ _ _ _; refine stpU ?_))
  refine lN rfl f3 (by simp) ?_
  (refine stpU ?_; repeat (refine Al4.mk ?_; intro _ _ _ _; refine stpU ?_))
  refine cA (r04_Same_calls (pa := pa) (ma := ma) (pb := pb) (mb := mb) hA hB hn) ?_
  rintro _ H3 ⟨rfl, l3⟩
  replace f2 := l3 _ _ f2
  replace f3 := l3 _ _ f3
  have g3 : rdc H3 b2 3 = some (I na) := rdc_of f2 rfl
  have g4 : rdc H3 b2 4 = some vz := rdc_of f2 rfl
  have k3 : rdc H3 b3 3 = some (I nb) := rdc_of f3 rfl
  have k4 : rdc H3 b3 4 = some vw := rdc_of f3 rfl
  by_cases e1 : pa = pb ∧ ma = mb ∧ la = lb
  rotate_left
  · rw [decide_eq_false e1, decide_eq_false (fun h => e1 h.1)]
    (refine stpU ?_; repeat (refine Al4.mk ?_; intro _ _ _ _; refine stpU ?_))
    exact ⟨rfl, l.trans l3⟩
  rw [decide_eq_true e1]
  by_cases e2 : na = nb
  rotate_left
  · rw [decide_eq_false (fun h => e2 h.2.1)]
    (refine stpU ?_; repeat (refine Al4.mk ?_; intro _ _ _ _; refine stpU ?_))
    exact ⟨rfl, l.trans l3⟩
  (refine stpU ?_; repeat (refine Al4.mk ?_; intro _ _ _ _; refine stpU ?_))
  refine cA (r09_SameRows_calls (hRA.mono l3) (hRB.mono l3) hra hrl) ?_
  rintro _ _ ⟨rfl, rfl⟩
  by_cases e3 : ra = rb
  · rw [decide_eq_true e3, decide_eq_true ⟨e1, e2, e3⟩]
    (refine stpU ?_; repeat (refine Al4.mk ?_; intro _ _ _ _; refine stpU ?_))
    exact ⟨rfl, l.trans l3⟩
  · rw [decide_eq_false e3, decide_eq_false (fun h => e3 h.2.2)]
    (refine stpU ?_; repeat (refine Al4.mk ?_; intro _ _ _ _; refine stpU ?_))
    exact ⟨rfl, l.trans l3⟩

set_option maxHeartbeats 1000000 in
theorem cyclic_around_calls (hD : D.Small) {n : Nat} (h1 : 1 ≤ n) (hn : n ≤ 1000000) {vx : AV} {H : AH} (hG : GFS D H vx) :
    ACalls Try.prog n_cyclic_around [vx, I (n : Nat)] H (fun r H' => HLe H H' ∧ PolS H' r (n + 1) (xn n : Poly (El D))) := by
  refine calls_of F_cyclic_around hmix (by show 2 ≤ 17; decide) ?_
  unfold s_cyclic_around
  haveI := hG.fld
  (refine stpU ?_; repeat (refine Al4.mk ?_; intro _ _ _ _; refine stpU ?_))
  refine mKN (n := n + 1) (l := n + 1) rfl rfl (Nat.le_refl _) (by omega) (by omega) ?_
  intro id H1 hid l1 f1 hH1
  (refine stpU ?_; repeat (refine Al4.mk ?_; intro _ _ _ _; refine stpU ?_))
  refine cA (GF_Neg_calls hD 1 (hG.mono l1)) ?_
  rintro _ H2 ⟨rfl, e⟩
  rw [e]
  clear e
  (refine stpU ?_; repeat (refine Al4.mk ?_; intro _ _ _ _; refine stpU ?_))
  rw [tabN_rep] at f1
  refine sV (off := 0) (v := I (-el (1 : Int) : El D).v) rfl f1 rfl rfl (by rw [tabN_len]; omega) ?_
  rw [tabN_set _ _ (by omega)]
  (refine stpU ?_; repeat (refine Al4.mk ?_; intro _ _ _ _; refine stpU ?_))
  refine sV (off := n) (v := I ((1 : Nat) : Int)) rfl (upd_same _ _ _) rfl rfl (by rw [tabN_len]; omega) ?_
  rw [tabN_set _ _ (by omega), upd_upd]
  (refine stpU ?_; repeat (refine Al4.mk ?_; intro _ _ _ _; refine stpU ?_))
  refine ⟨l1.upd_of hid _, ?_⟩
  have hc : (tabN (n + 1) fun y => if y = n then 1 else if y = 0 then (-el (1 : Int) : El D).v else 0) = tabN (n + 1) fun y => ((xn n : Poly (El D)).c y).v := tabN_congr fun y hy => by
    rw [xn_c, el_one]
    by_cases e : y = n
    · rw [if_pos e, if_pos e, if_neg (by omega), Alg.neg_zero, Alg.add_zero]; rfl
    · rw [if_neg e, if_neg e, Alg.zero_add]
      by_cases e2 : y = 0
      · rw [if_pos e2, if_pos e2]
      · rw [if_neg e2, if_neg e2, Alg.neg_zero]; rfl
  have := Cs.own (upd_same H1 id ⟨tabN (n + 1) fun y => if y = n then 1 else if y = 0 then (-el (1 : Int) : El D).v else 0, true, 1⟩)
  rw [tabN_len] at this
  have h2 : Cs (upd H1 id ⟨tabN (n + 1) fun y => if y = n then 1 else if y = 0 then (-el (1 : Int) : El D).v else 0, true, 1⟩) (.s id 0 (n + 1)) (tabN (n + 1) fun y => ((xn n : Poly (El D)).c y).v) := by rw [← hc]; exact this
  have h3 := PolS.tab h2
  rw [pO_self] at h3
  · exact h3
  · intro i hi; rw [xn_c, if_neg (by omega), if_neg (by omega), Alg.neg_zero, Alg.add_zero]
end
end Go.Proofs.Ytdkdainipanacaa
