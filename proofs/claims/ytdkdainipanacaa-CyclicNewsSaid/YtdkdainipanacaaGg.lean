/- Contracts of the reference's polynomials: Canon, At, Add, Scale, Sub, Mul, Power, Monic. Condition: the field's description is in range, the slices hold whole numbers. · Contracts of the reference's DivMod, Rem, Gcd of polynomials. Condition: the field's description is in range, the slices hold whole numbers. -/
import Derived.Test.YtdkdainipanacaaG9
import Derived.Test.YtdkdainipanacaaGa
namespace Go.Proofs.Ytdkdainipanacaa
open Go Go.RowKit Alg
set_option linter.unusedSimpArgs false
set_option linter.unusedVariables false
set_option linter.constructorNameAsVariable false
attribute [local irreducible] aopL W
variable {D : Desc} [Desc.Ok D]

/-- the field's description as a struct value -/
abbrev fd (D : Desc) (vm : AV) : AV := .ag [I D.p, I D.m, vm]
/-- a fresh slice with P -/
def NewP (H H' : AH) (r : AV) (P : Poly (El D)) : Prop := ∃ id, r = .s id 0 (len P) ∧ H id = none ∧ CanP H' r P
theorem NewP.low {H0 H H' : AH} {r : AV} {P : Poly (El D)} (hl : HLe H0 H) (h : NewP H H' r P) : NewP H0 H' r P := by
  obtain ⟨id, h1, h2, h3⟩ := h; exact ⟨id, h1, hl.absent h2, h3⟩

theorem RCanon_calls (hD : D.Small) {n : Nat} {P : Poly (El D)} {vm vy : AV} {H : AH} (hP : PolS H vy n P) (hn : n * 8 ≤ 281474976710656) :
    ACalls Try.prog n_r05_Canon [fd D vm, vy] H (fun r H' => NewP H H' r P ∧ HLe H H') := by
  obtain ⟨l, hC, rfl, rfl⟩ := hP
  refine ACalls.mono (r05_Canon_own hD hC hn) fun r H' ⟨h1, h2, id, h3, h4⟩ => ⟨⟨id, ?_, h4, ?_⟩, h2⟩
  · rw [h3, cf_vals, topF_len (polL_below l)]
  · unfold CanP
    rwa [cf_vals, topF_len (polL_below l)] at h1

theorem RDegree_calls (hD : D.Small) {n : Nat} {P : Poly (El D)} {vm vy : AV} {H : AH} (hP : PolS H vy n P) (hn : n * 8 ≤ 281474976710656) :
    ACalls Try.prog n_r05_Degree [fd D vm, vy] H (fun r H' => r = I ((len P : Int) - 1) ∧ HLe H H') := by
  refine calls_of F_r05_Degree hmix (by show 2 ≤ 10; decide) ?_
  unfold s_r05_Degree
  (refine stpT ?_; repeat (refine Al4.mk ?_; intro _ _ _ _; refine stpT ?_))
  refine bX rfl ?_
  intro bid hbid
  have fb := upd_same H bid ⟨[I D.p, I D.m, vm], true, 0⟩
  have hl1 : HLe H (upd H bid ⟨[I D.p, I D.m, vm], true, 0⟩) := .upd_new hbid _
  generalize upd H bid ⟨[I D.p, I D.m, vm], true, 0⟩ = H1 at *
  (refine stpT ?_; repeat (refine Al4.mk ?_; intro _ _ _ _; refine stpT ?_))
  refine ldn_own rfl fb rfl ?_
  (refine stpT ?_; repeat (refine Al4.mk ?_; intro _ _ _ _; refine stpT ?_))
  refine cA (RCanon_calls hD (hP.mono hl1) hn) ?_
  rintro _ H2 ⟨⟨id, rfl, _, _⟩, hl2⟩
  have hln := len_le hP.below
  (refine stpT ?_; repeat (refine Al4.mk ?_; intro _ _ _ _; refine stpT ?_))
  exact ⟨rfl, hl1.trans hl2⟩

theorem At_calls (hD : D.Small) (i : Nat) {n : Nat} {P : Poly (El D)} {vm vy : AV} {H : AH} (hP : PolS H vy n P) :
    ACalls Try.prog n_r05_At [fd D vm, vy, I (i : Nat)] H (fun r H' => r = I (P.c i).v ∧ HLe H H') := by
  obtain ⟨l, hC, rfl, rfl⟩ := hP
  refine calls_of F_r05_At hmix (by show 3 ≤ 21; decide) ?_
  unfold s_r05_At
  have hln : (l.map I).length = l.length := List.length_map ..
  (refine stpU ?_; repeat (refine Al4.mk ?_; intro _ _ _ _; refine stpU ?_))
  refine bX rfl ?_
  intro bid hbid
  have fb := upd_same H bid ⟨[I D.p, I D.m, vm], true, 0⟩
  have hl1 : HLe H (upd H bid ⟨[I D.p, I D.m, vm], true, 0⟩) := .upd_new hbid _
  generalize upd H bid ⟨[I D.p, I D.m, vm], true, 0⟩ = H1 at *
  replace hC := hC.mono hl1
  by_cases hi : i < l.length
  · have hget : l[i]? = some l[i] := List.getElem?_eq_getElem (by omega)
    have hw : (l.map I)[i]? = some (I l[i]) := by rw [List.getElem?_map, hget]; rfl
    have hpc : (polL l : Poly (El D)).c i = el l[i] := polL_get hget
    generalize l[i] = c at *
    (refine stpU ?_; repeat (refine Al4.mk ?_; intro _ _ _ _; refine stpU ?_))
    refine ldn_own rfl fb rfl ?_
    (refine stpU ?_; repeat (refine Al4.mk ?_; intro _ _ _ _; refine stpU ?_))
    refine cAt (r04_In_calls hD c vm H1) ?_
    rintro _ H2 ⟨rfl, hl2⟩
    refine ⟨hl2, ?_⟩
    (refine stpU ?_; repeat (refine Al4.mk ?_; intro _ _ _ _; refine stpU ?_))
    exact ⟨by rw [hpc]; rfl, hl1.trans hl2⟩
  · (refine stpU ?_; repeat (refine Al4.mk ?_; intro _ _ _ _; refine stpU ?_))
    exact ⟨by rw [polL_below l i (by omega)]; rfl, hl1⟩

set_option maxHeartbeats 4000000 in
theorem RAdd_calls (hD : D.Small) {n m : Nat} {P Q : Poly (El D)} {vm vy vz : AV} {H : AH} (hP : PolS H vy n P) (hQ : PolS H vz m Q) (hn : n * 8 ≤ 281474976710656) (hm : m * 8 ≤ 281474976710656) :
    ACalls Try.prog n_r05_Add [fd D vm, vy, vz] H (fun r H' => NewP H H' r (P + Q) ∧ HLe H H') := by
  have hP' := hP
  have hQ' := hQ
  obtain ⟨l, hC, hl, _⟩ := hP'
  obtain ⟨k, hE, hk, _⟩ := hQ'
  refine calls_of F_r05_Add hmix (by show 3 ≤ 37; decide) ?_
  unfold s_r05_Add
  have hln : (l.map I).length = n := by rw [List.length_map, hl]
  have hkn : (k.map I).length = m := by rw [List.length_map, hk]
  (refine stpU ?_; repeat (refine Al4.mk ?_; intro _ _ _ _; refine stpU ?_))
  refine bX rfl ?_
  intro bid hbid
  have fb := upd_same H bid ⟨[I D.p, I D.m, vm], true, 0⟩
  have hl1 : HLe H (upd H bid ⟨[I D.p, I D.m, vm], true, 0⟩) := .upd_new hbid _
  generalize upd H bid ⟨[I D.p, I D.m, vm], true, 0⟩ = H1 at *
  replace hC := hC.mono hl1
  replace hE := hE.mono hl1
  replace hP := hP.mono hl1
  replace hQ := hQ.mono hl1
  (refine stpU ?_; repeat (refine Al4.mk ?_; intro _ _ _ _; refine stpU ?_))
  rw [hln, hkn]
  obtain ⟨L, hL⟩ : ∃ L, L = max n m := ⟨_, rfl⟩
  rw [← hL]
  refine mK (by_ := 8) (m := L) (l := L) rfl rfl (by omega) (by omega) (by omega) (by omega) ?_
  intro id hid
  rw [Int.toNat_natCast, tabN_rep]
  have hle : ∀ f : Nat → Nat, HLe H1 (upd H1 id ⟨tabN L f, true, 1⟩) := fun f => .upd_new hid _
  clear hC hE
  (refine stpU ?_; repeat (refine Al4.mk ?_; intro _ _ _ _; refine stpU ?_))
  refine W_loopF (X := Nat) (fun i => [(1, vy), (2, vz), (3, .p bid 0), (7, .s id 0 L), (8, I (i : Nat))]) (fun i => upd H1 id ⟨tabN L fun j => if j < i then vals (P + Q) j else 0, true, 1⟩)
    (fun i => i ≤ L) (fun i => L - i) 0 (Nat.zero_le _) ⟨rfl, rfl, rfl, rfl, rfl, trivial⟩ (HLe.tabN fun j _ => if_neg (by omega)) ?_
  intro i hi
  have fbi := hle (fun j => if j < i then vals (P + Q) j else 0) _ _ fb
  by_cases hil : i < L
  · (refine stpU ?_; repeat (refine Al4.mk ?_; intro _ _ _ _; refine stpU ?_))
    refine ldn_own rfl fbi rfl ?_
    refine ldn_own rfl fbi rfl ?_
    (refine stpU ?_; repeat (refine Al4.mk ?_; intro _ _ _ _; refine stpU ?_))
    refine ldn_own rfl fbi rfl ?_
    (refine stpU ?_; repeat (refine Al4.mk ?_; intro _ _ _ _; refine stpU ?_))
    refine cAt (At_calls hD i (hP.mono (hle _))) ?_
    rintro _ H2 ⟨rfl, hl2⟩
    refine ⟨hl2, ?_⟩
    (refine stpU ?_; repeat (refine Al4.mk ?_; intro _ _ _ _; refine stpU ?_))
    refine cAt (At_calls hD i ((hQ.mono (hle _)).mono hl2)) ?_
    rintro _ H3 ⟨rfl, hl3⟩
    refine ⟨hl3, ?_⟩
    (refine stpU ?_; repeat (refine Al4.mk ?_; intro _ _ _ _; refine stpU ?_))
    refine cAt (r04_Add_calls hD _ _ vm H3) ?_
    rintro _ H4 ⟨rfl, hl4⟩
    refine ⟨hl4, ?_⟩
    rw [el_of, el_of]
    have hl24 := hl2.trans (hl3.trans hl4)
    (refine stpU ?_; repeat (refine Al4.mk ?_; intro _ _ _ _; refine stpU ?_))
    refine sV (off := i) (v := I (vals (P + Q) i)) rfl (hl24 _ _ (upd_same _ _ _)) rfl rfl (by rw [tabN_len]; omega) ?_
    rw [tabN_set _ _ hil]
    (refine stpU ?_; repeat (refine Al4.mk ?_; intro _ _ _ _; refine stpU ?_))
    refine ⟨i + 1, by omega, by omega, ⟨rfl, rfl, rfl, rfl, rfl, trivial⟩, ?_⟩
    have h4 := hl24.upd_both id ⟨tabN L fun j => if j = i then vals (P + Q) i else if j < i then vals (P + Q) j else 0, true, 1⟩
    rw [upd_upd] at h4
    refine HLe.trans (HLe.tabN fun j hj => ?_) h4
    by_cases e : j = i
    · subst e; rw [if_pos (by omega), if_pos rfl]
    · rw [if_neg e]
      by_cases h2 : j < i
      · rw [if_pos h2, if_pos (by omega)]
      · rw [if_neg h2, if_neg (by omega)]
  · have ei : i = L := by omega
    subst ei
    have hfull : tabN i (fun j => if j < i then vals (P + Q) j else 0) = tabN i (vals (P + Q)) := tabN_congr fun j hj => if_pos (by omega)
    rw [hfull] at *
    have hown := Cs.own (upd_same H1 id ⟨tabN i (vals (P + Q)), true, 1⟩)
    rw [tabN_len] at hown
    have hpo : PolS (upd H1 id ⟨tabN i (vals (P + Q)), true, 1⟩) (.s id 0 i) i (P + Q) := by
      have := PolS.tab (o := (P + Q).c) hown
      rwa [pO_self (below_add (hP.below.mono (by omega)) (hQ.below.mono (by omega)))] at this
    (refine stpU ?_; repeat (refine Al4.mk ?_; intro _ _ _ _; refine stpU ?_))
    refine ldn_own rfl (hle _ _ _ fb) rfl ?_
    (refine stpU ?_; repeat (refine Al4.mk ?_; intro _ _ _ _; refine stpU ?_))
    refine cA (RCanon_calls hD hpo (by omega)) ?_
    rintro vu H5 ⟨hc, hl5⟩
    (refine stpU ?_; repeat (refine Al4.mk ?_; intro _ _ _ _; refine stpU ?_))
    exact ⟨hc.low (hl1.trans (hle _)), (hl1.trans (hle _)).trans hl5⟩

set_option maxHeartbeats 4000000 in
theorem RScale_calls (hD : D.Small) (a : Int) {n : Nat} {P : Poly (El D)} {vm vy : AV} {H : AH} (hM : ModS H D vm) (hP : PolS H vy n P) (hn : n * 8 ≤ 281474976710656) :
    ACalls Try.prog n_r05_Scale [fd D vm, I a, vy] H (fun r H' => NewP H H' r (C (el a) * P) ∧ HLe H H') := by
  obtain ⟨l, hC, rfl, rfl⟩ := hP
  refine calls_of F_r05_Scale hmix (by show 3 ≤ 31; decide) ?_
  unfold s_r05_Scale
  have hln : (l.map I).length = l.length := List.length_map ..
  (refine stpU ?_; repeat (refine Al4.mk ?_; intro _ _ _ _; refine stpU ?_))
  refine bX rfl ?_
  intro bid hbid
  have fb := upd_same H bid ⟨[I D.p, I D.m, vm], true, 0⟩
  have hl1 : HLe H (upd H bid ⟨[I D.p, I D.m, vm], true, 0⟩) := .upd_new hbid _
  generalize upd H bid ⟨[I D.p, I D.m, vm], true, 0⟩ = H1 at *
  replace hC := hC.mono hl1
  replace hM := hM.mono hl1
  (refine stpU ?_; repeat (refine Al4.mk ?_; intro _ _ _ _; refine stpU ?_))
  rw [hln]
  refine mK (by_ := 8) (m := l.length) (l := l.length) rfl rfl (by omega) (by omega) (by omega) (by omega) ?_
  intro id hid
  rw [Int.toNat_natCast, tabN_rep]
  have hle : ∀ f : Nat → Nat, HLe H1 (upd H1 id ⟨tabN l.length f, true, 1⟩) := fun f => .upd_new hid _
  obtain ⟨Q, hQ⟩ : ∃ Q : Poly (El D), Q = C (el a) * polL l := ⟨_, rfl⟩
  rw [← hQ]
  have hQb : Q.below l.length := fun i hi => by rw [hQ, C_mul_c, polL_below l i hi, mul_zero]
  (refine stpU ?_; repeat (refine Al4.mk ?_; intro _ _ _ _; refine stpU ?_))
  refine W_loopF (X := Nat) (fun i => [(1, I a), (2, vy), (3, .p bid 0), (7, .s id 0 l.length), (8, I (i : Nat))]) (fun i => upd H1 id ⟨tabN l.length fun j => if j < i then vals Q j else 0, true, 1⟩)
    (fun i => i ≤ l.length) (fun i => l.length - i) 0 (Nat.zero_le _) ⟨rfl, rfl, rfl, rfl, rfl, trivial⟩ (HLe.tabN fun j _ => if_neg (by omega)) ?_
  intro i hi
  have fbi := hle (fun j => if j < i then vals Q j else 0) _ _ fb
  have hCi := hC.mono (hle (fun j => if j < i then vals Q j else 0))
  by_cases hil : i < l.length
  · have hget : l[i]? = some l[i] := List.getElem?_eq_getElem (by omega)
    have hw : (l.map I)[i]? = some (I l[i]) := by rw [List.getElem?_map, hget]; rfl
    have hpc : Q.c i = el a * el l[i] := by rw [hQ, C_mul_c, polL_get hget]
    generalize l[i] = c at *
    (refine stpU ?_; repeat (refine Al4.mk ?_; intro _ _ _ _; refine stpU ?_))
    refine ldn_own rfl fbi rfl ?_
    (refine stpU ?_; repeat (refine Al4.mk ?_; intro _ _ _ _; refine stpU ?_))
    refine cAt (r04_Mul_calls hD a c (hM.mono (hle _))) ?_
    rintro _ H4 ⟨rfl, hl24⟩
    refine ⟨hl24, ?_⟩
    rw [← hpc]
    (refine stpU ?_; repeat (refine Al4.mk ?_; intro _ _ _ _; refine stpU ?_))
    refine sV (off := i) (v := I (vals Q i)) rfl (hl24 _ _ (upd_same _ _ _)) rfl rfl (by rw [tabN_len]; omega) ?_
    rw [tabN_set _ _ hil]
    (refine stpU ?_; repeat (refine Al4.mk ?_; intro _ _ _ _; refine stpU ?_))
    refine ⟨i + 1, by omega, by omega, ⟨rfl, rfl, rfl, rfl, rfl, trivial⟩, ?_⟩
    have h4 := hl24.upd_both id ⟨tabN l.length fun j => if j = i then vals Q i else if j < i then vals Q j else 0, true, 1⟩
    rw [upd_upd] at h4
    refine HLe.trans (HLe.tabN fun j hj => ?_) h4
    by_cases e : j = i
    · subst e; rw [if_pos (by omega), if_pos rfl]
    · rw [if_neg e]
      by_cases h2 : j < i
      · rw [if_pos h2, if_pos (by omega)]
      · rw [if_neg h2, if_neg (by omega)]
  · have hfull : tabN l.length (fun j => if j < i then vals Q j else 0) = tabN l.length (vals Q) := tabN_congr fun j hj => if_pos (by omega)
    rw [hfull] at hCi ⊢
    have hown := Cs.own (upd_same H1 id ⟨tabN l.length (vals Q), true, 1⟩)
    rw [tabN_len] at hown
    have hpo : PolS (upd H1 id ⟨tabN l.length (vals Q), true, 1⟩) (.s id 0 l.length) l.length Q := by
      have := PolS.tab (o := Q.c) hown
      rwa [pO_self hQb] at this
    (refine stpU ?_; repeat (refine Al4.mk ?_; intro _ _ _ _; refine stpU ?_))
    refine ldn_own rfl (hle _ _ _ fb) rfl ?_
    (refine stpU ?_; repeat (refine Al4.mk ?_; intro _ _ _ _; refine stpU ?_))
    refine cA (RCanon_calls hD hpo (by omega)) ?_
    rintro vu H5 ⟨hc, hl5⟩
    (refine stpU ?_; repeat (refine Al4.mk ?_; intro _ _ _ _; refine stpU ?_))
    exact ⟨hc.low (hl1.trans (hle _)), (hl1.trans (hle _)).trans hl5⟩

theorem RSub_calls (hD : D.Small) {n m : Nat} {P Q : Poly (El D)} {vm vy vz : AV} {H : AH} (hM : ModS H D vm) (hP : PolS H vy n P) (hQ : PolS H vz m Q) (hn : n * 8 ≤ 281474976710656) (hm : m * 8 ≤ 281474976710656) :
    ACalls Try.prog n_r05_Sub [fd D vm, vy, vz] H (fun r H' => NewP H H' r (P + -Q) ∧ HLe H H') := by
  refine calls_of F_r05_Sub hmix (by show 3 ≤ 15; decide) ?_
  unfold s_r05_Sub
  (refine stpU ?_; repeat (refine Al4.mk ?_; intro _ _ _ _; refine stpU ?_))
  refine bX rfl ?_
  intro bid hbid
  have fb := upd_same H bid ⟨[I D.p, I D.m, vm], true, 0⟩
  have hl1 : HLe H (upd H bid ⟨[I D.p, I D.m, vm], true, 0⟩) := .upd_new hbid _
  generalize upd H bid ⟨[I D.p, I D.m, vm], true, 0⟩ = H1 at *
  (refine stpU ?_; repeat (refine Al4.mk ?_; intro _ _ _ _; refine stpU ?_))
  refine ldn_own rfl fb rfl ?_
  (refine stpU ?_; repeat (refine Al4.mk ?_; intro _ _ _ _; refine stpU ?_))
  refine ldn_own rfl fb rfl ?_
  (refine stpU ?_; repeat (refine Al4.mk ?_; intro _ _ _ _; refine stpU ?_))
  refine ldn_own rfl fb rfl ?_
  (refine stpU ?_; repeat (refine Al4.mk ?_; intro _ _ _ _; refine stpU ?_))
  refine cAt (r04_Neg_calls hD 1 vm H1) ?_
  rintro _ H2 ⟨rfl, hl2⟩
  refine ⟨hl2, ?_⟩
  have hl12 := hl1.trans hl2
  refine cAt (RScale_calls hD _ (hM.mono hl12) (hQ.mono hl12) hm) ?_
  rintro _ H3 ⟨⟨id, rfl, hid, hc⟩, hl3⟩
  refine ⟨hl3, ?_⟩
  have e : C (el ((-el 1 : El D).v : Int)) * Q = -Q := by rw [el_of, el_one, C_neg, C_one, neg_mul, one_mul]
  rw [e] at hc
  have hcp := hc.pol
  have hlQ : len (C (el ((-el 1 : El D).v : Int)) * Q) = len (-Q) := by rw [e]
  rw [hlQ]
  have hln := len_le (below_neg hQ.below)
  refine cAt (RAdd_calls hD ((hP.mono hl12).mono hl3) hcp hn (by omega)) ?_
  rintro vu H4 ⟨hc4, hl4⟩
  refine ⟨hl4, ?_⟩
  (refine stpU ?_; repeat (refine Al4.mk ?_; intro _ _ _ _; refine stpU ?_))
  exact ⟨hc4.low (hl12.trans hl3), hl12.trans (hl3.trans hl4)⟩

theorem NewP.can {H H' : AH} {r : AV} {P : Poly (El D)} (h : NewP H H' r P) : CanP H' r P := by
  obtain ⟨id, _, _, h⟩ := h; exact h

set_option maxHeartbeats 4000000 in
theorem RMul_calls (hD : D.Small) {n m : Nat} {P Q : Poly (El D)} {vm vy vz : AV} {H : AH} (hM : ModS H D vm) (hP : PolS H vy n P) (hQ : PolS H vz m Q) (hn : n * 8 ≤ 140737488355328) (hm : m * 8 ≤ 140737488355328) :
    ACalls Try.prog n_r05_Mul [fd D vm, vy, vz] H (fun r H' => NewP H H' r (P * Q) ∧ HLe H H') := by
  refine calls_of F_r05_Mul hmix (by show 3 ≤ 60; decide) ?_
  unfold s_r05_Mul
  have hPn := len_le hP.below
  have hQn := len_le hQ.below
  (refine stpU ?_; repeat (refine Al4.mk ?_; intro _ _ _ _; refine stpU ?_))
  refine bX rfl ?_
  intro bid hbid
  have fb := upd_same H bid ⟨[I D.p, I D.m, vm], true, 0⟩
  have hl1 : HLe H (upd H bid ⟨[I D.p, I D.m, vm], true, 0⟩) := .upd_new hbid _
  generalize upd H bid ⟨[I D.p, I D.m, vm], true, 0⟩ = H1 at *
  (refine stpU ?_; repeat (refine Al4.mk ?_; intro _ _ _ _; refine stpU ?_))
  refine ldn_own rfl fb rfl ?_
  (refine stpU ?_; repeat (refine Al4.mk ?_; intro _ _ _ _; refine stpU ?_))
  refine cA (RCanon_calls hD (hP.mono hl1) (by omega)) ?_
  rintro _ H2 ⟨⟨pid, rfl, _, hcan⟩, hl2⟩
  replace fb := hl2 _ _ fb
  (refine stpU ?_; repeat (refine Al4.mk ?_; intro _ _ _ _; refine stpU ?_))
  refine ldn_own rfl fb rfl ?_
  (refine stpU ?_; repeat (refine Al4.mk ?_; intro _ _ _ _; refine stpU ?_))
  refine cA (RCanon_calls hD ((hQ.mono hl1).mono hl2) (by omega)) ?_
  rintro _ H3 ⟨⟨qid, rfl, _, hcanQ⟩, hl3⟩
  replace fb := hl3 _ _ fb
  replace hcan := hcan.mono hl3
  have hHH := hl1.trans (hl2.trans hl3)
  replace hM := hM.mono hHH
  (refine stpU ?_; repeat (refine Al4.mk ?_; intro _ _ _ _; refine stpU ?_))
  obtain ⟨L, hL⟩ : ∃ L, L = len P + len Q := ⟨_, rfl⟩
  rw [← hL]
  refine mK (by_ := 8) (m := L) (l := L) rfl rfl (by omega) (by omega) (by omega) (by omega) ?_
  intro id hid
  rw [Int.toNat_natCast, tabN_rep]
  have hle : ∀ f : Nat → Nat, HLe H3 (upd H3 id ⟨tabN L f, true, 1⟩) := fun f => .upd_new hid _
  (refine stpU ?_; repeat (refine Al4.mk ?_; intro _ _ _ _; refine stpU ?_))
  refine W_loopF (X := Nat × (Nat → El D)) (fun z => [(1, .s pid 0 (len P)), (2, .s qid 0 (len Q)), (3, .p bid 0), (7, .s id 0 L), (8, I (z.1 : Nat))]) (fun z => upd H3 id ⟨tabN L fun j => (z.2 j).v, true, 1⟩)
    (fun z => z.1 ≤ len P ∧ pO L z.2 = pO z.1 P.c * Q + mono (P.c z.1) z.1 * pO 0 Q.c) (fun z => len P - z.1) (0, fun _ => 0) ⟨Nat.zero_le _, prod_start L P Q⟩ ⟨rfl, rfl, rfl, rfl, rfl, trivial⟩ (.refl _) ?_
  rintro ⟨k, o⟩ ⟨hk, ho⟩
  dsimp only at hk ho ⊢
  by_cases hkl : k < len P
  · (refine stpU ?_; repeat (refine Al4.mk ?_; intro _ _ _ _; refine stpU ?_))
    refine W_loopF (X := Nat × (Nat → El D)) (fun z => [(1, .s pid 0 (len P)), (2, .s qid 0 (len Q)), (3, .p bid 0), (7, .s id 0 L), (8, I (k : Nat)), (9, I (z.1 : Nat))]) (fun z => upd H3 id ⟨tabN L fun j => (z.2 j).v, true, 1⟩)
      (fun z => z.1 ≤ len Q ∧ pO L z.2 = pO k P.c * Q + mono (P.c k) k * pO z.1 Q.c) (fun z => len Q - z.1) (0, o) ⟨Nat.zero_le _, ho⟩ ⟨rfl, rfl, rfl, rfl, rfl, rfl, trivial⟩ (.refl _) ?_
    rintro ⟨j, u⟩ ⟨hj, hu⟩
    dsimp only at hj hu ⊢
    by_cases hjl : j < len Q
    · have rp := ((hcan.mono (hle fun j => (u j).v)).rd (tabN_get (vals P) hkl)).2
      have rq := ((hcanQ.mono (hle fun j => (u j).v)).rd (tabN_get (vals Q) hjl)).2
      rw [Nat.zero_add] at rp rq
      have hkj : k + j < L := by omega
      have ro := tabN_rd (upd_same H3 id ⟨tabN L fun j => (u j).v, true, 1⟩) hkj
      have fbu := hle (fun j => (u j).v) _ _ fb
      (refine stpU ?_; repeat (refine Al4.mk ?_; intro _ _ _ _; refine stpU ?_))
      refine ldn_own rfl fbu rfl ?_
      (refine stpU ?_; repeat (refine Al4.mk ?_; intro _ _ _ _; refine stpU ?_))
      refine ldn_own rfl fbu rfl ?_
      (refine stpU ?_; repeat (refine Al4.mk ?_; intro _ _ _ _; refine stpU ?_))
      refine cAt (r04_Mul_calls hD (vals P k) (vals Q j) (hM.mono (hle _))) ?_
      rintro _ H4 ⟨rfl, hl4⟩
      refine ⟨hl4, ?_⟩
      refine cAt (r04_Add_calls hD (u (k + j)).v _ vm H4) ?_
      rintro _ H5 ⟨rfl, hl5⟩
      refine ⟨hl5, ?_⟩
      have hl45 := hl4.trans hl5
      obtain ⟨u', hu'⟩ : ∃ u' : Nat → El D, ∀ t, u' t = if t = k + j then u (k + j) + P.c k * Q.c j else u t := ⟨_, fun _ => rfl⟩
      have hnew : (el ((u (k + j)).v : Int) + el ((el (vals P k : Int) * el (vals Q j : Int) : El D).v : Int) : El D) = u' (k + j) := by
        rw [hu', if_pos rfl, el_of, el_of]
        congr 1
        have e1 : (el (vals P k : Int) : El D) = P.c k := el_of _
        have e2 : (el (vals Q j : Int) : El D) = Q.c j := el_of _
        rw [e1, e2]
      rw [hnew]
      (refine stpU ?_; repeat (refine Al4.mk ?_; intro _ _ _ _; refine stpU ?_))
      refine sV (off := k + j) (v := I (u' (k + j)).v) rfl (hl45 _ _ (upd_same _ _ _)) rfl rfl (by rw [tabN_len]; omega) ?_
      rw [tabN_set _ _ hkj]
      (refine stpU ?_; repeat (refine Al4.mk ?_; intro _ _ _ _; refine stpU ?_))
      have h4 := hl45.upd_both id ⟨tabN L fun y => if y = k + j then (u' (k + j)).v else (fun j => (u j).v) y, true, 1⟩
      rw [upd_upd] at h4
      refine ⟨(j + 1, u'), ⟨by omega, prod_step (u := u') hkj (by rw [hu', if_pos rfl]) (fun i hi => by rw [hu', if_neg hi]) hu⟩, by simp only; omega, ⟨rfl, rfl, rfl, rfl, rfl, rfl, trivial⟩, HLe.trans (HLe.tabN fun t _ => ?_) h4⟩
      by_cases e : t = k + j
      · subst e; rw [if_pos rfl]
      · rw [if_neg e]; show (u' t).v = _; rw [hu', if_neg e]
    · have ej : j = len Q := by omega
      subst ej
      (refine stpU ?_; repeat (refine Al4.mk ?_; intro _ _ _ _; refine stpU ?_))
      exact ⟨(k + 1, u), ⟨by omega, prod_row (below_len Q) hu⟩, by simp only; omega, ⟨rfl, rfl, rfl, rfl, rfl, trivial⟩, .refl _⟩
  · have ek : k = len P := by omega
    subst ek
    rw [pO_zero, mul_zero, Alg.add_zero, pO_self (below_len P)] at ho
    have hown := Cs.own (upd_same H3 id ⟨tabN L fun j => (o j).v, true, 1⟩)
    rw [tabN_len] at hown
    have hpo := PolS.tab (o := o) hown
    rw [ho] at hpo
    (refine stpU ?_; repeat (refine Al4.mk ?_; intro _ _ _ _; refine stpU ?_))
    refine ldn_own rfl (hle _ _ _ fb) rfl ?_
    (refine stpU ?_; repeat (refine Al4.mk ?_; intro _ _ _ _; refine stpU ?_))
    refine cA (RCanon_calls hD hpo (by omega)) ?_
    rintro vu H5 ⟨hc, hl5⟩
    (refine stpU ?_; repeat (refine Al4.mk ?_; intro _ _ _ _; refine stpU ?_))
    exact ⟨hc.low (hHH.trans (hle _)), (hHH.trans (hle _)).trans hl5⟩

theorem RPower_calls (n : Nat) (hn : n ≤ 30000000000000) (H : AH) : ACalls Try.prog n_r05_Power [I (n : Nat)] H (fun r H' => PolS H' r (n + 1) (mono (1 : El D) n) ∧ HLe H H' ∧ ∃ id, r = .s id 0 (n + 1)) := by
  refine calls_of F_r05_Power hmix (by show 1 ≤ 11; decide) ?_
  unfold s_r05_Power
  (refine stpU ?_; repeat (refine Al4.mk ?_; intro _ _ _ _; refine stpU ?_))
  refine mK (by_ := 8) (m := ((n + 1 : Nat) : Int)) (l := ((n + 1 : Nat) : Int)) rfl rfl (by omega) (by omega) (by omega) (by omega) ?_
  intro id hid
  rw [Int.toNat_natCast, tabN_rep]
  (refine stpU ?_; repeat (refine Al4.mk ?_; intro _ _ _ _; refine stpU ?_))
  refine sV (off := n) (v := I ((1 : Nat) : Int)) rfl (upd_same _ _ _) rfl rfl (by rw [tabN_len]; omega) ?_
  rw [tabN_set _ _ (show n < n + 1 by omega), upd_upd]
  (refine stpU ?_; repeat (refine Al4.mk ?_; intro _ _ _ _; refine stpU ?_))
  refine ⟨?_, .upd_new hid _, id, rfl⟩
  have hown := Cs.own (upd_same H id ⟨tabN (n + 1) fun y => if y = n then 1 else 0, true, 1⟩)
  rw [tabN_len] at hown
  have e : tabN (n + 1) (fun y => if y = n then 1 else 0) = tabN (n + 1) fun y => ((if y = n then 1 else 0 : El D)).v := tabN_congr fun j _ => by
    by_cases h : j = n
    · rw [if_pos h, if_pos h]; rfl
    · rw [if_neg h, if_neg h]; rfl
  have hown' : Cs (upd H id ⟨tabN (n + 1) fun y => if y = n then 1 else 0, true, 1⟩) (.s id 0 (n + 1)) (tabN (n + 1) fun y => ((if y = n then 1 else 0 : El D)).v) := by
    rw [← e]; exact hown
  have := PolS.tab hown'
  rwa [show pO (n + 1) (fun y => (if y = n then 1 else 0 : El D)) = mono 1 n from Poly.ext fun i => by
    rw [pO_c, mono_c]
    by_cases h : i = n
    · rw [if_pos h, if_pos (by omega)]
    · rw [if_neg h]
      split <;> rfl] at this

theorem RMonic_calls (hD : D.Small) [Fld (El D)] {n : Nat} {P : Poly (El D)} {vm vy : AV} {H : AH} (hM : ModS H D vm) (hP : PolS H vy n P) (hn : n * 8 ≤ 281474976710656) :
    ACalls Try.prog n_r05_Monic [fd D vm, vy] H (fun r H' => NewP H H' r (monicP P) ∧ HLe H H') := by
  refine calls_of F_r05_Monic hmix (by show 2 ≤ 23; decide) ?_
  unfold s_r05_Monic
  have hPn := len_le hP.below
  (refine stpU ?_; repeat (refine Al4.mk ?_; intro _ _ _ _; refine stpU ?_))
  refine bX rfl ?_
  intro bid hbid
  have fb := upd_same H bid ⟨[I D.p, I D.m, vm], true, 0⟩
  have hl1 : HLe H (upd H bid ⟨[I D.p, I D.m, vm], true, 0⟩) := .upd_new hbid _
  generalize upd H bid ⟨[I D.p, I D.m, vm], true, 0⟩ = H1 at *
  (refine stpU ?_; repeat (refine Al4.mk ?_; intro _ _ _ _; refine stpU ?_))
  refine ldn_own rfl fb rfl ?_
  (refine stpU ?_; repeat (refine Al4.mk ?_; intro _ _ _ _; refine stpU ?_))
  refine cA (RCanon_calls hD (hP.mono hl1) hn) ?_
  rintro _ H2 ⟨hNew, hl2⟩
  have hN := hNew
  obtain ⟨pid, rfl, hpid, hcan⟩ := hN
  have hHH := hl1.trans hl2
  replace fb := hl2 _ _ fb
  by_cases h0 : P = 0
  · have hl0 : len P = 0 := by rw [h0, len_zero]
    (refine stpU ?_; repeat (refine Al4.mk ?_; intro _ _ _ _; refine stpU ?_))
    refine ⟨?_, hHH⟩
    rw [h0, monicP_zero, ← h0]
    exact hNew.low hl1
  have hpos := len_pos h0
  have hrd := (hcan.rd (tabN_get (vals P) (show len P - 1 < len P by omega))).2
  rw [Nat.zero_add] at hrd
  (refine stpU ?_; repeat (refine Al4.mk ?_; intro _ _ _ _; refine stpU ?_))
  refine ldn_own rfl fb rfl ?_
  (refine stpU ?_; repeat (refine Al4.mk ?_; intro _ _ _ _; refine stpU ?_))
  refine ldn_own rfl fb rfl ?_
  (refine stpU ?_; repeat (refine Al4.mk ?_; intro _ _ _ _; refine stpU ?_))
  refine cAt (r04_Inv_calls hD _ (hM.mono hHH)) ?_
  rintro _ H3 ⟨rfl, hl3⟩
  refine ⟨hl3, ?_⟩
  have e1 : (el (vals P (len P - 1) : Nat) : El D) = lead P := el_of _
  rw [e1]
  refine cAt (RScale_calls hD _ (hM.mono (hHH.trans hl3)) (hcan.mono hl3).pol (by omega)) ?_
  rintro vu H4 ⟨hc4, hl4⟩
  refine ⟨hl4, ?_⟩
  rw [el_of] at hc4
  (refine stpU ?_; repeat (refine Al4.mk ?_; intro _ _ _ _; refine stpU ?_))
  exact ⟨hc4.low (hHH.trans hl3), hHH.trans (hl3.trans hl4)⟩

end Go.Proofs.Ytdkdainipanacaa
namespace Go.Proofs.Ytdkdainipanacaa
open Go Go.RowKit Alg
set_option linter.unusedSimpArgs false
set_option linter.unusedVariables false
set_option linter.constructorNameAsVariable false
attribute [local irreducible] aopL W
variable {D : Desc} [Desc.Ok D]

theorem upd_dlX {H : AH} {z : Nat} (X : AObj) : upd (del H z) z X = upd H z X := funext fun j => by
  rw [upd_get, upd_get]
  split
  · rfl
  · rename_i h; rw [del_get, if_neg h]
theorem upd_del_self {H : AH} {z : Nat} {X : AObj} (h : H z = some X) : upd (del H z) z X = H := by rw [upd_dlX, HLe.same h]
theorem del_none (H : AH) (z : Nat) : Go.Proofs.Ytdkdainipanacaa.del H z z = none := del_same H z
theorem Cs.del {H : AH} {id off n z : Nat} {cs : List AV} (h : Cs H (.s id off n) cs) (hz : id ≠ z) : Cs (Go.Proofs.Ytdkdainipanacaa.del H z) (.s id off n) cs := by
  rcases h with ⟨_, h | h⟩ | ⟨id', off', ob, h1, h2, h3⟩
  · cases h
  · cases h
  · cases h1
    exact .inr ⟨id, off, ob, rfl, by rw [del_ne _ hz]; exact h2, h3⟩

/-- the step of the reference's division -/
theorem rdiv_step {K : Nat} {u u' : Nat → El D} {A P Q : Poly (El D)} {c : Nat} {a : El D} (hcK : c < K) (hu' : ∀ t, u' t = if t = c then a else u t) (hu : u c = 0) (h : P = pO K u * Q + A) :
    P = pO K u' * Q + (A + -(C a * Q * mono 1 c)) := by
  rw [pO_set (o := u) (u := u') (s := c) (e := a) hcK (by rw [hu', if_pos rfl, hu, Alg.zero_add]) (fun i hi => by rw [hu', if_neg hi]), h, Alg.add_mul]
  have e : mono a c * Q = C a * Q * mono 1 c := by
    have e1 : mono a c = C a * mono 1 c := Poly.ext fun i => by
      rw [C_mul_c, mono_c, mono_c]
      by_cases h : i = c
      · rw [if_pos h, if_pos h, Alg.mul_one]
      · rw [if_neg h, if_neg h, mul_zero]
    rw [e1, Alg.mul_assoc, Alg.mul_comm (mono 1 c), ← Alg.mul_assoc]
  rw [e]
  generalize C a * Q * mono 1 c = X
  generalize pO K u * Q = Y
  rw [Alg.add_comm A, ← Alg.add_assoc, Alg.add_assoc Y, add_neg, Alg.add_zero]
theorem rdiv_len {A Q : Poly (El D)} {c : Nat} {a iv : El D} (hc : c + len Q = len A) (hQ : 0 < len Q) (ha : a = lead A * iv) (hi : lead Q * iv = 1) : (A + -(C a * Q * mono 1 c)).below (len A - 1) ∧ (C a * Q * mono 1 c).below (len A) := by
  have e : ∀ i, (C a * Q * mono 1 c).c i = if c ≤ i then a * Q.c (i - c) else 0 := fun i => by
    rw [Alg.mul_comm, mono_mul_c]
    split
    · rw [Alg.one_mul, C_mul_c]
    · rfl
  refine ⟨fun i hi' => ?_, fun i hi' => ?_⟩
  · rw [add_c, neg_c, e, if_pos (by omega)]
    by_cases h : i = len A - 1
    · rw [h, show len A - 1 - c = len Q - 1 by omega]
      show lead A + -(a * lead Q) = 0
      rw [ha, Alg.mul_assoc, Alg.mul_comm iv, hi, Alg.mul_one, add_neg]
    · rw [below_len A i (by omega), below_len Q _ (by omega), mul_zero, neg_zero, Alg.add_zero]
  · rw [e, if_pos (by omega), below_len Q _ (by omega), mul_zero]

set_option maxHeartbeats 8000000 in
theorem RDivMod_calls (hD : D.Small) [Fld (El D)] {n m : Nat} {P Q : Poly (El D)} {vm vy vz : AV} {H : AH} (hM : ModS H D vm) (hP : PolS H vy n P) (hQ : PolS H vz m Q) (hQ0 : Q ≠ 0) (hn : n * 8 ≤ 140737488355328) (hm : m * 8 ≤ 140737488355328) :
    ACalls Try.prog n_r05_DivMod [fd D vm, vy, vz] H (fun r H' => HLe H H' ∧ ∃ vq vr, r = .tu [vq, vr] ∧ CanP H' vq (divP P Q) ∧ CanP H' vr (modP P Q)) := by
  refine calls_of F_r05_DivMod hmix (by show 3 ≤ 72; decide) ?_
  unfold s_r05_DivMod
  have hPn := len_le hP.below
  have hQn := len_le hQ.below
  have hqp := len_pos hQ0
  (refine stpU ?_; repeat (refine Al4.mk ?_; intro _ _ _ _; refine stpU ?_))
  refine bX rfl ?_
  intro bid hbid
  have fb := upd_same H bid ⟨[I D.p, I D.m, vm], true, 0⟩
  have hl1 : HLe H (upd H bid ⟨[I D.p, I D.m, vm], true, 0⟩) := .upd_new hbid _
  generalize upd H bid ⟨[I D.p, I D.m, vm], true, 0⟩ = H1 at *
  (refine stpU ?_; repeat (refine Al4.mk ?_; intro _ _ _ _; refine stpU ?_))
  refine ldn_own rfl fb rfl ?_
  (refine stpU ?_; repeat (refine Al4.mk ?_; intro _ _ _ _; refine stpU ?_))
  refine cA (RCanon_calls hD (hQ.mono hl1) (by omega)) ?_
  rintro _ H2 ⟨⟨qid, rfl, _, hcanQ⟩, hl2⟩
  replace fb := hl2 _ _ fb
  (refine stpU ?_; repeat (refine Al4.mk ?_; intro _ _ _ _; refine stpU ?_))
  refine ldn_own rfl fb rfl ?_
  (refine stpU ?_; repeat (refine Al4.mk ?_; intro _ _ _ _; refine stpU ?_))
  refine cA (RCanon_calls hD ((hP.mono hl1).mono hl2) (by omega)) ?_
  rintro _ H3 ⟨⟨rid, rfl, _, hcan⟩, hl3⟩
  replace fb := hl3 _ _ fb
  replace hcanQ := hcanQ.mono hl3
  have hHH := hl1.trans (hl2.trans hl3)
  replace hM := hM.mono hHH
  have hrd := (hcanQ.rd (tabN_get (vals Q) (show len Q - 1 < len Q by omega))).2
  rw [Nat.zero_add] at hrd
  (refine stpU ?_; repeat (refine Al4.mk ?_; intro _ _ _ _; refine stpU ?_))
  refine ldn_own rfl fb rfl ?_
  (refine stpU ?_; repeat (refine Al4.mk ?_; intro _ _ _ _; refine stpU ?_))
  refine cAt (r04_Inv_calls hD _ hM) ?_
  rintro _ H4 ⟨rfl, hl4⟩
  refine ⟨hl4, ?_⟩
  have e1 : (el (vals Q (len Q - 1) : Nat) : El D) = lead Q := el_of _
  rw [e1]
  replace fb := hl4 _ _ fb
  replace hcanQ := hcanQ.mono hl4
  replace hcan := hcan.mono hl4
  replace hM := hM.mono hl4
  replace hHH := hHH.trans hl4
  obtain ⟨iv, hiv⟩ : ∃ iv : El D, iv = inv (lead Q) := ⟨_, rfl⟩
  have hivl : lead Q * iv = 1 := by rw [hiv]; exact mul_inv (lead_ne hQ0)
  rw [← hiv]
  obtain ⟨K, hK⟩ : ∃ K, K = len P - (len Q - 1) := ⟨_, rfl⟩
  (refine stpU ?_; repeat (refine Al4.mk ?_; intro _ _ _ _; refine stpU ?_))
  refine mXx rfl rfl ?_
  rw [show (if (0 : Int) > (len P : Int) - ((len Q - 1 : Nat) : Int) then (0 : Int) else (len P : Int) - ((len Q - 1 : Nat) : Int)) = (K : Int) by split <;> omega]
  refine mK (by_ := 8) (m := K) (l := K) rfl rfl (by omega) (by omega) (by omega) (by omega) ?_
  intro zid hzid
  rw [Int.toNat_natCast, tabN_rep]
  (refine stpU ?_; repeat (refine Al4.mk ?_; intro _ _ _ _; refine stpU ?_))
  refine W_loopF (X := Poly (El D) × Nat × AH × (Nat → El D)) (fun z => [(2, .s qid 0 (len Q)), (3, .p bid 0), (8, .s z.2.1 0 (len z.1)), (9, I (len Q - 1 : Nat)), (10, I iv.v), (11, .s zid 0 K)]) (fun z => upd z.2.2.1 zid ⟨tabN K fun j => (z.2.2.2 j).v, true, 1⟩)
    (fun z => len z.1 ≤ len P ∧ P = pO K z.2.2.2 * Q + z.1 ∧ (∀ j, j + len Q ≤ len z.1 → z.2.2.2 j = 0) ∧ z.2.2.1 zid = none ∧ CanP z.2.2.1 (.s z.2.1 0 (len z.1)) z.1 ∧ CanP z.2.2.1 (.s qid 0 (len Q)) Q ∧ z.2.2.1 bid = some ⟨[I D.p, I D.m, vm], true, 0⟩ ∧ ModS z.2.2.1 D vm ∧ HLe H z.2.2.1)
    (fun z => len z.1) (P, rid, H4, fun _ => 0) ⟨Nat.le_refl _, by dsimp only; rw [pO_z0, zero_mul, Alg.zero_add], fun _ _ => rfl, hzid, hcan, hcanQ, fb, hM, hHH⟩ ⟨rfl, rfl, rfl, rfl, rfl, rfl, trivial⟩ (.refl _) ?_
  clear hcan hcanQ fb hM hHH hl4 hl3 hl2 hl1 hrd hP hQ hzid
  rintro ⟨A, rid, G, u⟩ ⟨hA, hPu, hu, hz, hcA, hcanQ, fb, hM, hHG⟩
  dsimp only at hA hPu hu hz hcA hcanQ fb hM hHG ⊢
  have hle : ∀ X, HLe G (upd G zid X) := fun X => .upd_new hz X
  by_cases hlt : len Q - 1 < len A
  · obtain ⟨c, hc⟩ : ∃ c, c + len Q = len A := ⟨len A - len Q, by omega⟩
    have ra := ((hcA.mono (hle ⟨tabN K fun j => (u j).v, true, 1⟩)).rd (tabN_get (vals A) (show len A - 1 < len A by omega))).2
    rw [Nat.zero_add] at ra
    have ec : len A - 1 - (len Q - 1) = c := by omega
    (refine stpU ?_; repeat (refine Al4.mk ?_; intro _ _ _ _; refine stpU ?_))
    rw [ec]
    (refine stpU ?_; repeat (refine Al4.mk ?_; intro _ _ _ _; refine stpU ?_))
    refine ldn_own rfl (hle _ _ _ fb) rfl ?_
    (refine stpU ?_; repeat (refine Al4.mk ?_; intro _ _ _ _; refine stpU ?_))
    refine cAt (r04_Mul_calls hD (vals A (len A - 1)) iv.v (hM.mono (hle _))) ?_
    rintro _ H5 ⟨rfl, hl5⟩
    refine ⟨hl5, ?_⟩
    have e2 : (el (vals A (len A - 1) : Nat) : El D) = lead A := el_of _
    rw [e2, el_of]
    obtain ⟨a, ha⟩ : ∃ a : El D, a = lead A * iv := ⟨_, rfl⟩
    rw [← ha]
    obtain ⟨u', hu'⟩ : ∃ u' : Nat → El D, ∀ t, u' t = if t = c then a else u t := ⟨_, fun _ => rfl⟩
    (refine stpU ?_; repeat (refine Al4.mk ?_; intro _ _ _ _; refine stpU ?_))
    refine sV (off := c) (v := I a.v) rfl (hl5 _ _ (upd_same _ _ _)) rfl rfl (by rw [tabN_len]; omega) ?_
    rw [tabN_set _ _ (show c < K by omega), show (tabN K fun y => if y = c then a.v else (fun j => (u j).v) y) = tabN K fun j => (u' j).v from tabN_congr fun j _ => by
      rw [hu']
      by_cases e : j = c
      · rw [if_pos e, if_pos e]
      · rw [if_neg e, if_neg e], ← upd_dlX]
    have hG5 : HLe G (del H5 zid) := ((hle _).trans hl5).del_of hz
    have hz5 := del_none H5 zid
    generalize del H5 zid = G5 at *
    have hle5 : ∀ X, HLe G5 (upd G5 zid X) := fun X => .upd_new hz5 X
    replace fb := hG5 _ _ fb
    replace hM := hM.mono hG5
    replace hcA := hcA.mono hG5
    replace hcanQ := hcanQ.mono hG5
    replace hHG := hHG.trans hG5
    obtain ⟨Y, hY⟩ : ∃ Y, Y = upd G5 zid ⟨tabN K fun j => (u' j).v, true, 1⟩ := ⟨_, rfl⟩
    have hY5 : HLe G5 Y := by rw [hY]; exact hle5 _
    have hYz : Y zid = some ⟨tabN K fun j => (u' j).v, true, 1⟩ := by rw [hY]; exact upd_same _ _ _
    rw [← hY]
    obtain ⟨hb1, hb2⟩ := rdiv_len (Q := Q) hc hqp ha hivl
    (refine stpU ?_; repeat (refine Al4.mk ?_; intro _ _ _ _; refine stpU ?_))
    refine ldn_own rfl (hY5 _ _ fb) rfl ?_
    (refine stpU ?_; repeat (refine Al4.mk ?_; intro _ _ _ _; refine stpU ?_))
    refine ldn_own rfl (hY5 _ _ fb) rfl ?_
    (refine stpU ?_; repeat (refine Al4.mk ?_; intro _ _ _ _; refine stpU ?_))
    refine ldn_own rfl (hY5 _ _ fb) rfl ?_
    (refine stpU ?_; repeat (refine Al4.mk ?_; intro _ _ _ _; refine stpU ?_))
    refine cAt (RScale_calls hD a.v (hM.mono hY5) (hcanQ.mono hY5).pol (by omega)) ?_
    rintro _ H6 ⟨⟨sid, rfl, _, hc6⟩, hl6⟩
    refine ⟨hl6, ?_⟩
    rw [el_of] at hc6 ⊢
    (refine stpU ?_; repeat (refine Al4.mk ?_; intro _ _ _ _; refine stpU ?_))
    refine cAt (RPower_calls (D := D) c (by omega) H6) ?_
    rintro _ H7 ⟨hc7, hl7, pid, rfl⟩
    refine ⟨hl7, ?_⟩
    have hlC : len (C a * Q) ≤ len Q := len_le fun i hi => by rw [C_mul_c, below_len Q i hi, mul_zero]
    have hl67 := hl6.trans hl7
    refine cAt (RMul_calls hD (hM.mono (hY5.trans hl67)) (hc6.mono hl7).pol hc7 (by omega) (by omega)) ?_
    rintro _ H8 ⟨⟨mid, rfl, _, hc8⟩, hl8⟩
    refine ⟨hl8, ?_⟩
    have hl68 := hl67.trans hl8
    have hlX := len_le hb2
    refine cAt (RSub_calls hD (hM.mono (hY5.trans hl68)) (hcA.mono (hY5.trans hl68)).pol hc8.pol (by omega) (by omega)) ?_
    rintro _ H9 ⟨⟨rid', rfl, hr9, hc9⟩, hl9⟩
    refine ⟨hl9, ?_⟩
    have hl69 := hl68.trans hl9
    have hrz : rid' ≠ zid := fun e => by rw [e, hl68 _ _ hYz] at hr9; cases hr9
    have hG9 : HLe G5 (del H9 zid) := (hY5.trans hl69).del_of hz5
    have hlA' := len_le hb1
    (refine stpU ?_; repeat (refine Al4.mk ?_; intro _ _ _ _; refine stpU ?_))
    refine ⟨(A + -(C a * Q * mono 1 c), rid', del H9 zid, u'), ⟨by dsimp only; omega, rdiv_step (by omega) hu' (hu c (by omega)) hPu, fun j hj => ?_, del_none H9 zid, Cs.del hc9 hrz, hcanQ.mono hG9, hG9 _ _ fb, hM.mono hG9, hHG.trans hG9⟩, by dsimp only; omega, ⟨rfl, rfl, rfl, rfl, rfl, rfl, trivial⟩, ?_⟩
    · have hj' : j + len Q ≤ len (A + -(C a * Q * mono 1 c)) := hj
      show u' j = 0
      rw [hu', if_neg (by omega)]
      exact hu j (by omega)
    · show HLe (upd (del H9 zid) zid _) H9
      rw [upd_del_self (hl69 _ _ hYz)]
      exact .refl _
  · obtain ⟨hd1, hd2⟩ := divmod_eq hQ0 hPu ((below_len A).mono (by omega))
    have hown := Cs.own (upd_same G zid ⟨tabN K fun j => (u j).v, true, 1⟩)
    rw [tabN_len] at hown
    have hpo := PolS.tab (o := u) hown
    (refine stpU ?_; repeat (refine Al4.mk ?_; intro _ _ _ _; refine stpU ?_))
    refine ldn_own rfl (hle _ _ _ fb) rfl ?_
    (refine stpU ?_; repeat (refine Al4.mk ?_; intro _ _ _ _; refine stpU ?_))
    refine cA (RCanon_calls hD hpo (by omega)) ?_
    rintro vu H5 ⟨hc5, hl5⟩
    (refine stpU ?_; repeat (refine Al4.mk ?_; intro _ _ _ _; refine stpU ?_))
    exact ⟨hHG.trans ((hle _).trans hl5), vu, _, rfl, by rw [hd1]; exact hc5.can, by rw [hd2]; exact (hcA.mono (hle _)).mono hl5⟩

end Go.Proofs.Ytdkdainipanacaa
