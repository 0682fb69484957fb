/- Contracts of Canon and Compare, the program's and the reference's. Condition: the field's description is in range, the slices hold whole numbers. · Contracts of Canon and Compare of the reference, and of the program's Compare. Condition: the field's description is in range, the slices hold whole numbers. · Contracts of the field package's New and of the laws' open. Condition: the description is a struct in memory's words. -/
import Derived.Test.YtdkdainipanacaaG5
import Derived.Test.YtdkdainipanacaaS0
import Derived.Test.YtdkdainipanacaaXD
namespace Go.Proofs.Ytdkdainipanacaa
open Go Go.RowKit Alg
set_option linter.unusedSimpArgs false
set_option linter.unusedVariables false
set_option linter.constructorNameAsVariable false
attribute [local irreducible] aopL W

/-- the field's object in memory -/
def GFS (D : Desc) [Desc.Ok D] (H : AH) (vg : AV) : Prop := ∃ gid eid lid xm z, ∃ g : El D, ∃ lg : Nat → Nat, vg = .p gid 0 ∧ H gid = some ⟨[I D.p, I D.m, xm, I D.q, .s eid 0 (D.q - 1), .s lid 0 D.q], true, z⟩ ∧ ModS H D xm ∧
  Cs H (.s eid 0 (D.q - 1)) (pws g (D.q - 1)) ∧ Cs H (.s lid 0 D.q) (tabN D.q lg) ∧ Gen g ∧ ∀ i, i < D.q - 1 → lg (pw g i).v = i
theorem GFS.mono {D : Desc} [Desc.Ok D] {H H' : AH} {vg : AV} (hl : HLe H H') (h : GFS D H vg) : GFS D H' vg := by
  obtain ⟨gid, eid, lid, xm, z, g, lg, h1, h2, h3, h4, h5, h6, h7⟩ := h
  exact ⟨gid, eid, lid, xm, z, g, lg, h1, hl _ _ h2, h3.mono hl, h4.mono hl, h5.mono hl, h6, h7⟩

/-- x as an element, or 0 -/
def cin (q : Nat) (x : Int) : Nat := if 0 ≤ x ∧ x < q then x.toNat else 0
theorem cin_in {q : Nat} {x : Int} (h : 0 ≤ x ∧ x < q) : cin q x = x.toNat := if_pos h
theorem cin_out {q : Nat} {x : Int} (h : ¬ (0 ≤ x ∧ x < q)) : cin q x = 0 := if_neg h
theorem cin_lt {q : Nat} (hq : 0 < q) (x : Int) : cin q x < q := by
  unfold cin
  split
  · omega
  · exact hq
/-- the coefficients of a list -/
def cf (q : Nat) (l : List Int) (i : Nat) : Nat := cin q (l.getD i 0)
/-- one more than the last place where f is not 0, among the first n -/
def topF (f : Nat → Nat) : Nat → Nat
  | 0 => 0
  | n + 1 => if f n = 0 then topF f n else n + 1
theorem topF_le (f : Nat → Nat) : ∀ n, topF f n ≤ n
  | 0 => Nat.le_refl _
  | n + 1 => by
    unfold topF
    have := topF_le f n
    split <;> omega
theorem topF_zero {f : Nat → Nat} : ∀ {n i : Nat}, topF f n ≤ i → i < n → f i = 0
  | 0, i, _, h => by omega
  | n + 1, i, h1, h2 => by
    unfold topF at h1
    split at h1
    · rename_i h0
      by_cases e : i = n
      · rw [e]; exact h0
      · exact topF_zero h1 (by omega)
    · omega
theorem topF_ne {f : Nat → Nat} : ∀ {n k : Nat}, topF f n = k + 1 → f k ≠ 0
  | 0, k, h => by cases h
  | n + 1, k, h => by
    unfold topF at h
    split at h
    · exact topF_ne h
    · have : n = k := by omega
      subst this; assumption
theorem topF_congr {f g : Nat → Nat} : ∀ {n : Nat}, (∀ i, i < n → f i = g i) → topF f n = topF g n
  | 0, _ => rfl
  | n + 1, h => by
    unfold topF
    rw [h n (by omega), topF_congr (n := n) fun i hi => h i (by omega)]

theorem Cs.take {H : AH} {id off n k : Nat} {cs : List AV} (h : Cs H (.s id off n) cs) (hk : k ≤ n) : Cs H (.s id off k) (cs.take k) := by
  rcases h with ⟨_, h | h⟩ | ⟨id', off', ob, h1, h2, h3, h4, h5⟩
  · cases h
  · cases h
  · cases h1
    refine .inr ⟨id, off, ob, by rw [List.length_take, Nat.min_eq_left hk], h2, h3, by rw [List.length_take]; omega, ?_⟩
    rw [List.length_take, Nat.min_eq_left hk]
    conv => rhs; rw [← h5]
    rw [List.take_take, Nat.min_eq_left hk]
theorem tabN_take {n k : Nat} (f : Nat → Nat) (hk : k ≤ n) : (tabN n f).take k = tabN k f := by
  unfold tabN
  rw [← List.map_take, List.take_range, Nat.min_eq_left hk]
theorem Cs.obj {H : AH} {id off n : Nat} {cs : List AV} (h : Cs H (.s id off n) cs) : n = cs.length ∧ ∃ ob, H id = some ob ∧ ob.sz = 1 := by
  rcases h with ⟨_, h | h⟩ | ⟨id', off', ob, h1, h2, h3, h4, h5⟩
  · cases h
  · cases h
  · cases h1; exact ⟨rfl, ob, h2, h3⟩

theorem trim_calls {n : Nat} {f : Nat → Nat} {x : AV} {H : AH} (hC : Cs H x (tabN n f)) (hn : n ≤ 9223372036854775807) :
    ACalls Try.prog n_poly_trim [x] H (fun r H' => Cs H r (tabN (topF f n) f) ∧ H' = H ∧ ((∃ id off, x = .s id off n ∧ r = .s id off (topF f n)) ∨ (x = r ∧ (x = .ns ∨ x = .es)))) := by
  refine calls_of F_poly_trim hmix (by show 1 ≤ 21; decide) ?_
  unfold s_poly_trim
  have hlen := tabN_len n f
  rcases hC.cases with ⟨h, rfl⟩ | ⟨h, rfl⟩ | ⟨id, off, rfl⟩
  · rw [h] at hlen
    have : n = 0 := hlen.symm
    subst this
    (refine stpT ?_; repeat (refine Al4.mk ?_; intro _ _ _ _; refine stpT ?_))
    refine W_loopF (X := Unit) (fun _ => [(0, .ns)]) (fun _ => H) (fun _ => True) (fun _ => 0) () trivial ⟨rfl, trivial⟩ (.refl _) ?_
    rintro _ _
    (refine stpT ?_; repeat (refine Al4.mk ?_; intro _ _ _ _; refine stpT ?_))
    exact ⟨.inl ⟨rfl, .inl rfl⟩, rfl, .inr ⟨rfl, .inl rfl⟩⟩
  · rw [h] at hlen
    have : n = 0 := hlen.symm
    subst this
    (refine stpT ?_; repeat (refine Al4.mk ?_; intro _ _ _ _; refine stpT ?_))
    refine W_loopF (X := Unit) (fun _ => [(0, .es)]) (fun _ => H) (fun _ => True) (fun _ => 0) () trivial ⟨rfl, trivial⟩ (.refl _) ?_
    rintro _ _
    (refine stpT ?_; repeat (refine Al4.mk ?_; intro _ _ _ _; refine stpT ?_))
    exact ⟨.inl ⟨rfl, .inr rfl⟩, rfl, .inr ⟨rfl, .inr rfl⟩⟩
  rw [hlen] at hC ⊢
  obtain ⟨_, ob, hob, hsz⟩ := hC.obj
  (refine stpT ?_; repeat (refine Al4.mk ?_; intro _ _ _ _; refine stpT ?_))
  refine W_loopF (X := Nat) (fun k => [(0, .s id off k)]) (fun _ => H) (fun k => k ≤ n ∧ topF f k = topF f n) (fun k => k) n ⟨Nat.le_refl _, rfl⟩ ⟨rfl, trivial⟩ (.refl _) ?_
  rintro k ⟨hk, ht⟩
  cases k with
  | zero =>
    (refine stpT ?_; repeat (refine Al4.mk ?_; intro _ _ _ _; refine stpT ?_))
    refine ⟨?_, rfl, .inl ⟨id, off, rfl, ?_⟩⟩
    · rw [← ht]; exact tabN_take f (Nat.zero_le n) ▸ hC.take (Nat.zero_le n)
    · rw [← ht]; rfl
  | succ k =>
    have hrd := (hC.rd (tabN_get f (show k < n by omega))).2
    rw [show off + k = off + (((k + 1 : Nat) : Int) - 1).toNat * 1 by omega] at hrd
    by_cases h0 : f k = 0
    · (refine stpT ?_; repeat (refine Al4.mk ?_; intro _ _ _ _; refine stpT ?_))
      refine sHi (r := k) rfl hob hsz (by exact congrArg I (show ((k + 1 : Nat) : Int) - 1 = (k : Int) by omega)) (by omega) ?_
      (refine stpT ?_; repeat (refine Al4.mk ?_; intro _ _ _ _; refine stpT ?_))
      refine ⟨k, ⟨by omega, ?_⟩, Nat.lt_succ_self _, ⟨rfl, trivial⟩, .refl _⟩
      rw [← ht, topF, if_pos h0]
    · (refine stpT ?_; repeat (refine Al4.mk ?_; intro _ _ _ _; refine stpT ?_))
      rw [topF, if_neg h0] at ht
      refine ⟨?_, rfl, .inl ⟨id, off, rfl, ?_⟩⟩
      · rw [← ht]; exact tabN_take f hk ▸ hC.take hk
      · rw [← ht]; rfl

theorem GF_Is_calls {D : Desc} [Desc.Ok D] (x : Int) {vx : AV} {H : AH} (hG : GFS D H vx) : ACalls Try.prog n_GF_Is [vx, I x] H (fun r H' => r = .b (decide (0 ≤ x ∧ x < D.q)) ∧ H' = H) := by
  obtain ⟨gid, eid, lid, xm, z, g, lg, rfl, h2, -⟩ := hG
  refine calls_of F_GF_Is hmix (by show 2 ≤ 15; decide) ?_
  unfold s_GF_Is
  have f3 : rdc H gid 3 = some (I D.q) := rdc_of h2 rfl
  by_cases h0 : 0 ≤ x
  · by_cases h1 : x < D.q
    · (refine stpT ?_; repeat (refine Al4.mk ?_; intro _ _ _ _; refine stpT ?_))
      exact ⟨by rw [decide_eq_true ⟨h0, h1⟩]; rfl, rfl⟩
    · (refine stpT ?_; repeat (refine Al4.mk ?_; intro _ _ _ _; refine stpT ?_))
      exact ⟨by rw [decide_eq_false (fun h => h1 h.2)]; rfl, rfl⟩
  · (refine stpT ?_; repeat (refine Al4.mk ?_; intro _ _ _ _; refine stpT ?_))
    exact ⟨by rw [decide_eq_false (fun h => h0 h.1)]; rfl, rfl⟩

set_option maxHeartbeats 2000000 in
theorem poly_Canon_own {D : Desc} [Desc.Ok D] {l : List Int} {vx vy : AV} {H : AH} (hG : GFS D H vx) (hC : Cs H vy (l.map I)) (hn : l.length * 8 ≤ 281474976710656) :
    ACalls Try.prog n_poly_Canon [vx, vy] H (fun r H' => Cs H' r (tabN (topF (cf D.q l) l.length) (cf D.q l)) ∧ HLe H H' ∧ ∃ id, r = .s id 0 (topF (cf D.q l) l.length) ∧ H id = none ∧ H' id = some ⟨tabN l.length (cf D.q l), true, 1⟩) := by
  refine calls_of F_poly_Canon hmix (by show 2 ≤ 28; decide) ?_
  unfold s_poly_Canon
  have hln : (l.map I).length = l.length := List.length_map ..
  have hCy := hC
  (refine stpT ?_; repeat (refine Al4.mk ?_; intro _ _ _ _; refine stpT ?_))
  refine mK (by_ := 8) (m := l.length) (l := l.length) (congrArg I (congrArg Nat.cast hln)) (congrArg I (congrArg Nat.cast hln)) (by omega) (by omega) (by omega) (by omega) ?_
  intro id hid
  rw [Int.toNat_natCast, tabN_rep]
  have hle : ∀ f : Nat → Nat, HLe H (upd H id ⟨tabN l.length f, true, 1⟩) := fun f => .upd_new hid _
  have hC1 := hC.mono (hle fun _ => 0)
  (refine stpT ?_; repeat (refine Al4.mk ?_; intro _ _ _ _; refine stpT ?_))
  refine W_loopF (X := Nat) (fun i => [(0, vx), (5, .s id 0 l.length), (11, vy), (12, I (l.length : Nat)), (13, I (i : Nat))]) (fun i => upd H id ⟨tabN l.length fun j => if j < i then cf D.q l j else 0, true, 1⟩)
    (fun i => i ≤ l.length) (fun i => l.length - i) 0 (Nat.zero_le _) ⟨rfl, rfl, rfl, by rw [hln]; rfl, rfl, trivial⟩ (HLe.tabN fun j _ => if_neg (by omega)) ?_
  intro i hi
  by_cases hil : i < l.length
  · have hget : l[i]? = some l[i] := List.getElem?_eq_getElem (by omega)
    have hw : (l.map I)[i]? = some (I l[i]) := by rw [List.getElem?_map, hget]; rfl
    have hcf : cf D.q l i = cin D.q l[i] := by unfold cf; rw [List.getD_eq_getElem?_getD, hget]; rfl
    have hC2 := hC.mono (hle fun j => if j < i then cf D.q l j else 0)
    have hG2 := hG.mono (hle fun j => if j < i then cf D.q l j else 0)
    generalize l[i] = c at *
    (refine stpT ?_; repeat (refine Al4.mk ?_; intro _ _ _ _; refine stpT ?_))
    refine cA (GF_Is_calls c hG2) ?_
    rintro _ H3 ⟨rfl, rfl⟩
    by_cases hin : 0 ≤ c ∧ c < D.q
    · rw [decide_eq_true hin]
      (refine stpT ?_; repeat (refine Al4.mk ?_; intro _ _ _ _; refine stpT ?_))
      refine sV (off := i) (v := I (cf D.q l i)) rfl (upd_same _ _ _) (congrArg I (by rw [hcf, cin_in hin]; omega)) rfl (by rw [tabN_len]; omega) ?_
      rw [tabN_set _ _ hil, upd_upd]
      (refine stpT ?_; repeat (refine Al4.mk ?_; intro _ _ _ _; refine stpT ?_))
      refine ⟨i + 1, by omega, by omega, ⟨rfl, rfl, rfl, rfl, rfl, trivial⟩, HLe.tabN fun j hj => ?_⟩
      by_cases e : j = i
      · subst e; rw [if_pos (by omega), if_pos rfl]
      · rw [if_neg e]
        by_cases h2 : j < i
        · rw [if_pos h2, if_pos (by omega)]
        · rw [if_neg h2, if_neg (by omega)]
    · rw [decide_eq_false hin]
      (refine stpT ?_; repeat (refine Al4.mk ?_; intro _ _ _ _; refine stpT ?_))
      refine ⟨i + 1, by omega, by omega, ⟨rfl, rfl, rfl, rfl, rfl, trivial⟩, HLe.tabN fun j hj => ?_⟩
      by_cases e : j = i
      · subst e; rw [if_pos (by omega), if_neg (by omega), hcf, cin_out hin]
      · by_cases h2 : j < i
        · rw [if_pos h2, if_pos (by omega)]
        · rw [if_neg h2, if_neg (by omega)]
  · (refine stpT ?_; repeat (refine Al4.mk ?_; intro _ _ _ _; refine stpT ?_))
    have hfull : tabN l.length (fun j => if j < i then cf D.q l j else 0) = tabN l.length (cf D.q l) := tabN_congr fun j hj => if_pos (by omega)
    rw [hfull]
    have hown : Cs (upd H id ⟨tabN l.length (cf D.q l), true, 1⟩) (.s id 0 l.length) (tabN l.length (cf D.q l)) := by
      have := Cs.own (upd_same H id ⟨tabN l.length (cf D.q l), true, 1⟩)
      rwa [tabN_len] at this
    refine cA (trim_calls hown (by omega)) ?_
    rintro r H4 ⟨h1, rfl, h2⟩
    have h3 : r = .s id 0 (topF (cf D.q l) l.length) := by
      rcases h2 with ⟨id', off', e1, e2⟩ | ⟨_, e | e⟩
      · have e1' : AV.s id 0 l.length = .s id' off' l.length := e1
        cases e1'; exact e2
      · have e' : AV.s id 0 l.length = .ns := e
        cases e'
      · have e' : AV.s id 0 l.length = .es := e
        cases e'
    subst h3
    (refine stpT ?_; repeat (refine Al4.mk ?_; intro _ _ _ _; refine stpT ?_))
    exact ⟨h1, hle _, id, rfl, hid, upd_same _ _ _⟩
theorem poly_Canon_calls {D : Desc} [Desc.Ok D] {l : List Int} {vx vy : AV} {H : AH} (hG : GFS D H vx) (hC : Cs H vy (l.map I)) (hn : l.length * 8 ≤ 281474976710656) :
    ACalls Try.prog n_poly_Canon [vx, vy] H (fun r H' => Cs H' r (tabN (topF (cf D.q l) l.length) (cf D.q l)) ∧ HLe H H' ∧ ∃ id off, r = .s id off (topF (cf D.q l) l.length)) :=
  ACalls.mono (poly_Canon_own hG hC hn) fun r H' ⟨h1, h2, id, h3, _⟩ => ⟨h1, h2, id, 0, h3⟩

end Go.Proofs.Ytdkdainipanacaa
namespace Go.Proofs.Ytdkdainipanacaa
open Go Go.RowKit Alg
set_option linter.unusedSimpArgs false
set_option linter.unusedVariables false
set_option linter.constructorNameAsVariable false
attribute [local irreducible] aopL W

theorem ord_small {D : Desc} [Desc.Ok D] (hD : D.Small) : ordS D.p D.m = (D.q : Int) := by
  rw [ordS_nat Two.two Desc.Ok.m1 hD.m8]
  exact if_pos hD.q256

theorem r04_Is_calls {D : Desc} [Desc.Ok D] (hD : D.Small) (x : Int) (vm : AV) (H : AH) : ACalls Try.prog n_r04_Is [.ag [I D.p, I D.m, vm], I x] H (fun r H' => r = .b (decide (0 ≤ x ∧ x < D.q)) ∧ HLe H H') := by
  refine calls_of F_r04_Is hmix (by show 2 ≤ 13; decide) ?_
  unfold s_r04_Is
  (refine stpT ?_; repeat (refine Al4.mk ?_; intro _ _ _ _; refine stpT ?_))
  refine bX rfl ?_
  intro bid hbid
  have fb := upd_same H bid ⟨[I D.p, I D.m, vm], true, 0⟩
  have hl1 : HLe H (upd H bid ⟨[I D.p, I D.m, vm], true, 0⟩) := .upd_new hbid _
  generalize upd H bid ⟨[I D.p, I D.m, vm], true, 0⟩ = H1 at *
  by_cases h0 : 0 ≤ x
  · (refine stpT ?_; repeat (refine Al4.mk ?_; intro _ _ _ _; refine stpT ?_))
    refine ldn_own rfl fb rfl ?_
    (refine stpT ?_; repeat (refine Al4.mk ?_; intro _ _ _ _; refine stpT ?_))
    refine cA (r04_Order_calls D.p D.m vm H1) ?_
    rintro _ H2 ⟨rfl, hl2⟩
    rw [ord_small hD]
    by_cases h1 : x < D.q
    · (refine stpT ?_; repeat (refine Al4.mk ?_; intro _ _ _ _; refine stpT ?_))
      exact ⟨by rw [decide_eq_true ⟨h0, h1⟩]; rfl, hl1.trans hl2⟩
    · (refine stpT ?_; repeat (refine Al4.mk ?_; intro _ _ _ _; refine stpT ?_))
      exact ⟨by rw [decide_eq_false (fun h => h1 h.2)]; rfl, hl1.trans hl2⟩
  · (refine stpT ?_; repeat (refine Al4.mk ?_; intro _ _ _ _; refine stpT ?_))
    exact ⟨by rw [decide_eq_false (fun h => h0 h.1)]; rfl, hl1⟩

theorem r04_In_calls {D : Desc} [Desc.Ok D] (hD : D.Small) (x : Int) (vm : AV) (H : AH) : ACalls Try.prog n_r04_In [.ag [I D.p, I D.m, vm], I x] H (fun r H' => r = I (cin D.q x : Nat) ∧ HLe H H') := by
  refine calls_of F_r04_In hmix (by show 2 ≤ 9; decide) ?_
  unfold s_r04_In
  (refine stpT ?_; repeat (refine Al4.mk ?_; intro _ _ _ _; refine stpT ?_))
  refine bX rfl ?_
  intro bid hbid
  have fb := upd_same H bid ⟨[I D.p, I D.m, vm], true, 0⟩
  have hl1 : HLe H (upd H bid ⟨[I D.p, I D.m, vm], true, 0⟩) := .upd_new hbid _
  generalize upd H bid ⟨[I D.p, I D.m, vm], true, 0⟩ = H1 at *
  (refine stpT ?_; repeat (refine Al4.mk ?_; intro _ _ _ _; refine stpT ?_))
  refine ldn_own rfl fb rfl ?_
  (refine stpT ?_; repeat (refine Al4.mk ?_; intro _ _ _ _; refine stpT ?_))
  refine cA (r04_Is_calls hD x vm H1) ?_
  rintro _ H2 ⟨rfl, hl2⟩
  by_cases hin : 0 ≤ x ∧ x < D.q
  · rw [decide_eq_true hin]
    (refine stpT ?_; repeat (refine Al4.mk ?_; intro _ _ _ _; refine stpT ?_))
    exact ⟨congrArg I (by rw [cin_in hin]; omega), hl1.trans hl2⟩
  · rw [decide_eq_false hin]
    (refine stpT ?_; repeat (refine Al4.mk ?_; intro _ _ _ _; refine stpT ?_))
    exact ⟨by rw [cin_out hin]; rfl, hl1.trans hl2⟩

set_option maxHeartbeats 2000000 in
theorem r05_Canon_own {D : Desc} [Desc.Ok D] (hD : D.Small) {l : List Int} {vm vy : AV} {H : AH} (hC : Cs H vy (l.map I)) (hn : l.length * 8 ≤ 281474976710656) :
    ACalls Try.prog n_r05_Canon [.ag [I D.p, I D.m, vm], vy] H (fun r H' => Cs H' r (tabN (topF (cf D.q l) l.length) (cf D.q l)) ∧ HLe H H' ∧ ∃ id, r = .s id 0 (topF (cf D.q l) l.length) ∧ H id = none) := by
  refine calls_of F_r05_Canon hmix (by show 2 ≤ 41; decide) ?_
  unfold s_r05_Canon
  have hln : (l.map I).length = l.length := List.length_map ..
  have hq1 := q_gt (D := D)
  (refine stpT ?_; repeat (refine Al4.mk ?_; intro _ _ _ _; refine stpT ?_))
  refine bX rfl ?_
  intro bid hbid
  have fb := upd_same H bid ⟨[I D.p, I D.m, vm], true, 0⟩
  have hl1 : HLe H (upd H bid ⟨[I D.p, I D.m, vm], true, 0⟩) := .upd_new hbid _
  generalize upd H bid ⟨[I D.p, I D.m, vm], true, 0⟩ = H1 at *
  replace hC := hC.mono hl1
  (refine stpT ?_; repeat (refine Al4.mk ?_; intro _ _ _ _; refine stpT ?_))
  refine W_loopF (X := Nat) (fun i => [(1, vy), (2, .p bid 0), (5, I (topF (cf D.q l) i : Nat)), (6, I (i : Nat))]) (fun _ => H1)
    (fun i => i ≤ l.length) (fun i => l.length - i) 0 (Nat.zero_le _) ⟨rfl, rfl, rfl, rfl, trivial⟩ (.refl _) ?_
  intro i hi
  by_cases hil : i < l.length
  · have hget : l[i]? = some l[i] := List.getElem?_eq_getElem (by omega)
    have hw : (l.map I)[i]? = some (I l[i]) := by rw [List.getElem?_map, hget]; rfl
    have hcf : cf D.q l i = cin D.q l[i] := by unfold cf; rw [List.getD_eq_getElem?_getD, hget]; rfl
    generalize l[i] = c at *
    (refine stpT ?_; repeat (refine Al4.mk ?_; intro _ _ _ _; refine stpT ?_))
    refine ldn_own rfl fb rfl ?_
    (refine stpT ?_; repeat (refine Al4.mk ?_; intro _ _ _ _; refine stpT ?_))
    refine cAt (r04_In_calls hD c vm H1) ?_
    rintro _ H2 ⟨rfl, hl2⟩
    refine ⟨hl2, ?_⟩
    rw [← hcf]
    by_cases h0 : cf D.q l i = 0
    · (refine stpT ?_; repeat (refine Al4.mk ?_; intro _ _ _ _; refine stpT ?_))
      exact ⟨i + 1, by omega, by omega, ⟨rfl, rfl, by rw [topF, if_pos h0]; rfl, rfl, trivial⟩, hl2⟩
    · (refine stpT ?_; repeat (refine Al4.mk ?_; intro _ _ _ _; refine stpT ?_))
      exact ⟨i + 1, by omega, by omega, ⟨rfl, rfl, by rw [topF, if_neg h0]; rfl, rfl, trivial⟩, hl2⟩
  have hil' : i = l.length := by omega
  subst hil'
  have htl := topF_le (cf D.q l) l.length
  generalize hN : topF (cf D.q l) l.length = N at *
  (refine stpT ?_; repeat (refine Al4.mk ?_; intro _ _ _ _; refine stpT ?_))
  refine mK (by_ := 8) (m := N) (l := N) rfl rfl (by omega) (by omega) (by omega) (by omega) ?_
  intro id hid
  rw [Int.toNat_natCast, tabN_rep]
  have hle : ∀ f : Nat → Nat, HLe H1 (upd H1 id ⟨tabN N f, true, 1⟩) := fun f => .upd_new hid _
  (refine stpT ?_; repeat (refine Al4.mk ?_; intro _ _ _ _; refine stpT ?_))
  refine W_loopF (X := Nat) (fun i => [(1, vy), (2, .p bid 0), (5, I (N : Nat)), (7, .s id 0 N), (8, I (i : Nat))]) (fun i => upd H1 id ⟨tabN N fun j => if j < i then cf D.q l j else 0, true, 1⟩)
    (fun i => i ≤ N) (fun i => N - i) 0 (Nat.zero_le _) ⟨rfl, rfl, rfl, rfl, rfl, trivial⟩ (HLe.tabN fun j _ => if_neg (by omega)) ?_
  intro i hi2
  by_cases hiN : i < N
  · have hget : l[i]? = some l[i] := List.getElem?_eq_getElem (by omega)
    have hw : (l.map I)[i]? = some (I l[i]) := by rw [List.getElem?_map, hget]; rfl
    have hcf : cf D.q l i = cin D.q l[i] := by unfold cf; rw [List.getD_eq_getElem?_getD, hget]; rfl
    have hC2 := hC.mono (hle fun j => if j < i then cf D.q l j else 0)
    have fb2 := hle (fun j => if j < i then cf D.q l j else 0) _ _ fb
    generalize l[i] = c at *
    (refine stpT ?_; repeat (refine Al4.mk ?_; intro _ _ _ _; refine stpT ?_))
    refine ldn_own rfl fb2 rfl ?_
    (refine stpT ?_; repeat (refine Al4.mk ?_; intro _ _ _ _; refine stpT ?_))
    refine cAt (r04_In_calls hD c vm _) ?_
    rintro _ H3 ⟨rfl, hl3⟩
    refine ⟨hl3, ?_⟩
    rw [← hcf]
    (refine stpT ?_; repeat (refine Al4.mk ?_; intro _ _ _ _; refine stpT ?_))
    refine sV (off := i) (v := I (cf D.q l i)) rfl (hl3 _ _ (upd_same _ _ _)) rfl rfl (by rw [tabN_len]; omega) ?_
    rw [tabN_set _ _ hiN]
    (refine stpT ?_; repeat (refine Al4.mk ?_; intro _ _ _ _; refine stpT ?_))
    refine ⟨i + 1, by omega, by omega, ⟨rfl, rfl, rfl, rfl, rfl, trivial⟩, ?_⟩
    have h4 := hl3.upd_both id ⟨tabN N fun j => if j = i then cf D.q l i else if j < i then cf D.q l j else 0, true, 1⟩
    rw [upd_upd] at h4
    refine HLe.trans (HLe.tabN fun j hj => ?_) h4
    by_cases e : j = i
    · subst e; rw [if_pos (by omega), if_pos rfl]
    · rw [if_neg e]
      by_cases h2 : j < i
      · rw [if_pos h2, if_pos (by omega)]
      · rw [if_neg h2, if_neg (by omega)]
  · (refine stpT ?_; repeat (refine Al4.mk ?_; intro _ _ _ _; refine stpT ?_))
    have hfull : tabN N (fun j => if j < i then cf D.q l j else 0) = tabN N (cf D.q l) := tabN_congr fun j hj => if_pos (by omega)
    rw [hfull]
    have hown : Cs (upd H1 id ⟨tabN N (cf D.q l), true, 1⟩) (.s id 0 N) (tabN N (cf D.q l)) := by
      have := Cs.own (upd_same H1 id ⟨tabN N (cf D.q l), true, 1⟩)
      rwa [tabN_len] at this
    exact ⟨hown, hl1.trans (hle _), id, rfl, hl1.absent hid⟩

theorem r05_Canon_calls {D : Desc} [Desc.Ok D] (hD : D.Small) {l : List Int} {vm vy : AV} {H : AH} (hC : Cs H vy (l.map I)) (hn : l.length * 8 ≤ 281474976710656) :
    ACalls Try.prog n_r05_Canon [.ag [I D.p, I D.m, vm], vy] H (fun r H' => Cs H' r (tabN (topF (cf D.q l) l.length) (cf D.q l)) ∧ HLe H H' ∧ ∃ id off, r = .s id off (topF (cf D.q l) l.length)) :=
  ACalls.mono (r05_Canon_own hD hC hn) fun r H' ⟨h1, h2, id, h3, _⟩ => ⟨h1, h2, id, 0, h3⟩

/-- the order of two lists of n numbers, from the end -/
def cmpF (f g : Nat → Nat) : Nat → Int
  | 0 => 0
  | n + 1 => if f n < g n then -1 else if g n < f n then 1 else cmpF f g n
theorem cmpF_neg (f g : Nat → Nat) : ∀ n, cmpF g f n = - cmpF f g n
  | 0 => rfl
  | n + 1 => by
    unfold cmpF
    rw [cmpF_neg f g n]
    by_cases h1 : f n < g n
    · rw [if_pos h1, if_neg (by omega), if_pos h1]; rfl
    · by_cases h2 : g n < f n
      · simp [h1, h2]
      · simp [h1, h2]
/-- the order of two polynomials -/
def cmpP (q : Nat) (a b : List Int) : Int :=
  if topF (cf q a) a.length < topF (cf q b) b.length then -1 else if topF (cf q b) b.length < topF (cf q a) a.length then 1 else cmpF (cf q a) (cf q b) (topF (cf q a) a.length)
theorem cmpP_neg (q : Nat) (a b : List Int) : cmpP q b a = - cmpP q a b := by
  unfold cmpP
  by_cases h1 : topF (cf q a) a.length < topF (cf q b) b.length
  · rw [if_pos h1, if_neg (by omega), if_pos h1]; rfl
  · by_cases h2 : topF (cf q b) b.length < topF (cf q a) a.length
    · simp [h1, h2]
    · rw [if_neg h2, if_neg h1, if_neg h1, if_neg h2, show topF (cf q b) b.length = topF (cf q a) a.length by omega, cmpF_neg]



end Go.Proofs.Ytdkdainipanacaa
namespace Go.Proofs.Ytdkdainipanacaa
open Go Go.RowKit Alg
set_option linter.unusedSimpArgs false
set_option linter.unusedVariables false
set_option linter.constructorNameAsVariable false
attribute [local irreducible] aopL W

theorem cmpF_bound (f g : Nat → Nat) : ∀ n, -1 ≤ cmpF f g n ∧ cmpF f g n ≤ 1
  | 0 => by show -1 ≤ (0 : Int) ∧ (0 : Int) ≤ 1; decide
  | n + 1 => by
    have := cmpF_bound f g n
    unfold cmpF
    split
    · omega
    · split <;> omega
theorem cmpP_bound (q : Nat) (a b : List Int) : -1 ≤ cmpP q a b ∧ cmpP q a b ≤ 1 := by
  have := cmpF_bound (cf q a) (cf q b) (topF (cf q a) a.length)
  unfold cmpP
  split
  · omega
  · split <;> omega
theorem cmpP_one {q : Nat} (hq : 1 < q) : cmpP q [1] [0, 1] = -1 := by
  have h1 : cin q 1 = 1 := by rw [cin_in (by omega)]; rfl
  have e1 : topF (cf q [1]) [1].length = 1 := by
    show topF (cf q [1]) 1 = 1
    rw [topF, if_neg (by show cin q 1 ≠ 0; omega)]
  have e2 : topF (cf q [0, 1]) [0, 1].length = 2 := by
    show topF (cf q [0, 1]) 2 = 2
    rw [topF, if_neg (by show cin q 1 ≠ 0; omega)]
  unfold cmpP
  have e3 : topF (cf q [1]) ([1] : List Int).length = 1 := e1
  have e4 : topF (cf q [0, 1]) ([0, 1] : List Int).length = 2 := e2
  rw [e3, e4]; rfl

/-- the place of x among the first k powers of g, the last one if there are more -/
noncomputable def lgk {D : Desc} [Desc.Ok D] (g : El D) : Nat → Nat → Nat
  | 0, _ => 0
  | k + 1, x => if x = (pw g k).v then k else lgk g k x
theorem lgk_at {D : Desc} [Desc.Ok D] {g : El D} : ∀ {k i : Nat}, Run g k → i < k → lgk g k (pw g i).v = i
  | 0, i, _, h => by omega
  | k + 1, i, hR, h => by
    unfold lgk
    by_cases e : i = k
    · rw [if_pos (by rw [e]), e]
    · rw [if_neg (fun he => hR.2 i k (by omega) (by omega) (El.ext he))]
      exact lgk_at ⟨fun j hj => hR.1 j (by omega), fun i j h1 h2 => hR.2 i j h1 (by omega)⟩ (by omega)
theorem tab0 {m : Nat} (hm : ¬ 1 < m) (h1 : 1 ≤ m) : m = 1 := by omega

open Classical in
set_option maxHeartbeats 4000000 in
theorem field_New_calls (p m : Int) (ml : List Int) {vx : AV} {H : AH} (hC : Cs H vx (ml.map I)) :
    ACalls Try.prog n_field_New [.ag [I p, I m, vx]] H (fun r H' => HLe H H' ∧ ((r = .tu [.np, I 1] ∧ ¬ IsField p m ml) ∨ ∃ (D : Desc) (h : Shape p m ml D) (vg : AV), @Desc.Irr D h.ok ∧ r = .tu [vg, I 0] ∧ @GFS D h.ok H' vg)) := by
  refine calls_of F_field_New hmix (by show 1 ≤ 53; decide) ?_
  unfold s_field_New
  (refine stpT ?_; repeat (refine Al4.mk ?_; intro _ _ _ _; refine stpT ?_))
  refine bX rfl ?_
  intro bid hbid
  have fb := upd_same H bid ⟨[I p, I m, vx], true, 0⟩
  have hl1 : HLe H (upd H bid ⟨[I p, I m, vx], true, 0⟩) := .upd_new hbid _
  replace hC := hC.mono hl1
  generalize upd H bid ⟨[I p, I m, vx], true, 0⟩ = H1 at *
  (refine stpT ?_; repeat (refine Al4.mk ?_; intro _ _ _ _; refine stpT ?_))
  refine ldn_own rfl fb rfl ?_
  (refine stpT ?_; repeat (refine Al4.mk ?_; intro _ _ _ _; refine stpT ?_))
  refine cA (shape_calls p m ml hC) ?_
  rintro _ H2 ⟨rfl, hl2⟩
  by_cases hS : ∃ D, Shape p m ml D
  rotate_left
  · rw [decide_eq_false hS]
    (refine stpT ?_; repeat (refine Al4.mk ?_; intro _ _ _ _; refine stpT ?_))
    exact ⟨hl1.trans hl2, .inl ⟨rfl, fun ⟨D, h, _⟩ => hS ⟨D, h⟩⟩⟩
  rw [decide_eq_true hS]
  obtain ⟨D, hS⟩ := hS
  haveI := hS.ok
  obtain rfl := hS.hp
  obtain rfl := hS.hm
  have hsm := hS.small
  have hM := hS.mods (hC.mono hl2)
  have hq := hsm.q256
  have hq1 := q_gt (D := D)
  have fb2 := hl2 _ _ fb
  have f0 : rdc H2 bid 0 = some (I D.p) := rdc_of fb2 rfl
  have f1 : rdc H2 bid 1 = some (I D.m) := rdc_of fb2 rfl
  (refine stpT ?_; repeat (refine Al4.mk ?_; intro _ _ _ _; refine stpT ?_))
  refine cA (order_calls D.p D.m H2) ?_
  rintro _ H3 ⟨rfl, rfl⟩
  rw [ord_small hsm]
  (refine stpT ?_; repeat (refine Al4.mk ?_; intro _ _ _ _; refine stpT ?_))
  refine ldn_own rfl fb2 rfl ?_
  (refine stpT ?_; repeat (refine Al4.mk ?_; intro _ _ _ _; refine stpT ?_))
  refine cA (generator_calls hsm hM) ?_
  rintro r H4 ⟨hl4, ⟨rfl, hno⟩ | ⟨g, hg, ⟨eid, rfl⟩, hE⟩⟩
  · (refine stpT ?_; repeat (refine Al4.mk ?_; intro _ _ _ _; refine stpT ?_))
    refine aen_n rfl ?_
    (refine stpT ?_; repeat (refine Al4.mk ?_; intro _ _ _ _; refine stpT ?_))
    refine ⟨hl1.trans (hl2.trans hl4), .inl ⟨rfl, fun ⟨E, h, hE⟩ => ?_⟩⟩
    cases hS.uniq h
    exact hno ((gen_iff hS.prime hq).mpr hE)
  · have hirr : D.Irr := (gen_iff hS.prime hq).mp ⟨g, hg⟩
    (refine stpT ?_; repeat (refine Al4.mk ?_; intro _ _ _ _; refine stpT ?_))
    refine aen_s rfl ?_
    have fb4 := hl4 _ _ fb2
    have q0 : rdc H4 bid 0 = some (I D.p) := rdc_of fb4 rfl
    have q1 : rdc H4 bid 1 = some (I D.m) := rdc_of fb4 rfl
    have q2 : rdc H4 bid 2 = some vx := rdc_of fb4 rfl
    have hC4 := hC.mono (hl2.trans hl4)
    have hM4 := hM.mono hl4
    (refine stpT ?_; repeat (refine Al4.mk ?_; intro _ _ _ _; refine stpT ?_))
    refine bE ?_
    (refine stpT ?_; repeat (refine Al4.mk ?_; intro _ _ _ _; refine stpT ?_))
    have hml : (ml.map I).length ≤ 100000000 := by
      rw [List.length_map, hS.hl, List.length_map, hS.len]
      have := hsm.m8
      split <;> omega
    refine apC rfl rfl hC4 (by decide) hml ?_
    intro vw H5 hl5 hw hcw hlw
    (refine stpT ?_; repeat (refine Al4.mk ?_; intro _ _ _ _; refine stpT ?_))
    refine bD (cs := [I D.p, I D.m, vw]) (by
      show afill _ _ [(0, I (D.p : Int)), (1, I (D.m : Int)), (2, vw)] = _
      exact (afill_cons rfl rfl rfl (Nat.le_of_ble_eq_true rfl)).trans ((afill_cons rfl rfl rfl (Nat.le_of_ble_eq_true rfl)).trans ((afill_cons rfl hcw rfl (Nat.le_of_ble_eq_true rfl)).trans rfl))) ?_
    (refine stpT ?_; repeat (refine Al4.mk ?_; intro _ _ _ _; refine stpT ?_))
    refine mK (by_ := 8) (m := D.q) (l := D.q) rfl rfl (by omega) (by omega) (by omega) (by omega) ?_
    intro lid hlid
    rw [Int.toNat_natCast, tabN_rep]
    (refine stpT ?_; repeat (refine Al4.mk ?_; intro _ _ _ _; refine stpT ?_))
    refine bD (cs := [I D.p, I D.m, vw, I D.q, .s eid 0 (D.q - 1), .s lid 0 D.q]) (by
      show afill _ _ [(0, .ag [I D.p, I D.m, vw]), (1, I (D.q : Int)), (2, .s eid 0 (D.q - 1)), (3, .s lid 0 D.q)] = _
      exact (afill_cons rfl rfl rfl (Nat.le_of_ble_eq_true rfl)).trans ((afill_cons rfl rfl rfl (Nat.le_of_ble_eq_true rfl)).trans ((afill_cons rfl rfl rfl (Nat.le_of_ble_eq_true rfl)).trans ((afill_cons rfl rfl rfl (Nat.le_of_ble_eq_true rfl)).trans rfl)))) ?_
    (refine stpT ?_; repeat (refine Al4.mk ?_; intro _ _ _ _; refine stpT ?_))
    refine bX rfl ?_
    intro gid hgid
    rw [upd_get] at hgid
    split at hgid
    · cases hgid
    rename_i hgl
    rw [upd_comm _ (Ne.symm hgl)]
    have hg5 : H5 gid = none := hgid
    have hl6 : HLe H5 (upd H5 gid ⟨[I D.p, I D.m, vw, I D.q, .s eid 0 (D.q - 1), .s lid 0 D.q], true, 0⟩) := .upd_new hg5 _
    have fg := upd_same H5 gid ⟨[I D.p, I D.m, vw, I D.q, .s eid 0 (D.q - 1), .s lid 0 D.q], true, 0⟩
    have hlid6 : upd H5 gid ⟨[I D.p, I D.m, vw, I D.q, .s eid 0 (D.q - 1), .s lid 0 D.q], true, 0⟩ lid = none := by rw [upd_ne _ _ (Ne.symm hgl)]; exact hlid
    generalize upd H5 gid ⟨[I D.p, I D.m, vw, I D.q, .s eid 0 (D.q - 1), .s lid 0 D.q], true, 0⟩ = H6 at *
    have hle : ∀ f : Nat → Nat, HLe H6 (upd H6 lid ⟨tabN D.q f, true, 1⟩) := fun f => .upd_new hlid6 _
    have hE6 := hE.mono (hl5.trans hl6)
    have hHH := hl1.trans (hl2.trans (hl4.trans (hl5.trans hl6)))
    (refine stpT ?_; repeat (refine Al4.mk ?_; intro _ _ _ _; refine stpT ?_))
    refine W_loopF (X := Nat) (fun i => [(6, .p gid 0), (37, .s eid 0 (D.q - 1)), (38, I (D.q - 1 : Nat)), (39, I (i : Nat))]) (fun i => upd H6 lid ⟨tabN D.q (lgk g i), true, 1⟩)
      (fun i => i ≤ D.q - 1) (fun i => D.q - 1 - i) 0 (Nat.zero_le _) ⟨rfl, rfl, rfl, rfl, trivial⟩ (HLe.tabN fun _ _ => rfl) ?_
    intro i hi
    by_cases hil : i < D.q - 1
    · have hwj : (pws g (D.q - 1))[i]? = some (I (pw g i).v) := tabN_get _ hil
      have hrd := ((hE6.mono (hle (lgk g i))).rd hwj).2
      rw [Nat.zero_add] at hrd
      have f5 : rdc (upd H6 lid ⟨tabN D.q (lgk g i), true, 1⟩) gid 5 = some (.s lid 0 D.q) := rdc_of (hle (lgk g i) _ _ fg) rfl
      have hlt := (pw g i).lt
      (refine stpT ?_; repeat (refine Al4.mk ?_; intro _ _ _ _; refine stpT ?_))
      refine sV (off := (pw g i).v) (v := I (i : Nat)) rfl (upd_same _ _ _) rfl rfl (by rw [tabN_len]; omega) ?_
      rw [tabN_set _ _ hlt, upd_upd]
      (refine stpT ?_; repeat (refine Al4.mk ?_; intro _ _ _ _; refine stpT ?_))
      exact ⟨i + 1, by omega, by omega, ⟨rfl, rfl, rfl, rfl, trivial⟩, HLe.tabN fun j hj => by rw [lgk]⟩
    · have hie : i = D.q - 1 := by omega
      subst hie
      (refine stpT ?_; repeat (refine Al4.mk ?_; intro _ _ _ _; refine stpT ?_))
      refine ⟨hHH.trans (hle _), .inr ⟨D, hS, .p gid 0, hirr, rfl, gid, eid, lid, vw, 0, g, lgk g (D.q - 1), rfl, hle _ _ _ fg, hS.mods (hw.mono (hl6.trans (hle _))), hE6.mono (hle _), ?_, hg, fun i hi => lgk_at hg.1 hi⟩⟩
      have := Cs.own (upd_same H6 lid ⟨tabN D.q (lgk g (D.q - 1)), true, 1⟩)
      rwa [tabN_len] at this



end Go.Proofs.Ytdkdainipanacaa
