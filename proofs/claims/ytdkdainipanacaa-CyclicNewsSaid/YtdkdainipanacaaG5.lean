/- Contracts of the field package's shape and the reference's Check. Condition: the description is a struct in memory's words. -/
import Derived.Test.YtdkdainipanacaaG3
namespace Go.Proofs.Ytdkdainipanacaa
open Go Go.RowKit Alg
set_option linter.unusedSimpArgs false
set_option linter.unusedVariables false
set_option linter.constructorNameAsVariable false
attribute [local irreducible] aopL W

/-- the description p, m, ml is that of D, and in range -/
structure Shape (p m : Int) (ml : List Int) (D : Desc) : Prop where
  hp : p = (D.p : Int)
  hm : m = (D.m : Int)
  hl : ml = D.mod.map fun (c : Nat) => (c : Int)
  len : D.mod.length = if D.m = 1 then 0 else D.m
  prime : Prime D.p
  m1 : 1 ≤ D.m
  m8 : D.m ≤ 8
  p256 : D.p ≤ 256
  q256 : D.p ^ D.m ≤ 256
  lt : ∀ c, c ∈ D.mod → c < D.p
theorem Shape.ok {p m : Int} {ml : List Int} {D : Desc} (h : Shape p m ml D) : Desc.Ok D := { two := h.prime.1, m1 := h.m1 }
theorem Shape.uniq {p m : Int} {ml : List Int} {D E : Desc} (h : Shape p m ml D) (h' : Shape p m ml E) : D = E := by
  cases D with | mk a b c => cases E with | mk a' b' c' =>
  have e1 := h.hp.symm.trans h'.hp
  have e2 := h.hm.symm.trans h'.hm
  have e3 := h.hl.symm.trans h'.hl
  dsimp only at e1 e2 e3
  have e1' : a = a' := by omega
  have e2' : b = b' := by omega
  have e3' : c = c' := by
    have := congrArg (List.map Int.toNat) e3
    rw [List.map_map, List.map_map, show (Int.toNat ∘ fun (c : Nat) => (c : Int)) = id from funext fun c => rfl, List.map_id, List.map_id] at this
    exact this
  rw [e1', e2', e3']
theorem low_lt {D : Desc} (hp : 0 < D.p) (h : ∀ c, c ∈ D.mod → c < D.p) (i : Nat) : low D i < D.p := by
  unfold low
  rw [List.getD_eq_getElem?_getD]
  cases e : D.mod[i]? with
  | none => exact hp
  | some c => exact h c (List.mem_of_getElem? e)
theorem Shape.small {p m : Int} {ml : List Int} {D : Desc} (h : Shape p m ml D) : D.Small where
  p256 := h.p256
  m8 := h.m8
  q256 := h.q256
  lows i _ := low_lt (by have := h.prime.1; omega) h.lt i
  one e i := by
    have := h.len
    rw [if_pos e] at this
    unfold low
    rw [List.length_eq_zero_iff.mp this]; rfl
theorem Shape.tab {p m : Int} {ml : List Int} {D : Desc} (h : Shape p m ml D) (hm : 1 < D.m) : ml.map I = tabN D.m (low D) := by
  have hl := h.len
  rw [if_neg (by omega)] at hl
  apply List.ext_getElem?
  intro i
  rw [h.hl, List.map_map]
  by_cases hi : i < D.m
  · rw [tabN_get _ hi, List.getElem?_map, List.getElem?_eq_getElem (by omega)]
    unfold low
    rw [List.getD_eq_getElem?_getD, List.getElem?_eq_getElem (by omega)]; rfl
  · rw [List.getElem?_eq_none (by simp; omega), List.getElem?_eq_none (by rw [tabN_len]; omega)]
theorem Shape.mods {p m : Int} {ml : List Int} {D : Desc} (h : Shape p m ml D) {H : AH} {v : AV} (hC : Cs H v (ml.map I)) : ModS H D v := fun hm => by
  rw [← h.tab hm]; exact hC

theorem powB_eq {P : Nat} (hP : 1 ≤ P) : ∀ (k Q : Nat), Q ≤ 256 → powB P k Q = if Q * P ^ k ≤ 256 then ((Q * P ^ k : Nat) : Int) else 0
  | 0, Q, h => by rw [powB, Nat.pow_zero, Nat.mul_one, if_pos h]
  | k + 1, Q, h => by
    have hpk : 1 ≤ P ^ k := Nat.pow_pos hP
    have e1 : Q * P ^ (k + 1) = Q * P * P ^ k := by rw [Nat.pow_succ, Nat.mul_assoc, Nat.mul_comm P]
    have e2 : (Q : Int) * (P : Int) = ((Q * P : Nat) : Int) := (Int.natCast_mul _ _).symm
    rw [powB, e2, e1]
    by_cases hq : Q * P ≤ 256
    · rw [if_neg (by omega), powB_eq hP k _ hq]
    · have : Q * P * 1 ≤ Q * P * P ^ k := Nat.mul_le_mul_left _ hpk
      rw [if_pos (by omega), if_neg (by omega)]
theorem ordS_nat {P M : Nat} (h2 : 2 ≤ P) (h3 : 1 ≤ M) (h4 : M ≤ 8) : ordS P M = if P ^ M ≤ 256 then ((P ^ M : Nat) : Int) else 0 := by
  rw [ordS_eq _ _ (by omega) (by omega) (by omega), Int.toNat_natCast]
  have := powB_eq (P := P) (by omega) M 1 (by omega)
  rw [Nat.one_mul] at this
  exact this
theorem ordS_ne {p m : Int} (h : ordS p m ≠ 0) : ∃ P M : Nat, p = (P : Int) ∧ m = (M : Int) ∧ 2 ≤ P ∧ P ≤ 256 ∧ 1 ≤ M ∧ M ≤ 8 ∧ P ^ M ≤ 256 := by
  by_cases hc : p < 2 ∨ 256 < p ∨ m < 1 ∨ 8 < m
  · exact absurd (if_pos hc) h
  · refine ⟨p.toNat, m.toNat, by omega, by omega, by omega, by omega, by omega, by omega, ?_⟩
    rw [show p = ((p.toNat : Nat) : Int) by omega, show m = ((m.toNat : Nat) : Int) by omega, ordS_nat (by omega) (by omega) (by omega)] at h
    exact Classical.byContradiction fun hn => h (if_neg hn)
theorem Shape.ord {p m : Int} {ml : List Int} {D : Desc} (h : Shape p m ml D) : ordS p m = (D.q : Int) := by
  rw [h.hp, h.hm, ordS_nat h.prime.1 h.m1 h.m8]
  exact if_pos h.q256
theorem Shape.ord_ne {p m : Int} {ml : List Int} {D : Desc} (h : Shape p m ml D) : ordS p m ≠ 0 := by
  rw [h.ord]
  have : 0 < D.p ^ D.m := Nat.pow_pos (by have := h.prime.1; omega)
  have e : D.q = D.p ^ D.m := rfl
  omega

open Classical in
set_option maxHeartbeats 4000000 in
theorem shape_calls (p m : Int) (ml : List Int) {vx : AV} {H : AH} (hC : Cs H vx (ml.map I)) :
    ACalls Try.prog n_field_shape [.ag [I p, I m, vx]] H (fun r H' => r = .b (decide (∃ D, Shape p m ml D)) ∧ HLe H H') := by
  refine calls_of F_field_shape hmix (by show 1 ≤ 46; decide) ?_
  unfold s_field_shape
  (refine stpT ?_; repeat (refine Al4.mk ?_; intro _ _ _ _; refine stpT ?_))
  refine bX rfl ?_
  intro bid hbid
  have f0 : rdc (upd H bid ⟨[I p, I m, vx], true, 0⟩) bid 0 = some (I p) := rdc_of (upd_same _ _ _) rfl
  have f1 : rdc (upd H bid ⟨[I p, I m, vx], true, 0⟩) bid 1 = some (I m) := rdc_of (upd_same _ _ _) rfl
  have f2 : rdc (upd H bid ⟨[I p, I m, vx], true, 0⟩) bid 2 = some vx := rdc_of (upd_same _ _ _) rfl
  have hl1 : HLe H (upd H bid ⟨[I p, I m, vx], true, 0⟩) := .upd_new hbid _
  replace hC := hC.mono hl1
  generalize upd H bid ⟨[I p, I m, vx], true, 0⟩ = H1 at *
  (refine stpT ?_; repeat (refine Al4.mk ?_; intro _ _ _ _; refine stpT ?_))
  refine cA (order_calls p m H1) ?_
  rintro _ H2 ⟨rfl, rfl⟩
  by_cases ho : ordS p m = 0
  · (refine stpT ?_; repeat (refine Al4.mk ?_; intro _ _ _ _; refine stpT ?_))
    refine ⟨?_, hl1⟩
    rw [decide_eq_false (fun ⟨D, h⟩ => h.ord_ne ho)]; rfl
  obtain ⟨P, M, rfl, rfl, hP2, hP, hM1, hM8, hq⟩ := ordS_ne ho
  (refine stpT ?_; repeat (refine Al4.mk ?_; intro _ _ _ _; refine stpT ?_))
  refine cA (isPrime_calls (n := P) hP H2) ?_
  rintro _ H3 ⟨rfl, rfl⟩
  by_cases hpr : Prime P
  rotate_left
  · rw [decide_eq_false hpr]
    (refine stpT ?_; repeat (refine Al4.mk ?_; intro _ _ _ _; refine stpT ?_))
    refine ⟨?_, hl1⟩
    rw [decide_eq_false (fun ⟨D, h⟩ => hpr (by rw [show P = D.p by have := h.hp; omega]; exact h.prime))]; rfl
  rw [decide_eq_true hpr]
  have hln : (ml.map I).length = ml.length := List.length_map ..
  by_cases hM : M = 1
  · subst hM
    by_cases hl0 : ml.length = 0
    · (refine stpT ?_; repeat (refine Al4.mk ?_; intro _ _ _ _; refine stpT ?_))
      refine ⟨?_, hl1⟩
      have e := List.length_eq_zero_iff.mp hl0
      rw [decide_eq_true ⟨⟨P, 1, []⟩, ⟨rfl, rfl, e, rfl, hpr, hM1, hM8, hP, hq, by simp⟩⟩]; rfl
    · (refine stpT ?_; repeat (refine Al4.mk ?_; intro _ _ _ _; refine stpT ?_))
      refine ⟨?_, hl1⟩
      rw [decide_eq_false (fun ⟨D, h⟩ => hl0 (by
        have h1 := h.len
        rw [if_pos (by have := h.hm; omega)] at h1
        rw [h.hl, List.length_map, h1]))]; rfl
  by_cases hlM : ml.length = M
  rotate_left
  · (refine stpT ?_; repeat (refine Al4.mk ?_; intro _ _ _ _; refine stpT ?_))
    refine ⟨?_, hl1⟩
    rw [decide_eq_false (fun ⟨D, h⟩ => hlM (by
      have h1 := h.len
      have h2 := h.hm
      rw [if_neg (by omega)] at h1
      rw [h.hl, List.length_map, h1]; omega))]; rfl
  (refine stpT ?_; repeat (refine Al4.mk ?_; intro _ _ _ _; refine stpT ?_))
  refine W_loopF (X := Nat) (fun i => [(1, .p bid 0), (31, vx), (32, I ((ml.map I).length : Nat)), (33, I (i : Int))]) (fun _ => H3) (fun i => i ≤ M ∧ ∀ (j : Nat) (c : Int), j < i → ml[j]? = some c → 0 ≤ c ∧ c < P) (fun i => M - i) 0 ⟨Nat.zero_le _, fun j c h => absurd h (Nat.not_lt_zero _)⟩ ⟨rfl, rfl, rfl, rfl, trivial⟩ (.refl _) ?_
  rintro i ⟨hi1, hi2⟩
  by_cases hi : i < M
  · have hget : ml[i]? = some ml[i] := List.getElem?_eq_getElem (by omega)
    have hw : (ml.map I)[i]? = some (I ml[i]) := by rw [List.getElem?_map, hget]; rfl
    generalize ml[i] = c at *
    have hbad : (0 ≤ c ∧ c < P → False) → ¬ ∃ D, Shape P M ml D := fun hno ⟨D, h⟩ => hno (by
      have h1 := h.hl
      rw [h1, List.getElem?_map] at hget
      cases e : D.mod[i]? with
      | none => rw [e] at hget; cases hget
      | some d =>
        rw [e] at hget
        have h2 : (d : Int) = c := Option.some.inj hget
        have h3 := h.lt d (List.mem_of_getElem? e)
        have h4 := h.hp
        omega)
    by_cases hc0 : c < 0
    · (refine stpT ?_; repeat (refine Al4.mk ?_; intro _ _ _ _; refine stpT ?_))
      refine ⟨?_, hl1⟩
      rw [decide_eq_false (hbad (by omega))]; rfl
    by_cases hcp : c < P
    · (refine stpT ?_; repeat (refine Al4.mk ?_; intro _ _ _ _; refine stpT ?_))
      refine ⟨i + 1, ⟨by omega, fun j c' hj hj' => ?_⟩, by omega, ⟨rfl, rfl, rfl, rfl, trivial⟩, .refl _⟩
      by_cases e : j = i
      · subst e
        have : c = c' := Option.some.inj (hget.symm.trans hj')
        omega
      · exact hi2 j c' (by omega) hj'
    · (refine stpT ?_; repeat (refine Al4.mk ?_; intro _ _ _ _; refine stpT ?_))
      refine ⟨?_, hl1⟩
      rw [decide_eq_false (hbad (by omega))]; rfl
  · (refine stpT ?_; repeat (refine Al4.mk ?_; intro _ _ _ _; refine stpT ?_))
    refine ⟨?_, hl1⟩
    have hall : ∀ c, c ∈ ml → 0 ≤ c ∧ c < P := fun c hc => by
      obtain ⟨j, hj⟩ := List.getElem?_of_mem hc
      have := (List.getElem?_eq_some_iff.mp hj).1
      exact hi2 j c (by omega) hj
    have : ∃ D, Shape P M ml D := ⟨⟨P, M, ml.map Int.toNat⟩, rfl, rfl, by
      rw [List.map_map]
      exact (List.map_id' ml).symm.trans (List.map_congr_left fun c hc => by have := hall c hc; show c = ((c.toNat : Nat) : Int); omega), by rw [List.length_map, if_neg hM]; exact hlM, hpr, hM1, hM8, hP, hq, fun c hc => by
      obtain ⟨d, hd, rfl⟩ := List.mem_map.mp hc
      have := hall d hd
      show d.toNat < P
      omega⟩
    rw [decide_eq_true this]; rfl

/-- the description p, m, ml is one of a field -/
def IsField (p m : Int) (ml : List Int) : Prop := ∃ (D : Desc) (h : Shape p m ml D), @Desc.Irr D h.ok

open Classical in
set_option maxHeartbeats 4000000 in
theorem r04_Check_calls (p m : Int) (ml : List Int) {vx : AV} {H : AH} (hC : Cs H vx (ml.map I)) :
    ACalls Try.prog n_r04_Check [.ag [I p, I m, vx]] H (fun r H' => r = I (if IsField p m ml then 0 else 1) ∧ HLe H H') := by
  refine calls_of F_r04_Check hmix (by show 1 ≤ 54; decide) ?_
  unfold s_r04_Check
  (refine stpT ?_; repeat (refine Al4.mk ?_; intro _ _ _ _; refine stpT ?_))
  refine bX rfl ?_
  intro bid hbid
  have fb := upd_same H bid ⟨[I p, I m, vx], true, 0⟩
  have f0 : rdc (upd H bid ⟨[I p, I m, vx], true, 0⟩) bid 0 = some (I p) := rdc_of (upd_same _ _ _) rfl
  have f1 : rdc (upd H bid ⟨[I p, I m, vx], true, 0⟩) bid 1 = some (I m) := rdc_of (upd_same _ _ _) rfl
  have f2 : rdc (upd H bid ⟨[I p, I m, vx], true, 0⟩) bid 2 = some vx := rdc_of (upd_same _ _ _) rfl
  have hl1 : HLe H (upd H bid ⟨[I p, I m, vx], true, 0⟩) := .upd_new hbid _
  replace hC := hC.mono hl1
  generalize upd H bid ⟨[I p, I m, vx], true, 0⟩ = H1 at *
  (refine stpT ?_; repeat (refine Al4.mk ?_; intro _ _ _ _; refine stpT ?_))
  refine ldn_own rfl fb rfl ?_
  (refine stpT ?_; repeat (refine Al4.mk ?_; intro _ _ _ _; refine stpT ?_))
  refine cA (r04_Order_calls p m vx H1) ?_
  rintro _ H2 ⟨rfl, hl2⟩
  replace f0 := rdc_mono hl2 f0
  replace f1 := rdc_mono hl2 f1
  replace f2 := rdc_mono hl2 f2
  replace hC := hC.mono hl2
  replace hl1 := hl1.trans hl2
  by_cases ho : ordS p m = 0
  · (refine stpT ?_; repeat (refine Al4.mk ?_; intro _ _ _ _; refine stpT ?_))
    refine ⟨?_, hl1⟩
    rw [if_neg (fun ⟨D, h, _⟩ => h.ord_ne ho)]; rfl
  obtain ⟨P, M, rfl, rfl, hP2, hP, hM1, hM8, hq⟩ := ordS_ne ho
  (refine stpT ?_; repeat (refine Al4.mk ?_; intro _ _ _ _; refine stpT ?_))
  refine cA (r04_prime_calls (n := P) hP hP2 H2) ?_
  rintro _ H3 ⟨rfl, rfl⟩
  by_cases hpr : Prime P
  rotate_left
  · rw [decide_eq_false hpr]
    (refine stpT ?_; repeat (refine Al4.mk ?_; intro _ _ _ _; refine stpT ?_))
    refine ⟨?_, hl1⟩
    rw [if_neg (fun ⟨D, h, _⟩ => hpr (by rw [show P = D.p by have := h.hp; omega]; exact h.prime))]; rfl
  rw [decide_eq_true hpr]
  have hln : (ml.map I).length = ml.length := List.length_map ..
  by_cases hM : M = 1
  · subst hM
    by_cases hl0 : ml.length = 0
    · (refine stpT ?_; repeat (refine Al4.mk ?_; intro _ _ _ _; refine stpT ?_))
      refine ⟨?_, hl1⟩
      have e := List.length_eq_zero_iff.mp hl0
      rw [if_pos ⟨⟨P, 1, []⟩, ⟨rfl, rfl, e, rfl, hpr, hM1, hM8, hP, hq, by simp⟩, fun d b k h1 h2 => absurd (show 2 * d ≤ 1 from h2) (by omega)⟩]; rfl
    · (refine stpT ?_; repeat (refine Al4.mk ?_; intro _ _ _ _; refine stpT ?_))
      refine ⟨?_, hl1⟩
      rw [if_neg (fun ⟨D, h, _⟩ => hl0 (by
        have h1 := h.len
        rw [if_pos (by have := h.hm; omega)] at h1
        rw [h.hl, List.length_map, h1]))]; rfl
  by_cases hlM : ml.length = M
  rotate_left
  · (refine stpT ?_; repeat (refine Al4.mk ?_; intro _ _ _ _; refine stpT ?_))
    refine ⟨?_, hl1⟩
    rw [if_neg (fun ⟨D, h, _⟩ => hlM (by
      have h1 := h.len
      have h2 := h.hm
      rw [if_neg (by omega)] at h1
      rw [h.hl, List.length_map, h1]; omega))]; rfl
  (refine stpT ?_; repeat (refine Al4.mk ?_; intro _ _ _ _; refine stpT ?_))
  refine W_loopF (X := Nat) (fun i => [(1, .p bid 0), (3, I (i : Int))]) (fun _ => H3) (fun i => i ≤ M ∧ ∀ (j : Nat) (c : Int), j < i → ml[j]? = some c → 0 ≤ c ∧ c < P) (fun i => M - i) 0 ⟨Nat.zero_le _, fun j c h => absurd h (Nat.not_lt_zero _)⟩ ⟨rfl, rfl, trivial⟩ (.refl _) ?_
  rintro i ⟨hi1, hi2⟩
  by_cases hi : i < M
  · have hget : ml[i]? = some ml[i] := List.getElem?_eq_getElem (by omega)
    have hw : (ml.map I)[i]? = some (I ml[i]) := by rw [List.getElem?_map, hget]; rfl
    generalize ml[i] = c at *
    have hbad : (0 ≤ c ∧ c < P → False) → ¬ IsField P M ml := fun hno ⟨D, h, _⟩ => hno (by
      have h1 := h.hl
      rw [h1, List.getElem?_map] at hget
      cases e : D.mod[i]? with
      | none => rw [e] at hget; cases hget
      | some d =>
        rw [e] at hget
        have h2 : (d : Int) = c := Option.some.inj hget
        have h3 := h.lt d (List.mem_of_getElem? e)
        have h4 := h.hp
        omega)
    by_cases hc0 : c < 0
    · (refine stpT ?_; repeat (refine Al4.mk ?_; intro _ _ _ _; refine stpT ?_))
      refine ⟨?_, hl1⟩
      rw [if_neg (hbad (by omega))]; rfl
    by_cases hcp : c < P
    · (refine stpT ?_; repeat (refine Al4.mk ?_; intro _ _ _ _; refine stpT ?_))
      refine ⟨i + 1, ⟨by omega, fun j c' hj hj' => ?_⟩, by omega, ⟨rfl, rfl, trivial⟩, .refl _⟩
      by_cases e : j = i
      · subst e
        have : c = c' := Option.some.inj (hget.symm.trans hj')
        omega
      · exact hi2 j c' (by omega) hj'
    · (refine stpT ?_; repeat (refine Al4.mk ?_; intro _ _ _ _; refine stpT ?_))
      refine ⟨?_, hl1⟩
      rw [if_neg (hbad (by omega))]; rfl
  · have hall : ∀ c, c ∈ ml → 0 ≤ c ∧ c < P := fun c hc => by
      obtain ⟨j, hj⟩ := List.getElem?_of_mem hc
      have := (List.getElem?_eq_some_iff.mp hj).1
      exact hi2 j c (by omega) hj
    have hS : ∃ D, Shape P M ml D := ⟨⟨P, M, ml.map Int.toNat⟩, rfl, rfl, by
      rw [List.map_map]
      exact (List.map_id' ml).symm.trans (List.map_congr_left fun c hc => by have := hall c hc; show c = ((c.toNat : Nat) : Int); omega), by rw [List.length_map, if_neg hM]; exact hlM, hpr, hM1, hM8, hP, hq, fun c hc => by
      obtain ⟨d, hd, rfl⟩ := List.mem_map.mp hc
      have := hall d hd
      show d.toNat < P
      omega⟩
    obtain ⟨D, hS⟩ := hS
    haveI := hS.ok
    have hPD : P = D.p := by have := hS.hp; omega
    have hMD : 1 < D.m := by have := hS.hm; omega
    (refine stpT ?_; repeat (refine Al4.mk ?_; intro _ _ _ _; refine stpT ?_))
    subst hPD
    refine cA (r04_irreducible_calls hS.small hMD (hS.mods hC)) ?_
    rintro _ H4 ⟨rfl, hl4⟩
    by_cases hI : D.Irr
    · rw [decide_eq_true hI]
      (refine stpT ?_; repeat (refine Al4.mk ?_; intro _ _ _ _; refine stpT ?_))
      refine ⟨?_, hl1.trans hl4⟩
      rw [if_pos ⟨D, hS, hI⟩]; rfl
    · rw [decide_eq_false hI]
      (refine stpT ?_; repeat (refine Al4.mk ?_; intro _ _ _ _; refine stpT ?_))
      refine ⟨?_, hl1.trans hl4⟩
      rw [if_neg (fun ⟨E, h, hE⟩ => by cases hS.uniq h; exact hI hE)]; rfl

end Go.Proofs.Ytdkdainipanacaa
