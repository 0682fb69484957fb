/- Contracts of combine, Sub, product of the program's polynomials. Condition: the field's object stands in memory, the slices hold whole numbers. · Contract of DivMod of the program's polynomials. Condition: the field's object stands in memory, the slices hold whole numbers. · Contract of Gcd of the program's polynomials. Condition: the field's object stands in memory, the slices hold whole numbers. -/
import Derived.Test.YtdkdainipanacaaG9
namespace Go.Proofs.Ytdkdainipanacaa
open Go Go.RowKit Alg
set_option linter.unusedSimpArgs false
set_option linter.unusedVariables false
set_option linter.constructorNameAsVariable false
attribute [local irreducible] aopL W
variable {D : Desc} [Desc.Ok D]




end Go.Proofs.Ytdkdainipanacaa
namespace Go.Proofs.Ytdkdainipanacaa
open Go Go.RowKit Alg
set_option linter.unusedSimpArgs false
set_option linter.unusedVariables false
set_option linter.constructorNameAsVariable false
attribute [local irreducible] aopL W
variable {D : Desc} [Desc.Ok D]

theorem upd_swap {α : Type} {H : Nat → Option α} {r z : Nat} {A A' B : α} (h : z ≠ r) : upd (upd (upd H r A) z B) r A' = upd (upd H r A') z B := funext fun j => by
  rw [upd_get, upd_get, upd_get, upd_get, upd_get]
  by_cases h1 : j = r
  · rw [if_pos h1, if_neg (fun e => h (by rw [← e, h1])), if_pos h1]
  · rw [if_neg h1, if_neg h1, if_neg h1]

set_option maxHeartbeats 8000000 in
theorem DivMod_calls (hD : D.Small) [Fld (El D)] {n m : Nat} {P Q : Poly (El D)} {vx vy vz : AV} {H : AH} (hG : GFS D H vx) (hP : PolS H vy n P) (hQ : PolS H vz m Q) (hn : n * 8 ≤ 281474976710656) (hm : m * 8 ≤ 281474976710656) :
    ACalls Try.prog n_poly_DivMod [vx, vy, vz] H (fun r H' => HLe H H' ∧ ((Q = 0 ∧ r = .tu [.ns, .ns, I 7]) ∨ (Q ≠ 0 ∧ ∃ vq vr, r = .tu [vq, vr, I 0] ∧ CanP H' vq (divP P Q) ∧ CanP H' vr (modP P Q)))) := by
  refine calls_of F_poly_DivMod hmix (by show 3 ≤ 96; decide) ?_
  unfold s_poly_DivMod
  have hPn := len_le hP.below
  have hQn := len_le hQ.below
  (refine stpU ?_; repeat (refine Al4.mk ?_; intro _ _ _ _; refine stpU ?_))
  refine cA (Canon_calls hG hP hn) ?_
  rintro _ H2 ⟨⟨rid, rfl, hr, or, hrn⟩, hl2⟩
  (refine stpU ?_; repeat (refine Al4.mk ?_; intro _ _ _ _; refine stpU ?_))
  refine cA (Canon_calls (hG.mono hl2) (hQ.mono hl2) hm) ?_
  rintro _ H3 ⟨hO, hl3⟩
  have hcanQ := hO.can
  obtain ⟨qid, rfl, hq, oq, hqn⟩ := hO
  have hqr : qid ≠ rid := fun e => by rw [e, or] at hq; cases hq
  replace or := hl3 _ _ or
  have hHH := hl2.trans hl3
  have hG3 := hG.mono hHH
  by_cases hq0 : Q = 0
  · have hl0 : len Q = 0 := by rw [hq0, len_zero]
    (refine stpU ?_; repeat (refine Al4.mk ?_; intro _ _ _ _; refine stpU ?_))
    exact ⟨hHH, .inl ⟨hq0, rfl⟩⟩
  have hqp := len_pos hq0
  have hrd := (hcanQ.rd (tabN_get (vals Q) (show len Q - 1 < len Q by omega))).2
  rw [Nat.zero_add] at hrd
  (refine stpU ?_; repeat (refine Al4.mk ?_; intro _ _ _ _; refine stpU ?_))
  refine cA (GF_Inv_calls hD _ hG3) ?_
  rintro _ H4 ⟨hi, rfl⟩
  have e1 : (el (vals Q (len Q - 1) : Nat) : El D) = lead Q := el_of _
  rw [e1] at hi
  rcases hi with ⟨hi, _⟩ | ⟨hi, rfl⟩
  · exact absurd hi (lead_ne hq0)
  by_cases hlt : len P < len Q
  · -- nothing to divide
    obtain ⟨hd1, hd2⟩ := divmod_eq hq0 (P := P) (q := 0) (r := P) (by rw [zero_mul, Alg.zero_add]) ((below_len P).mono (by omega))
    (refine stpU ?_; repeat (refine Al4.mk ?_; intro _ _ _ _; refine stpU ?_))
    refine mXx rfl rfl ?_
    rw [if_neg (by omega)]
    (refine stpU ?_; repeat (refine Al4.mk ?_; intro _ _ _ _; refine stpU ?_))
    refine mK (by_ := 8) (m := 0) (l := 0) rfl rfl (by omega) (by omega) (by omega) (by omega) ?_
    intro zid hzid
    (refine stpU ?_; repeat (refine Al4.mk ?_; intro _ _ _ _; refine stpU ?_))
    refine W_loopF (X := Unit) (fun _ => [(6, .s zid 0 0), (7, .s rid 0 (len P)), (11, I ((len P : Int) - (len Q : Int)))]) (fun _ => upd H4 zid ⟨[], true, 1⟩) (fun _ => True) (fun _ => 0) () trivial ⟨rfl, rfl, rfl, trivial⟩ (.refl _) ?_
    rintro _ _
    have hz0 : Cs (upd H4 zid ⟨[], true, 1⟩) (.s zid 0 0) (tabN 0 (vals (0 : Poly (El D)))) := Cs.own (upd_same H4 zid (⟨[], true, 1⟩ : AObj))
    have hlz : HLe H4 (upd H4 zid ⟨[], true, 1⟩) := .upd_new hzid _
    have hr0 : Cs (upd H4 zid ⟨[], true, 1⟩) (.s rid 0 (len P)) (tabN (len P) (vals P)) := by
      have := (Cs.own or).mono hlz
      rw [tabN_len] at this
      exact tabN_take (vals P) hrn ▸ this.take hrn
    (refine stpU ?_; repeat (refine Al4.mk ?_; intro _ _ _ _; refine stpU ?_))
    refine cA (Trim_calls hz0 (fun _ _ => rfl) (by omega)) ?_
    rintro vw H5 ⟨hc1, rfl⟩
    (refine stpU ?_; repeat (refine Al4.mk ?_; intro _ _ _ _; refine stpU ?_))
    refine cA (Trim_calls hr0 (below_len P) (by omega)) ?_
    rintro vx' H6 ⟨hc2, rfl⟩
    refine mX (v := vw) rfl ?_
    refine mX (v := vx') rfl ?_
    (refine stpU ?_; repeat (refine Al4.mk ?_; intro _ _ _ _; refine stpU ?_))
    exact ⟨hHH.trans hlz, .inr ⟨hq0, vw, vx', rfl, by rw [hd1]; exact hc1, by rw [hd2]; exact hc2⟩⟩
  obtain ⟨k, hk⟩ : ∃ k, k = len P - len Q := ⟨_, rfl⟩
  have hHr : H rid = none := hr
  have hHq : ∀ X, HLe H (upd H4 rid X) := fun X => hHH.upd_of hHr X
  (refine stpU ?_; repeat (refine Al4.mk ?_; intro _ _ _ _; refine stpU ?_))
  rw [← hk, show max 0 (k + 1) = k + 1 by omega]
  refine mK (by_ := 8) (m := ((k + 1 : Nat) : Int)) (l := ((k + 1 : Nat) : Int)) rfl rfl (by omega) (by omega) (by omega) (by omega) ?_
  intro zid hzid
  rw [Int.toNat_natCast, tabN_rep]
  have hzr : zid ≠ rid := fun e => by rw [e, or] at hzid; cases hzid
  have hHz : H zid = none := hHH.absent hzid
  obtain ⟨hp, hhp⟩ : ∃ hp : (Nat → El D) → (Nat → El D) → AH, ∀ o u, hp o u = upd (upd H4 rid ⟨tabN n fun j => (o j).v, true, 1⟩) zid ⟨tabN (k + 1) fun j => (u j).v, true, 1⟩ := ⟨_, fun _ _ => rfl⟩
  have hpH : ∀ o u, HLe H (hp o u) := fun o u => by rw [hhp]; exact (hHq _).upd_of hHz _
  have hpG : ∀ o u, GFS D (hp o u) vx := fun o u => hG.mono (hpH o u)
  have hpz : ∀ o u, hp o u zid = some ⟨tabN (k + 1) fun j => (u j).v, true, 1⟩ := fun o u => by rw [hhp]; exact upd_same _ _ _
  have hpr : ∀ o u, hp o u rid = some ⟨tabN n fun j => (o j).v, true, 1⟩ := fun o u => by rw [hhp, upd_ne _ _ (Ne.symm hzr)]; exact upd_same _ _ _
  have hqz : qid ≠ zid := fun e => by rw [← e, oq] at hzid; cases hzid
  have hpq : ∀ o u, hp o u qid = some ⟨tabN m (vals Q), true, 1⟩ := fun o u => by rw [hhp, upd_ne _ _ hqz, upd_ne _ _ hqr]; exact oq
  have hsr : ∀ o u o', upd (hp o u) rid ⟨tabN n fun j => (o' j : El D).v, true, 1⟩ = hp o' u := fun o u o' => by rw [hhp, hhp, upd_swap hzr]
  have hsz : ∀ o u u', upd (hp o u) zid ⟨tabN (k + 1) fun j => (u' j : El D).v, true, 1⟩ = hp o u' := fun o u u' => by rw [hhp, hhp, upd_upd]
  have hstart : upd H4 zid ⟨tabN (k + 1) fun _ => 0, true, 1⟩ = hp P.c fun _ => 0 := by
    rw [hhp, show (tabN n fun j => (P.c j).v) = tabN n (vals P) from rfl, HLe.same or]; rfl
  rw [hstart]
  obtain ⟨iv, hiv⟩ : ∃ iv : El D, iv = inv (lead Q) := ⟨_, rfl⟩
  have hivl : lead Q * iv = 1 := by rw [hiv]; exact mul_inv hi
  rw [← hiv]
  have hQc : Q.c (len Q - 1) = lead Q := rfl
  (refine stpU ?_; repeat (refine Al4.mk ?_; intro _ _ _ _; refine stpU ?_))
  refine W_loopF (X := Nat × (Nat → El D) × (Nat → El D)) (fun z => [(0, vx), (2, .s qid 0 (len Q)), (6, .s zid 0 (k + 1)), (7, .s rid 0 (len P)), (9, I iv.v), (11, I ((z.1 : Int) - 1))]) (fun z => hp z.2.1 z.2.2)
    (fun z => z.1 ≤ k + 1 ∧ (∀ i, z.1 + len Q - 1 ≤ i → z.2.1 i = 0) ∧ (∀ i, i < z.1 → z.2.2 i = 0) ∧ P = pO (k + 1) z.2.2 * Q + pO (len P) z.2.1) (fun z => z.1) (k + 1, P.c, fun _ => 0) ?_ ⟨rfl, rfl, rfl, rfl, rfl, ?_, trivial⟩ (.refl _) ?_
  · refine ⟨Nat.le_refl _, fun i hi => below_len P i (by dsimp only at hi; omega), fun i _ => rfl, ?_⟩
    dsimp only
    rw [pO_z0, zero_mul, Alg.zero_add, pO_self (below_len P)]
  · exact congrArg I (show ((len P - len Q : Nat) : Int) = ((k + 1 : Nat) : Int) - 1 by omega)
  rintro ⟨c, o, u⟩ ⟨hc, ho, hu, hPu⟩
  dsimp only at hc ho hu hPu ⊢
  cases c with
  | zero =>
    have hb : (pO (len P) o).below (len Q - 1) := fun i hi => by
      rw [pO_c]
      split
      · exact ho i (by omega)
      · rfl
    obtain ⟨hd1, hd2⟩ := divmod_eq hq0 hPu hb
    have hz0 : Cs (hp o u) (.s zid 0 (k + 1)) (tabN (k + 1) (vals (pO (k + 1) u))) := by
      have := Cs.own (hpz o u)
      rw [tabN_len] at this
      rw [tabN_congr (g := vals (pO (k + 1) u)) fun j hj => by unfold vals; rw [pO_c, if_pos hj]] at this
      exact this
    have hr0 : Cs (hp o u) (.s rid 0 (len P)) (tabN (len P) (vals (pO (len P) o))) := by
      have := Cs.own (hpr o u)
      rw [tabN_len] at this
      have := this.take hrn
      rw [tabN_take _ hrn, tabN_congr (g := vals (pO (len P) o)) fun j hj => by unfold vals; rw [pO_c, if_pos hj]] at this
      exact this
    (refine stpT ?_; repeat (refine Al4.mk ?_; intro _ _ _ _; refine stpT ?_))
    refine cA (Trim_calls hz0 (pO_below _ _) (by omega)) ?_
    rintro vw H5 ⟨hc1, rfl⟩
    (refine stpT ?_; repeat (refine Al4.mk ?_; intro _ _ _ _; refine stpT ?_))
    refine cA (Trim_calls hr0 (pO_below _ _) (by omega)) ?_
    rintro vx' H6 ⟨hc2, rfl⟩
    refine mX (v := vw) rfl ?_
    refine mX (v := vx') rfl ?_
    (refine stpT ?_; repeat (refine Al4.mk ?_; intro _ _ _ _; refine stpT ?_))
    exact ⟨hpH o u, .inr ⟨hq0, vw, vx', rfl, by rw [hd1]; exact hc1, by rw [hd2]; exact hc2⟩⟩
  | succ c =>
    have ec : ((c + 1 : Nat) : Int) - 1 = (c : Int) := by omega
    rw [ec]
    have hcl : c + len Q ≤ len P := by omega
    have ri := tabN_rd (hpr o u) (show c + len Q - 1 < n by omega)
    (refine stpU ?_; repeat (refine Al4.mk ?_; intro _ _ _ _; refine stpU ?_))
    refine cA (GF_Mul_calls hD (o (c + len Q - 1)).v iv.v (hpG o u)) ?_
    rintro _ H5 ⟨rfl, rfl⟩
    rw [el_of, el_of]
    obtain ⟨a, ha⟩ : ∃ a : El D, a = o (c + len Q - 1) * iv := ⟨_, rfl⟩
    rw [← ha]
    (refine stpU ?_; repeat (refine Al4.mk ?_; intro _ _ _ _; refine stpU ?_))
    obtain ⟨u', hu'⟩ : ∃ u' : Nat → El D, ∀ t, u' t = if t = c then a else u t := ⟨_, fun _ => rfl⟩
    refine sV (off := c) (v := I a.v) rfl (hpz o u) rfl rfl (by rw [tabN_len]; omega) ?_
    rw [tabN_set _ _ (show c < k + 1 by omega), show (tabN (k + 1) fun y => if y = c then a.v else (fun j => (u j).v) y) = tabN (k + 1) fun j => (u' j).v from tabN_congr fun j _ => by
      rw [hu']
      by_cases e : j = c
      · rw [if_pos e, if_pos e]
      · rw [if_neg e, if_neg e], hsz]
    (refine stpU ?_; repeat (refine Al4.mk ?_; intro _ _ _ _; refine stpU ?_))
    refine W_loopF (X := Nat) (fun j => [(0, vx), (2, .s qid 0 (len Q)), (6, .s zid 0 (k + 1)), (7, .s rid 0 (len P)), (9, I iv.v), (11, I (c : Nat)), (12, I a.v), (67, .s qid 0 (len Q)), (68, I (len Q : Nat)), (69, I (j : Nat))]) (fun j => hp (fun i => if c ≤ i ∧ i < c + j then o i + -(a * Q.c (i - c)) else o i) u')
      (fun j => j ≤ len Q) (fun j => len Q - j) 0 (Nat.zero_le _) ⟨rfl, rfl, rfl, rfl, rfl, rfl, rfl, rfl, rfl, rfl, trivial⟩ ?_ ?_
    · rw [show (fun i => if c ≤ i ∧ i < c + 0 then o i + -(a * Q.c (i - c)) else o i) = o from funext fun i => if_neg (by omega)]
      exact .refl _
    intro j hj
    obtain ⟨w, hw⟩ : ∃ w : Nat → El D, ∀ i, w i = if c ≤ i ∧ i < c + j then o i + -(a * Q.c (i - c)) else o i := ⟨_, fun _ => rfl⟩
    rw [show (fun i => if c ≤ i ∧ i < c + j then o i + -(a * Q.c (i - c)) else o i) = w from funext fun i => (hw i).symm]
    by_cases hjl : j < len Q
    · have rq := rdc_of (hpq w u') (tabN_get (vals Q) (show j < m by omega))
      have rr := tabN_rd (hpr w u') (show c + j < n by omega)
      (refine stpU ?_; repeat (refine Al4.mk ?_; intro _ _ _ _; refine stpU ?_))
      refine cAt (GF_Mul_calls hD a.v (vals Q j) (hpG w u')) ?_
      rintro _ H6 ⟨rfl, rfl⟩
      refine ⟨.refl _, ?_⟩
      refine cAt (GF_Sub_calls hD (w (c + j)).v _ (hpG w u')) ?_
      rintro _ H7 ⟨rfl, rfl⟩
      refine ⟨.refl _, ?_⟩
      have e2 : (el (vals Q j : Int) : El D) = Q.c j := el_of _
      rw [el_of, el_of, el_of, e2]
      obtain ⟨w', hw'⟩ : ∃ w' : Nat → El D, ∀ i, w' i = if c ≤ i ∧ i < c + (j + 1) then o i + -(a * Q.c (i - c)) else o i := ⟨_, fun _ => rfl⟩
      have hnew : w (c + j) + -(a * Q.c j) = w' (c + j) := by
        rw [hw, hw', if_neg (by omega), if_pos (by omega), show c + j - c = j by omega]
      rw [hnew]
      (refine stpU ?_; repeat (refine Al4.mk ?_; intro _ _ _ _; refine stpU ?_))
      refine sV (off := c + j) (v := I (w' (c + j)).v) rfl (hpr w u') rfl rfl (by rw [tabN_len]; omega) ?_
      rw [tabN_set _ _ (show c + j < n by omega), show (tabN n fun y => if y = c + j then (w' (c + j)).v else (fun j => (w j).v) y) = tabN n fun i => (w' i).v from tabN_congr fun i _ => by
        by_cases e : i = c + j
        · rw [if_pos e, e]
        · rw [if_neg e]
          show (w i).v = _
          rw [hw, hw']
          by_cases h : c ≤ i ∧ i < c + j
          · rw [if_pos h, if_pos (by omega)]
          · rw [if_neg h, if_neg (by omega)], hsr]
      (refine stpU ?_; repeat (refine Al4.mk ?_; intro _ _ _ _; refine stpU ?_))
      refine ⟨j + 1, by omega, by omega, ⟨rfl, rfl, rfl, rfl, rfl, rfl, rfl, rfl, rfl, rfl, trivial⟩, ?_⟩
      rw [show (fun i => if c ≤ i ∧ i < c + (j + 1) then o i + -(a * Q.c (i - c)) else o i) = w' from funext fun i => (hw' i).symm]
      exact .refl _
    · have ej : j = len Q := by omega
      subst ej
      (refine stpT ?_; repeat (refine Al4.mk ?_; intro _ _ _ _; refine stpT ?_))
      refine ⟨(c, w, u'), ⟨by omega, fun i hi => ?_, fun i hi => ?_, ?_⟩, Nat.lt_succ_self _, ⟨rfl, rfl, rfl, rfl, rfl, rfl, trivial⟩, .refl _⟩
      · show w i = 0
        rw [hw]
        by_cases h : c ≤ i ∧ i < c + len Q
        · have hie : i = c + len Q - 1 := by have h3 : c + len Q - 1 ≤ i := hi; omega
          rw [if_pos h, hie, show c + len Q - 1 - c = len Q - 1 by omega, hQc, ha, Alg.mul_assoc, Alg.mul_comm iv, hivl, Alg.mul_one, add_neg]
        · rw [if_neg h]
          exact ho i (by have h3 : c + len Q - 1 ≤ i := hi; omega)
      · show u' i = 0
        have h3 : i < c := hi
        rw [hu', if_neg (by omega)]
        exact hu i (by omega)
      · show P = pO (k + 1) u' * Q + pO (len P) w
        rw [pO_set (o := u) (u := u') (s := c) (e := a) (by omega) (by rw [hu', if_pos rfl, hu c (by omega), Alg.zero_add]) (fun i hi => by rw [hu', if_neg hi]), Alg.add_mul, Alg.add_assoc, ← sub_set (below_len Q) hcl hw]
        exact hPu

end Go.Proofs.Ytdkdainipanacaa
namespace Go.Proofs.Ytdkdainipanacaa
open Go Go.RowKit Alg
set_option linter.unusedSimpArgs false
set_option linter.unusedVariables false
set_option linter.constructorNameAsVariable false
attribute [local irreducible] aopL W
variable {D : Desc} [Desc.Ok D]

set_option maxHeartbeats 2000000 in
theorem Gcd_calls (hD : D.Small) [Fld (El D)] {n m : Nat} {P Q : Poly (El D)} {vx vy vz : AV} {H : AH} (hG : GFS D H vx) (hP : PolS H vy n P) (hQ : PolS H vz m Q) (hn : n * 8 ≤ 281474976710656) (hm : m * 8 ≤ 281474976710656) :
    ACalls Try.prog n_poly_Gcd [vx, vy, vz] H (fun r H' => HLe H H' ∧ CanP H' r (gcdP P Q)) := by
  refine calls_of F_poly_Gcd hmix (by show 3 ≤ 38; decide) ?_
  unfold s_poly_Gcd
  have hPn := len_le hP.below
  have hQn := len_le hQ.below
  (refine stpU ?_; repeat (refine Al4.mk ?_; intro _ _ _ _; refine stpU ?_))
  refine cA (Canon_calls hG hP hn) ?_
  rintro _ H2 ⟨hO, hl2⟩
  have hcP := hO.can
  obtain ⟨pid, rfl, -⟩ := hO
  replace hG := hG.mono hl2
  (refine stpU ?_; repeat (refine Al4.mk ?_; intro _ _ _ _; refine stpU ?_))
  refine cA (Canon_calls hG (hQ.mono hl2) hm) ?_
  rintro _ H3 ⟨hO, hl3⟩
  have hcQ := hO.can
  obtain ⟨qid, rfl, -⟩ := hO
  replace hG := hG.mono hl3
  replace hcP := hcP.mono hl3
  have hHH := hl2.trans hl3
  (refine stpU ?_; repeat (refine Al4.mk ?_; intro _ _ _ _; refine stpU ?_))
  refine W_loopF (X := Poly (El D) × Poly (El D) × AV × AV × AH) (fun z => [(0, vx), (1, z.2.2.1), (2, z.2.2.2.1)]) (fun z => z.2.2.2.2)
    (fun z => len z.1 ≤ max n m ∧ len z.2.1 ≤ max n m ∧ gcdP z.1 z.2.1 = gcdP P Q ∧ CanP z.2.2.2.2 z.2.2.1 z.1 ∧ CanP z.2.2.2.2 z.2.2.2.1 z.2.1 ∧ HLe H z.2.2.2.2 ∧ GFS D z.2.2.2.2 vx) (fun z => len z.2.1) (P, Q, .s pid 0 (len P), .s qid 0 (len Q), H3) ⟨by dsimp only; omega, by dsimp only; omega, rfl, hcP, hcQ, hHH, hG⟩ ⟨rfl, rfl, rfl, trivial⟩ (.refl _) ?_
  clear hP hQ
  rintro ⟨A, B, vy, vz, G⟩ ⟨hA, hB, hg, hcA, hcB, hl, hG⟩
  dsimp only at hA hB hg hcA hcB hl hG ⊢
  have hC : Cs G vz (tabN (len B) (vals B)) := hcB
  have hCl : (tabN (len B) (vals B)).length = len B := tabN_len _ _
  by_cases hB0 : B = 0
  · have hl0 : len B = 0 := by rw [hB0, len_zero]
    rw [hB0, gcdP_zero] at hg
    (refine stpU ?_; repeat (refine Al4.mk ?_; intro _ _ _ _; refine stpU ?_))
    refine cA (Monic_calls hD hG hcA.pol (by omega)) ?_
    rintro _ H4 ⟨hl4, ⟨hA0, rfl⟩ | ⟨hA0, id, rfl, hcm⟩⟩
    · (refine stpU ?_; repeat (refine Al4.mk ?_; intro _ _ _ _; refine stpU ?_))
      refine ⟨hl.trans hl4, ?_⟩
      rw [← hg, hA0, monicP_zero]
      exact .nil (.inl rfl)
    · (refine stpU ?_; repeat (refine Al4.mk ?_; intro _ _ _ _; refine stpU ?_))
      refine ⟨hl.trans hl4, ?_⟩
      rw [← hg]
      exact hcm
  · have hpos := len_pos hB0
    (refine stpU ?_; repeat (refine Al4.mk ?_; intro _ _ _ _; refine stpU ?_))
    refine cA (DivMod_calls hD hG hcA.pol hcB.pol (by omega) (by omega)) ?_
    rintro _ H4 ⟨hl4, ⟨h0, _⟩ | ⟨_, vq, vr, rfl, hcq, hcr⟩⟩
    · exact absurd h0 hB0
    have hml := mod_len hB0 A
    (refine stpU ?_; repeat (refine Al4.mk ?_; intro _ _ _ _; refine stpU ?_))
    exact ⟨(B, modP A B, vz, vr, H4), ⟨hB, by dsimp only; omega, by dsimp only; rw [gcdP_step A hB0]; exact hg, hcB.mono hl4, hcr, hl.trans hl4, hG.mono hl4⟩, hml, ⟨rfl, rfl, rfl, trivial⟩, .refl _⟩

end Go.Proofs.Ytdkdainipanacaa
