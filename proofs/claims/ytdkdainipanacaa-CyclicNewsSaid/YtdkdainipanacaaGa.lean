/- Contracts of the reference's element operations: Digits, Value, Add, Neg, Sub, Mul, Inv, Pow. Condition: the field's description is in range. · Contracts of the reference's Mul, Inv and Pow. Condition: the field's description is in range. -/
import Derived.Test.YtdkdainipanacaaG9
import Derived.Test.YtdkdainipanacaaXM
namespace Go.Proofs.Ytdkdainipanacaa
open Go Go.RowKit Alg
set_option linter.unusedSimpArgs false
set_option linter.unusedVariables false
set_option linter.constructorNameAsVariable false
attribute [local irreducible] aopL W
variable {D : Desc} [Desc.Ok D]

theorem r04_Digits_calls (hD : D.Small) (x : Int) (vm : AV) (H : AH) : ACalls Try.prog n_r04_Digits [.ag [I D.p, I D.m, vm], I x] H
    (fun r H' => ∃ id, r = .s id 0 D.m ∧ H id = none ∧ HLe H H' ∧ H' id = some ⟨tabN D.m (dig D.p (el x : El D).v), true, 1⟩) := by
  refine calls_of F_r04_Digits hmix (by show 2 ≤ 13; decide) ?_
  unfold s_r04_Digits
  have hp2 := Two.two (p := D.p)
  have hp256 := hD.p256
  have hm8 := hD.m8
  have hq256 := hD.q256
  (refine stpU ?_; repeat (refine Al4.mk ?_; intro _ _ _ _; refine stpU ?_))
  refine bX rfl ?_
  intro bid hbid
  have fb := upd_same H bid ⟨[I D.p, I D.m, vm], true, 0⟩
  have f0 : rdc (upd H bid ⟨[I D.p, I D.m, vm], true, 0⟩) bid 0 = some (I D.p) := rdc_of fb rfl
  have f1 : rdc (upd H bid ⟨[I D.p, I D.m, vm], true, 0⟩) bid 1 = some (I D.m) := rdc_of fb rfl
  have hl1 : HLe H (upd H bid ⟨[I D.p, I D.m, vm], true, 0⟩) := .upd_new hbid _
  generalize upd H bid ⟨[I D.p, I D.m, vm], true, 0⟩ = H1 at *
  (refine stpU ?_; repeat (refine Al4.mk ?_; intro _ _ _ _; refine stpU ?_))
  refine ldn_own rfl fb rfl ?_
  (refine stpU ?_; repeat (refine Al4.mk ?_; intro _ _ _ _; refine stpU ?_))
  refine cAt (r04_In_calls hD x vm H1) ?_
  rintro _ H2 ⟨rfl, hl2⟩
  refine ⟨hl2, ?_⟩
  have hlt := (el x : El D).lt
  rw [← el_v]
  generalize (el x : El D) = a at *
  (refine stpU ?_; repeat (refine Al4.mk ?_; intro _ _ _ _; refine stpU ?_))
  refine cAt (r04_digits_calls (x := a.v) (p := D.p) (m := D.m) (by omega) (by omega) (by omega) (by omega) H2) ?_
  rintro _ H3 ⟨id, rfl, hid, hl3⟩
  refine ⟨(HLe.upd_new hid _).trans hl3, ?_⟩
  (refine stpU ?_; repeat (refine Al4.mk ?_; intro _ _ _ _; refine stpU ?_))
  exact ⟨id, rfl, (hl1.trans hl2).absent hid, hl1.trans (hl2.trans ((HLe.upd_new hid _).trans hl3)), hl3 _ _ (upd_same _ _ _)⟩

theorem r04_Value_calls {m : Nat} {f : Nat → Nat} {id off : Nat} (hD : D.Small) (hm : m ≤ 1000000) (hf : ∀ i, i < m → f i < D.p) (hpm : D.p ^ m ≤ 1000000) {vm : AV} {H : AH} (ho : Cs H (.s id off m) (tabN m f)) :
    ACalls Try.prog n_r04_Value [.ag [I D.p, I D.m, vm], .s id off m] H (fun r H' => r = I (valN D.p f m : Nat) ∧ HLe H H') := by
  refine calls_of F_r04_Value hmix (by show 2 ≤ 24; decide) ?_
  unfold s_r04_Value
  have hp2 := Two.two (p := D.p)
  have hp256 := hD.p256
  (refine stpU ?_; repeat (refine Al4.mk ?_; intro _ _ _ _; refine stpU ?_))
  refine bX rfl ?_
  intro bid hbid
  have f0 : rdc (upd H bid ⟨[I D.p, I D.m, vm], true, 0⟩) bid 0 = some (I D.p) := rdc_of (upd_same _ _ _) rfl
  have hl1 : HLe H (upd H bid ⟨[I D.p, I D.m, vm], true, 0⟩) := .upd_new hbid _
  generalize upd H bid ⟨[I D.p, I D.m, vm], true, 0⟩ = H1 at *
  replace ho := ho.mono hl1
  (refine stpT ?_; repeat (refine Al4.mk ?_; intro _ _ _ _; refine stpT ?_))
  refine W_loopF (X := Nat) (fun k => [(1, .s id off m), (2, .p bid 0), (5, I (valN D.p (fun i => f (i + k)) (m - k) : Nat)), (6, I ((k : Int) - 1))]) (fun _ => H1)
    (fun k => k ≤ m) (fun k => k) m (by omega) ⟨rfl, rfl, by rw [Nat.sub_self]; rfl, rfl, trivial⟩ (.refl H1) ?_
  intro k hk
  cases k with
  | zero =>
    (refine stpT ?_; repeat (refine Al4.mk ?_; intro _ _ _ _; refine stpT ?_))
    exact ⟨rfl, hl1⟩
  | succ k =>
    have hrd := (ho.rd (tabN_get f (show k < m by omega))).2
    have hlt : valN D.p (fun i => f (i + (k + 1))) (m - (k + 1)) < D.p ^ (m - (k + 1)) := valN_lt fun i hi => hf _ (by omega)
    have hlt2 : D.p ^ (m - (k + 1)) ≤ D.p ^ m := Nat.pow_le_pow_right (by omega) (by omega)
    have hstep : valN D.p (fun i => f (i + k)) (m - k) = valN D.p (fun i => f (i + (k + 1))) (m - (k + 1)) * D.p + f k := by
      rw [show m - k = m - (k + 1) + 1 by omega, valN_front]
      congr 3
      · funext i; congr 1; omega
      · rw [Nat.zero_add]
    have hlt3 : valN D.p (fun i => f (i + k)) (m - k) < D.p ^ (m - k) := valN_lt fun i hi => hf _ (by omega)
    have hlt4 : D.p ^ (m - k) ≤ D.p ^ m := Nat.pow_le_pow_right (by omega) (by omega)
    have e1 : ((k + 1 : Nat) : Int) - 1 = (k : Int) := by omega
    rw [e1]
    (refine stpT ?_; repeat (refine Al4.mk ?_; intro _ _ _ _; refine stpT ?_))
    refine ⟨k, by omega, by omega, ⟨rfl, rfl, ?_, rfl, trivial⟩, .refl H1⟩
    rw [hstep]; rfl

omit [Desc.Ok D] in
theorem qm : D.p ^ D.m = D.q := rfl

set_option maxHeartbeats 2000000 in
theorem r04_Add_calls (hD : D.Small) (x y : Int) (vm : AV) (H : AH) : ACalls Try.prog n_r04_Add [.ag [I D.p, I D.m, vm], I x, I y] H (fun r H' => r = I (el x + el y : El D).v ∧ HLe H H') := by
  refine calls_of F_r04_Add hmix (by show 3 ≤ 40; decide) ?_
  unfold s_r04_Add
  have hp2 := Two.two (p := D.p)
  have hp256 := hD.p256
  have hm8 := hD.m8
  have hq256 := hD.q256
  have hqm := qm (D := D)
  (refine stpU ?_; repeat (refine Al4.mk ?_; intro _ _ _ _; refine stpU ?_))
  refine bX rfl ?_
  intro bid hbid
  have fb := upd_same H bid ⟨[I D.p, I D.m, vm], true, 0⟩
  have hl1 : HLe H (upd H bid ⟨[I D.p, I D.m, vm], true, 0⟩) := .upd_new hbid _
  generalize upd H bid ⟨[I D.p, I D.m, vm], true, 0⟩ = H1 at *
  have fb1 := fb
  (refine stpU ?_; repeat (refine Al4.mk ?_; intro _ _ _ _; refine stpU ?_))
  refine ldn_own rfl fb rfl ?_
  (refine stpU ?_; repeat (refine Al4.mk ?_; intro _ _ _ _; refine stpU ?_))
  refine cA (r04_Digits_calls hD x vm H1) ?_
  rintro _ H2 ⟨aid, rfl, ha, hl2, oa⟩
  replace fb := hl2 _ _ fb
  (refine stpU ?_; repeat (refine Al4.mk ?_; intro _ _ _ _; refine stpU ?_))
  refine ldn_own rfl fb rfl ?_
  (refine stpU ?_; repeat (refine Al4.mk ?_; intro _ _ _ _; refine stpU ?_))
  refine cA (r04_Digits_calls hD y vm H2) ?_
  rintro _ H3 ⟨yid, rfl, hy, hl3, oy⟩
  have hay : aid ≠ yid := fun e => by rw [e, hy] at oa; cases oa
  have hab : aid ≠ bid := fun e => by rw [e] at ha; rw [fb1] at ha; cases ha
  replace fb := hl3 _ _ fb
  replace oa := hl3 _ _ oa
  have hHH := hl1.trans (hl2.trans hl3)
  have hHa : H aid = none := hl1.absent ha
  have fbu : ∀ X, upd H3 aid X bid = some ⟨[I D.p, I D.m, vm], true, 0⟩ := fun X => by rw [upd_ne _ _ (Ne.symm hab)]; exact fb
  have oyu : ∀ X, upd H3 aid X yid = some ⟨tabN D.m (dig D.p (el y : El D).v), true, 1⟩ := fun X => by rw [upd_ne _ _ (Ne.symm hay)]; exact oy
  have hs := el_add_v (el x : El D) (el y)
  generalize (el x : El D) = a at *
  generalize (el y : El D) = b at *
  obtain ⟨s, hsd⟩ : ∃ s : Nat → Nat, ∀ i, s i = (dig D.p a.v i + dig D.p b.v i) % D.p := ⟨_, fun _ => rfl⟩
  have hda : ∀ i, dig D.p a.v i < D.p := fun i => dig_lt pp _ _
  have hdb : ∀ i, dig D.p b.v i < D.p := fun i => dig_lt pp _ _
  have hH3 : upd H3 aid ⟨tabN D.m (dig D.p a.v), true, 1⟩ = H3 := funext fun j => by
    rw [upd_get]
    split
    · rename_i e; rw [e, oa]
    · rfl
  (refine stpU ?_; repeat (refine Al4.mk ?_; intro _ _ _ _; refine stpU ?_))
  refine W_loopF (X := Nat) (fun k => [(3, .p bid 0), (7, .s aid 0 D.m), (8, .s yid 0 D.m), (9, I (k : Nat))]) (fun k => upd H3 aid ⟨tabN D.m fun j => if j < k then s j else dig D.p a.v j, true, 1⟩)
    (fun k => k ≤ D.m) (fun k => D.m - k) 0 (Nat.zero_le _) ⟨rfl, rfl, rfl, rfl, trivial⟩ ?_ ?_
  · rw [show (tabN D.m fun j => if j < 0 then s j else dig D.p a.v j) = tabN D.m (dig D.p a.v) from tabN_congr fun j _ => if_neg (by omega), hH3]; exact .refl _
  intro k hk
  have f0 := rdc_of (fbu ⟨tabN D.m fun j => if j < k then s j else dig D.p a.v j, true, 1⟩) (i := 0) (v := I D.p) rfl
  by_cases hkm : k < D.m
  · have ra := tabN_rd (upd_same H3 aid ⟨tabN D.m (fun j => if j < k then s j else dig D.p a.v j), true, 1⟩) hkm
    rw [if_neg (Nat.lt_irrefl k)] at ra
    have rb := tabN_rd (oyu ⟨tabN D.m (fun j => if j < k then s j else dig D.p a.v j), true, 1⟩) hkm
    have hak := hda k
    have hbk := hdb k
    (refine stpU ?_; repeat (refine Al4.mk ?_; intro _ _ _ _; refine stpU ?_))
    refine sV (off := k) (v := I (s k)) rfl (upd_same _ _ _) (by rw [hsd]; rfl) rfl (by rw [tabN_len]; omega) ?_
    rw [tabN_set _ _ hkm, upd_upd]
    (refine stpU ?_; repeat (refine Al4.mk ?_; intro _ _ _ _; refine stpU ?_))
    refine ⟨k + 1, hkm, by omega, ⟨rfl, rfl, rfl, rfl, trivial⟩, HLe.tabN fun j hj => ?_⟩
    by_cases e : j = k
    · subst e; rw [if_pos (by omega), if_pos rfl]
    · rw [if_neg e]
      by_cases h2 : j < k
      · rw [if_pos h2, if_pos (by omega)]
      · rw [if_neg h2, if_neg (by omega)]
  · have hfull : tabN D.m (fun j => if j < k then s j else dig D.p a.v j) = tabN D.m s := tabN_congr fun j hj => if_pos (by omega)
    rw [hfull] at *
    (refine stpU ?_; repeat (refine Al4.mk ?_; intro _ _ _ _; refine stpU ?_))
    refine ldn_own rfl (fbu _) rfl ?_
    (refine stpU ?_; repeat (refine Al4.mk ?_; intro _ _ _ _; refine stpU ?_))
    have hown : Cs (upd H3 aid ⟨tabN D.m s, true, 1⟩) (.s aid 0 D.m) (tabN D.m s) := by
      have := Cs.own (upd_same H3 aid ⟨tabN D.m s, true, 1⟩)
      rwa [tabN_len] at this
    refine cA (r04_Value_calls hD (by omega) (fun i _ => by rw [hsd]; exact Nat.mod_lt _ pp) (by omega) hown) ?_
    rintro _ H4 ⟨rfl, hl4⟩
    (refine stpU ?_; repeat (refine Al4.mk ?_; intro _ _ _ _; refine stpU ?_))
    refine ⟨?_, (hHH.upd_of hHa _).trans hl4⟩
    rw [hs, valN_congr fun i _ => (hsd i).symm]; rfl

set_option maxHeartbeats 2000000 in
theorem r04_Neg_calls (hD : D.Small) (x : Int) (vm : AV) (H : AH) : ACalls Try.prog n_r04_Neg [.ag [I D.p, I D.m, vm], I x] H (fun r H' => r = I (-el x : El D).v ∧ HLe H H') := by
  refine calls_of F_r04_Neg hmix (by show 2 ≤ 32; decide) ?_
  unfold s_r04_Neg
  have hp2 := Two.two (p := D.p)
  have hp256 := hD.p256
  have hm8 := hD.m8
  have hq256 := hD.q256
  have hqm := qm (D := D)
  (refine stpU ?_; repeat (refine Al4.mk ?_; intro _ _ _ _; refine stpU ?_))
  refine bX rfl ?_
  intro bid hbid
  have fb := upd_same H bid ⟨[I D.p, I D.m, vm], true, 0⟩
  have hl1 : HLe H (upd H bid ⟨[I D.p, I D.m, vm], true, 0⟩) := .upd_new hbid _
  generalize upd H bid ⟨[I D.p, I D.m, vm], true, 0⟩ = H1 at *
  have fb1 := fb
  (refine stpU ?_; repeat (refine Al4.mk ?_; intro _ _ _ _; refine stpU ?_))
  refine ldn_own rfl fb rfl ?_
  (refine stpU ?_; repeat (refine Al4.mk ?_; intro _ _ _ _; refine stpU ?_))
  refine cA (r04_Digits_calls hD x vm H1) ?_
  rintro _ H3 ⟨aid, rfl, ha, hl3, oa⟩
  have hab : aid ≠ bid := fun e => by rw [e] at ha; rw [fb1] at ha; cases ha
  replace fb := hl3 _ _ fb
  have hHH := hl1.trans hl3
  have hHa : H aid = none := hl1.absent ha
  have fbu : ∀ X, upd H3 aid X bid = some ⟨[I D.p, I D.m, vm], true, 0⟩ := fun X => by rw [upd_ne _ _ (Ne.symm hab)]; exact fb
  have hs := el_neg_v (el x : El D)
  generalize (el x : El D) = a at *
  obtain ⟨s, hsd⟩ : ∃ s : Nat → Nat, ∀ i, s i = (D.p - dig D.p a.v i) % D.p := ⟨_, fun _ => rfl⟩
  have hda : ∀ i, dig D.p a.v i < D.p := fun i => dig_lt pp _ _
  have hH3 : upd H3 aid ⟨tabN D.m (dig D.p a.v), true, 1⟩ = H3 := funext fun j => by
    rw [upd_get]
    split
    · rename_i e; rw [e, oa]
    · rfl
  (refine stpU ?_; repeat (refine Al4.mk ?_; intro _ _ _ _; refine stpU ?_))
  refine W_loopF (X := Nat) (fun k => [(2, .p bid 0), (5, .s aid 0 D.m), (6, I (k : Nat))]) (fun k => upd H3 aid ⟨tabN D.m fun j => if j < k then s j else dig D.p a.v j, true, 1⟩)
    (fun k => k ≤ D.m) (fun k => D.m - k) 0 (Nat.zero_le _) ⟨rfl, rfl, rfl, trivial⟩ ?_ ?_
  · rw [show (tabN D.m fun j => if j < 0 then s j else dig D.p a.v j) = tabN D.m (dig D.p a.v) from tabN_congr fun j _ => if_neg (by omega), hH3]; exact .refl _
  intro k hk
  have f0 := rdc_of (fbu ⟨tabN D.m fun j => if j < k then s j else dig D.p a.v j, true, 1⟩) (i := 0) (v := I D.p) rfl
  by_cases hkm : k < D.m
  · have ra := tabN_rd (upd_same H3 aid ⟨tabN D.m (fun j => if j < k then s j else dig D.p a.v j), true, 1⟩) hkm
    rw [if_neg (Nat.lt_irrefl k)] at ra
    have hak := hda k
    (refine stpU ?_; repeat (refine Al4.mk ?_; intro _ _ _ _; refine stpU ?_))
    refine sV (off := k) (v := I (s k)) rfl (upd_same _ _ _) (by rw [hsd]; rfl) rfl (by rw [tabN_len]; omega) ?_
    rw [tabN_set _ _ hkm, upd_upd]
    (refine stpU ?_; repeat (refine Al4.mk ?_; intro _ _ _ _; refine stpU ?_))
    refine ⟨k + 1, hkm, by omega, ⟨rfl, rfl, rfl, trivial⟩, HLe.tabN fun j hj => ?_⟩
    by_cases e : j = k
    · subst e; rw [if_pos (by omega), if_pos rfl]
    · rw [if_neg e]
      by_cases h2 : j < k
      · rw [if_pos h2, if_pos (by omega)]
      · rw [if_neg h2, if_neg (by omega)]
  · have hfull : tabN D.m (fun j => if j < k then s j else dig D.p a.v j) = tabN D.m s := tabN_congr fun j hj => if_pos (by omega)
    rw [hfull] at *
    (refine stpU ?_; repeat (refine Al4.mk ?_; intro _ _ _ _; refine stpU ?_))
    refine ldn_own rfl (fbu _) rfl ?_
    (refine stpU ?_; repeat (refine Al4.mk ?_; intro _ _ _ _; refine stpU ?_))
    have hown : Cs (upd H3 aid ⟨tabN D.m s, true, 1⟩) (.s aid 0 D.m) (tabN D.m s) := by
      have := Cs.own (upd_same H3 aid ⟨tabN D.m s, true, 1⟩)
      rwa [tabN_len] at this
    refine cA (r04_Value_calls hD (by omega) (fun i _ => by rw [hsd]; exact Nat.mod_lt _ pp) (by omega) hown) ?_
    rintro _ H4 ⟨rfl, hl4⟩
    (refine stpU ?_; repeat (refine Al4.mk ?_; intro _ _ _ _; refine stpU ?_))
    refine ⟨?_, (hHH.upd_of hHa _).trans hl4⟩
    rw [hs, valN_congr fun i _ => (hsd i).symm]; rfl


end Go.Proofs.Ytdkdainipanacaa
namespace Go.Proofs.Ytdkdainipanacaa
open Go Go.RowKit Alg
set_option linter.unusedSimpArgs false
set_option linter.unusedVariables false
set_option linter.constructorNameAsVariable false
attribute [local irreducible] aopL W
variable {D : Desc} [Desc.Ok D]

set_option maxHeartbeats 8000000 in
theorem r04_Mul_calls (hD : D.Small) (x y : Int) {vm : AV} {H : AH} (hM : ModS H D vm) : ACalls Try.prog n_r04_Mul [.ag [I D.p, I D.m, vm], I x, I y] H (fun r H' => r = I (el x * el y : El D).v ∧ HLe H H') := by
  refine calls_of F_r04_Mul hmix (by show 3 ≤ 117; decide) ?_
  unfold s_r04_Mul
  have hp2 := Two.two (p := D.p)
  have hm1 := Desc.Ok.m1 (D := D)
  have hp256 := hD.p256
  have hm8 := hD.m8
  have hq256 := hD.q256
  have hqm := qm (D := D)
  (refine stpU ?_; repeat (refine Al4.mk ?_; intro _ _ _ _; refine stpU ?_))
  refine bX rfl ?_
  intro bid hbid
  have fb := upd_same H bid ⟨[I D.p, I D.m, vm], true, 0⟩
  have hl1 : HLe H (upd H bid ⟨[I D.p, I D.m, vm], true, 0⟩) := .upd_new hbid _
  generalize upd H bid ⟨[I D.p, I D.m, vm], true, 0⟩ = H1 at *
  (refine stpU ?_; repeat (refine Al4.mk ?_; intro _ _ _ _; refine stpU ?_))
  refine ldn_own rfl fb rfl ?_
  (refine stpU ?_; repeat (refine Al4.mk ?_; intro _ _ _ _; refine stpU ?_))
  refine cA (r04_Digits_calls hD x vm H1) ?_
  rintro _ H2 ⟨aid, rfl, ha, hl2, oa⟩
  replace fb := hl2 _ _ fb
  (refine stpU ?_; repeat (refine Al4.mk ?_; intro _ _ _ _; refine stpU ?_))
  refine ldn_own rfl fb rfl ?_
  (refine stpU ?_; repeat (refine Al4.mk ?_; intro _ _ _ _; refine stpU ?_))
  refine cA (r04_Digits_calls hD y vm H2) ?_
  rintro _ H3 ⟨yid, rfl, hy, hl3, oy⟩
  replace fb := hl3 _ _ fb
  replace oa := hl3 _ _ oa
  have hHH := hl1.trans (hl2.trans hl3)
  replace hM := hM.mono hHH
  have f0 := rdc_of fb (i := 0) (v := I D.p) rfl
  have f1 := rdc_of fb (i := 1) (v := I D.m) rfl
  have f2 := rdc_of fb (i := 2) (v := vm) rfl
  generalize (el x : El D) = a at *
  generalize (el y : El D) = b at *
  clear hl1 hl2 hl3 ha hy
  have hda : ∀ i, dig D.p a.v i < D.p := fun i => dig_lt pp _ _
  have hdb : ∀ i, dig D.p b.v i < D.p := fun i => dig_lt pp _ _
  have e2 : (2 : Int) * (D.m : Int) - 1 = ((2 * D.m - 1 : Nat) : Int) := by omega
  (refine stpU ?_; repeat (refine Al4.mk ?_; intro _ _ _ _; refine stpU ?_))
  refine mK (by_ := 8) (m := ((2 * D.m - 1 : Nat) : Int)) (l := ((2 * D.m - 1 : Nat) : Int)) (by exact congrArg I e2) (by exact congrArg I e2) (by omega) (by omega) (by omega) (by omega) ?_
  intro cid hcid
  rw [Int.toNat_natCast, tabN_rep]
  obtain ⟨L, hL⟩ : ∃ L, L = 2 * D.m - 1 := ⟨_, rfl⟩
  rw [← hL]
  have hle : ∀ f : Nat → Nat, HLe H3 (upd H3 cid ⟨tabN L f, true, 1⟩) := fun f => .upd_new hcid _
  have f0' := fun f => rdc_mono (hle f) f0
  have f1' := fun f => rdc_mono (hle f) f1
  have f2' := fun f => rdc_mono (hle f) f2
  have oa' := fun f => hle f _ _ oa
  have oy' := fun f => hle f _ _ oy
  have g1 := f1' fun _ => 0
  (refine stpU ?_; repeat (refine Al4.mk ?_; intro _ _ _ _; refine stpU ?_))
  -- the products
  refine W_loopF (X := Nat × (Nat → Nat)) (fun z => [(3, .p bid 0), (7, .s aid 0 D.m), (8, .s yid 0 D.m), (9, .s cid 0 L), (10, I (z.1 : Nat))]) (fun z => upd H3 cid ⟨tabN L z.2, true, 1⟩)
    (fun z => z.1 ≤ D.m ∧ (∀ i, z.2 i < D.p) ∧ pN D.p L z.2 = pN D.p z.1 (dig D.p a.v) * pN D.p D.m (dig D.p b.v) + mono (ofN (dig D.p a.v z.1)) z.1 * pN D.p 0 (dig D.p b.v)) (fun z => D.m - z.1) (0, fun _ => 0) ?_ ⟨rfl, rfl, rfl, rfl, rfl, trivial⟩ (.refl _) ?_
  · refine ⟨Nat.zero_le _, fun i => pp, ?_⟩
    dsimp only
    rw [pN_z0, pN_zero, pN_zero, zero_mul, mul_zero, add_zero]
  rintro ⟨k, o⟩ ⟨hk, ho, hc⟩
  dsimp only at hk ho hc ⊢
  have g1 := f1' o
  by_cases hkm : k < D.m
  · (refine stpU ?_; repeat (refine Al4.mk ?_; intro _ _ _ _; refine stpU ?_))
    refine W_loopF (X := Nat × (Nat → Nat)) (fun z => [(3, .p bid 0), (7, .s aid 0 D.m), (8, .s yid 0 D.m), (9, .s cid 0 L), (10, I (k : Nat)), (11, I (z.1 : Nat))]) (fun z => upd H3 cid ⟨tabN L z.2, true, 1⟩)
      (fun z => z.1 ≤ D.m ∧ (∀ i, z.2 i < D.p) ∧ pN D.p L z.2 = pN D.p k (dig D.p a.v) * pN D.p D.m (dig D.p b.v) + mono (ofN (dig D.p a.v k)) k * pN D.p z.1 (dig D.p b.v)) (fun z => D.m - z.1) (0, o) ⟨Nat.zero_le _, ho, hc⟩ ⟨rfl, rfl, rfl, rfl, rfl, rfl, trivial⟩ (.refl _) ?_
    rintro ⟨j, u⟩ ⟨hj, hu, hcu⟩
    dsimp only at hj hu hcu ⊢
    have g0 := f0' u
    have g1 := f1' u
    by_cases hjm : j < D.m
    · have hkj : k + j < L := by omega
      have rc := tabN_rd (upd_same H3 cid ⟨tabN L u, true, 1⟩) hkj
      have ra := tabN_rd (oa' u) hkm
      have rb := tabN_rd (oy' u) hjm
      have h1 := hu (k + j)
      have h2 := hda k
      have h3 := hdb j
      have hb2 : dig D.p a.v k * dig D.p b.v j ≤ 256 * 256 := Nat.mul_le_mul (by omega) (by omega)
      obtain ⟨u', hu'⟩ : ∃ u' : Nat → Nat, ∀ t, u' t = if t = k + j then (u (k + j) + dig D.p a.v k * dig D.p b.v j) % D.p else u t := ⟨_, fun _ => rfl⟩
      (refine stpU ?_; repeat (refine Al4.mk ?_; intro _ _ _ _; refine stpU ?_))
      refine sV (off := k + j) (v := I ((u (k + j) + dig D.p a.v k * dig D.p b.v j) % D.p : Nat)) rfl (upd_same _ _ _) rfl rfl (by rw [tabN_len]; omega) ?_
      rw [tabN_set _ _ hkj, upd_upd, show (fun y => if y = k + j then (u (k + j) + dig D.p a.v k * dig D.p b.v j) % D.p else u y) = u' from funext fun t => (hu' t).symm]
      (refine stpU ?_; repeat (refine Al4.mk ?_; intro _ _ _ _; refine stpU ?_))
      refine ⟨(j + 1, u'), ⟨hjm, fun i => ?_, ?_⟩, by simp only; omega, ⟨rfl, rfl, rfl, rfl, rfl, rfl, trivial⟩, .refl _⟩
      · show u' i < D.p
        rw [hu']
        split
        · exact Nat.mod_lt _ pp
        · exact hu i
      · exact conv_step (o' := u') hkj (by rw [hu', if_pos rfl, Nat.mod_mod]) (fun i hi => by rw [hu', if_neg hi]) hcu
    · have ej : j = D.m := by omega
      subst ej
      (refine stpU ?_; repeat (refine Al4.mk ?_; intro _ _ _ _; refine stpU ?_))
      exact ⟨(k + 1, u), ⟨hkm, hu, conv_row hcu⟩, by simp only; omega, ⟨rfl, rfl, rfl, rfl, rfl, trivial⟩, .refl _⟩
  -- the reduction
  have ek : k = D.m := by omega
  subst ek
  rw [pN_zero, mul_zero, add_zero] at hc
  (refine stpU ?_; repeat (refine Al4.mk ?_; intro _ _ _ _; refine stpU ?_))
  refine W_loopF (X := Nat × (Nat → Nat)) (fun z => [(3, .p bid 0), (9, .s cid 0 L), (12, I ((z.1 : Int) - 1))]) (fun z => upd H3 cid ⟨tabN L z.2, true, 1⟩)
    (fun z => D.m ≤ z.1 ∧ z.1 ≤ L ∧ (∀ i, z.2 i < D.p) ∧ Cong D.f (pN D.p D.m (dig D.p a.v) * pN D.p D.m (dig D.p b.v)) (pN D.p z.1 z.2)) (fun z => z.1) (L, o) ⟨by omega, Nat.le_refl _, ho, by rw [← hc]; exact .refl _ _⟩ ⟨rfl, rfl, congrArg I (show (2 : Int) * (D.m : Int) - 2 = (L : Int) - 1 by omega), trivial⟩ (.refl _) ?_
  rintro ⟨i, u⟩ ⟨hi1, hi2, hu, hcu⟩
  dsimp only at hi1 hi2 hu hcu ⊢
  have g1 := f1' u
  by_cases him : D.m < i
  · obtain ⟨i, rfl⟩ : ∃ i', i = i' + 1 := ⟨i - 1, by omega⟩
    have e1 : ((i + 1 : Nat) : Int) - 1 = (i : Int) := by omega
    rw [e1]
    have hm2 : 1 < D.m := by omega
    have hM2 := hM hm2
    obtain ⟨nw, hnw⟩ : ∃ nw : Nat → Nat, ∀ t, nw t = (u t + (D.p - u i) * low D (t - (i - D.m))) % D.p := ⟨_, fun _ => rfl⟩
    (refine stpU ?_; repeat (refine Al4.mk ?_; intro _ _ _ _; refine stpU ?_))
    refine W_loopF (X := Nat) (fun j => [(3, .p bid 0), (9, .s cid 0 L), (12, I (i : Nat)), (13, I (j : Nat))]) (fun j => upd H3 cid ⟨tabN L fun t => if i - D.m ≤ t ∧ t < i - D.m + j then nw t else u t, true, 1⟩)
      (fun j => j ≤ D.m) (fun j => D.m - j) 0 (Nat.zero_le _) ⟨rfl, rfl, rfl, rfl, trivial⟩ (HLe.tabN fun t _ => if_neg (by omega)) ?_
    intro j hj
    have g0 := f0' fun t => if i - D.m ≤ t ∧ t < i - D.m + j then nw t else u t
    have g1 := f1' fun t => if i - D.m ≤ t ∧ t < i - D.m + j then nw t else u t
    have g2 := f2' fun t => if i - D.m ≤ t ∧ t < i - D.m + j then nw t else u t
    by_cases hjm : j < D.m
    · have hCj := hM2.mono (hle fun t => if i - D.m ≤ t ∧ t < i - D.m + j then nw t else u t)
      have hwj := tabN_get (low D) hjm
      have rc := tabN_rd (upd_same H3 cid ⟨tabN L (fun t => if i - D.m ≤ t ∧ t < i - D.m + j then nw t else u t), true, 1⟩) (show i - D.m + j < L by omega)
      rw [if_neg (by omega)] at rc
      have ri := tabN_rd (upd_same H3 cid ⟨tabN L (fun t => if i - D.m ≤ t ∧ t < i - D.m + j then nw t else u t), true, 1⟩) (show i < L by omega)
      rw [if_neg (by omega)] at ri
      have h1 := hu i
      have h2 := hu (i - D.m + j)
      have h3 := hD.lows j hjm
      have hb2 : (D.p - u i) * low D j ≤ 256 * 256 := Nat.mul_le_mul (by omega) (by omega)
      (refine stpU ?_; repeat (refine Al4.mk ?_; intro _ _ _ _; refine stpU ?_))
      refine sV (off := i - D.m + j) (v := I (nw (i - D.m + j))) rfl (upd_same _ _ _) (by rw [hnw, show i - D.m + j - (i - D.m) = j by omega]; rfl) rfl (by rw [tabN_len]; omega) ?_
      rw [tabN_set _ _ (show i - D.m + j < L by omega), upd_upd]
      (refine stpU ?_; repeat (refine Al4.mk ?_; intro _ _ _ _; refine stpU ?_))
      refine ⟨j + 1, hjm, by omega, ⟨rfl, rfl, rfl, rfl, trivial⟩, HLe.tabN fun t ht => ?_⟩
      by_cases e : t = i - D.m + j
      · subst e; rw [if_pos (by omega), if_pos rfl]
      · rw [if_neg e]
        by_cases h : i - D.m ≤ t ∧ t < i - D.m + j
        · rw [if_pos h, if_pos (by omega)]
        · rw [if_neg h, if_neg (by omega)]
    · have ej : j = D.m := by omega
      subst ej
      (refine stpT ?_; repeat (refine Al4.mk ?_; intro _ _ _ _; refine stpT ?_))
      refine ⟨(i, fun t => if i - D.m ≤ t ∧ t < i - D.m + D.m then nw t else u t), ⟨by omega, by omega, fun t => ?_, ?_⟩, Nat.lt_succ_self _, ⟨rfl, rfl, rfl, trivial⟩, .refl _⟩
      · dsimp only
        split
        · rw [hnw]; exact Nat.mod_lt _ pp
        · exact hu t
      · refine hcu.trans (red_top (by omega) (Nat.le_of_lt (hu i)) (fun t h1 h2 => ?_) fun t h1 => ?_)
        · show (if i - D.m ≤ t ∧ t < i - D.m + D.m then nw t else u t) % D.p = _
          rw [if_pos (by omega), hnw, Nat.mod_mod]
        · show (if i - D.m ≤ t ∧ t < i - D.m + D.m then nw t else u t) = _
          rw [if_neg (by omega)]
  · have ei : i = D.m := by omega
    subst ei
    have fbu := hle u _ _ fb
    (refine stpT ?_; repeat (refine Al4.mk ?_; intro _ _ _ _; refine stpT ?_))
    refine ldn_own rfl fbu rfl ?_
    (refine stpT ?_; repeat (refine Al4.mk ?_; intro _ _ _ _; refine stpT ?_))
    refine sHi (r := D.m) rfl (upd_same _ _ _) rfl rfl (by omega) ?_
    have hcut : Cs (upd H3 cid ⟨tabN L u, true, 1⟩) (.s cid 0 D.m) (tabN D.m u) := by
      have := Cs.own (upd_same H3 cid ⟨tabN L u, true, 1⟩)
      rw [tabN_len] at this
      exact tabN_take u hi2 ▸ this.take hi2
    refine cAt (r04_Value_calls hD (by omega) (fun i _ => hu i) (by omega) hcut) ?_
    rintro _ H4 ⟨rfl, hl4⟩
    refine ⟨hl4, ?_⟩
    rw [conv_end (fun i _ => hu i) hcu]
    (refine stpT ?_; repeat (refine Al4.mk ?_; intro _ _ _ _; refine stpT ?_))
    exact ⟨rfl, (hHH.trans (hle u)).trans hl4⟩

theorem r04_Inv_calls (hD : D.Small) [Fld (El D)] (x : Int) {vm : AV} {H : AH} (hM : ModS H D vm) : ACalls Try.prog n_r04_Inv [.ag [I D.p, I D.m, vm], I x] H (fun r H' => r = I (inv (el x) : El D).v ∧ HLe H H') := by
  refine calls_of F_r04_Inv hmix (by show 2 ≤ 18; decide) ?_
  unfold s_r04_Inv
  have hq256 := hD.q256
  have hq1 := q_gt (D := D)
  (refine stpU ?_; repeat (refine Al4.mk ?_; intro _ _ _ _; refine stpU ?_))
  refine bX rfl ?_
  intro bid hbid
  have fb := upd_same H bid ⟨[I D.p, I D.m, vm], true, 0⟩
  have hl1 : HLe H (upd H bid ⟨[I D.p, I D.m, vm], true, 0⟩) := .upd_new hbid _
  generalize upd H bid ⟨[I D.p, I D.m, vm], true, 0⟩ = H1 at *
  replace hM := hM.mono hl1
  (refine stpU ?_; repeat (refine Al4.mk ?_; intro _ _ _ _; refine stpU ?_))
  refine W_loopF (X := Nat) (fun k => [(1, I x), (2, .p bid 0), (5, I (k : Nat))]) (fun _ => H1) (fun k => 1 ≤ k ∧ k ≤ D.q ∧ ∀ y : El D, y.v < k → el x * y ≠ 1) (fun k => D.q - k) 1 ⟨Nat.le_refl _, by omega, fun y hy h => ?_⟩ ⟨rfl, rfl, rfl, trivial⟩ (.refl _) ?_
  · rw [show y = 0 from El.ext (by show y.v = 0; omega), mul_zero] at h
    exact el_one_ne h.symm
  rintro k ⟨h1, h2, h3⟩
  (refine stpU ?_; repeat (refine Al4.mk ?_; intro _ _ _ _; refine stpU ?_))
  refine ldn_own rfl fb rfl ?_
  (refine stpU ?_; repeat (refine Al4.mk ?_; intro _ _ _ _; refine stpU ?_))
  refine cA (r04_Order_calls D.p D.m vm H1) ?_
  rintro _ H2 ⟨rfl, hl2⟩
  rw [ord_small hD]
  by_cases hk : k < D.q
  · obtain ⟨y, rfl⟩ : ∃ y : El D, y.v = k := ⟨⟨k, hk⟩, rfl⟩
    (refine stpU ?_; repeat (refine Al4.mk ?_; intro _ _ _ _; refine stpU ?_))
    refine ldn_own rfl (hl2 _ _ fb) rfl ?_
    (refine stpU ?_; repeat (refine Al4.mk ?_; intro _ _ _ _; refine stpU ?_))
    refine cA (r04_Mul_calls hD x y.v (hM.mono hl2)) ?_
    rintro _ H3 ⟨rfl, hl3⟩
    rw [el_of]
    by_cases e : el x * y = 1
    · have ev : (el x * y).v = 1 := by rw [e]; rfl
      (refine stpU ?_; repeat (refine Al4.mk ?_; intro _ _ _ _; refine stpU ?_))
      refine ⟨?_, hl1.trans (hl2.trans hl3)⟩
      rw [← inv_of_mul e]; rfl
    · have ev : (el x * y).v ≠ 1 := fun h => e (El.ext h)
      (refine stpU ?_; repeat (refine Al4.mk ?_; intro _ _ _ _; refine stpU ?_))
      refine ⟨y.v + 1, ⟨by omega, by omega, fun z hz => ?_⟩, by omega, ⟨rfl, rfl, rfl, trivial⟩, hl2.trans hl3⟩
      by_cases hzy : z.v = y.v
      · rw [El.ext hzy]; exact e
      · exact h3 z (by omega)
  · (refine stpU ?_; repeat (refine Al4.mk ?_; intro _ _ _ _; refine stpU ?_))
    refine ⟨?_, hl1.trans hl2⟩
    have hx : (el x : El D) = 0 := Classical.byContradiction fun hne => h3 (inv (el x)) (by have := (inv (el x) : El D).lt; omega) (mul_inv hne)
    rw [hx, inv_zero]; rfl


end Go.Proofs.Ytdkdainipanacaa
