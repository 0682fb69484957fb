/- Contracts of the field package's order, isPrime, digitsOf and valueOf. Condition: the arguments lie in the given ranges. · Contract of the field package's multiply. Condition: the description's P and M are in range and the entries of Mod, too. -/
import Derived.Test.YtdkdainipanacaaChecked
import Derived.Test.YtdkdainipanacaaS0
import Derived.Test.YtdkdainipanacaaXD
import Derived.Test.YtdkdainipanacaaXS
import Derived.Test.YtdkdainipanacaaXM
namespace Go.Proofs.Ytdkdainipanacaa
open Go Go.RowKit Alg
set_option linter.unusedSimpArgs false
set_option linter.unusedVariables false
set_option linter.constructorNameAsVariable false
attribute [local irreducible] aopL W

theorem hmix : Try.prog.follows .mixedOrders = true := Checked.mixed Try.checked

/-- q times p, k times, or 0 where it grows beyond 256 -/
def powB (p : Int) : Nat → Int → Int
  | 0, q => q
  | k + 1, q => if q * p > 256 then 0 else powB p k (q * p)
def ordS (p m : Int) : Int := if p < 2 ∨ 256 < p ∨ m < 1 ∨ 8 < m then 0 else powB p m.toNat 1

set_option maxHeartbeats 1000000 in
theorem order_calls (p m : Int) (H : AH) : ACalls Try.prog n_field_order [I p, I m] H (fun r H' => r = I (ordS p m) ∧ H' = H) := by
  refine calls_of F_field_order hmix (by show 2 ≤ 30; decide) ?_
  unfold s_field_order
  by_cases hp : p < 2
  · (refine stpS ?_; repeat (refine Al4.mk ?_; intro _ _ _ _; refine stpS ?_))
    exact ⟨by simp [ordS, hp]; rfl, rfl⟩
  by_cases hp2 : 256 < p
  · (refine stpS ?_; repeat (refine Al4.mk ?_; intro _ _ _ _; refine stpS ?_))
    exact ⟨by simp [ordS, hp2]; rfl, rfl⟩
  by_cases hm1 : m < 1
  · (refine stpS ?_; repeat (refine Al4.mk ?_; intro _ _ _ _; refine stpS ?_))
    exact ⟨by simp [ordS, hm1]; rfl, rfl⟩
  by_cases hm2 : 8 < m
  · (refine stpS ?_; repeat (refine Al4.mk ?_; intro _ _ _ _; refine stpS ?_))
    exact ⟨by simp [ordS, hm2]; rfl, rfl⟩
  have e0 : ordS p m = powB p m.toNat 1 := by simp [ordS, hp, hp2, hm1, hm2]
  (refine stpS ?_; repeat (refine Al4.mk ?_; intro _ _ _ _; refine stpS ?_))
  refine W_loopF (fun x : Int × Int => [(0, I p), (5, I x.1), (20, I m), (21, I x.2)]) (fun _ => H) (fun x => 1 ≤ x.1 ∧ x.1 ≤ 256 ∧ 0 ≤ x.2 ∧ x.2 ≤ m ∧ powB p (m - x.2).toNat x.1 = ordS p m) (fun x => (m - x.2).toNat) (1, 0) ?_ ?_ (.refl H) ?_
  · refine ⟨by omega, by omega, by omega, by omega, ?_⟩
    rw [e0]; simp
  · exact ⟨rfl, rfl, rfl, rfl, trivial⟩
  · rintro ⟨q, i⟩ ⟨h1, h2, h3, h4, h5⟩
    dsimp only at h1 h2 h3 h4 h5 ⊢
    have hq : q * p ≤ 256 * 256 := by
      have := Int.mul_le_mul h2 (show p ≤ 256 by omega) (by omega) (by omega)
      omega
    have hq0 : 0 ≤ q * p := Int.mul_nonneg (by omega) (by omega)
    by_cases hi : i < m
    · by_cases hq2 : 256 < q * p
      · (refine stpS ?_; repeat (refine Al4.mk ?_; intro _ _ _ _; refine stpS ?_))
        refine ⟨?_, rfl⟩
        rw [← h5, show (m - i).toNat = (m - (i + 1)).toNat + 1 by omega, powB, if_pos hq2]; rfl
      · (refine stpS ?_; repeat (refine Al4.mk ?_; intro _ _ _ _; refine stpS ?_))
        refine ⟨(q * p, i + 1), ⟨?_, by omega, by omega, by omega, ?_⟩, by simp only; omega, ⟨rfl, rfl, rfl, rfl, trivial⟩, .refl H⟩
        · have := Int.mul_le_mul h1 (show 1 ≤ p by omega) (by omega) (by omega); omega
        · simp only
          rw [← h5, show (m - i).toNat = (m - (i + 1)).toNat + 1 by omega, powB, if_neg hq2]
    · (refine stpS ?_; repeat (refine Al4.mk ?_; intro _ _ _ _; refine stpS ?_))
      refine ⟨?_, rfl⟩
      rw [← h5, show (m - i).toNat = 0 by omega, powB]; rfl

open Classical in
theorem isPrime_calls {n : Nat} (hn : n ≤ 256) (H : AH) : ACalls Try.prog n_field_isPrime [I n] H (fun r H' => r = .b (decide (Prime n)) ∧ H' = H) := by
  refine calls_of F_field_isPrime hmix (by show 1 ≤ 17; decide) ?_
  unfold s_field_isPrime
  (refine stpS ?_; repeat (refine Al4.mk ?_; intro _ _ _ _; refine stpS ?_))
  refine W_loopF (fun d : Nat => [(0, I n), (3, I d)]) (fun _ => H) (fun d => 2 ≤ d ∧ d ≤ 300 ∧ ∀ e, 2 ≤ e → e < d → n % e ≠ 0) (fun d => 300 - d) 2 ⟨by omega, by omega, by intro e h1 h2; omega⟩ ⟨rfl, rfl, trivial⟩ (.refl H) ?_
  rintro d ⟨h1, h0, h2⟩
  have hdd : d * d ≤ 300 * 300 := Nat.mul_le_mul h0 h0
  have hm : ((d : Nat) : Int) * (d : Int) = ((d * d : Nat) : Int) := (Int.natCast_mul _ _).symm
  have hge : d ≤ d * d := Nat.le_mul_self d
  by_cases hd : d * d ≤ n
  · by_cases hr : n % d = 0
    · have hr' : (n : Int) % (d : Int) = 0 := by rw [← Int.natCast_emod, hr]; rfl
      (refine stpS ?_; repeat (refine Al4.mk ?_; intro _ _ _ _; refine stpS ?_))
      refine ⟨?_, rfl⟩
      have : ¬ Prime n := fun hp => hp.2 d h1 (by
        have : 2 * d ≤ d * d := Nat.mul_le_mul_right _ h1
        omega) hr
      rw [decide_eq_false this]; rfl
    · have hr' : (n : Int) % (d : Int) ≠ 0 := fun h => hr (by rw [← Int.natCast_emod] at h; exact Int.ofNat.inj h)
      (refine stpS ?_; repeat (refine Al4.mk ?_; intro _ _ _ _; refine stpS ?_))
      refine ⟨d + 1, ⟨by omega, by omega, ?_⟩, by omega, ⟨rfl, rfl, trivial⟩, .refl H⟩
      intro e he1 he2
      by_cases h : e = d
      · subst h; exact hr
      · exact h2 e he1 (by omega)
  · by_cases hn2 : 2 ≤ n
    · (refine stpS ?_; repeat (refine Al4.mk ?_; intro _ _ _ _; refine stpS ?_))
      refine ⟨?_, rfl⟩
      have : Prime n := ⟨hn2, fun e he1 he2 h => by
        have hc : n / e * e = n := Nat.div_mul_cancel (Nat.dvd_of_mod_eq_zero h)
        have hc2 : 2 ≤ n / e := by
          rcases Nat.lt_or_ge (n / e) 2 with h3 | h3
          · have : n / e * e ≤ 1 * e := Nat.mul_le_mul_right _ (by omega)
            omega
          · exact h3
        have hed : d ≤ e := Nat.le_of_not_lt fun hlt => h2 e he1 hlt h
        have hcd : d ≤ n / e := Nat.le_of_not_lt fun hlt => h2 (n / e) hc2 hlt (Nat.mod_eq_zero_of_dvd ⟨e, hc.symm⟩)
        have : d * d ≤ n / e * e := Nat.mul_le_mul hcd hed
        omega⟩
      rw [decide_eq_true this]; rfl
    · (refine stpS ?_; repeat (refine Al4.mk ?_; intro _ _ _ _; refine stpS ?_))
      refine ⟨?_, rfl⟩
      have : ¬ Prime n := fun h => hn2 h.1
      rw [decide_eq_false this]; rfl

/-- a list of numbers kept by a function -/
def tabN (n : Nat) (f : Nat → Nat) : List AV := (List.range n).map fun x => I (f x)
theorem tabN_len (n : Nat) (f : Nat → Nat) : (tabN n f).length = n := by simp [tabN]
theorem tabN_get {n x : Nat} (f : Nat → Nat) (h : x < n) : (tabN n f)[x]? = some (I (f x)) := by simp [tabN, h]
theorem tabN_rep (n : Nat) : List.replicate n (AV.i .i64 0) = tabN n fun _ => 0 := by simp [tabN, List.map_const']
theorem tabN_congr {n : Nat} {f g : Nat → Nat} (h : ∀ i, i < n → f i = g i) : tabN n f = tabN n g := by
  unfold tabN
  exact List.map_congr_left fun i hi => by rw [h i (List.mem_range.mp hi)]
theorem tabN_set {n x : Nat} (f : Nat → Nat) (c : Nat) (h : x < n) : (tabN n f).set x (I c) = tabN n fun y => if y = x then c else f y := by
  apply List.ext_getElem?
  intro y
  rw [List.getElem?_set]
  by_cases hy : y < n
  · rw [tabN_get _ hy, tabN_get _ hy, tabN_len]
    by_cases e : x = y
    · subst e; simp [h]
    · rw [if_neg e, if_neg (Ne.symm e)]
  · rw [List.getElem?_eq_none (by rw [tabN_len]; omega), tabN_len]
    by_cases e : x = y
    · omega
    · rw [if_neg e, List.getElem?_eq_none (by rw [tabN_len]; omega)]
theorem tabN_rd {H : AH} {sid n x : Nat} {f : Nat → Nat} {rw sz} (h : H sid = some ⟨tabN n f, rw, sz⟩) (hx : x < n) : rdc H sid x = some (I (f x)) := by
  unfold rdc
  rw [h]
  exact tabN_get _ hx

theorem HLe.tabN {H : AH} {id m : Nat} {f g : Nat → Nat} (h : ∀ i, i < m → f i = g i) : HLe (upd H id ⟨Go.Proofs.Ytdkdainipanacaa.tabN m f, true, 1⟩) (upd H id ⟨Go.Proofs.Ytdkdainipanacaa.tabN m g, true, 1⟩) := by
  rw [tabN_congr h]; exact .refl _
theorem digitsOf_calls {x p m : Nat} (hx : x ≤ 1000000) (hp : 1 ≤ p) (hp2 : p ≤ 1000000) (hm : m ≤ 1000000) (H : AH) :
    ACalls Try.prog n_field_digitsOf [I x, I p, I m] H (fun r H' => ∃ id, r = .s id 0 m ∧ H id = none ∧ HLe (upd H id ⟨tabN m (dig p x), true, 1⟩) H') := by
  refine calls_of F_field_digitsOf hmix (by show 3 ≤ 27; decide) ?_
  unfold s_field_digitsOf
  (refine stpT ?_; repeat (refine Al4.mk ?_; intro _ _ _ _; refine stpT ?_))
  refine mK (by_ := 8) (m := m) (l := m) rfl rfl (by omega) (by omega) (by omega) (by omega) ?_
  intro id hid
  rw [Int.toNat_natCast, tabN_rep]
  (refine stpT ?_; repeat (refine Al4.mk ?_; intro _ _ _ _; refine stpT ?_))
  refine W_loopF (X := Nat) (fun i => [(0, I (x / p ^ i : Nat)), (1, I p), (7, .s id 0 m), (12, I m), (13, I i)]) (fun i => upd H id ⟨tabN m fun j => if j < i then dig p x j else 0, true, 1⟩)
    (fun i => i ≤ m) (fun i => m - i) 0 (by omega) ⟨by rw [Nat.pow_zero, Nat.div_one]; rfl, rfl, rfl, rfl, rfl, trivial⟩ ?_ ?_
  · exact HLe.tabN fun i _ => if_neg (by omega)
  intro i hi
  by_cases him : i < m
  · have hpi : 0 < p ^ i := Nat.pow_pos (by omega)
    have hle : x / p ^ i ≤ x := Nat.div_le_self _ _
    (refine stpT ?_; repeat (refine Al4.mk ?_; intro _ _ _ _; refine stpT ?_))
    refine sV (v := I ((x / p ^ i % p : Nat) : Int)) rfl (upd_same _ _ _) rfl rfl (by rw [tabN_len]; omega) ?_
    rw [tabN_set _ _ him, upd_upd]
    (refine stpT ?_; repeat (refine Al4.mk ?_; intro _ _ _ _; refine stpT ?_))
    refine ⟨i + 1, him, by omega, ⟨?_, rfl, rfl, rfl, rfl, trivial⟩, ?_⟩
    · rw [Nat.pow_succ, ← Nat.div_div_eq_div_mul]; rfl
    · refine HLe.tabN fun j hj => ?_
      by_cases e : j = i
      · subst e; rw [if_pos (by omega), if_pos rfl]; rfl
      · rw [if_neg e]
        by_cases h2 : j < i
        · rw [if_pos h2, if_pos (by omega)]
        · rw [if_neg h2, if_neg (by omega)]
  · (refine stpT ?_; repeat (refine Al4.mk ?_; intro _ _ _ _; refine stpT ?_))
    refine ⟨id, rfl, hid, ?_⟩
    exact HLe.tabN fun j hj => (if_pos (by omega)).symm

/-- Horner's way to the number of digits -/
theorem valN_front (p : Nat) (d : Nat → Nat) (m : Nat) : valN p d (m + 1) = valN p (fun i => d (i + 1)) m * p + d 0 := by
  induction m with
  | zero => simp [valN]
  | succ m ih =>
    show valN p d (m + 1) + d (m + 1) * p ^ (m + 1) = (valN p (fun i => d (i + 1)) m + d (m + 1) * p ^ m) * p + d 0
    rw [ih, Nat.add_mul, Nat.pow_succ, Nat.mul_assoc]; omega

theorem valueOf_calls {p m : Nat} {f : Nat → Nat} {id : Nat} {rw : Bool} (hp : 1 ≤ p) (hf : ∀ i, i < m → f i < p) (hpm : p ^ m ≤ 1000000) (hm : m ≤ 1000000) {H : AH} (ho : H id = some ⟨tabN m f, rw, 1⟩) :
    ACalls Try.prog n_field_valueOf [.s id 0 m, I p] H (fun r H' => r = I (valN p f m : Nat) ∧ H' = H) := by
  refine calls_of F_field_valueOf hmix (by show 2 ≤ 23; decide) ?_
  unfold s_field_valueOf
  (refine stpT ?_; repeat (refine Al4.mk ?_; intro _ _ _ _; refine stpT ?_))
  refine W_loopF (X := Nat) (fun k => [(0, .s id 0 m), (1, I p), (5, I (valN p (fun i => f (i + k)) (m - k) : Nat)), (6, I ((k : Int) - 1))]) (fun _ => H)
    (fun k => k ≤ m) (fun k => k) m (by omega) ⟨rfl, rfl, by rw [Nat.sub_self]; rfl, rfl, trivial⟩ (.refl H) ?_
  intro k hk
  cases k with
  | zero =>
    (refine stpT ?_; repeat (refine Al4.mk ?_; intro _ _ _ _; refine stpT ?_))
    exact ⟨rfl, rfl⟩
  | succ k =>
    have hrd := tabN_rd ho (show k < m by omega)
    have hlt : valN p (fun i => f (i + (k + 1))) (m - (k + 1)) < p ^ (m - (k + 1)) := valN_lt fun i hi => hf _ (by omega)
    have hlt2 : p ^ (m - (k + 1)) ≤ p ^ m := Nat.pow_le_pow_right hp (by omega)
    have hstep : valN p (fun i => f (i + k)) (m - k) = valN p (fun i => f (i + (k + 1))) (m - (k + 1)) * p + f k := by
      rw [show m - k = m - (k + 1) + 1 by omega, valN_front]
      congr 3
      · funext i; congr 1; omega
      · rw [Nat.zero_add]
    have hlt3 : valN p (fun i => f (i + k)) (m - k) < p ^ (m - k) := valN_lt fun i hi => hf _ (by omega)
    have hlt4 : p ^ (m - k) ≤ p ^ m := Nat.pow_le_pow_right hp (by omega)
    have e1 : ((k + 1 : Nat) : Int) - 1 = (k : Int) := by omega
    rw [e1]
    (refine stpT ?_; repeat (refine Al4.mk ?_; intro _ _ _ _; refine stpT ?_))
    refine ⟨k, by omega, by omega, ⟨rfl, rfl, ?_, rfl, trivial⟩, .refl H⟩
    rw [hstep]; rfl


end Go.Proofs.Ytdkdainipanacaa
namespace Go.Proofs.Ytdkdainipanacaa
open Go Go.RowKit Alg
set_option linter.unusedSimpArgs false
set_option linter.unusedVariables false
set_option linter.constructorNameAsVariable false
attribute [local irreducible] aopL W

/-- the description's ranges -/
structure Alg.Desc.Small (D : Desc) : Prop where
  p256 : D.p ≤ 256
  m8 : D.m ≤ 8
  q256 : D.q ≤ 256
  lows : ∀ i, i < D.m → low D i < D.p
  one : D.m = 1 → ∀ i, low D i = 0
/-- the field's description in memory -/
def ModS (H : AH) (D : Desc) (vm : AV) : Prop := 1 < D.m → Cs H vm (tabN D.m (low D))
theorem ModS.mono {H H' : AH} {D : Desc} {vm : AV} (hl : HLe H H') (h : ModS H D vm) : ModS H' D vm := fun h1 => (h h1).mono hl

theorem tabN_up {m : Nat} (h1 : 1 ≤ m) (o : Nat → Nat) : splice (tabN m o) 1 ((tabN m o).take (m - 1)) = tabN m fun j => if j = 0 then o 0 else o (j - 1) := by
  apply List.ext_getElem?
  intro j
  rw [splice_get _ _ _ (by simp [tabN_len]; omega)]
  by_cases hj : j < m
  · by_cases h0 : j = 0
    · subst h0
      rw [if_neg (by omega), tabN_get o hj, tabN_get _ hj, if_pos rfl]
    · rw [if_pos (by simp [tabN_len]; omega), List.getElem?_take, if_pos (by omega), tabN_get _ (by omega), tabN_get _ hj, if_neg h0]
  · rw [if_neg (by simp [tabN_len]; omega), List.getElem?_eq_none (by rw [tabN_len]; omega), List.getElem?_eq_none (by rw [tabN_len]; omega)]

set_option maxHeartbeats 4000000 in
theorem multiply_calls {D : Desc} [Desc.Ok D] (hD : D.Small) (x y : El D) {vm : AV} {H : AH} (hM : ModS H D vm) :
    ACalls Try.prog n_field_multiply [.ag [I D.p, I D.m, vm], I x.v, I y.v] H (fun r H' => r = I (x * y).v ∧ HLe H H') := by
  have hp2 := Two.two (p := D.p)
  have hm1 := Desc.Ok.m1 (D := D)
  have hp := hD.p256
  have hm8 := hD.m8
  have hq := hD.q256
  have hxl := x.lt
  have hyl := y.lt
  refine calls_of F_field_multiply hmix (by show 3 ≤ 97; decide) ?_
  unfold s_field_multiply
  (refine stpT ?_; repeat (refine Al4.mk ?_; intro _ _ _ _; refine stpT ?_))
  refine bX rfl ?_
  intro bid hbid
  have f0 : rdc (upd H bid ⟨[I D.p, I D.m, vm], true, 0⟩) bid 0 = some (I D.p) := rdc_of (upd_same _ _ _) rfl
  have f1 : rdc (upd H bid ⟨[I D.p, I D.m, vm], true, 0⟩) bid 1 = some (I D.m) := rdc_of (upd_same _ _ _) rfl
  have f2 : rdc (upd H bid ⟨[I D.p, I D.m, vm], true, 0⟩) bid 2 = some vm := rdc_of (upd_same _ _ _) rfl
  have hl1 : HLe H (upd H bid ⟨[I D.p, I D.m, vm], true, 0⟩) := .upd_new hbid _
  generalize upd H bid ⟨[I D.p, I D.m, vm], true, 0⟩ = H1 at *
  (refine stpT ?_; repeat (refine Al4.mk ?_; intro _ _ _ _; refine stpT ?_))
  refine cAt (digitsOf_calls (x := x.v) (p := D.p) (m := D.m) (by omega) (by omega) (by omega) (by omega) _) ?_
  rintro _ H2 ⟨aid, rfl, ha, hl2⟩
  have hl12 : HLe H1 H2 := (HLe.upd_new ha _).trans hl2
  refine ⟨hl12, ?_⟩
  have ga : H2 aid = some ⟨tabN D.m (dig D.p x.v), true, 1⟩ := hl2 _ _ (upd_same _ _ _)
  (refine stpT ?_; repeat (refine Al4.mk ?_; intro _ _ _ _; refine stpT ?_))
  refine cAt (digitsOf_calls (x := y.v) (p := D.p) (m := D.m) (by omega) (by omega) (by omega) (by omega) _) ?_
  rintro _ H3 ⟨yid, rfl, hy, hl3⟩
  have hl23 : HLe H2 H3 := (HLe.upd_new hy _).trans hl3
  refine ⟨hl23, ?_⟩
  have gb : H3 yid = some ⟨tabN D.m (dig D.p y.v), true, 1⟩ := hl3 _ _ (upd_same _ _ _)
  replace ga := hl23 _ _ ga
  have hl13 := hl12.trans hl23
  replace f0 := rdc_mono hl13 f0
  replace f1 := rdc_mono hl13 f1
  replace f2 := rdc_mono hl13 f2
  have hM3 := hM.mono (hl1.trans hl13)
  have hHH := hl1.trans hl13
  clear hl2 hl3 hl12 hl23 hl1 hl13
  (refine stpT ?_; repeat (refine Al4.mk ?_; intro _ _ _ _; refine stpT ?_))
  refine mK (by_ := 8) (m := D.m) (l := D.m) rfl rfl (by omega) (by omega) (by omega) (by omega) ?_
  intro oid hoid
  rw [Int.toNat_natCast, tabN_rep]
  have f0' : ∀ o : Nat → Nat, rdc (upd H3 oid ⟨tabN D.m o, true, 1⟩) bid 0 = some (I D.p) := fun o => rdc_mono (.upd_new hoid _) f0
  have f1' : ∀ o : Nat → Nat, rdc (upd H3 oid ⟨tabN D.m o, true, 1⟩) bid 1 = some (I D.m) := fun o => rdc_mono (.upd_new hoid _) f1
  have f2' : ∀ o : Nat → Nat, rdc (upd H3 oid ⟨tabN D.m o, true, 1⟩) bid 2 = some vm := fun o => rdc_mono (.upd_new hoid _) f2
  have g0 := f0' fun _ => 0
  have g1 := f1' fun _ => 0
  (refine stpT ?_; repeat (refine Al4.mk ?_; intro _ _ _ _; refine stpT ?_))
  refine W_loopF (X := Nat × (Nat → Nat)) (fun z => [(3, .p bid 0), (7, .s aid 0 D.m), (8, .s yid 0 D.m), (9, .s oid 0 D.m), (10, I ((z.1 : Int) - 1))]) (fun z => upd H3 oid ⟨tabN D.m z.2, true, 1⟩)
    (fun z => z.1 ≤ D.m ∧ (∀ i, i < D.m → z.2 i < D.p) ∧ Cong D.f (pf D z.2) (pf D (dig D.p x.v) * tailP D (dig D.p y.v) z.1)) (fun z => z.1) (D.m, fun _ => 0) ?_ ⟨rfl, rfl, rfl, rfl, congrArg I (show ((D.m - 1 : Nat) : Int) = (D.m : Int) - 1 by omega), trivial⟩ (.refl _) ?_
  · refine ⟨Nat.le_refl _, fun i hi => by dsimp only; omega, ?_⟩
    dsimp only
    rw [tailP_m, mul_zero]
    have : pf D (fun _ => 0) = 0 := Poly.ext fun i => by
      rw [pf_c, zero_c]
      split
      · exact ofN_zero
      · rfl
    rw [this]; exact .refl _ _
  rintro ⟨k, o⟩ ⟨hk, ho, hc⟩
  dsimp only at hk ho hc ⊢
  have g0 := f0' o
  have g1 := f1' o
  have hb := Nat.pow_le_pow_right (n := D.p) (by omega) hm1
  cases k with
  | zero =>
    (refine stpT ?_; repeat (refine Al4.mk ?_; intro _ _ _ _; refine stpT ?_))
    refine cA (valueOf_calls (p := D.p) (m := D.m) (f := o) (by omega) ho (by have : D.p ^ D.m = D.q := rfl; omega) (by omega) (upd_same _ _ _)) ?_
    rintro _ H4 ⟨rfl, rfl⟩
    (refine stpT ?_; repeat (refine Al4.mk ?_; intro _ _ _ _; refine stpT ?_))
    exact ⟨by rw [horner_end ho hc]; rfl, hHH.trans (.upd_new hoid _)⟩
  | succ k =>
    have e1 : ((k + 1 : Nat) : Int) - 1 = (k : Int) := by omega
    rw [e1]
    have gt := tabN_rd (upd_same H3 oid ⟨tabN D.m o, true, 1⟩) (show D.m - 1 < D.m by omega)
    have htop := ho (D.m - 1) (by omega)
    (refine stpT ?_; repeat (refine Al4.mk ?_; intro _ _ _ _; refine stpT ?_))
    refine iX0 (m := D.m - 1) rfl rfl (by omega) ?_
    (refine stpT ?_; repeat (refine Al4.mk ?_; intro _ _ _ _; refine stpT ?_))
    refine sLo (l := 1) rfl (upd_same _ _ _) rfl rfl (by omega) ?_
    (refine stpT ?_; repeat (refine Al4.mk ?_; intro _ _ _ _; refine stpT ?_))
    refine sHi (r := D.m - 1) rfl (upd_same _ _ _) rfl rfl (by omega) ?_
    refine cpUp rfl rfl (upd_same _ _ _) (tabN_len _ _) (by omega) ?_
    rw [tabN_up (by omega), upd_upd]
    (refine stpT ?_; repeat (refine Al4.mk ?_; intro _ _ _ _; refine stpT ?_))
    refine sV (off := 0) (v := I ((0 : Nat) : Int)) rfl (upd_same _ _ _) rfl rfl (by rw [tabN_len]; omega) ?_
    rw [tabN_set (x := 0) _ _ (show 0 < D.m by omega), upd_upd]
    obtain ⟨sh, hsh⟩ : ∃ sh : Nat → Nat, ∀ i, sh i = if i = 0 then 0 else o (i - 1) := ⟨_, fun _ => rfl⟩
    obtain ⟨nw, hnw⟩ : ∃ nw : Nat → Nat, ∀ i, nw i = (sh i + (D.p - o (D.m - 1)) * low D i + dig D.p y.v k * dig D.p x.v i) % D.p := ⟨_, fun _ => rfl⟩
    rw [show (tabN D.m fun y => if y = 0 then 0 else (fun j => if j = 0 then o 0 else o (j - 1)) y) = tabN D.m sh from tabN_congr fun i _ => by
      rw [hsh]
      show (if i = 0 then 0 else if i = 0 then o 0 else o (i - 1)) = _
      by_cases h : i = 0
      · rw [if_pos h, if_pos h]
      · rw [if_neg h, if_neg h, if_neg h]]
    have hshl : ∀ i, i < D.m → sh i < D.p := fun i hi => by
      rw [hsh]
      by_cases h : i = 0
      · rw [if_pos h]; omega
      · rw [if_neg h]; exact ho _ (by omega)
    have g2 := f1' sh
    (refine stpT ?_; repeat (refine Al4.mk ?_; intro _ _ _ _; refine stpT ?_))
    have htl : D.p - o (D.m - 1) ≤ 256 := by omega
    refine W_loopF (X := Nat) (fun j => [(3, .p bid 0), (7, .s aid 0 D.m), (8, .s yid 0 D.m), (9, .s oid 0 D.m), (10, I k), (11, I (o (D.m - 1))), (53, I D.m), (54, I j)])
      (fun j => upd H3 oid ⟨tabN D.m fun i => if i < j then nw i else sh i, true, 1⟩)
      (fun j => j ≤ D.m) (fun j => D.m - j) 0 (Nat.zero_le _) ⟨rfl, rfl, rfl, rfl, rfl, rfl, rfl, rfl, trivial⟩ (HLe.tabN fun i _ => if_neg (by omega)) ?_
    intro j hj
    by_cases hjm : j < D.m
    · have hset : (tabN D.m (fun i => if i < j then nw i else sh i)).set j (I (nw j)) = tabN D.m (fun i => if i < j + 1 then nw i else sh i) := by
        rw [tabN_set _ _ hjm]
        refine tabN_congr fun i _ => ?_
        by_cases e : i = j
        · subst e; rw [if_pos rfl, if_pos (by omega)]
        · rw [if_neg e]
          by_cases h : i < j
          · rw [if_pos h, if_pos (by omega)]
          · rw [if_neg h, if_neg (by omega)]
      have q3 := tabN_rd (upd_same H3 oid ⟨tabN D.m (fun i => if i < j then nw i else sh i), true, 1⟩) hjm
      rw [if_neg (Nat.lt_irrefl j)] at q3
      have hle := HLe.upd_new hoid ⟨tabN D.m (fun i => if i < j then nw i else sh i), true, 1⟩
      have q0 := rdc_mono hle f0
      have q1 := rdc_mono hle f1
      have q2 := rdc_mono hle f2
      have qa := rdc_mono hle (tabN_rd ga hjm)
      have qb := rdc_mono hle (tabN_rd gb (show k < D.m by omega))
      have hMj := hM3.mono hle
      have hlow := hD.lows j hjm
      have hsl := hshl j hjm
      have hda : dig D.p x.v j < D.p := Nat.mod_lt _ (by omega)
      have hdb : dig D.p y.v k < D.p := Nat.mod_lt _ (by omega)
      have hb1 : (D.p - o (D.m - 1)) * low D j ≤ 256 * 256 := Nat.mul_le_mul htl (by omega)
      have hb2 : dig D.p y.v k * dig D.p x.v j ≤ 256 * 256 := Nat.mul_le_mul (by omega) (by omega)
      by_cases hm2 : 1 < D.m
      · have hCj := hMj hm2
        have hwj := tabN_get (low D) hjm
        (refine stpT ?_; repeat (refine Al4.mk ?_; intro _ _ _ _; refine stpT ?_))
        refine sV (off := j) (v := I (nw j)) rfl (upd_same _ _ _) (by rw [hnw]; rfl) rfl (by rw [tabN_len]; omega) ?_
        rw [hset, upd_upd]
        (refine stpT ?_; repeat (refine Al4.mk ?_; intro _ _ _ _; refine stpT ?_))
        exact ⟨j + 1, hjm, by omega, ⟨rfl, rfl, rfl, rfl, rfl, rfl, rfl, rfl, trivial⟩, .refl _⟩
      · have hl0 := hD.one (by omega) j
        have hv : (nw j : Int) = ((sh j : Int) + ((D.p - o (D.m - 1) : Nat) : Int) * 0 + ((dig D.p y.v k * dig D.p x.v j : Nat) : Int)) % (D.p : Int) := by
          rw [hnw, hl0, Nat.mul_zero, Int.mul_zero, Int.natCast_emod, Int.natCast_add, Int.natCast_add]; rfl
        (refine stpT ?_; repeat (refine Al4.mk ?_; intro _ _ _ _; refine stpT ?_))
        refine sV (off := j) (v := I (nw j)) rfl (upd_same _ _ _) (by rw [hv]; rfl) rfl (by rw [tabN_len]; omega) ?_
        rw [hset, upd_upd]
        (refine stpT ?_; repeat (refine Al4.mk ?_; intro _ _ _ _; refine stpT ?_))
        exact ⟨j + 1, hjm, by omega, ⟨rfl, rfl, rfl, rfl, rfl, rfl, rfl, rfl, trivial⟩, .refl _⟩
    · (refine stpT ?_; repeat (refine Al4.mk ?_; intro _ _ _ _; refine stpT ?_))
      refine ⟨(k, nw), ⟨by omega, fun i _ => by show nw i < _; rw [hnw]; exact Nat.mod_lt _ (by omega), horner_one (by omega) ho hc fun j _ => by show nw j % _ = _; rw [hnw, Nat.mod_mod, hsh]⟩, Nat.lt_succ_self _, ⟨rfl, rfl, rfl, rfl, rfl, trivial⟩, HLe.tabN fun i hi => (if_pos (by omega)).symm⟩

end Go.Proofs.Ytdkdainipanacaa
