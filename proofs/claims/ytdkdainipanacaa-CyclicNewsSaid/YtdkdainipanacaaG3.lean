/- Contracts of the field package's powers and generator. Condition: the description's P and M are in range and the entries of Mod, too. · Contracts of the reference's Order, prime, digits, divides and irreducible. Condition: the arguments lie in the given ranges. -/
import Derived.Test.YtdkdainipanacaaG1
import Derived.Test.YtdkdainipanacaaXD
import Derived.Test.YtdkdainipanacaaXM
namespace Go.Proofs.Ytdkdainipanacaa
open Go Go.RowKit Alg
set_option linter.unusedSimpArgs false
set_option linter.unusedVariables false
set_option linter.constructorNameAsVariable false
attribute [local irreducible] aopL W

/-- the powers of x end at k: the next is zero or one of them -/
def Stop {D : Desc} [Desc.Ok D] (x : El D) (k : Nat) : Prop := pw x k = 0 ∨ ∃ i, i < k ∧ pw x k = pw x i
noncomputable def pws {D : Desc} [Desc.Ok D] (x : El D) (k : Nat) : List AV := tabN k fun i => (pw x i).v

/-- marks, as the program keeps them -/
def marks (n : Nat) (f : Nat → Bool) : List AV := (List.range n).map fun x => AV.b (f x)
theorem marks_len (n : Nat) (f : Nat → Bool) : (marks n f).length = n := by simp [marks]
theorem marks_get {n x : Nat} (f : Nat → Bool) (h : x < n) : (marks n f)[x]? = some (.b (f x)) := by simp [marks, h]
theorem marks_rep (n : Nat) : List.replicate n (AV.b false) = marks n fun _ => false := by
  simp [marks, List.map_const']
theorem marks_set {n x : Nat} (f : Nat → Bool) (h : x < n) : (marks n f).set x (.b true) = marks n fun y => f y || y == x := by
  apply List.ext_getElem?
  intro y
  rw [List.getElem?_set]
  by_cases hy : y < n
  · rw [marks_get _ hy, marks_get _ hy, marks_len]
    by_cases e : x = y
    · subst e; simp [h]
    · rw [if_neg e]; simp [Ne.symm e]
  · rw [List.getElem?_eq_none (by rw [marks_len]; omega), marks_len]
    by_cases e : x = y
    · omega
    · rw [if_neg e, List.getElem?_eq_none (by rw [marks_len]; omega)]
theorem seen_rd {H : AH} {sid n x : Nat} {f : Nat → Bool} (h : H sid = some ⟨marks n f, true, 1⟩) (hx : x < n) : rdc H sid x = some (.b (f x)) := by
  unfold rdc
  rw [h]
  exact marks_get _ hx

noncomputable def mkP {D : Desc} [Desc.Ok D] (x : El D) (k : Nat) (y : Nat) : Bool := (List.range k).any fun i => y == (pw x i).v
theorem mkP_true {D : Desc} [Desc.Ok D] {x : El D} {k y : Nat} : mkP x k y = true ↔ ∃ i, i < k ∧ y = (pw x i).v := by simp [mkP]
theorem mkP_succ {D : Desc} [Desc.Ok D] (x : El D) (k : Nat) : (fun y => mkP x k y || y == (pw x k).v) = mkP x (k + 1) := by
  funext y; simp [mkP, List.range_succ]
theorem pws_succ {D : Desc} [Desc.Ok D] (x : El D) (k : Nat) : pws x k ++ [I (pw x k).v] = pws x (k + 1) := by simp [pws, tabN, List.range_succ]
theorem pws_len {D : Desc} [Desc.Ok D] (x : El D) (k : Nat) : (pws x k).length = k := by simp [pws, tabN]

set_option maxHeartbeats 2000000 in
theorem powers_calls {D : Desc} [Desc.Ok D] (hD : D.Small) (x : El D) {vm : AV} {H : AH} (hM : ModS H D vm) :
    ACalls Try.prog n_field_powers [.ag [I D.p, I D.m, vm], I D.q, I x.v] H (fun r H' => ∃ k, 1 ≤ k ∧ Run x k ∧ Stop x k ∧ (∃ id, r = .s id 0 k) ∧ Cs H' r (pws x k) ∧ HLe H H') := by
  have hq := hD.q256
  have hq1 := q_gt (D := D)
  have hxl := x.lt
  refine calls_of F_field_powers hmix (by show 3 ≤ 37; decide) ?_
  unfold s_field_powers
  (refine stpT ?_; repeat (refine Al4.mk ?_; intro _ _ _ _; refine stpT ?_))
  refine bX rfl ?_
  intro bid hbid
  have fb := upd_same H bid ⟨[I D.p, I D.m, vm], true, 0⟩
  have hl1 : HLe H (upd H bid ⟨[I D.p, I D.m, vm], true, 0⟩) := .upd_new hbid _
  generalize upd H bid ⟨[I D.p, I D.m, vm], true, 0⟩ = H1 at *
  (refine stpT ?_; repeat (refine Al4.mk ?_; intro _ _ _ _; refine stpT ?_))
  refine bK ?_
  intro kid hkid
  (refine stpT ?_; repeat (refine Al4.mk ?_; intro _ _ _ _; refine stpT ?_))
  refine mK (by_ := 1) (m := D.q) (l := D.q) rfl rfl (by omega) (by omega) (by omega) (by omega) ?_
  intro sid hsid
  rw [Int.toNat_natCast, marks_rep]
  obtain ⟨hne, hs1⟩ := upd_none hsid
  (refine stpT ?_; repeat (refine Al4.mk ?_; intro _ _ _ _; refine stpT ?_))
  refine sV (off := 1) (v := .b true) rfl (upd_same _ _ _) rfl rfl (by rw [marks_len]; omega) ?_
  rw [marks_set _ (by omega), upd_upd]
  (refine stpT ?_; repeat (refine Al4.mk ?_; intro _ _ _ _; refine stpT ?_))
  have hv1 : (fun y => false || y == 1) = mkP x 1 := by
    funext y
    simp only [mkP, List.range_one, List.any_cons, List.any_nil, Bool.or_false, Bool.false_or]
    rfl
  rw [hv1]
  have e0 : pw x 1 = x := pw_one x
  have hks : kid ≠ sid := fun e => hne e.symm
  have hs2 : H1 sid = none := hs1
  refine W_loopF (X := Nat × Nat) (fun z => [(2, I x.v), (3, .p bid 0), (7, .s z.2 0 z.1), (8, .s sid 0 D.q), (9, I (pw x z.1).v)])
    (fun z => hpO (upd H1 sid ⟨marks D.q (mkP x z.1), true, 1⟩) (.s z.2 0 z.1) (pws x z.1))
    (fun z => 1 ≤ z.1 ∧ Run x z.1 ∧ OwnS (upd H1 sid ⟨marks D.q (mkP x z.1), true, 1⟩) (.s z.2 0 z.1) (pws x z.1)) (fun z => D.q - z.1) (1, kid) ?_ ?_ ?_ ?_
  · refine ⟨Nat.le_refl _, ⟨fun i hi => ?_, fun i j h1 h2 => by omega⟩, ?_⟩
    · rw [show i = 0 by omega]; exact el_one_ne
    · exact .sl (by rw [upd_ne _ _ hks]; exact hkid) (pws_len x 1)
  · exact ⟨rfl, rfl, rfl, rfl, by rw [e0]; rfl, trivial⟩
  · show HLe (upd (upd H1 sid _) kid _) _
    rw [upd_comm _ hks]; exact .refl _
  rintro ⟨k, id⟩ ⟨h1, hR, hO⟩
  dsimp only at h1 hR hO ⊢
  have hkq := run_bound hR
  have hyl := (pw x k).lt
  have hsd := seen_rd (hpO_get hO (upd_same _ _ _)) hyl
  have hend : Stop x k → HLe H (hpO (upd H1 sid ⟨marks D.q (mkP x k), true, 1⟩) (.s id 0 k) (pws x k)) ∧ Cs (hpO (upd H1 sid ⟨marks D.q (mkP x k), true, 1⟩) (.s id 0 k) (pws x k)) (.s id 0 k) (pws x k) := fun _ =>
    ⟨(hl1.trans (.upd_new hs2 _)).trans hO.hle, hO.cs⟩
  by_cases hz : pw x k = 0
  · have hz' : (pw x k).v = 0 := by rw [hz]; rfl
    (refine stpT ?_; repeat (refine Al4.mk ?_; intro _ _ _ _; refine stpT ?_))
    have hS : Stop x k := .inl hz
    exact ⟨k, h1, hR, hS, ⟨id, rfl⟩, (hend hS).2, (hend hS).1⟩
  have hz' : (pw x k).v ≠ 0 := fun e => hz (El.ext e)
  cases hm : mkP x k (pw x k).v with
  | true =>
    rw [hm] at hsd
    (refine stpT ?_; repeat (refine Al4.mk ?_; intro _ _ _ _; refine stpT ?_))
    obtain ⟨i, hi, e⟩ := mkP_true.mp hm
    have hS : Stop x k := .inr ⟨i, hi, El.ext e⟩
    exact ⟨k, h1, hR, hS, ⟨id, rfl⟩, (hend hS).2, (hend hS).1⟩
  | false =>
    rw [hm] at hsd
    have hno : ∀ i, i < k → pw x i ≠ pw x k := fun i hi e => by
      have : mkP x k (pw x k).v = true := mkP_true.mpr ⟨i, hi, by rw [e]⟩
      rw [hm] at this; cases this
    have hR' : Run x (k + 1) := by
      refine ⟨fun i hi => ?_, fun i j h2 h3 => ?_⟩
      · by_cases e : i = k
        · rw [e]; exact hz
        · exact hR.1 i (by omega)
      · by_cases e : j = k
        · rw [e]; exact hno i (by omega)
        · exact hR.2 i j h2 (by omega)
    (refine stpT ?_; repeat (refine Al4.mk ?_; intro _ _ _ _; refine stpT ?_))
    refine sV (off := (pw x k).v) (v := .b true) rfl (hpO_get hO (upd_same _ _ _)) rfl rfl (by rw [marks_len]; omega) ?_
    rw [marks_set _ hyl, mkP_succ, hpO_upd hO]
    have hO' : OwnS (upd H1 sid ⟨marks D.q (mkP x (k + 1)), true, 1⟩) (.s id 0 k) (pws x k) := hO.same
    have hfb : upd H1 sid ⟨marks D.q (mkP x (k + 1)), true, 1⟩ bid = some ⟨[I D.p, I D.m, vm], true, 0⟩ := HLe.upd_new hs2 _ _ _ fb
    have hMG := hM.mono (hl1.trans (.upd_new hs2 ⟨marks D.q (mkP x (k + 1)), true, 1⟩))
    have hpl := pws_len x k
    (refine stpT ?_; repeat (refine Al4.mk ?_; intro _ _ _ _; refine stpT ?_))
    refine ap1 (v := I (pw x k).v) rfl hO' rfl (by decide) rfl rfl (by decide) (by omega) ?_
    intro t i ht hi hit
    rw [pws_succ, hpl]
    have hle : HLe (upd H1 sid ⟨marks D.q (mkP x (k + 1)), true, 1⟩) (upd (upd (upd H1 sid ⟨marks D.q (mkP x (k + 1)), true, 1⟩) t ⟨[I (pw x k).v], true, 1⟩) i ⟨pws x (k + 1), true, 1⟩) :=
      (HLe.upd_new ht _).upd_of hi _
    (refine stpT ?_; repeat (refine Al4.mk ?_; intro _ _ _ _; refine stpT ?_))
    refine ldn_own rfl (hle _ _ hfb) rfl ?_
    (refine stpT ?_; repeat (refine Al4.mk ?_; intro _ _ _ _; refine stpT ?_))
    refine cA (multiply_calls hD (pw x k) x (hMG.mono hle)) ?_
    rintro _ H3 ⟨rfl, hl3⟩
    (refine stpT ?_; repeat (refine Al4.mk ?_; intro _ _ _ _; refine stpT ?_))
    refine ⟨(k + 1, i), ⟨by omega, hR', .sl hi (pws_len x (k + 1))⟩, by simp only; omega, ⟨rfl, rfl, rfl, rfl, rfl, trivial⟩, ?_⟩
    refine HLe.trans ?_ hl3
    exact (HLe.upd_new ht _).upd_both _ _

theorem gen_ne {D : Desc} [Desc.Ok D] {x : El D} (h : Gen x) : 1 ≤ x.v := by
  refine Nat.pos_of_ne_zero fun e => ?_
  have hx : x = 0 := El.ext e
  have hq := q_gt (D := D)
  have h2 := h.2
  rw [show D.q - 1 = D.q - 2 + 1 by omega, pw, hx, mul_zero] at h2
  exact el_one_ne h2.symm

set_option maxHeartbeats 2000000 in
theorem generator_calls {D : Desc} [Desc.Ok D] (hD : D.Small) {vm : AV} {H : AH} (hM : ModS H D vm) :
    ACalls Try.prog n_field_generator [.ag [I D.p, I D.m, vm], I D.q] H (fun r H' => HLe H H' ∧ ((r = .ns ∧ ¬ ∃ x : El D, Gen x) ∨ ∃ x : El D, Gen x ∧ (∃ id, r = .s id 0 (D.q - 1)) ∧ Cs H' r (pws x (D.q - 1)))) := by
  have hq := hD.q256
  have hq1 := q_gt (D := D)
  refine calls_of F_field_generator hmix (by show 2 ≤ 33; decide) ?_
  unfold s_field_generator
  (refine stpT ?_; repeat (refine Al4.mk ?_; intro _ _ _ _; refine stpT ?_))
  refine bX rfl ?_
  intro bid hbid
  have fb := upd_same H bid ⟨[I D.p, I D.m, vm], true, 0⟩
  have hl1 : HLe H (upd H bid ⟨[I D.p, I D.m, vm], true, 0⟩) := .upd_new hbid _
  generalize upd H bid ⟨[I D.p, I D.m, vm], true, 0⟩ = H1 at *
  have hM1 := hM.mono hl1
  (refine stpT ?_; repeat (refine Al4.mk ?_; intro _ _ _ _; refine stpT ?_))
  refine W_loopF (X := Nat) (fun i => [(1, I D.q), (2, .p bid 0), (5, I i)]) (fun _ => H1) (fun i => 1 ≤ i ∧ i ≤ D.q ∧ ∀ x : El D, x.v < i → ¬ Gen x) (fun i => D.q - i) 1 ⟨Nat.le_refl _, by omega, fun x hx h => by have := gen_ne h; omega⟩
    ⟨rfl, rfl, rfl, trivial⟩ (.refl _) ?_
  rintro i ⟨h1, h2, h3⟩
  by_cases hi : i < D.q
  · obtain ⟨x, rfl⟩ : ∃ x : El D, x.v = i := ⟨⟨i, hi⟩, rfl⟩
    (refine stpT ?_; repeat (refine Al4.mk ?_; intro _ _ _ _; refine stpT ?_))
    refine ldn_own rfl fb rfl ?_
    (refine stpT ?_; repeat (refine Al4.mk ?_; intro _ _ _ _; refine stpT ?_))
    refine cA (powers_calls hD x hM1) ?_
    rintro _ H2 ⟨k, hk1, hR, hS, ⟨id, rfl⟩, hC, hl2⟩
    have hkq := run_bound hR
    have fb2 := hl2 _ _ fb
    have hnext : (Gen x → False) → ∀ y : El D, y.v < x.v + 1 → ¬ Gen y := fun hx y hy hg => by
      by_cases e : y.v = x.v
      · rw [El.ext e] at hg; exact hx hg
      · exact h3 y (by omega) hg
    by_cases hk : k = D.q - 1
    · subst hk
      have hwj : (pws x (D.q - 1))[D.q - 2]? = some (I (pw x (D.q - 2)).v) := tabN_get _ (by omega)
      have hrd := (hC.rd hwj).2
      rw [show 0 + (D.q - 2) = 0 + ((D.q : Int) - 2).toNat * 1 by omega] at hrd
      (refine stpT ?_; repeat (refine Al4.mk ?_; intro _ _ _ _; refine stpT ?_))
      refine ldn_own rfl fb2 rfl ?_
      (refine stpT ?_; repeat (refine Al4.mk ?_; intro _ _ _ _; refine stpT ?_))
      refine cAt (multiply_calls hD (pw x (D.q - 2)) x (hM1.mono hl2)) ?_
      rintro _ H3 ⟨rfl, hl3⟩
      refine ⟨hl3, ?_⟩
      have e : pw x (D.q - 2) * x = pw x (D.q - 1) := by rw [show D.q - 1 = D.q - 2 + 1 by omega]; rfl
      rw [e]
      have hHH := hl1.trans (hl2.trans hl3)
      by_cases h1v : (pw x (D.q - 1)).v = 1
      · (refine stpT ?_; repeat (refine Al4.mk ?_; intro _ _ _ _; refine stpT ?_))
        exact ⟨hHH, .inr ⟨x, ⟨hR, El.ext h1v⟩, ⟨id, rfl⟩, hC.mono hl3⟩⟩
      · (refine stpT ?_; repeat (refine Al4.mk ?_; intro _ _ _ _; refine stpT ?_))
        refine ⟨x.v + 1, ⟨by omega, by omega, hnext fun hg => h1v (by rw [hg.2]; rfl)⟩, by omega, ⟨rfl, rfl, rfl, trivial⟩, hl2.trans hl3⟩
    · (refine stpT ?_; repeat (refine Al4.mk ?_; intro _ _ _ _; refine stpT ?_))
      refine ⟨x.v + 1, ⟨by omega, by omega, hnext fun hg => ?_⟩, by omega, ⟨rfl, rfl, rfl, trivial⟩, hl2⟩
      rcases hS with h | ⟨j, hj, h⟩
      · exact hg.1.1 k (by omega) h
      · exact hg.1.2 j k hj (by omega) h.symm
  · (refine stpT ?_; repeat (refine Al4.mk ?_; intro _ _ _ _; refine stpT ?_))
    exact ⟨hl1, .inl ⟨rfl, fun ⟨x, hx⟩ => h3 x (by have := x.lt; omega) hx⟩⟩

end Go.Proofs.Ytdkdainipanacaa
namespace Go.Proofs.Ytdkdainipanacaa
open Go Go.RowKit Alg
set_option linter.unusedSimpArgs false
set_option linter.unusedVariables false
set_option linter.constructorNameAsVariable false
attribute [local irreducible] aopL W

theorem powB_big {p : Int} (hp : 256 < p) : ∀ (k : Nat) (q : Int), 1 ≤ q → 1 ≤ k → powB p k q = 0
  | 0, q, h, h1 => by omega
  | k + 1, q, h, h1 => by
    have : 1 * p ≤ q * p := Int.mul_le_mul_of_nonneg_right h (by omega)
    rw [powB, if_pos (by omega)]
theorem ordS_eq (p m : Int) (hp : ¬ p < 2) (hm : ¬ m < 1) (hm8 : ¬ 8 < m) : ordS p m = powB p m.toNat 1 := by
  by_cases h : 256 < p
  · rw [powB_big h _ _ (by omega) (by omega)]
    simp [ordS, h]
  · simp [ordS, h, hp, hm, hm8]
theorem quo_lt {q p : Int} (hp : 0 < p) : 256 / p < q ↔ 256 < q * p := by
  rw [Int.ediv_lt_iff_lt_mul hp]

set_option maxHeartbeats 1000000 in
theorem r04_Order_calls (p m : Int) (vm : AV) (H : AH) : ACalls Try.prog n_r04_Order [.ag [I p, I m, vm]] H (fun r H' => r = I (ordS p m) ∧ HLe H H') := by
  refine calls_of F_r04_Order hmix (by show 1 ≤ 34; decide) ?_
  unfold s_r04_Order
  (refine stpS ?_; repeat (refine Al4.mk ?_; intro _ _ _ _; refine stpS ?_))
  refine bX rfl ?_
  intro bid hbid
  have f0 : rdc (upd H bid ⟨[I p, I m, vm], true, 0⟩) bid 0 = some (I p) := rdc_of (upd_same _ _ _) rfl
  have f1 : rdc (upd H bid ⟨[I p, I m, vm], true, 0⟩) bid 1 = some (I m) := rdc_of (upd_same _ _ _) rfl
  have hl1 : HLe H (upd H bid ⟨[I p, I m, vm], true, 0⟩) := .upd_new hbid _
  generalize upd H bid ⟨[I p, I m, vm], true, 0⟩ = H1 at *
  by_cases hp : p < 2
  · (refine stpS ?_; repeat (refine Al4.mk ?_; intro _ _ _ _; refine stpS ?_))
    exact ⟨by simp [ordS, hp]; rfl, hl1⟩
  by_cases hm1 : m < 1
  · (refine stpS ?_; repeat (refine Al4.mk ?_; intro _ _ _ _; refine stpS ?_))
    exact ⟨by simp [ordS, hm1]; rfl, hl1⟩
  by_cases hm2 : 8 < m
  · (refine stpS ?_; repeat (refine Al4.mk ?_; intro _ _ _ _; refine stpS ?_))
    exact ⟨by simp [ordS, hm2]; rfl, hl1⟩
  have e0 := ordS_eq p m hp hm1 hm2
  (refine stpS ?_; repeat (refine Al4.mk ?_; intro _ _ _ _; refine stpS ?_))
  refine W_loopF (fun x : Int × Int => [(1, .p bid 0), (3, I x.1), (4, I x.2)]) (fun _ => H1) (fun x => 1 ≤ x.1 ∧ x.1 ≤ 256 ∧ 0 ≤ x.2 ∧ x.2 ≤ m ∧ powB p (m - x.2).toNat x.1 = ordS p m) (fun x => (m - x.2).toNat) (1, 0) ?_ ?_ (.refl H1) ?_
  · refine ⟨by omega, by omega, by omega, by omega, ?_⟩
    rw [e0]; simp
  · exact ⟨rfl, rfl, rfl, trivial⟩
  · rintro ⟨q, i⟩ ⟨h1, h2, h3, h4, h5⟩
    dsimp only at h1 h2 h3 h4 h5 ⊢
    have hq0 : 0 ≤ q * p := Int.mul_nonneg (by omega) (by omega)
    by_cases hi : i < m
    · by_cases hq2 : 256 < q * p
      · have hq3 := (quo_lt (q := q) (p := p) (by omega)).mpr hq2
        (refine stpS ?_; repeat (refine Al4.mk ?_; intro _ _ _ _; refine stpS ?_))
        refine ⟨?_, hl1⟩
        rw [← h5, show (m - i).toNat = (m - (i + 1)).toNat + 1 by omega, powB, if_pos hq2]; rfl
      · have hq3 : ¬ 256 / p < q := fun h => hq2 ((quo_lt (q := q) (p := p) (by omega)).mp h)
        (refine stpS ?_; repeat (refine Al4.mk ?_; intro _ _ _ _; refine stpS ?_))
        refine ⟨(q * p, i + 1), ⟨?_, by omega, by omega, by omega, ?_⟩, by simp only; omega, ⟨rfl, rfl, rfl, trivial⟩, .refl H1⟩
        · have := Int.mul_le_mul h1 (show 1 ≤ p by omega) (by omega) (by omega); omega
        · simp only
          rw [← h5, show (m - i).toNat = (m - (i + 1)).toNat + 1 by omega, powB, if_neg hq2]
    · (refine stpS ?_; repeat (refine Al4.mk ?_; intro _ _ _ _; refine stpS ?_))
      refine ⟨?_, hl1⟩
      rw [← h5, show (m - i).toNat = 0 by omega, powB]; rfl

open Classical in
theorem r04_prime_calls {n : Nat} (hn : n ≤ 256) (hn2 : 2 ≤ n) (H : AH) : ACalls Try.prog n_r04_prime [I n] H (fun r H' => r = .b (decide (Prime n)) ∧ H' = H) := by
  refine calls_of F_r04_prime hmix (by show 1 ≤ 13; decide) ?_
  unfold s_r04_prime
  (refine stpT ?_; repeat (refine Al4.mk ?_; intro _ _ _ _; refine stpT ?_))
  refine W_loopF (X := Nat) (fun d => [(0, I n), (3, I d)]) (fun _ => H) (fun d => 2 ≤ d ∧ d ≤ n ∧ ∀ e, 2 ≤ e → e < d → n % e ≠ 0) (fun d => n - d) 2 ⟨by omega, by omega, by intro e h1 h2; omega⟩ ⟨rfl, rfl, trivial⟩ (.refl H) ?_
  rintro d ⟨h1, h0, h2⟩
  by_cases hd : d < n
  · by_cases hr : n % d = 0
    · (refine stpT ?_; repeat (refine Al4.mk ?_; intro _ _ _ _; refine stpT ?_))
      refine ⟨?_, rfl⟩
      have : ¬ Prime n := fun hp => hp.2 d h1 hd hr
      rw [decide_eq_false this]; rfl
    · (refine stpT ?_; repeat (refine Al4.mk ?_; intro _ _ _ _; refine stpT ?_))
      refine ⟨d + 1, ⟨by omega, by omega, ?_⟩, by omega, ⟨rfl, rfl, trivial⟩, .refl H⟩
      intro e he1 he2
      by_cases h : e = d
      · subst h; exact hr
      · exact h2 e he1 (by omega)
  · (refine stpT ?_; repeat (refine Al4.mk ?_; intro _ _ _ _; refine stpT ?_))
    refine ⟨?_, rfl⟩
    have : Prime n := ⟨hn2, fun e he1 he2 => h2 e he1 (by omega)⟩
    rw [decide_eq_true this]; rfl

theorem r04_digits_calls {x p m : Nat} (hx : x ≤ 1000000) (hp : 1 ≤ p) (hp2 : p ≤ 1000000) (hm : m ≤ 1000000) (H : AH) :
    ACalls Try.prog n_r04_digits [I x, I p, I m] H (fun r H' => ∃ id, r = .s id 0 m ∧ H id = none ∧ HLe (upd H id ⟨tabN m (dig p x), true, 1⟩) H') := by
  refine calls_of F_r04_digits hmix (by show 3 ≤ 26; decide) ?_
  unfold s_r04_digits
  (refine stpT ?_; repeat (refine Al4.mk ?_; intro _ _ _ _; refine stpT ?_))
  refine mK (by_ := 8) (m := m) (l := m) rfl rfl (by omega) (by omega) (by omega) (by omega) ?_
  intro id hid
  rw [Int.toNat_natCast, tabN_rep]
  (refine stpT ?_; repeat (refine Al4.mk ?_; intro _ _ _ _; refine stpT ?_))
  refine W_loopF (X := Nat) (fun i => [(0, I (x / p ^ i : Nat)), (1, I p), (2, I m), (7, .s id 0 m), (8, I i)]) (fun i => upd H id ⟨tabN m fun j => if j < i then dig p x j else 0, true, 1⟩)
    (fun i => i ≤ m) (fun i => m - i) 0 (by omega) ⟨by rw [Nat.pow_zero, Nat.div_one]; rfl, rfl, rfl, rfl, rfl, trivial⟩ ?_ ?_
  · exact HLe.tabN fun i _ => if_neg (by omega)
  intro i hi
  by_cases him : i < m
  · have hpi : 0 < p ^ i := Nat.pow_pos (by omega)
    have hle : x / p ^ i ≤ x := Nat.div_le_self _ _
    (refine stpT ?_; repeat (refine Al4.mk ?_; intro _ _ _ _; refine stpT ?_))
    refine sV (v := I ((x / p ^ i % p : Nat) : Int)) rfl (upd_same _ _ _) rfl rfl (by rw [tabN_len]; omega) ?_
    rw [tabN_set _ _ him, upd_upd]
    (refine stpT ?_; repeat (refine Al4.mk ?_; intro _ _ _ _; refine stpT ?_))
    refine ⟨i + 1, him, by omega, ⟨?_, rfl, rfl, rfl, rfl, trivial⟩, ?_⟩
    · rw [Nat.pow_succ, ← Nat.div_div_eq_div_mul]; rfl
    · refine HLe.tabN fun j hj => ?_
      by_cases e : j = i
      · subst e; rw [if_pos (by omega), if_pos rfl]; rfl
      · rw [if_neg e]
        by_cases h2 : j < i
        · rw [if_pos h2, if_pos (by omega)]
        · rw [if_neg h2, if_neg (by omega)]
  · (refine stpT ?_; repeat (refine Al4.mk ?_; intro _ _ _ _; refine stpT ?_))
    refine ⟨id, rfl, hid, ?_⟩
    exact HLe.tabN fun j hj => (if_pos (by omega)).symm

theorem tabN_snoc {m : Nat} {f g : Nat → Nat} {c : Nat} (h : ∀ i, i < m → f i = g i) (hc : c = g m) : tabN m f ++ [I c] = tabN (m + 1) g := by
  unfold tabN
  rw [List.range_succ, List.map_append, hc]
  congr 1
  exact List.map_congr_left fun i hi => by rw [h i (List.mem_range.mp hi)]

open Classical in
set_option maxHeartbeats 4000000 in
theorem r04_divides_calls {D : Desc} [Desc.Ok D] (hD : D.Small) (hm : 1 < D.m) {d v lid : Nat} {rw_ : Bool} (hd : 1 ≤ d) (hdm : d ≤ D.m) {vm : AV} {H : AH} (hM : ModS H D vm) (hl : H lid = some ⟨tabN d (dig D.p v), rw_, 1⟩) :
    ACalls Try.prog n_r04_divides [.s lid 0 d, vm, I D.p] H (fun r H' => r = .b (decide (Div D d v)) ∧ HLe H H') := by
  have hp2 := Two.two (p := D.p)
  have hp := hD.p256
  have hm8 := hD.m8
  refine calls_of F_r04_divides hmix (by show 3 ≤ 78; decide) ?_
  unfold s_r04_divides
  have hM2 := hM hm
  obtain ⟨mid, moff, e⟩ : ∃ id off, vm = .s id off (tabN D.m (low D)).length := by
    rcases hM2.cases with ⟨h, _⟩ | ⟨h, _⟩ | h
    · have := congrArg List.length h; rw [tabN_len] at this; simp at this; omega
    · have := congrArg List.length h; rw [tabN_len] at this; simp at this; omega
    · exact h
  rw [tabN_len] at e
  subst e
  (refine stpT ?_; repeat (refine Al4.mk ?_; intro _ _ _ _; refine stpT ?_))
  refine bE ?_
  (refine stpT ?_; repeat (refine Al4.mk ?_; intro _ _ _ _; refine stpT ?_))
  refine apE (.inr rfl) rfl hM2 (by intro h; have := congrArg List.length h; rw [tabN_len] at this; simp at this; omega) (by decide) (by rw [tabN_len]; omega) ?_
  intro rid hrid
  rw [tabN_len]
  (refine stpT ?_; repeat (refine Al4.mk ?_; intro _ _ _ _; refine stpT ?_))
  refine bK ?_
  intro tid htid
  rw [upd_get] at htid
  split at htid
  · cases htid
  rename_i htr
  (refine stpT ?_; repeat (refine Al4.mk ?_; intro _ _ _ _; refine stpT ?_))
  refine apO (G := upd H tid ⟨[I 1], true, 1⟩) (u := .s rid 0 D.m) (cells := tabN D.m (low D)) (cs := [I 1]) (upd_comm _ (Ne.symm htr) _ _) (.sl (by rw [upd_ne _ _ (Ne.symm htr)]; exact hrid) (tabN_len _ _)) rfl rfl (.own (upd_same _ _ _)) (by simp) (by decide) (by rw [tabN_len]; simp; omega) ?_
  intro sid hsid
  rw [tabN_len, show (I 1 : AV) = I ((1 : Nat) : Int) from rfl, tabN_snoc (g := fun i => if i < D.m then low D i else 1) (fun i hi => (if_pos hi).symm) (by rw [if_neg (by omega)])]
  have hl1 : HLe H (upd H tid ⟨[I ((1 : Nat) : Int)], true, 1⟩) := .upd_new htid _
  replace hl := hl1 _ _ hl
  generalize upd H tid ⟨[I ((1 : Nat) : Int)], true, 1⟩ = H1 at *
  show aopL _ _ _ (put _ _ (.s sid 0 (D.m + 1))) _ _
  (refine stpT ?_; repeat (refine Al4.mk ?_; intro _ _ _ _; refine stpT ?_))
  have hlr : ∀ (o : Nat → Nat) (j : Nat), j < d → rdc (upd H1 sid ⟨tabN (D.m + 1) o, true, 1⟩) lid j = some (I (dig D.p v j)) := fun o j hj => rdc_mono (.upd_new hsid _) (rdc_of hl (tabN_get _ hj))
  have hdl : ∀ j, dig D.p v j < D.p := fun j => Nat.mod_lt _ (by omega)
  refine W_loopF (X := Nat × (Nat → Nat)) (fun z => [(0, .s lid 0 d), (2, I D.p), (7, I d), (8, .s sid 0 (D.m + 1)), (9, I ((z.1 - 1 : Nat) : Int))]) (fun z => upd H1 sid ⟨tabN (D.m + 1) z.2, true, 1⟩)
    (fun z => d ≤ z.1 ∧ z.1 ≤ D.m + 1 ∧ (∀ k, k < D.m + 1 → z.2 k < D.p) ∧ (∀ k, z.1 ≤ k → k < D.m + 1 → z.2 k = 0) ∧ Cong (bP D.p d (dig D.p v)) D.f (pN D.p (D.m + 1) z.2)) (fun z => z.1) (D.m + 1, fun i => if i < D.m then low D i else 1) ?_ ⟨rfl, rfl, rfl, rfl, congrArg I (show ((D.m + 1 : Nat) : Int) - 1 = ((D.m + 1 - 1 : Nat) : Int) by omega), trivial⟩ (.refl _) ?_
  · refine ⟨by omega, Nat.le_refl _, fun k hk => ?_, fun k h1 h2 => by omega, ?_⟩
    · dsimp only
      by_cases h : k < D.m
      · rw [if_pos h]; exact hD.lows k h
      · rw [if_neg h]; omega
    · rw [f_pN]; exact .refl _ _
  rintro ⟨k, o⟩ ⟨hk1, hk2, ho, hz, hc⟩
  dsimp only at hk1 hk2 ho hz hc ⊢
  by_cases hk : d < k
  · obtain ⟨i, rfl⟩ : ∃ i, k = i + 1 := ⟨k - 1, by omega⟩
    rw [show i + 1 - 1 = i by omega]
    have hci := tabN_rd (upd_same H1 sid ⟨tabN (D.m + 1) o, true, 1⟩) (show i < D.m + 1 by omega)
    have hoi := ho i (by omega)
    (refine stpT ?_; repeat (refine Al4.mk ?_; intro _ _ _ _; refine stpT ?_))
    obtain ⟨nw, hnw⟩ : ∃ nw : Nat → Nat, ∀ t, nw t = (o t + (D.p - o i) * dig D.p v (t - (i - d))) % D.p := ⟨_, fun _ => rfl⟩
    have hcp : D.p - o i ≤ 256 := by omega
    refine W_loopF (X := Nat) (fun j => [(0, .s lid 0 d), (2, I D.p), (7, I d), (8, .s sid 0 (D.m + 1)), (9, I (i : Int)), (10, I (o i : Int)), (11, I (j : Int))])
      (fun j => upd H1 sid ⟨tabN (D.m + 1) fun t => if i - d ≤ t ∧ t < i - d + j then nw t else o t, true, 1⟩)
      (fun j => j ≤ d) (fun j => d - j) 0 (Nat.zero_le _) ⟨rfl, rfl, rfl, rfl, rfl, rfl, rfl, trivial⟩ (HLe.tabN fun t _ => if_neg (by omega)) ?_
    intro j hj
    by_cases hjd : j < d
    · have hrj := hlr (fun t => if i - d ≤ t ∧ t < i - d + j then nw t else o t) j hjd
      have hro := tabN_rd (upd_same H1 sid ⟨tabN (D.m + 1) (fun t => if i - d ≤ t ∧ t < i - d + j then nw t else o t), true, 1⟩) (show i - d + j < D.m + 1 by omega)
      rw [if_neg (by omega)] at hro
      have hset : (tabN (D.m + 1) (fun t => if i - d ≤ t ∧ t < i - d + j then nw t else o t)).set (i - d + j) (I (nw (i - d + j))) = tabN (D.m + 1) (fun t => if i - d ≤ t ∧ t < i - d + (j + 1) then nw t else o t) := by
        rw [tabN_set _ _ (by omega)]
        refine tabN_congr fun t _ => ?_
        by_cases e : t = i - d + j
        · subst e; rw [if_pos rfl, if_pos (by omega)]
        · rw [if_neg e]
          by_cases h : i - d ≤ t ∧ t < i - d + j
          · rw [if_pos h, if_pos (by omega)]
          · rw [if_neg h, if_neg (by omega)]
      have hoj := ho (i - d + j) (by omega)
      have hdj := hdl j
      have hb1 : (D.p - o i) * dig D.p v j ≤ 256 * 256 := Nat.mul_le_mul hcp (by omega)
      (refine stpT ?_; repeat (refine Al4.mk ?_; intro _ _ _ _; refine stpT ?_))
      refine sV (off := i - d + j) (v := I (nw (i - d + j))) rfl (upd_same _ _ _) (by rw [hnw, show i - d + j - (i - d) = j by omega]; rfl) rfl (by rw [tabN_len]; omega) ?_
      rw [hset, upd_upd]
      (refine stpT ?_; repeat (refine Al4.mk ?_; intro _ _ _ _; refine stpT ?_))
      exact ⟨j + 1, hjd, by omega, ⟨rfl, rfl, rfl, rfl, rfl, rfl, rfl, trivial⟩, .refl _⟩
    · have ej : j = d := by omega
      subst ej
      (refine stpT ?_; repeat (refine Al4.mk ?_; intro _ _ _ _; refine stpT ?_))
      refine sV (off := i) (v := I ((0 : Nat) : Int)) rfl (upd_same _ _ _) rfl rfl (by rw [tabN_len]; omega) ?_
      rw [tabN_set _ _ (show i < D.m + 1 by omega), upd_upd]
      (refine stpT ?_; repeat (refine Al4.mk ?_; intro _ _ _ _; refine stpT ?_))
      refine ⟨(i, fun t => if t = i then 0 else if i - j ≤ t ∧ t < i - j + j then nw t else o t), ⟨by omega, by omega, fun t ht => ?_, fun t h1 h2 => ?_, ?_⟩, Nat.lt_succ_self _, ⟨rfl, rfl, rfl, rfl, congrArg I (show (i : Int) - 1 = ((i - 1 : Nat) : Int) by omega), trivial⟩, .refl _⟩
      · dsimp only
        by_cases e : t = i
        · rw [if_pos e]; omega
        · rw [if_neg e]
          split
          · rw [hnw]; exact Nat.mod_lt _ (by omega)
          · exact ho t ht
      · dsimp only
        by_cases e : t = i
        · rw [if_pos e]
        · rw [if_neg e, if_neg (by omega)]; exact hz t (by omega) h2
      · refine hc.trans (red_step (i := i) (by omega) (by omega) (by omega) fun t ht => ?_)
        dsimp only
        by_cases e : t = i
        · rw [if_pos e, if_pos e, ofN_zero]
        · rw [if_neg e, if_neg e]
          by_cases h : i - j ≤ t ∧ t < i
          · rw [if_pos h, if_pos (by omega), hnw]
            exact Z.ext (by rw [ofN_v, ofN_v, Nat.mod_mod])
          · rw [if_neg h, if_neg (by omega)]
  · have ek : k = d := by omega
    subst ek
    have hHH := hl1.trans (.upd_new hsid ⟨tabN (D.m + 1) o, true, 1⟩)
    have ht := div_test hc hz ho
    (refine stpT ?_; repeat (refine Al4.mk ?_; intro _ _ _ _; refine stpT ?_))
    refine W_loopF (X := Nat) (fun t => [(8, .s sid 0 (D.m + 1)), (12, I (t : Int))]) (fun _ => upd H1 sid ⟨tabN (D.m + 1) o, true, 1⟩) (fun t => t ≤ D.m + 1 ∧ ∀ s, s < t → o s = 0) (fun t => D.m + 1 - t) 0 ⟨Nat.zero_le _, fun s hs => absurd hs (Nat.not_lt_zero _)⟩ ⟨rfl, rfl, trivial⟩ (.refl _) ?_
    rintro t ⟨ht1, ht2⟩
    by_cases hlt : t < D.m + 1
    · have hrd := tabN_rd (upd_same H1 sid ⟨tabN (D.m + 1) o, true, 1⟩) hlt
      by_cases h0 : o t = 0
      · (refine stpT ?_; repeat (refine Al4.mk ?_; intro _ _ _ _; refine stpT ?_))
        refine ⟨t + 1, ⟨by omega, fun s hs => ?_⟩, by omega, ⟨rfl, rfl, trivial⟩, .refl _⟩
        by_cases e : s = t
        · rw [e]; exact h0
        · exact ht2 s (by omega)
      · (refine stpT ?_; repeat (refine Al4.mk ?_; intro _ _ _ _; refine stpT ?_))
        refine ⟨?_, hHH⟩
        have : ¬ Div D k v := fun h => h0 (ht.mp h t hlt)
        rw [decide_eq_false this]; rfl
    · (refine stpT ?_; repeat (refine Al4.mk ?_; intro _ _ _ _; refine stpT ?_))
      refine ⟨?_, hHH⟩
      have : Div D k v := ht.mpr fun s hs => ht2 s (by omega)
      rw [decide_eq_true this]; rfl

open Classical in
set_option maxHeartbeats 2000000 in
theorem r04_irreducible_calls {D : Desc} [Desc.Ok D] (hD : D.Small) (hm : 1 < D.m) {vm : AV} {H : AH} (hM : ModS H D vm) :
    ACalls Try.prog n_r04_irreducible [vm, I D.p] H (fun r H' => r = .b (decide D.Irr) ∧ HLe H H') := by
  have hp2 := Two.two (p := D.p)
  have hp := hD.p256
  have hm8 := hD.m8
  have hq : D.p ^ D.m ≤ 256 := hD.q256
  refine calls_of F_r04_irreducible hmix (by show 2 ≤ 30; decide) ?_
  unfold s_r04_irreducible
  have hM2 := hM hm
  obtain ⟨mid, moff, e⟩ : ∃ id off, vm = .s id off (tabN D.m (low D)).length := by
    rcases hM2.cases with ⟨h, _⟩ | ⟨h, _⟩ | h
    · have := congrArg List.length h; rw [tabN_len] at this; simp at this; omega
    · have := congrArg List.length h; rw [tabN_len] at this; simp at this; omega
    · exact h
  rw [tabN_len] at e
  subst e
  have hIrr := irr_iff (D := D)
  (refine stpT ?_; repeat (refine Al4.mk ?_; intro _ _ _ _; refine stpT ?_))
  refine W_loopF (X := Nat) (fun e => [(0, .s mid moff D.m), (1, I D.p), (5, I (D.p ^ e : Nat)), (6, I (e + 1 : Nat))]) (fun _ => H)
    (fun e => e ≤ 8 ∧ ∀ d, 1 ≤ d → d ≤ e → 2 * d ≤ D.m → ∀ v, v < D.p ^ d → ¬ Div D d v) (fun e => 9 - e) 0 ⟨by omega, fun d h1 h2 => by omega⟩ ⟨rfl, rfl, by rw [Nat.pow_zero]; rfl, rfl, trivial⟩ (.refl _) ?_
  rintro e ⟨he, hno⟩
  by_cases hg : 2 * (e + 1) ≤ D.m
  · have hpe : D.p ^ (e + 1) ≤ D.p ^ D.m := Nat.pow_le_pow_right (by omega) (by omega)
    have hpe1 : D.p ^ e * D.p = D.p ^ (e + 1) := (Nat.pow_succ ..).symm
    have hpe2 : D.p ^ e * D.p ≤ 256 := by omega
    (refine stpT ?_; repeat (refine Al4.mk ?_; intro _ _ _ _; refine stpT ?_))
    rw [hpe1]
    refine W_loopF (X := Nat) (fun v => [(0, .s mid moff D.m), (1, I D.p), (5, I (D.p ^ (e + 1) : Nat)), (6, I (e + 1 : Nat)), (7, I (v : Int))]) (fun _ => H)
      (fun v => v ≤ D.p ^ (e + 1) ∧ ∀ u, u < v → ¬ Div D (e + 1) u) (fun v => D.p ^ (e + 1) - v) 0 ⟨Nat.zero_le _, fun u hu => absurd hu (Nat.not_lt_zero _)⟩ ⟨rfl, rfl, rfl, rfl, rfl, trivial⟩ (.refl _) ?_
    rintro v ⟨hv, hno2⟩
    by_cases hvl : v < D.p ^ (e + 1)
    · (refine stpT ?_; repeat (refine Al4.mk ?_; intro _ _ _ _; refine stpT ?_))
      refine cA (r04_digits_calls (x := v) (p := D.p) (m := e + 1) (by omega) (by omega) (by omega) (by omega) H) ?_
      rintro _ H2 ⟨lid, rfl, hlid, hl2⟩
      have hl := hl2 _ _ (upd_same _ _ _)
      have hle := (HLe.upd_new hlid _).trans hl2
      (refine stpT ?_; repeat (refine Al4.mk ?_; intro _ _ _ _; refine stpT ?_))
      refine cA (r04_divides_calls hD hm (d := e + 1) (v := v) (by omega) (by omega) (hM.mono hle) hl) ?_
      rintro _ H3 ⟨rfl, hl3⟩
      have hle3 := hle.trans hl3
      by_cases hdiv : Div D (e + 1) v
      · rw [decide_eq_true hdiv]
        (refine stpT ?_; repeat (refine Al4.mk ?_; intro _ _ _ _; refine stpT ?_))
        refine ⟨?_, hle3⟩
        have : ¬ D.Irr := fun h => hIrr.mp h (e + 1) (by omega) hg v hvl hdiv
        rw [decide_eq_false this]; rfl
      · rw [decide_eq_false hdiv]
        (refine stpT ?_; repeat (refine Al4.mk ?_; intro _ _ _ _; refine stpT ?_))
        refine ⟨v + 1, ⟨by omega, fun u hu => ?_⟩, by omega, ⟨rfl, rfl, rfl, rfl, rfl, trivial⟩, hle3⟩
        by_cases h : u = v
        · rw [h]; exact hdiv
        · exact hno2 u (by omega)
    · (refine stpT ?_; repeat (refine Al4.mk ?_; intro _ _ _ _; refine stpT ?_))
      refine ⟨e + 1, ⟨by omega, fun d h1 h2 h3 u hu => ?_⟩, by omega, ⟨rfl, rfl, rfl, rfl, trivial⟩, .refl _⟩
      by_cases h : d = e + 1
      · subst h; exact hno2 u (by omega)
      · exact hno d h1 (by omega) h3 u hu
  · (refine stpT ?_; repeat (refine Al4.mk ?_; intro _ _ _ _; refine stpT ?_))
    refine ⟨?_, .refl _⟩
    have : D.Irr := hIrr.mpr fun d h1 h2 v hv => hno d h1 (by omega) h2 v hv
    rw [decide_eq_true this]; rfl

end Go.Proofs.Ytdkdainipanacaa
