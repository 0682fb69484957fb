/- Contract of cyclic.Cosets. Condition: the arguments lie in the program's ranges and have no common divisor. -/
import Derived.Test.YtdkdainipanacaaF2
namespace Go.Proofs.Ytdkdainipanacaa
open Go Go.RowKit
set_option linter.unusedSimpArgs false
set_option linter.unusedVariables false
set_option linter.constructorNameAsVariable false
attribute [local irreducible] aopL W

set_option maxHeartbeats 2000000 in
theorem Cosets_calls {q n : Nat} (hq : 2 ≤ q) (hq2 : q ≤ 256) (hn1 : 1 ≤ n) (hn2 : n ≤ 65536) (hc : Nat.Coprime q n) (H : AH) :
    ACalls Try.prog n_cyclic_Cosets [I q, I n] H (fun r H' => ∃ x, r = .tu [x, I 0] ∧ RowsS H' x ((cosN q n).map toI) ∧ HLe H H') := by
  have hg : Nat.gcd q n = 1 := hc
  have hgI : ((Nat.gcd q n : Nat) : Int) = 1 := by rw [hg]; rfl
  refine calls_of F_cyclic_Cosets hmix (by show 2 ≤ 71; decide) ?_
  unfold s_cyclic_Cosets
  (repeat (first | refine mI rfl ?_ | refine mB rfl ?_ | refine aE ?_ | refine mS rfl ?_ | refine mP rfl ?_ | refine mN rfl ?_ | refine mE rfl ?_ | refine mT rfl ?_ | refine mQ rfl ?_ | refine mA rfl ?_ | refine lD rfl (by assumption) ?_ | refine cLt rfl rfl (by omega) ?_ | refine cLf rfl rfl (by omega) ?_ | refine cGt rfl rfl (by omega) ?_ | refine cGf rfl rfl (by omega) ?_ | refine cLet rfl rfl (by omega) ?_ | refine cLef rfl rfl (by omega) ?_ | refine cGet rfl rfl (by omega) ?_ | refine cGef rfl rfl (by omega) ?_ | refine cEt rfl rfl (by omega) ?_ | refine cEf rfl rfl (by omega) ?_ | refine cNt rfl rfl (by omega) ?_ | refine cNf rfl rfl (by omega) ?_ | refine gO rfl ?_ | refine gN rfl rfl ?_ | refine pTB rfl rfl ?_ | refine pFB rfl rfl ?_ | refine pTI rfl rfl ?_ | refine pFI rfl rfl ?_ | refine nT rfl ?_ | refine bA rfl rfl (by omega) ?_ | refine bS rfl rfl (by omega) ?_ | refine bM rfl rfl (by omega) ?_ | refine bR rfl rfl (by omega) (by omega) ?_ | refine bQ rfl rfl (by omega) (by omega) ?_ | refine iX0 rfl rfl (by omega) ?_ | refine iX1 rfl rfl (by omega) ?_ | refine iX rfl rfl (by omega) (by omega) ?_ | refine fD rfl ?_ | refine nC rfl ?_ | refine lS rfl ?_ | refine lNs rfl ?_ | refine lEs rfl ?_ | refine eX rfl rfl ?_ | refine cvI rfl (by omega) ?_ | refine W_condT rfl ?_ | refine W_condF rfl ?_ | refine W_block ?_ | refine W_skip ?_ | refine W_exit ?_ | refine W_ret ?_ | refine W_seq ?_ | refine W_reg ?_ | refine W_dreg ?_ | refine mX (v := vx) rfl ?_ | refine mX (v := vy) rfl ?_ | refine mX (v := vz) rfl ?_ | refine mX (v := vw) rfl ?_))
  refine cA (Gcd_calls (x := q) (y := n) (by omega) (by omega) _) ?_
  rintro _ H ⟨rfl, rfl⟩
  (repeat (first | refine mI rfl ?_ | refine mB rfl ?_ | refine aE ?_ | refine mS rfl ?_ | refine mP rfl ?_ | refine mN rfl ?_ | refine mE rfl ?_ | refine mT rfl ?_ | refine mQ rfl ?_ | refine mA rfl ?_ | refine lD rfl (by assumption) ?_ | refine cLt rfl rfl (by omega) ?_ | refine cLf rfl rfl (by omega) ?_ | refine cGt rfl rfl (by omega) ?_ | refine cGf rfl rfl (by omega) ?_ | refine cLet rfl rfl (by omega) ?_ | refine cLef rfl rfl (by omega) ?_ | refine cGet rfl rfl (by omega) ?_ | refine cGef rfl rfl (by omega) ?_ | refine cEt rfl rfl (by omega) ?_ | refine cEf rfl rfl (by omega) ?_ | refine cNt rfl rfl (by omega) ?_ | refine cNf rfl rfl (by omega) ?_ | refine gO rfl ?_ | refine gN rfl rfl ?_ | refine pTB rfl rfl ?_ | refine pFB rfl rfl ?_ | refine pTI rfl rfl ?_ | refine pFI rfl rfl ?_ | refine nT rfl ?_ | refine bA rfl rfl (by omega) ?_ | refine bS rfl rfl (by omega) ?_ | refine bM rfl rfl (by omega) ?_ | refine bR rfl rfl (by omega) (by omega) ?_ | refine bQ rfl rfl (by omega) (by omega) ?_ | refine iX0 rfl rfl (by omega) ?_ | refine iX1 rfl rfl (by omega) ?_ | refine iX rfl rfl (by omega) (by omega) ?_ | refine fD rfl ?_ | refine nC rfl ?_ | refine lS rfl ?_ | refine lNs rfl ?_ | refine lEs rfl ?_ | refine eX rfl rfl ?_ | refine cvI rfl (by omega) ?_ | refine W_condT rfl ?_ | refine W_condF rfl ?_ | refine W_block ?_ | refine W_skip ?_ | refine W_exit ?_ | refine W_ret ?_ | refine W_seq ?_ | refine W_reg ?_ | refine W_dreg ?_ | refine mX (v := vx) rfl ?_ | refine mX (v := vy) rfl ?_ | refine mX (v := vz) rfl ?_ | refine mX (v := vw) rfl ?_))
  refine mK (by_ := 1) (m := n) (l := n) rfl rfl (by omega) (by omega) (by omega) (by omega) ?_
  intro sid hsid
  rw [Int.toNat_natCast, marks_rep]
  (repeat (first | refine mI rfl ?_ | refine mB rfl ?_ | refine aE ?_ | refine mS rfl ?_ | refine mP rfl ?_ | refine mN rfl ?_ | refine mE rfl ?_ | refine mT rfl ?_ | refine mQ rfl ?_ | refine mA rfl ?_ | refine lD rfl (by assumption) ?_ | refine cLt rfl rfl (by omega) ?_ | refine cLf rfl rfl (by omega) ?_ | refine cGt rfl rfl (by omega) ?_ | refine cGf rfl rfl (by omega) ?_ | refine cLet rfl rfl (by omega) ?_ | refine cLef rfl rfl (by omega) ?_ | refine cGet rfl rfl (by omega) ?_ | refine cGef rfl rfl (by omega) ?_ | refine cEt rfl rfl (by omega) ?_ | refine cEf rfl rfl (by omega) ?_ | refine cNt rfl rfl (by omega) ?_ | refine cNf rfl rfl (by omega) ?_ | refine gO rfl ?_ | refine gN rfl rfl ?_ | refine pTB rfl rfl ?_ | refine pFB rfl rfl ?_ | refine pTI rfl rfl ?_ | refine pFI rfl rfl ?_ | refine nT rfl ?_ | refine bA rfl rfl (by omega) ?_ | refine bS rfl rfl (by omega) ?_ | refine bM rfl rfl (by omega) ?_ | refine bR rfl rfl (by omega) (by omega) ?_ | refine bQ rfl rfl (by omega) (by omega) ?_ | refine iX0 rfl rfl (by omega) ?_ | refine iX1 rfl rfl (by omega) ?_ | refine iX rfl rfl (by omega) (by omega) ?_ | refine fD rfl ?_ | refine nC rfl ?_ | refine lS rfl ?_ | refine lNs rfl ?_ | refine lEs rfl ?_ | refine eX rfl rfl ?_ | refine cvI rfl (by omega) ?_ | refine W_condT rfl ?_ | refine W_condF rfl ?_ | refine W_block ?_ | refine W_skip ?_ | refine W_exit ?_ | refine W_ret ?_ | refine W_seq ?_ | refine W_reg ?_ | refine W_dreg ?_ | refine mX (v := vx) rfl ?_ | refine mX (v := vy) rfl ?_ | refine mX (v := vz) rfl ?_ | refine mX (v := vw) rfl ?_))
  -- the outer loop
  refine W_loopF (X := Nat × AH × AV × List AV × (Nat → Bool)) (fun y => [(0, I q), (1, I n), (8, y.2.2.1), (9, .s sid 0 n), (37, I n), (38, I y.1)])
    (fun y => upd (hpO y.2.1 y.2.2.1 y.2.2.2.1) sid ⟨marks n y.2.2.2.2, true, 1⟩)
    (fun y => y.1 ≤ n ∧ HLe H y.2.1 ∧ y.2.1 sid = none ∧ OwnS (upd y.2.1 sid ⟨marks n y.2.2.2.2, true, 1⟩) y.2.2.1 y.2.2.2.1 ∧ Rows2 y.2.1 y.2.2.2.1 ((mins q n y.1).map fun i => toI (orbL q n i)) ∧ ∀ x, y.2.2.2.2 x = true ↔ ∃ i, i < y.1 ∧ InO q n i x)
    (fun y => n - y.1) (0, H, .ns, [], fun _ => false) ?_ ?_ ?_ ?_
  · refine ⟨by omega, .refl H, hsid, .nil _, ?_, ?_⟩
    · exact .nil H
    · intro x; simp
  · exact ⟨rfl, rfl, rfl, rfl, rfl, rfl, trivial⟩
  · exact .refl _
  rintro ⟨i, G, xo, oc, f⟩ ⟨hi, hHG, hGs, hO, hR, hf⟩
  dsimp only at hi hHG hGs hO hR hf ⊢
  have hG1 : upd (hpO G xo oc) sid ⟨marks n f, true, 1⟩ = hpO (upd G sid ⟨marks n f, true, 1⟩) xo oc := hpO_comm hO
  have hO' : OwnS G xo oc := hO.low (.upd_new hGs _)
  by_cases hin : i < n
  · have hrd := seen_rd (upd_same (hpO G xo oc) sid ⟨marks n f, true, 1⟩) hin
    by_cases hfi : f i = true
    · rw [hfi] at hrd
      (repeat (first | refine mI rfl ?_ | refine mB rfl ?_ | refine aE ?_ | refine mS rfl ?_ | refine mP rfl ?_ | refine mN rfl ?_ | refine mE rfl ?_ | refine mT rfl ?_ | refine mQ rfl ?_ | refine mA rfl ?_ | refine lD rfl (by assumption) ?_ | refine cLt rfl rfl (by omega) ?_ | refine cLf rfl rfl (by omega) ?_ | refine cGt rfl rfl (by omega) ?_ | refine cGf rfl rfl (by omega) ?_ | refine cLet rfl rfl (by omega) ?_ | refine cLef rfl rfl (by omega) ?_ | refine cGet rfl rfl (by omega) ?_ | refine cGef rfl rfl (by omega) ?_ | refine cEt rfl rfl (by omega) ?_ | refine cEf rfl rfl (by omega) ?_ | refine cNt rfl rfl (by omega) ?_ | refine cNf rfl rfl (by omega) ?_ | refine gO rfl ?_ | refine gN rfl rfl ?_ | refine pTB rfl rfl ?_ | refine pFB rfl rfl ?_ | refine pTI rfl rfl ?_ | refine pFI rfl rfl ?_ | refine nT rfl ?_ | refine bA rfl rfl (by omega) ?_ | refine bS rfl rfl (by omega) ?_ | refine bM rfl rfl (by omega) ?_ | refine bR rfl rfl (by omega) (by omega) ?_ | refine bQ rfl rfl (by omega) (by omega) ?_ | refine iX0 rfl rfl (by omega) ?_ | refine iX1 rfl rfl (by omega) ?_ | refine iX rfl rfl (by omega) (by omega) ?_ | refine fD rfl ?_ | refine nC rfl ?_ | refine lS rfl ?_ | refine lNs rfl ?_ | refine lEs rfl ?_ | refine eX rfl rfl ?_ | refine cvI rfl (by omega) ?_ | refine W_condT rfl ?_ | refine W_condF rfl ?_ | refine W_block ?_ | refine W_skip ?_ | refine W_exit ?_ | refine W_ret ?_ | refine W_seq ?_ | refine W_reg ?_ | refine W_dreg ?_ | refine mX (v := vx) rfl ?_ | refine mX (v := vy) rfl ?_ | refine mX (v := vz) rfl ?_ | refine mX (v := vw) rfl ?_))
      obtain ⟨i0, h1, h2⟩ := (hf i).mp hfi
      refine ⟨(i + 1, G, xo, oc, f), ⟨hin, hHG, hGs, hO, ?_, ?_⟩, by dsimp only; omega, ⟨rfl, rfl, rfl, rfl, rfl, rfl, trivial⟩, .refl _⟩
      · dsimp only
        rw [mins_succ, if_neg]
        · exact hR
        · intro h
          have := h i0 (h2.symm hc (by omega))
          omega
      · intro x
        dsimp only
        rw [hf x]
        constructor
        · rintro ⟨j, h3, h4⟩; exact ⟨j, by omega, h4⟩
        · rintro ⟨j, h3, h4⟩
          by_cases hj : j = i
          · subst hj; exact ⟨i0, h1, h2.trans h4⟩
          · exact ⟨j, by omega, h4⟩
    · have hff : f i = false := by simpa using hfi
      rw [hff] at hrd
      (repeat (first | refine mI rfl ?_ | refine mB rfl ?_ | refine aE ?_ | refine mS rfl ?_ | refine mP rfl ?_ | refine mN rfl ?_ | refine mE rfl ?_ | refine mT rfl ?_ | refine mQ rfl ?_ | refine mA rfl ?_ | refine lD rfl (by assumption) ?_ | refine cLt rfl rfl (by omega) ?_ | refine cLf rfl rfl (by omega) ?_ | refine cGt rfl rfl (by omega) ?_ | refine cGf rfl rfl (by omega) ?_ | refine cLet rfl rfl (by omega) ?_ | refine cLef rfl rfl (by omega) ?_ | refine cGet rfl rfl (by omega) ?_ | refine cGef rfl rfl (by omega) ?_ | refine cEt rfl rfl (by omega) ?_ | refine cEf rfl rfl (by omega) ?_ | refine cNt rfl rfl (by omega) ?_ | refine cNf rfl rfl (by omega) ?_ | refine gO rfl ?_ | refine gN rfl rfl ?_ | refine pTB rfl rfl ?_ | refine pFB rfl rfl ?_ | refine pTI rfl rfl ?_ | refine pFI rfl rfl ?_ | refine nT rfl ?_ | refine bA rfl rfl (by omega) ?_ | refine bS rfl rfl (by omega) ?_ | refine bM rfl rfl (by omega) ?_ | refine bR rfl rfl (by omega) (by omega) ?_ | refine bQ rfl rfl (by omega) (by omega) ?_ | refine iX0 rfl rfl (by omega) ?_ | refine iX1 rfl rfl (by omega) ?_ | refine iX rfl rfl (by omega) (by omega) ?_ | refine fD rfl ?_ | refine nC rfl ?_ | refine lS rfl ?_ | refine lNs rfl ?_ | refine lEs rfl ?_ | refine eX rfl rfl ?_ | refine cvI rfl (by omega) ?_ | refine W_condT rfl ?_ | refine W_condF rfl ?_ | refine W_block ?_ | refine W_skip ?_ | refine W_exit ?_ | refine W_ret ?_ | refine W_seq ?_ | refine W_reg ?_ | refine W_dreg ?_ | refine mX (v := vx) rfl ?_ | refine mX (v := vy) rfl ?_ | refine mX (v := vz) rfl ?_ | refine mX (v := vw) rfl ?_))
      refine W_loopF (X := Nat × AV) (fun y => [(0, I q), (1, I n), (8, xo), (9, .s sid 0 n), (10, I i), (11, y.2), (12, I (orb q n i y.1)), (37, I n), (38, I i)])
        (fun y => hpO (upd (hpO G xo oc) sid ⟨marks n (mk q n i f y.1), true, 1⟩) y.2 ((orbI q n i y.1).map I))
        (fun y => OwnS (upd (hpO G xo oc) sid ⟨marks n (mk q n i f y.1), true, 1⟩) y.2 ((orbI q n i y.1).map I) ∧ (∀ t, t < y.1 → f (orb q n i t) = false) ∧ (∀ s t, s < t → t < y.1 → orb q n i s ≠ orb q n i t))
        (fun y => n - y.1) (0, .ns) ?_ ?_ ?_ ?_
      · exact ⟨.nil _, by intro t ht; omega, by intro s t _ ht; omega⟩
      · refine ⟨rfl, rfl, rfl, rfl, rfl, rfl, ?_, rfl, rfl, trivial⟩
        dsimp only
        rw [orb_zero hin]; rfl
      · dsimp only
        rw [mk_zero]
        exact .refl _
      rintro ⟨k, xc⟩ ⟨hO2, hd, hnd⟩
      dsimp only at hO2 hd hnd ⊢
      have hkn := orb_bound (by omega) hnd
      have hlt : orb q n i k < n := orb_lt (by omega)
      have hrd2 := seen_rd (hpO_get hO2 (upd_same (hpO G xo oc) sid ⟨marks n (mk q n i f k), true, 1⟩)) hlt
      by_cases hex : mk q n i f k (orb q n i k) = true
      · rw [hex] at hrd2
        have hall := orbit_exit (S := f) (k := k) hc hin ?_ hff hd hnd (mk_true.mp hex)
        · obtain ⟨hk0, _, hall⟩ := hall
          have hxc : ∃ c, xc = .s c 0 k ∧ upd (hpO G xo oc) sid ⟨marks n (mk q n i f k), true, 1⟩ c = none := by
            rcases hO2 with ⟨_, h⟩ | ⟨c, h1, h2⟩
            · have := congrArg List.length h; rw [orbI_len] at this; simp at this; omega
            · rw [orbI_len] at h1; exact ⟨c, h1, h2⟩
          obtain ⟨c, rfl, hcn⟩ := hxc
          (repeat (first | refine mI rfl ?_ | refine mB rfl ?_ | refine aE ?_ | refine mS rfl ?_ | refine mP rfl ?_ | refine mN rfl ?_ | refine mE rfl ?_ | refine mT rfl ?_ | refine mQ rfl ?_ | refine mA rfl ?_ | refine lD rfl (by assumption) ?_ | refine cLt rfl rfl (by omega) ?_ | refine cLf rfl rfl (by omega) ?_ | refine cGt rfl rfl (by omega) ?_ | refine cGf rfl rfl (by omega) ?_ | refine cLet rfl rfl (by omega) ?_ | refine cLef rfl rfl (by omega) ?_ | refine cGet rfl rfl (by omega) ?_ | refine cGef rfl rfl (by omega) ?_ | refine cEt rfl rfl (by omega) ?_ | refine cEf rfl rfl (by omega) ?_ | refine cNt rfl rfl (by omega) ?_ | refine cNf rfl rfl (by omega) ?_ | refine gO rfl ?_ | refine gN rfl rfl ?_ | refine pTB rfl rfl ?_ | refine pFB rfl rfl ?_ | refine pTI rfl rfl ?_ | refine pFI rfl rfl ?_ | refine nT rfl ?_ | refine bA rfl rfl (by omega) ?_ | refine bS rfl rfl (by omega) ?_ | refine bM rfl rfl (by omega) ?_ | refine bR rfl rfl (by omega) (by omega) ?_ | refine bQ rfl rfl (by omega) (by omega) ?_ | refine iX0 rfl rfl (by omega) ?_ | refine iX1 rfl rfl (by omega) ?_ | refine iX rfl rfl (by omega) (by omega) ?_ | refine fD rfl ?_ | refine nC rfl ?_ | refine lS rfl ?_ | refine lNs rfl ?_ | refine lEs rfl ?_ | refine eX rfl rfl ?_ | refine cvI rfl (by omega) ?_ | refine W_condT rfl ?_ | refine W_condF rfl ?_ | refine W_block ?_ | refine W_skip ?_ | refine W_exit ?_ | refine W_ret ?_ | refine W_seq ?_ | refine W_reg ?_ | refine W_dreg ?_ | refine mX (v := vx) rfl ?_ | refine mX (v := vy) rfl ?_ | refine mX (v := vz) rfl ?_ | refine mX (v := vw) rfl ?_))
          refine cA (sort_calls l189 ok_sort (id := c) (off := 0) (len := k) (zs := orbI q n i k) (upd_same _ _ _) rfl rfl (by simp [orbI]) (List.take_of_length_le (by rw [List.drop_zero, orbI_len]; omega)) hk0 (by omega)) ?_
          rintro _ H2 ⟨rfl, rfl⟩
          rw [orb_sort (by omega) hnd hall, hpO_upd_self, splice_all (by rw [orbI_len, List.length_map, toI_len, orbL_len (by omega) hnd hall])]
          have hcs := upd_none hcn
          have hGc : G c = none := hO'.hle.absent hcs.2
          have hO4 : OwnS (upd (upd G sid ⟨marks n (mk q n i f k), true, 1⟩) c ⟨(toI (orbL q n i)).map I, true, 1⟩) xo oc := hO.same.add (by rw [← hpO_comm hO.same]; exact hcn)
          rw [hpO_comm hO.same, hpO_comm hO4]
          have hol : oc.length ≤ i := by
            rw [hR.1, List.length_map]
            exact Nat.le_trans (List.length_filter_le _ _) (by simp)
          (repeat (first | refine mI rfl ?_ | refine mB rfl ?_ | refine aE ?_ | refine mS rfl ?_ | refine mP rfl ?_ | refine mN rfl ?_ | refine mE rfl ?_ | refine mT rfl ?_ | refine mQ rfl ?_ | refine mA rfl ?_ | refine lD rfl (by assumption) ?_ | refine cLt rfl rfl (by omega) ?_ | refine cLf rfl rfl (by omega) ?_ | refine cGt rfl rfl (by omega) ?_ | refine cGf rfl rfl (by omega) ?_ | refine cLet rfl rfl (by omega) ?_ | refine cLef rfl rfl (by omega) ?_ | refine cGet rfl rfl (by omega) ?_ | refine cGef rfl rfl (by omega) ?_ | refine cEt rfl rfl (by omega) ?_ | refine cEf rfl rfl (by omega) ?_ | refine cNt rfl rfl (by omega) ?_ | refine cNf rfl rfl (by omega) ?_ | refine gO rfl ?_ | refine gN rfl rfl ?_ | refine pTB rfl rfl ?_ | refine pFB rfl rfl ?_ | refine pTI rfl rfl ?_ | refine pFI rfl rfl ?_ | refine nT rfl ?_ | refine bA rfl rfl (by omega) ?_ | refine bS rfl rfl (by omega) ?_ | refine bM rfl rfl (by omega) ?_ | refine bR rfl rfl (by omega) (by omega) ?_ | refine bQ rfl rfl (by omega) (by omega) ?_ | refine iX0 rfl rfl (by omega) ?_ | refine iX1 rfl rfl (by omega) ?_ | refine iX rfl rfl (by omega) (by omega) ?_ | refine fD rfl ?_ | refine nC rfl ?_ | refine lS rfl ?_ | refine lNs rfl ?_ | refine lEs rfl ?_ | refine eX rfl rfl ?_ | refine cvI rfl (by omega) ?_ | refine W_condT rfl ?_ | refine W_condF rfl ?_ | refine W_block ?_ | refine W_skip ?_ | refine W_exit ?_ | refine W_ret ?_ | refine W_seq ?_ | refine W_reg ?_ | refine W_dreg ?_ | refine mX (v := vx) rfl ?_ | refine mX (v := vy) rfl ?_ | refine mX (v := vz) rfl ?_ | refine mX (v := vw) rfl ?_))
          refine mX (v := xo) rfl ?_
          (repeat (first | refine mI rfl ?_ | refine mB rfl ?_ | refine aE ?_ | refine mS rfl ?_ | refine mP rfl ?_ | refine mN rfl ?_ | refine mE rfl ?_ | refine mT rfl ?_ | refine mQ rfl ?_ | refine mA rfl ?_ | refine lD rfl (by assumption) ?_ | refine cLt rfl rfl (by omega) ?_ | refine cLf rfl rfl (by omega) ?_ | refine cGt rfl rfl (by omega) ?_ | refine cGf rfl rfl (by omega) ?_ | refine cLet rfl rfl (by omega) ?_ | refine cLef rfl rfl (by omega) ?_ | refine cGet rfl rfl (by omega) ?_ | refine cGef rfl rfl (by omega) ?_ | refine cEt rfl rfl (by omega) ?_ | refine cEf rfl rfl (by omega) ?_ | refine cNt rfl rfl (by omega) ?_ | refine cNf rfl rfl (by omega) ?_ | refine gO rfl ?_ | refine gN rfl rfl ?_ | refine pTB rfl rfl ?_ | refine pFB rfl rfl ?_ | refine pTI rfl rfl ?_ | refine pFI rfl rfl ?_ | refine nT rfl ?_ | refine bA rfl rfl (by omega) ?_ | refine bS rfl rfl (by omega) ?_ | refine bM rfl rfl (by omega) ?_ | refine bR rfl rfl (by omega) (by omega) ?_ | refine bQ rfl rfl (by omega) (by omega) ?_ | refine iX0 rfl rfl (by omega) ?_ | refine iX1 rfl rfl (by omega) ?_ | refine iX rfl rfl (by omega) (by omega) ?_ | refine fD rfl ?_ | refine nC rfl ?_ | refine lS rfl ?_ | refine lNs rfl ?_ | refine lEs rfl ?_ | refine eX rfl rfl ?_ | refine cvI rfl (by omega) ?_ | refine W_condT rfl ?_ | refine W_condF rfl ?_ | refine W_block ?_ | refine W_skip ?_ | refine W_exit ?_ | refine W_ret ?_ | refine W_seq ?_ | refine W_reg ?_ | refine W_dreg ?_ | refine mX (v := vx) rfl ?_ | refine mX (v := vy) rfl ?_ | refine mX (v := vz) rfl ?_ | refine mX (v := vw) rfl ?_))
          refine ap1 (v := .s c 0 k) rfl hO4 rfl (by decide) rfl rfl (by decide) (by omega) ?_
          intro t x ht hx hxt
          (repeat (first | refine mI rfl ?_ | refine mB rfl ?_ | refine aE ?_ | refine mS rfl ?_ | refine mP rfl ?_ | refine mN rfl ?_ | refine mE rfl ?_ | refine mT rfl ?_ | refine mQ rfl ?_ | refine mA rfl ?_ | refine lD rfl (by assumption) ?_ | refine cLt rfl rfl (by omega) ?_ | refine cLf rfl rfl (by omega) ?_ | refine cGt rfl rfl (by omega) ?_ | refine cGf rfl rfl (by omega) ?_ | refine cLet rfl rfl (by omega) ?_ | refine cLef rfl rfl (by omega) ?_ | refine cGet rfl rfl (by omega) ?_ | refine cGef rfl rfl (by omega) ?_ | refine cEt rfl rfl (by omega) ?_ | refine cEf rfl rfl (by omega) ?_ | refine cNt rfl rfl (by omega) ?_ | refine cNf rfl rfl (by omega) ?_ | refine gO rfl ?_ | refine gN rfl rfl ?_ | refine pTB rfl rfl ?_ | refine pFB rfl rfl ?_ | refine pTI rfl rfl ?_ | refine pFI rfl rfl ?_ | refine nT rfl ?_ | refine bA rfl rfl (by omega) ?_ | refine bS rfl rfl (by omega) ?_ | refine bM rfl rfl (by omega) ?_ | refine bR rfl rfl (by omega) (by omega) ?_ | refine bQ rfl rfl (by omega) (by omega) ?_ | refine iX0 rfl rfl (by omega) ?_ | refine iX1 rfl rfl (by omega) ?_ | refine iX rfl rfl (by omega) (by omega) ?_ | refine fD rfl ?_ | refine nC rfl ?_ | refine lS rfl ?_ | refine lNs rfl ?_ | refine lEs rfl ?_ | refine eX rfl rfl ?_ | refine cvI rfl (by omega) ?_ | refine W_condT rfl ?_ | refine W_condF rfl ?_ | refine W_block ?_ | refine W_skip ?_ | refine W_exit ?_ | refine W_ret ?_ | refine W_seq ?_ | refine W_reg ?_ | refine W_dreg ?_ | refine mX (v := vx) rfl ?_ | refine mX (v := vy) rfl ?_ | refine mX (v := vz) rfl ?_ | refine mX (v := vw) rfl ?_))
          have hcomm := upd_comm G (Ne.symm hcs.1) ⟨marks n (mk q n i f k), true, 1⟩ ⟨(toI (orbL q n i)).map I, true, 1⟩
          have hO5 : OwnS (upd (upd G c ⟨(toI (orbL q n i)).map I, true, 1⟩) sid ⟨marks n (mk q n i f k), true, 1⟩) (.s x 0 (oc.length + 1)) (oc ++ [.s c 0 k]) := .sl (by rw [← hcomm]; exact hx) (by simp)
          refine ⟨(i + 1, upd G c ⟨(toI (orbL q n i)).map I, true, 1⟩, .s x 0 (oc.length + 1), oc ++ [.s c 0 k], mk q n i f k), ⟨hin, hHG.trans (.upd_new hGc _), ?_, hO5, ?_, ?_⟩, by dsimp only; omega, ⟨rfl, rfl, rfl, rfl, rfl, rfl, trivial⟩, ?_⟩
          · exact (upd_ne _ _ (Ne.symm hcs.1)).trans hGs
          · dsimp only
            rw [mins_succ, if_pos, List.map_append]
            · refine (hR.mono (.upd_new hGc _)).snoc ?_
              have := IntS.own (upd_same G c ⟨(toI (orbL q n i)).map I, true, 1⟩)
              rwa [toI_len, orbL_len (by omega) hnd hall] at this
            · intro x hx
              refine Nat.le_of_not_lt fun hlt => hfi ((hf i).mpr ⟨x, hlt, hx.symm hc hin⟩)
          · intro x
            dsimp only
            rw [mk_true, hf x, ← hall x]
            constructor
            · rintro (⟨j, h1, h2⟩ | h)
              · exact ⟨j, by omega, h2⟩
              · exact ⟨i, by omega, h⟩
            · rintro ⟨j, h1, h2⟩
              by_cases e : j = i
              · subst e; exact .inr h2
              · exact .inl ⟨j, by omega, h2⟩
          · dsimp only
            rw [hpO_comm hO5, ← hcomm]
            exact (HLe.upd_new ht _).upd_both _ _
        · intro x hx hfx
          obtain ⟨i0, h1, h2⟩ := (hf _).mp hfx
          exact (hf x).mpr ⟨i0, h1, h2.back hc (by omega) hx⟩
      · have hex' : mk q n i f k (orb q n i k) = false := by simpa using hex
        rw [hex'] at hrd2
        (repeat (first | refine mI rfl ?_ | refine mB rfl ?_ | refine aE ?_ | refine mS rfl ?_ | refine mP rfl ?_ | refine mN rfl ?_ | refine mE rfl ?_ | refine mT rfl ?_ | refine mQ rfl ?_ | refine mA rfl ?_ | refine lD rfl (by assumption) ?_ | refine cLt rfl rfl (by omega) ?_ | refine cLf rfl rfl (by omega) ?_ | refine cGt rfl rfl (by omega) ?_ | refine cGf rfl rfl (by omega) ?_ | refine cLet rfl rfl (by omega) ?_ | refine cLef rfl rfl (by omega) ?_ | refine cGet rfl rfl (by omega) ?_ | refine cGef rfl rfl (by omega) ?_ | refine cEt rfl rfl (by omega) ?_ | refine cEf rfl rfl (by omega) ?_ | refine cNt rfl rfl (by omega) ?_ | refine cNf rfl rfl (by omega) ?_ | refine gO rfl ?_ | refine gN rfl rfl ?_ | refine pTB rfl rfl ?_ | refine pFB rfl rfl ?_ | refine pTI rfl rfl ?_ | refine pFI rfl rfl ?_ | refine nT rfl ?_ | refine bA rfl rfl (by omega) ?_ | refine bS rfl rfl (by omega) ?_ | refine bM rfl rfl (by omega) ?_ | refine bR rfl rfl (by omega) (by omega) ?_ | refine bQ rfl rfl (by omega) (by omega) ?_ | refine iX0 rfl rfl (by omega) ?_ | refine iX1 rfl rfl (by omega) ?_ | refine iX rfl rfl (by omega) (by omega) ?_ | refine fD rfl ?_ | refine nC rfl ?_ | refine lS rfl ?_ | refine lNs rfl ?_ | refine lEs rfl ?_ | refine eX rfl rfl ?_ | refine cvI rfl (by omega) ?_ | refine W_condT rfl ?_ | refine W_condF rfl ?_ | refine W_block ?_ | refine W_skip ?_ | refine W_exit ?_ | refine W_ret ?_ | refine W_seq ?_ | refine W_reg ?_ | refine W_dreg ?_ | refine mX (v := vx) rfl ?_ | refine mX (v := vy) rfl ?_ | refine mX (v := vz) rfl ?_ | refine mX (v := vw) rfl ?_))
        refine sV (v := .b true) (off := orb q n i k) rfl (hpO_get hO2 (upd_same _ _ _)) rfl rfl (by rw [marks_len]; omega) ?_
        rw [marks_set _ hlt, mk_succ, hpO_upd hO2]
        have hd' : ∀ t, t < k + 1 → f (orb q n i t) = false := by
          intro t ht
          by_cases e : t = k
          · subst e
            cases h : f (orb q n i t) with
            | false => rfl
            | true => exact absurd (mk_true.mpr (.inl h)) hex
          · exact hd t (by omega)
        have hnd' : ∀ s t, s < t → t < k + 1 → orb q n i s ≠ orb q n i t := by
          intro s t hs ht
          by_cases e : t = k
          · subst e
            intro h
            exact hex (mk_true.mpr (.inr ⟨s, hs, h.symm⟩))
          · exact hnd s t hs (by omega)
        have hkn' := orb_bound (by omega) hnd'
        have hO3 : OwnS (upd (hpO G xo oc) sid ⟨marks n (mk q n i f (k + 1)), true, 1⟩) xc ((orbI q n i k).map I) := hO2.same
        (repeat (first | refine mI rfl ?_ | refine mB rfl ?_ | refine aE ?_ | refine mS rfl ?_ | refine mP rfl ?_ | refine mN rfl ?_ | refine mE rfl ?_ | refine mT rfl ?_ | refine mQ rfl ?_ | refine mA rfl ?_ | refine lD rfl (by assumption) ?_ | refine cLt rfl rfl (by omega) ?_ | refine cLf rfl rfl (by omega) ?_ | refine cGt rfl rfl (by omega) ?_ | refine cGf rfl rfl (by omega) ?_ | refine cLet rfl rfl (by omega) ?_ | refine cLef rfl rfl (by omega) ?_ | refine cGet rfl rfl (by omega) ?_ | refine cGef rfl rfl (by omega) ?_ | refine cEt rfl rfl (by omega) ?_ | refine cEf rfl rfl (by omega) ?_ | refine cNt rfl rfl (by omega) ?_ | refine cNf rfl rfl (by omega) ?_ | refine gO rfl ?_ | refine gN rfl rfl ?_ | refine pTB rfl rfl ?_ | refine pFB rfl rfl ?_ | refine pTI rfl rfl ?_ | refine pFI rfl rfl ?_ | refine nT rfl ?_ | refine bA rfl rfl (by omega) ?_ | refine bS rfl rfl (by omega) ?_ | refine bM rfl rfl (by omega) ?_ | refine bR rfl rfl (by omega) (by omega) ?_ | refine bQ rfl rfl (by omega) (by omega) ?_ | refine iX0 rfl rfl (by omega) ?_ | refine iX1 rfl rfl (by omega) ?_ | refine iX rfl rfl (by omega) (by omega) ?_ | refine fD rfl ?_ | refine nC rfl ?_ | refine lS rfl ?_ | refine lNs rfl ?_ | refine lEs rfl ?_ | refine eX rfl rfl ?_ | refine cvI rfl (by omega) ?_ | refine W_condT rfl ?_ | refine W_condF rfl ?_ | refine W_block ?_ | refine W_skip ?_ | refine W_exit ?_ | refine W_ret ?_ | refine W_seq ?_ | refine W_reg ?_ | refine W_dreg ?_ | refine mX (v := vx) rfl ?_ | refine mX (v := vy) rfl ?_ | refine mX (v := vz) rfl ?_ | refine mX (v := vw) rfl ?_))
        refine mX (v := xc) rfl ?_
        (repeat (first | refine mI rfl ?_ | refine mB rfl ?_ | refine aE ?_ | refine mS rfl ?_ | refine mP rfl ?_ | refine mN rfl ?_ | refine mE rfl ?_ | refine mT rfl ?_ | refine mQ rfl ?_ | refine mA rfl ?_ | refine lD rfl (by assumption) ?_ | refine cLt rfl rfl (by omega) ?_ | refine cLf rfl rfl (by omega) ?_ | refine cGt rfl rfl (by omega) ?_ | refine cGf rfl rfl (by omega) ?_ | refine cLet rfl rfl (by omega) ?_ | refine cLef rfl rfl (by omega) ?_ | refine cGet rfl rfl (by omega) ?_ | refine cGef rfl rfl (by omega) ?_ | refine cEt rfl rfl (by omega) ?_ | refine cEf rfl rfl (by omega) ?_ | refine cNt rfl rfl (by omega) ?_ | refine cNf rfl rfl (by omega) ?_ | refine gO rfl ?_ | refine gN rfl rfl ?_ | refine pTB rfl rfl ?_ | refine pFB rfl rfl ?_ | refine pTI rfl rfl ?_ | refine pFI rfl rfl ?_ | refine nT rfl ?_ | refine bA rfl rfl (by omega) ?_ | refine bS rfl rfl (by omega) ?_ | refine bM rfl rfl (by omega) ?_ | refine bR rfl rfl (by omega) (by omega) ?_ | refine bQ rfl rfl (by omega) (by omega) ?_ | refine iX0 rfl rfl (by omega) ?_ | refine iX1 rfl rfl (by omega) ?_ | refine iX rfl rfl (by omega) (by omega) ?_ | refine fD rfl ?_ | refine nC rfl ?_ | refine lS rfl ?_ | refine lNs rfl ?_ | refine lEs rfl ?_ | refine eX rfl rfl ?_ | refine cvI rfl (by omega) ?_ | refine W_condT rfl ?_ | refine W_condF rfl ?_ | refine W_block ?_ | refine W_skip ?_ | refine W_exit ?_ | refine W_ret ?_ | refine W_seq ?_ | refine W_reg ?_ | refine W_dreg ?_ | refine mX (v := vx) rfl ?_ | refine mX (v := vy) rfl ?_ | refine mX (v := vz) rfl ?_ | refine mX (v := vw) rfl ?_))
        refine ap1 (v := I (orb q n i k)) rfl hO3 rfl (by decide) rfl rfl (by decide) (by rw [orbI_len]; omega) ?_
        intro t c ht hcn hct
        rw [orbI_succ, orbI_len]
        (repeat (first | refine mI rfl ?_ | refine mB rfl ?_ | refine aE ?_ | refine mS rfl ?_ | refine mP rfl ?_ | refine mN rfl ?_ | refine mE rfl ?_ | refine mT rfl ?_ | refine mQ rfl ?_ | refine mA rfl ?_ | refine lD rfl (by assumption) ?_ | refine cLt rfl rfl (by omega) ?_ | refine cLf rfl rfl (by omega) ?_ | refine cGt rfl rfl (by omega) ?_ | refine cGf rfl rfl (by omega) ?_ | refine cLet rfl rfl (by omega) ?_ | refine cLef rfl rfl (by omega) ?_ | refine cGet rfl rfl (by omega) ?_ | refine cGef rfl rfl (by omega) ?_ | refine cEt rfl rfl (by omega) ?_ | refine cEf rfl rfl (by omega) ?_ | refine cNt rfl rfl (by omega) ?_ | refine cNf rfl rfl (by omega) ?_ | refine gO rfl ?_ | refine gN rfl rfl ?_ | refine pTB rfl rfl ?_ | refine pFB rfl rfl ?_ | refine pTI rfl rfl ?_ | refine pFI rfl rfl ?_ | refine nT rfl ?_ | refine bA rfl rfl (by omega) ?_ | refine bS rfl rfl (by omega) ?_ | refine bM rfl rfl (by omega) ?_ | refine bR rfl rfl (by omega) (by omega) ?_ | refine bQ rfl rfl (by omega) (by omega) ?_ | refine iX0 rfl rfl (by omega) ?_ | refine iX1 rfl rfl (by omega) ?_ | refine iX rfl rfl (by omega) (by omega) ?_ | refine fD rfl ?_ | refine nC rfl ?_ | refine lS rfl ?_ | refine lNs rfl ?_ | refine lEs rfl ?_ | refine eX rfl rfl ?_ | refine cvI rfl (by omega) ?_ | refine W_condT rfl ?_ | refine W_condF rfl ?_ | refine W_block ?_ | refine W_skip ?_ | refine W_exit ?_ | refine W_ret ?_ | refine W_seq ?_ | refine W_reg ?_ | refine W_dreg ?_ | refine mX (v := vx) rfl ?_ | refine mX (v := vy) rfl ?_ | refine mX (v := vz) rfl ?_ | refine mX (v := vw) rfl ?_))
        have hm : orb q n i k * q ≤ 65536 * 256 := Nat.mul_le_mul (by omega) hq2
        have hm2 : ((orb q n i k : Nat) : Int) * (q : Int) = ((orb q n i k * q : Nat) : Int) := (Int.natCast_mul _ _).symm
        refine bM rfl rfl (by rw [hm2]; omega) ?_
        rw [hm2]
        (repeat (first | refine mI rfl ?_ | refine mB rfl ?_ | refine aE ?_ | refine mS rfl ?_ | refine mP rfl ?_ | refine mN rfl ?_ | refine mE rfl ?_ | refine mT rfl ?_ | refine mQ rfl ?_ | refine mA rfl ?_ | refine lD rfl (by assumption) ?_ | refine cLt rfl rfl (by omega) ?_ | refine cLf rfl rfl (by omega) ?_ | refine cGt rfl rfl (by omega) ?_ | refine cGf rfl rfl (by omega) ?_ | refine cLet rfl rfl (by omega) ?_ | refine cLef rfl rfl (by omega) ?_ | refine cGet rfl rfl (by omega) ?_ | refine cGef rfl rfl (by omega) ?_ | refine cEt rfl rfl (by omega) ?_ | refine cEf rfl rfl (by omega) ?_ | refine cNt rfl rfl (by omega) ?_ | refine cNf rfl rfl (by omega) ?_ | refine gO rfl ?_ | refine gN rfl rfl ?_ | refine pTB rfl rfl ?_ | refine pFB rfl rfl ?_ | refine pTI rfl rfl ?_ | refine pFI rfl rfl ?_ | refine nT rfl ?_ | refine bA rfl rfl (by omega) ?_ | refine bS rfl rfl (by omega) ?_ | refine bM rfl rfl (by omega) ?_ | refine bR rfl rfl (by omega) (by omega) ?_ | refine bQ rfl rfl (by omega) (by omega) ?_ | refine iX0 rfl rfl (by omega) ?_ | refine iX1 rfl rfl (by omega) ?_ | refine iX rfl rfl (by omega) (by omega) ?_ | refine fD rfl ?_ | refine nC rfl ?_ | refine lS rfl ?_ | refine lNs rfl ?_ | refine lEs rfl ?_ | refine eX rfl rfl ?_ | refine cvI rfl (by omega) ?_ | refine W_condT rfl ?_ | refine W_condF rfl ?_ | refine W_block ?_ | refine W_skip ?_ | refine W_exit ?_ | refine W_ret ?_ | refine W_seq ?_ | refine W_reg ?_ | refine W_dreg ?_ | refine mX (v := vx) rfl ?_ | refine mX (v := vy) rfl ?_ | refine mX (v := vz) rfl ?_ | refine mX (v := vw) rfl ?_))
        refine ⟨(k + 1, .s c 0 (k + 1)), ⟨.sl hcn (orbI_len _ _ _ _), hd', hnd'⟩, by dsimp only; omega, ⟨rfl, rfl, rfl, rfl, rfl, rfl, ?_, rfl, rfl, trivial⟩, ?_⟩
        · dsimp only
          rw [orb_succ]
          exact congrArg I (Int.natCast_emod _ _).symm
        · exact (HLe.upd_new ht _).upd_both _ _
  · (repeat (first | refine mI rfl ?_ | refine mB rfl ?_ | refine aE ?_ | refine mS rfl ?_ | refine mP rfl ?_ | refine mN rfl ?_ | refine mE rfl ?_ | refine mT rfl ?_ | refine mQ rfl ?_ | refine mA rfl ?_ | refine lD rfl (by assumption) ?_ | refine cLt rfl rfl (by omega) ?_ | refine cLf rfl rfl (by omega) ?_ | refine cGt rfl rfl (by omega) ?_ | refine cGf rfl rfl (by omega) ?_ | refine cLet rfl rfl (by omega) ?_ | refine cLef rfl rfl (by omega) ?_ | refine cGet rfl rfl (by omega) ?_ | refine cGef rfl rfl (by omega) ?_ | refine cEt rfl rfl (by omega) ?_ | refine cEf rfl rfl (by omega) ?_ | refine cNt rfl rfl (by omega) ?_ | refine cNf rfl rfl (by omega) ?_ | refine gO rfl ?_ | refine gN rfl rfl ?_ | refine pTB rfl rfl ?_ | refine pFB rfl rfl ?_ | refine pTI rfl rfl ?_ | refine pFI rfl rfl ?_ | refine nT rfl ?_ | refine bA rfl rfl (by omega) ?_ | refine bS rfl rfl (by omega) ?_ | refine bM rfl rfl (by omega) ?_ | refine bR rfl rfl (by omega) (by omega) ?_ | refine bQ rfl rfl (by omega) (by omega) ?_ | refine iX0 rfl rfl (by omega) ?_ | refine iX1 rfl rfl (by omega) ?_ | refine iX rfl rfl (by omega) (by omega) ?_ | refine fD rfl ?_ | refine nC rfl ?_ | refine lS rfl ?_ | refine lNs rfl ?_ | refine lEs rfl ?_ | refine eX rfl rfl ?_ | refine cvI rfl (by omega) ?_ | refine W_condT rfl ?_ | refine W_condF rfl ?_ | refine W_block ?_ | refine W_skip ?_ | refine W_exit ?_ | refine W_ret ?_ | refine W_seq ?_ | refine W_reg ?_ | refine W_dreg ?_ | refine mX (v := vx) rfl ?_ | refine mX (v := vy) rfl ?_ | refine mX (v := vz) rfl ?_ | refine mX (v := vw) rfl ?_))
    refine mX (v := xo) rfl ?_
    refine mX (v := xo) rfl ?_
    (repeat (first | refine mI rfl ?_ | refine mB rfl ?_ | refine aE ?_ | refine mS rfl ?_ | refine mP rfl ?_ | refine mN rfl ?_ | refine mE rfl ?_ | refine mT rfl ?_ | refine mQ rfl ?_ | refine mA rfl ?_ | refine lD rfl (by assumption) ?_ | refine cLt rfl rfl (by omega) ?_ | refine cLf rfl rfl (by omega) ?_ | refine cGt rfl rfl (by omega) ?_ | refine cGf rfl rfl (by omega) ?_ | refine cLet rfl rfl (by omega) ?_ | refine cLef rfl rfl (by omega) ?_ | refine cGet rfl rfl (by omega) ?_ | refine cGef rfl rfl (by omega) ?_ | refine cEt rfl rfl (by omega) ?_ | refine cEf rfl rfl (by omega) ?_ | refine cNt rfl rfl (by omega) ?_ | refine cNf rfl rfl (by omega) ?_ | refine gO rfl ?_ | refine gN rfl rfl ?_ | refine pTB rfl rfl ?_ | refine pFB rfl rfl ?_ | refine pTI rfl rfl ?_ | refine pFI rfl rfl ?_ | refine nT rfl ?_ | refine bA rfl rfl (by omega) ?_ | refine bS rfl rfl (by omega) ?_ | refine bM rfl rfl (by omega) ?_ | refine bR rfl rfl (by omega) (by omega) ?_ | refine bQ rfl rfl (by omega) (by omega) ?_ | refine iX0 rfl rfl (by omega) ?_ | refine iX1 rfl rfl (by omega) ?_ | refine iX rfl rfl (by omega) (by omega) ?_ | refine fD rfl ?_ | refine nC rfl ?_ | refine lS rfl ?_ | refine lNs rfl ?_ | refine lEs rfl ?_ | refine eX rfl rfl ?_ | refine cvI rfl (by omega) ?_ | refine W_condT rfl ?_ | refine W_condF rfl ?_ | refine W_block ?_ | refine W_skip ?_ | refine W_exit ?_ | refine W_ret ?_ | refine W_seq ?_ | refine W_reg ?_ | refine W_dreg ?_ | refine mX (v := vx) rfl ?_ | refine mX (v := vy) rfl ?_ | refine mX (v := vz) rfl ?_ | refine mX (v := vw) rfl ?_))
    refine ⟨xo, rfl, ?_, ?_⟩
    · rw [hG1]
      have e := (show n = i by omega)
      subst e
      refine ⟨oc, hO.cs, ?_⟩
      have := hR.mono ((HLe.upd_new hGs _).trans hO.hle)
      rwa [cosN, List.map_map]
    · rw [hG1]
      exact hHG.trans ((HLe.upd_new hGs _).trans hO.hle)

end Go.Proofs.Ytdkdainipanacaa
