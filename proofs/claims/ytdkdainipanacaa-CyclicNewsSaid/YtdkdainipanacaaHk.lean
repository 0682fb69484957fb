/- Contract of the reference's Eliminate and Canon. Condition: the arguments stand in memory. -/
import Derived.Test.YtdkdainipanacaaHi
namespace Go.Proofs.Ytdkdainipanacaa
open Go Go.RowKit Alg
set_option linter.unusedSimpArgs false
set_option linter.unusedVariables false
set_option linter.constructorNameAsVariable false
set_option linter.unusedSectionVars false
attribute [local irreducible] aopL W
section
variable {P : Program} {n : Nat} {Q Q' : Exit → (Nat → AV) → AH → Prop} {a : Nat → AV} {H : AH}
/-- W_cut, where the sequence is already opened -/
theorem W_cutT {x y : SC} {X : Type} (sl : X → List (Nat × AV)) (hp : X → AH) (ok : X → Prop) (h1 : W P n x (Then (fun a' H' => ∃ z, ok z ∧ Has a' (sl z) ∧ HLe (hp z) H') Q') a H)
    (h2 : ∀ z, ok z → W P n y Q (Sl (sl z)) (hp z)) : W P n x (Then (W P n y Q) Q') a H := by
  refine W_mono ?_ h1
  intro e a' H' hq
  cases e with
  | normal => obtain ⟨z, k1, k2, k3⟩ := hq; exact W_fam k2 k3 (h2 z k1)
  | _ => exact hq
end
variable {D : Desc} [Desc.Ok D]

theorem own_split {G X : AH} {vp : AV} {piv cells : List AV} {oid : Nat} (hS : OwnS G vp piv) (ho : hpO G vp piv oid = none) (h : HLe (upd (hpO G vp piv) oid ⟨cells, true, 1⟩) X) :
    ∃ G', HLe G G' ∧ OwnS G' vp piv ∧ hpO G' vp piv oid = none ∧ X = upd (hpO G' vp piv) oid ⟨cells, true, 1⟩ ∧ ∀ id ob, upd (hpO G vp piv) oid ⟨cells, true, 1⟩ id = none → X id = some ob → G' id = some ob := by
  have hX := h _ _ (upd_same _ _ _)
  rcases hS with ⟨rfl, rfl⟩ | ⟨pid, rfl, h2⟩
  · refine ⟨del X oid, ((HLe.upd_new ho _).trans h).del_of ho, .nil _, del_same _ _, funext fun t => ?_, fun id ob h1 h2 => ?_⟩
    · show _ = upd (del X oid) oid _ t
      rw [upd_del, upd_get]
      split
      · rename_i e; rw [e]; exact hX
      · rfl
    · rw [del_ne _ (fun e => by rw [e, upd_same] at h1; cases h1)]; exact h2
  · have hne : oid ≠ pid := fun e => by
      have : upd G pid ⟨piv, true, 1⟩ oid = none := ho
      rw [e, upd_same] at this; cases this
    have hP := h pid ⟨piv, true, 1⟩ (by rw [upd_ne _ _ (Ne.symm hne)]; exact upd_same _ _ _)
    have ho' : G oid = none := by
      have : upd G pid ⟨piv, true, 1⟩ oid = none := ho
      rwa [upd_ne _ _ hne] at this
    have hl : HLe G X := (((HLe.upd_new h2 _).trans (.upd_new ho _))).trans h
    refine ⟨del (del X oid) pid, (hl.del_of ho').del_of h2, .sl (del_same _ _) rfl, ?_, funext fun t => ?_, fun id ob h1 h2 => ?_⟩
    · show upd _ pid _ oid = none
      rw [upd_ne _ _ hne, del_ne _ hne, del_same]
    · show _ = upd (upd (del (del X oid) pid) pid _) oid _ t
      rw [upd_del, upd_get]
      split
      · rename_i e; rw [e]; exact hX
      · rename_i e
        rw [upd_get]
        split
        · rename_i e2; rw [e2]; exact hP
        · rw [del_ne _ e]
    · have e1 : id ≠ oid := fun e => by rw [e, upd_same] at h1; cases h1
      have e2 : id ≠ pid := fun e => by
        rw [e, upd_ne _ _ (Ne.symm hne)] at h1
        have : upd G pid ⟨piv, true, 1⟩ pid = none := h1
        rw [upd_same] at this; cases this
      rw [del_ne _ e2, del_ne _ e1]; exact h2
theorem own_add {G : AH} {vp : AV} {piv cells : List AV} {oid c i t : Nat} {v : AV} (hS : OwnS G vp piv) (ho : hpO G vp piv oid = none) (hl : piv.length = c) (ht : upd G oid ⟨cells, true, 1⟩ t = none) (hi : upd G oid ⟨cells, true, 1⟩ i = none) (hne : i ≠ t) :
    OwnS (upd G t ⟨[v], true, 1⟩) (.s i 0 (c + 1)) (piv ++ [v]) ∧ hpO (upd G t ⟨[v], true, 1⟩) (.s i 0 (c + 1)) (piv ++ [v]) oid = none ∧
    HLe (upd (hpO (upd G t ⟨[v], true, 1⟩) (.s i 0 (c + 1)) (piv ++ [v])) oid ⟨cells, true, 1⟩) (upd (upd (upd G oid ⟨cells, true, 1⟩) t ⟨[v], true, 1⟩) i ⟨piv ++ [v], true, 1⟩) ∧ HLe G (upd G t ⟨[v], true, 1⟩) := by
  have ho' : G oid = none := hS.hle.absent ho
  have e1 : t ≠ oid := fun e => by rw [e, upd_same] at ht; cases ht
  have e2 : i ≠ oid := fun e => by rw [e, upd_same] at hi; cases hi
  rw [upd_ne _ _ e1] at ht
  rw [upd_ne _ _ e2] at hi
  refine ⟨.sl (by rw [upd_ne _ _ hne]; exact hi) (by simp [hl]), ?_, ?_, .upd_new ht _⟩
  · show upd _ i _ oid = none
    rw [upd_ne _ _ (Ne.symm e2), upd_ne _ _ (Ne.symm e1)]; exact ho'
  · intro j ob hj
    have hj' : upd (upd (upd G t ⟨[v], true, 1⟩) i ⟨piv ++ [v], true, 1⟩) oid ⟨cells, true, 1⟩ j = some ob := hj
    rw [upd_get] at hj'
    split at hj'
    · rename_i e
      rw [e, upd_ne _ _ (Ne.symm e2), upd_ne _ _ (Ne.symm e1), upd_same]; exact hj'
    · rename_i e
      rw [upd_get] at hj' ⊢
      split at hj'
      · rename_i e3; rw [if_pos e3]; exact hj'
      · rename_i e3
        rw [if_neg e3]
        rw [upd_get] at hj' ⊢
        split at hj'
        · rename_i e4; rw [if_pos e4]; exact hj'
        · rename_i e4; rw [if_neg e4, upd_ne _ _ e]; exact hj'

theorem Rw.swap {G : AH} {cells : List AV} {w : Nat} {M : Nat → Nat → El D} {k j : Nat} {vz vw : AV} (h : Rw G cells w M) (hj : cells[j]? = some vz) (hk : cells[k]? = some vw) : Rw G ((cells.set k vz).set j vw) w (swapR M k j) := fun i c hc => by
  have hkl := (List.getElem?_eq_some_iff.mp hk).1
  have hjl := (List.getElem?_eq_some_iff.mp hj).1
  unfold swapR
  rw [List.getElem?_set] at hc
  by_cases e1 : j = i
  · subst e1
    rw [if_pos rfl, if_pos (by simpa using hjl)] at hc
    obtain rfl := Option.some.inj hc
    by_cases e2 : j = k
    · subst e2
      rw [if_pos rfl]
      exact h _ _ hk
    · rw [if_neg e2, if_pos rfl]
      exact h _ _ hk
  · rw [if_neg e1, List.getElem?_set] at hc
    by_cases e2 : k = i
    · subst e2
      rw [if_pos rfl, if_pos hkl] at hc
      obtain rfl := Option.some.inj hc
      rw [if_pos rfl]
      exact h _ _ hj
    · rw [if_neg e2] at hc
      rw [if_neg (Ne.symm e2), if_neg (Ne.symm e1)]
      exact h _ _ hc
theorem Rw.set {G : AH} {cells : List AV} {w : Nat} {M N : Nat → Nat → El D} {k : Nat} {v : AV} (h : Rw G cells w M) (hv : Cs G v (tabN w fun j => (N k j).v)) (hN : ∀ i, i ≠ k → N i = M i) : Rw G (cells.set k v) w N := fun i c hc => by
  rw [List.getElem?_set] at hc
  by_cases e : k = i
  · subst e
    rw [if_pos rfl] at hc
    split at hc
    · obtain rfl := Option.some.inj hc; exact hv
    · cases hc
  · rw [if_neg e] at hc
    rw [hN i (Ne.symm e)]
    exact h _ _ hc

structure RSt (D : Desc) [Desc.Ok D] where
  c : Nat
  k : Nat
  p : Nat → Nat
  cells : List AV
  M : Nat → Nat → El D
  G : AH
  vp : AV

set_option maxHeartbeats 8000000 in
theorem r09_Eliminate_calls (hD : D.Small) [Fld (El D)] {n w : Nat} {M : Nat → Nat → El D} {vm vy : AV} {H : AH} (hM : ModS H D vm) (hR : MatS H vy n w M) (hw : 0 < w) (hw2 : w ≤ 1000000) (hn : n ≤ 1000000) :
    ACalls Try.prog n_r09_Eliminate [fd D vm, vy, I (w : Nat)] H (fun r H' => HLe H H' ∧ ∃ (c k : Nat) (p : Nat → Nat) (N : Nat → Nat → El D) (vl vp : AV),
      r = .tu [vl, vp] ∧ MatS H' vl n w N ∧ Cs H' vp (tabN k p) ∧ GJ n c k N p ∧ c ≤ w ∧ (c = w ∨ k = n) ∧ Eqv w n N M) := by
  refine calls_of F_r09_Eliminate hmix (by show 3 ≤ 137; decide) ?_
  unfold s_r09_Eliminate
  (refine stpU ?_; repeat (refine Al4.mk ?_; intro _ _ _ _; refine stpU ?_))
  refine bXg (cs := [I D.p, I D.m, vm]) rfl ?_
  intro b3 H1 h3 l1 f3 _
  replace hM := hM.mono l1
  (refine stpU ?_; repeat (refine Al4.mk ?_; intro _ _ _ _; refine stpU ?_))
  refine cA (r09_Copy_calls (hR.mono l1) hw hw2 hn) ?_
  rintro vx _ ⟨G0, cells0, l0, hS0, rfl, hcl0, hRw0⟩
  (refine stpU ?_; repeat (refine Al4.mk ?_; intro _ _ _ _; refine stpU ?_))
  refine W_loopF (X := RSt D) (fun s => [(2, I (w : Nat)), (3, .p b3 0), (8, vx), (9, s.vp), (10, I (s.k : Nat)), (11, I (s.c : Nat))]) (fun s => hpO (hpO s.G s.vp (tabN s.k s.p)) vx s.cells)
    (fun s => s.c ≤ w ∧ GJ n s.c s.k s.M s.p ∧ Eqv w n s.M M ∧ HLe H1 s.G ∧ OwnS s.G s.vp (tabN s.k s.p) ∧ OwnS (hpO s.G s.vp (tabN s.k s.p)) vx s.cells ∧ s.cells.length = n ∧ Rw s.G s.cells w s.M) (fun s => w - s.c) ⟨0, 0, fun _ => 0, cells0, M, G0, .ns⟩
    ⟨Nat.zero_le _, GJ.start _ _ _, .refl _ _ _, l0, .nil _, hS0, hcl0, hRw0⟩ ⟨rfl, rfl, rfl, rfl, rfl, rfl, trivial⟩ (.refl _) ?_
  rintro ⟨c, k, p, cells, M1, G, vy⟩ ⟨hcw0, hGJ, hEq, lG, hS, hO, hcl, hRw⟩
  dsimp only at hcw0 hGJ hEq lG hS hO hcl hRw ⊢
  have hCx : Cs (hpO (hpO G vy (tabN k p)) vx cells) vx cells := hO.cs
  have hfin : MatS (hpO (hpO G vy (tabN k p)) vx cells) vx n w M1 := ⟨cells, hCx, hcl, hRw.mono (hS.hle.trans hO.hle)⟩
  have hpv : Cs (hpO (hpO G vy (tabN k p)) vx cells) vy (tabN k p) := hS.cs.mono hO.hle
  have lH : HLe H (hpO (hpO G vy (tabN k p)) vx cells) := l1.trans (lG.trans (hS.hle.trans hO.hle))
  by_cases hcw : c < w
  rotate_left
  · (refine stpU ?_; repeat (refine Al4.mk ?_; intro _ _ _ _; refine stpU ?_))
    exact ⟨lH, c, k, p, M1, vx, vy, rfl, hfin, hpv, hGJ, hcw0, .inl (by omega), hEq⟩
  by_cases hk : k < n
  rotate_left
  · (refine stpU ?_; repeat (refine Al4.mk ?_; intro _ _ _ _; refine stpU ?_))
    exact ⟨lH, c, k, p, M1, vx, vy, rfl, hfin, hpv, hGJ, hcw0, .inr (by have := hGJ.rn; omega), hEq⟩
  clear hfin hpv lH
  obtain ⟨oid, rfl, ho⟩ : ∃ oid, vx = .s oid 0 n ∧ hpO G vy (tabN k p) oid = none := by
    rcases hO with ⟨_, e⟩ | ⟨oid, e, ho⟩
    · rw [e] at hcl; simp at hcl; omega
    · exact ⟨oid, by rw [e, hcl], ho⟩
  clear hO
  rw [show hpO (hpO G vy (tabN k p)) (.s oid 0 n) cells = upd (hpO G vy (tabN k p)) oid ⟨cells, true, 1⟩ from rfl] at hCx ⊢
  obtain ⟨Hx, hHx⟩ : ∃ X, X = upd (hpO G vy (tabN k p)) oid ⟨cells, true, 1⟩ := ⟨_, rfl⟩
  have fo : Hx oid = some ⟨cells, true, 1⟩ := by rw [hHx]; exact upd_same _ _ _
  have lX : HLe G Hx := by rw [hHx]; exact hS.hle.trans (.upd_new ho _)
  rw [← hHx] at hCx ⊢
  (refine stpV ?_; repeat (refine Al4.mk ?_; intro _ _ _ _; refine stpV ?_))
  refine W_block ?_
  (refine stpV ?_; repeat (refine Al4.mk ?_; intro _ _ _ _; refine stpV ?_))
  refine W_cutT (X := Nat) (fun j => [(2, I (w : Nat)), (3, .p b3 0), (8, .s oid 0 n), (9, vy), (10, I (k : Nat)), (11, I (c : Nat)), (12, I (j : Nat))]) (fun _ => Hx)
    (fun j => k ≤ j ∧ j ≤ n ∧ (∀ i, k ≤ i → i < j → M1 i c = 0) ∧ (j < n → M1 j c ≠ 0)) ?_ ?_
  · refine W_block ?_
    refine W_loopF (X := Nat) (fun j => [(2, I (w : Nat)), (3, .p b3 0), (8, .s oid 0 n), (9, vy), (10, I (k : Nat)), (11, I (c : Nat)), (12, I (j : Nat))]) (fun _ => Hx)
      (fun j => k ≤ j ∧ j ≤ n ∧ (∀ i, k ≤ i → i < j → M1 i c = 0)) (fun j => n - j) k ⟨Nat.le_refl _, by omega, fun i h1 h2 => by omega⟩ ⟨rfl, rfl, rfl, rfl, rfl, rfl, rfl, trivial⟩ (.refl _) ?_
    rintro j ⟨h1, h2, h3⟩
    by_cases hj : j < n
    · have hw' : cells[j]? = some cells[j] := List.getElem?_eq_getElem (by omega)
      obtain ⟨vz, hz⟩ : ∃ v, v = cells[j] := ⟨_, rfl⟩
      rw [← hz] at hw'
      have hCz := (hRw j _ hw').mono lX
      have r1 : rdc Hx oid j = some vz := rdc_of fo hw'
      have r2 : (tabN w fun d => (M1 j d).v)[c]? = some (I (M1 j c).v) := tabN_get _ hcw
      by_cases hz0 : M1 j c = 0
      · have hz' : (M1 j c).v = 0 := by rw [hz0]; rfl
        (refine stpU ?_; repeat (refine Al4.mk ?_; intro _ _ _ _; refine stpU ?_))
        refine ⟨j + 1, ⟨by omega, hj, fun i a b => ?_⟩, by omega, ⟨rfl, rfl, rfl, rfl, rfl, rfl, rfl, trivial⟩, .refl _⟩
        by_cases e : i = j
        · rw [e]; exact hz0
        · exact h3 i a (by omega)
      · have hz' : (M1 j c).v ≠ 0 := fun h => hz0 (El.ext h)
        (refine stpU ?_; repeat (refine Al4.mk ?_; intro _ _ _ _; refine stpU ?_))
        exact ⟨j, ⟨h1, h2, h3, fun _ => hz0⟩, ⟨rfl, rfl, rfl, rfl, rfl, rfl, rfl, trivial⟩, .refl _⟩
    · (refine stpU ?_; repeat (refine Al4.mk ?_; intro _ _ _ _; refine stpU ?_))
      exact ⟨j, ⟨h1, h2, h3, fun h => absurd h hj⟩, ⟨rfl, rfl, rfl, rfl, rfl, rfl, rfl, trivial⟩, .refl _⟩
  rintro j ⟨h1, h2, h3, h4⟩
  by_cases hj : j < n
  rotate_left
  · (refine stpU ?_; repeat (refine Al4.mk ?_; intro _ _ _ _; refine stpU ?_))
    refine ⟨⟨c + 1, k, p, cells, M1, G, vy⟩, ⟨hcw, hGJ.skip (fun i a b => h3 i a (by omega)), hEq, lG, hS, .sl ho hcl, hcl, hRw⟩, by dsimp only; omega, ⟨rfl, rfl, rfl, rfl, rfl, rfl, trivial⟩, ?_⟩
    rw [hHx]; exact .refl _
  have hz := h4 hj
  -- the exchange
  obtain ⟨vz, hvz⟩ : ∃ v, cells[j]? = some v := ⟨_, List.getElem?_eq_getElem (by omega)⟩
  obtain ⟨vw, hvw⟩ : ∃ v, cells[k]? = some v := ⟨_, List.getElem?_eq_getElem (by omega)⟩
  have r1 : rdc Hx oid j = some vz := rdc_of fo hvz
  have r2 : rdc Hx oid k = some vw := rdc_of fo hvw
  refine W_cut (X := Unit) (fun _ => [(2, I (w : Nat)), (3, .p b3 0), (8, .s oid 0 n), (9, vy), (10, I (k : Nat)), (11, I (c : Nat)), (12, I (j : Nat))]) (fun _ => Hx) (fun _ => True) ?_ ?_
  · (refine stpU ?_; repeat (refine Al4.mk ?_; intro _ _ _ _; refine stpU ?_))
    exact ⟨(), trivial, ⟨rfl, rfl, rfl, rfl, rfl, rfl, rfl, trivial⟩, .refl _⟩
  rintro _ _
  refine W_cut (X := Unit) (fun _ => [(2, I (w : Nat)), (3, .p b3 0), (8, .s oid 0 n), (9, vy), (10, I (k : Nat)), (11, I (c : Nat))]) (fun _ => upd (hpO G vy (tabN k p)) oid ⟨(cells.set k vz).set j vw, true, 1⟩) (fun _ => True) ?_ ?_
  · (refine stpU ?_; repeat (refine Al4.mk ?_; intro _ _ _ _; refine stpU ?_))
    refine sV (off := k) (v := vz) rfl fo rfl (hRw _ _ hvz).one (by omega) ?_
    (refine stpU ?_; repeat (refine Al4.mk ?_; intro _ _ _ _; refine stpU ?_))
    refine sV (off := j) (v := vw) rfl (upd_same _ _ _) rfl (hRw _ _ hvw).one (by simp; omega) ?_
    rw [upd_upd, hHx, upd_upd]
    (refine stpU ?_; repeat (refine Al4.mk ?_; intro _ _ _ _; refine stpU ?_))
    exact ⟨(), trivial, ⟨rfl, rfl, rfl, rfl, rfl, rfl, trivial⟩, .refl _⟩
  rintro _ _
  have hRw1 := hRw.swap hvz hvw
  have hcl1 : ((cells.set k vz).set j vw).length = n := by simp [hcl]
  clear r1 r2 hvz hvw fo lX hCx hHx Hx
  generalize (cells.set k vz).set j vw = cells1 at *
  obtain ⟨S1, hS1⟩ : ∃ S, S = swapR M1 k j := ⟨_, rfl⟩
  rw [← hS1] at hRw1
  have hx1 : S1 k c = M1 j c := by rw [hS1]; unfold swapR; rw [if_pos rfl]
  have hx0 : S1 k c ≠ 0 := by rw [hx1]; exact hz
  -- the scaling
  refine W_cut (X := AH × List AV) (fun _ => [(2, I (w : Nat)), (3, .p b3 0), (8, .s oid 0 n), (9, vy), (10, I (k : Nat)), (11, I (c : Nat))]) (fun x => upd (hpO x.1 vy (tabN k p)) oid ⟨x.2, true, 1⟩)
    (fun x => HLe H1 x.1 ∧ OwnS x.1 vy (tabN k p) ∧ hpO x.1 vy (tabN k p) oid = none ∧ x.2.length = n ∧ Rw x.1 x.2 w (scaleR S1 k (inv (S1 k c)))) ?_ ?_
  · obtain ⟨Hx, hHx⟩ : ∃ X, X = upd (hpO G vy (tabN k p)) oid ⟨cells1, true, 1⟩ := ⟨_, rfl⟩
    have fo : Hx oid = some ⟨cells1, true, 1⟩ := by rw [hHx]; exact upd_same _ _ _
    have lX : HLe G Hx := by rw [hHx]; exact hS.hle.trans (.upd_new ho _)
    obtain ⟨vz, hvz⟩ : ∃ v, cells1[k]? = some v := ⟨_, List.getElem?_eq_getElem (by omega)⟩
    have r1 : rdc Hx oid k = some vz := rdc_of fo hvz
    have hCz := (hRw1 k _ hvz).mono lX
    have r2 : (tabN w fun d => (S1 k d).v)[c]? = some (I (S1 k c).v) := tabN_get _ hcw
    rw [← hHx]
    by_cases h1' : (S1 k c).v = 1
    · have e1 : S1 k c = 1 := El.ext h1'
      have e2 : inv (S1 k c) = (1 : El D) := by rw [e1]; exact (inv_of_mul (Alg.mul_one 1)).symm
      (refine stpU ?_; repeat (refine Al4.mk ?_; intro _ _ _ _; refine stpU ?_))
      refine ⟨(G, cells1), ⟨lG, hS, ho, hcl1, ?_⟩, ⟨rfl, rfl, rfl, rfl, rfl, rfl, trivial⟩, ?_⟩
      · dsimp only; rw [e2, scaleR_one]; exact hRw1
      · dsimp only; rw [hHx]; exact .refl _
    · (refine stpU ?_; repeat (refine Al4.mk ?_; intro _ _ _ _; refine stpU ?_))
      refine ldn_own rfl (lX _ _ (lG _ _ f3)) rfl ?_
      (refine stpU ?_; repeat (refine Al4.mk ?_; intro _ _ _ _; refine stpU ?_))
      refine ldn_own rfl (lX _ _ (lG _ _ f3)) rfl ?_
      (refine stpU ?_; repeat (refine Al4.mk ?_; intro _ _ _ _; refine stpU ?_))
      refine cAt (r04_Inv_calls hD (S1 k c).v (hM.mono (lG.trans lX))) ?_
      rintro _ H4 ⟨rfl, l4⟩
      refine ⟨l4, ?_⟩
      refine cAt (r09_scale_calls hD ((inv (el ((S1 k c).v : Int)) : El D).v : Int) (V := S1 k) ((hM.mono (lG.trans lX)).mono l4) (hCz.mono l4) hw2) ?_
      rintro _ H5 ⟨⟨id, rfl, hid, hnew⟩, l5⟩
      refine ⟨l5, ?_⟩
      have lXX : HLe (upd (hpO G vy (tabN k p)) oid ⟨cells1, true, 1⟩) H5 := by rw [← hHx]; exact l4.trans l5
      obtain ⟨G', k1, k2, k3, k4, k5⟩ := own_split hS ho lXX
      have hidG : upd (hpO G vy (tabN k p)) oid ⟨cells1, true, 1⟩ id = none := by rw [← hHx]; exact l4.absent hid
      have hnG := Cs.own (k5 _ _ hidG hnew)
      rw [tabN_len, el_of, el_of] at hnG
      (refine stpU ?_; repeat (refine Al4.mk ?_; intro _ _ _ _; refine stpU ?_))
      refine sV (off := k) (v := .s id 0 w) rfl (l5 _ _ (l4 _ _ fo)) rfl rfl (by omega) ?_
      rw [k4, upd_upd]
      (refine stpU ?_; repeat (refine Al4.mk ?_; intro _ _ _ _; refine stpU ?_))
      refine ⟨(G', cells1.set k (.s id 0 w)), ⟨lG.trans k1, k2, k3, by simp [hcl1], ?_⟩, ⟨rfl, rfl, rfl, rfl, rfl, rfl, trivial⟩, .refl _⟩
      refine (hRw1.mono k1).set ?_ (fun i hi => funext fun d => if_neg hi)
      show Cs G' _ (tabN w fun d => (scaleR S1 k (inv (S1 k c)) k d).v)
      rw [tabN_congr (g := fun d => (inv (S1 k c) * S1 k d : El D).v) fun d _ => by unfold scaleR; rw [if_pos rfl]]
      exact hnG
  clear hRw1 hcl1 hS ho lG hRw
  rintro ⟨G1, cells2⟩ ⟨lG, hS, ho, hcl2, hRw2⟩
  dsimp only at lG hS ho hcl2 hRw2 ⊢
  obtain ⟨S2, hS2⟩ : ∃ S, S = scaleR S1 k (inv (S1 k c)) := ⟨_, rfl⟩
  rw [← hS2] at hRw2
  have hgj : gjR M1 k j c = elimR S2 k c := by unfold gjR; rw [hS2, hx1, hS1]
  -- the clearing
  refine W_cut (X := AH × List AV) (fun _ => [(2, I (w : Nat)), (3, .p b3 0), (8, .s oid 0 n), (9, vy), (10, I (k : Nat)), (11, I (c : Nat))]) (fun x => upd (hpO x.1 vy (tabN k p)) oid ⟨x.2, true, 1⟩)
    (fun x => HLe H1 x.1 ∧ OwnS x.1 vy (tabN k p) ∧ hpO x.1 vy (tabN k p) oid = none ∧ x.2.length = n ∧ Rw x.1 x.2 w (gjR M1 k j c)) ?_ ?_
  · (refine stpU ?_; repeat (refine Al4.mk ?_; intro _ _ _ _; refine stpU ?_))
    refine W_loopF (X := Nat × AH × List AV) (fun x => [(2, I (w : Nat)), (3, .p b3 0), (8, .s oid 0 n), (9, vy), (10, I (k : Nat)), (11, I (c : Nat)), (13, I (x.1 : Nat))]) (fun x => upd (hpO x.2.1 vy (tabN k p)) oid ⟨x.2.2, true, 1⟩)
      (fun x => x.1 ≤ n ∧ HLe H1 x.2.1 ∧ OwnS x.2.1 vy (tabN k p) ∧ hpO x.2.1 vy (tabN k p) oid = none ∧ x.2.2.length = n ∧ Rw x.2.1 x.2.2 w (elimP S2 k c x.1)) (fun x => n - x.1) (0, G1, cells2) ⟨Nat.zero_le _, lG, hS, ho, hcl2, by dsimp only; rw [elimP_zero]; exact hRw2⟩ ⟨rfl, rfl, rfl, rfl, rfl, rfl, rfl, trivial⟩ (.refl _) ?_
    clear hRw2 hcl2 hS ho lG
    rintro ⟨i, G, cells⟩ ⟨hi, lG, hS, ho, hcl, hRw⟩
    dsimp only at hi lG hS ho hcl hRw ⊢
    obtain ⟨Hx, hHx⟩ : ∃ X, X = upd (hpO G vy (tabN k p)) oid ⟨cells, true, 1⟩ := ⟨_, rfl⟩
    have fo : Hx oid = some ⟨cells, true, 1⟩ := by rw [hHx]; exact upd_same _ _ _
    have lX : HLe G Hx := by rw [hHx]; exact hS.hle.trans (.upd_new ho _)
    rw [← hHx]
    by_cases hin : i < n
    rotate_left
    · have ei : i = n := by omega
      (refine stpU ?_; repeat (refine Al4.mk ?_; intro _ _ _ _; refine stpU ?_))
      refine ⟨(G, cells), ⟨lG, hS, ho, hcl, ?_⟩, ⟨rfl, rfl, rfl, rfl, rfl, rfl, trivial⟩, ?_⟩
      · intro t v hv
        have htn : t < n := by rw [← hcl]; exact (List.getElem?_eq_some_iff.mp hv).1
        have := hRw t v hv
        rw [ei] at this
        dsimp only
        rw [tabN_congr (g := fun d => (elimP S2 k c n t d).v) fun d _ => by rw [hgj, elimP_all htn]]
        exact this
      · dsimp only; rw [hHx]; exact .refl _
    obtain ⟨vz, hvz⟩ : ∃ v, cells[i]? = some v := ⟨_, List.getElem?_eq_getElem (by omega)⟩
    obtain ⟨vw, hvw⟩ : ∃ v, cells[k]? = some v := ⟨_, List.getElem?_eq_getElem (by omega)⟩
    have r1 : rdc Hx oid i = some vz := rdc_of fo hvz
    have r3 : rdc Hx oid k = some vw := rdc_of fo hvw
    have hCz := (hRw i _ hvz).mono lX
    have hCw := (hRw k _ hvw).mono lX
    rw [elimP_at (i := i) (.inl (Nat.le_refl _))] at hCz
    rw [elimP_at (.inr rfl)] at hCw
    have r2 : (tabN w fun d => (S2 i d).v)[c]? = some (I (S2 i c).v) := tabN_get _ hcw
    by_cases hik : i = k
    · (refine stpU ?_; repeat (refine Al4.mk ?_; intro _ _ _ _; refine stpU ?_))
      refine ⟨(i + 1, G, cells), ⟨by omega, lG, hS, ho, hcl, ?_⟩, by dsimp only; omega, ⟨rfl, rfl, rfl, rfl, rfl, rfl, rfl, trivial⟩, ?_⟩
      · dsimp only; rw [elimP_skip (.inl hik)]; exact hRw
      · dsimp only; rw [hHx]; exact .refl _
    by_cases hz2 : (S2 i c).v = 0
    · (refine stpU ?_; repeat (refine Al4.mk ?_; intro _ _ _ _; refine stpU ?_))
      refine ⟨(i + 1, G, cells), ⟨by omega, lG, hS, ho, hcl, ?_⟩, by dsimp only; omega, ⟨rfl, rfl, rfl, rfl, rfl, rfl, rfl, trivial⟩, ?_⟩
      · dsimp only; rw [elimP_skip (.inr (El.ext hz2))]; exact hRw
      · dsimp only; rw [hHx]; exact .refl _
    · (refine stpU ?_; repeat (refine Al4.mk ?_; intro _ _ _ _; refine stpU ?_))
      refine ldn_own rfl (lX _ _ (lG _ _ f3)) rfl ?_
      (refine stpU ?_; repeat (refine Al4.mk ?_; intro _ _ _ _; refine stpU ?_))
      refine ldn_own rfl (lX _ _ (lG _ _ f3)) rfl ?_
      (refine stpU ?_; repeat (refine Al4.mk ?_; intro _ _ _ _; refine stpU ?_))
      refine cAt (r04_Neg_calls hD (S2 i c).v _ _) ?_
      rintro _ H4 ⟨rfl, l4⟩
      refine ⟨l4, ?_⟩
      refine cAt (r09_AddTo_calls hD ((-el ((S2 i c).v : Int) : El D).v : Int) (V := S2 i) (U := S2 k) ((hM.mono (lG.trans lX)).mono l4) (hCz.mono l4) (hCw.mono l4) hw2) ?_
      rintro _ H5 ⟨⟨id, rfl, hid, hnew⟩, l5⟩
      refine ⟨l5, ?_⟩
      have lXX : HLe (upd (hpO G vy (tabN k p)) oid ⟨cells, true, 1⟩) H5 := by rw [← hHx]; exact l4.trans l5
      obtain ⟨G', k1, k2, k3, k4, k5⟩ := own_split hS ho lXX
      have hidG : upd (hpO G vy (tabN k p)) oid ⟨cells, true, 1⟩ id = none := by rw [← hHx]; exact l4.absent hid
      have hnG := Cs.own (k5 _ _ hidG hnew)
      rw [tabN_len, el_of, el_of] at hnG
      (refine stpU ?_; repeat (refine Al4.mk ?_; intro _ _ _ _; refine stpU ?_))
      refine sV (off := i) (v := .s id 0 w) rfl (l5 _ _ (l4 _ _ fo)) rfl rfl (by omega) ?_
      rw [k4, upd_upd]
      (refine stpU ?_; repeat (refine Al4.mk ?_; intro _ _ _ _; refine stpU ?_))
      refine ⟨(i + 1, G', cells.set i (.s id 0 w)), ⟨by omega, lG.trans k1, k2, k3, by simp [hcl], ?_⟩, by dsimp only; omega, ⟨rfl, rfl, rfl, rfl, rfl, rfl, rfl, trivial⟩, .refl _⟩
      dsimp only
      rw [← elimP_step hik]
      refine (hRw.mono k1).set ?_ (fun t ht => if_neg ht)
      rw [if_pos rfl, tabN_congr (g := fun d => (S2 i d + -(S2 i c) * S2 k d : El D).v) fun d _ => by rw [elimP_at (j := i) (.inl (Nat.le_refl _)), elimP_at (.inr rfl)]]
      exact hnG
  clear hRw2 hcl2 hS ho lG
  rintro ⟨G2, cells3⟩ ⟨lG, hS, ho, hcl3, hRw3⟩
  dsimp only at lG hS ho hcl3 hRw3 ⊢
  have hlen : (tabN k p).length = k := tabN_len k p
  have hS2 := OwnS.add (C := ⟨cells3, true, 1⟩) hS ho
  rw [hpO_comm hS2]
  (refine stpU ?_; repeat (refine Al4.mk ?_; intro _ _ _ _; refine stpU ?_))
  refine ap1 (v := I (c : Nat)) rfl hS2 rfl (by decide) rfl rfl (by decide) (by omega) ?_
  intro t i ht hi hit
  obtain ⟨k1, k2, k3, k4⟩ := own_add (v := I (c : Nat)) hS ho hlen ht hi hit
  rw [hlen]
  have ep : tabN k p ++ [I (c : Nat)] = tabN (k + 1) fun i => if i = k then c else p i := tabN_snoc (fun i hi => by rw [if_neg (by omega)]) (by rw [if_pos rfl])
  rw [ep] at k1 k2 k3
  (refine stpU ?_; repeat (refine Al4.mk ?_; intro _ _ _ _; refine stpU ?_))
  refine ⟨⟨c + 1, k + 1, fun i => if i = k then c else p i, cells3, gjR M1 k j c, _, .s i 0 (k + 1)⟩, ⟨hcw, hGJ.step h1 hj hz, (gj_eqv M1 hk hj hz).trans hEq, lG.trans k4, k1, .sl k2 hcl3, hcl3, hRw3.mono k4⟩, by dsimp only; omega, ⟨rfl, rfl, rfl, rfl, rfl, rfl, trivial⟩, ?_⟩
  rw [ep]
  exact k3

end Go.Proofs.Ytdkdainipanacaa
