/- Contract of matrix.eliminate. Condition: the field's object stands in memory, the rows are one's own. -/
import Derived.Test.YtdkdainipanacaaHa
namespace Go.Proofs.Ytdkdainipanacaa
open Go Go.RowKit Alg
set_option linter.unusedSimpArgs false
set_option linter.unusedVariables false
set_option linter.constructorNameAsVariable false
set_option linter.unusedSectionVars false
attribute [local irreducible] aopL W
variable {D : Desc} [Desc.Ok D]

section
variable {P : Program} {pv : Bool} {rs : List SOp} {a : Nat → AV} {H H0 : AH} {K : (Nat → AV) → AH → Prop}
/-- a box is written -/
theorem sB {x y : SV} {id sz : Nat} {z v : AV} (hx : evS a x = .p id 0) (hH : H = upd H0 id ⟨[z], true, sz⟩) (hv : evS a y = v) (hc : cellsOf v = some [v]) (k : aopL P pv rs a (upd H0 id ⟨[v], true, sz⟩) K) : aopL P pv (⟨none, .st 1 x y, none⟩ :: rs) a H K := by
  subst hH
  refine sV (off := 0) (v := v) hx (upd_same _ _ _) hv hc (by simp) ?_
  rw [upd_upd]
  exact k
end

structure ESt (D : Desc) [Desc.Ok D] where
  c : Nat
  k : Nat
  p : Nat → Nat
  ids : Nat → Nat
  M : Nat → Nat → El D
  vp : AV
  det : Int

/-- the rows before i are cleared -/
noncomputable def elimP (S : Nat → Nat → El D) (r c i : Nat) : Nat → Nat → El D := fun j d => if j ≠ r ∧ j < i then S j d + -(S j c) * S r d else S j d
theorem elimP_at {S : Nat → Nat → El D} {r c i j : Nat} (h : i ≤ j ∨ j = r) : elimP S r c i j = S j := funext fun d => if_neg (by omega)
theorem elimP_zero (S : Nat → Nat → El D) (r c : Nat) : elimP S r c 0 = S := funext fun j => elimP_at (.inl (Nat.zero_le _))
theorem elimP_skip {S : Nat → Nat → El D} {r c i : Nat} (h : i = r ∨ S i c = 0) : elimP S r c (i + 1) = elimP S r c i := funext fun j => by
  by_cases e : j = i
  · subst e
    rw [elimP_at (i := j) (.inl (Nat.le_refl _))]
    rcases h with h | h
    · exact elimP_at (.inr h)
    · funext d
      unfold elimP
      split
      · rw [h, neg_zero, zero_mul, Alg.add_zero]
      · rfl
  · funext d
    unfold elimP
    by_cases e2 : j ≠ r ∧ j < i
    · rw [if_pos e2, if_pos ⟨e2.1, by omega⟩]
    · rw [if_neg e2, if_neg (by omega)]
theorem elimP_step {S : Nat → Nat → El D} {r c i : Nat} (h : i ≠ r) : (fun j => if j = i then fun d => elimP S r c i i d + -(S i c) * elimP S r c i r d else elimP S r c i j) = elimP S r c (i + 1) := funext fun j => by
  by_cases e : j = i
  · subst e
    rw [if_pos rfl]
    funext d
    rw [elimP_at (i := j) (.inl (Nat.le_refl _)), elimP_at (.inr rfl)]
    unfold elimP
    rw [if_pos ⟨h, by omega⟩]
  · rw [if_neg e]
    funext d
    unfold elimP
    by_cases e2 : j ≠ r ∧ j < i
    · rw [if_pos e2, if_pos ⟨e2.1, by omega⟩]
    · rw [if_neg e2, if_neg (by omega)]
theorem elimP_all {S : Nat → Nat → El D} {r c n j d : Nat} (h : j < n) : elimP S r c n j d = elimR S r c j d := by
  unfold elimP elimR
  by_cases e : j = r
  · subst e; rw [if_neg (by omega), if_pos rfl]
  · rw [if_pos ⟨e, h⟩, if_neg e]
theorem swapR_self (M : Nat → Nat → El D) (i : Nat) : swapR M i i = M := funext fun k => by
  unfold swapR
  split
  · rename_i e; rw [e]
  · rfl
theorem scaleR_one (M : Nat → Nat → El D) (i : Nat) : scaleR M i 1 = M := funext fun k => funext fun c => by
  unfold scaleR
  split
  · rename_i e; rw [e, Alg.one_mul]
  · rfl

section
variable {G : AH} {oid n w : Nat} {ids : Nat → Nat} {M : Nat → Nat → El D} {vp : AV} {cells : List AV}
theorem rowsK_hpO (hS : OwnS G vp cells) (O : OwnK (hpO G vp cells) oid n n ids) : OwnK G oid n n ids ∧ OwnS (rowsK G oid n w n ids M) vp cells ∧ rowsK (hpO G vp cells) oid n w n ids M = hpO (rowsK G oid n w n ids M) vp cells := by
  have O' := O.low hS.hle
  rcases hS with ⟨rfl, rfl⟩ | ⟨id, rfl, h2⟩
  · exact ⟨O', .nil _, rfl⟩
  · have h1 : id ≠ oid := fun e => by
      have : upd G id ⟨cells, true, 1⟩ oid = none := O.out
      rw [← e, upd_same] at this
      cases this
    have h3 : ∀ i, i < n → ids i ≠ id := fun i hi e => by
      have : upd G id ⟨cells, true, 1⟩ (ids i) = none := O.row i hi
      rw [e, upd_same] at this
      cases this
    refine ⟨O', .sl ?_ rfl, (rowsK_upd h1 h3).symm⟩
    rw [rowsK_old h1 h3]
    exact h2
end

set_option maxHeartbeats 8000000 in
theorem matrix_eliminate_calls (hD : D.Small) [Fld (El D)] {G : AH} {oid n w : Nat} {ids : Nat → Nat} {M : Nat → Nat → El D} {vx : AV} (hG : GFS D G vx) (O : OwnK G oid n n ids) (hn : n ≤ 1000000) (hw : w ≤ 1000000) :
    ACalls Try.prog n_matrix_eliminate [vx, .s oid 0 n, I (w : Nat), .ns] (rowsK G oid n w n ids M) (fun r H' => ∃ (c k : Nat) (p ids' : Nat → Nat) (M' : Nat → Nat → El D) (vp : AV) (det : Int) (G2 : AH),
      r = .tu [vp, I det] ∧ HLe G G2 ∧ OwnK G2 oid n n ids' ∧ HLe (rowsK G2 oid n w n ids' M') H' ∧ Cs G2 vp (tabN k p) ∧ GJ n c k M' p ∧ c ≤ w ∧ (c = w ∨ k = n) ∧ Eqv w n M' M) := by
  refine calls_of F_matrix_eliminate hmix (by show 4 ≤ 125; decide) ?_
  unfold s_matrix_eliminate
  have hcx : cellsOf vx = some [vx] := by obtain ⟨gid, eid, lid, xm, z, g, lg, rfl, -⟩ := hG; rfl
  (refine stpU ?_; repeat (refine Al4.mk ?_; intro _ _ _ _; refine stpU ?_))
  refine bX hcx ?_
  intro gb hgb
  obtain ⟨g1, g2, g3⟩ := rowsK_none O hgb
  rw [rowsK_upd g2 g3]
  have O1 := O.upd (ob := ⟨[vx], true, 0⟩) g2 g3
  have l1 : HLe G (upd G gb ⟨[vx], true, 0⟩) := .upd_new g1 _
  have b1 := upd_same G gb ⟨[vx], true, 0⟩
  generalize upd G gb ⟨[vx], true, 0⟩ = G1 at *
  (refine stpU ?_; repeat (refine Al4.mk ?_; intro _ _ _ _; refine stpU ?_))
  refine bX (cs := [.s oid 0 n]) rfl ?_
  intro rb hrb
  obtain ⟨g4, g5, g6⟩ := rowsK_none O1 hrb
  rw [rowsK_upd g5 g6]
  have O2 := O1.upd (ob := ⟨[.s oid 0 n], true, 0⟩) g5 g6
  have l2 : HLe G1 (upd G1 rb ⟨[.s oid 0 n], true, 0⟩) := .upd_new g4 _
  have b2 := upd_same G1 rb ⟨[.s oid 0 n], true, 0⟩
  generalize upd G1 rb ⟨[.s oid 0 n], true, 0⟩ = G2 at *
  (refine stpU ?_; repeat (refine Al4.mk ?_; intro _ _ _ _; refine stpU ?_))
  refine bX (cs := [.ns]) rfl ?_
  intro ab hab
  obtain ⟨g7, g8, g9⟩ := rowsK_none O2 hab
  rw [rowsK_upd g8 g9]
  have O3 := O2.upd (ob := ⟨[.ns], true, 0⟩) g8 g9
  have l3 : HLe G2 (upd G2 ab ⟨[.ns], true, 0⟩) := .upd_new g7 _
  have b3 := upd_same G2 ab ⟨[.ns], true, 0⟩
  generalize upd G2 ab ⟨[.ns], true, 0⟩ = Gb at *
  have hGb : GFS D Gb vx := hG.mono (l1.trans (l2.trans l3))
  have lb : HLe G Gb := l1.trans (l2.trans l3)
  have bg : rdc Gb gb 0 = some vx := rdc_of (l3 _ _ (l2 _ _ b1)) rfl
  have br : rdc Gb rb 0 = some (.s oid 0 n) := rdc_of (l3 _ _ b2) rfl
  have ba : rdc Gb ab 0 = some .ns := rdc_of b3 rfl
  clear l1 l2 l3 b1 b2 b3 g1 g2 g3 g4 g5 g6 g7 g8 g9 hgb hrb hab O O1 O2 hG G1 G2
  (refine stpU ?_; repeat (refine Al4.mk ?_; intro _ _ _ _; refine stpU ?_))
  refine mF rfl ?_
  refine mX (v := .f n_matrix_eliminate_1 [.p rb 0, .p ab 0]) rfl ?_
  (refine stpU ?_; repeat (refine Al4.mk ?_; intro _ _ _ _; refine stpU ?_))
  refine W_loopF (X := ESt D) (fun s => [(2, I (w : Nat)), (4, .p gb 0), (5, .p rb 0), (10, I s.det), (11, .f n_matrix_eliminate_1 [.p rb 0, .p ab 0]), (12, s.vp), (13, I (s.c : Nat))]) (fun s => rowsK (hpO Gb s.vp (tabN s.k s.p)) oid n w n s.ids s.M)
    (fun s => s.c ≤ w ∧ GJ n s.c s.k s.M s.p ∧ Eqv w n s.M M ∧ OwnS Gb s.vp (tabN s.k s.p) ∧ OwnK (hpO Gb s.vp (tabN s.k s.p)) oid n n s.ids) (fun s => w - s.c) ⟨0, 0, fun _ => 0, ids, M, .ns, 1⟩
    ⟨Nat.zero_le _, GJ.start _ _ _, .refl _ _ _, .nil _, O3⟩ ⟨rfl, rfl, rfl, rfl, rfl, rfl, rfl, trivial⟩ (.refl _) ?_
  rintro ⟨c, k, p, ids1, M1, vy, det⟩ ⟨hcw0, hGJ, hEq, hS, O⟩
  dsimp only at hcw0 hGJ hEq hS O ⊢
  obtain ⟨Gp, hGp⟩ : ∃ X, X = hpO Gb vy (tabN k p) := ⟨_, rfl⟩
  have lp : HLe Gb Gp := by rw [hGp]; exact hS.hle
  have hCp : Cs Gp vy (tabN k p) := by rw [hGp]; exact hS.cs
  rw [← hGp] at O ⊢
  have hl : HLe Gp (rowsK Gp oid n w n ids1 M1) := rowsK_hle O
  have f1 : rdc (rowsK Gp oid n w n ids1 M1) rb 0 = some (.s oid 0 n) := rdc_mono (lp.trans hl) br
  have fC : Cs (rowsK Gp oid n w n ids1 M1) vy (tabN k p) := hCp.mono hl
  have hlen : (tabN k p).length = k := tabN_len k p
  have hkn := hGJ.rn
  by_cases hcw : c < w
  rotate_left
  · (refine stpU ?_; repeat (refine Al4.mk ?_; intro _ _ _ _; refine stpU ?_))
    exact ⟨c, k, p, ids1, M1, vy, det, Gp, rfl, lb.trans lp, O, .refl _, hCp, hGJ, hcw0, .inl (by omega), hEq⟩
  by_cases hk : k < n
  rotate_left
  · (refine stpU ?_; repeat (refine Al4.mk ?_; intro _ _ _ _; refine stpU ?_))
    exact ⟨c, k, p, ids1, M1, vy, det, Gp, rfl, lb.trans lp, O, .refl _, hCp, hGJ, hcw0, .inr (by omega), hEq⟩
  (refine stpU ?_; repeat (refine Al4.mk ?_; intro _ _ _ _; refine stpU ?_))
  refine aL ?_
  intro tb htb
  obtain ⟨g1, g2, g3⟩ := rowsK_none O htb
  refine sB (v := I (k : Nat)) rfl rfl (congrArg (fun z : Nat => I (z : Int)) hlen) rfl ?_
  refine aE ?_
  refine W_freeze (id := tb) (ob := ⟨[I (k : Nat)], true, 0⟩) (upd_same _ _ _) ?_
  rw [upd_upd, rowsK_upd g2 g3]
  have O5 := O.upd (ob := ⟨[I (k : Nat)], false, 0⟩) g2 g3
  have l5 : HLe Gp (upd Gp tb ⟨[I (k : Nat)], false, 0⟩) := .upd_new g1 _
  have b5 := upd_same Gp tb ⟨[I (k : Nat)], false, 0⟩
  generalize upd Gp tb ⟨[I (k : Nat)], false, 0⟩ = G5 at *
  have hl5 : HLe G5 (rowsK G5 oid n w n ids1 M1) := rowsK_hle O5
  have f5 : rdc (rowsK G5 oid n w n ids1 M1) tb 0 = some (I (k : Nat)) := rdc_mono hl5 (rdc_of b5 rfl)
  (refine stpU ?_; repeat (refine Al4.mk ?_; intro _ _ _ _; refine stpU ?_))
  refine aL ?_
  intro kb hkb
  obtain ⟨g4, g5, g6⟩ := rowsK_none O5 hkb
  refine sB (v := I (k : Nat)) rfl rfl rfl rfl ?_
  refine aE ?_
  refine W_cut (X := Nat) (fun j => [(2, I (w : Nat)), (4, .p gb 0), (5, .p rb 0), (10, I det), (11, .f n_matrix_eliminate_1 [.p rb 0, .p ab 0]), (12, vy), (13, I (c : Nat)), (14, .p tb 0), (15, .p kb 0)]) (fun j => upd (rowsK G5 oid n w n ids1 M1) kb ⟨[I (j : Nat)], true, 0⟩)
    (fun j => k ≤ j ∧ j ≤ n ∧ (∀ i, k ≤ i → i < j → M1 i c = 0) ∧ (j < n → M1 j c ≠ 0)) ?_ ?_
  · refine W_block ?_
    refine W_loopF (X := Nat) (fun j => [(2, I (w : Nat)), (4, .p gb 0), (5, .p rb 0), (10, I det), (11, .f n_matrix_eliminate_1 [.p rb 0, .p ab 0]), (12, vy), (13, I (c : Nat)), (14, .p tb 0), (15, .p kb 0)]) (fun j => upd (rowsK G5 oid n w n ids1 M1) kb ⟨[I (j : Nat)], true, 0⟩)
      (fun j => k ≤ j ∧ j ≤ n ∧ (∀ i, k ≤ i → i < j → M1 i c = 0)) (fun j => n - j) k ⟨Nat.le_refl _, by omega, fun i h1 h2 => by omega⟩ ⟨rfl, rfl, rfl, rfl, rfl, rfl, rfl, rfl, rfl, trivial⟩ (.refl _) ?_
    rintro j ⟨h1, h2, h3⟩
    have hlj : HLe G5 (upd (rowsK G5 oid n w n ids1 M1) kb ⟨[I (j : Nat)], true, 0⟩) := hl5.upd_of g4 _
    have q1 : rdc (upd (rowsK G5 oid n w n ids1 M1) kb ⟨[I (j : Nat)], true, 0⟩) rb 0 = some (.s oid 0 n) := rdc_mono (lp.trans (l5.trans hlj)) br
    have q2 : rdc (upd (rowsK G5 oid n w n ids1 M1) kb ⟨[I (j : Nat)], true, 0⟩) kb 0 = some (I (j : Nat)) := rdc_of (upd_same _ _ _) rfl
    by_cases hj : j < n
    · obtain ⟨r1, r2⟩ := rdK O5 (H := upd (rowsK G5 oid n w n ids1 M1) kb ⟨[I (j : Nat)], true, 0⟩) (.upd_new hkb _) hj
      have r3 := r2 c hcw
      by_cases hz : M1 j c = 0
      · have hz' : (M1 j c).v = 0 := by rw [hz]; rfl
        (refine stpU ?_; repeat (refine Al4.mk ?_; intro _ _ _ _; refine stpU ?_))
        refine sB (v := I ((j + 1 : Nat) : Int)) rfl rfl rfl rfl ?_
        (refine stpU ?_; repeat (refine Al4.mk ?_; intro _ _ _ _; refine stpU ?_))
        refine ⟨j + 1, ⟨by omega, hj, fun i a b => ?_⟩, by omega, ⟨rfl, rfl, rfl, rfl, rfl, rfl, rfl, rfl, rfl, trivial⟩, .refl _⟩
        by_cases e : i = j
        · rw [e]; exact hz
        · exact h3 i a (by omega)
      · have hz' : (M1 j c).v ≠ 0 := fun h => hz (El.ext h)
        (refine stpU ?_; repeat (refine Al4.mk ?_; intro _ _ _ _; refine stpU ?_))
        exact ⟨j, ⟨h1, h2, h3, fun _ => hz⟩, ⟨rfl, rfl, rfl, rfl, rfl, rfl, rfl, rfl, rfl, trivial⟩, .refl _⟩
    · (refine stpU ?_; repeat (refine Al4.mk ?_; intro _ _ _ _; refine stpU ?_))
      exact ⟨j, ⟨h1, h2, h3, fun h => absurd h hj⟩, ⟨rfl, rfl, rfl, rfl, rfl, rfl, rfl, rfl, rfl, trivial⟩, .refl _⟩
  rintro j ⟨h1, h2, h3, h4⟩
  by_cases hj : j < n
  rotate_left
  · have hlj : HLe G5 (upd (rowsK G5 oid n w n ids1 M1) kb ⟨[I (j : Nat)], true, 0⟩) := hl5.upd_of g4 _
    have q1 : rdc (upd (rowsK G5 oid n w n ids1 M1) kb ⟨[I (j : Nat)], true, 0⟩) rb 0 = some (.s oid 0 n) := rdc_mono (lp.trans (l5.trans hlj)) br
    have q2 : rdc (upd (rowsK G5 oid n w n ids1 M1) kb ⟨[I (j : Nat)], true, 0⟩) kb 0 = some (I (j : Nat)) := rdc_of (upd_same _ _ _) rfl
    (refine stpU ?_; repeat (refine Al4.mk ?_; intro _ _ _ _; refine stpU ?_))
    refine ⟨⟨c + 1, k, p, ids1, M1, vy, det⟩, ⟨hcw, hGJ.skip (fun i a b => h3 i a (by omega)), hEq, hS, ?_⟩, by dsimp only; omega, ⟨rfl, rfl, rfl, rfl, rfl, rfl, rfl, trivial⟩, ?_⟩
    · dsimp only; rw [← hGp]; exact O
    · dsimp only; rw [← hGp]; exact (rowsK_low O5 l5).trans (.upd_new hkb _)
  have hz := h4 hj
  refine W_freeze (id := kb) (ob := ⟨[I (j : Nat)], true, 0⟩) (upd_same _ _ _) ?_
  rw [upd_upd, rowsK_upd g5 g6]
  have O6 := O5.upd (ob := ⟨[I (j : Nat)], false, 0⟩) g5 g6
  have l6 : HLe G5 (upd G5 kb ⟨[I (j : Nat)], false, 0⟩) := .upd_new g4 _
  have b6 := upd_same G5 kb ⟨[I (j : Nat)], false, 0⟩
  have b56 := l6 _ _ b5
  generalize upd G5 kb ⟨[I (j : Nat)], false, 0⟩ = G6 at *
  have lp6 : HLe Gp G6 := l5.trans l6
  have lb6 : HLe Gb G6 := lp.trans lp6
  refine W_cut (X := Unit) (fun _ => [(2, I (w : Nat)), (4, .p gb 0), (5, .p rb 0), (10, I det), (11, .f n_matrix_eliminate_1 [.p rb 0, .p ab 0]), (12, vy), (13, I (c : Nat)), (14, .p tb 0), (15, .p kb 0)]) (fun _ => rowsK G6 oid n w n ids1 M1) (fun _ => True) ?_ ?_
  · have hl6 : HLe G6 (rowsK G6 oid n w n ids1 M1) := rowsK_hle O6
    have q1 : rdc (rowsK G6 oid n w n ids1 M1) rb 0 = some (.s oid 0 n) := rdc_mono (lb6.trans hl6) br
    have q2 : rdc (rowsK G6 oid n w n ids1 M1) kb 0 = some (I (j : Nat)) := rdc_mono hl6 (rdc_of b6 rfl)
    (refine stpU ?_; repeat (refine Al4.mk ?_; intro _ _ _ _; refine stpU ?_))
    exact ⟨(), trivial, ⟨rfl, rfl, rfl, rfl, rfl, rfl, rfl, rfl, rfl, trivial⟩, .refl _⟩
  rintro _ _
  refine W_cut (X := (Nat → Nat) × Int) (fun z => [(2, I (w : Nat)), (4, .p gb 0), (5, .p rb 0), (10, I z.2), (11, .f n_matrix_eliminate_1 [.p rb 0, .p ab 0]), (12, vy), (13, I (c : Nat)), (14, .p tb 0)]) (fun z => rowsK G6 oid n w n z.1 (swapR M1 k j)) (fun z => OwnK G6 oid n n z.1) ?_ ?_
  · have hl6 : HLe G6 (rowsK G6 oid n w n ids1 M1) := rowsK_hle O6
    have q1 : rdc (rowsK G6 oid n w n ids1 M1) rb 0 = some (.s oid 0 n) := rdc_mono (lb6.trans hl6) br
    have q2 : rdc (rowsK G6 oid n w n ids1 M1) kb 0 = some (I (j : Nat)) := rdc_mono hl6 (rdc_of b6 rfl)
    have q3 : rdc (rowsK G6 oid n w n ids1 M1) tb 0 = some (I (k : Nat)) := rdc_mono hl6 (rdc_of b56 rfl)
    by_cases hjk : j = k
    · (refine stpU ?_; repeat (refine Al4.mk ?_; intro _ _ _ _; refine stpU ?_))
      refine ⟨(ids1, det), O6, ⟨rfl, rfl, rfl, rfl, rfl, rfl, rfl, rfl, trivial⟩, ?_⟩
      dsimp only
      rw [hjk, swapR_self]
      exact .refl _
    · (refine stpU ?_; repeat (refine Al4.mk ?_; intro _ _ _ _; refine stpU ?_))
      refine mX (v := .f n_matrix_eliminate_1 [.p rb 0, .p ab 0]) rfl ?_
      refine mF rfl ?_
      refine cF rfl (each_2 O6 hk hj (rdc_mono lb6 br) (rdc_mono lb6 ba) b6 b56) ?_
      intro r H2 hR
      have hl7 : HLe Gb H2 := lb6.trans ((rowsK_hle (O6.sw hk hj)).trans hR)
      have q4 : rdc H2 gb 0 = some vx := rdc_mono hl7 bg
      (refine stpU ?_; repeat (refine Al4.mk ?_; intro _ _ _ _; refine stpU ?_))
      refine cA (GF_Neg_calls hD det (hGb.mono hl7)) ?_
      rintro _ H3 ⟨rfl, rfl⟩
      (refine stpU ?_; repeat (refine Al4.mk ?_; intro _ _ _ _; refine stpU ?_))
      exact ⟨(_, _), O6.sw hk hj, ⟨rfl, rfl, rfl, rfl, rfl, rfl, rfl, rfl, trivial⟩, hR⟩
  rintro ⟨ids2, det2⟩ O7
  dsimp only at O7 ⊢
  obtain ⟨S1, hS1⟩ : ∃ S, S = swapR M1 k j := ⟨_, rfl⟩
  rw [← hS1]
  have hx1 : S1 k c = M1 j c := by rw [hS1]; unfold swapR; rw [if_pos rfl]
  have hx0 : S1 k c ≠ 0 := by rw [hx1]; exact hz
  have hl7 : HLe G6 (rowsK G6 oid n w n ids2 S1) := rowsK_hle O7
  have q1 : rdc (rowsK G6 oid n w n ids2 S1) rb 0 = some (.s oid 0 n) := rdc_mono (lb6.trans hl7) br
  have q2 : rdc (rowsK G6 oid n w n ids2 S1) gb 0 = some vx := rdc_mono (lb6.trans hl7) bg
  have q3 : rdc (rowsK G6 oid n w n ids2 S1) tb 0 = some (I (k : Nat)) := rdc_mono hl7 (rdc_of b56 rfl)
  have hG7 := hGb.mono (lb6.trans hl7)
  obtain ⟨r1, r2⟩ := rdK (M := S1) (w := w) O7 (.refl _) hk
  have r3 := r2 c hcw
  refine W_cut (X := Int) (fun z => [(2, I (w : Nat)), (4, .p gb 0), (5, .p rb 0), (10, I z), (11, .f n_matrix_eliminate_1 [.p rb 0, .p ab 0]), (12, vy), (13, I (c : Nat)), (14, .p tb 0)]) (fun _ => rowsK G6 oid n w n ids2 S1) (fun _ => True) ?_ ?_
  · (refine stpU ?_; repeat (refine Al4.mk ?_; intro _ _ _ _; refine stpU ?_))
    refine cAt (GF_Mul_calls hD det2 (S1 k c).v hG7) ?_
    rintro _ H3 ⟨rfl, rfl⟩
    refine ⟨.refl _, ?_⟩
    (refine stpU ?_; repeat (refine Al4.mk ?_; intro _ _ _ _; refine stpU ?_))
    exact ⟨_, trivial, ⟨rfl, rfl, rfl, rfl, rfl, rfl, rfl, rfl, trivial⟩, .refl _⟩
  rintro det3 _
  refine W_cut (X := Nat → Nat) (fun z => [(2, I (w : Nat)), (4, .p gb 0), (5, .p rb 0), (10, I det3), (11, .f n_matrix_eliminate_1 [.p rb 0, .p ab 0]), (12, vy), (13, I (c : Nat)), (14, .p tb 0)]) (fun z => rowsK G6 oid n w n z (scaleR S1 k (inv (S1 k c)))) (fun z => OwnK G6 oid n n z) ?_ ?_
  · (refine stpU ?_; repeat (refine Al4.mk ?_; intro _ _ _ _; refine stpU ?_))
    refine cAt (GF_Inv_calls hD (S1 k c).v hG7) ?_
    rintro _ H3 ⟨h, rfl⟩
    rw [el_of] at h
    rcases h with ⟨h, _⟩ | ⟨_, rfl⟩
    · exact absurd h hx0
    refine ⟨.refl _, ?_⟩
    (refine stpU ?_; repeat (refine Al4.mk ?_; intro _ _ _ _; refine stpU ?_))
    refine aL ?_
    intro vb hvb
    obtain ⟨g7, g8, g9⟩ := rowsK_none O7 hvb
    refine sB (v := I ((inv (S1 k c) : El D).v : Nat)) rfl rfl rfl rfl ?_
    rw [rowsK_upd g8 g9]
    have O8 := O7.upd (ob := ⟨[I ((inv (S1 k c) : El D).v : Nat)], true, 0⟩) g8 g9
    have l8 : HLe G6 (upd G6 vb ⟨[I ((inv (S1 k c) : El D).v : Nat)], true, 0⟩) := .upd_new g7 _
    have b8 := upd_same G6 vb ⟨[I ((inv (S1 k c) : El D).v : Nat)], true, 0⟩
    generalize upd G6 vb ⟨[I ((inv (S1 k c) : El D).v : Nat)], true, 0⟩ = G8 at *
    have q4 : rdc (rowsK G8 oid n w n ids2 S1) vb 0 = some (I ((inv (S1 k c) : El D).v : Nat)) := rdc_mono (rowsK_hle O8) (rdc_of b8 rfl)
    have lb8 := lb6.trans l8
    by_cases h1 : (inv (S1 k c) : El D).v = 1
    · have e1 : inv (S1 k c) = (1 : El D) := El.ext h1
      (refine stpU ?_; repeat (refine Al4.mk ?_; intro _ _ _ _; refine stpU ?_))
      refine ⟨ids2, O7, ⟨rfl, rfl, rfl, rfl, rfl, rfl, rfl, rfl, trivial⟩, ?_⟩
      rw [e1, scaleR_one]
      exact rowsK_low O8 l8
    · (refine stpU ?_; repeat (refine Al4.mk ?_; intro _ _ _ _; refine stpU ?_))
      refine mX (v := .f n_matrix_eliminate_1 [.p rb 0, .p ab 0]) rfl ?_
      refine mF rfl ?_
      refine cF rfl (each_3 hD O8 (b := (inv (S1 k c) : El D).v) hk hw (hGb.mono lb8) (rdc_mono lb8 br) (rdc_mono lb8 ba) (rdc_mono lb8 bg) (rdc_of b8 rfl) (rdc_of (l8 _ _ b56) rfl)) ?_
      rintro r H4 ⟨ids3, O9, hR⟩
      rw [el_of] at hR
      (refine stpU ?_; repeat (refine Al4.mk ?_; intro _ _ _ _; refine stpU ?_))
      exact ⟨ids3, O9.low l8, ⟨rfl, rfl, rfl, rfl, rfl, rfl, rfl, rfl, trivial⟩, (rowsK_low O9 l8).trans hR⟩
  rintro ids3 O8
  obtain ⟨S2, hS2⟩ : ∃ S, S = scaleR S1 k (inv (S1 k c)) := ⟨_, rfl⟩
  rw [← hS2]
  have hgj : gjR M1 k j c = elimR S2 k c := by unfold gjR; rw [hS2, hx1, hS1]
  refine W_cut (X := Unit) (fun _ => [(2, I (w : Nat)), (4, .p gb 0), (5, .p rb 0), (10, I det3), (11, .f n_matrix_eliminate_1 [.p rb 0, .p ab 0]), (12, vy), (13, I (c : Nat))]) (fun _ => rowsK Gp oid n w n ids3 (gjR M1 k j c)) (fun _ => True) ?_ ?_
  · have p1 : rdc (rowsK G6 oid n w n ids3 S2) rb 0 = some (.s oid 0 n) := rdc_mono (lb6.trans (rowsK_hle O8)) br
    (refine stpU ?_; repeat (refine Al4.mk ?_; intro _ _ _ _; refine stpU ?_))
    refine W_loopF (X := Nat) (fun i => [(2, I (w : Nat)), (4, .p gb 0), (5, .p rb 0), (10, I det3), (11, .f n_matrix_eliminate_1 [.p rb 0, .p ab 0]), (12, vy), (13, I (c : Nat)), (14, .p tb 0), (97, I (n : Nat)), (98, I (i : Nat))]) (fun i => rowsK G6 oid n w n ids3 (elimP S2 k c i)) (fun i => i ≤ n) (fun i => n - i) 0 (Nat.zero_le _) ⟨rfl, rfl, rfl, rfl, rfl, rfl, rfl, rfl, rfl, rfl, trivial⟩ (by rw [elimP_zero]; exact .refl _) ?_
    intro i hi
    by_cases hin : i < n
    rotate_left
    · (refine stpU ?_; repeat (refine Al4.mk ?_; intro _ _ _ _; refine stpU ?_))
      refine ⟨(), trivial, ⟨rfl, rfl, rfl, rfl, rfl, rfl, rfl, trivial⟩, ?_⟩
      have ei : i = n := by omega
      rw [ei, rowsK_congr O8 (M' := gjR M1 k j c) (fun i d hi _ => by rw [hgj]; exact elimP_all hi)]
      exact rowsK_low O8 lp6
    · (refine stpU ?_; repeat (refine Al4.mk ?_; intro _ _ _ _; refine stpU ?_))
      refine aL ?_
      intro ib hib
      obtain ⟨g7, g8, g9⟩ := rowsK_none O8 hib
      refine sB (v := I (i : Nat)) rfl rfl rfl rfl ?_
      rw [rowsK_upd g8 g9]
      have O9 := O8.upd (ob := ⟨[I (i : Nat)], true, 0⟩) g8 g9
      have l9 : HLe G6 (upd G6 ib ⟨[I (i : Nat)], true, 0⟩) := .upd_new g7 _
      have b9 := upd_same G6 ib ⟨[I (i : Nat)], true, 0⟩
      generalize upd G6 ib ⟨[I (i : Nat)], true, 0⟩ = G9 at *
      have hl9 : HLe G9 (rowsK G9 oid n w n ids3 (elimP S2 k c i)) := rowsK_hle O9
      have p2 : rdc (rowsK G9 oid n w n ids3 (elimP S2 k c i)) rb 0 = some (.s oid 0 n) := rdc_mono (lb6.trans (l9.trans hl9)) br
      have p3 : rdc (rowsK G9 oid n w n ids3 (elimP S2 k c i)) ib 0 = some (I (i : Nat)) := rdc_mono hl9 (rdc_of b9 rfl)
      obtain ⟨p4, p5⟩ := rdK (M := elimP S2 k c i) (w := w) O9 (.refl _) hin
      have p6 := p5 c hcw
      rw [elimP_at (j := i) (.inl (Nat.le_refl _))] at p6
      (refine stpU ?_; repeat (refine Al4.mk ?_; intro _ _ _ _; refine stpU ?_))
      refine aL ?_
      intro xb hxb
      obtain ⟨g10, g11, g12⟩ := rowsK_none O9 hxb
      refine sB (v := I ((S2 i c).v : Nat)) rfl rfl rfl rfl ?_
      rw [rowsK_upd g11 g12]
      have O10 := O9.upd (ob := ⟨[I ((S2 i c).v : Nat)], true, 0⟩) g11 g12
      have l10 : HLe G9 (upd G9 xb ⟨[I ((S2 i c).v : Nat)], true, 0⟩) := .upd_new g10 _
      have b10 := upd_same G9 xb ⟨[I ((S2 i c).v : Nat)], true, 0⟩
      generalize upd G9 xb ⟨[I ((S2 i c).v : Nat)], true, 0⟩ = G10 at *
      have l610 : HLe G6 G10 := l9.trans l10
      have lb10 : HLe Gb G10 := lb6.trans l610
      have hl10 : HLe G10 (rowsK G10 oid n w n ids3 (elimP S2 k c i)) := rowsK_hle O10
      have p7 : rdc (rowsK G10 oid n w n ids3 (elimP S2 k c i)) ib 0 = some (I (i : Nat)) := rdc_mono hl10 (rdc_of (l10 _ _ b9) rfl)
      have p8 : rdc (rowsK G10 oid n w n ids3 (elimP S2 k c i)) xb 0 = some (I ((S2 i c).v : Nat)) := rdc_mono hl10 (rdc_of b10 rfl)
      have p9 : rdc (rowsK G10 oid n w n ids3 (elimP S2 k c i)) tb 0 = some (I (k : Nat)) := rdc_mono hl10 (rdc_of (l610 _ _ b56) rfl)
      by_cases hik : i = k
      · (refine stpU ?_; repeat (refine Al4.mk ?_; intro _ _ _ _; refine stpU ?_))
        refine ⟨i + 1, by omega, by omega, ⟨rfl, rfl, rfl, rfl, rfl, rfl, rfl, rfl, rfl, rfl, trivial⟩, ?_⟩
        rw [elimP_skip (.inl hik)]
        exact rowsK_low O10 l610
      · by_cases hz2 : (S2 i c).v = 0
        · (refine stpU ?_; repeat (refine Al4.mk ?_; intro _ _ _ _; refine stpU ?_))
          refine ⟨i + 1, by omega, by omega, ⟨rfl, rfl, rfl, rfl, rfl, rfl, rfl, rfl, rfl, rfl, trivial⟩, ?_⟩
          rw [elimP_skip (.inr (El.ext hz2))]
          exact rowsK_low O10 l610
        · (refine stpU ?_; repeat (refine Al4.mk ?_; intro _ _ _ _; refine stpU ?_))
          refine mX (v := .f n_matrix_eliminate_1 [.p rb 0, .p ab 0]) rfl ?_
          refine mF rfl ?_
          refine cF rfl (each_4 hD O10 (x := (S2 i c).v) hin hk hik hw (hGb.mono lb10) (rdc_mono lb10 br) (rdc_mono lb10 ba) (rdc_mono lb10 bg) (rdc_of (l10 _ _ b9) rfl) (rdc_of b10 rfl) (rdc_of (l610 _ _ b56) rfl)) ?_
          rintro r H4 rfl
          rw [el_of, elimP_step hik]
          (refine stpU ?_; repeat (refine Al4.mk ?_; intro _ _ _ _; refine stpU ?_))
          exact ⟨i + 1, by omega, by omega, ⟨rfl, rfl, rfl, rfl, rfl, rfl, rfl, rfl, rfl, rfl, trivial⟩, rowsK_low O10 l610⟩
  rintro _ _
  have O11 : OwnK (hpO Gb vy (tabN k p)) oid n n ids3 := by rw [← hGp]; exact O8.low lp6
  obtain ⟨Ob, hSb, hHb⟩ := rowsK_hpO (M := gjR M1 k j c) (w := w) hS O11
  rw [hGp, hHb]
  (refine stpU ?_; repeat (refine Al4.mk ?_; intro _ _ _ _; refine stpU ?_))
  refine ap1 rfl hSb rfl (by decide) rfl rfl (by decide) (by omega) ?_
  intro t i ht hi hit
  obtain ⟨g10, g11, g12⟩ := rowsK_none Ob hi
  (refine stpU ?_; repeat (refine Al4.mk ?_; intro _ _ _ _; refine stpU ?_))
  refine ⟨⟨c + 1, k + 1, fun i => if i = k then c else p i, ids3, gjR M1 k j c, .s i 0 (k + 1), det3⟩, ⟨hcw, hGJ.step h1 hj hz, (gj_eqv M1 hk hj hz).trans hEq, .sl g10 (tabN_len _ _), Ob.upd g11 g12⟩, by dsimp only; omega, ⟨rfl, rfl, rfl, rfl, rfl, ?_, rfl, trivial⟩, ?_⟩
  · show AV.s i 0 ((tabN k p).length + 1) = .s i 0 (k + 1)
    rw [hlen]
  · show HLe (rowsK (upd Gb i ⟨tabN (k + 1) (fun i => if i = k then c else p i), true, 1⟩) oid n w n ids3 (gjR M1 k j c)) _
    rw [← rowsK_upd g11 g12, ← tabN_snoc (f := p) (c := c) (fun i hi => by rw [if_neg (by omega)]) (by rw [if_pos rfl])]
    exact (HLe.upd_new ht _).upd_both _ _

end Go.Proofs.Ytdkdainipanacaa
