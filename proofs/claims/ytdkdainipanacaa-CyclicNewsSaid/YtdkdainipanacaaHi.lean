/- Contracts of code.length, own, of, New. Condition: the arguments stand in memory. · Contracts of the reference's Entries, AddTo, scale, Copy (matrix). Condition: the arguments stand in memory. -/
import Derived.Test.YtdkdainipanacaaHf
import Derived.Test.YtdkdainipanacaaGa
namespace Go.Proofs.Ytdkdainipanacaa
open Go Go.RowKit Alg
set_option linter.unusedSimpArgs false
set_option linter.unusedVariables false
set_option linter.constructorNameAsVariable false
set_option linter.unusedSectionVars false
attribute [local irreducible] aopL W
variable {D : Desc} [Desc.Ok D]
theorem slices_Clone_any {cs : List AV} {vx : AV} {H : AH} (hC : Cs H vx cs) (hn : cs.length ≤ 100000000) :
    ACalls Try.prog n_slices_Clone_int_int [vx] H (fun r H' => HLe H H' ∧ Cs H' r cs) := by
  refine calls_of F_slices_Clone_int_int hmix (by show 1 ≤ 8; decide) ?_
  unfold s_slices_Clone_int_int
  rcases hC.cases with ⟨rfl, rfl⟩ | ⟨rfl, rfl⟩ | ⟨id, off, rfl⟩
  · (refine stpU ?_; repeat (refine Al4.mk ?_; intro _ _ _ _; refine stpU ?_))
    refine aen_n rfl ?_
    (refine stpU ?_; repeat (refine Al4.mk ?_; intro _ _ _ _; refine stpU ?_))
    exact ⟨.refl _, .inl ⟨rfl, .inl rfl⟩⟩
  · (refine stpU ?_; repeat (refine Al4.mk ?_; intro _ _ _ _; refine stpU ?_))
    refine aen_e rfl ?_
    (refine stpU ?_; repeat (refine Al4.mk ?_; intro _ _ _ _; refine stpU ?_))
    refine bE ?_
    (refine stpU ?_; repeat (refine Al4.mk ?_; intro _ _ _ _; refine stpU ?_))
    refine apC rfl rfl hC (by decide) hn ?_
    intro vz H' hl hC' _ _
    (refine stpU ?_; repeat (refine Al4.mk ?_; intro _ _ _ _; refine stpU ?_))
    exact ⟨hl, hC'⟩
  · (refine stpU ?_; repeat (refine Al4.mk ?_; intro _ _ _ _; refine stpU ?_))
    refine aen_s rfl ?_
    (refine stpU ?_; repeat (refine Al4.mk ?_; intro _ _ _ _; refine stpU ?_))
    refine bE ?_
    (refine stpU ?_; repeat (refine Al4.mk ?_; intro _ _ _ _; refine stpU ?_))
    refine apC rfl rfl hC (by decide) hn ?_
    intro vz H' hl hC' _ _
    (refine stpU ?_; repeat (refine Al4.mk ?_; intro _ _ _ _; refine stpU ?_))
    exact ⟨hl, hC'⟩
theorem Shape.few {p m : Int} {ml : List Int} {E : Desc} (h : Shape p m ml E) : ml.length ≤ 8 := by
  rw [h.hl, List.length_map, h.len]
  have := h.m8
  split <;> omega
theorem FS.one {H : AH} {vm : AV} (h : FS D H vm) : cellsOf vm = some [vm] := by obtain ⟨ml, _, _, h3⟩ := h; exact h3.one

theorem code_length_calls (n : Nat) (h1 : 1 ≤ n) (h2 : n ≤ 64) (H : AH) : ACalls Try.prog n_code_length [I (n : Nat)] H (fun r H' => r = I 0 ∧ H' = H) := by
  refine calls_of F_code_length hmix (by show 1 ≤ 9; decide) ?_
  unfold s_code_length
  (refine stpU ?_; repeat (refine Al4.mk ?_; intro _ _ _ _; refine stpU ?_))
  exact ⟨rfl, rfl⟩

set_option maxHeartbeats 1000000 in
theorem code_own_calls {vm : AV} {H : AH} (hF : FS D H vm) : ACalls Try.prog n_code_own [fd D vm] H (fun r H' => HLe H H' ∧ ∃ vf, r = fd D vf ∧ FS D H' vf) := by
  refine calls_ofC F_code_own hmix (by show 1 ≤ 8; decide) ?_
  unfold s_code_own
  (refine stpU ?_; repeat (refine Al4.mk ?_; intro _ _ _ _; refine stpU ?_))
  refine bXg (cs := [I D.p, I D.m, vm]) rfl ?_
  intro b1 H1 h1 l1 f1 _
  (refine stpU ?_; repeat (refine Al4.mk ?_; intro _ _ _ _; refine stpU ?_))
  refine aLg ?_
  intro b2 H2 h2 l2 f2 _
  have hne : b2 ≠ b1 := fun e => by rw [e, f1] at h2; cases h2
  have l : HLe H H2 := l1.trans l2
  replace f1 := l2 _ _ f1
  replace h2 := l1.absent h2
  clear l1 l2
  replace hF := hF.mono l
  obtain ⟨vx, hvx⟩ : ∃ v, v = vm := ⟨_, rfl⟩
  rw [← hvx] at hF f1
  have g2 : rdc H2 b1 2 = some vx := rdc_of f1 rfl
  obtain ⟨ml, k1, k2, k3⟩ := hF
  (refine stpU ?_; repeat (refine Al4.mk ?_; intro _ _ _ _; refine stpU ?_))
  refine cA (slices_Clone_any k3 (by have := k1.few; rw [List.length_map]; omega)) ?_
  rintro vy H3 ⟨l3, hC⟩
  (refine stpU ?_; repeat (refine Al4.mk ?_; intro _ _ _ _; refine stpU ?_))
  refine sF (off := 2) (v := vy) rfl (l3 _ _ f1) rfl hC.one (by simp) ?_
  rintro H4 hH4
  have f4 : H4 b1 = some ⟨[I D.p, I D.m, vy], true, 0⟩ := by rw [hH4]; exact upd_same _ _ _
  have f5 : H4 b2 = some ⟨[.i .i64 0, .i .i64 0, .ns], true, 0⟩ := by rw [hH4, upd_ne _ _ hne]; exact l3 _ _ f2
  have l4 : HLe H H4 := by rw [hH4]; exact (l.trans l3).upd_of h1 _
  have hC4 : Cs H4 vy (ml.map I) := by rw [hH4]; exact hC.cell (l3 _ _ f1) (by simp)
  (refine stpU ?_; repeat (refine Al4.mk ?_; intro _ _ _ _; refine stpU ?_))
  refine ldn_own rfl f4 rfl ?_
  (refine stpU ?_; repeat (refine Al4.mk ?_; intro _ _ _ _; refine stpU ?_))
  refine sA (cs := [I D.p, I D.m, vy]) rfl f5 rfl rfl rfl ?_
  rintro H5 hH5
  have f6 : H5 b2 = some ⟨[I D.p, I D.m, vy], true, 0⟩ := by rw [hH5]; exact upd_same _ _ _
  have l5 : HLe H H5 := by rw [hH5]; exact l4.upd_of h2 _
  have hC5 : Cs H5 vy (ml.map I) := by rw [hH5]; exact hC4.cell f5 (by decide)
  (refine stpU ?_; repeat (refine Al4.mk ?_; intro _ _ _ _; refine stpU ?_))
  exact ⟨[.ag [I D.p, I D.m, vy]], ⟨⟨b2, 0, _, rfl, f6, by simp, rfl⟩, trivial⟩, l5, vy, rfl, ml, k1, k2, hC5⟩

/-- a code, as a value; the code of no field -/
def cdA (D : Desc) (vm : AV) (n : Nat) (vg : AV) : AV := .ag [I D.p, I D.m, vm, I (n : Nat), vg]
def zeroC : AV := .ag [I 0, I 0, .ns, I 0, .ns]

set_option maxHeartbeats 1000000 in
theorem code_of_calls {vm vr : AV} {n : Nat} {H : AH} (hF : FS D H vm) (hr : cellsOf vr = some [vr]) : ACalls Try.prog n_code_of [fd D vm, .ag [I (n : Nat), vr], I 0] H (fun r H' => HLe H H' ∧ ∃ vf, r = .tu [cdA D vf n vr, I 0] ∧ FS D H' vf) := by
  refine calls_ofC F_code_of hmix (by show 3 ≤ 19; decide) ?_
  unfold s_code_of
  (refine stpU ?_; repeat (refine Al4.mk ?_; intro _ _ _ _; refine stpU ?_))
  refine bXg (cs := [I D.p, I D.m, vm]) rfl ?_
  intro b3 H1 h3 l1 f3 _
  (refine stpU ?_; repeat (refine Al4.mk ?_; intro _ _ _ _; refine stpU ?_))
  refine bXg (cs := [I (n : Nat), vr]) rfl ?_
  intro b4 H2 h4 l2 f4 _
  (refine stpU ?_; repeat (refine Al4.mk ?_; intro _ _ _ _; refine stpU ?_))
  refine aLg ?_
  intro b6 H3 h6 l3 f6 _
  have l : HLe H H3 := l1.trans (l2.trans l3)
  replace f3 := l3 _ _ (l2 _ _ f3)
  replace f4 := l3 _ _ f4
  replace h6 := (l1.trans l2).absent h6
  clear l1 l2 l3
  replace hF := hF.mono l
  obtain ⟨vx, hvx⟩ : ∃ v, v = vr := ⟨_, rfl⟩
  rw [← hvx] at hr f4 ⊢
  have g0 : rdc H3 b4 0 = some (I (n : Nat)) := rdc_of f4 rfl
  have g1 : rdc H3 b4 1 = some vx := rdc_of f4 rfl
  (refine stpU ?_; repeat (refine Al4.mk ?_; intro _ _ _ _; refine stpU ?_))
  refine ldn_own rfl f3 rfl ?_
  (refine stpU ?_; repeat (refine Al4.mk ?_; intro _ _ _ _; refine stpU ?_))
  refine cAt (code_own_calls hF) ?_
  rintro _ H4 ⟨l4, vf, rfl, hF4⟩
  refine ⟨l4, ?_⟩
  (refine stpU ?_; repeat (refine Al4.mk ?_; intro _ _ _ _; refine stpU ?_))
  refine bD (cs := [I D.p, I D.m, vf, I (n : Nat), vx]) ?_ ?_
  · refine (afill_cons (cs := [I D.p, I D.m, vf]) rfl rfl rfl (show 3 ≤ 5 by decide)).trans ((afill_cons rfl rfl rfl (show 4 ≤ 5 by decide)).trans ((afill_cons rfl hr rfl (show 5 ≤ 5 by decide)).trans rfl))
  (refine stpU ?_; repeat (refine Al4.mk ?_; intro _ _ _ _; refine stpU ?_))
  refine sA (cs := [I D.p, I D.m, vf, I (n : Nat), vx]) rfl (l4 _ _ f6) rfl rfl rfl ?_
  rintro H5 hH5
  have f5 : H5 b6 = some ⟨[I D.p, I D.m, vf, I (n : Nat), vx], true, 0⟩ := by rw [hH5]; exact upd_same _ _ _
  have l5 : HLe H H5 := by rw [hH5]; exact (l.trans l4).upd_of h6 _
  have hF5 : FS D H5 vf := by rw [hH5]; exact hF4.cell (l4 _ _ f6) (by decide)
  (refine stpU ?_; repeat (refine Al4.mk ?_; intro _ _ _ _; refine stpU ?_))
  exact ⟨[cdA D vf n vx, I 0], ⟨⟨b6, 0, _, rfl, f5, by simp, rfl⟩, rfl, trivial⟩, l5, vf, rfl, hF5⟩
theorem code_of_err {vm vr : AV} {n e : Int} {H : AH} (he : e ≠ 0) (hm : cellsOf vm = some [vm]) (hr : cellsOf vr = some [vr]) : ACalls Try.prog n_code_of [fd D vm, .ag [I n, vr], I e] H (fun r H' => HLe H H' ∧ r = .tu [zeroC, I e]) := by
  refine calls_ofC F_code_of hmix (by show 3 ≤ 19; decide) ?_
  unfold s_code_of
  (refine stpU ?_; repeat (refine Al4.mk ?_; intro _ _ _ _; refine stpU ?_))
  refine bXg (cs := [I D.p, I D.m, vm]) rfl ?_
  intro b3 H1 h3 l1 f3 _
  (refine stpU ?_; repeat (refine Al4.mk ?_; intro _ _ _ _; refine stpU ?_))
  refine bXg (cs := [I n, vr]) rfl ?_
  intro b4 H2 h4 l2 f4 _
  (refine stpU ?_; repeat (refine Al4.mk ?_; intro _ _ _ _; refine stpU ?_))
  refine aLg ?_
  intro b6 H3 h6 l3 f6 _
  have l : HLe H H3 := l1.trans (l2.trans l3)
  replace h6 := (l1.trans l2).absent h6
  (refine stpU ?_; repeat (refine Al4.mk ?_; intro _ _ _ _; refine stpU ?_))
  refine bD (cs := [I 0, I 0, .ns, I 0, .ns]) rfl ?_
  (refine stpU ?_; repeat (refine Al4.mk ?_; intro _ _ _ _; refine stpU ?_))
  refine sA (cs := [I 0, I 0, .ns, I 0, .ns]) rfl f6 rfl rfl rfl ?_
  rintro H5 hH5
  have f5 : H5 b6 = some ⟨[I 0, I 0, .ns, I 0, .ns], true, 0⟩ := by rw [hH5]; exact upd_same _ _ _
  have l5 : HLe H H5 := by rw [hH5]; exact l.upd_of h6 _
  (refine stpU ?_; repeat (refine Al4.mk ?_; intro _ _ _ _; refine stpU ?_))
  exact ⟨[zeroC, I e], ⟨⟨b6, 0, _, rfl, f5, by simp, rfl⟩, rfl, trivial⟩, l5, rfl⟩

set_option maxHeartbeats 2000000 in
theorem code_New_calls {n : Nat} {ls : List (List Int)} {vm vy : AV} {H : AH} (hF : FS D H vm) (hR : RowsS H vy ls) (h1 : 1 ≤ n) (h64 : n ≤ 64) (hvy : cellsOf vy = some [vy]) :
    ACalls Try.prog n_code_New [fd D vm, .ag [I (n : Nat), vy]] H (fun r H' => HLe H H' ∧ ((matE D.q n ls ≠ 0 ∧ r = .tu [zeroC, I (matE D.q n ls)]) ∨ (matE D.q n ls = 0 ∧ ∃ k p N vf vg, r = .tu [cdA D vf n vg, I 0] ∧ FS D H' vf ∧ MatS H' vg k n N ∧ k ≤ ls.length ∧ CanM n ls.length k (matL ls : Nat → Nat → El D) p N))) := by
  refine calls_ofC F_code_New hmix (by show 2 ≤ 27; decide) ?_
  unfold s_code_New
  (refine stpU ?_; repeat (refine Al4.mk ?_; intro _ _ _ _; refine stpU ?_))
  refine bXg (cs := [I D.p, I D.m, vm]) rfl ?_
  intro b2 H1 h2 l1 f2 _
  (refine stpU ?_; repeat (refine Al4.mk ?_; intro _ _ _ _; refine stpU ?_))
  refine bXg (cs := [I (n : Nat), vy]) rfl ?_
  intro b3 H2 h3 l2 f3 _
  (refine stpU ?_; repeat (refine Al4.mk ?_; intro _ _ _ _; refine stpU ?_))
  refine aLg ?_
  intro b4 H3 h4 l3 f4 _
  have l : HLe H H3 := l1.trans (l2.trans l3)
  replace f2 := l3 _ _ (l2 _ _ f2)
  replace f3 := l3 _ _ f3
  replace h4 := (l1.trans l2).absent h4
  clear l1 l2 l3
  replace hF := hF.mono l
  replace hR := hR.mono l
  (refine stpU ?_; repeat (refine Al4.mk ?_; intro _ _ _ _; refine stpU ?_))
  refine ldn_own rfl f2 rfl ?_
  (refine stpU ?_; repeat (refine Al4.mk ?_; intro _ _ _ _; refine stpU ?_))
  refine ldn_own rfl f3 rfl ?_
  (refine stpU ?_; repeat (refine Al4.mk ?_; intro _ _ _ _; refine stpU ?_))
  refine cA (matrix_Canonical_calls hF hR (by omega)) ?_
  rintro r H4 ⟨l4, ⟨h0, rfl⟩ | ⟨h0, k, p, N, vr, vw, rfl, hMS, hp, hk, hC⟩⟩
  · (refine stpU ?_; repeat (refine Al4.mk ?_; intro _ _ _ _; refine stpU ?_))
    refine aLg ?_
    intro b6 H5 h6 l5 f6 _
    refine sA (cs := [I 0, .ns]) rfl f6 rfl rfl rfl ?_
    rintro H6 hH6
    have f7 : H6 b6 = some ⟨[I 0, .ns], true, 0⟩ := by rw [hH6]; exact upd_same _ _ _
    have l6 : HLe H4 H6 := by rw [hH6]; exact l5.upd_of h6 _
    replace l6 := l4.trans l6
    replace f2 := l6 _ _ f2
    (refine stpU ?_; repeat (refine Al4.mk ?_; intro _ _ _ _; refine stpU ?_))
    refine ldn_own rfl f2 rfl ?_
    (refine stpU ?_; repeat (refine Al4.mk ?_; intro _ _ _ _; refine stpU ?_))
    refine ldn_own rfl f7 rfl ?_
    (refine stpU ?_; repeat (refine Al4.mk ?_; intro _ _ _ _; refine stpU ?_))
    refine cA (code_of_err (D := D) h0 hF.one rfl) ?_
    rintro _ H7 ⟨l7, rfl⟩
    (refine stpU ?_; repeat (refine Al4.mk ?_; intro _ _ _ _; refine stpU ?_))
    refine sA (cs := [I 0, I 0, .ns, I 0, .ns]) rfl (l7 _ _ (l6 _ _ f4)) rfl rfl rfl ?_
    rintro H8 hH8
    have f8 : H8 b4 = some ⟨[I 0, I 0, .ns, I 0, .ns], true, 0⟩ := by rw [hH8]; exact upd_same _ _ _
    have l8 : HLe H H8 := by rw [hH8]; exact (l.trans (l6.trans l7)).upd_of h4 _
    (refine stpU ?_; repeat (refine Al4.mk ?_; intro _ _ _ _; refine stpU ?_))
    exact ⟨[zeroC, I (matE D.q n ls)], ⟨⟨b4, 0, _, rfl, f8, by simp, rfl⟩, rfl, trivial⟩, l8, .inl ⟨h0, rfl⟩⟩
  · (refine stpU ?_; repeat (refine Al4.mk ?_; intro _ _ _ _; refine stpU ?_))
    refine aLg ?_
    intro b6 H5 h6 l5 f6 _
    refine sA (cs := [I (n : Nat), vr]) rfl f6 rfl rfl rfl ?_
    rintro H6 hH6
    have f7 : H6 b6 = some ⟨[I (n : Nat), vr], true, 0⟩ := by rw [hH6]; exact upd_same _ _ _
    have l6 : HLe H4 H6 := by rw [hH6]; exact l5.upd_of h6 _
    replace hMS := hMS.mono l6
    replace l6 := l4.trans l6
    replace f2 := l6 _ _ f2
    replace f3 := l6 _ _ f3
    have g0 : rdc H6 b3 0 = some (I (n : Nat)) := rdc_of f3 rfl
    (refine stpU ?_; repeat (refine Al4.mk ?_; intro _ _ _ _; refine stpU ?_))
    refine cA (code_length_calls n h1 h64 _) ?_
    rintro _ _ ⟨rfl, rfl⟩
    (refine stpU ?_; repeat (refine Al4.mk ?_; intro _ _ _ _; refine stpU ?_))
    refine ldn_own rfl f2 rfl ?_
    (refine stpU ?_; repeat (refine Al4.mk ?_; intro _ _ _ _; refine stpU ?_))
    refine ldn_own rfl f7 rfl ?_
    (refine stpU ?_; repeat (refine Al4.mk ?_; intro _ _ _ _; refine stpU ?_))
    refine cA (code_of_calls (hF.mono l6) hMS.one) ?_
    rintro _ H7 ⟨l7, vf, rfl, hF7⟩
    replace f4 := l7 _ _ (l6 _ _ f4)
    replace hMS := hMS.mono l7
    (refine stpU ?_; repeat (refine Al4.mk ?_; intro _ _ _ _; refine stpU ?_))
    refine sA (cs := [I D.p, I D.m, vf, I (n : Nat), vr]) rfl f4 rfl rfl rfl ?_
    rintro H8 hH8
    have f8 : H8 b4 = some ⟨[I D.p, I D.m, vf, I (n : Nat), vr], true, 0⟩ := by rw [hH8]; exact upd_same _ _ _
    have l8 : HLe H H8 := by rw [hH8]; exact (l.trans (l6.trans l7)).upd_of h4 _
    (refine stpU ?_; repeat (refine Al4.mk ?_; intro _ _ _ _; refine stpU ?_))
    exact ⟨[cdA D vf n vr, I 0], ⟨⟨b4, 0, _, rfl, f8, by simp, rfl⟩, rfl, trivial⟩, l8, .inr ⟨h0, k, p, N, vf, vr, rfl, by rw [hH8]; exact hF7.cell f4 (by decide), by rw [hH8]; exact hMS.cell f4 (by decide), hk, hC⟩⟩
end Go.Proofs.Ytdkdainipanacaa
namespace Go.Proofs.Ytdkdainipanacaa
open Go Go.RowKit Alg
set_option linter.unusedSimpArgs false
set_option linter.unusedVariables false
set_option linter.constructorNameAsVariable false
set_option linter.unusedSectionVars false
attribute [local irreducible] aopL W
variable {D : Desc} [Desc.Ok D]

open Classical in
theorem r09_Entries_calls (hD : D.Small) {l : List Int} {vm vy : AV} {H : AH} (hC : Cs H vy (l.map I)) (hn : l.length ≤ 1000000000) :
    ACalls Try.prog n_r09_Entries [fd D vm, vy] H (fun r H' => r = I (if Elems D.q l then 0 else 2) ∧ HLe H H') := by
  refine calls_of F_r09_Entries hmix (by show 2 ≤ 19; decide) ?_
  unfold s_r09_Entries
  have hln : (l.map I).length = l.length := List.length_map ..
  (refine stpU ?_; repeat (refine Al4.mk ?_; intro _ _ _ _; refine stpU ?_))
  refine bXg (cs := [I D.p, I D.m, vm]) rfl ?_
  intro b2 H1 h2 l1 f2 _
  replace hC := hC.mono l1
  (refine stpU ?_; repeat (refine Al4.mk ?_; intro _ _ _ _; refine stpU ?_))
  refine W_loopF (X := Nat) (fun i => [(1, vy), (2, .p b2 0), (5, I (i : Nat))]) (fun _ => H1) (fun i => i ≤ l.length ∧ ∀ (j : Nat) (c : Int), j < i → l[j]? = some c → 0 ≤ c ∧ c < D.q) (fun i => l.length - i) 0 ⟨Nat.zero_le _, fun j c h => absurd h (Nat.not_lt_zero _)⟩ ⟨rfl, rfl, rfl, trivial⟩ (.refl _) ?_
  rintro i ⟨hi, hok⟩
  by_cases hil : i < l.length
  · have hget : l[i]? = some l[i] := List.getElem?_eq_getElem (by omega)
    have hw : (l.map I)[i]? = some (I l[i]) := by rw [List.getElem?_map, hget]; rfl
    generalize l[i] = c at *
    (refine stpU ?_; repeat (refine Al4.mk ?_; intro _ _ _ _; refine stpU ?_))
    refine ldn_own rfl f2 rfl ?_
    (refine stpU ?_; repeat (refine Al4.mk ?_; intro _ _ _ _; refine stpU ?_))
    refine cAt (r04_Is_calls hD c vm H1) ?_
    rintro _ H2 ⟨rfl, l2⟩
    refine ⟨l2, ?_⟩
    by_cases hin : 0 ≤ c ∧ c < D.q
    · rw [decide_eq_true hin]
      (refine stpU ?_; repeat (refine Al4.mk ?_; intro _ _ _ _; refine stpU ?_))
      refine ⟨i + 1, ⟨by omega, fun j d hj hd => ?_⟩, by omega, ⟨rfl, rfl, rfl, trivial⟩, l2⟩
      by_cases e : j = i
      · subst e
        have : c = d := Option.some.inj (hget.symm.trans hd)
        omega
      · exact hok j d (by omega) hd
    · rw [decide_eq_false hin]
      (refine stpU ?_; repeat (refine Al4.mk ?_; intro _ _ _ _; refine stpU ?_))
      refine ⟨?_, l1.trans l2⟩
      rw [if_neg (fun h => hin (h c (List.mem_of_getElem? hget)))]; rfl
  · (refine stpU ?_; repeat (refine Al4.mk ?_; intro _ _ _ _; refine stpU ?_))
    refine ⟨?_, l1⟩
    have hall : Elems D.q l := fun x hx => by
      obtain ⟨j, hj⟩ := List.getElem?_of_mem hx
      exact hok j x (by have := (List.getElem?_eq_some_iff.mp hj).1; omega) hj
    rw [if_pos hall]; rfl

/-- a new row -/
def NewR (H H' : AH) (r : AV) (w : Nat) (V : Nat → El D) : Prop := ∃ id, r = .s id 0 w ∧ H id = none ∧ H' id = some ⟨tabN w fun c => (V c).v, true, 1⟩
theorem NewR.cs {H H' : AH} {r : AV} {w : Nat} {V : Nat → El D} (h : NewR H H' r w V) : Cs H' r (tabN w fun c => (V c).v) := by
  obtain ⟨id, rfl, _, h2⟩ := h
  have := Cs.own h2
  rw [tabN_len] at this
  exact this

set_option maxHeartbeats 2000000 in
theorem r09_scale_calls (hD : D.Small) (a : Int) {w : Nat} {V : Nat → El D} {vm vy : AV} {H : AH} (hM : ModS H D vm) (hC : Cs H vy (tabN w fun c => (V c).v)) (hw : w ≤ 1000000) :
    ACalls Try.prog n_r09_scale [fd D vm, I a, vy] H (fun r H' => NewR H H' r w (fun c => el a * V c) ∧ HLe H H') := by
  refine calls_of F_r09_scale hmix (by show 3 ≤ 29; decide) ?_
  unfold s_r09_scale
  have hln : (tabN w fun c => (V c).v).length = w := tabN_len _ _
  (refine stpU ?_; repeat (refine Al4.mk ?_; intro _ _ _ _; refine stpU ?_))
  refine bXg (cs := [I D.p, I D.m, vm]) rfl ?_
  intro b3 H1 h3 l1 f3 _
  replace hC := hC.mono l1
  replace hM := hM.mono l1
  (refine stpU ?_; repeat (refine Al4.mk ?_; intro _ _ _ _; refine stpU ?_))
  refine mKN (n := w) (l := w) (congrArg (fun z : Nat => I (z : Int)) hln) (congrArg (fun z : Nat => I (z : Int)) hln) (Nat.le_refl _) (by omega) (by omega) ?_
  intro id H2 hid l2 fi hH2
  have e0 : H2 = upd H1 id ⟨tabN w fun c => if c < 0 then (el a * V c : El D).v else 0, true, 1⟩ := by
    rw [hH2, tabN_rep]
    congr 2
  rw [e0]
  clear e0 hH2 fi l2
  (refine stpU ?_; repeat (refine Al4.mk ?_; intro _ _ _ _; refine stpU ?_))
  refine W_loopF (X := Nat × AH) (fun x => [(1, I a), (2, vy), (3, .p b3 0), (7, .s id 0 w), (8, I (x.1 : Nat))]) (fun x => upd x.2 id ⟨tabN w fun c => if c < x.1 then (el a * V c : El D).v else 0, true, 1⟩)
    (fun x => x.1 ≤ w ∧ HLe H1 x.2 ∧ x.2 id = none) (fun x => w - x.1) (0, H1) ⟨Nat.zero_le _, .refl _, hid⟩ ⟨rfl, rfl, rfl, rfl, rfl, trivial⟩ (.refl _) ?_
  rintro ⟨i, G⟩ ⟨hi, lG, hG⟩
  dsimp only at hi lG hG ⊢
  have lX : HLe H1 (upd G id ⟨tabN w fun c => if c < i then (el a * V c : El D).v else 0, true, 1⟩) := lG.upd_of hid _
  have hCx := hC.mono lX
  by_cases hiw : i < w
  · have hw' : (tabN w fun c => (V c).v)[i]? = some (I (V i).v) := tabN_get _ hiw
    (refine stpU ?_; repeat (refine Al4.mk ?_; intro _ _ _ _; refine stpU ?_))
    refine ldn_own rfl (lX _ _ f3) rfl ?_
    (refine stpU ?_; repeat (refine Al4.mk ?_; intro _ _ _ _; refine stpU ?_))
    refine cAt (r04_Mul_calls hD a (V i).v (hM.mono lX)) ?_
    rintro _ H4 ⟨rfl, l4⟩
    refine ⟨l4, ?_⟩
    rw [el_of]
    (refine stpU ?_; repeat (refine Al4.mk ?_; intro _ _ _ _; refine stpU ?_))
    refine sV (off := i) (v := I (el a * V i : El D).v) rfl (l4 _ _ (upd_same _ _ _)) rfl rfl (by rw [tabN_len]; omega) ?_
    rw [tabN_set _ _ hiw]
    (refine stpU ?_; repeat (refine Al4.mk ?_; intro _ _ _ _; refine stpU ?_))
    refine ⟨(i + 1, del H4 id), ⟨hiw, (lG.trans ((HLe.upd_new hG _).trans l4)).del_of hid, del_same _ _⟩, by dsimp only; omega, ⟨rfl, rfl, rfl, rfl, rfl, trivial⟩, ?_⟩
    show HLe (upd (del H4 id) id _) _
    rw [upd_del]
    refine HLe.tabN fun c _ => ?_
    by_cases e : c = i
    · subst e; rw [if_pos (by omega), if_pos rfl]
    · rw [if_neg e]
      by_cases h2 : c < i
      · rw [if_pos h2, if_pos (by omega)]
      · rw [if_neg h2, if_neg (by omega)]
  · have ei : i = w := by omega
    subst ei
    (refine stpU ?_; repeat (refine Al4.mk ?_; intro _ _ _ _; refine stpU ?_))
    refine ⟨⟨id, rfl, l1.absent hid, ?_⟩, l1.trans lX⟩
    show upd G id _ id = _
    rw [upd_same]
    congr 2
    exact tabN_congr fun c hc => if_pos hc

set_option maxHeartbeats 2000000 in
theorem r09_AddTo_calls (hD : D.Small) (a : Int) {w : Nat} {V U : Nat → El D} {vm vy vz : AV} {H : AH} (hM : ModS H D vm) (hC : Cs H vy (tabN w fun c => (V c).v)) (hE : Cs H vz (tabN w fun c => (U c).v)) (hw : w ≤ 1000000) :
    ACalls Try.prog n_r09_AddTo [fd D vm, vy, I a, vz] H (fun r H' => NewR H H' r w (fun c => V c + el a * U c) ∧ HLe H H') := by
  refine calls_of F_r09_AddTo hmix (by show 4 ≤ 49; decide) ?_
  unfold s_r09_AddTo
  have hln : (tabN w fun c => (V c).v).length = w := tabN_len _ _
  obtain ⟨T, hT⟩ : ∃ T : Nat → El D, ∀ c, T c = V c + el a * U c := ⟨_, fun _ => rfl⟩
  have hTT : (fun c => V c + el a * U c) = T := funext fun c => (hT c).symm
  rw [hTT]
  (refine stpU ?_; repeat (refine Al4.mk ?_; intro _ _ _ _; refine stpU ?_))
  refine bXg (cs := [I D.p, I D.m, vm]) rfl ?_
  intro b4 H1 h4 l1 f4 _
  replace hC := hC.mono l1
  replace hE := hE.mono l1
  replace hM := hM.mono l1
  (refine stpU ?_; repeat (refine Al4.mk ?_; intro _ _ _ _; refine stpU ?_))
  refine mKN (n := w) (l := w) (congrArg (fun z : Nat => I (z : Int)) hln) (congrArg (fun z : Nat => I (z : Int)) hln) (Nat.le_refl _) (by omega) (by omega) ?_
  intro id H2 hid l2 fi hH2
  have e0 : H2 = upd H1 id ⟨tabN w fun c => if c < 0 then (T c).v else 0, true, 1⟩ := by
    rw [hH2, tabN_rep]
    congr 2
  rw [e0]
  clear e0 hH2 fi l2
  (refine stpU ?_; repeat (refine Al4.mk ?_; intro _ _ _ _; refine stpU ?_))
  refine W_loopF (X := Nat × AH) (fun x => [(1, vy), (2, I a), (3, vz), (4, .p b4 0), (9, .s id 0 w), (10, I (x.1 : Nat))]) (fun x => upd x.2 id ⟨tabN w fun c => if c < x.1 then (T c).v else 0, true, 1⟩)
    (fun x => x.1 ≤ w ∧ HLe H1 x.2 ∧ x.2 id = none) (fun x => w - x.1) (0, H1) ⟨Nat.zero_le _, .refl _, hid⟩ ⟨rfl, rfl, rfl, rfl, rfl, rfl, trivial⟩ (.refl _) ?_
  rintro ⟨i, G⟩ ⟨hi, lG, hG⟩
  dsimp only at hi lG hG ⊢
  have lX : HLe H1 (upd G id ⟨tabN w fun c => if c < i then (T c).v else 0, true, 1⟩) := lG.upd_of hid _
  have hCx := hC.mono lX
  by_cases hiw : i < w
  · have hw' : (tabN w fun c => (V c).v)[i]? = some (I (V i).v) := tabN_get _ hiw
    have hu' : (tabN w fun c => (U c).v)[i]? = some (I (U i).v) := tabN_get _ hiw
    (refine stpU ?_; repeat (refine Al4.mk ?_; intro _ _ _ _; refine stpU ?_))
    refine sV (off := i) (v := I (V i).v) rfl (upd_same _ _ _) rfl rfl (by rw [tabN_len]; omega) ?_
    rw [tabN_set _ _ hiw, upd_upd]
    have lY : HLe H1 (upd G id ⟨tabN w fun c => if c = i then (V i).v else if c < i then (T c).v else 0, true, 1⟩) := lG.upd_of hid _
    have hCy := hC.mono lY
    have hEy := hE.mono lY
    by_cases hz : U i = 0
    · have hz' : (U i).v = 0 := by rw [hz]; rfl
      have hTi : T i = V i := by rw [hT, hz, mul_zero, Alg.add_zero]
      (refine stpU ?_; repeat (refine Al4.mk ?_; intro _ _ _ _; refine stpU ?_))
      refine ⟨(i + 1, G), ⟨hiw, lG, hG⟩, by dsimp only; omega, ⟨rfl, rfl, rfl, rfl, rfl, rfl, trivial⟩, HLe.tabN fun c _ => ?_⟩
      by_cases e : c = i
      · subst e; rw [if_pos (by omega), if_pos rfl, hTi]
      · rw [if_neg e]
        by_cases h2 : c < i
        · rw [if_pos h2, if_pos (by omega)]
        · rw [if_neg h2, if_neg (by omega)]
    · have hz' : (U i).v ≠ 0 := fun h => hz (El.ext h)
      (refine stpU ?_; repeat (refine Al4.mk ?_; intro _ _ _ _; refine stpU ?_))
      refine ldn_own rfl (lY _ _ f4) rfl ?_
      (refine stpU ?_; repeat (refine Al4.mk ?_; intro _ _ _ _; refine stpU ?_))
      refine ldn_own rfl (lY _ _ f4) rfl ?_
      (refine stpU ?_; repeat (refine Al4.mk ?_; intro _ _ _ _; refine stpU ?_))
      refine cAt (r04_Mul_calls hD a (U i).v (hM.mono lY)) ?_
      rintro _ H4 ⟨rfl, l4⟩
      refine ⟨l4, ?_⟩
      refine cAt (r04_Add_calls hD (V i).v _ _ _) ?_
      rintro _ H5 ⟨rfl, l5⟩
      refine ⟨l5, ?_⟩
      rw [el_of, el_of, el_of, ← hT]
      (refine stpU ?_; repeat (refine Al4.mk ?_; intro _ _ _ _; refine stpU ?_))
      refine sV (off := i) (v := I (T i).v) rfl (l5 _ _ (l4 _ _ (upd_same _ _ _))) rfl rfl (by rw [tabN_len]; omega) ?_
      rw [tabN_set _ _ hiw]
      (refine stpU ?_; repeat (refine Al4.mk ?_; intro _ _ _ _; refine stpU ?_))
      refine ⟨(i + 1, del H5 id), ⟨hiw, (lG.trans ((HLe.upd_new hG _).trans (l4.trans l5))).del_of hid, del_same _ _⟩, by dsimp only; omega, ⟨rfl, rfl, rfl, rfl, rfl, rfl, trivial⟩, ?_⟩
      show HLe (upd (del H5 id) id _) _
      rw [upd_del]
      refine HLe.tabN fun c _ => ?_
      by_cases e : c = i
      · subst e; rw [if_pos (by omega), if_pos rfl]
      · rw [if_neg e, if_neg e]
        by_cases h2 : c < i
        · rw [if_pos h2, if_pos (by omega)]
        · rw [if_neg h2, if_neg (by omega)]
  · have ei : i = w := by omega
    subst ei
    (refine stpU ?_; repeat (refine Al4.mk ?_; intro _ _ _ _; refine stpU ?_))
    refine ⟨⟨id, rfl, l1.absent hid, ?_⟩, l1.trans lX⟩
    show upd G id _ id = _
    rw [upd_same]
    congr 2
    exact tabN_congr fun c hc => if_pos hc

/-- the cells are slices of the rows of M -/
def Rw (G : AH) (cells : List AV) (w : Nat) (M : Nat → Nat → El D) : Prop := ∀ i c, cells[i]? = some c → Cs G c (tabN w fun j => (M i j).v)
theorem Rw.mono {G G' : AH} {cells : List AV} {w : Nat} {M : Nat → Nat → El D} (hl : HLe G G') (h : Rw G cells w M) : Rw G' cells w M := fun i c hc => (h i c hc).mono hl
theorem Rw.snoc {G : AH} {cells : List AV} {w : Nat} {M : Nat → Nat → El D} {v : AV} (h : Rw G cells w M) (hv : Cs G v (tabN w fun j => (M cells.length j).v)) : Rw G (cells ++ [v]) w M := fun i c hc => by
  rw [List.getElem?_append] at hc
  split at hc
  · exact h i c hc
  · rename_i hi
    have : i - cells.length = 0 := by have := (List.getElem?_eq_some_iff.mp hc).1; simp at this; omega
    rw [this] at hc
    obtain rfl : v = c := by simpa using hc
    have : i = cells.length := by omega
    rw [this]; exact hv

set_option maxHeartbeats 2000000 in
theorem r09_Copy_calls {n w : Nat} {M : Nat → Nat → El D} {vy : AV} {H : AH} (hM : MatS H vy n w M) (hw : 0 < w) (hw2 : w ≤ 1000000) (hn : n ≤ 1000000) :
    ACalls Try.prog n_r09_Copy [vy] H (fun r H' => ∃ G cells, HLe H G ∧ OwnS G r cells ∧ H' = hpO G r cells ∧ cells.length = n ∧ Rw G cells w M) := by
  obtain ⟨cs, hC, hlen, hrow⟩ := hM
  refine calls_of F_r09_Copy hmix (by show 1 ≤ 21; decide) ?_
  unfold s_r09_Copy
  (refine stpU ?_; repeat (refine Al4.mk ?_; intro _ _ _ _; refine stpU ?_))
  refine W_loopF (X := Nat × AV × AH × List AV) (fun x => [(0, vy), (3, x.2.1), (4, I (x.1 : Nat))]) (fun x => hpO x.2.2.1 x.2.1 x.2.2.2) (fun x => x.1 ≤ n ∧ HLe H x.2.2.1 ∧ OwnS x.2.2.1 x.2.1 x.2.2.2 ∧ x.2.2.2.length = x.1 ∧ Rw x.2.2.1 x.2.2.2 w M) (fun x => n - x.1) (0, .ns, H, [])
    ⟨Nat.zero_le _, .refl _, .nil _, rfl, fun i c hc => by simp at hc⟩ ⟨rfl, rfl, rfl, trivial⟩ (.refl _) ?_
  rintro ⟨i, vx, G, cells⟩ ⟨hi, lG, hS, hcl, hR⟩
  dsimp only at hi lG hS hcl hR ⊢
  have hl : HLe H (hpO G vx cells) := lG.trans hS.hle
  have hCv := hC.mono hl
  by_cases hil : i < n
  · have hw' : cs[i]? = some cs[i] := List.getElem?_eq_getElem (by omega)
    obtain ⟨vz, hz⟩ : ∃ v, v = cs[i] := ⟨_, rfl⟩
    rw [← hz] at hw'
    have hCi := (hrow i _ hw').mono hl
    (refine stpU ?_; repeat (refine Al4.mk ?_; intro _ _ _ _; refine stpU ?_))
    refine bE ?_
    (refine stpU ?_; repeat (refine Al4.mk ?_; intro _ _ _ _; refine stpU ?_))
    refine apE (.inr rfl) rfl hCi (fun h => by have := congrArg List.length h; rw [tabN_len] at this; simp at this; omega) (by decide) (by rw [tabN_len]; omega) ?_
    intro id hid
    rw [tabN_len]
    have hS2 := OwnS.add (C := ⟨tabN w fun j => (M i j).v, true, 1⟩) hS hid
    rw [hpO_comm hS2]
    have hG : G id = none := hS.hle.absent hid
    have lG2 : HLe G (upd G id ⟨tabN w fun j => (M i j).v, true, 1⟩) := .upd_new hG _
    have hnew : Cs (upd G id ⟨tabN w fun j => (M i j).v, true, 1⟩) (.s id 0 w) (tabN w fun j => (M i j).v) := by
      have := Cs.own (upd_same G id ⟨tabN w fun j => (M i j).v, true, 1⟩)
      rw [tabN_len] at this; exact this
    generalize upd G id ⟨tabN w fun j => (M i j).v, true, 1⟩ = G2 at *
    refine ap1 (v := .s id 0 w) rfl hS2 rfl (by decide) rfl rfl (by decide) (by omega) ?_
    intro t i2 ht hi2 hne
    (refine stpU ?_; repeat (refine Al4.mk ?_; intro _ _ _ _; refine stpU ?_))
    refine ⟨(i + 1, .s i2 0 (i + 1), upd G2 t ⟨[.s id 0 w], true, 1⟩, cells ++ [.s id 0 w]), ⟨by omega, (lG.trans lG2).trans (.upd_new ht _), .sl ?_ (by simp [hcl]), by simp [hcl], ?_⟩, by dsimp only; omega, ⟨rfl, ?_, rfl, trivial⟩, .refl _⟩
    · show upd G2 t _ i2 = none
      rw [upd_ne _ _ hne]; exact hi2
    · refine ((hR.mono lG2).snoc ?_).mono (.upd_new ht _)
      rw [hcl]; exact hnew
    · show AV.s i2 0 (cells.length + 1) = _
      rw [hcl]
  · have : i = n := by omega
    subst this
    (refine stpU ?_; repeat (refine Al4.mk ?_; intro _ _ _ _; refine stpU ?_))
    exact ⟨G, cells, lG, hS, rfl, hcl, hR⟩
end Go.Proofs.Ytdkdainipanacaa
