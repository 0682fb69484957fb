/- Contract of cyclic.New. Condition: the arguments stand in memory. · Contracts of the reference's Args, Word, Generated, New (cyclic). Condition: the arguments stand in memory. -/
import Derived.Test.YtdkdainipanacaaHl
namespace Go.Proofs.Ytdkdainipanacaa
open Go Go.RowKit Alg
set_option linter.unusedSimpArgs false
set_option linter.unusedVariables false
set_option linter.constructorNameAsVariable false
set_option linter.unusedSectionVars false
section
variable {P : Program} {pv : Bool} {rs : List SOp} {a : Nat → AV} {H : AH} {K : (Nat → AV) → AH → Prop} {d : Nat}
/-- a slice is copied into one's own array -/
theorem cpN {x y : SV} {id off len : Nat} {cells news : List AV} {v : AV} (hx : evS a x = .s id off len) (ho : H id = some ⟨cells, true, 1⟩) (hb : off + len ≤ cells.length) (hy : evS a y = v) (hC : Cs H v news) (hl : news.length ≤ len)
    (k : ∀ H', H' = upd H id ⟨splice cells off news, true, 1⟩ → aopL P pv rs (put a d (I (news.length : Nat))) H' K) : aopL P pv (⟨some d, .cp x y, none⟩ :: rs) a H K := by
  refine ⟨id, off, len, ⟨cells, true, 1⟩, news.length, news, hx, ho, rfl, rfl, hb, by rw [hy]; exact hC.src, ?_⟩
  rw [show Nat.min news.length len = news.length from Nat.min_eq_left hl, List.take_length]
  exact k _ rfl
end
attribute [local irreducible] aopL W
theorem field_New_bad {p m : Int} {ml : List Int} {vx : AV} {H : AH} (hC : Cs H vx (ml.map I)) (hno : ¬ IsField p m ml) : ACalls Try.prog n_field_New [.ag [I p, I m, vx]] H (fun r H' => HLe H H' ∧ r = .tu [.np, I 1]) := by
  refine ACalls.mono (field_New_calls p m ml hC) ?_
  rintro r H' ⟨hl, ⟨rfl, _⟩ | ⟨E, hS, vg, hI, rfl, hG⟩⟩
  · exact ⟨hl, rfl⟩
  · exact absurd ⟨E, hS, hI⟩ hno

theorem cyclic_New_bad {p m n : Int} {ml : List Int} {vx vy : AV} {H : AH} (hC : Cs H vx (ml.map I)) (hno : ¬ IsField p m ml) : ACalls Try.prog n_cyclic_New [.ag [I p, I m, vx], I n, vy] H (fun r H' => HLe H H' ∧ r = .tu [zeroC, I 1]) := by
  refine calls_ofC F_cyclic_New hmix (by show 3 ≤ 77; decide) ?_
  unfold s_cyclic_New
  (refine stpU ?_; repeat (refine Al4.mk ?_; intro _ _ _ _; refine stpU ?_))
  refine bXg (cs := [I p, I m, vx]) rfl ?_
  intro b3 H1 h3 l1 f3 _
  (refine stpU ?_; repeat (refine Al4.mk ?_; intro _ _ _ _; refine stpU ?_))
  refine aLg ?_
  intro b6 H2 h6 l2 f6 _
  have l := l1.trans l2
  replace h6 := l1.absent h6
  (refine stpU ?_; repeat (refine Al4.mk ?_; intro _ _ _ _; refine stpU ?_))
  refine ldn_own rfl (l2 _ _ f3) rfl ?_
  (refine stpU ?_; repeat (refine Al4.mk ?_; intro _ _ _ _; refine stpU ?_))
  refine cA (field_New_bad (hC.mono l) hno) ?_
  rintro _ H3 ⟨l3, rfl⟩
  (refine stpU ?_; repeat (refine Al4.mk ?_; intro _ _ _ _; refine stpU ?_))
  refine bD (cs := [I 0, I 0, .ns, I 0, .ns]) rfl ?_
  (refine stpU ?_; repeat (refine Al4.mk ?_; intro _ _ _ _; refine stpU ?_))
  refine sA (cs := [I 0, I 0, .ns, I 0, .ns]) rfl (l3 _ _ f6) rfl rfl rfl ?_
  rintro H5 hH5
  have f5 : H5 b6 = some ⟨[I 0, I 0, .ns, I 0, .ns], true, 0⟩ := by rw [hH5]; exact upd_same _ _ _
  have l5 : HLe H H5 := by rw [hH5]; exact (l.trans l3).upd_of h6 _
  (refine stpU ?_; repeat (refine Al4.mk ?_; intro _ _ _ _; refine stpU ?_))
  exact ⟨[zeroC, I 1], ⟨⟨b6, 0, _, rfl, f5, by simp, rfl⟩, rfl, trivial⟩, l5, rfl⟩

section
variable {D : Desc} [Desc.Ok D]
/-- c is the code of the row space of the kk rows of M -/
def CodeR (H' : AH) (c : AV) (n kk : Nat) (M : Nat → Nat → El D) : Prop := ∃ k p N vf vg, c = cdA D vf n vg ∧ FS D H' vf ∧ MatS H' vg k n N ∧ k ≤ kk ∧ CanM n kk k M p N
theorem CodeR.mono {H H' : AH} {c : AV} {n kk : Nat} {M : Nat → Nat → El D} (hl : HLe H H') (h : CodeR H c n kk M) : CodeR H' c n kk M := by
  obtain ⟨k, p, N, vf, vg, h1, h2, h3, h4⟩ := h
  exact ⟨k, p, N, vf, vg, h1, h2.mono hl, h3.mono hl, h4⟩
theorem CodeR.cell {H : AH} {c : AV} {n kk : Nat} {M : Nat → Nat → El D} {b : Nat} {ob ob' : AObj} (h : CodeR H c n kk M) (hb : H b = some ob) (hz : ob.sz ≠ 1) : CodeR (upd H b ob') c n kk M := by
  obtain ⟨k, p, N, vf, vg, h1, h2, h3, h4⟩ := h
  exact ⟨k, p, N, vf, vg, h1, h2.cell hb hz, h3.cell hb hz, h4⟩
/-- code.New of rows that fit -/
theorem code_New_mat {n k : Nat} {M : Nat → Nat → El D} {vm vy : AV} {H : AH} (hF : FS D H vm) (hM : MatS H vy k n M) (h1 : 1 ≤ n) (h64 : n ≤ 64) (hk : k ≤ 256) :
    ACalls Try.prog n_code_New [fd D vm, .ag [I (n : Nat), vy]] H (fun r H' => HLe H H' ∧ ∃ c, r = .tu [c, I 0] ∧ CodeR H' c n k M) := by
  haveI := hF.fld
  refine ACalls.mono (code_New_calls hF hM.rows h1 h64 hM.one) ?_
  rintro r H' ⟨hl, ⟨h0, _⟩ | ⟨_, k', p, N, vf, vg, rfl, hF', hN, hk', hC⟩⟩
  · exact absurd (matE_matI M hk (by omega)) h0
  · rw [matI_len] at hk' hC
    exact ⟨hl, _, rfl, k', p, N, vf, vg, rfl, hF', hN, hk', hC.congr fun i j hi hj => matL_matI M hi hj⟩

theorem splice_gen {n i : Nat} {g : Poly (El D)} (h : i + len g ≤ n) : splice (tabN n fun _ => 0) i (tabN (len g) (vals g)) = tabN n fun j => (shR g i j).v := by
  apply List.ext_getElem?
  intro j
  rw [splice_get _ _ _ (by rw [tabN_len, tabN_len]; exact h), tabN_len]
  by_cases hj : j < n
  · rw [tabN_get (fun j => (shR g i j).v) hj]
    by_cases h1 : i ≤ j ∧ j < i + len g
    · rw [if_pos h1, tabN_get _ (by omega)]
      unfold shR
      rw [if_pos h1.1]; rfl
    · rw [if_neg h1, tabN_get _ hj]
      unfold shR
      by_cases h2 : i ≤ j
      · rw [if_pos h2, below_len g _ (by omega)]; rfl
      · rw [if_neg h2]; rfl
  · rw [if_neg (by omega), List.getElem?_eq_none (by rw [tabN_len]; omega), List.getElem?_eq_none (by rw [tabN_len]; omega)]

set_option maxHeartbeats 4000000 in
theorem cyclic_New_calls [Fld (El D)] {n : Int} {l : List Int} {vm vy : AV} {H : AH} (hF : FS D H vm) (hE : Cs H vy (l.map I)) (hl : l.length ≤ 1000000) :
    ACalls Try.prog n_cyclic_New [fd D vm, I n, vy] H (fun r H' => HLe H H' ∧ (((n < 1 ∨ 64 < n) ∧ r = .tu [zeroC, I 4]) ∨ (∃ n' : Nat, n = n' ∧ 1 ≤ n' ∧ n' ≤ 64 ∧ ((¬ Elems D.q l ∧ r = .tu [zeroC, I 2]) ∨
      (Elems D.q l ∧ ∃ c, r = .tu [c, I 0] ∧ CodeR H' c n' (n' + 1 - len (gcdP (polL l) (xn n') : Poly (El D))) (shR (gcdP (polL l : Poly (El D)) (xn n'))))))) ) := by
  have hD := hF.small
  refine calls_ofC F_cyclic_New hmix (by show 3 ≤ 77; decide) ?_
  unfold s_cyclic_New
  have hln : (l.map I).length = l.length := List.length_map ..
  (refine stpU ?_; repeat (refine Al4.mk ?_; intro _ _ _ _; refine stpU ?_))
  refine bXg (cs := [I D.p, I D.m, vm]) rfl ?_
  intro b3 H1 h3 l1 f3 _
  (refine stpU ?_; repeat (refine Al4.mk ?_; intro _ _ _ _; refine stpU ?_))
  refine aLg ?_
  intro b6 H2 h6 l2 f6 _
  have l0 := l1.trans l2
  replace h6 := l1.absent h6
  replace f3 := l2 _ _ f3
  replace hF := hF.mono l0
  replace hE := hE.mono l0
  clear l1 l2
  (refine stpU ?_; repeat (refine Al4.mk ?_; intro _ _ _ _; refine stpU ?_))
  refine ldn_own rfl f3 rfl ?_
  (refine stpU ?_; repeat (refine Al4.mk ?_; intro _ _ _ _; refine stpU ?_))
  refine cA (field_New_ok hF) ?_
  rintro _ H3 ⟨l3, vx, rfl, hG, _⟩
  replace f3 := l3 _ _ f3
  replace f6 := l3 _ _ f6
  replace hF := hF.mono l3
  replace hE := hE.mono l3
  replace l0 := l0.trans l3
  clear l3
  by_cases hn : n < 1 ∨ 64 < n
  · have fin : ∀ H5, H5 = upd H3 b6 ⟨[I 0, I 0, .ns, I 0, .ns], true, 0⟩ → H5 b6 = some ⟨[I 0, I 0, .ns, I 0, .ns], true, 0⟩ ∧ HLe H H5 := fun H5 e => by
      rw [e]; exact ⟨upd_same _ _ _, l0.upd_of h6 _⟩
    by_cases h1 : n < 1
    · (refine stpU ?_; repeat (refine Al4.mk ?_; intro _ _ _ _; refine stpU ?_))
      refine bD (cs := [I 0, I 0, .ns, I 0, .ns]) rfl ?_
      (refine stpU ?_; repeat (refine Al4.mk ?_; intro _ _ _ _; refine stpU ?_))
      refine sA (cs := [I 0, I 0, .ns, I 0, .ns]) rfl f6 rfl rfl rfl ?_
      intro H5 hH5
      obtain ⟨f5, l5⟩ := fin H5 hH5
      (refine stpU ?_; repeat (refine Al4.mk ?_; intro _ _ _ _; refine stpU ?_))
      exact ⟨[zeroC, I 4], ⟨⟨b6, 0, _, rfl, f5, by simp, rfl⟩, rfl, trivial⟩, l5, .inl ⟨hn, rfl⟩⟩
    · (refine stpU ?_; repeat (refine Al4.mk ?_; intro _ _ _ _; refine stpU ?_))
      refine bD (cs := [I 0, I 0, .ns, I 0, .ns]) rfl ?_
      (refine stpU ?_; repeat (refine Al4.mk ?_; intro _ _ _ _; refine stpU ?_))
      refine sA (cs := [I 0, I 0, .ns, I 0, .ns]) rfl f6 rfl rfl rfl ?_
      intro H5 hH5
      obtain ⟨f5, l5⟩ := fin H5 hH5
      (refine stpU ?_; repeat (refine Al4.mk ?_; intro _ _ _ _; refine stpU ?_))
      exact ⟨[zeroC, I 4], ⟨⟨b6, 0, _, rfl, f5, by simp, rfl⟩, rfl, trivial⟩, l5, .inl ⟨hn, rfl⟩⟩
  obtain ⟨n, rfl⟩ : ∃ n' : Nat, n = n' := ⟨n.toNat, by omega⟩
  have hn1 : 1 ≤ n := by omega
  have hn64 : n ≤ 64 := by omega
  (refine stpU ?_; repeat (refine Al4.mk ?_; intro _ _ _ _; refine stpU ?_))
  refine W_loopF (X := Nat) (fun i => [(1, I (n : Nat)), (2, vy), (3, .p b3 0), (6, .p b6 0), (8, vx), (32, vy), (33, I (l.length : Nat)), (34, I (i : Nat))]) (fun _ => H3) (fun i => i ≤ l.length ∧ ∀ (j : Nat) (c : Int), j < i → l[j]? = some c → 0 ≤ c ∧ c < D.q) (fun i => l.length - i) 0 ⟨Nat.zero_le _, fun j c h => absurd h (Nat.not_lt_zero _)⟩ ⟨rfl, rfl, rfl, rfl, rfl, rfl, congrArg (fun z : Nat => I (z : Int)) hln, rfl, trivial⟩ (.refl _) ?_
  rintro i ⟨hi, hok⟩
  by_cases hil : i < l.length
  · have hget : l[i]? = some l[i] := List.getElem?_eq_getElem (by omega)
    have hw : (l.map I)[i]? = some (I l[i]) := by rw [List.getElem?_map, hget]; rfl
    generalize l[i] = c at *
    (refine stpU ?_; repeat (refine Al4.mk ?_; intro _ _ _ _; refine stpU ?_))
    refine cA (GF_Is_calls c hG) ?_
    rintro _ H4 ⟨rfl, e⟩
    rw [e]
    clear e
    by_cases hin : 0 ≤ c ∧ c < D.q
    · rw [decide_eq_true hin]
      (refine stpU ?_; repeat (refine Al4.mk ?_; intro _ _ _ _; refine stpU ?_))
      refine ⟨i + 1, ⟨by omega, fun j d hj hd => ?_⟩, by omega, ⟨rfl, rfl, rfl, rfl, rfl, rfl, rfl, rfl, trivial⟩, .refl _⟩
      by_cases e : j = i
      · subst e
        have : c = d := Option.some.inj (hget.symm.trans hd)
        omega
      · exact hok j d (by omega) hd
    · rw [decide_eq_false hin]
      (refine stpU ?_; repeat (refine Al4.mk ?_; intro _ _ _ _; refine stpU ?_))
      refine bD (cs := [I 0, I 0, .ns, I 0, .ns]) rfl ?_
      (refine stpU ?_; repeat (refine Al4.mk ?_; intro _ _ _ _; refine stpU ?_))
      refine sA (cs := [I 0, I 0, .ns, I 0, .ns]) rfl f6 rfl rfl rfl ?_
      rintro H5 hH5
      have f5 : H5 b6 = some ⟨[I 0, I 0, .ns, I 0, .ns], true, 0⟩ := by rw [hH5]; exact upd_same _ _ _
      have l5 : HLe H H5 := by rw [hH5]; exact l0.upd_of h6 _
      (refine stpU ?_; repeat (refine Al4.mk ?_; intro _ _ _ _; refine stpU ?_))
      exact ⟨[zeroC, I 2], ⟨⟨b6, 0, _, rfl, f5, by simp, rfl⟩, rfl, trivial⟩, l5, .inr ⟨n, rfl, hn1, hn64, .inl ⟨fun h => hin (h c (List.mem_of_getElem? hget)), rfl⟩⟩⟩
  have hall : Elems D.q l := fun x hx => by
    obtain ⟨j, hj⟩ := List.getElem?_of_mem hx
    exact hok j x (by have := (List.getElem?_eq_some_iff.mp hj).1; omega) hj
  clear hok
  (refine stpU ?_; repeat (refine Al4.mk ?_; intro _ _ _ _; refine stpU ?_))
  refine cA (cyclic_around_calls hD hn1 (by omega) hG) ?_
  rintro vw H4 ⟨l4, hX⟩
  (refine stpU ?_; repeat (refine Al4.mk ?_; intro _ _ _ _; refine stpU ?_))
  refine cA (Gcd_calls hD (hG.mono l4) ⟨l, hE.mono l4, rfl, rfl⟩ hX (by omega) (by omega)) ?_
  rintro vz H5 ⟨l5, hg⟩
  obtain ⟨g, hgd⟩ : ∃ g : Poly (El D), g = gcdP (polL l) (xn n) := ⟨_, rfl⟩
  rw [← hgd] at hg
  have hgl : len g ≤ n + 1 := by
    have := ((gcdP_spec (polL l : Poly (El D)) (xn n)).2.1).len (xn_ne (by omega))
    rw [← hgd, xn_len (by omega)] at this
    exact this
  have hgC : Cs H5 vz (tabN (len g) (vals g)) := hg
  have hglen : (tabN (len g) (vals g)).length = len g := tabN_len _ _
  have l45 := l4.trans l5
  replace f3 := l45 _ _ f3
  replace f6 := l45 _ _ f6
  replace hF := hF.mono l45
  replace l0 := l0.trans l45
  clear l4 l5 l45 hX hE hG hg
  (refine stpU ?_; repeat (refine Al4.mk ?_; intro _ _ _ _; refine stpU ?_))
  refine W_loopF (X := Nat × AV × AH × List AV) (fun x => [(1, I (n : Nat)), (3, .p b3 0), (6, .p b6 0), (12, vz), (13, x.2.1), (54, I ((n + 1 - len g : Nat) : Int)), (55, I (x.1 : Nat))]) (fun x => hpO x.2.2.1 x.2.1 x.2.2.2)
    (fun x => x.1 ≤ n + 1 - len g ∧ HLe H5 x.2.2.1 ∧ OwnS x.2.2.1 x.2.1 x.2.2.2 ∧ x.2.2.2.length = x.1 ∧ Rw x.2.2.1 x.2.2.2 n (shR g)) (fun x => n + 1 - len g - x.1) (0, .ns, H5, [])
    ⟨Nat.zero_le _, .refl _, .nil _, rfl, fun i c hc => by simp at hc⟩ ⟨rfl, rfl, rfl, rfl, rfl, congrArg (fun z : Nat => I ((n + 1 - z : Nat) : Int)) hglen, rfl, trivial⟩ (.refl _) ?_
  rintro ⟨i, vx, G, cells⟩ ⟨hi, lG, hS, hcl, hR⟩
  dsimp only at hi lG hS hcl hR ⊢
  by_cases hik : i < n + 1 - len g
  · (refine stpU ?_; repeat (refine Al4.mk ?_; intro _ _ _ _; refine stpU ?_))
    refine mKN (n := n) (l := n) rfl rfl (Nat.le_refl _) (by omega) (by omega) ?_
    intro id H6 hid l6 f7 hH6
    have hid0 := hid
    have hS2 := OwnS.add (C := ⟨tabN n fun _ => 0, true, 1⟩) hS hid
    rw [tabN_rep] at hH6 f7
    rw [hpO_comm hS2] at hH6
    rw [hH6]
    rw [hH6] at f7
    have hGid : G id = none := hS.hle.absent hid
    have lv : HLe H5 (hpO (upd G id ⟨tabN n fun _ => 0, true, 1⟩) vx cells) := (lG.trans (.upd_new hGid _)).trans hS2.hle
    (refine stpU ?_; repeat (refine Al4.mk ?_; intro _ _ _ _; refine stpU ?_))
    refine sLo (l := i) rfl f7 rfl rfl (by omega) ?_
    (refine stpU ?_; repeat (refine Al4.mk ?_; intro _ _ _ _; refine stpU ?_))
    refine cpN rfl f7 (by rw [tabN_len]; omega) rfl (hgC.mono lv) (by rw [tabN_len]; omega) ?_
    intro H7 hH7
    rw [Nat.zero_add, splice_gen (by omega), hpO_upd hS2] at hH7
    rw [hH7]
    have hS3 : OwnS (upd G id ⟨tabN n fun j => (shR g i j).v, true, 1⟩) vx cells := hS2.same
    have lG2 : HLe G (upd G id ⟨tabN n fun j => (shR g i j).v, true, 1⟩) := .upd_new hGid _
    have hnew : Cs (upd G id ⟨tabN n fun j => (shR g i j).v, true, 1⟩) (.s id 0 n) (tabN n fun j => (shR g i j).v) := by
      have := Cs.own (upd_same G id ⟨tabN n fun j => (shR g i j).v, true, 1⟩)
      rw [tabN_len] at this; exact this
    generalize upd G id ⟨tabN n fun j => (shR g i j).v, true, 1⟩ = G2 at *
    (refine stpU ?_; repeat (refine Al4.mk ?_; intro _ _ _ _; refine stpU ?_))
    refine ap1 (v := .s id 0 n) rfl hS3 rfl (by decide) rfl rfl (by decide) (by omega) ?_
    intro t i2 ht hi2 hne
    (refine stpU ?_; repeat (refine Al4.mk ?_; intro _ _ _ _; refine stpU ?_))
    refine ⟨(i + 1, .s i2 0 (i + 1), upd G2 t ⟨[.s id 0 n], true, 1⟩, cells ++ [.s id 0 n]), ⟨by omega, (lG.trans lG2).trans (.upd_new ht _), .sl ?_ (by simp [hcl]), by simp [hcl], ?_⟩, by dsimp only; omega, ⟨rfl, rfl, rfl, rfl, ?_, rfl, rfl, trivial⟩, .refl _⟩
    · show upd G2 t _ i2 = none
      rw [upd_ne _ _ hne]; exact hi2
    · refine ((hR.mono lG2).snoc ?_).mono (.upd_new ht _)
      rw [hcl]; exact hnew
    · show AV.s i2 0 (cells.length + 1) = _
      rw [hcl]
  · have ei : i = n + 1 - len g := by omega
    have lX : HLe H5 (hpO G vx cells) := lG.trans hS.hle
    have hMS : MatS (hpO G vx cells) vx (n + 1 - len g) n (shR g) := ⟨cells, hS.cs, by omega, hR.mono hS.hle⟩
    generalize hpO G vx cells = HX at *
    (refine stpU ?_; repeat (refine Al4.mk ?_; intro _ _ _ _; refine stpU ?_))
    refine ldn_own rfl (lX _ _ f3) rfl ?_
    (refine stpU ?_; repeat (refine Al4.mk ?_; intro _ _ _ _; refine stpU ?_))
    refine bD (cs := [I (n : Nat), vx]) ?_ ?_
    · refine (afill_cons rfl rfl rfl (show 1 ≤ 2 by decide)).trans ((afill_cons rfl hMS.one rfl (show 2 ≤ 2 by decide)).trans rfl)
    (refine stpU ?_; repeat (refine Al4.mk ?_; intro _ _ _ _; refine stpU ?_))
    refine cA (code_New_mat (hF.mono lX) hMS hn1 hn64 (by omega)) ?_
    rintro _ H8 ⟨l8, c, rfl, hc⟩
    replace f6 := l8 _ _ (lX _ _ f6)
    obtain ⟨k, p, N, vf, vg, rfl, hcc⟩ := hc
    (refine stpU ?_; repeat (refine Al4.mk ?_; intro _ _ _ _; refine stpU ?_))
    refine sA (cs := [I D.p, I D.m, vf, I (n : Nat), vg]) rfl f6 rfl rfl rfl ?_
    rintro H9 hH9
    have f9 : H9 b6 = some ⟨[I D.p, I D.m, vf, I (n : Nat), vg], true, 0⟩ := by rw [hH9]; exact upd_same _ _ _
    have l9 : HLe H H9 := by rw [hH9]; exact (l0.trans (lX.trans l8)).upd_of h6 _
    (refine stpU ?_; repeat (refine Al4.mk ?_; intro _ _ _ _; refine stpU ?_))
    exact ⟨[cdA D vf n vg, I 0], ⟨⟨b6, 0, _, rfl, f9, by simp, rfl⟩, rfl, trivial⟩, l9, .inr ⟨n, rfl, hn1, hn64, .inr ⟨hall, _, rfl, by rw [← hgd, hH9]; exact CodeR.cell ⟨k, p, N, vf, vg, rfl, hcc⟩ f6 (by simp)⟩⟩⟩
end
end Go.Proofs.Ytdkdainipanacaa
namespace Go.Proofs.Ytdkdainipanacaa
open Go Go.RowKit Alg
set_option linter.unusedSimpArgs false
set_option linter.unusedVariables false
set_option linter.constructorNameAsVariable false
set_option linter.unusedSectionVars false
section
variable {P : Program} {pv : Bool} {rs : List SOp} {a : Nat → AV} {H : AH} {K : (Nat → AV) → AH → Prop}
/-- one value is appended to one's own slice, in a drawn region -/
theorem apl1 {G : AH} {x : AV} {cells : List AV} {d1 d2 j by_ : Nat} {z v : AV} {y : SV} (hH : H = hpO G x cells) (hO : OwnS G x cells) (hx : a j = x) (hj : j ≠ d1) (hv : evS a y = v) (hc : cellsOf v = some [v])
    (hb : by_ ≤ 1024) (hn : cells.length ≤ 100000000)
    (k : ∀ t i, G t = none → G i = none → i ≠ t → aopL P pv rs (put (put a d1 (.s t 0 1)) d2 (.s i 0 (cells.length + 1))) (upd (upd G t ⟨[v], true, 1⟩) i ⟨cells ++ [v], true, 1⟩) K) :
    aopL P pv (⟨some d1, .bs 1 [z] 1 [(0, y)], none⟩ :: ⟨some d2, .apl 1 by_ (.t j) (.t d1), none⟩ :: rs) a H K := by
  subst hH
  refine bL (cs := [v]) ?_ ?_
  · show afill _ _ [(0, evS a y)] = _
    rw [hv]; simp [afill, hc, splice]
  intro t ht
  rcases hO with ⟨rfl, rfl⟩ | ⟨id, rfl, h2⟩
  · refine ⟨1, [v], ?_, .inl ⟨?_, ?_, ?_⟩⟩
    · show src _ 1 (put a d1 _ d1) = _
      rw [put_eq]; simp [src, upd_same]
    · show put a d1 _ j = _ ∨ _
      rw [put_ne hj]; exact .inl hx
    · intro h; omega
    · intro _
      refine ⟨by omega, by decide, ?_⟩
      intro i hi
      rw [upd_get] at hi
      split at hi
      · cases hi
      · rename_i hne
        exact k t i ht hi hne
  · rw [show hpO G (.s id 0 cells.length) cells = upd G id ⟨cells, true, 1⟩ from rfl] at *
    have hti : t ≠ id := fun e => by rw [e, upd_same] at ht; cases ht
    rw [upd_ne _ _ hti] at ht
    refine ⟨1, [v], ?_, .inr ⟨id, 0, cells.length, ⟨cells, true, 1⟩, ?_, ?_, rfl, rfl, ?_, ?_, ?_, ?_⟩⟩
    · show src _ 1 (put a d1 _ d1) = _
      rw [put_eq]; simp [src, upd_same]
    · show put a d1 _ j = _
      rw [put_ne hj]; exact hx
    · rw [upd_ne _ _ (Ne.symm hti)]; exact upd_same _ _ _
    · simp
    · calc (cells.length + 1) * by_ ≤ 100000001 * 1024 := Nat.mul_le_mul (by omega) hb
        _ ≤ _ := by decide
    · exact Nat.le_trans (show cells.length + 1 ≤ 100000001 by omega) (by decide)
    · intro i hi
      rw [upd_get] at hi
      split at hi
      · cases hi
      · rename_i hit
        rw [upd_get] at hi
        split at hi
        · cases hi
        · rename_i hid
          have e : del (upd (upd G id ⟨cells, true, 1⟩) t ⟨[v], true, 1⟩) id = upd G t ⟨[v], true, 1⟩ := by
            funext u
            rw [del_get, upd_get, upd_get, upd_get]
            by_cases hu : u = id
            · subst hu; rw [if_pos rfl, if_neg (Ne.symm hti), h2]
            · rw [if_neg hu, if_neg hu]
          have e2 : (List.drop 0 cells).take (cells.length * 1) = cells := by rw [List.drop_zero, Nat.mul_one, List.take_length]
          rw [e2]
          show aopL P pv rs _ (upd (del _ id) i _) K
          rw [e]
          exact k t i ht hi hit
/-- what is one's own stays apart while the rest grows -/
theorem OwnS.split {G X : AH} {v : AV} {cells : List AV} (hS : OwnS G v cells) (h : HLe (hpO G v cells) X) : ∃ G', HLe G G' ∧ OwnS G' v cells ∧ X = hpO G' v cells ∧ ∀ id ob, hpO G v cells id = none → X id = some ob → G' id = some ob := by
  rcases hS with ⟨rfl, rfl⟩ | ⟨pid, rfl, h2⟩
  · exact ⟨X, h, .nil _, rfl, fun id ob _ h => h⟩
  · have hP : X pid = some ⟨cells, true, 1⟩ := h pid _ (upd_same G pid _)
    refine ⟨del X pid, ((HLe.upd_new h2 _).trans h).del_of h2, .sl (del_same _ _) rfl, funext fun t => ?_, fun id ob h1 h2 => ?_⟩
    · show _ = upd (del X pid) pid _ t
      rw [upd_del, upd_get]
      split
      · rename_i e; rw [e]; exact hP
      · rfl
    · rw [del_ne _ (fun e => by
        have h1' : upd G pid ⟨cells, true, 1⟩ id = none := h1
        rw [e, upd_same] at h1'; cases h1')]
      exact h2
end
attribute [local irreducible] aopL W

open Classical in
theorem r16_Args_calls (p m n : Int) (ml : List Int) {vx : AV} {H : AH} (hC : Cs H vx (ml.map I)) :
    ACalls Try.prog n_r16_Args [.ag [I p, I m, vx], I n] H (fun r H' => r = I (if IsField p m ml then (if n < 1 ∨ 64 < n then 4 else 0) else 1) ∧ HLe H H') := by
  refine calls_of F_r16_Args hmix (by show 2 ≤ 19; decide) ?_
  unfold s_r16_Args
  (refine stpU ?_; repeat (refine Al4.mk ?_; intro _ _ _ _; refine stpU ?_))
  refine bXg (cs := [I p, I m, vx]) rfl ?_
  intro b2 H1 h2 l1 f2 _
  (refine stpU ?_; repeat (refine Al4.mk ?_; intro _ _ _ _; refine stpU ?_))
  refine ldn_own rfl f2 rfl ?_
  (refine stpU ?_; repeat (refine Al4.mk ?_; intro _ _ _ _; refine stpU ?_))
  refine cA (r04_Check_calls p m ml (hC.mono l1)) ?_
  rintro _ H2 ⟨rfl, l2⟩
  by_cases hf : IsField p m ml
  · rw [if_pos hf, if_pos hf]
    by_cases h1 : n < 1
    · rw [if_pos (.inl h1)]
      (refine stpU ?_; repeat (refine Al4.mk ?_; intro _ _ _ _; refine stpU ?_))
      exact ⟨rfl, l1.trans l2⟩
    by_cases h64 : 64 < n
    · rw [if_pos (.inr h64)]
      (refine stpU ?_; repeat (refine Al4.mk ?_; intro _ _ _ _; refine stpU ?_))
      exact ⟨rfl, l1.trans l2⟩
    · rw [if_neg (by omega)]
      (refine stpU ?_; repeat (refine Al4.mk ?_; intro _ _ _ _; refine stpU ?_))
      exact ⟨rfl, l1.trans l2⟩
  · rw [if_neg hf, if_neg hf]
    (refine stpU ?_; repeat (refine Al4.mk ?_; intro _ _ _ _; refine stpU ?_))
    exact ⟨rfl, l1.trans l2⟩

section
variable {D : Desc} [Desc.Ok D]
set_option maxHeartbeats 2000000 in
theorem r16_Word_calls [Fld (El D)] (hD : D.Small) {n : Nat} (hn1 : 1 ≤ n) (hn : n ≤ 1000000) {Q : Poly (El D)} {vm vy : AV} {H : AH} (hQ : CanP H vy Q) (hq : len Q ≤ 1000000) :
    ACalls Try.prog n_r16_Word [fd D vm, I (n : Nat), vy] H (fun r H' => NewR H H' r n (modP Q (xn n)).c ∧ HLe H H') := by
  refine calls_of F_r16_Word hmix (by show 3 ≤ 35; decide) ?_
  unfold s_r16_Word
  have hC : Cs H vy (tabN (len Q) (vals Q)) := hQ
  have hln : (tabN (len Q) (vals Q)).length = len Q := tabN_len _ _
  (refine stpU ?_; repeat (refine Al4.mk ?_; intro _ _ _ _; refine stpU ?_))
  refine bXg (cs := [I D.p, I D.m, vm]) rfl ?_
  intro b3 H1 h3 l1 f3 _
  replace hC := hC.mono l1
  (refine stpU ?_; repeat (refine Al4.mk ?_; intro _ _ _ _; refine stpU ?_))
  refine mKN (n := n) (l := n) rfl rfl (Nat.le_refl _) (by omega) (by omega) ?_
  intro id H2 hid l2 fi hH2
  have e0 : H2 = upd H1 id ⟨tabN n fun j => ((fldW n Q 0).c j).v, true, 1⟩ := by
    rw [hH2, tabN_rep]; rfl
  rw [e0]
  clear e0 hH2 fi l2
  (refine stpU ?_; repeat (refine Al4.mk ?_; intro _ _ _ _; refine stpU ?_))
  refine W_loopF (X := Nat × AH) (fun x => [(1, I (n : Nat)), (2, vy), (3, .p b3 0), (7, .s id 0 n), (8, I (x.1 : Nat))]) (fun x => upd x.2 id ⟨tabN n fun j => ((fldW n Q x.1).c j).v, true, 1⟩)
    (fun x => x.1 ≤ len Q ∧ HLe H1 x.2 ∧ x.2 id = none) (fun x => len Q - x.1) (0, H1) ⟨Nat.zero_le _, .refl _, hid⟩ ⟨rfl, rfl, rfl, rfl, rfl, trivial⟩ (.refl _) ?_
  rintro ⟨i, G⟩ ⟨hi, lG, hG⟩
  dsimp only at hi lG hG ⊢
  have lX : HLe H1 (upd G id ⟨tabN n fun j => ((fldW n Q i).c j).v, true, 1⟩) := lG.upd_of hid _
  have hCx := hC.mono lX
  by_cases hiw : i < len Q
  · have hw' : (tabN (len Q) (vals Q))[i]? = some (I (vals Q i : Nat)) := tabN_get _ hiw
    have hm := Nat.mod_lt i hn1
    have ro : rdc (upd G id ⟨tabN n fun j => ((fldW n Q i).c j).v, true, 1⟩) id (i % n) = some (I ((fldW n Q i).c (i % n)).v) := tabN_rd (upd_same _ _ _) hm
    (refine stpU ?_; repeat (refine Al4.mk ?_; intro _ _ _ _; refine stpU ?_))
    refine ldn_own rfl (lX _ _ f3) rfl ?_
    (refine stpU ?_; repeat (refine Al4.mk ?_; intro _ _ _ _; refine stpU ?_))
    refine cAt (r04_Add_calls hD ((fldW n Q i).c (i % n)).v (vals Q i : Nat) _ _) ?_
    rintro _ H4 ⟨rfl, l4⟩
    refine ⟨l4, ?_⟩
    rw [el_of, show (el ((vals Q i : Nat) : Int) : El D) = Q.c i from el_of _]
    (refine stpU ?_; repeat (refine Al4.mk ?_; intro _ _ _ _; refine stpU ?_))
    refine sV (off := i % n) (v := I ((fldW n Q i).c (i % n) + Q.c i : El D).v) rfl (l4 _ _ (upd_same _ _ _)) rfl rfl (by rw [tabN_len]; omega) ?_
    rw [tabN_set _ _ hm]
    (refine stpU ?_; repeat (refine Al4.mk ?_; intro _ _ _ _; refine stpU ?_))
    refine ⟨(i + 1, del H4 id), ⟨hiw, (lG.trans ((HLe.upd_new hG _).trans l4)).del_of hid, del_same _ _⟩, by dsimp only; omega, ⟨rfl, rfl, rfl, rfl, rfl, trivial⟩, ?_⟩
    show HLe (upd (del H4 id) id _) _
    rw [upd_del]
    refine HLe.tabN fun c _ => ?_
    show ((fldW n Q (i + 1)).c c).v = _
    rw [show fldW n Q (i + 1) = fldW n Q i + mono (Q.c i) (i % n) from rfl, add_c, mono_c]
    by_cases e : c = i % n
    · rw [if_pos e, if_pos e, e]
    · rw [if_neg e, if_neg e, Alg.add_zero]
  · have ei : i = len Q := by omega
    subst ei
    (refine stpU ?_; repeat (refine Al4.mk ?_; intro _ _ _ _; refine stpU ?_))
    refine ⟨⟨id, rfl, l1.absent hid, ?_⟩, l1.trans lX⟩
    show upd G id _ id = _
    rw [upd_same, fldW_mod hn1 (below_len Q)]

set_option maxHeartbeats 4000000 in
theorem r16_Generated_calls [Fld (El D)] {n : Nat} (hn1 : 1 ≤ n) (hn : n ≤ 64) {l : List Int} {vm vy : AV} {H : AH} (hF : FS D H vm) (hE : Cs H vy (l.map I)) (hl : l.length ≤ 100000) :
    ACalls Try.prog n_r16_Generated [fd D vm, I (n : Nat), vy] H (fun r H' => HLe H H' ∧ CodeR H' r n n (wrR n (polL l : Poly (El D)))) := by
  have hD := hF.small
  refine calls_ofC F_r16_Generated hmix (by show 3 ≤ 29; decide) ?_
  unfold s_r16_Generated
  (refine stpU ?_; repeat (refine Al4.mk ?_; intro _ _ _ _; refine stpU ?_))
  refine bXg (cs := [I D.p, I D.m, vm]) rfl ?_
  intro b3 H1 h3 l1 f3 _
  (refine stpU ?_; repeat (refine Al4.mk ?_; intro _ _ _ _; refine stpU ?_))
  refine aLg ?_
  intro b6 H2 h6 l2 f6 _
  have l0 := l1.trans l2
  replace h6 := l1.absent h6
  replace f3 := l2 _ _ f3
  replace hF := hF.mono l0
  replace hE := hE.mono l0
  clear l1 l2
  (refine stpU ?_; repeat (refine Al4.mk ?_; intro _ _ _ _; refine stpU ?_))
  refine W_loopF (X := Nat × AV × AH × List AV) (fun x => [(1, I (n : Nat)), (2, vy), (3, .p b3 0), (6, .p b6 0), (7, x.2.1), (8, I (x.1 : Nat))]) (fun x => hpO x.2.2.1 x.2.1 x.2.2.2)
    (fun x => x.1 ≤ n ∧ HLe H2 x.2.2.1 ∧ OwnS x.2.2.1 x.2.1 x.2.2.2 ∧ x.2.2.2.length = x.1 ∧ Rw x.2.2.1 x.2.2.2 n (wrR n (polL l : Poly (El D)))) (fun x => n - x.1) (0, .ns, H2, [])
    ⟨Nat.zero_le _, .refl _, .nil _, rfl, fun i c hc => by simp at hc⟩ ⟨rfl, rfl, rfl, rfl, rfl, rfl, trivial⟩ (.refl _) ?_
  rintro ⟨i, vx, G, cells⟩ ⟨hi, lG, hS, hcl, hR⟩
  dsimp only at hi lG hS hcl hR ⊢
  by_cases hik : i < n
  · have lX : HLe H2 (hpO G vx cells) := lG.trans hS.hle
    (refine stpU ?_; repeat (refine Al4.mk ?_; intro _ _ _ _; refine stpU ?_))
    refine ldn_own rfl (lX _ _ f3) rfl ?_
    (refine stpU ?_; repeat (refine Al4.mk ?_; intro _ _ _ _; refine stpU ?_))
    refine ldn_own rfl (lX _ _ f3) rfl ?_
    (refine stpU ?_; repeat (refine Al4.mk ?_; intro _ _ _ _; refine stpU ?_))
    refine cAt (RPower_calls (D := D) i (by omega) _) ?_
    rintro vz H4 ⟨hpw, l4, _⟩
    refine ⟨l4, ?_⟩
    refine cAt (RMul_calls hD (hF.mods.mono (lX.trans l4)) hpw ⟨l, hE.mono (lX.trans l4), rfl, rfl⟩ (by omega) (by omega)) ?_
    rintro vw H5 ⟨hmul, l5⟩
    refine ⟨l5, ?_⟩
    obtain ⟨_, _, _, hmulC⟩ := hmul
    have hlm : len (mono 1 i * polL l : Poly (El D)) ≤ 1000000 := by
      refine Nat.le_trans (len_le (n := i + l.length) (fun j hj => ?_)) (by omega)
      rw [mono_mul_c, if_pos (by omega), Alg.one_mul]
      exact polL_below l _ (by omega)
    refine cAt (r16_Word_calls hD hn1 (by omega) hmulC hlm) ?_
    rintro _ H6 ⟨⟨id, rfl, hid, hnew⟩, l6⟩
    refine ⟨l6, ?_⟩
    obtain ⟨G', k1, k2, k3, k4⟩ := hS.split (l4.trans (l5.trans l6))
    have hidG : hpO G vx cells id = none := (l4.trans l5).absent hid
    have hnG := Cs.own (k4 _ _ hidG hnew)
    rw [tabN_len] at hnG
    rw [k3]
    (refine stpU ?_; repeat (refine Al4.mk ?_; intro _ _ _ _; refine stpU ?_))
    refine apl1 (v := .s id 0 n) rfl k2 rfl (by decide) rfl rfl (by decide) (by omega) ?_
    intro t i2 ht hi2 hne
    (refine stpU ?_; repeat (refine Al4.mk ?_; intro _ _ _ _; refine stpU ?_))
    refine ⟨(i + 1, .s i2 0 (i + 1), upd G' t ⟨[.s id 0 n], true, 1⟩, cells ++ [.s id 0 n]), ⟨by omega, (lG.trans k1).trans (.upd_new ht _), .sl ?_ (by simp [hcl]), by simp [hcl], ?_⟩, by dsimp only; omega, ⟨rfl, rfl, rfl, rfl, ?_, rfl, trivial⟩, .refl _⟩
    · show upd G' t _ i2 = none
      rw [upd_ne _ _ hne]; exact hi2
    · refine ((hR.mono k1).snoc ?_).mono (.upd_new ht _)
      rw [hcl]; exact hnG
    · show AV.s i2 0 (cells.length + 1) = _
      rw [hcl]
  · have ei : i = n := by omega
    have lX : HLe H2 (hpO G vx cells) := lG.trans hS.hle
    have hMS : MatS (hpO G vx cells) vx n n (wrR n (polL l : Poly (El D))) := ⟨cells, hS.cs, by omega, hR.mono hS.hle⟩
    generalize hpO G vx cells = HX at *
    (refine stpU ?_; repeat (refine Al4.mk ?_; intro _ _ _ _; refine stpU ?_))
    refine ldn_own rfl (lX _ _ f3) rfl ?_
    (refine stpU ?_; repeat (refine Al4.mk ?_; intro _ _ _ _; refine stpU ?_))
    refine cA (r12_Make_calls (hF.mono lX) hMS hn1 (by omega) (by omega)) ?_
    rintro _ H8 ⟨l8, k, p, N, vf, vg, rfl, hcc⟩
    replace f6 := l8 _ _ (lX _ _ f6)
    (refine stpU ?_; repeat (refine Al4.mk ?_; intro _ _ _ _; refine stpU ?_))
    refine sA (cs := [I D.p, I D.m, vf, I (n : Nat), vg]) rfl f6 rfl rfl rfl ?_
    rintro H9 hH9
    have f9 : H9 b6 = some ⟨[I D.p, I D.m, vf, I (n : Nat), vg], true, 0⟩ := by rw [hH9]; exact upd_same _ _ _
    have l9 : HLe H H9 := by rw [hH9]; exact (l0.trans (lX.trans l8)).upd_of h6 _
    (refine stpU ?_; repeat (refine Al4.mk ?_; intro _ _ _ _; refine stpU ?_))
    exact ⟨[cdA D vf n vg], ⟨⟨b6, 0, _, rfl, f9, by simp, rfl⟩, trivial⟩, l9, by rw [hH9]; exact CodeR.cell ⟨k, p, N, vf, vg, rfl, hcc⟩ f6 (by simp)⟩

set_option maxHeartbeats 2000000 in
theorem r16_New_calls [Fld (El D)] {n : Int} {l : List Int} {vm vy : AV} {H : AH} (hF : FS D H vm) (hE : Cs H vy (l.map I)) (hl : l.length ≤ 100000) :
    ACalls Try.prog n_r16_New [fd D vm, I n, vy] H (fun r H' => HLe H H' ∧ (((n < 1 ∨ 64 < n) ∧ r = .tu [zeroC, I 4]) ∨ (∃ n' : Nat, n = n' ∧ 1 ≤ n' ∧ n' ≤ 64 ∧ ((¬ Elems D.q l ∧ r = .tu [zeroC, I 2]) ∨
      (Elems D.q l ∧ ∃ c, r = .tu [c, I 0] ∧ CodeR H' c n' n' (wrR n' (polL l : Poly (El D)))))))) := by
  have hD := hF.small
  refine calls_ofC F_r16_New hmix (by show 3 ≤ 25; decide) ?_
  unfold s_r16_New
  (refine stpU ?_; repeat (refine Al4.mk ?_; intro _ _ _ _; refine stpU ?_))
  refine bXg (cs := [I D.p, I D.m, vm]) rfl ?_
  intro b3 H1 h3 l1 f3 _
  (refine stpU ?_; repeat (refine Al4.mk ?_; intro _ _ _ _; refine stpU ?_))
  refine aLg ?_
  intro b6 H2 h6 l2 f6 _
  have l0 := l1.trans l2
  replace h6 := l1.absent h6
  replace f3 := l2 _ _ f3
  replace hF := hF.mono l0
  replace hE := hE.mono l0
  clear l1 l2
  (refine stpU ?_; repeat (refine Al4.mk ?_; intro _ _ _ _; refine stpU ?_))
  refine ldn_own rfl f3 rfl ?_
  (refine stpU ?_; repeat (refine Al4.mk ?_; intro _ _ _ _; refine stpU ?_))
  obtain ⟨ml, k1, k2, k3⟩ := hF
  refine cA (r16_Args_calls D.p D.m n ml k3) ?_
  rintro _ H3 ⟨rfl, l3⟩
  replace f3 := l3 _ _ f3
  replace f6 := l3 _ _ f6
  replace hF : FS D H3 vm := ⟨ml, k1, k2, k3.mono l3⟩
  replace hE := hE.mono l3
  replace l0 := l0.trans l3
  rw [if_pos (show IsField D.p D.m ml from ⟨D, k1, k2⟩)]
  by_cases hn : n < 1 ∨ 64 < n
  · rw [if_pos hn]
    (refine stpU ?_; repeat (refine Al4.mk ?_; intro _ _ _ _; refine stpU ?_))
    refine bD (cs := [I 0, I 0, .ns, I 0, .ns]) rfl ?_
    (refine stpU ?_; repeat (refine Al4.mk ?_; intro _ _ _ _; refine stpU ?_))
    refine sA (cs := [I 0, I 0, .ns, I 0, .ns]) rfl f6 rfl rfl rfl ?_
    intro H5 hH5
    have f5 : H5 b6 = some ⟨[I 0, I 0, .ns, I 0, .ns], true, 0⟩ := by rw [hH5]; exact upd_same _ _ _
    have l5 : HLe H H5 := by rw [hH5]; exact l0.upd_of h6 _
    (refine stpU ?_; repeat (refine Al4.mk ?_; intro _ _ _ _; refine stpU ?_))
    exact ⟨[zeroC, I 4], ⟨⟨b6, 0, _, rfl, f5, by simp, rfl⟩, rfl, trivial⟩, l5, .inl ⟨hn, rfl⟩⟩
  rw [if_neg hn]
  obtain ⟨n, rfl⟩ : ∃ n' : Nat, n = n' := ⟨n.toNat, by omega⟩
  have hn1 : 1 ≤ n := by omega
  have hn64 : n ≤ 64 := by omega
  (refine stpU ?_; repeat (refine Al4.mk ?_; intro _ _ _ _; refine stpU ?_))
  refine ldn_own rfl f3 rfl ?_
  (refine stpU ?_; repeat (refine Al4.mk ?_; intro _ _ _ _; refine stpU ?_))
  refine cA (r09_Entries_calls hD hE (by omega)) ?_
  rintro _ H4 ⟨rfl, l4⟩
  replace f3 := l4 _ _ f3
  replace f6 := l4 _ _ f6
  replace hF := hF.mono l4
  replace hE := hE.mono l4
  replace l0 := l0.trans l4
  by_cases he : Elems D.q l
  · rw [if_pos he]
    (refine stpU ?_; repeat (refine Al4.mk ?_; intro _ _ _ _; refine stpU ?_))
    refine ldn_own rfl f3 rfl ?_
    (refine stpU ?_; repeat (refine Al4.mk ?_; intro _ _ _ _; refine stpU ?_))
    refine cA (r16_Generated_calls hn1 hn64 hF hE hl) ?_
    rintro c H5 ⟨l5, hc⟩
    replace f6 := l5 _ _ f6
    obtain ⟨k, p, N, vf, vg, rfl, hcc⟩ := hc
    (refine stpU ?_; repeat (refine Al4.mk ?_; intro _ _ _ _; refine stpU ?_))
    refine sA (cs := [I D.p, I D.m, vf, I (n : Nat), vg]) rfl f6 rfl rfl rfl ?_
    rintro H9 hH9
    have f9 : H9 b6 = some ⟨[I D.p, I D.m, vf, I (n : Nat), vg], true, 0⟩ := by rw [hH9]; exact upd_same _ _ _
    have l9 : HLe H H9 := by rw [hH9]; exact (l0.trans l5).upd_of h6 _
    (refine stpU ?_; repeat (refine Al4.mk ?_; intro _ _ _ _; refine stpU ?_))
    exact ⟨[cdA D vf n vg, I 0], ⟨⟨b6, 0, _, rfl, f9, by simp, rfl⟩, rfl, trivial⟩, l9, .inr ⟨n, rfl, hn1, hn64, .inr ⟨he, _, rfl, by rw [hH9]; exact CodeR.cell ⟨k, p, N, vf, vg, rfl, hcc⟩ f6 (by simp)⟩⟩⟩
  · rw [if_neg he]
    (refine stpU ?_; repeat (refine Al4.mk ?_; intro _ _ _ _; refine stpU ?_))
    refine bD (cs := [I 0, I 0, .ns, I 0, .ns]) rfl ?_
    (refine stpU ?_; repeat (refine Al4.mk ?_; intro _ _ _ _; refine stpU ?_))
    refine sA (cs := [I 0, I 0, .ns, I 0, .ns]) rfl f6 rfl rfl rfl ?_
    intro H5 hH5
    have f5 : H5 b6 = some ⟨[I 0, I 0, .ns, I 0, .ns], true, 0⟩ := by rw [hH5]; exact upd_same _ _ _
    have l5 : HLe H H5 := by rw [hH5]; exact l0.upd_of h6 _
    (refine stpU ?_; repeat (refine Al4.mk ?_; intro _ _ _ _; refine stpU ?_))
    exact ⟨[zeroC, I 2], ⟨⟨b6, 0, _, rfl, f5, by simp, rfl⟩, rfl, trivial⟩, l5, .inr ⟨n, rfl, hn1, hn64, .inl ⟨he, rfl⟩⟩⟩
end
theorem r16_New_bad {p m n : Int} {ml : List Int} {vx vy : AV} {H : AH} (hC : Cs H vx (ml.map I)) (hno : ¬ IsField p m ml) : ACalls Try.prog n_r16_New [.ag [I p, I m, vx], I n, vy] H (fun r H' => HLe H H' ∧ r = .tu [zeroC, I 1]) := by
  refine calls_ofC F_r16_New hmix (by show 3 ≤ 25; decide) ?_
  unfold s_r16_New
  (refine stpU ?_; repeat (refine Al4.mk ?_; intro _ _ _ _; refine stpU ?_))
  refine bXg (cs := [I p, I m, vx]) rfl ?_
  intro b3 H1 h3 l1 f3 _
  (refine stpU ?_; repeat (refine Al4.mk ?_; intro _ _ _ _; refine stpU ?_))
  refine aLg ?_
  intro b6 H2 h6 l2 f6 _
  have l0 := l1.trans l2
  replace h6 := l1.absent h6
  (refine stpU ?_; repeat (refine Al4.mk ?_; intro _ _ _ _; refine stpU ?_))
  refine ldn_own rfl (l2 _ _ f3) rfl ?_
  (refine stpU ?_; repeat (refine Al4.mk ?_; intro _ _ _ _; refine stpU ?_))
  refine cA (r16_Args_calls p m n ml (hC.mono l0)) ?_
  rintro _ H3 ⟨rfl, l3⟩
  replace f6 := l3 _ _ f6
  rw [if_neg hno]
  (refine stpU ?_; repeat (refine Al4.mk ?_; intro _ _ _ _; refine stpU ?_))
  refine bD (cs := [I 0, I 0, .ns, I 0, .ns]) rfl ?_
  (refine stpU ?_; repeat (refine Al4.mk ?_; intro _ _ _ _; refine stpU ?_))
  refine sA (cs := [I 0, I 0, .ns, I 0, .ns]) rfl f6 rfl rfl rfl ?_
  intro H5 hH5
  have f5 : H5 b6 = some ⟨[I 0, I 0, .ns, I 0, .ns], true, 0⟩ := by rw [hH5]; exact upd_same _ _ _
  have l5 : HLe H H5 := by rw [hH5]; exact (l0.trans l3).upd_of h6 _
  (refine stpU ?_; repeat (refine Al4.mk ?_; intro _ _ _ _; refine stpU ?_))
  exact ⟨[zeroC, I 1], ⟨⟨b6, 0, _, rfl, f5, by simp, rfl⟩, rfl, trivial⟩, l5, rfl⟩
end Go.Proofs.Ytdkdainipanacaa
