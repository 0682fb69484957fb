/- Contract of the law CyclicNews. Condition: the arguments stand in memory. -/
import Derived.Test.YtdkdainipanacaaHn
namespace Go.Proofs.Ytdkdainipanacaa
open Go Go.RowKit Alg
set_option linter.unusedSimpArgs false
set_option linter.unusedVariables false
set_option linter.constructorNameAsVariable false
set_option linter.unusedSectionVars false
attribute [local irreducible] aopL W
section
variable {D : Desc} [Desc.Ok D]
open Classical in
/-- codes of one row space are the same -/
theorem r12_Same_codes [Fld (El D)] {n kk kk' : Nat} {M M' : Nat → Nat → El D} {c c' : AV} {H : AH} (hc : CodeR H c n kk M) (hc' : CodeR H c' n kk' M') (hk : kk ≤ 1000000) (hn : n ≤ 1000000) (e1 : SubSp n kk kk' M M') (e2 : SubSp n kk' kk M' M) :
    ACalls Try.prog n_r12_Same [c, c'] H (fun r H' => r = .b true ∧ HLe H H') := by
  obtain ⟨k, p, N, vf, vg, rfl, ⟨ml, a1, _, a3⟩, hN, hk1, hC⟩ := hc
  obtain ⟨k', p', N', vf', vg', rfl, ⟨ml', b1, _, b3⟩, hN', hk1', hC'⟩ := hc'
  have eml : ml = ml' := by rw [a1.hl, b1.hl]
  refine ACalls.mono (r12_Same_calls a3 b3 (by have := a1.few; omega) hN.rows hN'.rows (by rw [matI_len]; omega) (fun l hl => by rw [(matI_row hl).1]; omega)) ?_
  rintro r H' ⟨rfl, hl⟩
  refine ⟨?_, hl⟩
  rw [decide_eq_true]
  exact ⟨⟨rfl, rfl, eml⟩, rfl, hC.same hC' e1 e2⟩
end
theorem r12_Same_zero {H : AH} : ACalls Try.prog n_r12_Same [zeroC, zeroC] H (fun r H' => r = .b true ∧ HLe H H') := by
  refine ACalls.mono (r12_Same_calls (la := []) (lb := []) (ra := []) (rb := []) (.inl ⟨rfl, .inl rfl⟩) (.inl ⟨rfl, .inl rfl⟩) (by decide) (.nil H) (.nil H) (by decide) (fun l hl => by simp at hl)) ?_
  rintro r H' ⟨rfl, hl⟩
  exact ⟨by simp, hl⟩

/-- the two answer alike, whatever they are asked -/
theorem news_both (p m n : Int) (ml l : List Int) {vx vy : AV} {H : AH} (hC : Cs H vx (ml.map I)) (hE : Cs H vy (l.map I)) (hl : l.length ≤ 100000) :
    ACalls Try.prog n_cyclic_New [.ag [I p, I m, vx], I n, vy] H (fun r H' => HLe H H' ∧ ∃ cs e, cs.length = 5 ∧ r = .tu [.ag cs, I e] ∧ ∀ H4, HLe H' H4 →
      ACalls Try.prog n_r16_New [.ag [I p, I m, vx], I n, vy] H4 (fun r' H5 => HLe H4 H5 ∧ ∃ cs', cs'.length = 5 ∧ r' = .tu [.ag cs', I e] ∧ ∀ H8, HLe H5 H8 → ACalls Try.prog n_r12_Same [.ag cs, .ag cs'] H8 (fun r H' => r = .b true ∧ HLe H8 H'))) := by
  by_cases hf : IsField p m ml
  rotate_left
  · refine ACalls.mono (cyclic_New_bad hC hf) ?_
    rintro r H2 ⟨l2, rfl⟩
    refine ⟨l2, _, 1, rfl, rfl, fun H4 l4 => ACalls.mono (r16_New_bad (hC.mono (l2.trans l4)) hf) ?_⟩
    rintro r' H5 ⟨l5, rfl⟩
    exact ⟨l5, _, rfl, rfl, fun H8 _ => r12_Same_zero⟩
  obtain ⟨D, hS, hI⟩ := hf
  haveI := hS.ok
  obtain rfl := hS.hp
  obtain rfl := hS.hm
  have hF : FS D H vx := ⟨ml, hS, hI, hC⟩
  haveI := hF.fld
  refine ACalls.mono (cyclic_New_calls hF hE (by omega)) ?_
  rintro r H2 ⟨l2, hr⟩
  refine ⟨l2, ?_⟩
  rcases hr with ⟨hn, rfl⟩ | ⟨n', rfl, h1, h64, hr⟩
  · refine ⟨_, 4, rfl, rfl, fun H4 l4 => ACalls.mono (r16_New_calls (hF.mono (l2.trans l4)) (hE.mono (l2.trans l4)) hl) ?_⟩
    rintro r' H5 ⟨l5, ⟨_, rfl⟩ | ⟨n', hnn, h1, h64, _⟩⟩
    · exact ⟨l5, _, rfl, rfl, fun H8 _ => r12_Same_zero⟩
    · exfalso; omega
  rcases hr with ⟨he, rfl⟩ | ⟨he, c, rfl, hc⟩
  · refine ⟨_, 2, rfl, rfl, fun H4 l4 => ACalls.mono (r16_New_calls (hF.mono (l2.trans l4)) (hE.mono (l2.trans l4)) hl) ?_⟩
    rintro r' H5 ⟨l5, ⟨hn, _⟩ | ⟨n2, hnn, _, _, ⟨_, rfl⟩ | ⟨he2, _⟩⟩⟩
    · exfalso; omega
    · exact ⟨l5, _, rfl, rfl, fun H8 _ => r12_Same_zero⟩
    · exact absurd he2 he
  · have hc' := hc
    obtain ⟨k, q, N, vf, vg, rfl, _⟩ := hc'
    refine ⟨_, 0, rfl, rfl, fun H4 l4 => ACalls.mono (r16_New_calls (hF.mono (l2.trans l4)) (hE.mono (l2.trans l4)) hl) ?_⟩
    rintro r' H5 ⟨l5, ⟨hn, _⟩ | ⟨n2, hnn, _, _, ⟨he2, _⟩ | ⟨_, c', rfl, hc2⟩⟩⟩
    · exfalso; omega
    · exact absurd he he2
    · obtain rfl : n' = n2 := by omega
      have hc2' := hc2
      obtain ⟨k2, q2, N2, vf2, vg2, rfl, _⟩ := hc2'
      obtain ⟨e1, e2⟩ := cyc_span h1 (polL l : Poly (El D))
      exact ⟨l5, _, rfl, rfl, fun H8 l8 => r12_Same_codes (hc.mono (l4.trans (l5.trans l8))) (hc2.mono l8) (by omega) (by omega) e1 e2⟩

set_option maxHeartbeats 2000000 in
theorem law16_CyclicNews_calls (p m n : Int) (ml l : List Int) {vx vy : AV} {H : AH} (hC : Cs H vx (ml.map I)) (hE : Cs H vy (l.map I)) :
    ACalls Try.prog n_law16_CyclicNews [.ag [I p, I m, vx], I n, vy] H (fun r H' => r = .b true) := by
  refine calls_of F_law16_CyclicNews hmix (by show 3 ≤ 36; decide) ?_
  unfold s_law16_CyclicNews
  have hln : (l.map I).length = l.length := List.length_map ..
  (refine stpU ?_; repeat (refine Al4.mk ?_; intro _ _ _ _; refine stpU ?_))
  refine bXg (cs := [I p, I m, vx]) rfl ?_
  intro b3 H1 h3 l1 f3 _
  replace hC := hC.mono l1
  replace hE := hE.mono l1
  by_cases h200 : 200 < l.length
  · (refine stpU ?_; repeat (refine Al4.mk ?_; intro _ _ _ _; refine stpU ?_))
    rfl
  (refine stpU ?_; repeat (refine Al4.mk ?_; intro _ _ _ _; refine stpU ?_))
  refine ldn_own rfl f3 rfl ?_
  (refine stpU ?_; repeat (refine Al4.mk ?_; intro _ _ _ _; refine stpU ?_))
  refine cA (news_both p m n ml l hC hE (by omega)) ?_
  rintro _ H2 ⟨l2, cs, e, hcs, rfl, hK⟩
  (refine stpU ?_; repeat (refine Al4.mk ?_; intro _ _ _ _; refine stpU ?_))
  refine aLg ?_
  intro b7 H3 h7 l3 f7 _
  refine sA (cs := cs) rfl f7 rfl rfl hcs ?_
  intro H4 hH4
  have f7 : H4 b7 = some ⟨cs, true, 0⟩ := by rw [hH4]; exact upd_same _ _ _
  have l4 : HLe H2 H4 := by rw [hH4]; exact l3.upd_of h7 _
  (refine stpU ?_; repeat (refine Al4.mk ?_; intro _ _ _ _; refine stpU ?_))
  refine ldn_own rfl (l4 _ _ (l2 _ _ f3)) rfl ?_
  (refine stpU ?_; repeat (refine Al4.mk ?_; intro _ _ _ _; refine stpU ?_))
  refine cA (hK H4 l4) ?_
  rintro _ H5 ⟨l5, cs', hcs', rfl, hK2⟩
  (refine stpU ?_; repeat (refine Al4.mk ?_; intro _ _ _ _; refine stpU ?_))
  refine aLg ?_
  intro b9 H6 h9 l6 f9 _
  refine sA (cs := cs') rfl f9 rfl rfl hcs' ?_
  intro H7 hH7
  have f9 : H7 b9 = some ⟨cs', true, 0⟩ := by rw [hH7]; exact upd_same _ _ _
  have l7 : HLe H5 H7 := by rw [hH7]; exact l6.upd_of h9 _
  replace f7 := l7 _ _ (l5 _ _ f7)
  (refine stpU ?_; repeat (refine Al4.mk ?_; intro _ _ _ _; refine stpU ?_))
  refine ldn_own rfl f7 hcs ?_
  (refine stpU ?_; repeat (refine Al4.mk ?_; intro _ _ _ _; refine stpU ?_))
  refine ldn_own rfl f9 hcs' ?_
  (refine stpU ?_; repeat (refine Al4.mk ?_; intro _ _ _ _; refine stpU ?_))
  refine cA (hK2 H7 l7) ?_
  rintro _ H8 ⟨rfl, l8⟩
  (refine stpU ?_; repeat (refine Al4.mk ?_; intro _ _ _ _; refine stpU ?_))
  rfl
end Go.Proofs.Ytdkdainipanacaa
