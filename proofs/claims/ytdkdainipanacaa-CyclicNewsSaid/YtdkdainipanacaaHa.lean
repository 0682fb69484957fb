/- Contracts of matrix.entries, slices.Clone; own matrices in memory. Condition: the field's object stands in memory. · Contracts of matrix.add and of the closures of matrix.eliminate. Condition: the field's object stands in memory, the rows are one's own. · Contracts of the closures of matrix.eliminate. Condition: the field's object stands in memory, the rows are one's own. · The closures of matrix.eliminate on one's own rows; a sequence cut by a family. Condition: the field's object stands in memory, the rows are one's own. -/
import Derived.Test.YtdkdainipanacaaS5
import Derived.Test.YtdkdainipanacaaXD
import Derived.Test.YtdkdainipanacaaG9
import Derived.Test.YtdkdainipanacaaXM
namespace Go.Proofs.Ytdkdainipanacaa
open Go Go.RowKit Alg
set_option linter.unusedSimpArgs false
set_option linter.unusedVariables false
set_option linter.constructorNameAsVariable false
set_option linter.unusedSectionVars false
attribute [local irreducible] aopL W
variable {D : Desc} [Desc.Ok D]

/-- all entries are elements -/
def Elems (q : Nat) (l : List Int) : Prop := ∀ x, x ∈ l → 0 ≤ x ∧ x < q
open Classical in
theorem matrix_entries_calls {l : List Int} {vx vy : AV} {H : AH} (hG : GFS D H vx) (hC : Cs H vy (l.map I)) (hn : l.length ≤ 9223372036854775807) :
    ACalls Try.prog n_matrix_entries [vx, vy] H (fun r H' => r = I (if Elems D.q l then 0 else 2) ∧ H' = H) := by
  refine calls_of F_matrix_entries hmix (by show 2 ≤ 18; decide) ?_
  unfold s_matrix_entries
  have hln : (l.map I).length = l.length := List.length_map ..
  (refine stpU ?_; repeat (refine Al4.mk ?_; intro _ _ _ _; refine stpU ?_))
  refine W_loopF (X := Nat) (fun i => [(0, vx), (7, vy), (8, I (l.length : Nat)), (9, I (i : Nat))]) (fun _ => H) (fun i => i ≤ l.length ∧ ∀ (j : Nat) (c : Int), j < i → l[j]? = some c → 0 ≤ c ∧ c < D.q) (fun i => l.length - i) 0 ⟨Nat.zero_le _, fun j c h => absurd h (Nat.not_lt_zero _)⟩ ⟨rfl, rfl, by rw [hln]; rfl, rfl, trivial⟩ (.refl _) ?_
  rintro i ⟨hi, hok⟩
  by_cases hil : i < l.length
  · have hget : l[i]? = some l[i] := List.getElem?_eq_getElem (by omega)
    have hw : (l.map I)[i]? = some (I l[i]) := by rw [List.getElem?_map, hget]; rfl
    generalize l[i] = c at *
    (refine stpU ?_; repeat (refine Al4.mk ?_; intro _ _ _ _; refine stpU ?_))
    refine cA (GF_Is_calls c hG) ?_
    rintro _ H2 ⟨rfl, rfl⟩
    by_cases hin : 0 ≤ c ∧ c < D.q
    · rw [decide_eq_true hin]
      (refine stpU ?_; repeat (refine Al4.mk ?_; intro _ _ _ _; refine stpU ?_))
      refine ⟨i + 1, ⟨by omega, fun j d hj hd => ?_⟩, by omega, ⟨rfl, rfl, rfl, rfl, trivial⟩, .refl _⟩
      by_cases e : j = i
      · subst e
        have : c = d := Option.some.inj (hget.symm.trans hd)
        omega
      · exact hok j d (by omega) hd
    · rw [decide_eq_false hin]
      (refine stpU ?_; repeat (refine Al4.mk ?_; intro _ _ _ _; refine stpU ?_))
      refine ⟨?_, rfl⟩
      rw [if_neg (fun h => hin (h c (List.mem_of_getElem? hget)))]; rfl
  · (refine stpU ?_; repeat (refine Al4.mk ?_; intro _ _ _ _; refine stpU ?_))
    refine ⟨?_, rfl⟩
    have hall : Elems D.q l := fun x hx => by
      obtain ⟨j, hj⟩ := List.getElem?_of_mem hx
      exact hok j x (by have := (List.getElem?_eq_some_iff.mp hj).1; omega) hj
    rw [if_pos hall]; rfl

/-- a copy of a slice that is not empty -/
theorem slices_Clone_calls {cs : List AV} {vx : AV} {H : AH} (hC : Cs H vx cs) (h0 : cs ≠ []) (hn : cs.length ≤ 100000000) :
    ACalls Try.prog n_slices_Clone_int_int [vx] H (fun r H' => ∃ id, r = .s id 0 cs.length ∧ H id = none ∧ H' = upd H id ⟨cs, true, 1⟩) := by
  refine calls_of F_slices_Clone_int_int hmix (by show 1 ≤ 8; decide) ?_
  unfold s_slices_Clone_int_int
  rcases hC.cases with ⟨h, _⟩ | ⟨h, _⟩ | ⟨id, off, rfl⟩
  · exact absurd h h0
  · exact absurd h h0
  (refine stpU ?_; repeat (refine Al4.mk ?_; intro _ _ _ _; refine stpU ?_))
  refine aen_s rfl ?_
  (refine stpU ?_; repeat (refine Al4.mk ?_; intro _ _ _ _; refine stpU ?_))
  refine bE ?_
  (refine stpU ?_; repeat (refine Al4.mk ?_; intro _ _ _ _; refine stpU ?_))
  refine apE (.inr rfl) rfl hC h0 (by decide) hn ?_
  intro i hi
  (refine stpU ?_; repeat (refine Al4.mk ?_; intro _ _ _ _; refine stpU ?_))
  exact ⟨i, rfl, hi, rfl⟩

open Classical in
/-- the matrix M with n rows of w entries in own memory: the slice of rows at oid, row i at ids i; the rows from k on are not yet there -/
noncomputable def rowsK (G : AH) (oid n w k : Nat) (ids : Nat → Nat) (M : Nat → Nat → El D) : AH := fun j =>
  if j = oid then some ⟨(List.range n).map fun i => if i < k then .s (ids i) 0 w else .ns, true, 1⟩
  else if h : ∃ i, i < k ∧ ids i = j then some ⟨tabN w fun c => (M (Classical.choose h) c).v, true, 1⟩ else G j
structure OwnK (G : AH) (oid n k : Nat) (ids : Nat → Nat) : Prop where
  kn : k ≤ n
  out : G oid = none
  row : ∀ i, i < k → G (ids i) = none
  ne : ∀ i, i < k → ids i ≠ oid
  inj : ∀ i j, i < k → j < k → ids i = ids j → i = j
section
variable {G : AH} {oid n w k : Nat} {ids : Nat → Nat} {M : Nat → Nat → El D}
theorem rowsK_out : rowsK G oid n w k ids M oid = some ⟨(List.range n).map fun i => if i < k then .s (ids i) 0 w else .ns, true, 1⟩ := if_pos rfl
theorem rowsK_row (O : OwnK G oid n k ids) {i : Nat} (hi : i < k) : rowsK G oid n w k ids M (ids i) = some ⟨tabN w fun c => (M i c).v, true, 1⟩ := by
  unfold rowsK
  have hex : ∃ j, j < k ∧ ids j = ids i := ⟨i, hi, rfl⟩
  rw [if_neg (O.ne i hi), dif_pos hex]
  obtain ⟨h1, h2⟩ := Classical.choose_spec hex
  rw [O.inj _ i h1 hi h2]
theorem rowsK_old {j : Nat} (h1 : j ≠ oid) (h2 : ∀ i, i < k → ids i ≠ j) : rowsK G oid n w k ids M j = G j := by
  unfold rowsK
  rw [if_neg h1, dif_neg (fun ⟨i, a, b⟩ => h2 i a b)]
theorem rowsK_hle (O : OwnK G oid n k ids) : HLe G (rowsK G oid n w k ids M) := fun j o hj => by
  rw [rowsK_old (fun e => by rw [e, O.out] at hj; cases hj) (fun i hi e => by rw [← e, O.row i hi] at hj; cases hj)]
  exact hj
theorem rowsK_none (O : OwnK G oid n k ids) {j : Nat} (h : rowsK G oid n w k ids M j = none) : G j = none ∧ j ≠ oid ∧ ∀ i, i < k → ids i ≠ j := by
  have h1 : j ≠ oid := fun e => by rw [e, rowsK_out] at h; cases h
  have h2 : ∀ i, i < k → ids i ≠ j := fun i hi e => by rw [← e, rowsK_row O hi] at h; cases h
  exact ⟨by rw [rowsK_old h1 h2] at h; exact h, h1, h2⟩
theorem rowsK_ext {X : AH} (O : OwnK G oid n k ids) (h1 : X oid = some ⟨(List.range n).map fun i => if i < k then .s (ids i) 0 w else .ns, true, 1⟩) (h2 : ∀ i, i < k → X (ids i) = some ⟨tabN w fun c => (M i c).v, true, 1⟩) (h3 : HLe G X) :
    HLe (rowsK G oid n w k ids M) X := fun j o hj => by
  by_cases e : j = oid
  · subst e; rw [rowsK_out] at hj; rw [h1]; exact hj
  · by_cases e2 : ∃ i, i < k ∧ ids i = j
    · obtain ⟨i, hi, rfl⟩ := e2
      rw [rowsK_row O hi] at hj; rw [h2 i hi]; exact hj
    · rw [rowsK_old e (fun i hi e3 => e2 ⟨i, hi, e3⟩)] at hj
      exact h3 _ _ hj
/-- a row is written -/
theorem rowsK_set (O : OwnK G oid n k ids) {i : Nat} (hi : i < k) {f : Nat → Nat} {M' : Nat → Nat → El D} (hf : ∀ c, c < w → f c = (M' i c).v) (hM : ∀ j, j ≠ i → M' j = M j) :
    upd (rowsK G oid n w k ids M) (ids i) ⟨tabN w f, true, 1⟩ = rowsK G oid n w k ids M' := funext fun j => by
  rw [upd_get]
  by_cases e : j = ids i
  · subst e
    rw [if_pos rfl, rowsK_row O hi, tabN_congr hf]
  · rw [if_neg e]
    by_cases e1 : j = oid
    · subst e1; rw [rowsK_out, rowsK_out]
    · by_cases e2 : ∃ i', i' < k ∧ ids i' = j
      · obtain ⟨i', hi', rfl⟩ := e2
        rw [rowsK_row O hi', rowsK_row O hi', hM i' (fun q => e (by rw [q]))]
      · rw [rowsK_old e1 (fun i' hi' e3 => e2 ⟨i', hi', e3⟩), rowsK_old e1 (fun i' hi' e3 => e2 ⟨i', hi', e3⟩)]
end
end Go.Proofs.Ytdkdainipanacaa
namespace Go.Proofs.Ytdkdainipanacaa
open Go Go.RowKit Alg
set_option linter.unusedSimpArgs false
set_option linter.unusedVariables false
set_option linter.constructorNameAsVariable false
set_option linter.unusedSectionVars false
attribute [local irreducible] aopL W
variable {D : Desc} [Desc.Ok D]

set_option maxHeartbeats 2000000 in
theorem matrix_add_calls (hD : D.Small) (a : Int) {w vid uid : Nat} (hw : w ≤ 1000000) {V U : Nat → El D} {vx : AV} {G0 H : AH} (hG : GFS D G0 vx) (hle : ∀ Y, HLe G0 (upd H vid Y)) (hv : H vid = some ⟨tabN w fun c => (V c).v, true, 1⟩)
    (hu : H uid = some ⟨tabN w fun c => (U c).v, true, 1⟩) (hne : uid ≠ vid) :
    ACalls Try.prog n_matrix_add [vx, .s vid 0 w, I a, .s uid 0 w] H (fun r H' => H' = upd H vid ⟨tabN w fun c => (V c + el a * U c).v, true, 1⟩) := by
  refine calls_of F_matrix_add hmix (by show 4 ≤ 33; decide) ?_
  unfold s_matrix_add
  obtain ⟨T, hT⟩ : ∃ T : Nat → El D, ∀ c, T c = V c + el a * U c := ⟨_, fun _ => rfl⟩
  have hTT : (tabN w fun c => (V c + el a * U c : El D).v) = tabN w fun c => (T c).v := tabN_congr fun c _ => by rw [hT]
  rw [hTT]
  have hH : upd H vid ⟨tabN w fun c => (V c).v, true, 1⟩ = H := HLe.same hv
  (refine stpU ?_; repeat (refine Al4.mk ?_; intro _ _ _ _; refine stpU ?_))
  refine W_loopF (X := Nat) (fun i => [(0, vx), (1, .s vid 0 w), (2, I a), (10, .s uid 0 w), (11, I (w : Nat)), (12, I (i : Nat))]) (fun i => upd H vid ⟨tabN w fun c => if c < i then (T c).v else (V c).v, true, 1⟩)
    (fun i => i ≤ w) (fun i => w - i) 0 (Nat.zero_le _) ⟨rfl, rfl, rfl, rfl, rfl, rfl, trivial⟩ ?_ ?_
  · rw [show (tabN w fun c => if c < 0 then (T c).v else (V c).v) = tabN w fun c => (V c).v from tabN_congr fun c _ => if_neg (by omega), hH]
    exact .refl _
  intro i hi
  have hG2 := hG.mono (hle ⟨tabN w fun c => if c < i then (T c).v else (V c).v, true, 1⟩)
  by_cases hiw : i < w
  · have ru : rdc (upd H vid ⟨tabN w fun c => if c < i then (T c).v else (V c).v, true, 1⟩) uid i = some (I (U i).v) := rdc_of (by rw [upd_ne _ _ hne]; exact hu) (tabN_get _ hiw)
    have rv := tabN_rd (upd_same H vid ⟨tabN w fun c => if c < i then (T c).v else (V c).v, true, 1⟩) hiw
    rw [if_neg (Nat.lt_irrefl i)] at rv
    by_cases hz : U i = 0
    · have hz' : (U i).v = 0 := by rw [hz]; rfl
      have hTi : T i = V i := by rw [hT, hz, mul_zero, Alg.add_zero]
      (refine stpU ?_; repeat (refine Al4.mk ?_; intro _ _ _ _; refine stpU ?_))
      refine ⟨i + 1, hiw, by omega, ⟨rfl, rfl, rfl, rfl, rfl, rfl, trivial⟩, HLe.tabN fun c _ => ?_⟩
      by_cases e : c = i
      · subst e; rw [if_pos (by omega), if_neg (by omega), hTi]
      · by_cases h2 : c < i
        · rw [if_pos h2, if_pos (by omega)]
        · rw [if_neg h2, if_neg (by omega)]
    · have hz' : (U i).v ≠ 0 := fun h => hz (El.ext h)
      (refine stpU ?_; repeat (refine Al4.mk ?_; intro _ _ _ _; refine stpU ?_))
      refine cAt (GF_Mul_calls hD a (U i).v hG2) ?_
      rintro _ H4 ⟨rfl, rfl⟩
      refine ⟨.refl _, ?_⟩
      refine cAt (GF_Add_calls hD (V i).v _ hG2) ?_
      rintro _ H5 ⟨rfl, rfl⟩
      refine ⟨.refl _, ?_⟩
      rw [el_of, el_of, el_of, ← hT]
      (refine stpU ?_; repeat (refine Al4.mk ?_; intro _ _ _ _; refine stpU ?_))
      refine sV (off := i) (v := I (T i).v) rfl (upd_same _ _ _) rfl rfl (by rw [tabN_len]; omega) ?_
      rw [tabN_set _ _ hiw, upd_upd]
      (refine stpU ?_; repeat (refine Al4.mk ?_; intro _ _ _ _; refine stpU ?_))
      refine ⟨i + 1, hiw, by omega, ⟨rfl, rfl, rfl, rfl, rfl, rfl, trivial⟩, HLe.tabN fun c _ => ?_⟩
      by_cases e : c = i
      · subst e; rw [if_pos (by omega), if_pos rfl]
      · rw [if_neg e]
        by_cases h2 : c < i
        · rw [if_pos h2, if_pos (by omega)]
        · rw [if_neg h2, if_neg (by omega)]
  · have ei : i = w := by omega
    subst ei
    (refine stpU ?_; repeat (refine Al4.mk ?_; intro _ _ _ _; refine stpU ?_))
    show upd H vid _ = _
    rw [show (tabN i fun c => if c < i then (T c).v else (V c).v) = tabN i fun c => (T c).v from tabN_congr fun c hc => if_pos hc]

end Go.Proofs.Ytdkdainipanacaa
namespace Go.Proofs.Ytdkdainipanacaa
open Go Go.RowKit Alg
set_option linter.unusedSimpArgs false
set_option linter.unusedVariables false
set_option linter.constructorNameAsVariable false
set_option linter.unusedSectionVars false
attribute [local irreducible] aopL W
variable {D : Desc} [Desc.Ok D]

/-- cells kept by a function -/
def tabV (n : Nat) (f : Nat → AV) : List AV := (List.range n).map f
theorem tabV_len (n : Nat) (f : Nat → AV) : (tabV n f).length = n := by simp [tabV]
theorem tabV_get {n i : Nat} (f : Nat → AV) (h : i < n) : (tabV n f)[i]? = some (f i) := by simp [tabV, h]
theorem tabV_congr {n : Nat} {f g : Nat → AV} (h : ∀ i, i < n → f i = g i) : tabV n f = tabV n g := List.map_congr_left fun i hi => h i (List.mem_range.mp hi)
theorem tabV_set {n x : Nat} (f : Nat → AV) (v : AV) (h : x < n) : (tabV n f).set x v = tabV n fun y => if y = x then v else f y := by
  apply List.ext_getElem?
  intro y
  rw [List.getElem?_set]
  by_cases hy : y < n
  · rw [tabV_get _ hy, tabV_get _ hy, tabV_len]
    by_cases e : x = y
    · subst e; simp [h]
    · rw [if_neg e, if_neg (Ne.symm e)]
  · rw [List.getElem?_eq_none (by rw [tabV_len]; omega), tabV_len]
    by_cases e : x = y
    · omega
    · rw [if_neg e, List.getElem?_eq_none (by rw [tabV_len]; omega)]

/-- l[at], l[k] = l[k], l[at] -/
theorem elim_2_calls {n at_ k oid kid aid : Nat} (ha : at_ < n) (hk : k < n) {f : Nat → AV} (hf : ∀ i, i < n → cellsOf (f i) = some [f i]) {H : AH} (ho : H oid = some ⟨tabV n f, true, 1⟩) (bk : H kid = some ⟨[I k], false, 0⟩) (ba : H aid = some ⟨[I at_], false, 0⟩) :
    ACalls Try.prog n_matrix_eliminate_2 [.s oid 0 n, .p kid 0, .p aid 0] H (fun r H' => H' = upd H oid ⟨tabV n fun i => if i = k then f at_ else if i = at_ then f k else f i, true, 1⟩) := by
  refine calls_of F_matrix_eliminate_2 hmix (by show 3 ≤ 18; decide) ?_
  unfold s_matrix_eliminate_2
  have hk0 : oid ≠ kid := fun e => by rw [e, bk] at ho; have := congrArg AObj.rw (Option.some.inj ho); cases this
  have ha0 : oid ≠ aid := fun e => by rw [e, ba] at ho; have := congrArg AObj.rw (Option.some.inj ho); cases this
  obtain ⟨vx, hvx⟩ : ∃ v, v = f k := ⟨_, rfl⟩
  obtain ⟨vy, hvy⟩ : ∃ v, v = f at_ := ⟨_, rfl⟩
  have r1 : rdc H oid k = some vx := by rw [hvx]; exact rdc_of ho (tabV_get f hk)
  have r2 : rdc H oid at_ = some vy := by rw [hvy]; exact rdc_of ho (tabV_get f ha)
  (refine stpU ?_; repeat (refine Al4.mk ?_; intro _ _ _ _; refine stpU ?_))
  refine lF rfl ba rfl rfl ?_
  (refine stpU ?_; repeat (refine Al4.mk ?_; intro _ _ _ _; refine stpU ?_))
  refine lF rfl bk rfl rfl ?_
  (refine stpU ?_; repeat (refine Al4.mk ?_; intro _ _ _ _; refine stpU ?_))
  refine lF rfl bk rfl rfl ?_
  (refine stpU ?_; repeat (refine Al4.mk ?_; intro _ _ _ _; refine stpU ?_))
  refine lF rfl ba rfl rfl ?_
  (refine stpU ?_; repeat (refine Al4.mk ?_; intro _ _ _ _; refine stpU ?_))
  refine sV (off := at_) (v := vx) rfl ho rfl (by rw [hvx]; exact hf k hk) (by rw [tabV_len]; omega) ?_
  rw [tabV_set _ _ ha]
  (refine stpU ?_; repeat (refine Al4.mk ?_; intro _ _ _ _; refine stpU ?_))
  refine sV (off := k) (v := vy) rfl (upd_same _ _ _) rfl (by rw [hvy]; exact hf at_ ha) (by rw [tabV_len]; omega) ?_
  rw [tabV_set _ _ hk, upd_upd]
  (refine stpU ?_; repeat (refine Al4.mk ?_; intro _ _ _ _; refine stpU ?_))
  show upd H oid _ = _
  rw [hvx, hvy]

/-- step(rows), and nothing more where there is no other list -/
theorem elim_1_calls {f : FuncId} {caps : List AV} {rb ab : Nat} {vx : AV} {H : AH} {R : AV → AH → Prop} (hr : rdc H rb 0 = some vx) (hc : ACalls Try.prog f ([vx] ++ caps) H R) (hk : ∀ r H', R r H' → rdc H' ab 0 = some .ns) :
    ACalls Try.prog n_matrix_eliminate_1 [.f f caps, .p rb 0, .p ab 0] H (fun r H' => ∃ r', R r' H') := by
  refine calls_of F_matrix_eliminate_1 hmix (by show 3 ≤ 13; decide) ?_
  unfold s_matrix_eliminate_1
  obtain ⟨vy, hvy⟩ : ∃ v, v = AV.f f caps := ⟨_, rfl⟩
  rw [← hvy]
  (refine stpU ?_; repeat (refine Al4.mk ?_; intro _ _ _ _; refine stpU ?_))
  refine cF (f := f) (caps := caps) (by exact hvy) hc ?_
  intro r H2 hR
  have hk2 := hk r H2 hR
  (refine stpU ?_; repeat (refine Al4.mk ?_; intro _ _ _ _; refine stpU ?_))
  exact ⟨r, hR⟩

/-- add(g, l[i], g.Neg(x), l[at]) -/
theorem elim_4_calls (hD : D.Small) {n w i at_ x oid gb ib xb ab vid uid : Nat} (hi : i < n) (ha : at_ < n) (hw : w ≤ 1000000) {f : Nat → AV} {V U : Nat → El D} {vx : AV} {G0 H : AH} (hG : GFS D G0 vx) (hle0 : HLe G0 H) (hle : ∀ Y, HLe G0 (upd H vid Y))
    (ho : H oid = some ⟨tabV n f, true, 1⟩) (bg : rdc H gb 0 = some vx) (bi : rdc H ib 0 = some (I (i : Nat))) (bx : rdc H xb 0 = some (I (x : Nat))) (ba : rdc H ab 0 = some (I (at_ : Nat)))
    (fi : f i = .s vid 0 w) (fa : f at_ = .s uid 0 w) (hv : H vid = some ⟨tabN w fun c => (V c).v, true, 1⟩) (hu : H uid = some ⟨tabN w fun c => (U c).v, true, 1⟩) (hne : uid ≠ vid) :
    ACalls Try.prog n_matrix_eliminate_4 [.s oid 0 n, .p gb 0, .p ib 0, .p xb 0, .p ab 0] H (fun r H' => H' = upd H vid ⟨tabN w fun c => (V c + -(el (x : Int)) * U c : El D).v, true, 1⟩) := by
  refine calls_of F_matrix_eliminate_4 hmix (by show 5 ≤ 19; decide) ?_
  unfold s_matrix_eliminate_4
  have ri : rdc H oid i = some (.s vid 0 w) := by rw [← fi]; exact rdc_of ho (tabV_get f hi)
  have ra : rdc H oid at_ = some (.s uid 0 w) := by rw [← fa]; exact rdc_of ho (tabV_get f ha)
  (refine stpU ?_; repeat (refine Al4.mk ?_; intro _ _ _ _; refine stpU ?_))
  refine cAt (GF_Neg_calls hD (x : Int) (hG.mono hle0)) ?_
  rintro _ H2 ⟨rfl, rfl⟩
  refine ⟨.refl _, ?_⟩
  refine cLo (matrix_add_calls hD ((-el (x : Int) : El D).v : Int) hw hG hle hv hu hne) ?_
  rintro r H3 rfl
  (refine stpU ?_; repeat (refine Al4.mk ?_; intro _ _ _ _; refine stpU ?_))
  show upd _ vid _ = upd _ vid _
  rw [el_of]

/-- l[at] = g.Scale(inv, l[at]) -/
theorem elim_3_calls (hD : D.Small) {n w at_ b oid gb vb ab uid : Nat} (ha : at_ < n) (hw : w ≤ 1000000) {f : Nat → AV} {U : Nat → El D} {vx : AV} {H : AH} (hG : GFS D H vx)
    (ho : H oid = some ⟨tabV n f, true, 1⟩) (bg : rdc H gb 0 = some vx) (bv : rdc H vb 0 = some (I (b : Nat))) (ba : rdc H ab 0 = some (I (at_ : Nat)))
    (fa : f at_ = .s uid 0 w) (hu : H uid = some ⟨tabN w fun c => (U c).v, true, 1⟩) :
    ACalls Try.prog n_matrix_eliminate_3 [.s oid 0 n, .p gb 0, .p vb 0, .p ab 0] H (fun r H' => ∃ nid H1, H nid = none ∧ HLe (upd H nid ⟨tabN w fun c => (el (b : Int) * U c : El D).v, true, 1⟩) H1 ∧ H' = upd H1 oid ⟨tabV n fun i => if i = at_ then .s nid 0 w else f i, true, 1⟩) := by
  refine calls_of F_matrix_eliminate_3 hmix (by show 4 ≤ 15; decide) ?_
  unfold s_matrix_eliminate_3
  have ra : rdc H oid at_ = some (.s uid 0 w) := by rw [← fa]; exact rdc_of ho (tabV_get f ha)
  have hown := Cs.own hu
  rw [tabN_len] at hown
  have hp := PolS.tab (o := U) hown
  (refine stpU ?_; repeat (refine Al4.mk ?_; intro _ _ _ _; refine stpU ?_))
  refine cAt (GF_Scale_calls hD (b : Int) hG hp (by omega)) ?_
  rintro _ H2 ⟨nid, rfl, hnid, hnew, hl2⟩
  refine ⟨hl2, ?_⟩
  (refine stpU ?_; repeat (refine Al4.mk ?_; intro _ _ _ _; refine stpU ?_))
  refine sV (off := at_) (v := .s nid 0 w) rfl (hl2 _ _ ho) rfl rfl (by rw [tabV_len]; omega) ?_
  rw [tabV_set _ _ ha]
  (refine stpU ?_; repeat (refine Al4.mk ?_; intro _ _ _ _; refine stpU ?_))
  refine ⟨nid, H2, hnid, hl2.put ?_, rfl⟩
  rw [hnew]
  congr 2
  exact tabN_congr fun c hc => by unfold vals; rw [C_mul_c, pO_c, if_pos hc]

end Go.Proofs.Ytdkdainipanacaa
namespace Go.Proofs.Ytdkdainipanacaa
open Go Go.RowKit Alg
set_option linter.unusedSimpArgs false
set_option linter.unusedVariables false
set_option linter.constructorNameAsVariable false
set_option linter.unusedSectionVars false
attribute [local irreducible] aopL W
section
variable {P : Program} {n : Nat} {sc : SC} {Q : Exit → (Nat → AV) → AH → Prop} {a : Nat → AV} {H : AH}
theorem W_fam {sl : List (Nat × AV)} {Hx : AH} (hs : Has a sl) (hh : HLe Hx H) (h : W P n sc Q (Sl sl) Hx) : W P n sc Q a H := W_weak (weak_Sl hs.mem) hh h
/-- between two parts a family of states is enough -/
theorem W_cut {x y : SC} {X : Type} (sl : X → List (Nat × AV)) (hp : X → AH) (ok : X → Prop) (h1 : W P n x (Then (fun a' H' => ∃ z, ok z ∧ Has a' (sl z) ∧ HLe (hp z) H') Q) a H)
    (h2 : ∀ z, ok z → W P n y Q (Sl (sl z)) (hp z)) : W P n (.seq x y) Q a H := by
  refine W_seq (W_mono ?_ h1)
  intro e a' H' hq
  cases e with
  | normal => obtain ⟨z, k1, k2, k3⟩ := hq; exact W_fam k2 k3 (h2 z k1)
  | _ => exact hq
end
variable {D : Desc} [Desc.Ok D]
section
variable {G : AH} {oid n w k : Nat} {ids : Nat → Nat} {M M' : Nat → Nat → El D}
theorem rowsK_upd {j : Nat} {ob : AObj} (h1 : j ≠ oid) (h2 : ∀ i, i < k → ids i ≠ j) : upd (rowsK G oid n w k ids M) j ob = rowsK (upd G j ob) oid n w k ids M := funext fun t => by
  rw [upd_get]
  by_cases e : t = j
  · subst e
    rw [if_pos rfl, rowsK_old h1 h2, upd_same]
  · rw [if_neg e]
    unfold rowsK
    rw [upd_ne _ _ e]
theorem OwnK.upd (O : OwnK G oid n k ids) {j : Nat} {ob : AObj} (h1 : j ≠ oid) (h2 : ∀ i, i < k → ids i ≠ j) : OwnK (upd G j ob) oid n k ids :=
  ⟨O.kn, by rw [upd_ne _ _ (Ne.symm h1)]; exact O.out, fun i hi => by rw [upd_ne _ _ (h2 i hi)]; exact O.row i hi, O.ne, O.inj⟩
theorem OwnK.low {G' : AH} (O : OwnK G oid n k ids) (h : HLe G' G) : OwnK G' oid n k ids := ⟨O.kn, h.absent O.out, fun i hi => h.absent (O.row i hi), O.ne, O.inj⟩
theorem rowsK_congr (O : OwnK G oid n k ids) (h : ∀ i c, i < k → c < w → M i c = M' i c) : rowsK G oid n w k ids M = rowsK G oid n w k ids M' := funext fun j => by
  by_cases e1 : j = oid
  · subst e1; rw [rowsK_out, rowsK_out]
  · by_cases e2 : ∃ i, i < k ∧ ids i = j
    · obtain ⟨i, hi, rfl⟩ := e2
      rw [rowsK_row O hi, rowsK_row O hi, tabN_congr fun c hc => congrArg El.v (h i c hi hc)]
    · rw [rowsK_old e1 (fun i hi e3 => e2 ⟨i, hi, e3⟩), rowsK_old e1 (fun i hi e3 => e2 ⟨i, hi, e3⟩)]
theorem rowsK_low {G' : AH} (O : OwnK G oid n k ids) (h : HLe G' G) : HLe (rowsK G' oid n w k ids M) (rowsK G oid n w k ids M) :=
  rowsK_ext (O.low h) rowsK_out (fun i hi => rowsK_row O hi) (h.trans (rowsK_hle O))
theorem rowsK_tab : rowsK G oid n w n ids M oid = some ⟨tabV n fun i => .s (ids i) 0 w, true, 1⟩ := by
  rw [rowsK_out]
  congr 2
  exact List.map_congr_left fun i hi => if_pos (List.mem_range.mp hi)
theorem rowsK_tab' {X : AH} (h : X oid = some ⟨tabV n fun i => .s (ids i) 0 w, true, 1⟩) : X oid = some ⟨(List.range n).map fun i => if i < n then .s (ids i) 0 w else .ns, true, 1⟩ := by
  rw [h]
  congr 2
  exact List.map_congr_left fun i hi => (if_pos (List.mem_range.mp hi)).symm
/-- reading one's own row -/
theorem rdK (O : OwnK G oid n n ids) {H : AH} (hl : HLe (rowsK G oid n w n ids M) H) {i : Nat} (hi : i < n) : rdc H oid i = some (.s (ids i) 0 w) ∧ ∀ c, c < w → rdc H (ids i) c = some (I (M i c).v) :=
  ⟨rdc_mono hl (rdc_of rowsK_tab (tabV_get _ hi)), fun c hc => rdc_mono hl (rdc_of (rowsK_row O hi) (tabN_get _ hc))⟩

/-- the exchange of two places -/
def sw (i j k : Nat) : Nat := if k = i then j else if k = j then i else k
theorem sw_sw (i j k : Nat) : sw i j (sw i j k) = k := by
  unfold sw
  by_cases h1 : k = i
  · subst h1
    rw [if_pos rfl]
    by_cases h2 : j = k
    · rw [if_pos h2, h2]
    · rw [if_neg h2, if_pos rfl]
  · rw [if_neg h1]
    by_cases h2 : k = j
    · subst h2; rw [if_pos rfl, if_pos rfl]
    · rw [if_neg h2, if_neg h1, if_neg h2]
theorem sw_lt {i j k n : Nat} (hi : i < n) (hj : j < n) (hk : k < n) : sw i j k < n := by
  unfold sw; split
  · exact hj
  · split
    · exact hi
    · exact hk
theorem swapR_sw (M : Nat → Nat → El D) (i j : Nat) : swapR M i j = fun k => M (sw i j k) := funext fun k => by
  unfold swapR sw
  split
  · rfl
  · split <;> rfl
theorem OwnK.sw (O : OwnK G oid n n ids) {i j : Nat} (hi : i < n) (hj : j < n) : OwnK G oid n n fun k => ids (sw i j k) :=
  ⟨O.kn, O.out, fun k hk => O.row _ (sw_lt hi hj hk), fun k hk => O.ne _ (sw_lt hi hj hk), fun k l hk hl e => by
    have := O.inj _ _ (sw_lt hi hj hk) (sw_lt hi hj hl) e
    rw [← sw_sw i j k, this, sw_sw]⟩

variable {rb ab : Nat} {vx : AV}
theorem each_2 (O : OwnK G oid n n ids) {k at_ kid aid : Nat} (ha : at_ < n) (hk : k < n) (br : rdc G rb 0 = some (.s oid 0 n)) (ba : rdc G ab 0 = some .ns) (bk : G kid = some ⟨[I k], false, 0⟩) (bt : G aid = some ⟨[I at_], false, 0⟩) :
    ACalls Try.prog n_matrix_eliminate_1 [.f n_matrix_eliminate_2 [.p kid 0, .p aid 0], .p rb 0, .p ab 0] (rowsK G oid n w n ids M) (fun _ H' => HLe (rowsK G oid n w n (fun i => ids (sw at_ k i)) (swapR M at_ k)) H') := by
  have hl : HLe G (rowsK G oid n w n ids M) := rowsK_hle O
  have hst : HLe (rowsK G oid n w n (fun i => ids (sw at_ k i)) (swapR M at_ k)) (upd (rowsK G oid n w n ids M) oid ⟨tabV n fun i => if i = k then .s (ids at_) 0 w else if i = at_ then .s (ids k) 0 w else .s (ids i) 0 w, true, 1⟩) := by
    refine rowsK_ext (O.sw ha hk) (rowsK_tab' ?_) (fun i hi => ?_) (hl.upd_of O.out _)
    · rw [upd_same]
      congr 2
      refine tabV_congr fun i hi => ?_
      unfold sw
      by_cases h1 : i = k
      · subst h1
        rw [if_pos rfl]
        by_cases h2 : i = at_
        · subst h2; rw [if_pos rfl]
        · rw [if_neg h2, if_pos rfl]
      · rw [if_neg h1]
        by_cases h2 : i = at_
        · rw [if_pos h2, if_pos h2]
        · rw [if_neg h2, if_neg h2, if_neg h1]
    · rw [upd_ne _ _ (O.ne _ (sw_lt ha hk hi)), rowsK_row O (sw_lt ha hk hi), swapR_sw]
  refine ACalls.mono (elim_1_calls (R := fun _ H' => H' = upd (rowsK G oid n w n ids M) oid ⟨tabV n fun i => if i = k then .s (ids at_) 0 w else if i = at_ then .s (ids k) 0 w else .s (ids i) 0 w, true, 1⟩) (rdc_mono hl br)
    (elim_2_calls ha hk (f := fun i => .s (ids i) 0 w) (fun i hi => rfl) rowsK_tab (hl _ _ bk) (hl _ _ bt)) (fun r H' h => by
      subst h
      exact rdc_mono (hl.upd_of O.out _) ba)) ?_
  rintro v H' ⟨r', rfl⟩
  exact hst

theorem each_4 (hD : D.Small) (O : OwnK G oid n n ids) {i at_ x gb ib xb tb : Nat} (hi : i < n) (ha : at_ < n) (hne : i ≠ at_) (hw : w ≤ 1000000) (hG : GFS D G vx) (br : rdc G rb 0 = some (.s oid 0 n)) (ba : rdc G ab 0 = some .ns)
    (bg : rdc G gb 0 = some vx) (bi : rdc G ib 0 = some (I (i : Nat))) (bx : rdc G xb 0 = some (I (x : Nat))) (bt : rdc G tb 0 = some (I (at_ : Nat))) :
    ACalls Try.prog n_matrix_eliminate_1 [.f n_matrix_eliminate_4 [.p gb 0, .p ib 0, .p xb 0, .p tb 0], .p rb 0, .p ab 0] (rowsK G oid n w n ids M)
      (fun _ H' => H' = rowsK G oid n w n ids (fun j => if j = i then fun c => M i c + -(el (x : Int)) * M at_ c else M j)) := by
  have hl : HLe G (rowsK G oid n w n ids M) := rowsK_hle O
  have he : upd (rowsK G oid n w n ids M) (ids i) ⟨tabN w fun c => (M i c + -(el (x : Int)) * M at_ c : El D).v, true, 1⟩ = rowsK G oid n w n ids (fun j => if j = i then fun c => M i c + -(el (x : Int)) * M at_ c else M j) :=
    rowsK_set O hi (fun c _ => by rw [if_pos rfl]) (fun j hj => if_neg hj)
  refine ACalls.mono (elim_1_calls (R := fun _ H' => H' = upd (rowsK G oid n w n ids M) (ids i) ⟨tabN w fun c => (M i c + -(el (x : Int)) * M at_ c : El D).v, true, 1⟩) (rdc_mono hl br)
    (elim_4_calls hD hi ha hw hG hl (fun Y => hl.upd_of (O.row i hi) Y) rowsK_tab (rdc_mono hl bg) (rdc_mono hl bi) (rdc_mono hl bx) (rdc_mono hl bt) rfl rfl (rowsK_row O hi) (rowsK_row O ha) (fun e => hne (O.inj _ _ hi ha e.symm))) (fun r H' h => by
      subst h
      exact rdc_mono (hl.upd_of (O.row i hi) _) ba)) ?_
  rintro v H' ⟨r', rfl⟩
  exact he

theorem each_3 (hD : D.Small) (O : OwnK G oid n n ids) {at_ b gb vb tb : Nat} (ha : at_ < n) (hw : w ≤ 1000000) (hG : GFS D G vx) (br : rdc G rb 0 = some (.s oid 0 n)) (ba : rdc G ab 0 = some .ns)
    (bg : rdc G gb 0 = some vx) (bv : rdc G vb 0 = some (I (b : Nat))) (bt : rdc G tb 0 = some (I (at_ : Nat))) :
    ACalls Try.prog n_matrix_eliminate_1 [.f n_matrix_eliminate_3 [.p gb 0, .p vb 0, .p tb 0], .p rb 0, .p ab 0] (rowsK G oid n w n ids M)
      (fun _ H' => ∃ ids', OwnK G oid n n ids' ∧ HLe (rowsK G oid n w n ids' (scaleR M at_ (el (b : Int)))) H') := by
  have hl : HLe G (rowsK G oid n w n ids M) := rowsK_hle O
  refine ACalls.mono (elim_1_calls (rdc_mono hl br) (elim_3_calls hD ha hw (hG.mono hl) rowsK_tab (rdc_mono hl bg) (rdc_mono hl bv) (rdc_mono hl bt) rfl (rowsK_row O ha)) (fun r H' h => ?_)) ?_
  · obtain ⟨nid, H1, h1, h2, rfl⟩ := h
    exact rdc_mono (((hl.trans (.upd_new h1 _)).trans h2).upd_of O.out _) ba
  · rintro v H' ⟨r', nid, H1, h1, h2, rfl⟩
    obtain ⟨g1, g2, g3⟩ := rowsK_none O h1
    have hl1 := (hl.trans (.upd_new h1 _)).trans h2
    have O' : OwnK G oid n n fun i => if i = at_ then nid else ids i := by
      refine ⟨O.kn, O.out, fun i hi => ?_, fun i hi => ?_, fun i j hi hj e => ?_⟩
      · split
        · exact g1
        · exact O.row i hi
      · split
        · exact g2
        · exact O.ne i hi
      · by_cases e1 : i = at_ <;> by_cases e2 : j = at_
        · rw [e1, e2]
        · rw [if_pos e1, if_neg e2] at e; exact absurd e.symm (g3 j hj)
        · rw [if_neg e1, if_pos e2] at e; exact absurd e (g3 i hi)
        · rw [if_neg e1, if_neg e2] at e; exact O.inj i j hi hj e
    refine ⟨_, O', rowsK_ext O' (rowsK_tab' ?_) (fun i hi => ?_) (hl1.upd_of O.out _)⟩
    · rw [upd_same]
      congr 2
      refine tabV_congr fun i hi => ?_
      by_cases e : i = at_
      · rw [if_pos e, if_pos e]
      · rw [if_neg e, if_neg e]
    · by_cases e : i = at_
      · subst e
        rw [if_pos rfl, upd_ne _ _ g2, h2 _ _ (upd_same _ _ _)]
        congr 2
        exact tabN_congr fun c _ => by unfold scaleR; rw [if_pos rfl]
      · rw [if_neg e, upd_ne _ _ (O.ne i hi)]
        have := h2 _ _ (show upd (rowsK G oid n w n ids M) nid ⟨tabN w fun c => (el (b : Int) * M at_ c : El D).v, true, 1⟩ (ids i) = _ by rw [upd_ne _ _ (g3 i hi)]; exact rowsK_row O hi)
        rw [this]
        congr 2
        exact tabN_congr fun c _ => by unfold scaleR; rw [if_neg e]
end
end Go.Proofs.Ytdkdainipanacaa
