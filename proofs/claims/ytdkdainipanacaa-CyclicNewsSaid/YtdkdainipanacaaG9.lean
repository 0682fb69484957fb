/- Contracts of the field's element operations: in, Add, Neg, Sub, Mul, Inv, Pow, Order. Condition: the field's object stands in memory. · Polynomials in memory; contracts of trim, Canon, Degree, Scale, Monic, combine, Sub of the program. Condition: the field's object stands in memory, the slices hold whole numbers. -/
import Derived.Test.YtdkdainipanacaaS0
import Derived.Test.YtdkdainipanacaaG6
import Derived.Test.YtdkdainipanacaaXD
import Derived.Test.YtdkdainipanacaaXM
namespace Go.Proofs.Ytdkdainipanacaa
open Go Go.RowKit Alg
set_option linter.unusedSimpArgs false
set_option linter.unusedVariables false
set_option linter.constructorNameAsVariable false
attribute [local irreducible] aopL W

/-- x as an element, or 0 -/
def el {D : Desc} [Desc.Ok D] (x : Int) : El D := ⟨cin D.q x, cin_lt (Nat.lt_trans Nat.zero_lt_one q_gt) x⟩
theorem el_v {D : Desc} [Desc.Ok D] (x : Int) : (el x : El D).v = cin D.q x := rfl
theorem el_of {D : Desc} [Desc.Ok D] (a : El D) : el (a.v : Int) = a := El.ext (by
  rw [el_v, cin_in ⟨by omega, by have := a.lt; omega⟩]; omega)
theorem el_zero {D : Desc} [Desc.Ok D] : (el 0 : El D) = 0 := el_of (0 : El D)
theorem el_one {D : Desc} [Desc.Ok D] : (el 1 : El D) = 1 := el_of (1 : El D)

variable {D : Desc} [Desc.Ok D]
theorem GF_in_calls (x : Int) {vx : AV} {H : AH} (hG : GFS D H vx) : ACalls Try.prog n_GF_in [vx, I x] H (fun r H' => r = I (el x : El D).v ∧ H' = H) := by
  refine calls_of F_GF_in hmix (by show 2 ≤ 9; decide) ?_
  unfold s_GF_in
  (refine stpT ?_; repeat (refine Al4.mk ?_; intro _ _ _ _; refine stpT ?_))
  refine cA (GF_Is_calls x hG) ?_
  rintro _ H2 ⟨rfl, rfl⟩
  by_cases hin : 0 ≤ x ∧ x < D.q
  · rw [decide_eq_true hin]
    (refine stpT ?_; repeat (refine Al4.mk ?_; intro _ _ _ _; refine stpT ?_))
    exact ⟨congrArg I (by rw [el_v, cin_in hin]; omega), rfl⟩
  · rw [decide_eq_false hin]
    (refine stpT ?_; repeat (refine Al4.mk ?_; intro _ _ _ _; refine stpT ?_))
    exact ⟨by rw [el_v, cin_out hin]; rfl, rfl⟩


/-- the number's digits end -/
theorem div_pos_lt {p x k m : Nat} (hx : x < p ^ m) (hp : 0 < p) (h : x / p ^ k ≠ 0) : k < m := by
  refine Nat.lt_of_not_le fun hle => h (Nat.div_eq_of_lt (Nat.lt_of_lt_of_le hx (Nat.pow_le_pow_right hp hle)))

set_option maxHeartbeats 2000000 in
theorem GF_Add_calls (hD : D.Small) (x y : Int) {vx : AV} {H : AH} (hG : GFS D H vx) : ACalls Try.prog n_GF_Add [vx, I x, I y] H (fun r H' => r = I (el x + el y : El D).v ∧ H' = H) := by
  have hG' := hG
  obtain ⟨gid, eid, lid, xm, z, g, lg, rfl, h2, -⟩ := hG'
  refine calls_of F_GF_Add hmix (by show 3 ≤ 77; decide) ?_
  unfold s_GF_Add
  have f0 : rdc H gid 0 = some (I D.p) := rdc_of h2 rfl
  have hp2 := Two.two (p := D.p)
  have hp256 := hD.p256
  have hq256 := hD.q256
  (refine stpT ?_; repeat (refine Al4.mk ?_; intro _ _ _ _; refine stpT ?_))
  refine cA (GF_in_calls x hG) ?_
  rintro _ H2 ⟨rfl, rfl⟩
  (refine stpT ?_; repeat (refine Al4.mk ?_; intro _ _ _ _; refine stpT ?_))
  refine cA (GF_in_calls y hG) ?_
  rintro _ H3 ⟨rfl, rfl⟩
  generalize (el x : El D) = a
  generalize (el y : El D) = b
  have ha := a.lt
  have hb := b.lt
  by_cases hp : D.p = 2
  · (refine stpT ?_; repeat (refine Al4.mk ?_; intro _ _ _ _; refine stpT ?_))
    refine bXN rfl rfl (by omega) (by omega) ?_
    (refine stpT ?_; repeat (refine Al4.mk ?_; intro _ _ _ _; refine stpT ?_))
    exact ⟨by rw [xor_v hp]; rfl, rfl⟩
  have hs := el_add_v a b
  have ha' : a.v < D.p ^ D.m := ha
  have hb' : b.v < D.p ^ D.m := hb
  have hs2 : ∀ i, (dig D.p a.v i + dig D.p b.v i) % D.p < D.p := fun i => Nat.mod_lt _ pp
  (refine stpT ?_; repeat (refine Al4.mk ?_; intro _ _ _ _; refine stpT ?_))
  refine W_loopF (X := Nat) (fun k => [(0, .p gid 0), (1, I (a.v / D.p ^ k : Nat)), (2, I (b.v / D.p ^ k : Nat)), (7, I (valN D.p (fun i => (dig D.p a.v i + dig D.p b.v i) % D.p) k : Nat)), (8, I (D.p ^ k : Nat))]) (fun _ => H3)
    (fun k => k ≤ D.m) (fun k => D.m - k) 0 (Nat.zero_le _) ⟨rfl, by rw [Nat.pow_zero, Nat.div_one]; rfl, by rw [Nat.pow_zero, Nat.div_one]; rfl, rfl, by rw [Nat.pow_zero]; rfl, trivial⟩ (.refl _) ?_
  intro k hk
  have hva : a.v / D.p ^ k ≤ a.v := Nat.div_le_self _ _
  have hvb : b.v / D.p ^ k ≤ b.v := Nat.div_le_self _ _
  have hvl : valN D.p (fun i => (dig D.p a.v i + dig D.p b.v i) % D.p) k < D.p ^ k := valN_lt fun i _ => hs2 i
  have hpk : D.p ^ k ≤ D.p ^ D.m := Nat.pow_le_pow_right pp hk
  have hqm : D.p ^ D.m = D.q := rfl
  by_cases hz : a.v / D.p ^ k = 0 ∧ b.v / D.p ^ k = 0
  · obtain ⟨hza, hzb⟩ := hz
    have hend : valN D.p (fun i => (dig D.p a.v i + dig D.p b.v i) % D.p) D.m = valN D.p (fun i => (dig D.p a.v i + dig D.p b.v i) % D.p) k :=
      valN_ext hk fun i h1 _ => by show (_ + _) % _ = _; rw [dig_zero_of_lt pp hza h1, dig_zero_of_lt pp hzb h1, Nat.zero_mod]
    generalize a.v / D.p ^ k = X at *
    generalize b.v / D.p ^ k = Y at *
    (refine stpT ?_; repeat (refine Al4.mk ?_; intro _ _ _ _; refine stpT ?_))
    exact ⟨by rw [hs, hend]; rfl, rfl⟩
  have hkm : k < D.m := by
    by_cases h : a.v / D.p ^ k = 0
    · exact div_pos_lt hb' pp fun h' => hz ⟨h, h'⟩
    · exact div_pos_lt ha' pp h
  have hpk1 : D.p ^ (k + 1) ≤ D.p ^ D.m := Nat.pow_le_pow_right pp hkm
  have hpk2 : D.p ^ (k + 1) = D.p ^ k * D.p := Nat.pow_succ ..
  have hnext : valN D.p (fun i => (dig D.p a.v i + dig D.p b.v i) % D.p) k + (a.v / D.p ^ k % D.p + b.v / D.p ^ k % D.p) % D.p * D.p ^ k = valN D.p (fun i => (dig D.p a.v i + dig D.p b.v i) % D.p) (k + 1) := rfl
  have hb1 : (a.v / D.p ^ k % D.p + b.v / D.p ^ k % D.p) % D.p * D.p ^ k ≤ 256 * 256 := Nat.mul_le_mul (by have := hs2 k; have h3 : (a.v / D.p ^ k % D.p + b.v / D.p ^ k % D.p) % D.p < D.p := this; omega) (by omega)
  have hda : a.v / D.p ^ (k + 1) = a.v / D.p ^ k / D.p := by rw [hpk2, Nat.div_div_eq_div_mul]
  have hdb : b.v / D.p ^ (k + 1) = b.v / D.p ^ k / D.p := by rw [hpk2, Nat.div_div_eq_div_mul]
  have hgoal : ∀ (a' : Nat → AV), a' 0 = .p gid 0 → a' 1 = I (a.v / D.p ^ k / D.p : Nat) → a' 2 = I (b.v / D.p ^ k / D.p : Nat) → a' 7 = I (valN D.p (fun i => (dig D.p a.v i + dig D.p b.v i) % D.p) k + (a.v / D.p ^ k % D.p + b.v / D.p ^ k % D.p) % D.p * D.p ^ k : Nat) → a' 8 = I (D.p ^ k * D.p : Nat) →
      ∃ y, y ≤ D.m ∧ D.m - y < D.m - k ∧ Has a' [(0, .p gid 0), (1, I (a.v / D.p ^ y : Nat)), (2, I (b.v / D.p ^ y : Nat)), (7, I (valN D.p (fun i => (dig D.p a.v i + dig D.p b.v i) % D.p) y : Nat)), (8, I (D.p ^ y : Nat))] ∧ HLe H3 H3 :=
    fun a' h0 h1 h2 h7 h8 => ⟨k + 1, hkm, by omega, ⟨h0, by rw [hda]; exact h1, by rw [hdb]; exact h2, by rw [← hnext]; exact h7, by rw [hpk2]; exact h8, trivial⟩, .refl _⟩
  have hxm : a.v / D.p ^ k % D.p < D.p := Nat.mod_lt _ pp
  have hym : b.v / D.p ^ k % D.p < D.p := Nat.mod_lt _ pp
  by_cases h0 : 0 < a.v / D.p ^ k
  · (refine stpT ?_; repeat (refine Al4.mk ?_; intro _ _ _ _; refine stpT ?_))
    exact hgoal _ rfl rfl rfl rfl rfl
  · have h0b : 0 < b.v / D.p ^ k := Nat.pos_of_ne_zero fun h => hz ⟨Nat.eq_zero_of_not_pos h0, h⟩
    (refine stpT ?_; repeat (refine Al4.mk ?_; intro _ _ _ _; refine stpT ?_))
    exact hgoal _ rfl rfl rfl rfl rfl

set_option maxHeartbeats 2000000 in
theorem GF_Neg_calls (hD : D.Small) (x : Int) {vx : AV} {H : AH} (hG : GFS D H vx) : ACalls Try.prog n_GF_Neg [vx, I x] H (fun r H' => r = I (-el x : El D).v ∧ H' = H) := by
  have hG' := hG
  obtain ⟨gid, eid, lid, xm, z, g, lg, rfl, h2, -⟩ := hG'
  refine calls_of F_GF_Neg hmix (by show 2 ≤ 50; decide) ?_
  unfold s_GF_Neg
  have f0 : rdc H gid 0 = some (I D.p) := rdc_of h2 rfl
  have hp2 := Two.two (p := D.p)
  have hp256 := hD.p256
  have hq256 := hD.q256
  (refine stpT ?_; repeat (refine Al4.mk ?_; intro _ _ _ _; refine stpT ?_))
  refine cA (GF_in_calls x hG) ?_
  rintro _ H2 ⟨rfl, rfl⟩
  generalize (el x : El D) = a
  have ha := a.lt
  have hs := el_neg_v a
  have ha' : a.v < D.p ^ D.m := ha
  have hs2 : ∀ i, (D.p - dig D.p a.v i) % D.p < D.p := fun i => Nat.mod_lt _ pp
  (refine stpT ?_; repeat (refine Al4.mk ?_; intro _ _ _ _; refine stpT ?_))
  refine W_loopF (X := Nat) (fun k => [(0, .p gid 0), (1, I (a.v / D.p ^ k : Nat)), (5, I (valN D.p (fun i => (D.p - dig D.p a.v i) % D.p) k : Nat)), (6, I (D.p ^ k : Nat))]) (fun _ => H2)
    (fun k => k ≤ D.m) (fun k => D.m - k) 0 (Nat.zero_le _) ⟨rfl, by rw [Nat.pow_zero, Nat.div_one]; rfl, rfl, by rw [Nat.pow_zero]; rfl, trivial⟩ (.refl _) ?_
  intro k hk
  have hva : a.v / D.p ^ k ≤ a.v := Nat.div_le_self _ _
  have hvl : valN D.p (fun i => (D.p - dig D.p a.v i) % D.p) k < D.p ^ k := valN_lt fun i _ => hs2 i
  have hpk : D.p ^ k ≤ D.p ^ D.m := Nat.pow_le_pow_right pp hk
  have hqm : D.p ^ D.m = D.q := rfl
  by_cases hza : a.v / D.p ^ k = 0
  · have hend : valN D.p (fun i => (D.p - dig D.p a.v i) % D.p) D.m = valN D.p (fun i => (D.p - dig D.p a.v i) % D.p) k :=
      valN_ext hk fun i h1 _ => by show (_ - _) % _ = _; rw [dig_zero_of_lt pp hza h1, Nat.sub_zero, Nat.mod_self]
    generalize a.v / D.p ^ k = X at *
    (refine stpT ?_; repeat (refine Al4.mk ?_; intro _ _ _ _; refine stpT ?_))
    exact ⟨by rw [hs, hend]; rfl, rfl⟩
  have hkm : k < D.m := div_pos_lt ha' pp hza
  have hpk1 : D.p ^ (k + 1) ≤ D.p ^ D.m := Nat.pow_le_pow_right pp hkm
  have hpk2 : D.p ^ (k + 1) = D.p ^ k * D.p := Nat.pow_succ ..
  have hnext : valN D.p (fun i => (D.p - dig D.p a.v i) % D.p) k + (D.p - a.v / D.p ^ k % D.p) % D.p * D.p ^ k = valN D.p (fun i => (D.p - dig D.p a.v i) % D.p) (k + 1) := rfl
  have hb1 : (D.p - a.v / D.p ^ k % D.p) % D.p * D.p ^ k ≤ 256 * 256 := Nat.mul_le_mul (by have h3 : (D.p - a.v / D.p ^ k % D.p) % D.p < D.p := hs2 k; omega) (by omega)
  have hda : a.v / D.p ^ (k + 1) = a.v / D.p ^ k / D.p := by rw [hpk2, Nat.div_div_eq_div_mul]
  have hxm : a.v / D.p ^ k % D.p < D.p := Nat.mod_lt _ pp
  have h0 : 0 < a.v / D.p ^ k := Nat.pos_of_ne_zero hza
  (refine stpT ?_; repeat (refine Al4.mk ?_; intro _ _ _ _; refine stpT ?_))
  exact ⟨k + 1, hkm, by omega, ⟨rfl, by rw [hda]; rfl, by rw [← hnext]; rfl, by rw [hpk2]; rfl, trivial⟩, .refl _⟩

theorem GF_Sub_calls (hD : D.Small) (x y : Int) {vx : AV} {H : AH} (hG : GFS D H vx) : ACalls Try.prog n_GF_Sub [vx, I x, I y] H (fun r H' => r = I (el x + -el y : El D).v ∧ H' = H) := by
  refine calls_of F_GF_Sub hmix (by show 3 ≤ 13; decide) ?_
  unfold s_GF_Sub
  (refine stpT ?_; repeat (refine Al4.mk ?_; intro _ _ _ _; refine stpT ?_))
  refine cA (GF_Neg_calls hD y hG) ?_
  rintro _ H2 ⟨rfl, rfl⟩
  (refine stpT ?_; repeat (refine Al4.mk ?_; intro _ _ _ _; refine stpT ?_))
  refine cA (GF_Add_calls hD x _ hG) ?_
  rintro _ H3 ⟨rfl, rfl⟩
  rw [el_of]
  (refine stpT ?_; repeat (refine Al4.mk ?_; intro _ _ _ _; refine stpT ?_))
  exact ⟨rfl, rfl⟩

/-- an element other than zero, as a power -/
theorem pw_of {g : El D} {lg : Nat → Nat} (hg : Gen g) (hlg : ∀ i, i < D.q - 1 → lg (pw g i).v = i) {x : El D} (hx : x ≠ 0) : lg x.v < D.q - 1 ∧ pw g (lg x.v) = x := by
  obtain ⟨i, hi, rfl⟩ := gen_all hg hx
  rw [hlg i hi]
  exact ⟨hi, rfl⟩

set_option maxHeartbeats 2000000 in
theorem GF_Mul_calls (hD : D.Small) (x y : Int) {vx : AV} {H : AH} (hG : GFS D H vx) : ACalls Try.prog n_GF_Mul [vx, I x, I y] H (fun r H' => r = I (el x * el y : El D).v ∧ H' = H) := by
  have hG' := hG
  obtain ⟨gid, eid, lid, xm, z, g, lg, rfl, h2, hM, hE, hL, hg, hlg⟩ := hG'
  refine calls_of F_GF_Mul hmix (by show 3 ≤ 46; decide) ?_
  unfold s_GF_Mul
  have f3 : rdc H gid 3 = some (I D.q) := rdc_of h2 rfl
  have f4 : rdc H gid 4 = some (.s eid 0 (D.q - 1)) := rdc_of h2 rfl
  have f5 : rdc H gid 5 = some (.s lid 0 D.q) := rdc_of h2 rfl
  have hq256 := hD.q256
  have hq1 := q_gt (D := D)
  (refine stpU ?_; repeat (refine Al4.mk ?_; intro _ _ _ _; refine stpU ?_))
  refine cA (GF_in_calls x hG) ?_
  rintro _ H2 ⟨rfl, rfl⟩
  (refine stpU ?_; repeat (refine Al4.mk ?_; intro _ _ _ _; refine stpU ?_))
  refine cA (GF_in_calls y hG) ?_
  rintro _ H3 ⟨rfl, rfl⟩
  generalize (el x : El D) = a
  generalize (el y : El D) = b
  have ha := a.lt
  have hb := b.lt
  by_cases ha0 : a = 0
  · have hav : a.v = 0 := by rw [ha0]; rfl
    (refine stpU ?_; repeat (refine Al4.mk ?_; intro _ _ _ _; refine stpU ?_))
    exact ⟨by rw [ha0, zero_mul]; rfl, rfl⟩
  have hav : a.v ≠ 0 := fun h => ha0 (El.ext h)
  by_cases hb0 : b = 0
  · have hbv : b.v = 0 := by rw [hb0]; rfl
    (refine stpU ?_; repeat (refine Al4.mk ?_; intro _ _ _ _; refine stpU ?_))
    exact ⟨by rw [hb0, mul_zero]; rfl, rfl⟩
  have hbv : b.v ≠ 0 := fun h => hb0 (El.ext h)
  obtain ⟨la, ea⟩ := pw_of hg hlg ha0
  obtain ⟨lb, eb⟩ := pw_of hg hlg hb0
  have ra := (hL.rd (tabN_get lg ha)).2
  have rb := (hL.rd (tabN_get lg hb)).2
  rw [Nat.zero_add] at ra rb
  have hml : (lg a.v + lg b.v) % (D.q - 1) < D.q - 1 := Nat.mod_lt _ (by omega)
  have re := (hE.rd (tabN_get (fun i => (pw g i).v) hml)).2
  rw [Nat.zero_add] at re
  (refine stpU ?_; repeat (refine Al4.mk ?_; intro _ _ _ _; refine stpU ?_))
  exact ⟨by rw [gen_mul hg, ea, eb]; rfl, rfl⟩

/-- the inverse, as the program has it: 0 for 0 -/
theorem GFS.fld {vg : AV} {H : AH} (h : GFS D H vg) : Fld (El D) := by
  obtain ⟨gid, eid, lid, xm, z, g, lg, rfl, h2, hM, hE, hL, hg, hlg⟩ := h
  exact fld_of_gen hg

set_option maxHeartbeats 2000000 in
theorem GF_Inv_calls (hD : D.Small) [Fld (El D)] (x : Int) {vx : AV} {H : AH} (hG : GFS D H vx) : ACalls Try.prog n_GF_Inv [vx, I x] H (fun r H' => ((el x : El D) = 0 ∧ r = .tu [I 0, I 7] ∨ (el x : El D) ≠ 0 ∧ r = .tu [I (inv (el x) : El D).v, I 0]) ∧ H' = H) := by
  have hG' := hG
  obtain ⟨gid, eid, lid, xm, z, g, lg, rfl, h2, hM, hE, hL, hg, hlg⟩ := hG'
  refine calls_of F_GF_Inv hmix (by show 2 ≤ 36; decide) ?_
  unfold s_GF_Inv
  have f3 : rdc H gid 3 = some (I D.q) := rdc_of h2 rfl
  have f4 : rdc H gid 4 = some (.s eid 0 (D.q - 1)) := rdc_of h2 rfl
  have f5 : rdc H gid 5 = some (.s lid 0 D.q) := rdc_of h2 rfl
  have hq256 := hD.q256
  have hq1 := q_gt (D := D)
  (refine stpU ?_; repeat (refine Al4.mk ?_; intro _ _ _ _; refine stpU ?_))
  refine cA (GF_in_calls x hG) ?_
  rintro _ H2 ⟨rfl, rfl⟩
  generalize (el x : El D) = a
  have ha := a.lt
  by_cases ha0 : a = 0
  · have hav : a.v = 0 := by rw [ha0]; rfl
    (refine stpU ?_; repeat (refine Al4.mk ?_; intro _ _ _ _; refine stpU ?_))
    exact ⟨.inl ⟨ha0, rfl⟩, rfl⟩
  have hav : a.v ≠ 0 := fun h => ha0 (El.ext h)
  obtain ⟨la, ea⟩ := pw_of hg hlg ha0
  have ra := (hL.rd (tabN_get lg ha)).2
  rw [Nat.zero_add] at ra
  have hml : (D.q - 1 - lg a.v) % (D.q - 1) < D.q - 1 := Nat.mod_lt _ (by omega)
  have re := (hE.rd (tabN_get (fun i => (pw g i).v) hml)).2
  rw [Nat.zero_add] at re
  (refine stpU ?_; repeat (refine Al4.mk ?_; intro _ _ _ _; refine stpU ?_))
  refine ⟨.inr ⟨ha0, ?_⟩, rfl⟩
  have hi := inv_of_mul (gen_inv hg la)
  rw [ea] at hi
  rw [← hi]; rfl


end Go.Proofs.Ytdkdainipanacaa
namespace Go.Proofs.Ytdkdainipanacaa
open Go Go.RowKit Alg
set_option linter.unusedSimpArgs false
set_option linter.unusedVariables false
set_option linter.constructorNameAsVariable false
attribute [local irreducible] aopL W
variable {D : Desc} [Desc.Ok D]

/-- the polynomial of a list of numbers -/
def polL (l : List Int) : Poly (El D) := ⟨fun i => el (l.getD i 0), l.length, fun i hi => by
  rw [List.getD_eq_getElem?_getD, List.getElem?_eq_none hi]; exact el_zero⟩
theorem polL_c (l : List Int) (i : Nat) : (polL l : Poly (El D)).c i = el (l.getD i 0) := rfl
theorem polL_get {l : List Int} {i : Nat} {c : Int} (h : l[i]? = some c) : (polL l : Poly (El D)).c i = el c := by
  rw [polL_c, List.getD_eq_getElem?_getD, h]; rfl
theorem polL_below (l : List Int) : (polL l : Poly (El D)).below l.length := fun i hi => by
  rw [polL_c, List.getD_eq_getElem?_getD, List.getElem?_eq_none hi]; exact el_zero
/-- the coefficients as numbers -/
def vals (P : Poly (El D)) (i : Nat) : Nat := (P.c i).v
theorem vals_lt (P : Poly (El D)) (i : Nat) : vals P i < D.q := (P.c i).lt
theorem vals_zero {P : Poly (El D)} {i : Nat} : vals P i = 0 ↔ P.c i = 0 := ⟨fun h => El.ext h, fun h => by unfold vals; rw [h]; rfl⟩
theorem cf_vals (l : List Int) : cf D.q l = vals (polL l : Poly (El D)) := rfl
theorem topF_len {P : Poly (El D)} {n : Nat} (h : P.below n) : topF (vals P) n = len P := by
  have h1 : P.below (topF (vals P) n) := fun i hi => by
    by_cases hin : i < n
    · exact vals_zero.mp (topF_zero hi hin)
    · exact h i (by omega)
  cases e : topF (vals P) n with
  | zero => rw [e] at h1; have := len_le h1; omega
  | succ k =>
    rw [e] at h1
    exact (len_eq h1 fun h0 => topF_ne e (vals_zero.mpr h0)).symm

/-- x is a slice of n whole numbers, with the polynomial P -/
def PolS (H : AH) (x : AV) (n : Nat) (P : Poly (El D)) : Prop := ∃ l : List Int, Cs H x (l.map I) ∧ l.length = n ∧ polL l = P
/-- x is a slice of the coefficients of P, without zeros at the end -/
def CanP (H : AH) (x : AV) (P : Poly (El D)) : Prop := Cs H x (tabN (len P) (vals P))
theorem PolS.mono {H H' : AH} {x : AV} {n : Nat} {P : Poly (El D)} (hl : HLe H H') (h : PolS H x n P) : PolS H' x n P := by
  obtain ⟨l, h1, h2, h3⟩ := h; exact ⟨l, h1.mono hl, h2, h3⟩
theorem CanP.mono {H H' : AH} {x : AV} {P : Poly (El D)} (hl : HLe H H') (h : CanP H x P) : CanP H' x P := Cs.mono hl h
theorem PolS.below {H : AH} {x : AV} {n : Nat} {P : Poly (El D)} (h : PolS H x n P) : P.below n := by
  obtain ⟨l, _, rfl, rfl⟩ := h; exact polL_below l
theorem tab_map (n : Nat) (f : Nat → Nat) : tabN n f = ((List.range n).map fun i => (f i : Int)).map I := by
  unfold tabN; rw [List.map_map]; rfl
theorem PolS.tab {H : AH} {x : AV} {n : Nat} {o : Nat → El D} (h : Cs H x (tabN n fun i => (o i).v)) : PolS H x n (pO n o) := by
  rw [tab_map] at h
  refine ⟨_, h, by simp, Poly.ext fun i => ?_⟩
  rw [polL_c, pO_c]
  by_cases hi : i < n
  · rw [if_pos hi]
    simp [List.getD_eq_getElem?_getD, hi, el_of]
  · rw [if_neg hi, List.getD_eq_getElem?_getD, List.getElem?_eq_none (by simp; omega)]
    exact el_zero
theorem CanP.pol {H : AH} {x : AV} {P : Poly (El D)} (h : CanP H x P) : PolS H x (len P) P := by
  have := PolS.tab (o := P.c) h
  rwa [pO_self (below_len P)] at this
/-- x is one's own slice, over an array that none had -/
def OwnP (H H' : AH) (x : AV) (N : Nat) (P : Poly (El D)) : Prop := ∃ id, x = .s id 0 (len P) ∧ H id = none ∧ H' id = some ⟨tabN N (vals P), true, 1⟩ ∧ len P ≤ N
theorem OwnP.can {H H' : AH} {x : AV} {N : Nat} {P : Poly (El D)} (h : OwnP H H' x N P) : CanP H' x P := by
  obtain ⟨id, rfl, _, h2, h3⟩ := h
  have := Cs.own h2
  rw [tabN_len] at this
  have := this.take h3
  rwa [tabN_take _ h3] at this
theorem CanP.nil {H : AH} {x : AV} (hx : x = .ns ∨ x = .es) : CanP H x (0 : Poly (El D)) := .inl ⟨by rw [len_zero]; rfl, hx⟩
theorem pol_one : ∀ {H : AH} {x : AV}, Cs H x [I 1] → PolS H x 1 (1 : Poly (El D)) := fun h => by
  refine ⟨[1], h, rfl, Poly.ext fun i => ?_⟩
  rw [polL_c, one_c]
  by_cases hi : i = 0
  · subst hi; rw [if_pos rfl]; exact el_one
  · rw [if_neg hi, List.getD_eq_getElem?_getD, List.getElem?_eq_none (by simp; omega)]
    exact el_zero

theorem Canon_calls {n : Nat} {P : Poly (El D)} {vx vy : AV} {H : AH} (hG : GFS D H vx) (hP : PolS H vy n P) (hn : n * 8 ≤ 281474976710656) :
    ACalls Try.prog n_poly_Canon [vx, vy] H (fun r H' => OwnP H H' r n P ∧ HLe H H') := by
  obtain ⟨l, hC, rfl, rfl⟩ := hP
  refine ACalls.mono (poly_Canon_own hG hC hn) fun r H' ⟨h1, h2, id, h3, h4, h5⟩ => ⟨⟨id, ?_, h4, h5, ?_⟩, h2⟩
  · rw [h3, cf_vals, topF_len (polL_below l)]
  · exact len_le (polL_below l)

/-- trim on an own table -/
theorem Trim_calls {n : Nat} {P : Poly (El D)} {x : AV} {H : AH} (hC : Cs H x (tabN n (vals P))) (hP : P.below n) (hn : n ≤ 9223372036854775807) :
    ACalls Try.prog n_poly_trim [x] H (fun r H' => CanP H r P ∧ H' = H) :=
  ACalls.mono (trim_calls hC hn) fun r H' ⟨h1, h2, _⟩ => ⟨by unfold CanP; rwa [topF_len hP] at h1, h2⟩


set_option maxHeartbeats 2000000 in
theorem GF_Scale_calls (hD : D.Small) (a : Int) {n : Nat} {P : Poly (El D)} {vx vy : AV} {H : AH} (hG : GFS D H vx) (hP : PolS H vy n P) (hn : n * 8 ≤ 281474976710656) :
    ACalls Try.prog n_GF_Scale [vx, I a, vy] H (fun r H' => ∃ id, r = .s id 0 n ∧ H id = none ∧ H' id = some ⟨tabN n (vals (C (el a) * P)), true, 1⟩ ∧ HLe H H') := by
  obtain ⟨l, hC, rfl, rfl⟩ := hP
  refine calls_of F_GF_Scale hmix (by show 3 ≤ 29; decide) ?_
  unfold s_GF_Scale
  have hln : (l.map I).length = l.length := List.length_map ..
  (refine stpU ?_; repeat (refine Al4.mk ?_; intro _ _ _ _; refine stpU ?_))
  refine mK (by_ := 8) (m := l.length) (l := l.length) (by exact congrArg I (congrArg Nat.cast hln)) (by exact congrArg I (congrArg Nat.cast hln)) (by omega) (by omega) (by omega) (by omega) ?_
  intro id hid
  rw [Int.toNat_natCast, tabN_rep]
  have hle : ∀ f : Nat → Nat, HLe H (upd H id ⟨tabN l.length f, true, 1⟩) := fun f => .upd_new hid _
  have hC1 := hC.mono (hle fun _ => 0)
  obtain ⟨f, hf⟩ : ∃ f : Nat → Nat, f = vals (C (el a) * (polL l : Poly (El D))) := ⟨_, rfl⟩
  rw [← hf]
  (refine stpU ?_; repeat (refine Al4.mk ?_; intro _ _ _ _; refine stpU ?_))
  refine W_loopF (X := Nat) (fun i => [(0, vx), (1, I a), (7, .s id 0 l.length), (13, vy), (14, I (l.length : Nat)), (15, I (i : Nat))]) (fun i => upd H id ⟨tabN l.length fun j => if j < i then f j else 0, true, 1⟩)
    (fun i => i ≤ l.length) (fun i => l.length - i) 0 (Nat.zero_le _) ⟨rfl, rfl, rfl, rfl, by rw [hln]; rfl, rfl, trivial⟩ (HLe.tabN fun j _ => if_neg (by omega)) ?_
  intro i hi
  by_cases hil : i < l.length
  · have hget : l[i]? = some l[i] := List.getElem?_eq_getElem (by omega)
    have hw : (l.map I)[i]? = some (I l[i]) := by rw [List.getElem?_map, hget]; rfl
    have hpc : (polL l : Poly (El D)).c i = el l[i] := polL_get hget
    have hC2 := hC.mono (hle fun j => if j < i then f j else 0)
    have hG2 := hG.mono (hle fun j => if j < i then f j else 0)
    generalize l[i] = c at *
    (refine stpU ?_; repeat (refine Al4.mk ?_; intro _ _ _ _; refine stpU ?_))
    refine cA (GF_Mul_calls hD a c hG2) ?_
    rintro _ H3 ⟨rfl, rfl⟩
    have hfi : f i = (el a * el c : El D).v := by rw [hf]; unfold vals; rw [C_mul_c, hpc]
    (refine stpU ?_; repeat (refine Al4.mk ?_; intro _ _ _ _; refine stpU ?_))
    refine sV (off := i) (v := I (f i)) rfl (upd_same _ _ _) (by rw [hfi]; rfl) rfl (by rw [tabN_len]; omega) ?_
    rw [tabN_set _ _ hil, upd_upd]
    (refine stpU ?_; repeat (refine Al4.mk ?_; intro _ _ _ _; refine stpU ?_))
    refine ⟨i + 1, by omega, by omega, ⟨rfl, rfl, rfl, rfl, rfl, rfl, trivial⟩, HLe.tabN fun j hj => ?_⟩
    by_cases e : j = i
    · subst e; rw [if_pos (by omega), if_pos rfl]
    · rw [if_neg e]
      by_cases h2 : j < i
      · rw [if_pos h2, if_pos (by omega)]
      · rw [if_neg h2, if_neg (by omega)]
  · (refine stpU ?_; repeat (refine Al4.mk ?_; intro _ _ _ _; refine stpU ?_))
    have hfull : tabN l.length (fun j => if j < i then f j else 0) = tabN l.length f := tabN_congr fun j hj => if_pos (by omega)
    rw [hfull]
    exact ⟨id, rfl, hid, upd_same _ _ _, hle _⟩


theorem Monic_calls (hD : D.Small) [Fld (El D)] {n : Nat} {P : Poly (El D)} {vx vy : AV} {H : AH} (hG : GFS D H vx) (hP : PolS H vy n P) (hn : n * 8 ≤ 281474976710656) :
    ACalls Try.prog n_poly_Monic [vx, vy] H (fun r H' => HLe H H' ∧ ((P = 0 ∧ r = .tu [.ns, I 7]) ∨ (P ≠ 0 ∧ ∃ id, r = .tu [.s id 0 (len P), I 0] ∧ CanP H' (.s id 0 (len P)) (monicP P)))) := by
  refine calls_of F_poly_Monic hmix (by show 2 ≤ 30; decide) ?_
  unfold s_poly_Monic
  (refine stpU ?_; repeat (refine Al4.mk ?_; intro _ _ _ _; refine stpU ?_))
  refine cA (Canon_calls hG hP hn) ?_
  rintro _ H2 ⟨hO, hl2⟩
  have hcan := hO.can
  obtain ⟨id, rfl, h1, h2, h3⟩ := hO
  replace hG := hG.mono hl2
  have hln := len_le hP.below
  by_cases h0 : P = 0
  · have hl0 : len P = 0 := by rw [h0, len_zero]
    (refine stpU ?_; repeat (refine Al4.mk ?_; intro _ _ _ _; refine stpU ?_))
    exact ⟨hl2, .inl ⟨h0, rfl⟩⟩
  have hpos := len_pos h0
  have hrd := (hcan.rd (tabN_get (vals P) (show len P - 1 < len P by omega))).2
  rw [Nat.zero_add] at hrd
  (refine stpU ?_; repeat (refine Al4.mk ?_; intro _ _ _ _; refine stpU ?_))
  refine cA (GF_Inv_calls hD _ hG) ?_
  rintro _ H3 ⟨hi, rfl⟩
  have e1 : (el (vals P (len P - 1) : Nat) : El D) = lead P := el_of _
  rw [e1] at hi
  rcases hi with ⟨hi, _⟩ | ⟨hi, rfl⟩
  · exact absurd hi (lead_ne h0)
  (refine stpU ?_; repeat (refine Al4.mk ?_; intro _ _ _ _; refine stpU ?_))
  refine cA (GF_Scale_calls hD (inv (lead P)).v hG hcan.pol (by omega)) ?_
  rintro _ H4 ⟨id2, rfl, hid2, ho2, hl4⟩
  (refine stpU ?_; repeat (refine Al4.mk ?_; intro _ _ _ _; refine stpU ?_))
  refine ⟨hl2.trans hl4, .inr ⟨h0, id2, rfl, ?_⟩⟩
  rw [el_of] at ho2
  have hown := Cs.own ho2
  rw [tabN_len] at hown
  unfold CanP monicP
  rw [len_C_mul (inv_lead_ne h0)]
  exact hown

end Go.Proofs.Ytdkdainipanacaa
