/- A drawn region: whatever order is drawn, one order told is enough. No condition. -/
import Derived.Test.YtpppkmeolknofaaB4
namespace Go.Proofs.Ytpppkmeolknofaa
open Go Go.RowKit
set_option linter.unusedSimpArgs false
set_option linter.unusedVariables false
set_option linter.constructorNameAsVariable false

def preds (o : Oper) : List Nat := o.after.toList.filterMap fun e => if Region.binds .any e then some e.on else none
def predsAt (ops : Array Oper) (i : Nat) : List Nat := ((ops[i]?).map preds).getD []

def pairOk (ops : Array Oper) (rs : List SOp) (T : Array Nat) : List Nat → Bool
  | [] => true
  | x :: l => l.all (fun y => !(Nat.beq x y) && !((predsAt ops x).contains y) && ((T.getD y 0).testBit x || (match rs[x]?, rs[y]? with | some rx, some ry => apart rx ry && mayFirst rx ry | _, _ => false))) && pairOk ops rs T l

def tabOk (ops : Array Oper) (T : Array Nat) : Bool :=
  (List.range ops.size).all fun y => (predsAt ops y).all (Nat.blt · y) &&
    (List.range ops.size).all fun x => !((T.getD y 0).testBit x) || (predsAt ops y).any (fun p => Nat.beq p x || (T.getD p 0).testBit x)

def okOrd (ops : Array Oper) (rs : List SOp) (l : List Nat) : Bool :=
  (List.range ops.size).all (fun i => l.contains i) && Nat.ble l.length ops.size && l.all (Nat.blt · ops.size) && tabOk ops (Region.before ops) && pairOk ops rs (Region.before ops) l

variable {P : Program} {g : Out}

theorem aopG_mono {pv : Bool} {r : SOp} {a : Nat → AV} {H : AH} {K K' : (Nat → AV) → AH → Prop} (hk : ∀ a H, K a H → K' a H) (h : aopG P pv r a H K) : aopG P pv r a H K' := avG_mono (fun _ _ k => hk _ _ k) h
theorem aopG_fin {pv : Bool} {r : SOp} {a : Nat → AV} {H : AH} (hf : Fin H) {K : (Nat → AV) → AH → Prop} (h : aopG P pv r a H K) : aopG P pv r a H (fun a' H' => Fin H' ∧ K a' H') := avG_fin hf h

theorem bubble {rs : List SOp} {i : Nat} {ri : SOp} (hri : rs[i]? = some ri) {K : (Nat → AV) → AH → Prop} {c2 : List Nat} : ∀ (c1 : List Nat) (a : Nat → AV) (H : AH), Fin H →
    (∀ x ∈ c1, ∃ rx, rs[x]? = some rx ∧ apart rx ri = true ∧ mayFirst rx ri = true) → aops P true rs (c1 ++ i :: c2) a H K → aops P true rs (i :: (c1 ++ c2)) a H K
  | [], a, H, _, _, h => h
  | x :: c1, a, H, hf, hx, h => by
    obtain ⟨rx, hrx, h1, h2⟩ := hx x (by simp)
    simp only [List.cons_append, aops, hrx] at h
    simp only [List.cons_append, aops, hri, hrx]
    refine swap h1 h2 hf ?_
    refine aopG_mono (fun a' H' k => ?_) (aopG_fin hf h)
    have := bubble hri c1 a' H' k.1 (fun y hy => hx y (by simp [hy])) k.2
    simpa only [aops, hri] using this

theorem mem_ready {ops : Array Oper} {listed : Array Bool} {i : Nat} : i ∈ Region.ready .any ops listed ↔ i < ops.size ∧ listed.getD i true = false ∧ ∀ p ∈ predsAt ops i, listed.getD p false = true := by
  unfold Region.ready
  simp only [List.mem_filter, List.mem_range, Bool.and_eq_true, Bool.not_eq_true']
  constructor
  · rintro ⟨h1, h2, h3⟩
    refine ⟨h1, h2, fun p hp => ?_⟩
    have ho : ops[i]? = some ops[i] := by simp [h1]
    simp only [predsAt, ho, Option.map_some, Option.getD_some, preds, List.mem_filterMap] at hp
    simp only [ho, Option.map_some, Option.getD_some] at h3
    obtain ⟨e, he, hp⟩ := hp
    have := (Array.all_eq_true_iff_forall_mem.mp h3) e (by simpa using he)
    split at hp
    · rename_i hb
      obtain rfl := Option.some.inj hp
      simpa [hb] using this
    · cases hp
  · rintro ⟨h1, h2, h3⟩
    refine ⟨h1, h2, ?_⟩
    have ho : ops[i]? = some ops[i] := by simp [h1]
    simp only [ho, Option.map_some, Option.getD_some]
    refine Array.all_eq_true_iff_forall_mem.mpr fun e he => ?_
    by_cases hb : Region.binds .any e = true
    · have := h3 e.on (by
        simp only [predsAt, ho, Option.map_some, Option.getD_some, preds, List.mem_filterMap]
        exact ⟨e, by simpa using he, by simp [hb]⟩)
      simp [this]
    · simp [Bool.not_eq_true] at hb
      simp [hb]

theorem anc_listed {ops : Array Oper} {T : Array Nat} (hT : tabOk ops T = true) {listed : Array Bool} (hcl : ∀ i, i < ops.size → listed.getD i true = true → ∀ p ∈ predsAt ops i, listed.getD p false = true) (hsz : listed.size = ops.size) :
    ∀ (n i : Nat), i < n → i < ops.size → (∀ p ∈ predsAt ops i, listed.getD p false = true) → ∀ x, x < ops.size → (T.getD i 0).testBit x = true → listed.getD x false = true
  | 0, i, h, _, _, _, _, _ => by omega
  | n + 1, i, hin, hi, hp, x, hx, hb => by
    unfold tabOk at hT
    have h1 := (List.all_eq_true.mp hT) i (List.mem_range.mpr hi)
    simp only [Bool.and_eq_true, List.all_eq_true] at h1
    have h2 := h1.2 x (List.mem_range.mpr hx)
    rw [hb] at h2
    simp only [Bool.not_true, Bool.false_or, List.any_eq_true, Bool.or_eq_true] at h2
    obtain ⟨p, hpm, hpx⟩ := h2
    have hpi : p < i := by simpa using h1.1 p hpm
    rcases hpx with e | e
    · have := Nat.eq_of_beq_eq_true e
      subst this
      exact hp _ hpm
    · refine anc_listed (by unfold tabOk; exact hT) hcl hsz n p (by omega) (by omega) (hcl p (by omega) ?_) x hx e
      have := hp p hpm
      have hps : p < listed.size := by omega
      simp only [Array.getD, hps, dif_pos] at this ⊢
      exact this

def PairR (ops : Array Oper) (rs : List SOp) (T : Array Nat) (x y : Nat) : Prop :=
  x ≠ y ∧ y ∉ predsAt ops x ∧ ((T.getD y 0).testBit x = true ∨ ∃ rx ry, rs[x]? = some rx ∧ rs[y]? = some ry ∧ apart rx ry = true ∧ mayFirst rx ry = true)

theorem pairOk_pw {ops : Array Oper} {rs : List SOp} {T : Array Nat} : ∀ {l : List Nat}, pairOk ops rs T l = true → List.Pairwise (PairR ops rs T) l
  | [], _ => .nil
  | x :: l, h => by
    simp only [pairOk, Bool.and_eq_true, List.all_eq_true] at h
    refine .cons (fun y hy => ?_) (pairOk_pw h.2)
    obtain ⟨⟨h1, h2⟩, h3⟩ := h.1 y hy
    refine ⟨fun e => by subst e; simp [beq_self] at h1, by simpa using h2, ?_⟩
    simp only [Bool.or_eq_true] at h3
    rcases h3 with h3 | h3
    · exact .inl h3
    · cases hx : rs[x]? with
      | none => rw [hx] at h3; cases h3
      | some rx =>
        cases hy' : rs[y]? with
        | none => rw [hx, hy'] at h3; cases h3
        | some ry =>
          rw [hx, hy'] at h3
          simp only [Bool.and_eq_true] at h3
          exact .inr ⟨rx, ry, rfl, rfl, h3.1, h3.2⟩

theorem getD_flip {l : Array Bool} {i : Nat} (h : i < l.size) : l.getD i true = l.getD i false := by simp [Array.getD, h]

theorem any_sound {ops : Array Oper} {rs : List SOp} (htr : trL P ops ops.toList = some rs) {n : Nat} (hn : rs.all (sopIn n) = true) (hT : tabOk ops (Region.before ops) = true) {Q : Exit → (Nat → AV) → AH → Prop} :
    ∀ (fuel : Nat) (c : List Nat) (listed : Array Bool) (m : AMap) (H HT : AH) (w : World) (a : Nat → AV) (act : Act), c.length ≤ fuel → listed.size = ops.size → (∀ i, i < ops.size → (i ∈ c ↔ listed.getD i true = false)) → (∀ i ∈ c, i < ops.size) →
      (∀ i, i < ops.size → listed.getD i true = true → ∀ p ∈ predsAt ops i, listed.getD p false = true) → List.Pairwise (PairR ops rs (Region.before ops)) c →
      SR n m a act.tmps → act.defers = [] → HLe H HT → Rel m HT g w → aops P true rs c a H (Q .normal) → ∀ m0 H0 HT0, Stp m0 H0 HT0 m H HT → wpAny P .any ops (Lft n m0 H0 HT0 g Q) fuel listed act w := by
  have hpl : ∀ i, i < ops.size → ∀ p ∈ predsAt ops i, p < i := by
    intro i hi p hp
    unfold tabOk at hT
    have h1 := (List.all_eq_true.mp hT) i (List.mem_range.mpr hi)
    simp only [Bool.and_eq_true, List.all_eq_true] at h1
    simpa using h1.1 p hp
  have empty : ∀ (listed : Array Bool), (∀ i, i < ops.size → (i ∈ ([] : List Nat) ↔ listed.getD i true = false)) → Region.ready .any ops listed = [] := by
    intro listed h
    rw [List.eq_nil_iff_forall_not_mem]
    intro i hi
    obtain ⟨h1, h2, _⟩ := mem_ready.mp hi
    exact absurd ((h i h1).mpr h2) (by simp)
  intro fuel
  induction fuel with
  | zero =>
    intro c listed m H HT w a act hlen hsz hiff hlt hcl hpw hS hd hl hR h m0 H0 HT0 hst
    have hc : c = [] := List.eq_nil_of_length_eq_zero (by omega)
    subst hc
    exact ⟨empty listed hiff, m, H, HT, a, hst, hR, hS, hd, h⟩
  | succ fuel ih =>
    intro c listed m H HT w a act hlen hsz hiff hlt hcl hpw hS hd hl hR h m0 H0 HT0 hst
    refine ⟨fun hr => ?_, fun i hi => ?_⟩
    · cases c with
      | nil => exact ⟨m, H, HT, a, hst, hR, hS, hd, h⟩
      | cons x t =>
        exfalso
        have hx := hlt x (by simp)
        have : x ∈ Region.ready .any ops listed := mem_ready.mpr ⟨hx, (hiff x hx).mp (by simp), fun p hp => by
          have hpx := hpl x hx p hp
          cases hq : listed.getD p false with
          | true => rfl
          | false =>
            exfalso
            rw [← getD_flip (by omega)] at hq
            have hpc := (hiff p (by omega)).mpr hq
            rcases List.mem_cons.mp hpc with e | hpt
            · omega
            · exact ((List.pairwise_cons.mp hpw).1 p hpt).2.1 hp⟩
        rw [hr] at this
        cases this
    · obtain ⟨hi1, hi2, hi3⟩ := mem_ready.mp hi
      have hic := (hiff i hi1).mpr hi2
      obtain ⟨c1, c2, rfl⟩ := List.append_of_mem hic
      have hlen' : rs.length = ops.size := by rw [(trL_get htr).1]; simp
      have hri : rs[i]? = some rs[i] := by simp [hlen', hi1]
      obtain ⟨pw1, pw2, pw3⟩ := List.pairwise_append.mp hpw
      have hx : ∀ x ∈ c1, ∃ rx, rs[x]? = some rx ∧ apart rx rs[i] = true ∧ mayFirst rx rs[i] = true := by
        intro x hxc
        obtain ⟨_, _, h3⟩ := pw3 x hxc i (by simp)
        rcases h3 with h3 | ⟨rx, ry, e1, e2, e3, e4⟩
        · exfalso
          have hxl := hlt x (by simp [hxc])
          have hl2 := anc_listed hT hcl hsz (i + 1) i (by omega) hi1 hi3 x hxl h3
          have hl3 := (hiff x hxl).mp (by simp [hxc])
          rw [getD_flip (by omega), hl2] at hl3
          cases hl3
        · rw [hri] at e2
          obtain rfl := Option.some.inj e2
          exact ⟨rx, e1, e3, e4⟩
      have hb := bubble hri c1 a H (hR.fin' hl) hx h
      simp only [aops, hri] at hb
      obtain ⟨o, ho, hto⟩ := (trL_get htr).2 i rs[i] hri
      have hio : ops[i]? = some o := by simpa using ho
      refine wpOp_mono (fun act' w' hgot => ?_) (aopG_sound hio hto ((List.all_eq_true.mp hn) _ (List.mem_of_getElem? hri)) hS hd hl hR hb)
      obtain ⟨m', H', HT', a', h1, h2, h3, h4, h5⟩ := hgot
      have hni : ∀ z ∈ c1 ++ c2, z ≠ i := by
        intro z hz e
        subst e
        rcases List.mem_append.mp hz with hz | hz
        · exact (pw3 z hz z (by simp)).1 rfl
        · exact ((List.pairwise_cons.mp pw2).1 z hz).1 rfl
      have hget : ∀ j d, j ≠ i → (listed.setIfInBounds i true).getD j d = listed.getD j d := by
        intro j d hj
        simp only [Array.getD_eq_getD_getElem?]
        rw [Array.getElem?_setIfInBounds_ne (Ne.symm hj)]
      have hgeti : ∀ d, (listed.setIfInBounds i true).getD i d = true := by
        intro d
        simp only [Array.getD_eq_getD_getElem?]
        rw [Array.getElem?_setIfInBounds_self]
        simp [hsz, hi1]
      refine ih (c1 ++ c2) _ m' H' HT' w' a' act' (by simp at hlen ⊢; omega) (by simpa using hsz) ?_ (fun z hz => hlt z (by simp at hz ⊢; rcases hz with hz | hz <;> simp [hz])) ?_ ?_ h3 h4 h1.sub h2 h5 m0 H0 HT0 (hst.trans h1)
      · intro j hj
        by_cases e : j = i
        · subst e
          rw [hgeti]
          simp only [Bool.true_eq_false, iff_false]
          exact fun hz => hni j hz rfl
        · rw [hget j true e, ← hiff j hj]
          simp [e]
      · intro j hj hjl p hp
        by_cases e : j = i
        · subst e
          have hpi := hpl j hj p hp
          rw [hget p false (by omega)]
          exact hi3 p hp
        · rw [hget j true e] at hjl
          by_cases e' : p = i
          · subst e'; exact hgeti _
          · rw [hget p false e']
            exact hcl j hj hjl p hp
      · refine List.pairwise_append.mpr ⟨pw1, (List.pairwise_cons.mp pw2).2, fun x hx y hy => pw3 x hx y (by simp [hy])⟩

end Go.Proofs.Ytpppkmeolknofaa
