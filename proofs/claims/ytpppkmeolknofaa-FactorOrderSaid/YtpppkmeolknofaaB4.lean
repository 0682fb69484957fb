/- Two operations that stand in no order give the same in either. No condition. -/
import Derived.Test.YtpppkmeolknofaaB3
namespace Go.Proofs.Ytpppkmeolknofaa
open Go Go.RowKit
set_option linter.unusedSimpArgs false
set_option linter.unusedVariables false
set_option linter.constructorNameAsVariable false

def Fin (H : AH) : Prop := ∃ N, ∀ id, N ≤ id → H id = none

theorem Fin.upd {H : AH} (h : Fin H) (id : Nat) (ob : AObj) : Fin (upd H id ob) := by
  obtain ⟨N, hN⟩ := h
  refine ⟨max N (id + 1), fun j hj => ?_⟩
  rw [upd_ne _ _ (by omega)]
  exact hN j (by omega)
theorem Fin.del {H : AH} (h : Fin H) (id : Nat) : Fin (del H id) := by
  obtain ⟨N, hN⟩ := h
  refine ⟨N, fun j hj => ?_⟩
  by_cases q : j = id
  · subst q; exact del_same _ _
  · rw [del_ne _ q]; exact hN j hj
theorem Rel.fin' {m : AMap} {H HT : AH} {g : Out} {w : World} (h : Rel m HT g w) (hl : HLe H HT) : Fin H := by
  obtain ⟨N, hN⟩ := h.fin
  refine ⟨N, fun id hid => ?_⟩
  cases hh : H id with
  | none => rfl
  | some ob =>
    obtain ⟨e, he, _⟩ := h.live id ob (hl _ _ hh)
    rw [hN id hid] at he
    cases he

theorem ACalls.fin {P : Program} {f : FuncId} {args : List AV} {H : AH} {R : AV → AH → Prop} (h : ACalls P f args H R) : ACalls P f args H (fun x H' => Fin H' ∧ R x H') :=
  ⟨h.1, fun m HT g w vs a b c => (h.2 m HT g w vs a b c).mono fun e w' ⟨v, x, m', H', HT', h1, h2, h3, h4, h5⟩ => ⟨v, x, m', H', HT', h1, h2, h3, h4, h4.fin' h3.sub, h5⟩⟩

theorem astepV_fin {P : Program} {pv : Bool} {o : SO} {a : Nat → AV} {H : AH} (hf : Fin H) {V : AV → AH → Prop} (h : astepV P pv o a H V) : astepV P pv o a H (fun v H' => Fin H' ∧ V v H') := by
  by_cases hp : o.cl = .pure
  · have n1 : o.cl ≠ .ap := by rw [hp]; decide
    have n2 : o.cl ≠ .call := by rw [hp]; decide
    obtain ⟨v, h1, h2⟩ := aop_pure hp ((astepV_aop n1 n2 a H V).mp h)
    exact (astepV_aop n1 n2 a H _).mpr (h1 H _ ⟨hf, h2⟩)
  · by_cases hq : o.cl = .load
    · have n1 : o.cl ≠ .ap := by rw [hq]; decide
      have n2 : o.cl ≠ .call := by rw [hq]; decide
      obtain ⟨v, h1, h2⟩ := aop_load hq ((astepV_aop n1 n2 a H V).mp h)
      exact (astepV_aop n1 n2 a H _).mpr (h1 H _ (.refl H) ⟨hf, h2⟩)
    · by_cases hr : o.cl = .fal ∨ o.cl = .alloc
      · have n1 : o.cl ≠ .ap := by rcases hr with e | e <;> rw [e] <;> decide
        have n2 : o.cl ≠ .call := by rcases hr with e | e <;> rw [e] <;> decide
        obtain ⟨f, ob, h1, h2⟩ := aop_alloc hr ((astepV_aop n1 n2 a H V).mp h)
        exact (astepV_aop n1 n2 a H _).mpr (h2 H _ (fun id hid => ⟨hf.upd id ob, h1 id hid⟩))
      · cases o <;> first | (simp [SO.cl] at hp; done) | (simp [SO.cl] at hq; done) | (simp [SO.cl] at hr; done) | skip
        case st n x v => obtain ⟨id, off, ob, cs, e1, e2, e3, e4, e5, e6, k⟩ := h; exact ⟨id, off, ob, cs, e1, e2, e3, e4, e5, e6, hf.upd _ _, k⟩
        case cp x y => obtain ⟨id, off, len, ob, k, news, e1, e2, e3, e4, e5, e6, kk⟩ := h; exact ⟨id, off, len, ob, k, news, e1, e2, e3, e4, e5, e6, hf.upd _ _, kk⟩
        case ap sz bytes x y =>
          obtain ⟨k, news, e1, e2⟩ := h
          refine ⟨k, news, e1, ?_⟩
          rcases e2 with ⟨a1, a2, a3⟩ | ⟨id, off, len, ob, a1, a2, a3, a4, a5, a6, a7, a8⟩
          · exact .inl ⟨a1, fun q => ⟨(a2 q).1, hf, (a2 q).2⟩, fun q => ⟨(a3 q).1, (a3 q).2.1, fun id hid => ⟨((a3 q).2.2 id hid).1, hf.upd _ _, ((a3 q).2.2 id hid).2⟩⟩⟩
          · exact .inr ⟨id, off, len, ob, a1, a2, a3, a4, a5, a6, a7, fun id' hid' => ⟨(a8 id' hid').1, (hf.del _).upd _ _, (a8 id' hid').2⟩⟩
        case ca f args => exact ACalls.mono (ACalls.fin h) fun x H' hh => ⟨hh.2.1, hh.1, hh.2.2⟩

theorem avG_fin {P : Program} {pv : Bool} {r : SOp} {a : Nat → AV} {H : AH} (hf : Fin H) {V : AV → AH → Prop} (h : avG P pv r a H V) : avG P pv r a H (fun v H' => Fin H' ∧ V v H') := by
  unfold avG at h ⊢
  split at h
  · exact astepV_fin hf h
  · obtain ⟨t, e, h1, h2⟩ := h
    exact ⟨t, e, fun q => astepV_fin hf (h1 q), fun q => ⟨hf, h2 q⟩⟩

/-- the one writes no slot that the other looks at or writes -/
def apart (x y : SOp) : Bool :=
  (match x.dst with | some d => !(y.looks.contains d) && (match y.dst with | some e => !(Nat.beq d e) | none => true) | none => true) &&
  (match y.dst with | some e => !(x.looks.contains e) | none => true)

theorem put_other {a : Nat → AV} {d t : Nat} {v : AV} (h : t ≠ d) : put a d v t = a t := by simp [put, beq_ne h]

theorem apart_spec {x y : SOp} (h : apart x y = true) : (∀ a v, ∀ t ∈ y.looks, putD a x.dst v t = a t) ∧ (∀ a v, ∀ t ∈ x.looks, putD a y.dst v t = a t) ∧ (∀ a v u, putD (putD a x.dst v) y.dst u = putD (putD a y.dst u) x.dst v) := by
  unfold apart at h
  simp only [Bool.and_eq_true] at h
  obtain ⟨h1, h2⟩ := h
  have look : ∀ {z : SOp} {d : Nat}, (!(z.looks.contains d)) = true → ∀ t ∈ z.looks, t ≠ d := by
    intro z d hz t ht e
    subst e
    simp at hz
    exact hz ht
  refine ⟨?_, ?_, ?_⟩
  · intro a v t ht
    cases hx : x.dst with
    | none => rfl
    | some d =>
      rw [hx] at h1
      simp only [Bool.and_eq_true] at h1
      exact put_other (look h1.1 t ht)
  · intro a v t ht
    cases hy : y.dst with
    | none => rfl
    | some e =>
      rw [hy] at h2
      exact put_other (look h2 t ht)
  · intro a v u
    cases hx : x.dst with
    | none => rfl
    | some d =>
      cases hy : y.dst with
      | none => rfl
      | some e =>
        rw [hx, hy] at h1
        simp only [Bool.and_eq_true] at h1
        have hne : d ≠ e := fun q => by subst q; simp [beq_self] at h1
        funext t
        show put (put a d v) e u t = put (put a e u) d v t
        simp only [put]
        by_cases q1 : t = d
        · subst q1; rw [beq_self, beq_ne hne]; rfl
        · by_cases q2 : t = e
          · subst q2; rw [beq_self, beq_ne q1]; rfl
          · rw [beq_ne q1, beq_ne q2]; rfl

def mayFirst (x y : SOp) : Bool :=
  match x.op.cl, y.op.cl with
  | .pure, _ => true
  | .load, .loud => false
  | .load, _ => true
  | .ap, .fal | .ap, .alloc => x.grd.isNone && y.grd.isNone
  | .call, .fal => x.grd.isNone && y.grd.isNone
  | .fal, .fal | .fal, .alloc | .alloc, .fal | .alloc, .alloc => x.grd.isNone && y.grd.isNone
  | _, _ => false

theorem upd_comm {α : Type} (H : Nat → Option α) {i j : Nat} (h : i ≠ j) (x y : α) : upd (upd H i x) j y = upd (upd H j y) i x := by
  funext t
  by_cases q : t = i
  · subst q; rw [upd_ne _ _ h, upd_same, upd_same]
  · by_cases q' : t = j
    · subst q'; rw [upd_same, upd_ne _ _ q, upd_same]
    · rw [upd_ne _ _ q', upd_ne _ _ q, upd_ne _ _ q, upd_ne _ _ q']

theorem upd_none {α : Type} {H : Nat → Option α} {i j : Nat} {x : α} (h : upd H i x j = none) : j ≠ i ∧ H j = none := by
  have q : j ≠ i := fun q => by rw [q, upd_same] at h; cases h
  rw [upd_ne _ _ q] at h
  exact ⟨q, h⟩

theorem src_le {H H' : AH} (hl : HLe H H') {sz : Nat} {x : AV} {r : Nat × List AV} (h : src H sz x = some r) : src H' sz x = some r := by
  cases x <;> simp only [src] at h ⊢ <;> try exact h
  rename_i id off len
  cases ho : H id with
  | none => rw [ho] at h; cases h
  | some ob => rw [ho] at h; rw [hl _ _ ho]; exact h

theorem swap {P : Program} {x y : SOp} (hap : apart x y = true) (hm : mayFirst x y = true) {a : Nat → AV} {H : AH} (hf : Fin H) {K : (Nat → AV) → AH → Prop}
    (h : aopG P true x a H (fun a1 H1 => aopG P true y a1 H1 K)) : aopG P true y a H (fun a1 H1 => aopG P true x a1 H1 K) := by
  obtain ⟨s1, s2, s3⟩ := apart_spec hap
  unfold aopG at h ⊢
  by_cases hdet : x.op.cl = .pure ∨ x.op.cl = .load
  · obtain ⟨v, h1, h2⟩ := avG_det hdet h
    have h3 := avG_congr (b := a) (s1 a v) h2
    have h4 : avG P true y a H (fun u H2 => (x.op.cl = .load → HLe H H2) ∧ K (putD (putD a x.dst v) y.dst u) H2) := by
      rcases hdet with hp | hq
      · exact avG_mono (fun u H2 k => ⟨fun e => (by rw [hp] at e; cases e), k⟩) h3
      · have hny : y.op.cl ≠ .loud := fun e => by simp [mayFirst, hq, e] at hm
        exact avG_mono (fun u H2 k => ⟨fun _ => k.1, k.2⟩) (avG_keeps hny h3)
    refine avG_mono (fun u H2 k => ?_) h4
    refine avG_congr (a := a) (fun t ht => (s2 a u t ht).symm) ?_
    refine h1 H2 _ k.1 ?_
    rw [← s3]
    exact k.2
  · -- x allocates, appends or calls; y allocates; neither is guarded
    have hcl : (x.op.cl = .ap ∧ (y.op.cl = .fal ∨ y.op.cl = .alloc)) ∨ (x.op.cl = .call ∧ y.op.cl = .fal) ∨ ((x.op.cl = .fal ∨ x.op.cl = .alloc) ∧ (y.op.cl = .fal ∨ y.op.cl = .alloc)) := by
      revert hm hdet
      unfold mayFirst
      cases x.op.cl <;> cases y.op.cl <;> simp
    have hg : x.grd = none ∧ y.grd = none := by
      have : (x.grd.isNone && y.grd.isNone) = true := by
        revert hm
        unfold mayFirst
        rcases hcl with ⟨e1, e2 | e2⟩ | ⟨e1, e2⟩ | ⟨e1 | e1, e2 | e2⟩ <;> rw [e1, e2] <;> exact id
      simpa using this
    have un : ∀ (r : SOp) (b : Nat → AV) (G : AH) (V : AV → AH → Prop), r.grd = none → (avG P true r b G V ↔ astepV P true r.op b G V) := by
      intro r b G V hr
      unfold avG
      rw [hr]
    rw [un x _ _ _ hg.1] at h
    rw [un y _ _ _ hg.2]
    have ycl : y.op.cl ≠ .ap ∧ y.op.cl ≠ .call := by
      rcases hcl with ⟨_, e | e⟩ | ⟨_, e⟩ | ⟨_, e | e⟩ <;> rw [e] <;> decide
    have hyal : y.op.cl = .fal ∨ y.op.cl = .alloc := by
      rcases hcl with ⟨_, e⟩ | ⟨_, e⟩ | ⟨_, e⟩
      · exact e
      · exact .inl e
      · exact e
    have ycong : ∀ v H1 V1, avG P true y (putD a x.dst v) H1 V1 → aop y.op a H1 V1 := by
      intro v H1 V1 hh
      have h1 := avG_congr (b := a) (s1 a v) hh
      rw [un y _ _ _ hg.2] at h1
      exact (astepV_aop ycl.1 ycl.2 _ _ _).mp h1
    have ycong' : ∀ v H1 V1, aop y.op a H1 V1 → avG P true y (putD a x.dst v) H1 V1 := by
      intro v H1 V1 hh
      refine avG_congr (a := a) (fun t ht => (s1 a v t ht).symm) ?_
      rw [un y _ _ _ hg.2]
      exact (astepV_aop ycl.1 ycl.2 _ _ _).mpr hh
    have xcong : ∀ v H1 V1, astepV P true x.op a H1 V1 → avG P true x (putD a y.dst v) H1 V1 := by
      intro v H1 V1 hh
      refine avG_congr (a := a) (fun t ht => (s2 a v t ht).symm) ?_
      rw [un x _ _ _ hg.1]
      exact hh
    rcases hcl with ⟨hx, _⟩ | ⟨hx, hy⟩ | ⟨hx, _⟩
    · -- append, then allocation
      obtain ⟨dstx, opx, grdx⟩ := x
      simp only at *
      cases opx <;> first | (simp [SO.cl] at hx; done) | skip
      rename_i sz bytes sx sy
      obtain ⟨k, news, e1, e2⟩ := h
      obtain ⟨N, hN⟩ := hf
      rcases e2 with ⟨a1, a2, a3⟩ | ⟨id, off, len, ob, a1, a2, a3, a4, a5, a6, a7, a8⟩
      · obtain ⟨f, ob, hiff⟩ : ∃ (f : Nat → AV) (ob : AObj), ∀ H' V', aop y.op a H' V' ↔ (∀ id, H' id = none → V' (f id) (upd H' id ob)) := by
          rcases Nat.eq_zero_or_pos k with q | q
          · exact aop_alloc_iff hyal (ycong _ _ _ (a2 q).2)
          · exact aop_alloc_iff hyal (ycong _ _ _ ((a3 q).2.2 N (hN N (Nat.le_refl _))).2)
        refine (astepV_aop ycl.1 ycl.2 _ _ _).mpr ((hiff _ _).mpr fun id2 hid2 => ?_)
        refine xcong _ _ _ ⟨k, news, src_le (.upd_new hid2 ob) e1, .inl ⟨a1, fun q => ⟨fun _ => .refl _, ?_⟩, fun q => ⟨(a3 q).1, (a3 q).2.1, fun id hid => ⟨fun _ => .upd_new hid _, ?_⟩⟩⟩⟩
        · have := (hiff _ _).mp (ycong _ _ _ (a2 q).2) id2 hid2
          show K _ _
          rw [← s3]
          exact this
        · obtain ⟨hne, hid'⟩ := upd_none hid
          have hid2' : upd H id ⟨news, true, sz⟩ id2 = none := by rw [upd_ne _ _ (Ne.symm hne)]; exact hid2
          have := (hiff _ _).mp (ycong _ _ _ ((a3 q).2.2 id hid').2) id2 hid2'
          show K _ _
          rw [← s3, upd_comm _ (Ne.symm hne)]
          exact this
      · exfalso
        have hle := (a8 N (hN N (Nat.le_refl _))).1 rfl
        have hne : id ≠ N := fun q => by rw [q, hN N (Nat.le_refl _)] at a2; cases a2
        have := hle id ob a2
        rw [upd_ne _ _ hne, del_same] at this
        cases this
    · obtain ⟨dstx, opx, grdx⟩ := x
      simp only at *
      cases opx <;> first | (simp [SO.cl] at hx; done) | skip
      rename_i fid args
      obtain ⟨f, ob, hiff⟩ := aop_fal hy a
      refine (astepV_aop ycl.1 ycl.2 _ _ _).mpr ((hiff _ _).mpr fun id2 hid2 => ?_)
      refine xcong _ _ _ ?_
      refine ACalls.mono (ACalls.frame h hid2 ob) ?_
      rintro v H'' ⟨H', hH', rfl, hle, hy'⟩
      refine ⟨fun _ => ?_, ?_⟩
      · intro j o hj
        by_cases q : j = id2
        · subst q; rw [upd_same] at hj ⊢; exact hj
        · rw [upd_ne _ _ q] at hj ⊢; exact hle rfl _ _ hj
      · have := (hiff _ _).mp (ycong _ _ _ hy') id2 hH'
        show K _ _
        rw [← s3]
        exact this
    · have xcl : x.op.cl ≠ .ap ∧ x.op.cl ≠ .call := by rcases hx with e | e <;> rw [e] <;> decide
      have h' := (astepV_aop xcl.1 xcl.2 _ _ _).mp h
      obtain ⟨fx, obx, hix⟩ := aop_alloc_iff hx h'
      have h2 := (hix _ _).mp h'
      obtain ⟨N, hN⟩ := hf
      obtain ⟨f, ob, hiff⟩ := aop_alloc_iff hyal (ycong _ _ _ (h2 N (hN N (Nat.le_refl _))))
      refine (astepV_aop ycl.1 ycl.2 _ _ _).mpr ((hiff _ _).mpr fun id2 hid2 => ?_)
      refine xcong _ _ _ ((astepV_aop xcl.1 xcl.2 _ _ _).mpr ((hix _ _).mpr fun id hid => ?_))
      obtain ⟨hne, hid'⟩ := upd_none hid
      have hid2' : upd H id obx id2 = none := by rw [upd_ne _ _ (Ne.symm hne)]; exact hid2
      have := (hiff _ _).mp (ycong _ _ _ (h2 id hid')) id2 hid2'
      show K _ _
      rw [← s3, upd_comm _ (Ne.symm hne)]
      exact this

end Go.Proofs.Ytpppkmeolknofaa
