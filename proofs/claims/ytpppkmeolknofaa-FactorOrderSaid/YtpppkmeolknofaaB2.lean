/- One operation, and regions in the text's order. No condition. -/
import Derived.Test.YtpppkmeolknofaaB1
namespace Go.Proofs.Ytpppkmeolknofaa
open Go Go.RowKit
set_option linter.unusedSimpArgs false
set_option linter.unusedVariables false

variable {P : Program} {m : AMap} {H HT : AH} {g : Out} {w : World}

theorem put_defers (act : Act) (d : Option Tmp) (v : Value) : (act.put d v).defers = act.defers := by cases d <;> rfl

theorem astep_sound {o : Oper} {r : SOp} (htr : trO P o = some r.op) (hdst : r.dst = o.dst) {n : Nat} (hn : ∀ x ∈ r.op.svs, opIn n x = true) {pv : Bool} {a : Nat → AV} {act : Act} (hS : SR n m a act.tmps) (hd : act.defers = [])
    (hl : HLe H HT) (hR : Rel m HT g w) {K : (Nat → AV) → AH → Prop} {Q : Exit → Act → World → Prop} (h : astepV P pv r.op a H (fun v H' => K (putD a r.dst v) H')) : o.wp P act w (Got n m H HT g K) Q := by
  have plain : (∀ f args, r.op ≠ .ca f args) → aop r.op a H (fun v H' => K (putD a r.dst v) H') → o.wp P act w (Got n m H HT g K) Q := by
    intro _ h
    obtain ⟨x, v, w', m', H', HT', hrun, hv, hst, hR', hK⟩ := aop_sound htr hn hS hl hR h
    have fin : Got n m H HT g K (act.put o.dst v) w' := ⟨m', H', HT', _, hst, hR', by rw [← hdst]; exact (hS.mono hst.mle).put hv, by rw [put_defers]; exact hd, hK⟩
    unfold Oper.wp
    rcases hrun with hrun | ⟨hrun, rfl⟩ <;> rw [hrun] <;> exact fin
  unfold astepV at h
  split at h
  · rename_i f args hop
    obtain ⟨⟨fn, hfn, hname, hbody⟩, hc⟩ := h
    rw [hop] at htr
    obtain ⟨as, ts, ho, hoL⟩ := trO_ca htr
    have hvs := oL_rel hS hoL (fun x hx => hn x (by rw [hop]; exact hx))
    have hc' := hc m HT g w _ hl hR hvs
    have hargs : (as.toList.map act.eval).toArray = as.map act.eval := by apply Array.ext'; simp
    have hrun : (execOp act.eval o).run P w = .ok (.enter f (as.map act.eval)) w := by
      simp [execOp, ho, resolve, Deferred.ofValue, invoke, callFunc, hfn, hname, hbody, Act.eval]
    unfold Oper.wp
    rw [hrun]
    rw [hargs] at hc'
    refine hc'.mono ?_
    rintro e w' ⟨v, x, m', H', HT', rfl, hv, hst, hR', _, hK⟩
    exact ⟨m', H', HT', _, hst, hR', by rw [← hdst]; exact (hS.mono hst.mle).put hv, by rw [put_defers]; exact hd, hK⟩
  · rename_i sz bytes x y hop
    refine plain (fun f args e => by rw [hop] at e; cases e) ?_
    rw [hop]
    obtain ⟨k, news, h1, h2⟩ := h
    refine ⟨k, news, h1, ?_⟩
    rcases h2 with ⟨a1, a2, a3⟩ | ⟨id, off, len, ob, a1, a2, a3, a4, a5, a6, a7, a8⟩
    · exact .inl ⟨a1, fun e => (a2 e).2, fun e => ⟨(a3 e).1, (a3 e).2.1, fun id hid => ((a3 e).2.2 id hid).2⟩⟩
    · exact .inr ⟨id, off, len, ob, a1, a2, a3, a4, a5, a6, a7, fun id' hid' => (a8 id' hid').2⟩
  · rename_i hne _
    exact plain hne h

theorem yielded_get {ops : Array Oper} {ts : Array Value} {j d : Nat} (h : (ops[j]?).bind (·.dst) = some d) : yielded ops ts j = (match (some d).bind (ts[·]?) with | some (.bool b) => some b | _ => none) := by
  unfold yielded
  rw [h]
  rfl

theorem aopG_sound {ops : Array Oper} {i : Nat} {o : Oper} {r : SOp} (hi : ops[i]? = some o) (htr : trOp P ops o = some r) {n : Nat} (hn : sopIn n r = true) {pv : Bool} {a : Nat → AV} {act : Act} (hS : SR n m a act.tmps) (hd : act.defers = [])
    (hl : HLe H HT) (hR : Rel m HT g w) {K : (Nat → AV) → AH → Prop} {Q : Exit → Act → World → Prop} (h : aopG P pv r a H K) : wpOp P ops Q i (Got n m H HT g K) act w := by
  simp only [sopIn, Bool.and_eq_true, List.all_eq_true] at hn
  unfold trOp at htr
  cases ht : trO P o with
  | none => rw [ht] at htr; cases htr
  | some so =>
    rw [ht] at htr
    simp only at htr
    unfold wpOp
    simp only [hi]
    cases hg : o.guard with
    | none =>
      rw [hg] at htr
      obtain rfl := Option.some.inj htr
      have hw : Region.wanted o (yielded ops act.tmps) = true := by simp [Region.wanted, hg]
      rw [if_pos hw]
      exact .inl (astep_sound ht rfl hn.1 hS hd hl hR h)
    | some jw =>
      obtain ⟨j, want⟩ := jw
      rw [hg] at htr
      simp only at htr
      cases hdj : (ops[j]?).bind (·.dst) with
      | none => rw [hdj] at htr; cases htr
      | some d =>
        rw [hdj] at htr
        obtain rfl := Option.some.inj htr
        obtain ⟨t, hat, hyes, hno⟩ := h
        have hdn : d < act.tmps.size := by rw [hS.1]; simpa using hn.2
        have hv := hS.2 d act.tmps[d] (by simp [hdn])
        rw [hat] at hv
        have hbv := hv.b_inv
        have hy : yielded ops act.tmps j = some t := by rw [yielded_get hdj]; simp [hdn, hbv]
        have hw : Region.wanted o (yielded ops act.tmps) = (t == want) := by simp [Region.wanted, hg, hy]
        by_cases htw : t = want
        · rw [if_pos (by rw [hw]; simpa using htw)]
          exact .inl (astep_sound ht rfl hn.1 hS hd hl hR (hyes htw))
        · rw [if_neg (by rw [hw]; simpa using htw)]
          exact ⟨m, H, HT, _, .refl hl, hR, hS.put (.u _), by rw [put_defers]; exact hd, hno htw⟩

/-- what follows, from where one stands -/
def Lft (n : Nat) (m : AMap) (H HT : AH) (g : Out) (Q : Exit → (Nat → AV) → AH → Prop) : Exit → Act → World → Prop :=
  fun e => Got n m H HT g (Q e)

theorem Got.after {n : Nat} {m1 : AMap} {H1 HT1 : AH} {K : (Nat → AV) → AH → Prop} {act : Act} (hst : Stp m H HT m1 H1 HT1) (h : Got n m1 H1 HT1 g K act w) : Got n m H HT g K act w := by
  obtain ⟨m', H', HT', a', a, b, c, d, e⟩ := h
  exact ⟨m', H', HT', a', hst.trans a, b, c, d, e⟩

theorem Got.mono {n : Nat} {K K' : (Nat → AV) → AH → Prop} {act : Act} (h : Got n m H HT g K act w) (hk : ∀ a H', K a H' → K' a H') : Got n m H HT g K' act w := by
  obtain ⟨m', H', HT', a', a, b, c, d, e⟩ := h
  exact ⟨m', H', HT', a', a, b, c, d, hk _ _ e⟩

theorem aops_sound {ops : Array Oper} {rs : List SOp} (htr : trL P ops ops.toList = some rs) {n : Nat} (hn : rs.all (sopIn n) = true) {pv : Bool} {Q : Exit → (Nat → AV) → AH → Prop} :
    ∀ (l : List Nat) (m : AMap) (H HT : AH) (w : World) (a : Nat → AV) (act : Act), SR n m a act.tmps → act.defers = [] → HLe H HT → Rel m HT g w → aops P pv rs l a H (Q .normal) →
      ∀ m0 H0 HT0, Stp m0 H0 HT0 m H HT → wpOps P ops (Lft n m0 H0 HT0 g Q) l act w
  | [], m, H, HT, w, a, act, hS, hd, hl, hR, h, m0, H0, HT0, hst => ⟨m, H, HT, a, hst, hR, hS, hd, h⟩
  | i :: l, m, H, HT, w, a, act, hS, hd, hl, hR, h, m0, H0, HT0, hst => by
    simp only [aops] at h
    cases hr : rs[i]? with
    | none => rw [hr] at h; exact h.elim
    | some r =>
      rw [hr] at h
      obtain ⟨o, ho, hto⟩ := (trL_get htr).2 i r hr
      have hi : ops[i]? = some o := by simpa using ho
      rw [wpOps_cons]
      refine wpOp_mono (fun act' w' hgot => ?_) (aopG_sound hi hto ((List.all_eq_true.mp hn) r (List.mem_of_getElem? hr)) hS hd hl hR h)
      obtain ⟨m', H', HT', a', h1, h2, h3, h4, h5⟩ := hgot
      exact aops_sound htr hn l m' H' HT' w' a' act' h3 h4 h1.sub h2 h5 m0 H0 HT0 (hst.trans h1)

end Go.Proofs.Ytpppkmeolknofaa
