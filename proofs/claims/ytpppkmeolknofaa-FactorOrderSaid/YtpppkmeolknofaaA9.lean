/- Each slim operation is sound. No condition. -/
import Derived.Test.YtpppkmeolknofaaA8
namespace Go.Proofs.Ytpppkmeolknofaa
open Go Go.RowKit
set_option linter.unusedSimpArgs false
set_option linter.unusedVariables false

variable {P : Program} {m : AMap} {H HT : AH} {g : Out} {w : World} {K : AV → AH → Prop}

theorem ex_pk (hl : HLe H HT) (hR : Rel m HT g w) {c x y : AV} {vc vx vy : Value} (hc : VR m c vc) (hx : VR m x vx) (hy : VR m y vy) (h : ∃ t, c = .b t ∧ K (bif t then x else y) H) :
    Ex P (do pure (.value (if ← asBool vc then vx else vy))) m H HT g w K := by
  obtain ⟨t, rfl, hK⟩ := h
  cases hc
  cases t
  · exact Ex.same hl hR (v := vy) (by simp [asBool]) hy hK
  · exact Ex.same hl hR (v := vx) (by simp [asBool]) hx hK

theorem ex_cv {s d : TypeId} {k k0 : IntKind} (hs : P.underlying s = some (.int k0)) (hd : P.underlying d = some (.int k)) (hl : HLe H HT) (hR : Rel m HT g w) {x : AV} {v : Value} (hx : VR m x v)
    (h : ∃ k' n, x = .i k' n ∧ arK k n (fun v => K v H)) : Ex P (do pure (.value (← convert s d v))) m H HT g w K := by
  obtain ⟨k', n, rfl, hK⟩ := h
  cases hx
  exact Ex.same hl hR (run_v (by simp [convert, run_underlying hs, run_underlying hd, Conv.intToInt])) (.i _ _) (arK_wrap hK)

theorem ex_nc (hl : HLe H HT) (hR : Rel m HT g w) {x : AV} {v : Value} {ρ : Operand → Value} {y : Operand} {o : Oper} (ho : o.op = .nilCheck y) (hv : ρ y = v) (hx : VR m x v) (h : ∃ id off, x = .p id off ∧ K (.p id off) H) :
    Ex P (execOp ρ o) m H HT g w K := by
  obtain ⟨id, off, rfl, hK⟩ := h
  cases hx with
  | @p _ _ e he =>
    refine Ex.same hl hR (v := .pointer (some ⟨e.blk, e.sh + off, none⟩)) ?_ (.p he) hK
    simp [execOp, ho, hv]

theorem ex_ex (hl : HLe H HT) (hR : Rel m HT g w) {x : AV} {v : Value} (hx : VR m x v) {i : Nat} (h : ∃ vs c, x = .tu vs ∧ vs[i]? = some c ∧ K c H) : Ex P (do pure (.value (← Instr.extract v i))) m H HT g w K := by
  obtain ⟨vs, c, rfl, hc, hK⟩ := h
  cases hx with
  | @tu _ us hlen hr =>
    have hlt : i < us.size := by rw [← hlen]; exact (List.getElem?_eq_some_iff.mp hc).1
    have hv : us[i]? = some us[i] := by simp [hlt]
    refine Ex.same hl hR (run_v ?_) (hr i c us[i] hc hv) hK
    simp [Instr.extract, hlt]

theorem ex_ln {t e : TypeId} (ht : P.underlying t = some (.slice e)) {ty : TypeId} (hl : HLe H HT) (hR : Rel m HT g w) {x : AV} {v : Value} (hx : VR m x v)
    (h : (∃ id off len, x = .s id off len ∧ K (.i .i64 len) H) ∨ ((x = .ns ∨ x = .es) ∧ K (.i .i64 0) H)) : Ex P (do pure (.value (← Builtin.len_ #[t] ty #[v]))) m H HT g w K := by
  have key : ∀ a n c, v = .slice a n c → K (.i .i64 n) H → Ex P (do pure (.value (← Builtin.len_ #[t] ty #[v]))) m H HT g w K := by
    intro a n c e hK
    subst e
    exact Ex.same hl hR (run_v (by simp [Builtin.len_, run_underlying ht]; rfl)) (.i _ _) hK
  rcases h with ⟨id, off, len, rfl, hK⟩ | ⟨rfl | rfl, hK⟩
  · cases hx; exact key _ _ _ rfl hK
  · cases hx; exact key _ _ _ rfl (by simpa using hK)
  · cases hx; exact key _ _ _ rfl (by simpa using hK)

theorem ex_mx {ts : Array TypeId} {ty : TypeId} (hl : HLe H HT) (hR : Rel m HT g w) {x y : AV} {v u : Value} (hx : VR m x v) (hy : VR m y u)
    (h : ∃ k k' p q, x = .i k p ∧ y = .i k' q ∧ K (.i k (if q > p then q else p)) H) : Ex P (do pure (.value (← Builtin.max_ ts ty #[v, u]))) m H HT g w K := by
  obtain ⟨k, k', p, q, rfl, rfl, hK⟩ := h
  cases hx; cases hy
  exact Ex.same hl hR (run_v (by simp [Builtin.max_, Builtin.max2])) (.i _ _) hK
theorem ex_mn {ts : Array TypeId} {ty : TypeId} (hl : HLe H HT) (hR : Rel m HT g w) {x y : AV} {v u : Value} (hx : VR m x v) (hy : VR m y u)
    (h : ∃ k k' p q, x = .i k p ∧ y = .i k' q ∧ K (.i k (if q < p then q else p)) H) : Ex P (do pure (.value (← Builtin.min_ ts ty #[v, u]))) m H HT g w K := by
  obtain ⟨k, k', p, q, rfl, rfl, hK⟩ := h
  cases hx; cases hy
  exact Ex.same hl hR (run_v (by simp [Builtin.min_, Builtin.min2])) (.i _ _) hK

theorem ex_fi {t ft : TypeId} {f off : Nat} {d : TypeDesc} {fs : Array Field} {fd : Field} (ht : P.underlying t = some (.struct fs)) (hf : fs[f]? = some fd) (ho : fd.offset = off) (hft : fd.type = ft) (hd : P.underlying ft = some d) (ha : isAggD d = false)
    (hl : HLe H HT) (hR : Rel m HT g w) {x : AV} {v : Value} (hx : VR m x v) (h : ∃ cs c, x = .ag cs ∧ cs[off]? = some c ∧ K c H) : Ex P (do pure (.value (← Instr.field t v f))) m H HT g w K := by
  obtain ⟨cs, c, rfl, hc, hK⟩ := h
  obtain ⟨vs, rfl, hv⟩ := hx.ag_inv
  obtain ⟨u, h1, h2, h3⟩ := hv.get hc
  subst hft
  subst ho
  refine Ex.same hl hR (v := u) (run_v ?_) h3 hK
  have h1' : vs[fd.offset]? = some u := by simpa using h1
  simp [Instr.field, run_underlying ht, hf, asAgg, part, run_isAgg hd, ha, h1']
theorem ex_fin {t ft : TypeId} {f off : Nat} {d : TypeDesc} {fs : Array Field} {fd : Field} {i : TypeInfo} (ht : P.underlying t = some (.struct fs)) (hf : fs[f]? = some fd) (ho : fd.offset = off) (hft : fd.type = ft) (hd : P.underlying ft = some d) (ha : isAggD d = true)
    (hi : P.info? ft = some i) (hl : HLe H HT) (hR : Rel m HT g w) {x : AV} {v : Value} (hx : VR m x v) (h : ∃ cs, x = .ag cs ∧ K (.ag ((cs.drop off).take i.size)) H) : Ex P (do pure (.value (← Instr.field t v f))) m H HT g w K := by
  obtain ⟨cs, rfl, hK⟩ := h
  obtain ⟨vs, rfl, hv⟩ := hx.ag_inv
  subst hft
  subst ho
  refine Ex.same hl hR (v := .agg ((vs.toList.drop fd.offset).take i.size).toArray) (run_v ?_) ((hv.drop _).take _).ag hK
  have he : vs.extract fd.offset (fd.offset + i.size) = ((vs.toList.drop fd.offset).take i.size).toArray := by
    apply Array.ext'
    simp [List.extract_eq_take_drop]
  simp only [Instr.field, Sem.run_bind, run_underlying ht, Result.andThen_ok, hf, asAgg, part, run_isAgg hd, ha, run_sizeOf hi, Sem.run_pure, if_true, he]

theorem afill_length {place : Nat → Option (Nat × Nat)} : ∀ (parts : List (Nat × AV)) (cells r : List AV), afill place cells parts = some r → r.length = cells.length
  | [], cells, r, h => by simp only [afill, Option.some.injEq] at h; rw [h]
  | (i, x) :: ps, cells, r, h => by
    simp only [afill] at h
    split at h
    · rename_i off size cs _ _
      split at h
      · rename_i hin
        rw [afill_length ps _ r h, splice_length _ _ _ hin.2]
      · cases h
    · cases h

theorem ex_bs {t e : TypeId} {i : TypeInfo} {z : Value} {len : Nat} {parts : Array (Nat × Operand)} {ρ : Operand → Value} (ht : P.underlying t = some (.slice e)) (hi : P.info? e = some i) (hz : i.zero = some z) (hcells : len * i.size ≤ 2 ^ 24)
    (hzs : z.cells.size = i.size) {zs : List AV} (hzl : leafs ((Array.range (len * i.size)).map (z.cells[· % z.cells.size]!)).toList = some zs) (hl : HLe H HT) (hR : Rel m HT g w) {ps : List (Nat × AV)}
    (hps : ps.length = (parts.map fun p => (p.1, ρ p.2)).toList.length ∧ ∀ (j : Nat) (p : Nat × AV) (q : Nat × Value), ps[j]? = some p → (parts.map fun p => (p.1, ρ p.2)).toList[j]? = some q → p.1 = q.1 ∧ VR m p.2 q.2)
    (h : ∃ cs, afill (fun k => some (k * i.size, i.size)) zs ps = some cs ∧ ∀ id, H id = none → K (.s id 0 len) (upd H id ⟨cs, true, i.size⟩)) :
    Ex P (do pure (.value (← Instr.buildSlice t len (parts.map fun p => (p.1, ρ p.2))))) m H HT g w K := by
  obtain ⟨cs, hcs, hK⟩ := h
  have hv := leafs_some hzl m
  obtain ⟨vr, h1, h2⟩ := afill_rel ps _ zs ((Array.range (len * i.size)).map (z.cells[· % z.cells.size]!)) cs hps.1 hps.2 hv hcs
  have hcl : cs.length = len * i.size := by rw [afill_length _ _ _ hcs, hv.1]; simp
  have hlen : vr.size = len * i.size := by have := h2.1; simp at this; omega
  rw [Array.toList_map] at h1
  refine ex_new hl hR (ob := ⟨cs, true, i.size⟩) (cs := vr) (t := e) (x := fun id => .s id 0 len) (v := .slice (some ⟨w.heap.size, 0, none⟩) len len) (by simp only; omega) (fun j c hj => ?_) (run_v ?_) (fun m' id hid => ?_) hK
  · obtain ⟨u, a, b, d⟩ := h2.get hj
    exact ⟨u, by simpa using a, b, d⟩
  · have hn : ¬ (len * i.size > 2 ^ 24) := by omega
    by_cases h0 : len * i.size = 0
    · simp only [h0, Array.range_zero', Array.map_empty] at h1
      simp only [Instr.buildSlice, Sem.run_bind, run_underlying ht, Result.andThen_ok, run_sizeOf hi, h0, if_neg (show ¬ (0 > 2 ^ 24) by decide), if_true, Sem.run_pure, Array.range_zero', Array.map_empty, Array.toList_map, h1]
      simp [newRow]
    · simp only [Instr.buildSlice, Sem.run_bind, run_underlying ht, Result.andThen_ok, run_sizeOf hi, if_neg hn, if_neg h0, Sem.run_pure, zeroValue, typeInfo, run_program, hi, hz, Array.toList_map, h1]
      simp [newRow]
  · exact .s (e := ⟨w.heap.size, 0, i.size, vr.size⟩) hid (Nat.le_refl _) (.inr ⟨by simp, by simp [hlen]⟩)


theorem Rel.more {m : AMap} {H : AH} {g : Out} {w : World} (h : Rel m H g w) (o : Obj) : Rel m H g (w.alloc o) := by
  refine ⟨h.os, h.tape, h.output, by simp; exact Nat.le_succ_of_le h.size, ?_, h.sep, ?_, h.rawsep, h.fin⟩
  · intro j oj hj
    obtain ⟨ej, he, hor⟩ := h.live j oj hj
    have hlt := h.lt hj he
    obtain ⟨a1, a2, cs', t', fr, a3, a4, a5, a6⟩ := hor
    exact ⟨ej, he, a1, a2, cs', t', fr, by rw [heap_alloc_old w _ _ hlt]; exact a3, a4, a5, a6⟩
  · intro b o' hb
    have := h.raw b o' hb
    have hlt : b < w.heap.size := by
      rcases Nat.lt_or_ge b w.heap.size with h | h
      · exact h
      · rw [Array.getElem?_eq_none h] at this; cases this
    rw [heap_alloc_old w _ _ hlt]
    exact this

theorem ex_be {t e : TypeId} {i : TypeInfo} (ht : P.underlying t = some (.slice e)) (hi : P.info? e = some i) (hl : HLe H HT) (hR : Rel m HT g w) (h : K .es H) : Ex P (do pure (.value (← Instr.buildSlice t 0 #[]))) m H HT g w K := by
  refine ⟨.es, .slice (some ⟨w.heap.size, 0, none⟩) 0 0, w.alloc (.cells #[] e), m, H, HT, .inl (run_v ?_), .es, .refl hl, hR.more _, h⟩
  simp [Instr.buildSlice, run_underlying ht, run_sizeOf hi, Array.range_zero', Instr.fill, newRow]

theorem ex_bd {t : TypeId} {fs : Array Field} {i : TypeInfo} {z : Value} {parts : Array (Nat × Operand)} {ρ : Operand → Value} {places : List (Nat × Nat)} (ht : P.underlying t = some (.struct fs)) (hi : P.info? t = some i) (hz : i.zero = some z)
    (hpl : fs.toList.mapM (fun f => (P.info? f.type).map fun i => (f.offset, i.size)) = some places) {zs : List AV} (hzl : leafs z.cells.toList = some zs) (hl : HLe H HT) (hR : Rel m HT g w) {ps : List (Nat × AV)}
    (hps : ps.length = (parts.map fun p => (p.1, ρ p.2)).toList.length ∧ ∀ (j : Nat) (p : Nat × AV) (q : Nat × Value), ps[j]? = some p → (parts.map fun p => (p.1, ρ p.2)).toList[j]? = some q → p.1 = q.1 ∧ VR m p.2 q.2)
    (h : ∃ cs, afill (places.toArray[·]?) zs ps = some cs ∧ K (.ag cs) H) :
    Ex P (do pure (.value (← Instr.build t (parts.map fun p => (p.1, ρ p.2))))) m H HT g w K := by
  obtain ⟨cs, hcs, hK⟩ := h
  have hv := leafs_some hzl m
  obtain ⟨vr, h1, h2⟩ := afill_rel ps _ zs z.cells cs hps.1 hps.2 hv hcs
  refine Ex.same hl hR (v := .agg vr) (run_v ?_) (by simpa using h2.ag) hK
  refine run_build w t _ vr ?_
  simp only [Program.built, ht, hi, hz, hpl]
  exact h1

end Go.Proofs.Ytpppkmeolknofaa
