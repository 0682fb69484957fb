/- Loads, stores, new variables, slices: the machine does as the abstract heap says. No condition. -/
import Derived.Test.YtpppkmeolknofaaA3
namespace Go.Proofs.Ytpppkmeolknofaa
open Go Go.RowKit
set_option linter.unusedSimpArgs false
set_option linter.unusedVariables false

variable {P : Program} {m : AMap} {H HT : AH} {g : Out} {w : World} {K : AV → AH → Prop}

def isAggD : TypeDesc → Bool
  | .struct _ | .array _ _ => true
  | _ => false

theorem run_isAgg {t : TypeId} {d : TypeDesc} (hd : P.underlying t = some d) (w : World) : (isAgg t).run P w = .ok (isAggD d) w := by
  unfold isAgg
  rw [Sem.run_bind, run_underlying hd w]
  cases d <;> rfl

theorem run_sizeOf {t : TypeId} {i : TypeInfo} (hi : P.info? t = some i) (w : World) : (sizeOf t).run P w = .ok i.size w := by
  simp [sizeOf, typeInfo, hi]

theorem ex_ld {t : TypeId} {d : TypeDesc} (hd : P.underlying t = some d) (ha : isAggD d = false) (hl : HLe H HT) (hR : Rel m HT g w) {x : AV} {v : Value} (hx : VR m x v)
    (h : ∃ id off c, x = .p id off ∧ rdc H id off = some c ∧ K c H) : Ex P (do pure (.value (← Instr.loadAt t v))) m H HT g w K := by
  obtain ⟨id, off, c, rfl, hc, hK⟩ := h
  cases hx with
  | @p _ _ e he =>
    cases ho : H id with
    | none => rw [rdc, ho] at hc; cases hc
    | some ob =>
      rw [rdc, ho] at hc
      obtain ⟨e', he', hor⟩ := hR.live id ob (hl _ _ ho)
      rw [he] at he'
      obtain rfl := Option.some.inj he'
      obtain ⟨u, h1, h2, h3⟩ := hor.read hc
      refine Ex.same hl hR (v := u) ?_ h3 hK
      simp [Instr.loadAt, Instr.sureAddr, loadVar, run_isAgg hd, ha, load, Sem.run, h1]

theorem ex_ldn {t : TypeId} {d : TypeDesc} {i : TypeInfo} (hd : P.underlying t = some d) (ha : isAggD d = true) (hi : P.info? t = some i) (hl : HLe H HT) (hR : Rel m HT g w) {x : AV} {v : Value} (hx : VR m x v)
    (h : ∃ id off ob, x = .p id off ∧ H id = some ob ∧ off + i.size ≤ ob.cells.length ∧ K (.ag ((ob.cells.drop off).take i.size)) H) : Ex P (do pure (.value (← Instr.loadAt t v))) m H HT g w K := by
  obtain ⟨id, off, ob, rfl, ho, hin, hK⟩ := h
  cases hx with
  | @p _ _ e he =>
    obtain ⟨e', he', hor⟩ := hR.live id ob (hl _ _ ho)
    rw [he] at he'
    obtain rfl := Option.some.inj he'
    obtain ⟨vs, h1, h2, h3⟩ := hor.part off i.size hin
    refine Ex.same hl hR (v := .agg vs.toArray) ?_ h1.ag hK
    have := run_loadCells_list (P := P) w ⟨e.blk, e.sh + off, none⟩ vs h3
    rw [h2] at this
    simp [Instr.loadAt, Instr.sureAddr, loadVar, run_isAgg hd, ha, run_sizeOf hi, this]

/-- the world's row of a live object that may be written, and what it holds -/
theorem Rel.row (hR : Rel m HT g w) {id : Nat} {ob : AObj} {e : Ent} (ho : HT id = some ob) (he : m id = some e) (hrw : ob.rw = true) :
    ob.sz = e.sz ∧ ob.cells.length ≤ e.room ∧ ∃ cs t, w.heap[e.blk]? = some (.cells cs t (0, 0)) ∧ e.sh + e.room ≤ cs.size ∧
      ∀ (j : Nat) (c : AV), ob.cells[j]? = some c → ∃ v, cs[e.sh + j]? = some v ∧ c.leaf = true ∧ VR m c v := by
  obtain ⟨e', he', h1, h2, cs, t, fr, h3, h4, h5, h6⟩ := hR.live id ob ho
  rw [he] at he'
  obtain rfl := Option.some.inj he'
  have := h5 hrw
  subst this
  exact ⟨h1, h2, cs, t, h3, h4, h6⟩

theorem VL.oneCell {cs : List AV} {vs : List Value} (h : VL m cs vs) : ∀ v ∈ vs, v.oneCell' = true := by
  intro v hv
  obtain ⟨j, hj⟩ := List.getElem?_of_mem hv
  have hlt : j < cs.length := by rw [h.1]; exact (List.getElem?_eq_some_iff.mp hj).1
  obtain ⟨a, b⟩ := h.2 j cs[j] v (by simp [hlt]) hj
  exact leaf_oneCell b a

/-- writing cells into an object in place -/
theorem write_at (hl : HLe H HT) (hR : Rel m HT g w) {id : Nat} {ob : AObj} {e : Ent} (ho : H id = some ob) (he : m id = some e) (hrw : ob.rw = true) (off : Nat)
    {cs : List AV} {vs : List Value} (hv : VL m cs vs) (hin : off + cs.length ≤ ob.cells.length) :
    ∃ w', (storeCells ⟨e.blk, e.sh + off, none⟩ vs).run P w = .ok () w' ∧ Stp m H HT m (upd H id { ob with cells := splice ob.cells off cs }) (upd HT id { ob with cells := splice ob.cells off cs }) ∧
      Rel m (upd HT id { ob with cells := splice ob.cells off cs }) g w' := by
  obtain ⟨h1, h2, cur, t, hb, h4, h6⟩ := hR.row (hl _ _ ho) he hrw
  have hlen : vs.length = cs.length := hv.1.symm
  have hst := run_storeCells_at P e.blk (e.sh + off) t vs 0 cur w hb (by omega) hv.oneCell
  have hmm : upd m id e = m := by
    funext j
    by_cases hj : j = id
    · subst hj; rw [upd_same, he]
    · rw [upd_ne _ _ hj]
  refine ⟨_, hst, ?_, ?_⟩
  · rw [← upd_del H, ← upd_del HT]
    exact Stp.turn hl ho (.refl m) (.inl rfl) _
  · have key := hR.turn (id' := id) (e' := e) (ob' := { ob with cells := splice ob.cells off cs }) (hl _ _ ho) he hrw (.inl ⟨rfl, rfl⟩) rfl h1 hb
      (cs' := (cur.toList.take (e.sh + off + 0) ++ vs ++ cur.toList.drop (e.sh + off + 0 + vs.length)).toArray) (by simp; omega) h4 (by simp only; rw [splice_length _ _ _ hin]; exact h2) ?_
    · rw [hmm, upd_del] at key
      exact key
    · intro j c hc
      simp only at hc
      rw [splice_get _ _ _ hin] at hc
      have hsp := splice_get cur.toList (e.sh + off) vs (by simp; omega) (e.sh + j)
      simp only [splice] at hsp
      simp only [Nat.add_zero, List.getElem?_toArray]
      rw [hsp]
      split at hc
      · rename_i hj
        rw [if_pos (by omega)]
        obtain ⟨v, a, b, d⟩ := hv.get hc
        have e1 : e.sh + j - (e.sh + off) = j - off := by omega
        exact ⟨v, by rw [e1]; exact a, b, d⟩
      · rename_i hj
        rw [if_neg (by omega)]
        obtain ⟨v, a, b, d⟩ := h6 j c hc
        exact ⟨v, by rw [Array.getElem?_toList]; exact a, b, d⟩

theorem ex_st {t : TypeId} {i : TypeInfo} (hi : P.info? t = some i) (hl : HLe H HT) (hR : Rel m HT g w) {x y : AV} {v u : Value} (hx : VR m x v) (hy : VR m y u)
    (h : ∃ id off ob cs, x = .p id off ∧ H id = some ob ∧ ob.rw = true ∧ cellsOf y = some cs ∧ cs.length = i.size ∧ off + i.size ≤ ob.cells.length ∧
      K .u (upd H id { ob with cells := splice ob.cells off cs })) : Ex P (do Instr.storeAt t v u; pure .skip) m H HT g w K := by
  obtain ⟨id, off, ob, cs, rfl, ho, hrw, hcs, hlen, hin, hK⟩ := h
  cases hx with
  | @p _ _ e he =>
    have hv := cellsOf_rel hy hcs
    obtain ⟨w', h1, h2, h3⟩ := write_at (P := P) hl hR ho he hrw off hv (by omega)
    refine ⟨.u, undef, w', m, _, _, .inr ⟨?_, rfl⟩, .u _, h2, h3, hK⟩
    have hsz : u.cells.size = i.size := by rw [← hlen, hv.1]; simp
    simp [Instr.storeAt, Instr.sureAddr, storeVar, run_sizeOf hi, hsz, h1]

theorem ex_new (hl : HLe H HT) (hR : Rel m HT g w) {ob : AObj} {cs : Array Value} {t : TypeId} {s : Sem Next} {x : Nat → AV} {v : Value} (hlen : ob.cells.length ≤ cs.size)
    (hc : ∀ (j : Nat) (c : AV), ob.cells[j]? = some c → ∃ v, cs[j]? = some v ∧ c.leaf = true ∧ VR m c v)
    (hs : s.run P w = .ok (.value v) (w.alloc (.cells cs t))) (hv : ∀ m' id, m' id = some (⟨w.heap.size, 0, ob.sz, cs.size⟩ : Ent) → VR m' (x id) v)
    (hK : ∀ id, H id = none → K (x id) (upd H id ob)) : Ex P s m H HT g w K := by
  obtain ⟨id, hm, hT⟩ := hR.fresh
  have hH : H id = none := by
    cases hh : H id with
    | none => rfl
    | some o => rw [hl _ _ hh] at hT; cases hT
  exact ⟨x id, v, _, _, _, _, .inl hs, hv _ id (upd_same _ _ _), Stp.alloc hl hm hT _ ob, hR.alloc hm hlen hc, hK id hH⟩

theorem ex_bx {t : TypeId} (hl : HLe H HT) (hR : Rel m HT g w) {x : AV} {v : Value} (hx : VR m x v) {sz : Nat} 
    (h : ∃ cs, cellsOf x = some cs ∧ ∀ id, H id = none → K (.p id 0) (upd H id ⟨cs, true, sz⟩)) : Ex P (do pure (.value (← Instr.box t v))) m H HT g w K := by
  obtain ⟨cs, hcs, hK⟩ := h
  have hv := cellsOf_rel hx hcs
  refine ex_new hl hR (ob := ⟨cs, true, sz⟩) (cs := v.cells) (t := t) (x := fun id => .p id 0) (v := .pointer (some ⟨w.heap.size, 0, none⟩)) (by simpa using Nat.le_of_eq hv.1) (fun j c hj => ?_) ?_ (fun m' id hid => ?_) hK
  · obtain ⟨u, a, b, d⟩ := hv.get hj
    exact ⟨u, by simpa using a, b, d⟩
  · simp [Instr.box, newVar, newRow]
  · exact .p (e := ⟨w.heap.size, 0, sz, v.cells.size⟩) hid

theorem leafOf_list {zs : List Value} (h : (zs.all fun v => (leafOf v).leaf) = true) (m : AMap) : VL m (zs.map leafOf) zs := by
  refine ⟨by simp, fun j c v hc hv => ?_⟩
  rw [List.getElem?_map, hv] at hc
  obtain rfl := Option.some.inj hc
  exact ⟨(List.all_eq_true.mp h) v (List.mem_of_getElem? hv), leafOf_rel m v⟩

theorem ex_al {t : TypeId} {i : TypeInfo} {z : Value} (hi : P.info? t = some i) (hz : i.zero = some z) (hzl : (z.cells.toList.all fun v => (leafOf v).leaf) = true) (hl : HLe H HT) (hR : Rel m HT g w) {sz : Nat}
    (hK : ∀ id, H id = none → K (.p id 0) (upd H id ⟨z.cells.toList.map leafOf, true, sz⟩)) : Ex P (do pure (.value (← Instr.alloc t true (.tuple #[])))) m H HT g w K := by
  have hv := leafOf_list hzl m
  refine ex_new hl hR (ob := ⟨z.cells.toList.map leafOf, true, sz⟩) (cs := z.cells) (t := t) (x := fun id => .p id 0) (v := .pointer (some ⟨w.heap.size, 0, none⟩)) (by simp) (fun j c hj => ?_) ?_ (fun m' id hid => ?_) hK
  · obtain ⟨u, a, b, d⟩ := hv.get hj
    exact ⟨u, by simpa using a, b, d⟩
  · simp [Instr.alloc, zeroValue, typeInfo, hi, hz, newVar, newRow]
  · exact .p (e := ⟨w.heap.size, 0, sz, z.cells.size⟩) hid

theorem ex_ix {t e : TypeId} {i : TypeInfo} (ht : P.underlying t = some (.slice e)) (hi : P.info? e = some i) (hl : HLe H HT) (hR : Rel m HT g w) {x y : AV} {v u : Value} (hx : VR m x v) (hy : VR m y u)
    (h : ∃ id off len k n, x = .s id off len ∧ y = .i k n ∧ 0 ≤ n ∧ n < (len : Int) ∧ K (.p id (off + n.toNat * i.size)) H) : Ex P (do pure (.value (← Instr.indexAt t v u))) m H HT g w K := by
  obtain ⟨id, off, len, k, n, rfl, rfl, h0, h1, hK⟩ := h
  cases hy
  cases hx with
  | @s _ _ _ e A cap he hc hA =>
    have hA' : A = ⟨e.blk, e.sh + off, none⟩ := by
      rcases hA with h | h
      · omega
      · exact h.1
    subst hA'
    refine Ex.same hl hR (v := .pointer (some ⟨e.blk, e.sh + (off + n.toNat * i.size), none⟩)) ?_ (.p he) hK
    simp [Instr.indexAt, asIntOf, run_underlying ht, h0, h1, run_sizeOf hi, Addr.add_lit, Nat.add_assoc]

theorem ex_fd {t : TypeId} {fs : Array Field} {f : Nat} {fd : Field} {i : TypeInfo} (ht : P.underlying t = some (.struct fs)) (hf : fs[f]? = some fd) (hi : P.info? fd.type = some i) (hs : i.size ≠ 0) (hl : HLe H HT) (hR : Rel m HT g w) {x : AV} {v : Value} (hx : VR m x v)
    (h : ∃ id off, x = .p id off ∧ K (.p id (off + fd.offset)) H) : Ex P (do pure (.value (← Instr.fieldAt t v f))) m H HT g w K := by
  obtain ⟨id, off, rfl, hK⟩ := h
  cases hx with
  | @p _ _ e he =>
    refine Ex.same hl hR (v := .pointer (some ⟨e.blk, e.sh + (off + fd.offset), none⟩)) ?_ (.p he) hK
    simp [Instr.fieldAt, Instr.sureAddr, run_underlying ht, hf, fieldPlace, run_sizeOf hi, hs, Addr.add_lit, Nat.add_assoc]

def optI (a : Nat → AV) : Option SV → Option Int → Prop
  | none, none => True
  | some x, some n => ∃ k, evS a x = .i k n
  | _, _ => False

end Go.Proofs.Ytpppkmeolknofaa
