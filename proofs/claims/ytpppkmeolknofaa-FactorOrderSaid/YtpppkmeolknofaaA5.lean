/- make, append, copy, slicing, building: the machine does as the abstract heap says. No condition. -/
import Derived.Test.YtpppkmeolknofaaA4
namespace Go.Proofs.Ytpppkmeolknofaa
open Go Go.RowKit
set_option linter.unusedSimpArgs false
set_option linter.unusedVariables false

variable {P : Program} {m : AMap} {H HT : AH} {g : Out} {w : World} {K : AV → AH → Prop}

theorem madeCells_one {z : Value} {n j : Nat} (h : j < n) : (madeCells #[z] n)[j]? = some z := by
  simp [madeCells, h, Nat.mod_one]

theorem ex_mk {t e : TypeId} {i : TypeInfo} {z : Value} (ht : P.underlying t = some (.slice e)) (hi : P.info? e = some i) (hz : i.zero = some z) (hs : i.size = 1) (hzc : z.cells = #[z]) (hzl : (leafOf z).leaf = true)
    (hl : HLe H HT) (hR : Rel m HT g w) {x y : AV} {v u : Value} (hx : VR m x v) (hy : VR m y u)
    (h : ∃ k k' l c, x = .i k l ∧ y = .i k' c ∧ 0 ≤ l ∧ l ≤ c ∧ (i.bytes : Int) * c ≤ 281474976710656 ∧ c ≤ 9223372036854775807 ∧
      ∀ id, H id = none → K (.s id 0 l.toNat) (upd H id ⟨List.replicate l.toNat (leafOf z), true, 1⟩)) : Ex P (do pure (.value (← Instr.makeSlice t v u))) m H HT g w K := by
  obtain ⟨k, k', l, c, rfl, rfl, h0, hlc, hb, h63, hK⟩ := h
  cases hx
  cases hy
  have hrun := run_make w t e i z ht hi hz k k' l c h0 hlc hb h63
  refine ex_new hl hR (ob := ⟨List.replicate l.toNat (leafOf z), true, 1⟩) (cs := madeCells z.cells (c.toNat * i.size)) (t := e) (x := fun id => .s id 0 l.toNat)
    (v := .slice (some ⟨w.heap.size, 0, none⟩) l.toNat c.toNat) (by simp [madeCells, hs]; omega) (fun j d hj => ?_) ?_ (fun m' id hid => ?_) hK
  · rw [List.getElem?_replicate] at hj
    split at hj
    · obtain rfl := Option.some.inj hj
      exact ⟨z, by rw [hzc, hs, Nat.mul_one]; exact madeCells_one (by omega), hzl, leafOf_rel m z⟩
    · cases hj
  · simp [hrun]
  · refine .s (e := ⟨w.heap.size, 0, 1, (madeCells z.cells (c.toNat * i.size)).size⟩) hid (by omega) (.inr ⟨by simp, ?_⟩)
    simp [madeCells, hs]

theorem run_append_zero (t ty e : TypeId) (i : TypeInfo) (ht : P.underlying t = some (.slice e)) (hi : P.info? e = some i) (a b : Option Addr) (n c c' : Nat) (hn : n ≤ c) (w : World) :
    (Builtin.append_ #[t, t] ty #[.slice a n c, .slice b 0 c']).run P w = .ok (.slice a n c) w := by
  have hf : ∀ b, (Builtin.firstCells i.size 0 (.slice b 0 c')).run P w = .ok #[] w := by
    intro b
    cases b with
    | none => simp [Builtin.firstCells]
    | some b => simp [Builtin.firstCells, loadCells, loadCellsFrom]
  cases a with
  | none => simp [Builtin.append_, run_underlying ht, run_sizeOf hi, Builtin.lenOf, hn, hf]
  | some a => simp [Builtin.append_, run_underlying ht, run_sizeOf hi, Builtin.lenOf, hn, hf, storeCells]

theorem run_append_room' (t ty e : TypeId) (i : TypeInfo) (ht : P.underlying t = some (.slice e)) (hi : P.info? e = some i) (b : Addr) (n c : Nat) (A : Addr) (k c' : Nat) (news : List Value)
    (hl : news.length = k * i.size) (hnews : ∀ j u, news[j]? = some u → w.cell? (A.add j) = some u) (hroom : n + k ≤ c) {w' : World}
    (hst : (storeCells (b.add (n * i.size)) news).run P w = .ok () w') :
    (Builtin.append_ #[t, t] ty #[.slice (some b) n c, .slice (some A) k c']).run P w = .ok (.slice (some b) (n + k) c) w' := by
  have hf := run_firstCells_some (P := P) w i.size k A k c' news hl hnews
  simp [Builtin.append_, run_underlying ht, run_sizeOf hi, Builtin.lenOf, hroom, hf, hst]

theorem run_v {X : Sem Value} {v : Value} {w w' : World} (h : X.run P w = .ok v w') : (do pure (.value (← X)) : Sem Next).run P w = .ok (.value v) w' := by
  simp only [Sem.run_bind, h]
  rfl

/-- a fresh object for what append makes -/
theorem ex_grown (hl : HLe H HT) (hR : Rel m HT g w) {cs : List AV} {vs : List Value} (hv : VL m cs vs) {sz n cap : Nat} (hn : cs.length = n * sz) (hcap : n ≤ cap) {z : Array Value} (hz : z.size = sz) {t : TypeId} {s : Sem Next} {arr : Array Value} (harr : arr = vs.toArray)
    (hs : s.run P w = .ok (.value (.slice (some ⟨w.heap.size, 0, none⟩) n cap)) (w.drew.alloc (.cells (arr ++ Builtin.zeroCells z (cap - n)) t)))
    (hK : ∀ id, m id = none → H id = none → K (.s id 0 n) (upd H id ⟨cs, true, sz⟩)) : Ex P s m H HT g w K := by
  subst harr
  have hd := hR.drew
  obtain ⟨id, hm, hT⟩ := hd.fresh
  have hH : H id = none := by
    cases hh : H id with
    | none => rfl
    | some o => rw [hl _ _ hh] at hT; cases hT
  have hal := hd.alloc hm (ob := ⟨cs, true, sz⟩) (cs := vs.toArray ++ Builtin.zeroCells z (cap - n)) (t := t) (by simp; have := hv.1; omega) (fun j c hj => by
    obtain ⟨v, a, b, d⟩ := hv.get hj
    refine ⟨v, ?_, b, d⟩
    rw [Array.getElem?_append_left (by simpa using (List.getElem?_eq_some_iff.mp a).1)]
    simpa using a)
  refine ⟨.s id 0 n, _, _, _, _, _, .inl hs, ?_, Stp.alloc hl hm hT _ ⟨cs, true, sz⟩, hal, hK id hm hH⟩
  refine .s (upd_same _ _ _) hcap (.inr ⟨by simp, ?_⟩)
  simp only [Array.size_append, List.size_toArray, size_zeroCells, hz]
  have := hv.1
  rw [← this, hn, ← Nat.add_mul]
  rw [show n + (cap - n) = cap by omega]
  simp

theorem Ex.after {s : Sem Next} {H1 HT1 : AH} (hst : Stp m H HT m H1 HT1) (h : Ex P s m H1 HT1 g w K) : Ex P s m H HT g w K := by
  obtain ⟨x, v, w', m', H', HT', a, b, c, d, e⟩ := h
  exact ⟨x, v, w', m', H', HT', a, b, hst.trans c, d, e⟩

theorem Stp.drop (hl : HLe H HT) (id : Nat) {ob : AObj} (ho : H id = some ob) : Stp m H HT m (del H id) (del HT id) := by
  refine ⟨.refl m, ?_, ?_⟩
  · intro j o hj
    by_cases q : j = id
    · subst q; rw [del_same] at hj; cases hj
    · rw [del_ne _ q] at hj ⊢; exact hl _ _ hj
  · intro j o h1 h2
    have q : j ≠ id := fun q => by rw [q, ho] at h1; cases h1
    rw [del_ne _ q, del_ne _ q]
    exact ⟨h2, h1⟩

theorem HLe.del (H : AH) (id : Nat) : HLe (del H id) H := by
  intro j o hj
  by_cases q : j = id
  · subst q; rw [del_same] at hj; cases hj
  · rw [del_ne _ q] at hj; exact hj

theorem ex_ap {t ty e : TypeId} {i : TypeInfo} {z : Value} (ht : P.underlying t = some (.slice e)) (hi : P.info? e = some i) (hz : i.zero = some z) (hzs : z.cells.size = i.size) (hs0 : 0 < i.size)
    (hl : HLe H HT) (hR : Rel m HT g w) {x y : AV} {v u : Value} (hx : VR m x v) (hy : VR m y u)
    (h : ∃ k news, src H i.size y = some (k, news) ∧
      ((x = .ns ∨ x = .es) ∧ (k = 0 → K x H) ∧ (0 < k → k * i.bytes ≤ 140737488355328 ∧ k ≤ maxLen ∧ ∀ id, H id = none → K (.s id 0 k) (upd H id ⟨news, true, i.size⟩)) ∨
       ∃ id off len ob, x = .s id off len ∧ H id = some ob ∧ ob.rw = true ∧ ob.sz = i.size ∧ off + len * i.size ≤ ob.cells.length ∧ (len + k) * i.bytes ≤ 140737488355328 ∧ len + k ≤ maxLen ∧
         ∀ id', H id' = none → K (.s id' 0 (len + k)) (upd (del H id) id' ⟨(ob.cells.drop off).take (len * i.size) ++ news, true, i.size⟩))) :
    Ex P (do pure (.value (← Builtin.append_ #[t, t] ty #[v, u]))) m H HT g w K := by
  obtain ⟨k, news, hsrc, h⟩ := h
  obtain ⟨A, c', vs, rfl, hkc, hvl, hvlen, hnone, hcells⟩ := src_rel hl hR hy hsrc
  rcases h with ⟨hx', h0, hpos⟩ | ⟨id, off, len, ob, rfl, ho, hrw, hsz, hin, hby, hml, hK⟩
  · rcases Nat.eq_zero_or_pos k with hk | hk
    · subst hk
      rcases hx' with rfl | rfl
      · cases hx
        exact Ex.same hl hR (run_v (run_append_zero t ty e i ht hi none A 0 0 c' (Nat.le_refl _) w)) .ns (h0 rfl)
      · cases hx with
        | @es B => exact Ex.same hl hR (run_v (run_append_zero t ty e i ht hi (some B) A 0 0 c' (Nat.le_refl _) w)) .es (h0 rfl)
    · obtain ⟨hby, hml, hK⟩ := hpos hk
      cases A with
      | none => have := (hnone rfl).1; omega
      | some A =>
        have hml' : k ≤ 9223372036854775807 := by simp only [maxLen] at hml; omega
        have hby' : k * i.bytes ≤ 140737488355328 := hby
        have hnl : news.length = k * i.size := by rw [hvl.1, hvlen]
        rcases hx' with rfl | rfl
        · cases hx
          have hr := run_append_nil (P := P) w t ty e i z ht hi hz A k c' vs hvlen (hcells A rfl) hk (by omega) (by omega)
          exact ex_grown hl hR hvl hnl (grownCap_ge w k 0 e) hzs rfl (run_v hr) (fun id _ => hK id)
        · cases hx with
          | @es B =>
            have hr := run_append_grow (P := P) w t ty e i z ht hi hz B 0 0 [] (by simp) (by simp) A k c' vs hvlen (hcells A rfl) (by omega) (by omega) (growslice_fits (by omega) (by rw [Nat.zero_add]; omega))
            rw [Nat.zero_add] at hr
            exact ex_grown hl hR hvl hnl (grownCap_ge w k 0 e) hzs (by simp) (run_v hr) (fun id _ => hK id)
  · cases hx with
    | @s _ _ _ ee B cap he hlen hB =>
      obtain ⟨e1, e2, cs, tt, hb, hrm, hcs⟩ := hR.row (hl _ _ ho) he hrw
      obtain ⟨old, hold, holdlen, holdc⟩ := (show OR m w ee ob from by obtain ⟨e', he', hor⟩ := hR.live id ob (hl _ _ ho); rw [he] at he'; obtain rfl := Option.some.inj he'; exact hor).part off (len * i.size) hin
      have hnl : news.length = k * i.size := by rw [hvl.1, hvlen]
      have hall := hold.append hvl
      have hcl : ((ob.cells.drop off).take (len * i.size) ++ news).length = (len + k) * i.size := by rw [List.length_append, hnl, hold.1, holdlen, Nat.add_mul]
      have hml' : len + k ≤ 9223372036854775807 := by simp only [maxLen] at hml; omega
      have hby' : (len + k) * i.bytes ≤ 140737488355328 := hby
      by_cases hroom : len + k ≤ cap
      · -- in place
        obtain ⟨id', hm', hT'⟩ := hR.fresh
        have hH' : H id' = none := by
          cases hh : H id' with
          | none => rfl
          | some o => rw [hl _ _ hh] at hT'; cases hT'
        have hne : id' ≠ id := fun q => by rw [q, ho] at hH'; cases hH'
        have hstp := Stp.turn (m := m) hl ho (m' := upd m id' ⟨ee.blk, ee.sh + off, ee.sz, ee.room - off⟩) (mle_upd hm' _) (.inr hT') ⟨(ob.cells.drop off).take (len * i.size) ++ news, true, i.size⟩
        have hsplit : k = 0 ∨ 0 < k := Nat.eq_zero_or_pos k
        have hoffr : off ≤ ee.room := by omega
        rcases hsplit with hk | hk
        · subst hk
          have hnews : news = [] := List.eq_nil_of_length_eq_zero (by simpa using hnl)
          subst hnews
          have hrun := run_append_zero t ty e i ht hi (some B) A len cap c' hlen w
          have hrel := hR.turn (id' := id') (e' := ⟨ee.blk, ee.sh + off, ee.sz, ee.room - off⟩) (ob' := ⟨(ob.cells.drop off).take (len * i.size) ++ [], true, i.size⟩) (hl _ _ ho) he hrw (.inr ⟨hne, hm'⟩) rfl
            (by simp only; rw [← hsz, e1]) hb (cs' := cs) rfl (by simp only; omega) (by simp only [List.append_nil, List.length_take, List.length_drop]; omega) (fun j d hj => by
              simp only [List.append_nil] at hj
              rw [List.getElem?_take] at hj
              split at hj
              · rw [List.getElem?_drop] at hj
                obtain ⟨q, a1, a2, a3⟩ := hcs _ d hj
                exact ⟨q, by rw [← a1]; congr 1; simp only; omega, a2, a3⟩
              · cases hj)
          rw [setRow_self w ee.blk cs tt (0, 0) hb] at hrel
          refine ⟨.s id' 0 (len + 0), .slice (some B) len cap, w, _, _, _, .inl (run_v hrun), ?_, hstp, hrel, hK id' hH'⟩
          refine .s (upd_same _ _ _) (by omega) ?_
          rcases hB with h0 | ⟨rfl, hr2⟩
          · exact .inl h0
          · exact .inr ⟨by simp, by simp only; omega⟩
        · cases A with
          | none => have := (hnone rfl).1; omega
          | some A =>
            have hcap : cap ≠ 0 := by omega
            obtain ⟨rfl, hr2⟩ := hB.resolve_left hcap
            have hfit : ee.sh + off + len * i.size + 0 + vs.length ≤ cs.size := by
              rw [hvlen]
              have h1 : (len + k) * i.size ≤ cap * i.size := Nat.mul_le_mul_right _ hroom
              rw [Nat.add_mul] at h1
              have h2 : ee.sz = i.size := by rw [← hsz, e1]
              rw [h2] at hr2
              omega
            have hst := run_storeCells_at P ee.blk (ee.sh + off + len * i.size) tt vs 0 cs w hb hfit hvl.oneCell
            have hrun := run_append_room' (P := P) (w := w) t ty e i ht hi ⟨ee.blk, ee.sh + off, none⟩ len cap A k c' vs hvlen (hcells A rfl) hroom (by rw [Addr.add_lit]; exact hst)
            have hsz2 : ee.sz = i.size := by rw [← hsz, e1]
            have hrm2 : (len + k) * i.size + off ≤ ee.room := by
              have h1 : (len + k) * i.size ≤ cap * i.size := Nat.mul_le_mul_right _ hroom
              rw [hsz2] at hr2
              omega
            have hrel := hR.turn (id' := id') (e' := ⟨ee.blk, ee.sh + off, ee.sz, ee.room - off⟩) (ob' := ⟨(ob.cells.drop off).take (len * i.size) ++ news, true, i.size⟩) (hl _ _ ho) he hrw (.inr ⟨hne, hm'⟩) rfl
              (by simp only; rw [← hsz, e1]) hb (cs' := (cs.toList.take (ee.sh + off + len * i.size + 0) ++ vs ++ cs.toList.drop (ee.sh + off + len * i.size + 0 + vs.length)).toArray)
              (by simp; omega) (by simp only; omega) (by simp only [hcl]; omega) (fun j d hj => by
                simp only at hj
                have hsp := splice_get cs.toList (ee.sh + off + len * i.size) vs (by simp; omega) (ee.sh + off + j)
                simp only [splice] at hsp
                simp only [Nat.add_zero, List.getElem?_toArray]
                rw [hsp]
                have hfl : ((ob.cells.drop off).take (len * i.size)).length = len * i.size := by rw [hold.1, holdlen]
                by_cases hj2 : j < len * i.size
                · rw [List.getElem?_append_left (by rw [hfl]; exact hj2), List.getElem?_take, if_pos hj2, List.getElem?_drop] at hj
                  rw [if_neg (by omega)]
                  obtain ⟨q, a1, a2, a3⟩ := hcs _ d hj
                  exact ⟨q, by rw [Array.getElem?_toList, ← a1]; congr 1; omega, a2, a3⟩
                · rw [List.getElem?_append_right (by rw [hfl]; omega), hfl] at hj
                  obtain ⟨q, a1, a2, a3⟩ := hvl.get hj
                  have hlt := (List.getElem?_eq_some_iff.mp a1).1
                  rw [if_pos (by omega)]
                  exact ⟨q, by rw [← a1]; congr 1; omega, a2, a3⟩)
            refine ⟨.s id' 0 (len + k), _, _, _, _, _, .inl (run_v hrun), ?_, hstp, hrel, hK id' hH'⟩
            refine .s (upd_same _ _ _) hroom (.inr ⟨by simp, by simp only; omega⟩)
      · -- a new row
        cases A with
        | none => have := (hnone rfl).1; omega
        | some A =>
          have hholdB : ∀ j q, old[j]? = some q → w.cell? (B.add j) = some q := by
            rcases hB with h0 | ⟨rfl, _⟩
            · have : len = 0 := by omega
              subst this
              have : old = [] := List.eq_nil_of_length_eq_zero (by simpa using holdlen)
              subst this
              simp
            · exact holdc
          have hr := run_append_grow (P := P) w t ty e i z ht hi hz B len cap old holdlen hholdB A k c' vs hvlen (hcells A rfl) (by omega) (by omega) (growslice_fits (by omega) (by omega))
          have hst := Stp.drop (m := m) hl id ho
          refine Ex.after hst ?_
          refine ex_grown (H := del H id) (HT := del HT id) hst.sub (hR.mono (HLe.del HT id)) hall hcl (grownCap_ge w (len + k) cap e) hzs (by simp) (run_v hr) (fun id' hm' hH' => ?_)
          have hne : id' ≠ id := fun q => by rw [q, he] at hm'; cases hm'
          rw [del_ne _ hne] at hH'
          exact hK id' hH'

end Go.Proofs.Ytpppkmeolknofaa
