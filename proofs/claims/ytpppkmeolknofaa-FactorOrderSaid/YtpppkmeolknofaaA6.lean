/- copy, slicing, composite values, parts of values: the machine does as the abstract heap says. No condition. -/
import Derived.Test.YtpppkmeolknofaaA5
namespace Go.Proofs.Ytpppkmeolknofaa
open Go Go.RowKit
set_option linter.unusedSimpArgs false
set_option linter.unusedVariables false

variable {P : Program} {m : AMap} {H HT : AH} {g : Out} {w : World} {K : AV → AH → Prop}

theorem upd_self {α : Type} {H : Nat → Option α} {id : Nat} {ob : α} (h : H id = some ob) : upd H id ob = H := by
  funext j
  by_cases q : j = id
  · subst q; rw [upd_same, h]
  · rw [upd_ne _ _ q]

theorem splice_nil {α : Type} (l : List α) (off : Nat) : splice l off [] = l := by simp [splice]

theorem ex_cp {t t' ty e : TypeId} {i : TypeInfo} (ht : P.underlying t = some (.slice e)) (hi : P.info? e = some i) (hs : i.size = 1)
    (hl : HLe H HT) (hR : Rel m HT g w) {x y : AV} {v u : Value} (hx : VR m x v) (hy : VR m y u)
    (h : ∃ id off len ob k news, x = .s id off len ∧ H id = some ob ∧ ob.rw = true ∧ ob.sz = 1 ∧ off + len ≤ ob.cells.length ∧ src H 1 y = some (k, news) ∧
      K (.i .i64 (Nat.min k len)) (upd H id { ob with cells := splice ob.cells off (news.take (Nat.min k len)) })) : Ex P (do pure (.value (← Builtin.copy_ #[t, t'] ty #[v, u]))) m H HT g w K := by
  obtain ⟨id, off, len, ob, k, news, rfl, ho, hrw, hsz, hin, hsrc, hK⟩ := h
  obtain ⟨A, c', vs, rfl, hkc, hvl, hvlen, hnone, hcells⟩ := src_rel hl hR hy hsrc
  cases hx with
  | @s _ _ _ ee B cap he hlen hB =>
    have hnl : news.length = k := by rw [hvl.1, hvlen, Nat.mul_one]
    by_cases hz : Nat.min k len = 0
    · rw [hz, List.take_zero, splice_nil, upd_self ho] at hK
      refine Ex.same hl hR (x := .i .i64 ((0 : Nat) : Int)) (v := goInt 0) (run_v ?_) (.i _ _) hK
      have hf : (Builtin.firstCells 1 0 (.slice A k c')).run P w = .ok #[] w := by
        cases A with
        | none => simp [Builtin.firstCells]
        | some b => simp [Builtin.firstCells, loadCells, loadCellsFrom]
      simp [Builtin.copy_, run_underlying ht, Builtin.lenOf, hz, run_sizeOf hi, hs, hf, storeCells]
    · have hpos : 0 < Nat.min k len := Nat.pos_of_ne_zero hz
      have hk : 0 < k := Nat.lt_of_lt_of_le hpos (Nat.min_le_left _ _)
      have hln : 0 < len := Nat.lt_of_lt_of_le hpos (Nat.min_le_right _ _)
      obtain ⟨rfl, hr2⟩ := hB.resolve_left (by omega)
      cases A with
      | none => have := (hnone rfl).1; omega
      | some A =>
        have hml : Nat.min k len ≤ k := Nat.min_le_left _ _
        have hml' : Nat.min k len ≤ len := Nat.min_le_right _ _
        have hv := hvl.take (Nat.min k len)
        have htl : (news.take (Nat.min k len)).length = Nat.min k len := by rw [List.length_take, hnl]; exact Nat.min_eq_left hml
        obtain ⟨w', h1, h2, h3⟩ := write_at (P := P) hl hR ho he hrw off hv (by omega)
        have hld := run_firstCells_some (P := P) w 1 (Nat.min k len) A k c' (vs.take (Nat.min k len)) (by rw [← hv.1, htl, Nat.mul_one]) (fun j q hq => hcells A rfl j q (by rw [List.getElem?_take] at hq; split at hq <;> first | exact hq | cases hq))
        refine ⟨_, _, w', m, _, _, .inl (run_v ?_), .i .i64 (Nat.min k len : Nat), h2, h3, hK⟩
        simp [Builtin.copy_, run_underlying ht, Builtin.lenOf, run_sizeOf hi, hs, hld, h1, goInt]

def bnd : Option AV → Int → Int → Prop
  | none, d, r => r = d
  | some x, _, r => ∃ k, x = .i k r

def VO (m : AMap) : Option AV → Option Value → Prop
  | none, none => True
  | some x, some v => VR m x v
  | _, _ => False

theorem bnd_some {x : Option AV} {v : Option Value} (h : VO m x v) {d r : Int} (hb : bnd x d r) : (x = none ∧ v = none ∧ r = d) ∨ ∃ k, v = some (.int k r) ∧ x.isSome = true := by
  cases x with
  | none => cases v with
    | none => exact .inl ⟨rfl, rfl, hb⟩
    | some v => exact h.elim
  | some x => cases v with
    | none => exact h.elim
    | some v => obtain ⟨k, rfl⟩ := hb; cases h; exact .inr ⟨k, rfl, rfl⟩

theorem ex_sl {t e : TypeId} {i : TypeInfo} (ht : P.underlying t = some (.slice e)) (hi : P.info? e = some i) (hl : HLe H HT) (hR : Rel m HT g w) {x : AV} {v : Value} {lo hi' : Option AV} {vlo vhi : Option Value}
    (hx : VR m x v) (hlo : VO m lo vlo) (hhi : VO m hi' vhi)
    (h : ∃ id off len l r ob, x = .s id off len ∧ H id = some ob ∧ ob.sz = i.size ∧ bnd lo 0 l ∧ bnd hi' len r ∧ 0 ≤ l ∧ l ≤ r ∧ r ≤ (len : Int) ∧ K (.s id (off + l.toNat * i.size) (r.toNat - l.toNat)) H) :
    Ex P (do pure (.value (← Instr.sliceAt t v vlo vhi none))) m H HT g w K := by
  obtain ⟨id, off, len, l, r, ob, rfl, ho, hsz, bl, br, h0, hlr, hrl, hK⟩ := h
  cases hx with
  | @s _ _ _ ee A cap he hc hA =>
    have hb : (Instr.sliceBounds true len cap vlo vhi none).run P w = .ok (l.toNat, r.toNat, cap) w := by
      have er : (r.toNat : Int) = r := Int.toNat_of_nonneg (by omega)
      have hrc : r ≤ (cap : Int) := by omega
      rcases bnd_some hlo bl with ⟨_, rfl, rfl⟩ | ⟨k, rfl, _⟩ <;> rcases bnd_some hhi br with ⟨_, rfl, rfl⟩ | ⟨k', rfl, _⟩
      · simp [Instr.sliceBounds]
      · simp [Instr.sliceBounds, run_sliceBound, show (0 : Int) ≤ r by omega, hrc]
      · simp [Instr.sliceBounds, run_sliceBound, h0, hlr]
      · simp [Instr.sliceBounds, run_sliceBound, h0, hlr, show (0 : Int) ≤ r by omega, hrc, er]
    have hrun : (Instr.slice t (.slice (some A) len cap) vlo vhi none).run P w = .ok (.slice (if cap = l.toNat then some A else (some A).map (·.add (l.toNat * i.size))) (r.toNat - l.toNat) (cap - l.toNat)) w := by
      simp only [Instr.slice, Sem.run_bind, run_underlying ht, Result.andThen_ok, hb, run_sizeOf hi]
      rfl
    have hat : (Instr.sliceAt t (.slice (some A) len cap) vlo vhi none).run P w = (Instr.slice t (.slice (some A) len cap) vlo vhi none).run P w := by
      simp [Instr.sliceAt, run_underlying ht]
    refine Ex.same hl hR (run_v (hat.trans hrun)) ?_ hK
    by_cases hcl : cap = l.toNat
    · rw [if_pos hcl]
      exact .s he (by omega) (.inl (by omega))
    · rw [if_neg hcl]
      refine .s he (by omega) (.inr ?_)
      obtain ⟨rfl, hr2⟩ := hA.resolve_left (by omega)
      refine ⟨by show Addr.add _ _ = _; rw [Addr.add_lit, Nat.add_assoc], ?_⟩
      have hsz2 : ee.sz = i.size := by
        obtain ⟨e', he', hor⟩ := hR.live id ob (hl _ _ ho)
        rw [he] at he'
        obtain rfl := Option.some.inj he'
        rw [← hsz, hor.1]
      rw [hsz2] at hr2 ⊢
      have h1 : l.toNat * i.size + (cap - l.toNat) * i.size = cap * i.size := by rw [← Nat.add_mul]; congr 1; omega
      omega


theorem ex_sln {t e : TypeId} {i : TypeInfo} (ht : P.underlying t = some (.slice e)) (hi : P.info? e = some i) (hl : HLe H HT) (hR : Rel m HT g w) {x : AV} {v : Value} {lo hi' : Option AV} {vlo vhi : Option Value}
    (hx : VR m x v) (hlo : VO m lo vlo) (hhi : VO m hi' vhi) (h : (x = .ns ∨ x = .es) ∧ bnd lo 0 0 ∧ bnd hi' 0 0 ∧ K x H) :
    Ex P (do pure (.value (← Instr.sliceAt t v vlo vhi none))) m H HT g w K := by
  obtain ⟨hx', bl, br, hK⟩ := h
  have hb : (Instr.sliceBounds true 0 0 vlo vhi none).run P w = .ok (0, 0, 0) w := by
    rcases bnd_some hlo bl with ⟨_, rfl, _⟩ | ⟨k, rfl, _⟩ <;> rcases bnd_some hhi br with ⟨_, rfl, _⟩ | ⟨k', rfl, _⟩ <;> simp [Instr.sliceBounds, run_sliceBound]
  have hrun : ∀ a, (Instr.sliceAt t (.slice a 0 0) vlo vhi none).run P w = .ok (.slice a 0 0) w := by
    intro a
    simp only [Instr.sliceAt, Instr.slice, Sem.run_bind, run_underlying ht, Result.andThen_ok, hb, run_sizeOf hi]
    rfl
  rcases hx' with rfl | rfl
  · cases hx
    exact Ex.same hl hR (run_v (hrun none)) .ns hK
  · cases hx
    exact Ex.same hl hR (run_v (hrun _)) .es hK

/-- `s[:0:0]` and its like: nothing, and no room -/
theorem ex_sl0 {t e : TypeId} {i : TypeInfo} (ht : P.underlying t = some (.slice e)) (hi : P.info? e = some i) (hl : HLe H HT) (hR : Rel m HT g w) {x : AV} {v : Value} {k k' : IntKind}
    (hx : VR m x v) (h : (x = .ns ∧ K .ns H) ∨ ((x = .es ∨ ∃ id off len, x = .s id off len) ∧ K .es H)) :
    Ex P (do pure (.value (← Instr.sliceAt t v none (some (.int k 0)) (some (.int k' 0))))) m H HT g w K := by
  have hrun : ∀ a n c, (Instr.sliceAt t (.slice a n c) none (some (.int k 0)) (some (.int k' 0))).run P w = .ok (.slice a 0 0) w := by
    intro a n c
    have hb : (Instr.sliceBounds true n c none (some (.int k 0)) (some (.int k' 0))).run P w = .ok (0, 0, 0) w := by simp [Instr.sliceBounds, run_sliceBound]
    simp only [Instr.sliceAt, Instr.slice, Sem.run_bind, run_underlying ht, Result.andThen_ok, hb, run_sizeOf hi]
    rfl
  rcases h with ⟨rfl, hK⟩ | ⟨hx', hK⟩
  · cases hx
    exact Ex.same hl hR (run_v (hrun _ _ _)) .ns hK
  · rcases hx' with rfl | ⟨id, off, len, rfl⟩
    · cases hx
      exact Ex.same hl hR (run_v (hrun _ _ _)) .es hK
    · cases hx
      exact Ex.same hl hR (run_v (hrun _ _ _)) .es hK

/-- composite values: parts laid over zeros -/
def afill (place : Nat → Option (Nat × Nat)) (cells : List AV) : List (Nat × AV) → Option (List AV)
  | [] => some cells
  | (i, v) :: rest =>
    match place i, cellsOf v with
    | some (off, size), some cs => if cs.length = size ∧ off + cs.length ≤ cells.length then afill place (splice cells off cs) rest else none
    | _, _ => none

theorem foldl_splice (off : Nat) : ∀ (vs : List Value) (k : Nat) (cells : Array Value), off + k + vs.length ≤ cells.size →
    ((vs.zipIdx k).foldl (fun cs (c, j) => cs.setIfInBounds (off + j) c) cells).toList = splice cells.toList (off + k) vs
  | [], k, cells, _ => by simp [splice]
  | v :: vs, k, cells, h => by
    simp only [List.zipIdx_cons, List.foldl_cons]
    rw [foldl_splice off vs (k + 1) _ (by simp at h ⊢; omega)]
    simp only [Array.toList_setIfInBounds]
    apply List.ext_getElem?
    intro j
    have hlen : (cells.toList.set (off + k) v).length = cells.size := by simp
    have hl1 : off + (k + 1) + vs.length ≤ (cells.toList.set (off + k) v).length := by rw [hlen]; simp at h; omega
    rw [splice_get _ _ _ hl1, splice_get _ _ _ (by simp at h ⊢; omega)]
    simp only [List.length_cons] at h ⊢
    by_cases h1 : off + (k + 1) ≤ j ∧ j < off + (k + 1) + vs.length
    · rw [if_pos h1, if_pos (by omega)]
      obtain ⟨q, hq⟩ : ∃ q, j - (off + k) = q + 1 := ⟨j - (off + k) - 1, by omega⟩
      rw [hq, List.getElem?_cons_succ]
      congr 1; omega
    · rw [if_neg h1]
      by_cases h2 : j = off + k
      · subst h2
        rw [if_pos (by omega), List.getElem?_set_self (by simp; omega)]
        simp
      · rw [if_neg (by omega), List.getElem?_set_ne (Ne.symm h2)]

theorem afill_rel {place : Nat → Option (Nat × Nat)} : ∀ (parts : List (Nat × AV)) (vparts : List (Nat × Value)) (cells : List AV) (vcells : Array Value) (r : List AV),
    parts.length = vparts.length → (∀ (j : Nat) (p : Nat × AV) (q : Nat × Value), parts[j]? = some p → vparts[j]? = some q → p.1 = q.1 ∧ VR m p.2 q.2) → VL m cells vcells.toList → afill place cells parts = some r →
    ∃ vr, Instr.fill place vcells vparts = some vr ∧ VL m r vr.toList
  | [], [], cells, vcells, r, _, _, hv, h => by
    simp only [afill, Option.some.injEq] at h
    subst h
    exact ⟨vcells, rfl, hv⟩
  | [], q :: qs, _, _, _, hlen, _, _, _ => by simp at hlen
  | p :: ps, [], _, _, _, hlen, _, _, _ => by simp at hlen
  | (i, x) :: ps, (j, v) :: qs, cells, vcells, r, hlen, hrel, hv, h => by
    obtain ⟨hij, hx⟩ := hrel 0 (i, x) (j, v) rfl rfl
    simp only at hij hx
    subst hij
    simp only [afill] at h
    cases hp : place i with
    | none => rw [hp] at h; cases h
    | some pq =>
      obtain ⟨off, size⟩ := pq
      rw [hp] at h
      cases hc : cellsOf x with
      | none => rw [hc] at h; cases h
      | some cs =>
        rw [hc] at h
        simp only at h
        split at h
        · rename_i hin
          have hcv := cellsOf_rel hx hc
          have hsz : v.cells.size = size := by rw [← hin.1, hcv.1]; simp
          have hle : off + v.cells.size ≤ vcells.size := by
            have h1 := hv.1
            have h2 := hcv.1
            simp at h1 h2
            omega
          have hfold := foldl_splice off v.cells.toList 0 vcells (by simpa using hle)
          have key : (v.cells.zipIdx.foldl (fun cs (c, j) => cs.setIfInBounds (off + j) c) vcells).toList = splice vcells.toList off v.cells.toList := by
            rw [← Array.foldl_toList]
            simpa using hfold
          obtain ⟨vr, h1, h2⟩ := afill_rel ps qs (splice cells off cs) (v.cells.zipIdx.foldl (fun cs (c, j) => cs.setIfInBounds (off + j) c) vcells) r (by simpa using hlen)
            (fun k p q a b => hrel (k + 1) p q (by simpa using a) (by simpa using b)) (by rw [key]; exact hv.splice hcv off) h
          refine ⟨vr, ?_, h2⟩
          rw [Instr.fill, hp]
          simp only
          rw [if_neg (by simp [hsz]; omega)]
          exact h1
        · cases h

end Go.Proofs.Ytpppkmeolknofaa
