/- The slim operations are sound: the machine's operation does as the slim one says. No condition. -/
import Derived.Test.YtpppkmeolknofaaA7
namespace Go.Proofs.Ytpppkmeolknofaa
open Go Go.RowKit
set_option linter.unusedSimpArgs false
set_option linter.unusedVariables false

theorem o1_some {x : Operand} {f : SV → SO} {so : SO} (h : o1 x f = some so) : ∃ sx, ofO x = some sx ∧ so = f sx := by
  unfold o1 at h
  cases hx : ofO x with
  | none => rw [hx] at h; cases h
  | some a => rw [hx] at h; exact ⟨a, rfl, (Option.some.inj h).symm⟩
theorem o2_some {x y : Operand} {f : SV → SV → SO} {so : SO} (h : o2 x y f = some so) : ∃ sx sy, ofO x = some sx ∧ ofO y = some sy ∧ so = f sx sy := by
  unfold o2 at h
  cases hx : ofO x with
  | none => rw [hx] at h; cases h
  | some a =>
    cases hy : ofO y with
    | none => rw [hx, hy] at h; cases h
    | some b => rw [hx, hy] at h; exact ⟨a, b, rfl, rfl, (Option.some.inj h).symm⟩
theorem oO_rel {n : Nat} {m : AMap} {a : Nat → AV} {act : Act} (h : SR n m a act.tmps) {x : Option Operand} {sx : Option SV} (hx : oO x = some sx) (hn : ∀ y ∈ sx.toList, opIn n y = true) :
    VO m (sx.map (evS a)) (x.map act.eval) := by
  cases x with
  | none => simp [oO] at hx; subst hx; trivial
  | some x =>
    simp only [oO, Option.map_eq_some_iff] at hx
    obtain ⟨s, hs, rfl⟩ := hx
    exact ev_rel h hs (hn s (by simp))
theorem oP_rel {n : Nat} {m : AMap} {a : Nat → AV} {act : Act} (h : SR n m a act.tmps) : ∀ {ps : List (Nat × Operand)} {ss : List (Nat × SV)}, oP ps = some ss → (∀ x ∈ ss.map (·.2), opIn n x = true) →
    (ss.map fun p => (p.1, evS a p.2)).length = (ps.map fun p => (p.1, act.eval p.2)).length ∧
    ∀ (j : Nat) (p : Nat × AV) (q : Nat × Value), (ss.map fun p => (p.1, evS a p.2))[j]? = some p → (ps.map fun p => (p.1, act.eval p.2))[j]? = some q → p.1 = q.1 ∧ VR m p.2 q.2
  | [], ss, hx, _ => by simp [oP] at hx; subst hx; simp
  | (i, x) :: xs, ss, hx, hn => by
    simp only [oP] at hx
    cases h1 : ofO x with
    | none => rw [h1] at hx; cases hx
    | some s =>
      cases h2 : oP xs with
      | none => rw [h1, h2] at hx; cases hx
      | some ss' =>
        rw [h1, h2] at hx
        obtain rfl := Option.some.inj hx
        obtain ⟨e1, e2⟩ := oP_rel h h2 (fun y hy => hn y (by simp at hy ⊢; exact .inr hy))
        refine ⟨by simpa using e1, fun j p q hp hq => ?_⟩
        cases j with
        | zero =>
          simp at hp hq
          subst hp; subst hq
          exact ⟨rfl, ev_rel h h1 (hn s (by simp))⟩
        | succ j => exact e2 j p q (by simpa using hp) (by simpa using hq)

theorem sliceElem_some {P : Program} {t : TypeId} {i : TypeInfo} (h : sliceElem P t = some i) : ∃ e, P.underlying t = some (.slice e) ∧ P.info? e = some i := by
  unfold sliceElem at h
  split at h
  · rename_i e he; exact ⟨e, he, h⟩
  · cases h
theorem fieldOff_some {P : Program} {t : TypeId} {f off : Nat} {ft : TypeId} (h : fieldOff P t f = some (off, ft)) :
    ∃ fs fd i, P.underlying t = some (.struct fs) ∧ fs[f]? = some fd ∧ P.info? fd.type = some i ∧ i.size ≠ 0 ∧ fd.offset = off ∧ fd.type = ft := by
  unfold fieldOff at h
  split at h
  · rename_i fs hfs
    split at h
    · rename_i fd hfd
      split at h
      · rename_i i hi
        split at h
        · cases h
        · rename_i hs
          simp only [Option.some.injEq, Prod.mk.injEq] at h
          exact ⟨fs, fd, i, hfs, hfd, hi, hs, h.1, h.2⟩
      · cases h
    · cases h
  · cases h
theorem leafs_some {zs : List Value} {as : List AV} (h : leafs zs = some as) (m : AMap) : VL m as zs := by
  unfold leafs at h
  split at h
  · rename_i hl
    obtain rfl := Option.some.inj h
    exact leafOf_list hl m
  · cases h

variable {P : Program} {m : AMap} {H HT : AH} {g : Out} {w : World} {K : AV → AH → Prop}

theorem run_equal_bool_d {t : TypeId} (ht : P.underlying t = some .bool) (d : Nat) (p q : Bool) (w : World) : (Op.equalIn (d + 1) t (.bool p) (.bool q)).run P w = .ok (p == q) w := by
  simp [Op.equalIn, run_underlying ht]
theorem run_equal_slice_d {t e : TypeId} (ht : P.underlying t = some (.slice e)) (d : Nat) (a : Option Addr) (n c : Nat) (w : World) : (Op.equalIn (d + 1) t (.slice a n c) (.slice none 0 0)).run P w = .ok a.isNone w := by
  cases a <;> simp [Op.equalIn, run_underlying ht]
theorem run_equal_ptr_d {t e : TypeId} (ht : P.underlying t = some (.pointer e)) (d : Nat) (a : Option Addr) (w : World) : (Op.equalIn (d + 1) t (.pointer a) (.pointer none)).run P w = .ok a.isNone w := by
  cases a <;> simp [Op.equalIn, run_underlying ht]
theorem run_equalIn_bool {t : TypeId} (ht : P.underlying t = some .bool) (p q : Bool) (w : World) : (Op.equal t (.bool p) (.bool q)).run P w = .ok (p == q) w := run_equal_bool_d ht 9999 p q w
theorem run_equal_slice {t e : TypeId} (ht : P.underlying t = some (.slice e)) (a : Option Addr) (n c : Nat) (w : World) : (Op.equal t (.slice a n c) (.slice none 0 0)).run P w = .ok a.isNone w := run_equal_slice_d ht 9999 a n c w
theorem run_equal_ptr {t e : TypeId} (ht : P.underlying t = some (.pointer e)) (a : Option Addr) (w : World) : (Op.equal t (.pointer a) (.pointer none)).run P w = .ok a.isNone w := run_equal_ptr_d ht 9999 a w

theorem VR.b_inv {m : AMap} {p : Bool} {v : Value} (h : VR m (.b p) v) : v = .bool p := by cases h; rfl
theorem ex_eb {op : BinOp} {t : TypeId} {x y : Operand} (ht : P.underlying t = some .bool) (neg : Bool) (hop : op = bif neg then .neq else .eql) (hl : HLe H HT) (hR : Rel m HT g w) {p q : Bool} {a : Operand → Value} (hx : a x = .bool p) (hy : a y = .bool q)
    (hK : K (.b (bif neg then p != q else p == q)) H) : Ex P (do pure (.value (← (do eqGuard op t x y (a x) (a y); binOp op t (a x) (a y) : Sem Value)))) m H HT g w K := by
  rw [hx, hy]
  cases neg
  · subst hop
    refine Ex.same hl hR (v := .bool (p == q)) (run_v ?_) (.b _) hK
    simp [eqGuard, binOp, run_equalIn_bool ht]
  · subst hop
    refine Ex.same hl hR (v := .bool (p != q)) (run_v ?_) (.b _) hK
    simp [eqGuard, binOp, run_equalIn_bool ht, bne]

theorem ex_en {op : BinOp} {t e : TypeId} {x y : Operand} (ht : P.underlying t = some (.slice e)) (neg : Bool) (hop : op = bif neg then .neq else .eql) (hl : HLe H HT) (hR : Rel m HT g w)
    {ax ay : AV} {vx vy : Value} (hx : VR m ax vx) (hy : VR m ay vy) (h : aen neg ax ay (fun v => K v H)) :
    Ex P (do pure (.value (← (do eqGuard op t x y vx vy; binOp op t vx vy : Sem Value)))) m H HT g w K := by
  have key : ∀ a n c, vx = .slice a n c → vy = .slice none 0 0 → K (.b (bif neg then !a.isNone else a.isNone)) H → Ex P (do pure (.value (← (do eqGuard op t x y vx vy; binOp op t vx vy : Sem Value)))) m H HT g w K := by
    intro a n c e1 e2 hK
    subst e1; subst e2; subst hop
    cases neg
    · refine Ex.same hl hR (v := .bool a.isNone) (run_v ?_) (.b _) hK
      simp [eqGuard, binOp, run_equal_slice ht]
    · refine Ex.same hl hR (v := .bool (!a.isNone)) (run_v ?_) (.b _) hK
      simp [eqGuard, binOp, run_equal_slice ht]
  unfold aen at h
  split at h
  · cases hx; cases hy; exact key none 0 0 rfl rfl (by cases neg <;> exact h)
  · cases hx; cases hy; exact key _ _ _ rfl rfl (by cases neg <;> exact h)
  · cases hx; cases hy; exact key _ _ _ rfl rfl (by cases neg <;> exact h)
  · exact h.elim

theorem ex_ep {op : BinOp} {t e : TypeId} {x y : Operand} (ht : P.underlying t = some (.pointer e)) (neg : Bool) (hop : op = bif neg then .neq else .eql) (hl : HLe H HT) (hR : Rel m HT g w)
    {ax ay : AV} {vx vy : Value} (hx : VR m ax vx) (hy : VR m ay vy) (h : aep neg ax ay (fun v => K v H)) :
    Ex P (do pure (.value (← (do eqGuard op t x y vx vy; binOp op t vx vy : Sem Value)))) m H HT g w K := by
  have key : ∀ a, vx = .pointer a → vy = .pointer none → K (.b (bif neg then !a.isNone else a.isNone)) H → Ex P (do pure (.value (← (do eqGuard op t x y vx vy; binOp op t vx vy : Sem Value)))) m H HT g w K := by
    intro a e1 e2 hK
    subst e1; subst e2; subst hop
    cases neg
    · refine Ex.same hl hR (v := .bool a.isNone) (run_v ?_) (.b _) hK
      simp [eqGuard, binOp, run_equal_ptr ht]
    · refine Ex.same hl hR (v := .bool (!a.isNone)) (run_v ?_) (.b _) hK
      simp [eqGuard, binOp, run_equal_ptr ht]
  unfold aep at h
  split at h
  · cases hx; cases hy; exact key none rfl rfl (by cases neg <;> exact h)
  · cases hx; cases hy; exact key _ rfl rfl (by cases neg <;> exact h)
  · exact h.elim

theorem ex_un {op : UnOp} (hl : HLe H HT) (hR : Rel m HT g w) {ax : AV} {vx : Value} (hx : VR m ax vx) (h : aun op ax (fun v => K v H)) : Ex P (do pure (.value (← Op.unary op vx))) m H HT g w K := by
  unfold aun at h
  split at h
  · cases hx
    exact Ex.same hl hR (run_v (by simp [Op.unary, Op.intArith])) (.i _ _) (arK_wrap h)
  · cases hx
    exact Ex.same hl hR (run_v (by simp [Op.unary])) (.b _) h
  · cases hx
    exact Ex.same hl hR (run_v (by simp [Op.unary, Op.intBits])) (.i _ _) h
  · exact h.elim

end Go.Proofs.Ytpppkmeolknofaa
