/- What a slim operation says, the machine's operation does. No condition. · Calls, regions in the text's order, code: what is said of slots and the abstract heap, the machine does. No condition. · One operation, and regions in the text's order. No condition. · Which operations may change places: what a drawn region's order leaves as it is. No condition. · Two operations that stand in no order give the same in either. No condition. · A drawn region: whatever order is drawn, one order told is enough. No condition. · Code: sequences, branches, blocks, loops, and the contract of a function out of its code. No condition. · Functions whose results stand in memory cells: their contract, out of their code. No condition. · Words for stepping through slim code. No condition. -/
import Derived.Test.YtdkdainipanacaaXA
import Derived.KernelRfl
namespace Go.Proofs.Ytdkdainipanacaa
open Go Go.RowKit
set_option linter.unusedSimpArgs false
set_option linter.unusedVariables false

variable {P : Program} {m : AMap} {H HT : AH} {g : Out} {w : World} {K : AV → AH → Prop}

theorem Ex.eq {s s' : Sem Next} (e : s = s') (h : Ex P s' m H HT g w K) : Ex P s m H HT g w K := e ▸ h

def SO.plain : SO → Bool
  | .ca _ _ => false
  | .cf _ _ => false
  | .cal _ _ => false
  | .apl _ _ _ _ => false
  | _ => true

theorem constP_some {n : Nat} : ∀ {ps : List (Nat × SV)} {cs : List (Nat × AV)}, constP ps = some cs → ∀ a : Nat → AV, (ps.map fun p => (p.1, evS a p.2)) = cs ∧ ∀ x ∈ ps.map (·.2), opIn n x = true
  | [], cs, h, a => by simp [constP] at h; subst h; simp
  | (i, .k v) :: ps, cs, h, a => by
    simp only [constP] at h
    split at h
    · rename_i r hr
      obtain rfl := Option.some.inj h
      obtain ⟨e1, e2⟩ := constP_some (n := n) hr a
      refine ⟨by rw [List.map_cons, e1]; rfl, fun x hx => ?_⟩
      simp only [List.map_cons, List.mem_cons] at hx
      rcases hx with rfl | hx
      · rfl
      · exact e2 x hx
    · cases h
  | (i, .t v) :: ps, cs, h, a => by simp [constP] at h

/-- an argument list and the machine's -/
def VLs (m : AMap) (xs : List AV) (vs : List Value) : Prop := xs.length = vs.length ∧ ∀ (j : Nat) (x : AV) (v : Value), xs[j]? = some x → vs[j]? = some v → VR m x v

theorem oL_rel {n : Nat} {m : AMap} {a : Nat → AV} {act : Act} (h : SR n m a act.tmps) : ∀ {xs : List Operand} {ss : List SV}, oL xs = some ss → (∀ x ∈ ss, opIn n x = true) → VLs m (ss.map (evS a)) (xs.map act.eval)
  | [], ss, hx, _ => by simp [oL] at hx; subst hx; exact ⟨rfl, by simp⟩
  | x :: xs, ss, hx, hn => by
    simp only [oL] at hx
    cases h1 : ofO x with
    | none => rw [h1] at hx; cases hx
    | some s =>
      cases h2 : oL xs with
      | none => rw [h1, h2] at hx; cases hx
      | some ss' =>
        rw [h1, h2] at hx
        obtain rfl := Option.some.inj hx
        obtain ⟨e1, e2⟩ := oL_rel h h2 (fun y hy => hn y (by simp [hy]))
        refine ⟨by simpa using e1, fun j p q hp hq => ?_⟩
        cases j with
        | zero => simp at hp hq; subst hp; subst hq; exact ev_rel h h1 (hn s (by simp))
        | succ j => exact e2 j p q (by simpa using hp) (by simpa using hq)

theorem aop_sound {o : Oper} {so : SO} (htr : trO P o = some so) {n : Nat} (hn : ∀ x ∈ so.svs, opIn n x = true) {a : Nat → AV} {act : Act} (hS : SR n m a act.tmps) (hl : HLe H HT) (hR : Rel m HT g w)
    (h : aop so a H K) : Ex P (execOp act.eval o) m H HT g w K := by
  obtain ⟨dst, op, ty, pos, after, guard⟩ := o
  cases op
  case move x =>
    obtain ⟨sx, hx, rfl⟩ := o1_some htr
    exact Ex.same hl hR rfl (ev_rel hS hx (hn sx (by simp [SO.svs]))) h
  case assign x =>
    obtain ⟨sx, hx, rfl⟩ := o1_some htr
    exact Ex.same hl hR rfl (ev_rel hS hx (hn sx (by simp [SO.svs]))) h
  case pick c x y =>
    simp only [trO] at htr
    split at htr
    · rename_i sc hc
      obtain ⟨sx, sy, hx, hy, rfl⟩ := o2_some htr
      exact ex_pk hl hR (ev_rel hS hc (hn _ (by simp [SO.svs]))) (ev_rel hS hx (hn _ (by simp [SO.svs]))) (ev_rel hS hy (hn _ (by simp [SO.svs]))) h
    · cases htr
  case binOp op t x y u =>
    have bin : ∀ op' so', o2 x y (.bin op') = some so' → so = so' → op = op' → Ex P (execOp act.eval ⟨dst, .binOp op t x y u, ty, pos, after, guard⟩) m H HT g w K := by
      intro op' so' h1 h2 h3
      subst h2; subst h3
      obtain ⟨sx, sy, hx, hy, rfl⟩ := o2_some h1
      obtain ⟨r, v, h1, h2, h3⟩ := abin_run (P := P) (t := t) (ox := x) (oy := y) (w := w) (ev_rel hS hx (hn _ (by simp [SO.svs]))) (ev_rel hS hy (hn _ (by simp [SO.svs]))) (show abin op (evS a sx) (evS a sy) (fun v => K v H) from h)
      exact Ex.same hl hR (run_v h1) h2 h3
    have eb : ∀ neg, P.underlying t = some .bool → op = (bif neg then .neq else .eql) → o2 x y (.eb neg) = some so → Ex P (execOp act.eval ⟨dst, .binOp op t x y u, ty, pos, after, guard⟩) m H HT g w K := by
      intro neg ht hop h1
      obtain ⟨sx, sy, hx, hy, rfl⟩ := o2_some h1
      obtain ⟨p, q, e1, e2, hK⟩ := h
      have r1 := ev_rel hS hx (hn _ (by simp [SO.svs]))
      have r2 := ev_rel hS hy (hn _ (by simp [SO.svs]))
      rw [e1] at r1; rw [e2] at r2
      exact ex_eb (a := act.eval) ht neg hop hl hR r1.b_inv r2.b_inv hK
    have en : ∀ neg e, P.underlying t = some (.slice e) → op = (bif neg then .neq else .eql) → o2 x y (.en neg) = some so → Ex P (execOp act.eval ⟨dst, .binOp op t x y u, ty, pos, after, guard⟩) m H HT g w K := by
      intro neg e ht hop h1
      obtain ⟨sx, sy, hx, hy, rfl⟩ := o2_some h1
      exact ex_en ht neg hop hl hR (ev_rel hS hx (hn _ (by simp [SO.svs]))) (ev_rel hS hy (hn _ (by simp [SO.svs]))) h
    have ep : ∀ neg e, P.underlying t = some (.pointer e) → op = (bif neg then .neq else .eql) → o2 x y (.ep neg) = some so → Ex P (execOp act.eval ⟨dst, .binOp op t x y u, ty, pos, after, guard⟩) m H HT g w K := by
      intro neg e ht hop h1
      obtain ⟨sx, sy, hx, hy, rfl⟩ := o2_some h1
      exact ex_ep ht neg hop hl hR (ev_rel hS hx (hn _ (by simp [SO.svs]))) (ev_rel hS hy (hn _ (by simp [SO.svs]))) h
    cases op
    case eql =>
      simp only [trO] at htr
      split at htr
      · rename_i ht; exact eb false ht rfl htr
      · rename_i e ht; exact en false e ht rfl htr
      · rename_i e ht; exact ep false e ht rfl htr
      · exact bin _ _ htr rfl rfl
      · cases htr
    case neq =>
      simp only [trO] at htr
      split at htr
      · rename_i ht; exact eb true ht rfl htr
      · rename_i e ht; exact en true e ht rfl htr
      · rename_i e ht; exact ep true e ht rfl htr
      · exact bin _ _ htr rfl rfl
      · cases htr
    all_goals exact bin _ _ htr rfl rfl
  case unOp op t x =>
    obtain ⟨sx, hx, rfl⟩ := o1_some htr
    exact ex_un hl hR (ev_rel hS hx (hn sx (by simp [SO.svs]))) h
  case convert s d x =>
    simp only [trO] at htr
    split at htr
    · rename_i k0 k hs hd
      obtain ⟨sx, hx, rfl⟩ := o1_some htr
      exact ex_cv hs hd hl hR (ev_rel hS hx (hn sx (by simp [SO.svs]))) h
    · cases htr
  case nilCheck x =>
    obtain ⟨sx, hx, rfl⟩ := o1_some htr
    exact ex_nc hl hR rfl rfl (ev_rel hS hx (hn sx (by simp [SO.svs]))) h
  case extract x i =>
    obtain ⟨sx, hx, rfl⟩ := o1_some htr
    exact ex_ex hl hR (ev_rel hS hx (hn sx (by simp [SO.svs]))) h
  case load t x =>
    simp only [trO] at htr
    split at htr
    · rename_i d i hd hi
      split at htr
      · rename_i ha
        obtain ⟨sx, hx, rfl⟩ := o1_some htr
        exact ex_ldn hd ha hi hl hR (ev_rel hS hx (hn sx (by simp [SO.svs]))) h
      · rename_i ha
        obtain ⟨sx, hx, rfl⟩ := o1_some htr
        exact ex_ld hd (by simpa using ha) hl hR (ev_rel hS hx (hn sx (by simp [SO.svs]))) h
    · cases htr
  case store t x v =>
    simp only [trO] at htr
    split at htr
    · rename_i i hi
      obtain ⟨sx, sy, hx, hy, rfl⟩ := o2_some htr
      exact ex_st hi hl hR (ev_rel hS hx (hn _ (by simp [SO.svs]))) (ev_rel hS hy (hn _ (by simp [SO.svs]))) h
    · cases htr
  case indexAddr t x ix =>
    simp only [trO] at htr
    split at htr
    · rename_i i hi
      obtain ⟨e, he, hie⟩ := sliceElem_some hi
      obtain ⟨sx, sy, hx, hy, rfl⟩ := o2_some htr
      exact ex_ix he hie hl hR (ev_rel hS hx (hn _ (by simp [SO.svs]))) (ev_rel hS hy (hn _ (by simp [SO.svs]))) h
    · cases htr
  case fieldAddr t x f =>
    simp only [trO] at htr
    split at htr
    · rename_i off ft hf
      obtain ⟨fs, fd, i, h1, h2, h3, h4, h5, h6⟩ := fieldOff_some hf
      obtain ⟨sx, hx, rfl⟩ := o1_some htr
      subst h5
      exact ex_fd h1 h2 h3 h4 hl hR (ev_rel hS hx (hn sx (by simp [SO.svs]))) h
    · cases htr
  case slice t x lo hi mx =>
    simp only [trO] at htr
    split at htr
    · rename_i i hi
      obtain ⟨e, he, hie⟩ := sliceElem_some hi
      split at htr
      · split at htr
        · rename_i sx slo shi hx hlo hhi
          obtain rfl := Option.some.inj htr
          have rx := ev_rel hS hx (hn _ (by simp [SO.svs]))
          have rlo := oO_rel hS hlo (fun y hy => hn y (by simp [SO.svs] at hy ⊢; exact .inr (.inl hy)))
          have rhi := oO_rel hS hhi (fun y hy => hn y (by simp [SO.svs] at hy ⊢; exact .inr (.inr hy)))
          rcases h with h | h
          · exact ex_sl he hie hl hR rx rlo rhi h
          · obtain ⟨h1, h2, h3, h4⟩ := h
            exact ex_sln he hie hl hR rx rlo rhi ⟨h1, h2, h3, h4⟩
        · cases htr
      · split at htr
        · rename_i hi'
          split at htr
          · rename_i hc
            obtain ⟨sx, hx, rfl⟩ := o1_some htr
            have rx := ev_rel hS hx (hn _ (by simp [SO.svs]))
            rename_i mx' _
            simp only [Bool.and_eq_true] at hc
            have c0 : ∀ q : Operand, isConst0 q = true → ∃ k, q = .const (.int k 0) := by
              intro q hq
              unfold isConst0 at hq
              split at hq
              · exact ⟨_, rfl⟩
              · cases hq
            obtain ⟨k1, rfl⟩ := c0 _ hc.1
            obtain ⟨k2, rfl⟩ := c0 _ hc.2
            exact ex_sl0 he hie hl hR rx h
          · split at htr
            · rename_i sx sh sm hx hh hmx
              obtain rfl := Option.some.inj htr
              have rx := ev_rel hS hx (hn _ (by simp [SO.svs]))
              have rh := ev_rel hS hh (hn _ (by simp [SO.svs]))
              have rm := ev_rel hS hmx (hn _ (by simp [SO.svs]))
              obtain ⟨k, k', r, c, e1, e2, h0, h1, h2⟩ := h
              rw [e1] at rh
              rw [e2] at rm
              have em : ∀ kk cc q, VR m (.i kk cc) q → q = .int kk cc := fun kk cc q hq => by cases hq; rfl
              have eh := em _ _ _ rh
              have em' := em _ _ _ rm
              exact Ex.eq (by simp only [execOp, Option.map, eh, em']) (ex_sl3 (k := k) (k' := k') he hie hl hR rx ⟨h0, h1, h2⟩)
            · cases htr
        · cases htr
    · cases htr
  case makeSlice t l c =>
    simp only [trO] at htr
    split at htr
    · rename_i i hi
      obtain ⟨e, he, hie⟩ := sliceElem_some hi
      split at htr
      · rename_i z hz
        split at htr
        · rename_i hc
          obtain ⟨sx, sy, hx, hy, rfl⟩ := o2_some htr
          exact ex_mk he hie hz hc.1 (by cases z <;> first | rfl | (simp [aggV] at hc)) hc.2.2 hl hR (ev_rel hS hx (hn _ (by simp [SO.svs]))) (ev_rel hS hy (hn _ (by simp [SO.svs]))) h
        · cases htr
      · cases htr
    · cases htr
  case buildSlice t len parts =>
    simp only [trO] at htr
    split at htr
    · rename_i i hi
      obtain ⟨e, he, hie⟩ := sliceElem_some hi
      split at htr
      · rename_i z hz
        split at htr
        · rename_i hc
          split at htr
          · rename_i zs ps hzl hps
            have full : so = .bs i.size zs len ps → Ex P (execOp act.eval ⟨dst, .buildSlice t len parts, ty, pos, after, guard⟩) m H HT g w K := by
              intro e1
              subst e1
              exact ex_bs he hie hz hc.1 hc.2 hzl hl hR (by rw [Array.toList_map]; exact oP_rel hS hps (fun x hx => hn x (by simpa [SO.svs] using hx))) h
            split at htr
            · rename_i h0
              obtain rfl := Option.some.inj htr
              obtain ⟨rfl, h2⟩ := h0
              have : parts = #[] := Array.eq_empty_of_size_eq_zero h2
              subst this
              exact Ex.eq (by simp [execOp]) <| ex_be he hie hl hR h
            · split at htr
              · rename_i cs hcs
                split at htr
                · rename_i r hr
                  obtain rfl := Option.some.inj htr
                  obtain ⟨e1, e2⟩ := constP_some hcs a
                  exact ex_bs he hie hz hc.1 hc.2 hzl hl hR (by rw [Array.toList_map]; exact oP_rel hS hps e2) ⟨r, by rw [e1]; exact hr, h⟩
                · exact full (Option.some.inj htr).symm
              · exact full (Option.some.inj htr).symm
          · cases htr
        · cases htr
      · cases htr
    · cases htr
  case box t x =>
    obtain ⟨sx, hx, rfl⟩ := o1_some htr
    exact ex_bx hl hR (ev_rel hS hx (hn sx (by simp [SO.svs]))) h
  case alloc t =>
    simp only [trO] at htr
    split at htr
    · rename_i i hi
      split at htr
      · rename_i z hz
        cases hzl : leafs z.cells.toList with
        | none => rw [hzl] at htr; cases htr
        | some zs =>
          rw [hzl] at htr
          obtain rfl := Option.some.inj htr
          unfold leafs at hzl
          split at hzl
          · rename_i hall
            obtain rfl := Option.some.inj hzl
            exact ex_al hi hz hall hl hR h
          · cases hzl
      · cases htr
    · cases htr
  case build t parts =>
    simp only [trO] at htr
    split at htr
    · rename_i fs i ht hi
      split at htr
      · rename_i z places hz hpl
        split at htr
        · rename_i zs ps hzl hps
          obtain rfl := Option.some.inj htr
          exact ex_bd ht hi hz hpl hzl hl hR (by rw [Array.toList_map]; exact oP_rel hS hps (fun x hx => hn x (by simpa [SO.svs] using hx))) h
        · cases htr
      · cases htr
    · cases htr
  case field t x f =>
    simp only [trO] at htr
    split at htr
    · rename_i off ft hf
      obtain ⟨fs, fd, i, h1, h2, h3, h4, h5, h6⟩ := fieldOff_some hf
      split at htr
      · rename_i d i' hd hi'
        split at htr
        · rename_i ha
          obtain ⟨sx, hx, rfl⟩ := o1_some htr
          exact ex_fin h1 h2 h5 h6 hd ha hi' hl hR (ev_rel hS hx (hn sx (by simp [SO.svs]))) h
        · rename_i ha
          obtain ⟨sx, hx, rfl⟩ := o1_some htr
          exact ex_fi h1 h2 h5 h6 hd (by simpa using ha) hl hR (ev_rel hS hx (hn sx (by simp [SO.svs]))) h
      · cases htr
    · cases htr
  case call c =>
    obtain ⟨callee, args, argTypes⟩ := c
    have one : ∀ {l : Array Operand} {x : Operand}, l.toList = [x] → l = #[x] := fun h => by apply Array.ext'; simpa using h
    have two : ∀ {l : Array Operand} {x y : Operand}, l.toList = [x, y] → l = #[x, y] := fun h => by apply Array.ext'; simpa using h
    have oneT : ∀ {l : Array TypeId} {x : TypeId}, l.toList = [x] → l = #[x] := fun h => by apply Array.ext'; simpa using h
    have twoT : ∀ {l : Array TypeId} {x y : TypeId}, l.toList = [x, y] → l = #[x, y] := fun h => by apply Array.ext'; simpa using h
    simp only [trO] at htr
    split at htr
    · cases hq : oL args.toList with
      | none => rw [hq] at htr; cases htr
      | some as => rw [hq] at htr; obtain rfl := Option.some.inj htr; exact h.elim
    · split at htr
      · obtain rfl := Option.some.inj htr; exact h.elim
      · cases htr
    · split at htr
      · rename_i x t hx' ht'
        split at htr
        · rename_i e ht
          obtain ⟨sx, hx, rfl⟩ := o1_some htr
          have e1 := one hx'
          have e2 := oneT ht'
          subst e1; subst e2
          exact Ex.eq (by simp [execOp, resolve, invoke, builtin]; rfl) <| ex_ln ht hl hR (ev_rel hS hx (hn _ (by simp [SO.svs]))) h
        · cases htr
      · cases htr
    · split at htr
      · rename_i x t hx' ht'
        split at htr
        · rename_i e ht
          obtain ⟨sx, hx, rfl⟩ := o1_some htr
          have e1 := one hx'
          have e2 := oneT ht'
          subst e1; subst e2
          exact Ex.eq (by simp [execOp, resolve, invoke, builtin]; rfl) <| ex_cz ht hl hR (ev_rel hS hx (hn _ (by simp [SO.svs]))) h
        · cases htr
      · cases htr
    · split at htr
      · rename_i x y t u hx' ht'
        split at htr
        · rename_i htu
          subst htu
          split at htr
          · rename_i i hi
            obtain ⟨e, he, hie⟩ := sliceElem_some hi
            split at htr
            · rename_i z hz
              split at htr
              · rename_i hc
                obtain ⟨sx, sy, hx, hy, rfl⟩ := o2_some htr
                have e1 := two hx'
                have e2 := twoT ht'
                subst e1; subst e2
                exact Ex.eq (by simp [execOp, resolve, invoke, builtin]; rfl) <| ex_ap he hie hz hc.1 hc.2 hl hR (ev_rel hS hx (hn _ (by simp [SO.svs]))) (ev_rel hS hy (hn _ (by simp [SO.svs]))) h
              · cases htr
            · cases htr
          · cases htr
        · cases htr
      · cases htr
    · split at htr
      · rename_i x y t u hx' ht'
        split at htr
        · rename_i i hi
          obtain ⟨e, he, hie⟩ := sliceElem_some hi
          split at htr
          · rename_i hc
            obtain ⟨sx, sy, hx, hy, rfl⟩ := o2_some htr
            have e1 := two hx'
            have e2 := twoT ht'
            subst e1; subst e2
            exact Ex.eq (by simp [execOp, resolve, invoke, builtin]; rfl) <| ex_cp he hie hc hl hR (ev_rel hS hx (hn _ (by simp [SO.svs]))) (ev_rel hS hy (hn _ (by simp [SO.svs]))) h
          · cases htr
        · cases htr
      · cases htr
    · split at htr
      · rename_i x y hx'
        obtain ⟨sx, sy, hx, hy, rfl⟩ := o2_some htr
        have e1 := two hx'
        subst e1
        exact Ex.eq (by simp [execOp, resolve, invoke, builtin]; rfl) <| ex_mx hl hR (ev_rel hS hx (hn _ (by simp [SO.svs]))) (ev_rel hS hy (hn _ (by simp [SO.svs]))) h
      · cases htr
    · split at htr
      · rename_i x y hx'
        obtain ⟨sx, sy, hx, hy, rfl⟩ := o2_some htr
        have e1 := two hx'
        subst e1
        exact Ex.eq (by simp [execOp, resolve, invoke, builtin]; rfl) <| ex_mn hl hR (ev_rel hS hx (hn _ (by simp [SO.svs]))) (ev_rel hS hy (hn _ (by simp [SO.svs]))) h
      · cases htr
    · cases htr
  case makeFunc fn first captured =>
    simp only [trO] at htr
    split at htr
    · rename_i f as hfirst hq
      obtain rfl := Option.some.inj htr
      have e1 : first = #[] := by apply Array.ext'; simpa using hfirst
      subst e1
      obtain ⟨h1, h2⟩ := oL_rel hS hq (fun x hx => hn x (by simpa [SO.svs] using hx))
      have hv : VR m (.f f (as.map (evS a))) (.func (.func f) #[] (captured.map act.eval)) := .f (by simpa using h1) fun j c v hc hv => h2 j c v hc (by simpa using hv)
      exact Ex.same hl hR (by simp [execOp]; rfl) hv h
    · cases htr
  all_goals (simp only [trO] at htr; cases htr)

end Go.Proofs.Ytdkdainipanacaa
namespace Go.Proofs.Ytdkdainipanacaa
open Go Go.RowKit
set_option linter.unusedSimpArgs false
set_option linter.unusedVariables false

def CallOk (P : Program) (f : FuncId) : Prop := ∃ fn, P.funcs[f]? = some fn ∧ ¬ (fn.name = "runtime.NumGoroutine") ∧ ¬ (fn.body = none)

/-- a call, told over the abstract heap -/
def ACalls (P : Program) (f : FuncId) (args : List AV) (H : AH) (R : AV → AH → Prop) : Prop :=
  CallOk P f ∧ ∀ (m : AMap) (HT : AH) (g : Out) (w : World) (vs : List Value), HLe H HT → Rel m HT g w → VLs m args vs →
    Calls P f vs.toArray w fun e w' => ∃ v x m' H' HT', e = .returned v ∧ VR m' x v ∧ Stp m H HT m' H' HT' ∧ Rel m' HT' g w' ∧ R x H'

theorem ACalls.mono {P : Program} {f : FuncId} {args : List AV} {H : AH} {R R' : AV → AH → Prop} (h : ACalls P f args H R) (hr : ∀ x H', R x H' → R' x H') : ACalls P f args H R' :=
  ⟨h.1, fun m HT g w vs a b c => (h.2 m HT g w vs a b c).mono fun e w' ⟨v, x, m', H', HT', h1, h2, h3, h4, h5⟩ => ⟨v, x, m', H', HT', h1, h2, h3, h4, hr _ _ h5⟩⟩

theorem HLe.upd_new {H : AH} {id : Nat} (h : H id = none) (ob : AObj) : HLe H (upd H id ob) := by
  intro j o hj
  have : j ≠ id := fun q => by rw [q, h] at hj; cases hj
  rw [upd_ne _ _ this]; exact hj

/-- what a call is not told of stays -/
theorem ACalls.frame {P : Program} {f : FuncId} {args : List AV} {H : AH} {R : AV → AH → Prop} (h : ACalls P f args H R) {id : Nat} (hid : H id = none) (ob : AObj) :
    ACalls P f args (upd H id ob) (fun x H'' => ∃ H', H' id = none ∧ H'' = upd H' id ob ∧ R x H') := by
  refine ⟨h.1, fun m HT g w vs hl hR hv => (h.2 m HT g w vs ((HLe.upd_new hid ob).trans hl) hR hv).mono ?_⟩
  rintro e w' ⟨v, x, m', H', HT', h1, h2, h3, h4, h5⟩
  have hT : HT id = some ob := hl _ _ (upd_same _ _ _)
  obtain ⟨hT', hH'⟩ := h3.fr id ob hid hT
  refine ⟨v, x, m', upd H' id ob, HT', h1, h2, ⟨h3.mle, ?_, ?_⟩, h4, H', hH', rfl, h5⟩
  · intro j o hj
    by_cases q : j = id
    · subst q; rw [upd_same] at hj; obtain rfl := Option.some.inj hj; exact hT'
    · rw [upd_ne _ _ q] at hj; exact h3.sub _ _ hj
  · intro j o hj ho
    have q : j ≠ id := fun q => by rw [q, upd_same] at hj; cases hj
    rw [upd_ne _ _ q] at hj
    rw [upd_ne _ _ q]
    exact h3.fr j o hj ho

def astepV (P : Program) (pv : Bool) (op : SO) (a : Nat → AV) (H : AH) (V : AV → AH → Prop) : Prop :=
  match op with
  | .ca f args => ACalls P f (args.map (evS a)) H (fun v H' => (pv = true → HLe H H') ∧ V v H')
  | .cal f args => ACalls P f (args.map (evS a)) H V
  | .cf x args => ∃ f caps, evS a x = .f f caps ∧ ACalls P f (args.map (evS a) ++ caps) H (fun v H' => (pv = true → HLe H H') ∧ V v H')
  | .ap sz bytes x y => aop (.ap sz bytes x y) a H (fun v H' => (pv = true → HLe H H') ∧ V v H')
  | .apl sz bytes x y => aop (.ap sz bytes x y) a H V
  | op => aop op a H V

def avG (P : Program) (pv : Bool) (r : SOp) (a : Nat → AV) (H : AH) (V : AV → AH → Prop) : Prop :=
  match r.grd with
  | none => astepV P pv r.op a H V
  | some (d, want) => (∃ t, a d = .b t ∧ (t = want → astepV P pv r.op a H V) ∧ (t ≠ want → V (.c undef) H)) ∨ (a d = .c undef ∧ V (.c undef) H)

def aopG (P : Program) (pv : Bool) (r : SOp) (a : Nat → AV) (H : AH) (K : (Nat → AV) → AH → Prop) : Prop :=
  avG P pv r a H (fun v H' => K (putD a r.dst v) H')

def aops (P : Program) (pv : Bool) (rs : List SOp) : List Nat → (Nat → AV) → AH → ((Nat → AV) → AH → Prop) → Prop
  | [], a, H, K => K a H
  | i :: l, a, H, K => match rs[i]? with
    | some r => aopG P pv r a H (fun a' H' => aops P pv rs l a' H' K)
    | none => False

def trOp (P : Program) (ops : Array Oper) (o : Oper) : Option SOp :=
  match trO P o with
  | some so => match o.guard with
    | none => some ⟨o.dst, so, none⟩
    | some (j, w) => match (ops[j]?).bind (·.dst) with
      | some d => some ⟨o.dst, so, some (d, w)⟩
      | none => none
  | none => none
def trL (P : Program) (ops : Array Oper) : List Oper → Option (List SOp)
  | [] => some []
  | o :: os => match trOp P ops o, trL P ops os with | some r, some rs => some (r :: rs) | _, _ => none

def sopIn (n : Nat) (r : SOp) : Bool := r.op.svs.all (opIn n) && (match r.grd with | some (d, _) => Nat.blt d n | none => true)

theorem trL_get {P : Program} {ops : Array Oper} : ∀ {os : List Oper} {rs : List SOp}, trL P ops os = some rs → rs.length = os.length ∧ ∀ (i : Nat) (r : SOp), rs[i]? = some r → ∃ o, os[i]? = some o ∧ trOp P ops o = some r
  | [], rs, h => by simp [trL] at h; subst h; simp
  | o :: os, rs, h => by
    simp only [trL] at h
    cases h1 : trOp P ops o with
    | none => rw [h1] at h; cases h
    | some r =>
      cases h2 : trL P ops os with
      | none => rw [h1, h2] at h; cases h
      | some rs' =>
        rw [h1, h2] at h
        obtain rfl := Option.some.inj h
        obtain ⟨e1, e2⟩ := trL_get h2
        refine ⟨by simp [e1], fun i q hq => ?_⟩
        cases i with
        | zero => simp at hq; subst hq; exact ⟨o, rfl, h1⟩
        | succ i => exact e2 i q (by simpa using hq)

/-- what is reached: slots and heap, over the world -/
def Got (n : Nat) (m : AMap) (H HT : AH) (g : Out) (K : (Nat → AV) → AH → Prop) (act : Act) (w : World) : Prop :=
  ∃ m' H' HT' a', Stp m H HT m' H' HT' ∧ Rel m' HT' g w ∧ SR n m' a' act.tmps ∧ act.defers = [] ∧ K a' H'

variable {P : Program} {m : AMap} {H HT : AH} {g : Out} {w : World}

theorem o1_ca {x : Operand} {f : SV → SO} {k : FuncId} {as : List SV} (hf : ∀ s, (f s).plain = true) (h : o1 x f = some (.ca k as)) : False := by
  obtain ⟨s, _, e⟩ := o1_some h
  have := hf s
  rw [← e] at this
  cases this
theorem o2_ca {x y : Operand} {f : SV → SV → SO} {k : FuncId} {as : List SV} (hf : ∀ s t, (f s t).plain = true) (h : o2 x y f = some (.ca k as)) : False := by
  obtain ⟨s, t, _, _, e⟩ := o2_some h
  have := hf s t
  rw [← e] at this
  cases this

theorem trO_ca {o : Oper} {f : FuncId} {args : List SV} (h : trO P o = some (.ca f args)) : ∃ as ts, o.op = .call ⟨.value (.func f), as, ts⟩ ∧ oL as.toList = some args := by
  obtain ⟨dst, op, ty, pos, after, guard⟩ := o
  cases op
  case call c =>
    obtain ⟨callee, as, ts⟩ := c
    simp only [trO] at h
    split at h
    · cases hq : oL as.toList with
      | none => rw [hq] at h; cases h
      | some l =>
        rw [hq] at h
        simp only [Option.map_some, Option.some.injEq, SO.ca.injEq] at h
        obtain ⟨rfl, rfl⟩ := h
        exact ⟨as, ts, by first | rfl | simp_all, hq⟩
    all_goals
      exfalso
      repeat' (split at h)
      all_goals first | exact o1_ca (fun _ => rfl) h | exact o2_ca (fun _ _ => rfl) h | cases h
  case alloc t =>
    exfalso
    simp only [trO] at h
    repeat' (split at h)
    all_goals first | (cases hq : leafs _ <;> rw [hq] at h <;> cases h; done) | cases h
  case binOp op t x y u =>
    exfalso
    cases op <;> simp only [trO] at h
    all_goals repeat' (split at h)
    all_goals first | exact o1_ca (fun _ => rfl) h | exact o2_ca (fun _ _ => rfl) h | cases h
  all_goals
    exfalso
    simp only [trO] at h
    repeat' (split at h)
    all_goals first | exact o1_ca (fun _ => rfl) h | exact o2_ca (fun _ _ => rfl) h | cases h

theorem o1_cf {x : Operand} {f : SV → SO} {k : SV} {as : List SV} (hf : ∀ s, (f s).plain = true) (h : o1 x f = some (.cf k as)) : False := by
  obtain ⟨s, _, e⟩ := o1_some h
  have := hf s
  rw [← e] at this
  cases this
theorem o2_cf {x y : Operand} {f : SV → SV → SO} {k : SV} {as : List SV} (hf : ∀ s t, (f s t).plain = true) (h : o2 x y f = some (.cf k as)) : False := by
  obtain ⟨s, t, _, _, e⟩ := o2_some h
  have := hf s t
  rw [← e] at this
  cases this

theorem trO_cf {o : Oper} {x : SV} {args : List SV} (h : trO P o = some (.cf x args)) : ∃ ox as ts, o.op = .call ⟨.value ox, as, ts⟩ ∧ ofO ox = some x ∧ oL as.toList = some args := by
  obtain ⟨dst, op, ty, pos, after, guard⟩ := o
  cases op
  case call c =>
    obtain ⟨callee, as, ts⟩ := c
    simp only [trO] at h
    split at h
    · exfalso
      cases hq : oL as.toList with
      | none => rw [hq] at h; cases h
      | some l => rw [hq] at h; cases h
    · rename_i ox _ _
      split at h
      · rename_i s l hs hl
        simp only [Option.some.injEq, SO.cf.injEq] at h
        obtain ⟨rfl, rfl⟩ := h
        exact ⟨_, as, ts, rfl, hs, hl⟩
      · cases h
    all_goals
      exfalso
      repeat' (split at h)
      all_goals first | exact o1_cf (fun _ => rfl) h | exact o2_cf (fun _ _ => rfl) h | cases h
  case alloc t =>
    exfalso
    simp only [trO] at h
    repeat' (split at h)
    all_goals first | (cases hq : leafs _ <;> rw [hq] at h <;> cases h; done) | cases h
  case binOp op t x y u =>
    exfalso
    cases op <;> simp only [trO] at h
    all_goals repeat' (split at h)
    all_goals first | exact o1_cf (fun _ => rfl) h | exact o2_cf (fun _ _ => rfl) h | cases h
  all_goals
    exfalso
    simp only [trO] at h
    repeat' (split at h)
    all_goals first | exact o1_cf (fun _ => rfl) h | exact o2_cf (fun _ _ => rfl) h | cases h

theorem o1_cal {x : Operand} {f : SV → SO} {k : FuncId} {as : List SV} (hf : ∀ s, (f s).plain = true) (h : o1 x f = some (.cal k as)) : False := by
  obtain ⟨s, _, e⟩ := o1_some h
  have := hf s
  rw [← e] at this
  cases this
theorem o2_cal {x y : Operand} {f : SV → SV → SO} {k : FuncId} {as : List SV} (hf : ∀ s t, (f s t).plain = true) (h : o2 x y f = some (.cal k as)) : False := by
  obtain ⟨s, t, _, _, e⟩ := o2_some h
  have := hf s t
  rw [← e] at this
  cases this

theorem trO_cal {o : Oper} {f : FuncId} {args : List SV} (h : trO P o = some (.cal f args)) : False := by
  obtain ⟨dst, op, ty, pos, after, guard⟩ := o
  cases op
  case call c =>
    obtain ⟨callee, as, ts⟩ := c
    simp only [trO] at h
    split at h
    · cases hq : oL as.toList with
      | none => rw [hq] at h; cases h
      | some l => rw [hq] at h; cases h
    all_goals
      repeat' (split at h)
      all_goals first | exact o1_cal (fun _ => rfl) h | exact o2_cal (fun _ _ => rfl) h | cases h
  case alloc t =>
    simp only [trO] at h
    repeat' (split at h)
    all_goals first | (cases hq : leafs _ <;> rw [hq] at h <;> cases h; done) | cases h
  case binOp op t x y u =>
    cases op <;> simp only [trO] at h
    all_goals repeat' (split at h)
    all_goals first | exact o1_cal (fun _ => rfl) h | exact o2_cal (fun _ _ => rfl) h | cases h
  all_goals
    simp only [trO] at h
    repeat' (split at h)
    all_goals first | exact o1_cal (fun _ => rfl) h | exact o2_cal (fun _ _ => rfl) h | cases h

theorem o1_apl {x : Operand} {f : SV → SO} {k l : Nat} {as bs : SV} (hf : ∀ s, (f s).plain = true) (h : o1 x f = some (.apl k l as bs)) : False := by
  obtain ⟨s, _, e⟩ := o1_some h
  have := hf s
  rw [← e] at this
  cases this
theorem o2_apl {x y : Operand} {f : SV → SV → SO} {k l : Nat} {as bs : SV} (hf : ∀ s t, (f s t).plain = true) (h : o2 x y f = some (.apl k l as bs)) : False := by
  obtain ⟨s, t, _, _, e⟩ := o2_some h
  have := hf s t
  rw [← e] at this
  cases this

theorem trO_apl {o : Oper} {k l : Nat} {as bs : SV} (h : trO P o = some (.apl k l as bs)) : False := by
  obtain ⟨dst, op, ty, pos, after, guard⟩ := o
  cases op
  case call c =>
    obtain ⟨callee, as, ts⟩ := c
    simp only [trO] at h
    split at h
    · cases hq : oL as.toList with
      | none => rw [hq] at h; cases h
      | some l => rw [hq] at h; cases h
    all_goals
      repeat' (split at h)
      all_goals first | exact o1_apl (fun _ => rfl) h | exact o2_apl (fun _ _ => rfl) h | cases h
  case alloc t =>
    simp only [trO] at h
    repeat' (split at h)
    all_goals first | (cases hq : leafs _ <;> rw [hq] at h <;> cases h; done) | cases h
  case binOp op t x y u =>
    cases op <;> simp only [trO] at h
    all_goals repeat' (split at h)
    all_goals first | exact o1_apl (fun _ => rfl) h | exact o2_apl (fun _ _ => rfl) h | cases h
  all_goals
    simp only [trO] at h
    repeat' (split at h)
    all_goals first | exact o1_apl (fun _ => rfl) h | exact o2_apl (fun _ _ => rfl) h | cases h

end Go.Proofs.Ytdkdainipanacaa
namespace Go.Proofs.Ytdkdainipanacaa
open Go Go.RowKit
set_option linter.unusedSimpArgs false
set_option linter.unusedVariables false

variable {P : Program} {m : AMap} {H HT : AH} {g : Out} {w : World}

theorem put_defers (act : Act) (d : Option Tmp) (v : Value) : (act.put d v).defers = act.defers := by cases d <;> rfl

theorem astep_sound {o : Oper} {r : SOp} (htr : trO P o = some r.op) (hdst : r.dst = o.dst) {n : Nat} (hn : ∀ x ∈ r.op.svs, opIn n x = true) {pv : Bool} {a : Nat → AV} {act : Act} (hS : SR n m a act.tmps) (hd : act.defers = [])
    (hl : HLe H HT) (hR : Rel m HT g w) {K : (Nat → AV) → AH → Prop} {Q : Exit → Act → World → Prop} (h : astepV P pv r.op a H (fun v H' => K (putD a r.dst v) H')) : o.wp P act w (Got n m H HT g K) Q := by
  have plain : (∀ f args, r.op ≠ .ca f args) → aop r.op a H (fun v H' => K (putD a r.dst v) H') → o.wp P act w (Got n m H HT g K) Q := by
    intro _ h
    obtain ⟨x, v, w', m', H', HT', hrun, hv, hst, hR', hK⟩ := aop_sound htr hn hS hl hR h
    have fin : Got n m H HT g K (act.put o.dst v) w' := ⟨m', H', HT', _, hst, hR', by rw [← hdst]; exact (hS.mono hst.mle).put hv, by rw [put_defers]; exact hd, hK⟩
    unfold Oper.wp
    rcases hrun with hrun | ⟨hrun, rfl⟩ <;> rw [hrun] <;> exact fin
  unfold astepV at h
  split at h
  · rename_i f args hop
    obtain ⟨⟨fn, hfn, hname, hbody⟩, hc⟩ := h
    rw [hop] at htr
    obtain ⟨as, ts, ho, hoL⟩ := trO_ca htr
    have hvs := oL_rel hS hoL (fun x hx => hn x (by rw [hop]; exact hx))
    have hc' := hc m HT g w _ hl hR hvs
    have hargs : (as.toList.map act.eval).toArray = as.map act.eval := by apply Array.ext'; simp
    have hrun : (execOp act.eval o).run P w = .ok (.enter f (as.map act.eval)) w := by
      simp [execOp, ho, resolve, Deferred.ofValue, invoke, callFunc, hfn, hname, hbody, Act.eval]
    unfold Oper.wp
    rw [hrun]
    rw [hargs] at hc'
    refine hc'.mono ?_
    rintro e w' ⟨v, x, m', H', HT', rfl, hv, hst, hR', _, hK⟩
    exact ⟨m', H', HT', _, hst, hR', by rw [← hdst]; exact (hS.mono hst.mle).put hv, by rw [put_defers]; exact hd, hK⟩
  · rename_i f args hop
    rw [hop] at htr
    exact (trO_cal htr).elim
  · rename_i sx args hop
    obtain ⟨f, caps, hfx, ⟨fn, hfn, hname, hbody⟩, hc⟩ := h
    rw [hop] at htr
    obtain ⟨ox, as, ts, ho, hox, hoL⟩ := trO_cf htr
    have hvs := oL_rel hS hoL (fun x hx => hn x (by rw [hop]; exact List.mem_cons_of_mem _ hx))
    have hvx := ev_rel hS hox (hn sx (by rw [hop]; exact List.mem_cons_self))
    rw [hfx] at hvx
    obtain ⟨cvs, hcv, hcl, hcr⟩ : ∃ cvs : Array Value, act.eval ox = .func (.func f) #[] cvs ∧ caps.length = cvs.size ∧ ∀ (j : Nat) (c : AV) (v : Value), caps[j]? = some c → cvs[j]? = some v → VR m c v := by
      generalize act.eval ox = u at hvx
      cases hvx with
      | f h1 h2 => exact ⟨_, rfl, h1, h2⟩
    have hvs2 : VLs m (args.map (evS a) ++ caps) (as.toList.map act.eval ++ cvs.toList) := by
      obtain ⟨e1, e2⟩ := hvs
      refine ⟨by simp only [List.length_append, e1, hcl, Array.length_toList], fun j x v hx hv => ?_⟩
      by_cases hj : j < (args.map (evS a)).length
      · rw [List.getElem?_append_left hj] at hx
        rw [List.getElem?_append_left (by rw [← e1]; exact hj)] at hv
        exact e2 j x v hx hv
      · rw [List.getElem?_append_right (by omega)] at hx
        rw [List.getElem?_append_right (by rw [← e1]; omega), ← e1] at hv
        exact hcr _ x v hx (by simpa using hv)
    have hc' := hc m HT g w _ hl hR hvs2
    have hargs : (as.toList.map act.eval ++ cvs.toList).toArray = as.map act.eval ++ cvs := by apply Array.ext'; simp
    have hrun : (execOp act.eval o).run P w = .ok (.enter f (as.map act.eval ++ cvs)) w := by
      simp [execOp, ho, resolve, Deferred.ofValue, invoke, callFunc, hfn, hname, hbody, hcv]
    unfold Oper.wp
    rw [hrun]
    rw [hargs] at hc'
    refine hc'.mono ?_
    rintro e w' ⟨v, x, m', H', HT', rfl, hv, hst, hR', _, hK⟩
    exact ⟨m', H', HT', _, hst, hR', by rw [← hdst]; exact (hS.mono hst.mle).put hv, by rw [put_defers]; exact hd, hK⟩
  · rename_i sz bytes x y hop
    refine plain (fun f args e => by rw [hop] at e; cases e) ?_
    rw [hop]
    obtain ⟨k, news, h1, h2⟩ := h
    refine ⟨k, news, h1, ?_⟩
    rcases h2 with ⟨a1, a2, a3⟩ | ⟨id, off, len, ob, a1, a2, a3, a4, a5, a6, a7, a8⟩
    · exact .inl ⟨a1, fun e => (a2 e).2, fun e => ⟨(a3 e).1, (a3 e).2.1, fun id hid => ((a3 e).2.2 id hid).2⟩⟩
    · exact .inr ⟨id, off, len, ob, a1, a2, a3, a4, a5, a6, a7, fun id' hid' => (a8 id' hid').2⟩
  · rename_i sz bytes x y hop
    rw [hop] at htr
    exact (trO_apl htr).elim
  · rename_i hne _ _ _ _
    exact plain hne h

theorem yielded_get {ops : Array Oper} {ts : Array Value} {j d : Nat} (h : (ops[j]?).bind (·.dst) = some d) : yielded ops ts j = (match (some d).bind (ts[·]?) with | some (.bool b) => some b | _ => none) := by
  unfold yielded
  rw [h]
  rfl

theorem aopG_sound {ops : Array Oper} {i : Nat} {o : Oper} {r : SOp} (hi : ops[i]? = some o) (htr : trOp P ops o = some r) {n : Nat} (hn : sopIn n r = true) {pv : Bool} {a : Nat → AV} {act : Act} (hS : SR n m a act.tmps) (hd : act.defers = [])
    (hl : HLe H HT) (hR : Rel m HT g w) {K : (Nat → AV) → AH → Prop} {Q : Exit → Act → World → Prop} (h : aopG P pv r a H K) : wpOp P ops Q i (Got n m H HT g K) act w := by
  simp only [sopIn, Bool.and_eq_true, List.all_eq_true] at hn
  unfold trOp at htr
  cases ht : trO P o with
  | none => rw [ht] at htr; cases htr
  | some so =>
    rw [ht] at htr
    simp only at htr
    unfold wpOp
    simp only [hi]
    cases hg : o.guard with
    | none =>
      rw [hg] at htr
      obtain rfl := Option.some.inj htr
      have hw : Region.wanted o (yielded ops act.tmps) = true := by simp [Region.wanted, hg]
      rw [if_pos hw]
      exact .inl (astep_sound ht rfl hn.1 hS hd hl hR h)
    | some jw =>
      obtain ⟨j, want⟩ := jw
      rw [hg] at htr
      simp only at htr
      cases hdj : (ops[j]?).bind (·.dst) with
      | none => rw [hdj] at htr; cases htr
      | some d =>
        rw [hdj] at htr
        obtain rfl := Option.some.inj htr
        have hdn : d < act.tmps.size := by rw [hS.1]; simpa using hn.2
        rcases h with ⟨t, hat, hyes, hno⟩ | ⟨hat, hno⟩
        rotate_left
        · have hv := hS.2 d act.tmps[d] (by simp [hdn])
          rw [hat] at hv
          have hbv : act.tmps[d] = undef := by
            generalize act.tmps[d] = u at hv
            cases hv; rfl
          have hy : yielded ops act.tmps j = none := by rw [yielded_get hdj]; simp [hdn, hbv, undef]
          have hw : Region.wanted o (yielded ops act.tmps) = false := by simp [Region.wanted, hg, hy]
          rw [if_neg (by rw [hw]; decide)]
          exact ⟨m, H, HT, _, .refl hl, hR, hS.put (.c _), by rw [put_defers]; exact hd, hno⟩
        have hv := hS.2 d act.tmps[d] (by simp [hdn])
        rw [hat] at hv
        have hbv := hv.b_inv
        have hy : yielded ops act.tmps j = some t := by rw [yielded_get hdj]; simp [hdn, hbv]
        have hw : Region.wanted o (yielded ops act.tmps) = (t == want) := by simp [Region.wanted, hg, hy]
        by_cases htw : t = want
        · rw [if_pos (by rw [hw]; simpa using htw)]
          exact .inl (astep_sound ht rfl hn.1 hS hd hl hR (hyes htw))
        · rw [if_neg (by rw [hw]; simpa using htw)]
          exact ⟨m, H, HT, _, .refl hl, hR, hS.put (.c _), by rw [put_defers]; exact hd, hno htw⟩

/-- what follows, from where one stands -/
def Lft (n : Nat) (m : AMap) (H HT : AH) (g : Out) (Q : Exit → (Nat → AV) → AH → Prop) : Exit → Act → World → Prop :=
  fun e => Got n m H HT g (Q e)

theorem Got.after {n : Nat} {m1 : AMap} {H1 HT1 : AH} {K : (Nat → AV) → AH → Prop} {act : Act} (hst : Stp m H HT m1 H1 HT1) (h : Got n m1 H1 HT1 g K act w) : Got n m H HT g K act w := by
  obtain ⟨m', H', HT', a', a, b, c, d, e⟩ := h
  exact ⟨m', H', HT', a', hst.trans a, b, c, d, e⟩

theorem Got.mono {n : Nat} {K K' : (Nat → AV) → AH → Prop} {act : Act} (h : Got n m H HT g K act w) (hk : ∀ a H', K a H' → K' a H') : Got n m H HT g K' act w := by
  obtain ⟨m', H', HT', a', a, b, c, d, e⟩ := h
  exact ⟨m', H', HT', a', a, b, c, d, hk _ _ e⟩

theorem aops_sound {ops : Array Oper} {rs : List SOp} (htr : trL P ops ops.toList = some rs) {n : Nat} (hn : rs.all (sopIn n) = true) {pv : Bool} {Q : Exit → (Nat → AV) → AH → Prop} :
    ∀ (l : List Nat) (m : AMap) (H HT : AH) (w : World) (a : Nat → AV) (act : Act), SR n m a act.tmps → act.defers = [] → HLe H HT → Rel m HT g w → aops P pv rs l a H (Q .normal) →
      ∀ m0 H0 HT0, Stp m0 H0 HT0 m H HT → wpOps P ops (Lft n m0 H0 HT0 g Q) l act w
  | [], m, H, HT, w, a, act, hS, hd, hl, hR, h, m0, H0, HT0, hst => ⟨m, H, HT, a, hst, hR, hS, hd, h⟩
  | i :: l, m, H, HT, w, a, act, hS, hd, hl, hR, h, m0, H0, HT0, hst => by
    simp only [aops] at h
    cases hr : rs[i]? with
    | none => rw [hr] at h; exact h.elim
    | some r =>
      rw [hr] at h
      obtain ⟨o, ho, hto⟩ := (trL_get htr).2 i r hr
      have hi : ops[i]? = some o := by simpa using ho
      rw [wpOps_cons]
      refine wpOp_mono (fun act' w' hgot => ?_) (aopG_sound hi hto ((List.all_eq_true.mp hn) r (List.mem_of_getElem? hr)) hS hd hl hR h)
      obtain ⟨m', H', HT', a', h1, h2, h3, h4, h5⟩ := hgot
      exact aops_sound htr hn l m' H' HT' w' a' act' h3 h4 h1.sub h2 h5 m0 H0 HT0 (hst.trans h1)

end Go.Proofs.Ytdkdainipanacaa
namespace Go.Proofs.Ytdkdainipanacaa
open Go Go.RowKit
set_option linter.unusedSimpArgs false
set_option linter.unusedVariables false

inductive Cl where
  | pure | load | frz | fal | alloc | ap | call | lcall | loud
  deriving DecidableEq

def SO.cl : SO → Cl
  | .mv _ | .pk _ _ _ | .bin _ _ _ | .eb _ _ _ | .en _ _ _ | .ep _ _ _ | .un _ _ | .cv _ _ | .ix _ _ _ | .fd _ _ | .bd _ _ _ | .fi _ _ | .fin _ _ _ | .ex _ _ | .nc _ | .ln _ | .cpz _ | .mx _ _ | .mn _ _ | .be | .sl0 _ | .sl3 _ _ _ | .mf _ _ => .pure
  | .ld _ | .ldn _ _ | .sl _ _ _ _ => .load
  | .al _ | .bk _ _ _ => .fal
  | .ms _ _ _ _ | .bs _ _ _ _ | .bx _ => .alloc
  | .ap _ _ _ _ => .ap
  | .ca _ _ | .cf _ _ => .call
  | .ldf _ => .frz
  | .cal _ _ | .apl _ _ _ _ => .lcall
  | .st _ _ _ | .cp _ _ => .loud

def svT : SV → List Nat
  | .t n => [n]
  | .k _ => []
def SOp.looks (r : SOp) : List Nat := r.op.svs.flatMap svT ++ (match r.grd with | some (d, _) => [d] | none => [])

theorem arK_det {k : IntKind} {n : Int} {K : AV → Prop} (h : arK k n K) : ∃ v, (∀ K', K' v → arK k n K') ∧ K v := by
  cases k <;> simp only [arK] at h ⊢ <;> first | exact ⟨_, fun _ k => k, h⟩ | exact ⟨_, fun _ k => ⟨h.1, k⟩, h.2⟩

theorem abin_det {op : BinOp} {x y : AV} {K : AV → Prop} (h : abin op x y K) : ∃ v, (∀ K', K' v → abin op x y K') ∧ K v := by
  unfold abin at h ⊢
  split at h
  · split at h
    case h_6 => obtain ⟨e, n, h⟩ := h; obtain ⟨v, h1, h2⟩ := arK_det h; exact ⟨v, fun K' k => ⟨e, n, h1 K' k⟩, h2⟩
    case h_7 => obtain ⟨e, n, h⟩ := h; exact ⟨_, fun K' k => ⟨e, n, k⟩, h⟩
    all_goals first
      | (obtain ⟨e, h⟩ := h; obtain ⟨v, h1, h2⟩ := arK_det h; exact ⟨v, fun K' k => ⟨e, h1 K' k⟩, h2⟩)
      | (obtain ⟨e, h⟩ := h; exact ⟨_, fun K' k => ⟨e, k⟩, h⟩)
  · exact h.elim

theorem aun_det {op : UnOp} {x : AV} {K : AV → Prop} (h : aun op x K) : ∃ v, (∀ K', K' v → aun op x K') ∧ K v := by
  unfold aun at h ⊢
  split at h
  · exact arK_det h
  · exact ⟨_, fun _ k => k, h⟩
  · exact ⟨_, fun _ k => k, h⟩
  · exact h.elim

theorem aen_det {neg : Bool} {x y : AV} {K : AV → Prop} (h : aen neg x y K) : ∃ v, (∀ K', K' v → aen neg x y K') ∧ K v := by
  unfold aen at h ⊢
  split at h <;> first | exact ⟨_, fun _ k => k, h⟩ | exact h.elim
theorem aep_det {neg : Bool} {x y : AV} {K : AV → Prop} (h : aep neg x y K) : ∃ v, (∀ K', K' v → aep neg x y K') ∧ K v := by
  unfold aep at h ⊢
  split at h <;> first | exact ⟨_, fun _ k => k, h⟩ | exact h.elim

theorem aop_pure {o : SO} (ho : o.cl = .pure) {a : Nat → AV} {H : AH} {V : AV → AH → Prop} (h : aop o a H V) : ∃ v, (∀ H' V', V' v H' → aop o a H' V') ∧ V v H := by
  cases o <;> first | (simp [SO.cl] at ho; done) | skip
  case mv x => exact ⟨_, fun _ _ k => k, h⟩
  case pk c x y => obtain ⟨t, e, k⟩ := h; exact ⟨_, fun _ _ k => ⟨t, e, k⟩, k⟩
  case mf f caps => exact ⟨_, fun _ _ k => k, h⟩
  case sl3 x hi mx => obtain ⟨k, k', r, c, e1, e2, h0, h1, id, off, len, e3, e4, kk⟩ := h; exact ⟨_, fun _ _ kk => ⟨k, k', r, c, e1, e2, h0, h1, id, off, len, e3, e4, kk⟩, kk⟩
  case bin op x y => obtain ⟨v, h1, h2⟩ := abin_det (show abin op _ _ (fun v => V v H) from h); exact ⟨v, fun H' V' k => h1 (fun v => V' v H') k, h2⟩
  case eb neg x y => obtain ⟨p, q, e1, e2, k⟩ := h; exact ⟨_, fun _ _ k => ⟨p, q, e1, e2, k⟩, k⟩
  case en neg x y => obtain ⟨v, h1, h2⟩ := aen_det (show aen neg _ _ (fun v => V v H) from h); exact ⟨v, fun H' V' k => h1 (fun v => V' v H') k, h2⟩
  case ep neg x y => obtain ⟨v, h1, h2⟩ := aep_det (show aep neg _ _ (fun v => V v H) from h); exact ⟨v, fun H' V' k => h1 (fun v => V' v H') k, h2⟩
  case un op x => obtain ⟨v, h1, h2⟩ := aun_det (show aun op _ (fun v => V v H) from h); exact ⟨v, fun H' V' k => h1 (fun v => V' v H') k, h2⟩
  case cv k x => obtain ⟨k', n, e, h⟩ := h; obtain ⟨v, h1, h2⟩ := arK_det h; exact ⟨v, fun H' V' kk => ⟨k', n, e, h1 (fun v => V' v H') kk⟩, h2⟩
  case ix sz x i => obtain ⟨id, off, len, k, n, e1, e2, e3, e4, kk⟩ := h; exact ⟨_, fun _ _ kk => ⟨id, off, len, k, n, e1, e2, e3, e4, kk⟩, kk⟩
  case fd o x => obtain ⟨id, off, e, k⟩ := h; exact ⟨_, fun _ _ k => ⟨id, off, e, k⟩, k⟩
  case sl0 x =>
    rcases h with ⟨e, k⟩ | ⟨e, k⟩
    · exact ⟨_, fun _ _ k => .inl ⟨e, k⟩, k⟩
    · exact ⟨_, fun _ _ k => .inr ⟨e, k⟩, k⟩
  case be => exact ⟨_, fun _ _ k => k, h⟩
  case bd zs places ps => obtain ⟨cs, e, k⟩ := h; exact ⟨_, fun _ _ k => ⟨cs, e, k⟩, k⟩
  case fi off x => obtain ⟨cs, c, e1, e2, k⟩ := h; exact ⟨_, fun _ _ k => ⟨cs, c, e1, e2, k⟩, k⟩
  case fin off n x => obtain ⟨cs, e1, k⟩ := h; exact ⟨_, fun _ _ k => ⟨cs, e1, k⟩, k⟩
  case ex x i => obtain ⟨vs, c, e1, e2, k⟩ := h; exact ⟨_, fun _ _ k => ⟨vs, c, e1, e2, k⟩, k⟩
  case nc x => obtain ⟨id, off, e, k⟩ := h; exact ⟨_, fun _ _ k => ⟨id, off, e, k⟩, k⟩
  case ln x =>
    rcases h with ⟨id, off, len, e, k⟩ | ⟨e, k⟩
    · exact ⟨_, fun _ _ k => .inl ⟨id, off, len, e, k⟩, k⟩
    · exact ⟨_, fun _ _ k => .inr ⟨e, k⟩, k⟩
  case cpz x => obtain ⟨e, k⟩ := h; exact ⟨_, fun _ _ k => ⟨e, k⟩, k⟩
  case mx x y => obtain ⟨k, k', p, q, e1, e2, kk⟩ := h; exact ⟨_, fun _ _ kk => ⟨k, k', p, q, e1, e2, kk⟩, kk⟩
  case mn x y => obtain ⟨k, k', p, q, e1, e2, kk⟩ := h; exact ⟨_, fun _ _ kk => ⟨k, k', p, q, e1, e2, kk⟩, kk⟩

theorem rdc_le {H H' : AH} (hl : HLe H H') {id off : Nat} {c : AV} (h : rdc H id off = some c) : rdc H' id off = some c := by
  unfold rdc at h ⊢
  cases ho : H id with
  | none => rw [ho] at h; cases h
  | some ob => rw [ho] at h; rw [hl _ _ ho]; exact h

theorem aop_load {o : SO} (ho : o.cl = .load) {a : Nat → AV} {H : AH} {V : AV → AH → Prop} (h : aop o a H V) : ∃ v, (∀ H' V', HLe H H' → V' v H' → aop o a H' V') ∧ V v H := by
  cases o <;> first | (simp [SO.cl] at ho; done) | skip
  case ld x => obtain ⟨id, off, c, e1, e2, k⟩ := h; exact ⟨_, fun _ _ hl k => ⟨id, off, c, e1, rdc_le hl e2, k⟩, k⟩
  case ldn n x => obtain ⟨id, off, ob, e1, e2, e3, k⟩ := h; exact ⟨_, fun _ _ hl k => ⟨id, off, ob, e1, hl _ _ e2, e3, k⟩, k⟩
  case sl sz x lo hi =>
    rcases h with ⟨id, off, len, l, r, ob, e1, e2, e3, e4, e5, e6, e7, e8, k⟩ | ⟨e1, e2, e3, k⟩
    · exact ⟨_, fun _ _ hl k => .inl ⟨id, off, len, l, r, ob, e1, hl _ _ e2, e3, e4, e5, e6, e7, e8, k⟩, k⟩
    · exact ⟨_, fun _ _ hl k => .inr ⟨e1, e2, e3, k⟩, k⟩

theorem aop_alloc {o : SO} (ho : o.cl = .fal ∨ o.cl = .alloc) {a : Nat → AV} {H : AH} {V : AV → AH → Prop} (h : aop o a H V) :
    ∃ (f : Nat → AV) (ob : AObj), (∀ id, H id = none → V (f id) (upd H id ob)) ∧ ∀ H' V', (∀ id, H' id = none → V' (f id) (upd H' id ob)) → aop o a H' V' := by
  cases o <;> first | (simp [SO.cl] at ho; done) | skip
  case al zs => exact ⟨fun id => .p id 0, _, h, fun _ _ k => k⟩
  case bk sz cs len => exact ⟨fun id => .s id 0 len, _, h, fun _ _ k => k⟩
  case ms bytes z x y => obtain ⟨k, k', l, c, e1, e2, e3, e4, e5, e6, kk⟩ := h; exact ⟨fun id => .s id 0 l.toNat, _, kk, fun _ _ kk => ⟨k, k', l, c, e1, e2, e3, e4, e5, e6, kk⟩⟩
  case bs sz zs len ps => obtain ⟨cs, e, kk⟩ := h; exact ⟨fun id => .s id 0 len, _, kk, fun _ _ kk => ⟨cs, e, kk⟩⟩
  case bx x => obtain ⟨cs, e, kk⟩ := h; exact ⟨fun id => .p id 0, _, kk, fun _ _ kk => ⟨cs, e, kk⟩⟩

theorem aop_alloc_iff {o : SO} (ho : o.cl = .fal ∨ o.cl = .alloc) {a : Nat → AV} {H : AH} {V : AV → AH → Prop} (h : aop o a H V) :
    ∃ (f : Nat → AV) (ob : AObj), ∀ H' V', aop o a H' V' ↔ (∀ id, H' id = none → V' (f id) (upd H' id ob)) := by
  cases o <;> first | (simp [SO.cl] at ho; done) | skip
  case al zs => exact ⟨fun id => .p id 0, _, fun _ _ => Iff.rfl⟩
  case bk sz cs len => exact ⟨fun id => .s id 0 len, _, fun _ _ => Iff.rfl⟩
  case ms bytes z x y =>
    obtain ⟨k, k', l, c, e1, e2, e3, e4, e5, e6, kk⟩ := h
    refine ⟨fun id => .s id 0 l.toNat, ⟨List.replicate l.toNat z, true, 1⟩, fun _ _ => ⟨?_, fun kk => ⟨k, k', l, c, e1, e2, e3, e4, e5, e6, kk⟩⟩⟩
    rintro ⟨k2, k2', l2, c2, d1, d2, d3, d4, d5, d6, kk2⟩
    rw [e1] at d1
    cases d1
    exact kk2
  case bs sz zs len ps =>
    obtain ⟨cs, e, kk⟩ := h
    refine ⟨fun id => .s id 0 len, ⟨cs, true, sz⟩, fun _ _ => ⟨?_, fun kk => ⟨cs, e, kk⟩⟩⟩
    rintro ⟨cs2, e2, kk2⟩
    rw [e] at e2
    cases e2
    exact kk2
  case bx x =>
    obtain ⟨cs, e, kk⟩ := h
    refine ⟨fun id => .p id 0, ⟨cs, true, 0⟩, fun _ _ => ⟨?_, fun kk => ⟨cs, e, kk⟩⟩⟩
    rintro ⟨cs2, e2, kk2⟩
    rw [e] at e2
    cases e2
    exact kk2

/-- an allocation that asks for nothing -/
theorem aop_fal {o : SO} (ho : o.cl = .fal) (a : Nat → AV) : ∃ (f : Nat → AV) (ob : AObj), ∀ H V, aop o a H V ↔ (∀ id, H id = none → V (f id) (upd H id ob)) := by
  cases o <;> first | (simp [SO.cl] at ho; done) | skip
  case al zs => exact ⟨fun id => .p id 0, _, fun _ _ => Iff.rfl⟩
  case bk sz cs len => exact ⟨fun id => .s id 0 len, _, fun _ _ => Iff.rfl⟩

theorem astepV_aop {P : Program} {pv : Bool} {o : SO} (h1 : o.cl ≠ .ap) (h2 : o.cl ≠ .call) (h3 : o.cl ≠ .lcall) (a : Nat → AV) (H : AH) (V : AV → AH → Prop) : astepV P pv o a H V ↔ aop o a H V := by
  cases o <;> first | exact Iff.rfl | exact absurd rfl h1 | exact absurd rfl h2 | exact absurd rfl h3

theorem abin_mono {op : BinOp} {x y : AV} {K K' : AV → Prop} (hk : ∀ v, K v → K' v) (h : abin op x y K) : abin op x y K' := by
  obtain ⟨v, h1, h2⟩ := abin_det h
  exact h1 _ (hk _ h2)

theorem aop_frz {x : SV} {a : Nat → AV} {H : AH} {V : AV → AH → Prop} (h : aop (.ldf x) a H V) : ∃ v, (∀ H' V', (∀ id ob, H id = some ob → ob.rw = false → H' id = some ob) → V' v H' → aop (.ldf x) a H' V') ∧ V v H := by
  obtain ⟨id, off, ob, c, e1, e2, e3, e4, k⟩ := h
  exact ⟨c, fun H' V' hf k' => ⟨id, off, ob, c, e1, hf _ _ e2 e3, e3, e4, k'⟩, k⟩

theorem astepV_mono {P : Program} {pv : Bool} {o : SO} {a : Nat → AV} {H : AH} {V V' : AV → AH → Prop} (hv : ∀ v H', V v H' → V' v H') (h : astepV P pv o a H V) : astepV P pv o a H V' := by
  by_cases hp : o.cl = .pure
  · have h' : aop o a H V := by cases o <;> first | exact h | (simp [SO.cl] at hp; done)
    obtain ⟨v, h1, h2⟩ := aop_pure hp h'
    have := h1 H V' (hv _ _ h2)
    cases o <;> first | exact this | (simp [SO.cl] at hp; done)
  · by_cases hq : o.cl = .load
    · have h' : aop o a H V := by cases o <;> first | exact h | (simp [SO.cl] at hq; done)
      obtain ⟨v, h1, h2⟩ := aop_load hq h'
      have := h1 H V' (.refl H) (hv _ _ h2)
      cases o <;> first | exact this | (simp [SO.cl] at hq; done)
    · by_cases hr : o.cl = .fal ∨ o.cl = .alloc
      · have h' : aop o a H V := by cases o <;> first | exact h | (simp [SO.cl] at hr; done)
        obtain ⟨f, ob, h1, h2⟩ := aop_alloc hr h'
        have := h2 H V' (fun id hid => hv _ _ (h1 id hid))
        cases o <;> first | exact this | (simp [SO.cl] at hr; done)
      · cases o <;> first | (simp [SO.cl] at hp; done) | (simp [SO.cl] at hq; done) | (simp [SO.cl] at hr; done) | skip
        case st n x v => obtain ⟨id, off, ob, cs, e1, e2, e3, e4, e5, e6, k⟩ := h; exact ⟨id, off, ob, cs, e1, e2, e3, e4, e5, e6, hv _ _ k⟩
        case cp x y => obtain ⟨id, off, len, ob, k, news, e1, e2, e3, e4, e5, e6, kk⟩ := h; exact ⟨id, off, len, ob, k, news, e1, e2, e3, e4, e5, e6, hv _ _ kk⟩
        case ap sz bytes x y =>
          obtain ⟨k, news, e1, e2⟩ := h
          refine ⟨k, news, e1, ?_⟩
          rcases e2 with ⟨a1, a2, a3⟩ | ⟨id, off, len, ob, a1, a2, a3, a4, a5, a6, a7, a8⟩
          · exact .inl ⟨a1, fun q => ⟨(a2 q).1, hv _ _ (a2 q).2⟩, fun q => ⟨(a3 q).1, (a3 q).2.1, fun id hid => ⟨((a3 q).2.2 id hid).1, hv _ _ ((a3 q).2.2 id hid).2⟩⟩⟩
          · exact .inr ⟨id, off, len, ob, a1, a2, a3, a4, a5, a6, a7, fun id' hid' => ⟨(a8 id' hid').1, hv _ _ (a8 id' hid').2⟩⟩
        case ca f args => exact ACalls.mono h fun x H' hh => ⟨hh.1, hv _ _ hh.2⟩
        case cf x args => obtain ⟨f, caps, e1, h⟩ := h; exact ⟨f, caps, e1, ACalls.mono h fun x H' hh => ⟨hh.1, hv _ _ hh.2⟩⟩
        case ldf x => obtain ⟨id, off, ob, c, e1, e2, e3, e4, k⟩ := h; exact ⟨id, off, ob, c, e1, e2, e3, e4, hv _ _ k⟩
        case cal f args => exact ACalls.mono h hv
        case apl sz bytes x y =>
          obtain ⟨k, news, e1, e2⟩ := h
          refine ⟨k, news, e1, ?_⟩
          rcases e2 with ⟨a1, a2, a3⟩ | ⟨id, off, len, ob, a1, a2, a3, a4, a5, a6, a7, a8⟩
          · exact .inl ⟨a1, fun q => hv _ _ (a2 q), fun q => ⟨(a3 q).1, (a3 q).2.1, fun id hid => hv _ _ ((a3 q).2.2 id hid)⟩⟩
          · exact .inr ⟨id, off, len, ob, a1, a2, a3, a4, a5, a6, a7, fun id' hid' => hv _ _ (a8 id' hid')⟩

theorem avG_mono {P : Program} {pv : Bool} {r : SOp} {a : Nat → AV} {H : AH} {V V' : AV → AH → Prop} (hv : ∀ v H', V v H' → V' v H') (h : avG P pv r a H V) : avG P pv r a H V' := by
  unfold avG at h ⊢
  split at h
  · exact astepV_mono hv h
  · rcases h with ⟨t, e, h1, h2⟩ | ⟨e, h2⟩
    · exact .inl ⟨t, e, fun q => astepV_mono hv (h1 q), fun q => hv _ _ (h2 q)⟩
    · exact .inr ⟨e, hv _ _ h2⟩


theorem evS_congr {a b : Nat → AV} {x : SV} (h : ∀ t ∈ svT x, a t = b t) : evS a x = evS b x := by
  cases x with
  | t n => exact h n (by simp [svT])
  | k v => rfl

theorem aop_congr {o : SO} {a b : Nat → AV} (h : ∀ x ∈ o.svs, evS a x = evS b x) (H : AH) (V : AV → AH → Prop) : aop o a H V ↔ aop o b H V := by
  have e : ∀ x ∈ o.svs, evS a x = evS b x := h
  cases o <;> simp only [SO.svs, List.mem_cons, List.not_mem_nil, or_false, forall_eq_or_imp, forall_eq, List.mem_append, Option.mem_toList] at e <;> simp only [aop]
  case sl sz x lo hi =>
    have e1 := h x (by simp [SO.svs])
    have e2 : lo.map (evS a) = lo.map (evS b) := by
      cases lo with
      | none => rfl
      | some y => simp only [Option.map_some]; rw [h y (by simp [SO.svs])]
    have e3 : hi.map (evS a) = hi.map (evS b) := by
      cases hi with
      | none => rfl
      | some y => simp only [Option.map_some]; rw [h y (by simp [SO.svs])]
    rw [e1, e2, e3]
  case mf f caps =>
    have : caps.map (evS a) = caps.map (evS b) := List.map_congr_left h
    rw [this]
  case bs sz zs len ps =>
    have : (ps.map fun p => (p.1, evS a p.2)) = (ps.map fun p => (p.1, evS b p.2)) := List.map_congr_left fun p hp => by rw [h p.2 (by simp only [SO.svs, List.mem_map]; exact ⟨p, hp, rfl⟩)]
    rw [this]
  case bd zs places ps =>
    have : (ps.map fun p => (p.1, evS a p.2)) = (ps.map fun p => (p.1, evS b p.2)) := List.map_congr_left fun p hp => by rw [h p.2 (by simp only [SO.svs, List.mem_map]; exact ⟨p, hp, rfl⟩)]
    rw [this]
  all_goals first
    | rfl
    | (rw [e])
    | (obtain ⟨e1, e2⟩ := e; rw [e1, e2])
    | (obtain ⟨e1, e2, e3⟩ := e; rw [e1, e2, e3])

theorem astepV_congr {P : Program} {pv : Bool} {o : SO} {a b : Nat → AV} (h : ∀ x ∈ o.svs, evS a x = evS b x) (H : AH) (V : AV → AH → Prop) : astepV P pv o a H V ↔ astepV P pv o b H V := by
  cases o
  case ca f args =>
    have : args.map (evS a) = args.map (evS b) := List.map_congr_left h
    simp only [astepV]
    rw [this]
  case cal f args =>
    have : args.map (evS a) = args.map (evS b) := List.map_congr_left h
    simp only [astepV]
    rw [this]
  case cf x args =>
    have e1 : evS a x = evS b x := h x (by simp [SO.svs])
    have e2 : args.map (evS a) = args.map (evS b) := List.map_congr_left fun y hy => h y (by simp [SO.svs, hy])
    simp only [astepV]
    rw [e1, e2]
  case ap sz bytes x y =>
    show aop (.ap sz bytes x y) a H (fun v H' => (pv = true → HLe H H') ∧ V v H') ↔ aop (.ap sz bytes x y) b H (fun v H' => (pv = true → HLe H H') ∧ V v H')
    exact aop_congr h H _
  case apl sz bytes x y =>
    show aop (.ap sz bytes x y) a H V ↔ aop (.ap sz bytes x y) b H V
    exact aop_congr (o := .ap sz bytes x y) h H _
  all_goals exact aop_congr h H _

theorem avG_congr {P : Program} {pv : Bool} {r : SOp} {a b : Nat → AV} (h : ∀ t ∈ r.looks, a t = b t) {H : AH} {V : AV → AH → Prop} (hh : avG P pv r a H V) : avG P pv r b H V := by
  have hs : ∀ x ∈ r.op.svs, evS a x = evS b x := fun x hx => evS_congr fun t ht => h t (by
    simp only [SOp.looks, List.mem_append, List.mem_flatMap]
    exact .inl ⟨x, hx, ht⟩)
  unfold avG at hh ⊢
  cases hg : r.grd with
  | none => rw [hg] at hh; exact (astepV_congr hs _ _).mp hh
  | some dw =>
    rw [hg] at hh
    rcases hh with ⟨t, e, h1, h2⟩ | ⟨e, h2⟩
    · refine .inl ⟨t, ?_, fun q => (astepV_congr hs _ _).mp (h1 q), h2⟩
      rw [← h dw.1 (by simp [SOp.looks, hg])]
      exact e
    · refine .inr ⟨?_, h2⟩
      rw [← h dw.1 (by simp [SOp.looks, hg])]
      exact e

theorem HLe.alloc {H : AH} {id : Nat} (h : H id = none) (ob : AObj) : HLe H (upd H id ob) := HLe.upd_new h ob

/-- in a drawn region whatever is not loud leaves what there was -/
theorem astepV_keeps {P : Program} {o : SO} (ho : o.cl ≠ .loud) (ho2 : o.cl ≠ .lcall) {a : Nat → AV} {H : AH} {V : AV → AH → Prop} (h : astepV P true o a H V) : astepV P true o a H (fun v H' => HLe H H' ∧ V v H') := by
  by_cases hp : o.cl = .pure
  · have h' : aop o a H V := by cases o <;> first | exact h | (simp [SO.cl] at hp; done)
    obtain ⟨v, h1, h2⟩ := aop_pure hp h'
    have := h1 H (fun v H' => HLe H H' ∧ V v H') ⟨.refl H, h2⟩
    cases o <;> first | exact this | (simp [SO.cl] at hp; done)
  · by_cases hq : o.cl = .load
    · have h' : aop o a H V := by cases o <;> first | exact h | (simp [SO.cl] at hq; done)
      obtain ⟨v, h1, h2⟩ := aop_load hq h'
      have := h1 H (fun v H' => HLe H H' ∧ V v H') (.refl H) ⟨.refl H, h2⟩
      cases o <;> first | exact this | (simp [SO.cl] at hq; done)
    · by_cases hr : o.cl = .fal ∨ o.cl = .alloc
      · have h' : aop o a H V := by cases o <;> first | exact h | (simp [SO.cl] at hr; done)
        obtain ⟨f, ob, h1, h2⟩ := aop_alloc hr h'
        have := h2 H (fun v H' => HLe H H' ∧ V v H') (fun id hid => ⟨.upd_new hid ob, h1 id hid⟩)
        cases o <;> first | exact this | (simp [SO.cl] at hr; done)
      · cases o <;> first | (simp [SO.cl] at hp; done) | (simp [SO.cl] at hq; done) | (simp [SO.cl] at hr; done) | (simp [SO.cl] at ho; done) | (simp [SO.cl] at ho2; done) | skip
        case ap sz bytes x y =>
          obtain ⟨k, news, e1, e2⟩ := h
          refine ⟨k, news, e1, ?_⟩
          rcases e2 with ⟨a1, a2, a3⟩ | ⟨id, off, len, ob, a1, a2, a3, a4, a5, a6, a7, a8⟩
          · exact .inl ⟨a1, fun q => ⟨(a2 q).1, (a2 q).1 rfl, (a2 q).2⟩, fun q => ⟨(a3 q).1, (a3 q).2.1, fun id hid => ⟨((a3 q).2.2 id hid).1, ((a3 q).2.2 id hid).1 rfl, ((a3 q).2.2 id hid).2⟩⟩⟩
          · exact .inr ⟨id, off, len, ob, a1, a2, a3, a4, a5, a6, a7, fun id' hid' => ⟨(a8 id' hid').1, (a8 id' hid').1 rfl, (a8 id' hid').2⟩⟩
        case ca f args => exact ACalls.mono h fun x H' hh => ⟨hh.1, hh.1 rfl, hh.2⟩
        case cf x args => obtain ⟨f, caps, e1, h⟩ := h; exact ⟨f, caps, e1, ACalls.mono h fun v H' hh => ⟨hh.1, hh.1 rfl, hh.2⟩⟩
        case ldf x => obtain ⟨id, off, ob, c, e1, e2, e3, e4, k⟩ := h; exact ⟨id, off, ob, c, e1, e2, e3, e4, .refl H, k⟩

theorem avG_keeps {P : Program} {r : SOp} (ho : r.op.cl ≠ .loud) (ho2 : r.op.cl ≠ .lcall) {a : Nat → AV} {H : AH} {V : AV → AH → Prop} (h : avG P true r a H V) : avG P true r a H (fun v H' => HLe H H' ∧ V v H') := by
  unfold avG at h ⊢
  split at h
  · exact astepV_keeps ho ho2 h
  · rcases h with ⟨t, e, h1, h2⟩ | ⟨e, h2⟩
    · exact .inl ⟨t, e, fun q => astepV_keeps ho ho2 (h1 q), fun q => ⟨.refl H, h2 q⟩⟩
    · exact .inr ⟨e, .refl H, h2⟩

/-- one that yields the same value whatever comes before it -/
theorem avG_det {P : Program} {pv : Bool} {r : SOp} (ho : r.op.cl = .pure ∨ r.op.cl = .load) {a : Nat → AV} {H : AH} {V : AV → AH → Prop} (h : avG P pv r a H V) :
    ∃ v, (∀ H' V', (r.op.cl = .load → HLe H H') → V' v H' → avG P pv r a H' V') ∧ V v H := by
  have op : ∀ W : AV → AH → Prop, astepV P pv r.op a H W → ∃ v, (∀ H' V', (r.op.cl = .load → HLe H H') → V' v H' → astepV P pv r.op a H' V') ∧ W v H := by
    intro W h
    have n1 : r.op.cl ≠ .ap := by rcases ho with e | e <;> rw [e] <;> decide
    have n2 : r.op.cl ≠ .call := by rcases ho with e | e <;> rw [e] <;> decide
    have n3 : r.op.cl ≠ .lcall := by rcases ho with e | e <;> rw [e] <;> decide
    have h' := (astepV_aop n1 n2 n3 a H W).mp h
    rcases ho with hp | hq
    · obtain ⟨v, h1, h2⟩ := aop_pure hp h'
      exact ⟨v, fun H' V' _ k => (astepV_aop n1 n2 n3 a H' V').mpr (h1 H' V' k), h2⟩
    · obtain ⟨v, h1, h2⟩ := aop_load hq h'
      exact ⟨v, fun H' V' hl k => (astepV_aop n1 n2 n3 a H' V').mpr (h1 H' V' (hl hq) k), h2⟩
  unfold avG at h ⊢
  split at h
  · exact op V h
  · rename_i d want hg
    rcases h with ⟨t, e, h1, h2⟩ | ⟨e, h2⟩
    · by_cases q : t = want
      · obtain ⟨v, k1, k2⟩ := op V (h1 q)
        exact ⟨v, fun H' V' hl k => .inl ⟨t, e, fun _ => k1 H' V' hl k, fun nq => absurd q nq⟩, k2⟩
      · exact ⟨.c undef, fun H' V' _ k => .inl ⟨t, e, fun hq => absurd hq q, fun _ => k⟩, h2 q⟩
    · exact ⟨.c undef, fun H' V' _ k => .inr ⟨e, k⟩, h2⟩

end Go.Proofs.Ytdkdainipanacaa
namespace Go.Proofs.Ytdkdainipanacaa
open Go Go.RowKit
set_option linter.unusedSimpArgs false
set_option linter.unusedVariables false
set_option linter.constructorNameAsVariable false

def Fin (H : AH) : Prop := ∃ N, ∀ id, N ≤ id → H id = none

theorem Fin.upd {H : AH} (h : Fin H) (id : Nat) (ob : AObj) : Fin (upd H id ob) := by
  obtain ⟨N, hN⟩ := h
  refine ⟨max N (id + 1), fun j hj => ?_⟩
  rw [upd_ne _ _ (by omega)]
  exact hN j (by omega)
theorem Fin.del {H : AH} (h : Fin H) (id : Nat) : Fin (del H id) := by
  obtain ⟨N, hN⟩ := h
  refine ⟨N, fun j hj => ?_⟩
  by_cases q : j = id
  · subst q; exact del_same _ _
  · rw [del_ne _ q]; exact hN j hj
theorem Rel.fin' {m : AMap} {H HT : AH} {g : Out} {w : World} (h : Rel m HT g w) (hl : HLe H HT) : Fin H := by
  obtain ⟨N, hN⟩ := h.fin
  refine ⟨N, fun id hid => ?_⟩
  cases hh : H id with
  | none => rfl
  | some ob =>
    obtain ⟨e, he, _⟩ := h.live id ob (hl _ _ hh)
    rw [hN id hid] at he
    cases he

theorem ACalls.fin {P : Program} {f : FuncId} {args : List AV} {H : AH} {R : AV → AH → Prop} (h : ACalls P f args H R) : ACalls P f args H (fun x H' => Fin H' ∧ R x H') :=
  ⟨h.1, fun m HT g w vs a b c => (h.2 m HT g w vs a b c).mono fun e w' ⟨v, x, m', H', HT', h1, h2, h3, h4, h5⟩ => ⟨v, x, m', H', HT', h1, h2, h3, h4, h4.fin' h3.sub, h5⟩⟩

theorem astepV_fin {P : Program} {pv : Bool} {o : SO} {a : Nat → AV} {H : AH} (hf : Fin H) {V : AV → AH → Prop} (h : astepV P pv o a H V) : astepV P pv o a H (fun v H' => Fin H' ∧ V v H') := by
  by_cases hp : o.cl = .pure
  · have n1 : o.cl ≠ .ap := by rw [hp]; decide
    have n2 : o.cl ≠ .call := by rw [hp]; decide
    have n3 : o.cl ≠ .lcall := by rw [hp]; decide
    obtain ⟨v, h1, h2⟩ := aop_pure hp ((astepV_aop n1 n2 n3 a H V).mp h)
    exact (astepV_aop n1 n2 n3 a H _).mpr (h1 H _ ⟨hf, h2⟩)
  · by_cases hq : o.cl = .load
    · have n1 : o.cl ≠ .ap := by rw [hq]; decide
      have n2 : o.cl ≠ .call := by rw [hq]; decide
      have n3 : o.cl ≠ .lcall := by rw [hq]; decide
      obtain ⟨v, h1, h2⟩ := aop_load hq ((astepV_aop n1 n2 n3 a H V).mp h)
      exact (astepV_aop n1 n2 n3 a H _).mpr (h1 H _ (.refl H) ⟨hf, h2⟩)
    · by_cases hr : o.cl = .fal ∨ o.cl = .alloc
      · have n1 : o.cl ≠ .ap := by rcases hr with e | e <;> rw [e] <;> decide
        have n2 : o.cl ≠ .call := by rcases hr with e | e <;> rw [e] <;> decide
        have n3 : o.cl ≠ .lcall := by rcases hr with e | e <;> rw [e] <;> decide
        obtain ⟨f, ob, h1, h2⟩ := aop_alloc hr ((astepV_aop n1 n2 n3 a H V).mp h)
        exact (astepV_aop n1 n2 n3 a H _).mpr (h2 H _ (fun id hid => ⟨hf.upd id ob, h1 id hid⟩))
      · cases o <;> first | (simp [SO.cl] at hp; done) | (simp [SO.cl] at hq; done) | (simp [SO.cl] at hr; done) | skip
        case st n x v => obtain ⟨id, off, ob, cs, e1, e2, e3, e4, e5, e6, k⟩ := h; exact ⟨id, off, ob, cs, e1, e2, e3, e4, e5, e6, hf.upd _ _, k⟩
        case cp x y => obtain ⟨id, off, len, ob, k, news, e1, e2, e3, e4, e5, e6, kk⟩ := h; exact ⟨id, off, len, ob, k, news, e1, e2, e3, e4, e5, e6, hf.upd _ _, kk⟩
        case ap sz bytes x y =>
          obtain ⟨k, news, e1, e2⟩ := h
          refine ⟨k, news, e1, ?_⟩
          rcases e2 with ⟨a1, a2, a3⟩ | ⟨id, off, len, ob, a1, a2, a3, a4, a5, a6, a7, a8⟩
          · exact .inl ⟨a1, fun q => ⟨(a2 q).1, hf, (a2 q).2⟩, fun q => ⟨(a3 q).1, (a3 q).2.1, fun id hid => ⟨((a3 q).2.2 id hid).1, hf.upd _ _, ((a3 q).2.2 id hid).2⟩⟩⟩
          · exact .inr ⟨id, off, len, ob, a1, a2, a3, a4, a5, a6, a7, fun id' hid' => ⟨(a8 id' hid').1, (hf.del _).upd _ _, (a8 id' hid').2⟩⟩
        case ca f args => exact ACalls.mono (ACalls.fin h) fun x H' hh => ⟨hh.2.1, hh.1, hh.2.2⟩
        case cf x args => obtain ⟨f, caps, e1, h⟩ := h; exact ⟨f, caps, e1, ACalls.mono (ACalls.fin h) fun x H' hh => ⟨hh.2.1, hh.1, hh.2.2⟩⟩
        case ldf x => obtain ⟨id, off, ob, c, e1, e2, e3, e4, k⟩ := h; exact ⟨id, off, ob, c, e1, e2, e3, e4, hf, k⟩
        case cal f args => exact ACalls.fin h
        case apl sz bytes x y =>
          obtain ⟨k, news, e1, e2⟩ := h
          refine ⟨k, news, e1, ?_⟩
          rcases e2 with ⟨a1, a2, a3⟩ | ⟨id, off, len, ob, a1, a2, a3, a4, a5, a6, a7, a8⟩
          · exact .inl ⟨a1, fun q => ⟨hf, a2 q⟩, fun q => ⟨(a3 q).1, (a3 q).2.1, fun id hid => ⟨hf.upd _ _, (a3 q).2.2 id hid⟩⟩⟩
          · exact .inr ⟨id, off, len, ob, a1, a2, a3, a4, a5, a6, a7, fun id' hid' => ⟨(hf.del _).upd _ _, a8 id' hid'⟩⟩

theorem avG_fin {P : Program} {pv : Bool} {r : SOp} {a : Nat → AV} {H : AH} (hf : Fin H) {V : AV → AH → Prop} (h : avG P pv r a H V) : avG P pv r a H (fun v H' => Fin H' ∧ V v H') := by
  unfold avG at h ⊢
  split at h
  · exact astepV_fin hf h
  · rcases h with ⟨t, e, h1, h2⟩ | ⟨e, h2⟩
    · exact .inl ⟨t, e, fun q => astepV_fin hf (h1 q), fun q => ⟨hf, h2 q⟩⟩
    · exact .inr ⟨e, hf, h2⟩

/-- the one writes no slot that the other looks at or writes -/
def apart (x y : SOp) : Bool :=
  (match x.dst with | some d => !(y.looks.contains d) && (match y.dst with | some e => !(Nat.beq d e) | none => true) | none => true) &&
  (match y.dst with | some e => !(x.looks.contains e) | none => true)

theorem put_other {a : Nat → AV} {d t : Nat} {v : AV} (h : t ≠ d) : put a d v t = a t := by simp [put, beq_ne h]

theorem apart_spec {x y : SOp} (h : apart x y = true) : (∀ a v, ∀ t ∈ y.looks, putD a x.dst v t = a t) ∧ (∀ a v, ∀ t ∈ x.looks, putD a y.dst v t = a t) ∧ (∀ a v u, putD (putD a x.dst v) y.dst u = putD (putD a y.dst u) x.dst v) := by
  unfold apart at h
  simp only [Bool.and_eq_true] at h
  obtain ⟨h1, h2⟩ := h
  have look : ∀ {z : SOp} {d : Nat}, (!(z.looks.contains d)) = true → ∀ t ∈ z.looks, t ≠ d := by
    intro z d hz t ht e
    subst e
    simp at hz
    exact hz ht
  refine ⟨?_, ?_, ?_⟩
  · intro a v t ht
    cases hx : x.dst with
    | none => rfl
    | some d =>
      rw [hx] at h1
      simp only [Bool.and_eq_true] at h1
      exact put_other (look h1.1 t ht)
  · intro a v t ht
    cases hy : y.dst with
    | none => rfl
    | some e =>
      rw [hy] at h2
      exact put_other (look h2 t ht)
  · intro a v u
    cases hx : x.dst with
    | none => rfl
    | some d =>
      cases hy : y.dst with
      | none => rfl
      | some e =>
        rw [hx, hy] at h1
        simp only [Bool.and_eq_true] at h1
        have hne : d ≠ e := fun q => by subst q; simp [beq_self] at h1
        funext t
        show put (put a d v) e u t = put (put a e u) d v t
        simp only [put]
        by_cases q1 : t = d
        · subst q1; rw [beq_self, beq_ne hne]; rfl
        · by_cases q2 : t = e
          · subst q2; rw [beq_self, beq_ne q1]; rfl
          · rw [beq_ne q1, beq_ne q2]; rfl

def mayFirst (x y : SOp) : Bool :=
  match x.op.cl, y.op.cl with
  | .pure, _ => true
  | .frz, .lcall => false
  | .frz, _ => true
  | .load, .loud => false
  | .load, .lcall => false
  | .load, _ => true
  | .ap, .fal | .ap, .alloc => x.grd.isNone && y.grd.isNone
  | .call, .fal => x.grd.isNone && y.grd.isNone
  | .fal, .fal | .fal, .alloc | .alloc, .fal | .alloc, .alloc => x.grd.isNone && y.grd.isNone
  | _, _ => false

theorem upd_comm {α : Type} (H : Nat → Option α) {i j : Nat} (h : i ≠ j) (x y : α) : upd (upd H i x) j y = upd (upd H j y) i x := by
  funext t
  by_cases q : t = i
  · subst q; rw [upd_ne _ _ h, upd_same, upd_same]
  · by_cases q' : t = j
    · subst q'; rw [upd_same, upd_ne _ _ q, upd_same]
    · rw [upd_ne _ _ q', upd_ne _ _ q, upd_ne _ _ q, upd_ne _ _ q']

theorem upd_none {α : Type} {H : Nat → Option α} {i j : Nat} {x : α} (h : upd H i x j = none) : j ≠ i ∧ H j = none := by
  have q : j ≠ i := fun q => by rw [q, upd_same] at h; cases h
  rw [upd_ne _ _ q] at h
  exact ⟨q, h⟩

theorem src_le {H H' : AH} (hl : HLe H H') {sz : Nat} {x : AV} {r : Nat × List AV} (h : src H sz x = some r) : src H' sz x = some r := by
  cases x <;> simp only [src] at h ⊢ <;> try exact h
  rename_i id off len
  cases ho : H id with
  | none => rw [ho] at h; cases h
  | some ob => rw [ho] at h; rw [hl _ _ ho]; exact h

/-- what nobody writes stays as it is -/
def Keep (H H' : AH) : Prop := ∀ id ob, H id = some ob → ob.rw = false → H' id = some ob
theorem astepV_frz {P : Program} {o : SO} (ho2 : o.cl ≠ .lcall) {a : Nat → AV} {H : AH} {V : AV → AH → Prop} (h : astepV P true o a H V) : astepV P true o a H (fun v H' => Keep H H' ∧ V v H') := by
  by_cases hl : o.cl = .loud
  · cases o <;> first | (simp [SO.cl] at hl; done) | skip
    case st n x v =>
      obtain ⟨id, off, ob, cs, e1, e2, e3, e4, e5, e6, k⟩ := h
      refine ⟨id, off, ob, cs, e1, e2, e3, e4, e5, e6, fun j o hj ho => ?_, k⟩
      rw [upd_ne _ _ (fun e => by rw [e, e2] at hj; cases hj; rw [e3] at ho; cases ho)]
      exact hj
    case cp x y =>
      obtain ⟨id, off, len, ob, k, news, e1, e2, e3, e4, e5, e6, kk⟩ := h
      refine ⟨id, off, len, ob, k, news, e1, e2, e3, e4, e5, e6, fun j o hj ho => ?_, kk⟩
      rw [upd_ne _ _ (fun e => by rw [e, e2] at hj; cases hj; rw [e3] at ho; cases ho)]
      exact hj
  · exact astepV_mono (fun v H' hh => ⟨fun j o hj _ => hh.1 _ _ hj, hh.2⟩) (astepV_keeps hl ho2 h)
theorem avG_frz {P : Program} {r : SOp} (ho2 : r.op.cl ≠ .lcall) {a : Nat → AV} {H : AH} {V : AV → AH → Prop} (h : avG P true r a H V) : avG P true r a H (fun v H' => Keep H H' ∧ V v H') := by
  unfold avG at h ⊢
  split at h
  · exact astepV_frz ho2 h
  · rcases h with ⟨t, e, h1, h2⟩ | ⟨e, h2⟩
    · exact .inl ⟨t, e, fun q => astepV_frz ho2 (h1 q), fun q => ⟨fun _ _ hj _ => hj, h2 q⟩⟩
    · exact .inr ⟨e, fun _ _ hj _ => hj, h2⟩
theorem avG_detF {P : Program} {pv : Bool} {r : SOp} (ho : r.op.cl = .frz) {a : Nat → AV} {H : AH} {V : AV → AH → Prop} (h : avG P pv r a H V) :
    ∃ v, (∀ H' V', Keep H H' → V' v H' → avG P pv r a H' V') ∧ V v H := by
  obtain ⟨dst, op, grd⟩ := r
  cases op <;> first | (simp [SO.cl] at ho; done) | skip
  rename_i x
  unfold avG at h ⊢
  cases grd with
  | none =>
    obtain ⟨v, h1, h2⟩ := aop_frz (x := x) h
    exact ⟨v, fun H' V' hk k => h1 H' V' hk k, h2⟩
  | some dw =>
    rcases h with ⟨t, e, h1, h2⟩ | ⟨e, h2⟩
    · by_cases q : t = dw.2
      · obtain ⟨v, k1, k2⟩ := aop_frz (x := x) (h1 q)
        exact ⟨v, fun H' V' hk k => .inl ⟨t, e, fun _ => k1 H' V' hk k, fun nq => absurd q nq⟩, k2⟩
      · exact ⟨.c undef, fun H' V' _ k => .inl ⟨t, e, fun hq => absurd hq q, fun _ => k⟩, h2 q⟩
    · exact ⟨.c undef, fun H' V' _ k => .inr ⟨e, k⟩, h2⟩

theorem swap {P : Program} {x y : SOp} (hap : apart x y = true) (hm : mayFirst x y = true) {a : Nat → AV} {H : AH} (hf : Fin H) {K : (Nat → AV) → AH → Prop}
    (h : aopG P true x a H (fun a1 H1 => aopG P true y a1 H1 K)) : aopG P true y a H (fun a1 H1 => aopG P true x a1 H1 K) := by
  obtain ⟨s1, s2, s3⟩ := apart_spec hap
  unfold aopG at h ⊢
  by_cases hfz : x.op.cl = .frz
  · obtain ⟨v, h1, h2⟩ := avG_detF hfz h
    have h3 := avG_congr (b := a) (s1 a v) h2
    refine avG_mono (fun u H2 k => ?_) (avG_frz (fun e => by simp [mayFirst, hfz, e] at hm) h3)
    refine avG_congr (a := a) (fun t ht => (s2 a u t ht).symm) ?_
    refine h1 H2 _ k.1 ?_
    rw [← s3]
    exact k.2
  by_cases hdet : x.op.cl = .pure ∨ x.op.cl = .load
  · obtain ⟨v, h1, h2⟩ := avG_det hdet h
    have h3 := avG_congr (b := a) (s1 a v) h2
    have h4 : avG P true y a H (fun u H2 => (x.op.cl = .load → HLe H H2) ∧ K (putD (putD a x.dst v) y.dst u) H2) := by
      rcases hdet with hp | hq
      · exact avG_mono (fun u H2 k => ⟨fun e => (by rw [hp] at e; cases e), k⟩) h3
      · have hny : y.op.cl ≠ .loud := fun e => by simp [mayFirst, hq, e] at hm
        have hny2 : y.op.cl ≠ .lcall := fun e => by simp [mayFirst, hq, e] at hm
        exact avG_mono (fun u H2 k => ⟨fun _ => k.1, k.2⟩) (avG_keeps hny hny2 h3)
    refine avG_mono (fun u H2 k => ?_) h4
    refine avG_congr (a := a) (fun t ht => (s2 a u t ht).symm) ?_
    refine h1 H2 _ k.1 ?_
    rw [← s3]
    exact k.2
  · -- x allocates, appends or calls; y allocates; neither is guarded
    have hcl : (x.op.cl = .ap ∧ (y.op.cl = .fal ∨ y.op.cl = .alloc)) ∨ (x.op.cl = .call ∧ y.op.cl = .fal) ∨ ((x.op.cl = .fal ∨ x.op.cl = .alloc) ∧ (y.op.cl = .fal ∨ y.op.cl = .alloc)) := by
      revert hm hdet hfz
      unfold mayFirst
      cases x.op.cl <;> cases y.op.cl <;> simp
    have hg : x.grd = none ∧ y.grd = none := by
      have : (x.grd.isNone && y.grd.isNone) = true := by
        revert hm
        unfold mayFirst
        rcases hcl with ⟨e1, e2 | e2⟩ | ⟨e1, e2⟩ | ⟨e1 | e1, e2 | e2⟩ <;> rw [e1, e2] <;> exact id
      simpa using this
    have un : ∀ (r : SOp) (b : Nat → AV) (G : AH) (V : AV → AH → Prop), r.grd = none → (avG P true r b G V ↔ astepV P true r.op b G V) := by
      intro r b G V hr
      unfold avG
      rw [hr]
    rw [un x _ _ _ hg.1] at h
    rw [un y _ _ _ hg.2]
    have ycl : y.op.cl ≠ .ap ∧ y.op.cl ≠ .call ∧ y.op.cl ≠ .lcall := by
      rcases hcl with ⟨_, e | e⟩ | ⟨_, e⟩ | ⟨_, e | e⟩ <;> rw [e] <;> decide
    have hyal : y.op.cl = .fal ∨ y.op.cl = .alloc := by
      rcases hcl with ⟨_, e⟩ | ⟨_, e⟩ | ⟨_, e⟩
      · exact e
      · exact .inl e
      · exact e
    have ycong : ∀ v H1 V1, avG P true y (putD a x.dst v) H1 V1 → aop y.op a H1 V1 := by
      intro v H1 V1 hh
      have h1 := avG_congr (b := a) (s1 a v) hh
      rw [un y _ _ _ hg.2] at h1
      exact (astepV_aop ycl.1 ycl.2.1 ycl.2.2 _ _ _).mp h1
    have ycong' : ∀ v H1 V1, aop y.op a H1 V1 → avG P true y (putD a x.dst v) H1 V1 := by
      intro v H1 V1 hh
      refine avG_congr (a := a) (fun t ht => (s1 a v t ht).symm) ?_
      rw [un y _ _ _ hg.2]
      exact (astepV_aop ycl.1 ycl.2.1 ycl.2.2 _ _ _).mpr hh
    have xcong : ∀ v H1 V1, astepV P true x.op a H1 V1 → avG P true x (putD a y.dst v) H1 V1 := by
      intro v H1 V1 hh
      refine avG_congr (a := a) (fun t ht => (s2 a v t ht).symm) ?_
      rw [un x _ _ _ hg.1]
      exact hh
    rcases hcl with ⟨hx, _⟩ | ⟨hx, hy⟩ | ⟨hx, _⟩
    · -- append, then allocation
      obtain ⟨dstx, opx, grdx⟩ := x
      simp only at *
      cases opx <;> first | (simp [SO.cl] at hx; done) | skip
      rename_i sz bytes sx sy
      obtain ⟨k, news, e1, e2⟩ := h
      obtain ⟨N, hN⟩ := hf
      rcases e2 with ⟨a1, a2, a3⟩ | ⟨id, off, len, ob, a1, a2, a3, a4, a5, a6, a7, a8⟩
      · obtain ⟨f, ob, hiff⟩ : ∃ (f : Nat → AV) (ob : AObj), ∀ H' V', aop y.op a H' V' ↔ (∀ id, H' id = none → V' (f id) (upd H' id ob)) := by
          rcases Nat.eq_zero_or_pos k with q | q
          · exact aop_alloc_iff hyal (ycong _ _ _ (a2 q).2)
          · exact aop_alloc_iff hyal (ycong _ _ _ ((a3 q).2.2 N (hN N (Nat.le_refl _))).2)
        refine (astepV_aop ycl.1 ycl.2.1 ycl.2.2 _ _ _).mpr ((hiff _ _).mpr fun id2 hid2 => ?_)
        refine xcong _ _ _ ⟨k, news, src_le (.upd_new hid2 ob) e1, .inl ⟨a1, fun q => ⟨fun _ => .refl _, ?_⟩, fun q => ⟨(a3 q).1, (a3 q).2.1, fun id hid => ⟨fun _ => .upd_new hid _, ?_⟩⟩⟩⟩
        · have := (hiff _ _).mp (ycong _ _ _ (a2 q).2) id2 hid2
          show K _ _
          rw [← s3]
          exact this
        · obtain ⟨hne, hid'⟩ := upd_none hid
          have hid2' : upd H id ⟨news, true, sz⟩ id2 = none := by rw [upd_ne _ _ (Ne.symm hne)]; exact hid2
          have := (hiff _ _).mp (ycong _ _ _ ((a3 q).2.2 id hid').2) id2 hid2'
          show K _ _
          rw [← s3, upd_comm _ (Ne.symm hne)]
          exact this
      · exfalso
        have hle := (a8 N (hN N (Nat.le_refl _))).1 rfl
        have hne : id ≠ N := fun q => by rw [q, hN N (Nat.le_refl _)] at a2; cases a2
        have := hle id ob a2
        rw [upd_ne _ _ hne, del_same] at this
        cases this
    · obtain ⟨dstx, opx, grdx⟩ := x
      simp only at *
      cases opx <;> first | (simp [SO.cl] at hx; done) | skip
      · rename_i fid args
        obtain ⟨f, ob, hiff⟩ := aop_fal hy a
        refine (astepV_aop ycl.1 ycl.2.1 ycl.2.2 _ _ _).mpr ((hiff _ _).mpr fun id2 hid2 => ?_)
        refine xcong _ _ _ ?_
        refine ACalls.mono (ACalls.frame h hid2 ob) ?_
        rintro v H'' ⟨H', hH', rfl, hle, hy'⟩
        refine ⟨fun _ => ?_, ?_⟩
        · intro j o hj
          by_cases q : j = id2
          · subst q; rw [upd_same] at hj ⊢; exact hj
          · rw [upd_ne _ _ q] at hj ⊢; exact hle rfl _ _ hj
        · have := (hiff _ _).mp (ycong _ _ _ hy') id2 hH'
          show K _ _
          rw [← s3]
          exact this
      · rename_i sx args
        obtain ⟨fid, caps, efx, h⟩ := h
        obtain ⟨f, ob, hiff⟩ := aop_fal hy a
        refine (astepV_aop ycl.1 ycl.2.1 ycl.2.2 _ _ _).mpr ((hiff _ _).mpr fun id2 hid2 => ?_)
        refine xcong _ _ _ ⟨fid, caps, efx, ?_⟩
        refine ACalls.mono (ACalls.frame h hid2 ob) ?_
        rintro v H'' ⟨H', hH', rfl, hle, hy'⟩
        refine ⟨fun _ => ?_, ?_⟩
        · intro j o hj
          by_cases q : j = id2
          · subst q; rw [upd_same] at hj ⊢; exact hj
          · rw [upd_ne _ _ q] at hj ⊢; exact hle rfl _ _ hj
        · have := (hiff _ _).mp (ycong _ _ _ hy') id2 hH'
          show K _ _
          rw [← s3]
          exact this
    · have xcl : x.op.cl ≠ .ap ∧ x.op.cl ≠ .call ∧ x.op.cl ≠ .lcall := by rcases hx with e | e <;> rw [e] <;> decide
      have h' := (astepV_aop xcl.1 xcl.2.1 xcl.2.2 _ _ _).mp h
      obtain ⟨fx, obx, hix⟩ := aop_alloc_iff hx h'
      have h2 := (hix _ _).mp h'
      obtain ⟨N, hN⟩ := hf
      obtain ⟨f, ob, hiff⟩ := aop_alloc_iff hyal (ycong _ _ _ (h2 N (hN N (Nat.le_refl _))))
      refine (astepV_aop ycl.1 ycl.2.1 ycl.2.2 _ _ _).mpr ((hiff _ _).mpr fun id2 hid2 => ?_)
      refine xcong _ _ _ ((astepV_aop xcl.1 xcl.2.1 xcl.2.2 _ _ _).mpr ((hix _ _).mpr fun id hid => ?_))
      obtain ⟨hne, hid'⟩ := upd_none hid
      have hid2' : upd H id obx id2 = none := by rw [upd_ne _ _ (Ne.symm hne)]; exact hid2
      have := (hiff _ _).mp (ycong _ _ _ (h2 id hid')) id2 hid2'
      show K _ _
      rw [← s3, upd_comm _ (Ne.symm hne)]
      exact this

end Go.Proofs.Ytdkdainipanacaa
namespace Go.Proofs.Ytdkdainipanacaa
open Go Go.RowKit
set_option linter.unusedSimpArgs false
set_option linter.unusedVariables false
set_option linter.constructorNameAsVariable false

def preds (o : Oper) : List Nat := o.after.toList.filterMap fun e => if Region.binds .any e then some e.on else none
def predsAt (ops : Array Oper) (i : Nat) : List Nat := ((ops[i]?).map preds).getD []

def pairOk (ops : Array Oper) (rs : List SOp) (T : Array Nat) : List Nat → Bool
  | [] => true
  | x :: l => l.all (fun y => !(Nat.beq x y) && !((predsAt ops x).contains y) && ((T.getD y 0).testBit x || (match rs[x]?, rs[y]? with | some rx, some ry => apart rx ry && mayFirst rx ry | _, _ => false))) && pairOk ops rs T l

def tabOk (ops : Array Oper) (T : Array Nat) : Bool :=
  (List.range ops.size).all fun y => (predsAt ops y).all (Nat.blt · y) &&
    (List.range ops.size).all fun x => !((T.getD y 0).testBit x) || (predsAt ops y).any (fun p => Nat.beq p x || (T.getD p 0).testBit x)

def okOrd (ops : Array Oper) (rs : List SOp) (l : List Nat) : Bool :=
  (List.range ops.size).all (fun i => l.contains i) && Nat.ble l.length ops.size && l.all (Nat.blt · ops.size) && tabOk ops (Region.before ops) && pairOk ops rs (Region.before ops) l

variable {P : Program} {g : Out}

theorem aopG_mono {pv : Bool} {r : SOp} {a : Nat → AV} {H : AH} {K K' : (Nat → AV) → AH → Prop} (hk : ∀ a H, K a H → K' a H) (h : aopG P pv r a H K) : aopG P pv r a H K' := avG_mono (fun _ _ k => hk _ _ k) h
theorem aopG_fin {pv : Bool} {r : SOp} {a : Nat → AV} {H : AH} (hf : Fin H) {K : (Nat → AV) → AH → Prop} (h : aopG P pv r a H K) : aopG P pv r a H (fun a' H' => Fin H' ∧ K a' H') := avG_fin hf h

theorem bubble {rs : List SOp} {i : Nat} {ri : SOp} (hri : rs[i]? = some ri) {K : (Nat → AV) → AH → Prop} {c2 : List Nat} : ∀ (c1 : List Nat) (a : Nat → AV) (H : AH), Fin H →
    (∀ x ∈ c1, ∃ rx, rs[x]? = some rx ∧ apart rx ri = true ∧ mayFirst rx ri = true) → aops P true rs (c1 ++ i :: c2) a H K → aops P true rs (i :: (c1 ++ c2)) a H K
  | [], a, H, _, _, h => h
  | x :: c1, a, H, hf, hx, h => by
    obtain ⟨rx, hrx, h1, h2⟩ := hx x (by simp)
    simp only [List.cons_append, aops, hrx] at h
    simp only [List.cons_append, aops, hri, hrx]
    refine swap h1 h2 hf ?_
    refine aopG_mono (fun a' H' k => ?_) (aopG_fin hf h)
    have := bubble hri c1 a' H' k.1 (fun y hy => hx y (by simp [hy])) k.2
    simpa only [aops, hri] using this

theorem mem_ready {ops : Array Oper} {listed : Array Bool} {i : Nat} : i ∈ Region.ready .any ops listed ↔ i < ops.size ∧ listed.getD i true = false ∧ ∀ p ∈ predsAt ops i, listed.getD p false = true := by
  unfold Region.ready
  simp only [List.mem_filter, List.mem_range, Bool.and_eq_true, Bool.not_eq_true']
  constructor
  · rintro ⟨h1, h2, h3⟩
    refine ⟨h1, h2, fun p hp => ?_⟩
    have ho : ops[i]? = some ops[i] := by simp [h1]
    simp only [predsAt, ho, Option.map_some, Option.getD_some, preds, List.mem_filterMap] at hp
    simp only [ho, Option.map_some, Option.getD_some] at h3
    obtain ⟨e, he, hp⟩ := hp
    have := (Array.all_eq_true_iff_forall_mem.mp h3) e (by simpa using he)
    split at hp
    · rename_i hb
      obtain rfl := Option.some.inj hp
      simpa [hb] using this
    · cases hp
  · rintro ⟨h1, h2, h3⟩
    refine ⟨h1, h2, ?_⟩
    have ho : ops[i]? = some ops[i] := by simp [h1]
    simp only [ho, Option.map_some, Option.getD_some]
    refine Array.all_eq_true_iff_forall_mem.mpr fun e he => ?_
    by_cases hb : Region.binds .any e = true
    · have := h3 e.on (by
        simp only [predsAt, ho, Option.map_some, Option.getD_some, preds, List.mem_filterMap]
        exact ⟨e, by simpa using he, by simp [hb]⟩)
      simp [this]
    · simp [Bool.not_eq_true] at hb
      simp [hb]

theorem anc_listed {ops : Array Oper} {T : Array Nat} (hT : tabOk ops T = true) {listed : Array Bool} (hcl : ∀ i, i < ops.size → listed.getD i true = true → ∀ p ∈ predsAt ops i, listed.getD p false = true) (hsz : listed.size = ops.size) :
    ∀ (n i : Nat), i < n → i < ops.size → (∀ p ∈ predsAt ops i, listed.getD p false = true) → ∀ x, x < ops.size → (T.getD i 0).testBit x = true → listed.getD x false = true
  | 0, i, h, _, _, _, _, _ => by omega
  | n + 1, i, hin, hi, hp, x, hx, hb => by
    unfold tabOk at hT
    have h1 := (List.all_eq_true.mp hT) i (List.mem_range.mpr hi)
    simp only [Bool.and_eq_true, List.all_eq_true] at h1
    have h2 := h1.2 x (List.mem_range.mpr hx)
    rw [hb] at h2
    simp only [Bool.not_true, Bool.false_or, List.any_eq_true, Bool.or_eq_true] at h2
    obtain ⟨p, hpm, hpx⟩ := h2
    have hpi : p < i := by simpa using h1.1 p hpm
    rcases hpx with e | e
    · have := Nat.eq_of_beq_eq_true e
      subst this
      exact hp _ hpm
    · refine anc_listed (by unfold tabOk; exact hT) hcl hsz n p (by omega) (by omega) (hcl p (by omega) ?_) x hx e
      have := hp p hpm
      have hps : p < listed.size := by omega
      simp only [Array.getD, hps, dif_pos] at this ⊢
      exact this

def PairR (ops : Array Oper) (rs : List SOp) (T : Array Nat) (x y : Nat) : Prop :=
  x ≠ y ∧ y ∉ predsAt ops x ∧ ((T.getD y 0).testBit x = true ∨ ∃ rx ry, rs[x]? = some rx ∧ rs[y]? = some ry ∧ apart rx ry = true ∧ mayFirst rx ry = true)

theorem pairOk_pw {ops : Array Oper} {rs : List SOp} {T : Array Nat} : ∀ {l : List Nat}, pairOk ops rs T l = true → List.Pairwise (PairR ops rs T) l
  | [], _ => .nil
  | x :: l, h => by
    simp only [pairOk, Bool.and_eq_true, List.all_eq_true] at h
    refine .cons (fun y hy => ?_) (pairOk_pw h.2)
    obtain ⟨⟨h1, h2⟩, h3⟩ := h.1 y hy
    refine ⟨fun e => by subst e; simp [beq_self] at h1, by simpa using h2, ?_⟩
    simp only [Bool.or_eq_true] at h3
    rcases h3 with h3 | h3
    · exact .inl h3
    · cases hx : rs[x]? with
      | none => rw [hx] at h3; cases h3
      | some rx =>
        cases hy' : rs[y]? with
        | none => rw [hx, hy'] at h3; cases h3
        | some ry =>
          rw [hx, hy'] at h3
          simp only [Bool.and_eq_true] at h3
          exact .inr ⟨rx, ry, rfl, rfl, h3.1, h3.2⟩

theorem getD_flip {l : Array Bool} {i : Nat} (h : i < l.size) : l.getD i true = l.getD i false := by simp [Array.getD, h]

/-- r is r0, or r0's load told of an object that nobody writes, or r0's call told to be loud -/
def Ref (r r0 : SOp) : Prop := r = r0 ∨ (∃ x, r0.op = .ld x ∧ r = ⟨r0.dst, .ldf x, r0.grd⟩) ∨ (∃ f as, r0.op = .ca f as ∧ r = ⟨r0.dst, .cal f as, r0.grd⟩) ∨ ∃ s b x y, r0.op = .ap s b x y ∧ r = ⟨r0.dst, .apl s b x y, r0.grd⟩
theorem aopG_ref {pv : Bool} {r r0 : SOp} (h : Ref r r0) {a : Nat → AV} {H : AH} {K : (Nat → AV) → AH → Prop} (hh : aopG P pv r a H K) : ∃ pv', aopG P pv' r0 a H K := by
  rcases h with rfl | ⟨x, h1, rfl⟩ | ⟨f, as, h1, rfl⟩ | ⟨s, b, x, y, h1, rfl⟩
  · exact ⟨pv, hh⟩
  · refine ⟨pv, ?_⟩
    obtain ⟨dst, op, grd⟩ := r0
    dsimp only at h1
    subst h1
    have key : ∀ V, astepV P pv (.ldf x) a H V → astepV P pv (.ld x) a H V := fun V ⟨id, off, ob, c, e1, e2, _, e4, k⟩ => ⟨id, off, c, e1, by unfold rdc; rw [e2]; exact e4, k⟩
    unfold aopG avG at hh ⊢
    cases grd with
    | none => exact key _ hh
    | some dw =>
      rcases hh with ⟨t, e, h1, h2⟩ | ⟨e, h2⟩
      · exact .inl ⟨t, e, fun q => key _ (h1 q), h2⟩
      · exact .inr ⟨e, h2⟩
  · refine ⟨false, ?_⟩
    obtain ⟨dst, op, grd⟩ := r0
    dsimp only at h1
    subst h1
    have key : ∀ V, astepV P pv (.cal f as) a H V → astepV P false (.ca f as) a H V := fun V h => ACalls.mono h fun v H' k => ⟨fun e => (by cases e), k⟩
    unfold aopG avG at hh ⊢
    cases grd with
    | none => exact key _ hh
    | some dw =>
      rcases hh with ⟨t, e, h1, h2⟩ | ⟨e, h2⟩
      · exact .inl ⟨t, e, fun q => key _ (h1 q), h2⟩
      · exact .inr ⟨e, h2⟩
  · refine ⟨false, ?_⟩
    obtain ⟨dst, op, grd⟩ := r0
    dsimp only at h1
    subst h1
    have key : ∀ V, astepV P pv (.apl s b x y) a H V → astepV P false (.ap s b x y) a H V := fun V h => by
      obtain ⟨k, news, e1, e2⟩ := h
      refine ⟨k, news, e1, ?_⟩
      rcases e2 with ⟨a1, a2, a3⟩ | ⟨id, off, len, ob, a1, a2, a3, a4, a5, a6, a7, a8⟩
      · exact .inl ⟨a1, fun q => ⟨fun e => (by cases e), a2 q⟩, fun q => ⟨(a3 q).1, (a3 q).2.1, fun id hid => ⟨fun e => (by cases e), (a3 q).2.2 id hid⟩⟩⟩
      · exact .inr ⟨id, off, len, ob, a1, a2, a3, a4, a5, a6, a7, fun id' hid' => ⟨fun e => (by cases e), a8 id' hid'⟩⟩
    unfold aopG avG at hh ⊢
    cases grd with
    | none => exact key _ hh
    | some dw =>
      rcases hh with ⟨t, e, h1, h2⟩ | ⟨e, h2⟩
      · exact .inl ⟨t, e, fun q => key _ (h1 q), h2⟩
      · exact .inr ⟨e, h2⟩
theorem sopIn_ref {r r0 : SOp} (h : Ref r r0) {n : Nat} (hh : sopIn n r = true) : sopIn n r0 = true := by
  rcases h with rfl | ⟨x, h1, rfl⟩ | ⟨f, as, h1, rfl⟩ | ⟨s, b, x, y, h1, rfl⟩
  · exact hh
  · obtain ⟨dst, op, grd⟩ := r0
    dsimp only at h1
    subst h1
    exact hh
  · obtain ⟨dst, op, grd⟩ := r0
    dsimp only at h1
    subst h1
    exact hh
  · obtain ⟨dst, op, grd⟩ := r0
    dsimp only at h1
    subst h1
    exact hh

theorem any_sound {ops : Array Oper} {rs0 rs : List SOp} {f : SOp → SOp} (htr : trL P ops ops.toList = some rs0) (hf : ∀ r, Ref (f r) r) (hrs : rs = rs0.map f) {n : Nat} (hn : rs.all (sopIn n) = true) (hT : tabOk ops (Region.before ops) = true) {Q : Exit → (Nat → AV) → AH → Prop} :
    ∀ (fuel : Nat) (c : List Nat) (listed : Array Bool) (m : AMap) (H HT : AH) (w : World) (a : Nat → AV) (act : Act), c.length ≤ fuel → listed.size = ops.size → (∀ i, i < ops.size → (i ∈ c ↔ listed.getD i true = false)) → (∀ i ∈ c, i < ops.size) →
      (∀ i, i < ops.size → listed.getD i true = true → ∀ p ∈ predsAt ops i, listed.getD p false = true) → List.Pairwise (PairR ops rs (Region.before ops)) c →
      SR n m a act.tmps → act.defers = [] → HLe H HT → Rel m HT g w → aops P true rs c a H (Q .normal) → ∀ m0 H0 HT0, Stp m0 H0 HT0 m H HT → wpAny P .any ops (Lft n m0 H0 HT0 g Q) fuel listed act w := by
  have hpl : ∀ i, i < ops.size → ∀ p ∈ predsAt ops i, p < i := by
    intro i hi p hp
    unfold tabOk at hT
    have h1 := (List.all_eq_true.mp hT) i (List.mem_range.mpr hi)
    simp only [Bool.and_eq_true, List.all_eq_true] at h1
    simpa using h1.1 p hp
  have empty : ∀ (listed : Array Bool), (∀ i, i < ops.size → (i ∈ ([] : List Nat) ↔ listed.getD i true = false)) → Region.ready .any ops listed = [] := by
    intro listed h
    rw [List.eq_nil_iff_forall_not_mem]
    intro i hi
    obtain ⟨h1, h2, _⟩ := mem_ready.mp hi
    exact absurd ((h i h1).mpr h2) (by simp)
  intro fuel
  induction fuel with
  | zero =>
    intro c listed m H HT w a act hlen hsz hiff hlt hcl hpw hS hd hl hR h m0 H0 HT0 hst
    have hc : c = [] := List.eq_nil_of_length_eq_zero (by omega)
    subst hc
    exact ⟨empty listed hiff, m, H, HT, a, hst, hR, hS, hd, h⟩
  | succ fuel ih =>
    intro c listed m H HT w a act hlen hsz hiff hlt hcl hpw hS hd hl hR h m0 H0 HT0 hst
    refine ⟨fun hr => ?_, fun i hi => ?_⟩
    · cases c with
      | nil => exact ⟨m, H, HT, a, hst, hR, hS, hd, h⟩
      | cons x t =>
        exfalso
        have hx := hlt x (by simp)
        have : x ∈ Region.ready .any ops listed := mem_ready.mpr ⟨hx, (hiff x hx).mp (by simp), fun p hp => by
          have hpx := hpl x hx p hp
          cases hq : listed.getD p false with
          | true => rfl
          | false =>
            exfalso
            rw [← getD_flip (by omega)] at hq
            have hpc := (hiff p (by omega)).mpr hq
            rcases List.mem_cons.mp hpc with e | hpt
            · omega
            · exact ((List.pairwise_cons.mp hpw).1 p hpt).2.1 hp⟩
        rw [hr] at this
        cases this
    · obtain ⟨hi1, hi2, hi3⟩ := mem_ready.mp hi
      have hic := (hiff i hi1).mpr hi2
      obtain ⟨c1, c2, rfl⟩ := List.append_of_mem hic
      have hlen' : rs.length = ops.size := by rw [hrs, List.length_map, (trL_get htr).1]; simp
      have hri : rs[i]? = some rs[i] := by simp [hlen', hi1]
      obtain ⟨pw1, pw2, pw3⟩ := List.pairwise_append.mp hpw
      have hx : ∀ x ∈ c1, ∃ rx, rs[x]? = some rx ∧ apart rx rs[i] = true ∧ mayFirst rx rs[i] = true := by
        intro x hxc
        obtain ⟨_, _, h3⟩ := pw3 x hxc i (by simp)
        rcases h3 with h3 | ⟨rx, ry, e1, e2, e3, e4⟩
        · exfalso
          have hxl := hlt x (by simp [hxc])
          have hl2 := anc_listed hT hcl hsz (i + 1) i (by omega) hi1 hi3 x hxl h3
          have hl3 := (hiff x hxl).mp (by simp [hxc])
          rw [getD_flip (by omega), hl2] at hl3
          cases hl3
        · rw [hri] at e2
          obtain rfl := Option.some.inj e2
          exact ⟨rx, e1, e3, e4⟩
      have hb := bubble hri c1 a H (hR.fin' hl) hx h
      simp only [aops, hri] at hb
      obtain ⟨r0, hr0, hr0e⟩ : ∃ r0, rs0[i]? = some r0 ∧ rs[i] = f r0 := by
        generalize hq : rs[i] = q
        have h1 := hri
        rw [hq, hrs, List.getElem?_map] at h1
        cases e : rs0[i]? with
        | none => rw [e] at h1; cases h1
        | some r0 =>
          rw [e] at h1
          exact ⟨r0, rfl, (Option.some.inj h1).symm⟩
      obtain ⟨o, ho, hto⟩ := (trL_get htr).2 i r0 hr0
      have hin := (List.all_eq_true.mp hn) _ (List.mem_of_getElem? hri)
      rw [hr0e] at hin hb
      have hio : ops[i]? = some o := by simpa using ho
      obtain ⟨pv', hb'⟩ := aopG_ref (hf r0) hb
      refine wpOp_mono (fun act' w' hgot => ?_) (aopG_sound hio hto (sopIn_ref (hf r0) hin) hS hd hl hR hb')
      obtain ⟨m', H', HT', a', h1, h2, h3, h4, h5⟩ := hgot
      have hni : ∀ z ∈ c1 ++ c2, z ≠ i := by
        intro z hz e
        subst e
        rcases List.mem_append.mp hz with hz | hz
        · exact (pw3 z hz z (by simp)).1 rfl
        · exact ((List.pairwise_cons.mp pw2).1 z hz).1 rfl
      have hget : ∀ j d, j ≠ i → (listed.setIfInBounds i true).getD j d = listed.getD j d := by
        intro j d hj
        simp only [Array.getD_eq_getD_getElem?]
        rw [Array.getElem?_setIfInBounds_ne (Ne.symm hj)]
      have hgeti : ∀ d, (listed.setIfInBounds i true).getD i d = true := by
        intro d
        simp only [Array.getD_eq_getD_getElem?]
        rw [Array.getElem?_setIfInBounds_self]
        simp [hsz, hi1]
      refine ih (c1 ++ c2) _ m' H' HT' w' a' act' (by simp at hlen ⊢; omega) (by simpa using hsz) ?_ (fun z hz => hlt z (by simp at hz ⊢; rcases hz with hz | hz <;> simp [hz])) ?_ ?_ h3 h4 h1.sub h2 h5 m0 H0 HT0 (hst.trans h1)
      · intro j hj
        by_cases e : j = i
        · subst e
          rw [hgeti]
          simp only [Bool.true_eq_false, iff_false]
          exact fun hz => hni j hz rfl
        · rw [hget j true e, ← hiff j hj]
          simp [e]
      · intro j hj hjl p hp
        by_cases e : j = i
        · subst e
          have hpi := hpl j hj p hp
          rw [hget p false (by omega)]
          exact hi3 p hp
        · rw [hget j true e] at hjl
          by_cases e' : p = i
          · subst e'; exact hgeti _
          · rw [hget p false e']
            exact hcl j hj hjl p hp
      · refine List.pairwise_append.mpr ⟨pw1, (List.pairwise_cons.mp pw2).2, fun x hx y hy => pw3 x hx y (by simp [hy])⟩

end Go.Proofs.Ytdkdainipanacaa
namespace Go.Proofs.Ytdkdainipanacaa
open Go Go.RowKit
set_option linter.unusedSimpArgs false
set_option linter.unusedVariables false
set_option linter.constructorNameAsVariable false

inductive SC where
  | skip
  | reg (rs : List SOp)
  | dreg (rs : List SOp)
  | seq (a b : SC)
  | cond (c : SV) (a b : SC)
  | block (id : Nat) (b : SC)
  | loop (b : SC)
  | exit (id : Nat)
  | ret
  | stuck

def clRank : Cl → Nat
  | .pure | .load | .frz => 0
  | .ap | .call | .loud | .lcall => 1
  | .fal | .alloc => 2

/-- one order of a drawn region: what is quiet first, allocations last -/
def canonGo (ops : Array Oper) (rs : List SOp) : Nat → List Nat → List Nat → List Nat
  | 0, _, acc => acc.reverse
  | fuel + 1, left, acc =>
    let rdy := left.filter fun i => (predsAt ops i).all fun p => !(left.contains p)
    let pick := fun k => rdy.find? fun i => match rs[i]? with | some r => Nat.beq (clRank r.op.cl) k | none => false
    match (pick 0).orElse (fun _ => (pick 1).orElse (fun _ => pick 2)) with
    | some i => canonGo ops rs fuel (left.filter fun j => !(Nat.beq i j)) (i :: acc)
    | none => acc.reverse
def canon (ops : Array Oper) (rs : List SOp) : List Nat := canonGo ops rs ops.size (List.range ops.size) []

/-- loads through slots that the region does not set, told of objects that nobody writes -/
def frzS (T : List Nat) (r : SOp) : SOp := match r.op with
  | .ld (.t k) => if T.contains k then r else ⟨r.dst, .ldf (.t k), r.grd⟩
  | _ => r
theorem frzS_ref (T : List Nat) (r : SOp) : Ref (frzS T r) r := by
  obtain ⟨dst, op, grd⟩ := r
  unfold frzS
  split
  · rename_i k hk
    dsimp only at hk
    subst hk
    split
    · exact .inl rfl
    · exact .inr (.inl ⟨_, rfl, rfl⟩)
  · exact .inl rfl

def trF (n : Nat) (ops : Array Oper) (rs : List SOp) : Option SC := if rs.all (sopIn n) && okOrd ops rs (canon ops rs) then some (.dreg ((canon ops rs).filterMap (rs[·]?))) else some .stuck

/-- calls of ls told to be loud; appends, where 1000000 is in ls -/
def loudS (ls : List Nat) (r : SOp) : SOp := match r.op with
  | .ca f as => if ls.contains f then ⟨r.dst, .cal f as, r.grd⟩ else r
  | .ap s b x y => if ls.contains 1000000 then ⟨r.dst, .apl s b x y, r.grd⟩ else r
  | _ => r
theorem loudS_ref (ls : List Nat) (r : SOp) : Ref (loudS ls r) r := by
  obtain ⟨dst, op, grd⟩ := r
  unfold loudS
  split
  · rename_i f as hk
    dsimp only at hk
    subst hk
    split
    · exact .inr (.inr (.inl ⟨_, _, rfl, rfl⟩))
    · exact .inl rfl
  · rename_i s b x y hk
    dsimp only at hk
    subst hk
    split
    · exact .inr (.inr (.inr ⟨_, _, _, _, rfl, rfl⟩))
    · exact .inl rfl
  · exact .inl rfl

def trD (ls : List Nat) (n : Nat) (ops : Array Oper) (rs : List SOp) : Option SC :=
  if rs.any (fun r => match r.op with | .ca f _ => ls.contains f | .ap _ _ _ _ => ls.contains 1000000 | _ => false) then trF n ops (rs.map (loudS ls))
  else (if okOrd ops rs (canon ops rs) then some (.dreg ((canon ops rs).filterMap (rs[·]?))) else trF n ops (rs.map (frzS (rs.filterMap (·.dst)))))

def trG (P : Program) (ls : List Nat) (n : Nat) : Code → Option SC
  | .skip => some .skip
  | .label _ => some .skip
  | .region _ ops draw => match trL P ops ops.toList with
    | some rs => if rs.all (sopIn n) then
        if draw then trD ls n ops rs else some (.reg rs)
      else some .stuck
    | none => some .stuck
  | .seq a b => match trG P ls n a, trG P ls n b with | some x, some y => some (.seq x y) | _, _ => none
  | .cond c a b => match ofO c with
    | some s => if opIn n s then (match trG P ls n a, trG P ls n b with | some x, some y => some (.cond s x y) | _, _ => none) else some .stuck
    | none => some .stuck
  | .block id b => (trG P ls n b).map (.block id)
  | .loop b => (trG P ls n b).map .loop
  | .exit id => some (.exit id)
  | .ret => some .ret
  | _ => some .stuck

def trC (P : Program) (n : Nat) (c : Code) : Option SC := trG P [] n c
/-- calls of the functions ls are loud in drawn regions -/
def trCl (ls : List Nat) (P : Program) (n : Nat) (c : Code) : Option SC := trG P ls n c

def aopL (P : Program) (pv : Bool) : List SOp → (Nat → AV) → AH → ((Nat → AV) → AH → Prop) → Prop
  | [], a, H, K => K a H
  | r :: rs, a, H, K => aopG P pv r a H (fun a' H' => aopL P pv rs a' H' K)

theorem aopL_aops {P : Program} {pv : Bool} {rs : List SOp} {K : (Nat → AV) → AH → Prop} : ∀ {l : List Nat} {a : Nat → AV} {H : AH}, (∀ i ∈ l, i < rs.length) → aopL P pv (l.filterMap (rs[·]?)) a H K → aops P pv rs l a H K
  | [], a, H, _, h => h
  | i :: l, a, H, hl, h => by
    have hlt : i < rs.length := hl i (by simp)
    have hi : rs[i]? = some rs[i] := by simp [hlt]
    simp only [List.filterMap_cons, hi] at h
    simp only [aops, hi]
    exact aopG_mono (fun a' H' k => aopL_aops (fun j hj => hl j (by simp [hj])) k) h

theorem range_get {α : Type} (rs : List α) : (List.range rs.length).filterMap (rs[·]?) = rs := by
  have : (List.range rs.length).filterMap (rs[·]?) = ((List.range rs.length).map fun i => rs[i]?).filterMap id := by rw [List.filterMap_map]; rfl
  rw [this]
  have h2 : ((List.range rs.length).map fun i => rs[i]?) = rs.map some := by
    apply List.ext_getElem?
    intro j
    by_cases hj : j < rs.length
    · simp [hj]
    · simp [hj]
  rw [h2, List.filterMap_map]
  simp

def Sat (P : Program) (n : Nat) (c : Code) (Q : Exit → (Nat → AV) → AH → Prop) (a : Nat → AV) (H : AH) : Prop :=
  ∀ (m : AMap) (HT : AH) (g : Out) (w : World) (act : Act), HLe H HT → Rel m HT g w → SR n m a act.tmps → act.defers = [] → c.wp P (Lft n m H HT g Q) act w

inductive Tr (P : Program) (n : Nat) : Code → SC → Prop
  | skip : Tr P n .skip .skip
  | label {l} : Tr P n (.label l) .skip
  | reg {id ops rs} : trL P ops ops.toList = some rs → rs.all (sopIn n) = true → Tr P n (.region id ops false) (.reg rs)
  | dreg {id ops rs0 rs} {f : SOp → SOp} {l : List Nat} : trL P ops ops.toList = some rs0 → (∀ r, Ref (f r) r) → rs = rs0.map f → rs.all (sopIn n) = true → okOrd ops rs l = true → Tr P n (.region id ops true) (.dreg (l.filterMap (rs[·]?)))
  | seq {a b x y} : Tr P n a x → Tr P n b y → Tr P n (.seq a b) (.seq x y)
  | cond {c s a b x y} : ofO c = some s → opIn n s = true → Tr P n a x → Tr P n b y → Tr P n (.cond c a b) (.cond s x y)
  | block {id b x} : Tr P n b x → Tr P n (.block id b) (.block id x)
  | loop {b x} : Tr P n b x → Tr P n (.loop b) (.loop x)
  | exit {id} : Tr P n (.exit id) (.exit id)
  | ret : Tr P n .ret .ret
  | stuck {c} : Tr P n c .stuck

theorem tr_ofG {P : Program} {ls : List Nat} {n : Nat} : ∀ {c : Code} {sc : SC}, trG P ls n c = some sc → Tr P n c sc
  | .skip, sc, h => by simp only [trG, Option.some.injEq] at h; subst h; exact .skip
  | .label l, sc, h => by simp only [trG, Option.some.injEq] at h; subst h; exact .label
  | .exit id, sc, h => by simp only [trG, Option.some.injEq] at h; subst h; exact .exit
  | .ret, sc, h => by simp only [trG, Option.some.injEq] at h; subst h; exact .ret
  | .region id ops draw, sc, h => by
    simp only [trG] at h
    split at h
    · rename_i rs hrs
      split at h
      · rename_i hn
        cases draw with
        | true =>
          simp only [if_true] at h
          unfold trD at h
          split at h
          · unfold trF at h
            split at h
            · rename_i hok2
              simp only [Bool.and_eq_true] at hok2
              obtain rfl := Option.some.inj h
              exact .dreg hrs (loudS_ref _) rfl hok2.1 hok2.2
            · obtain rfl := Option.some.inj h; exact .stuck
          · split at h
            · rename_i hok
              simp only [Option.some.injEq] at h; subst h
              exact .dreg (f := fun r => r) hrs (fun r => .inl rfl) (by simp) hn hok
            · unfold trF at h
              split at h
              · rename_i hok2
                simp only [Bool.and_eq_true] at hok2
                obtain rfl := Option.some.inj h
                exact .dreg hrs (frzS_ref _) rfl hok2.1 hok2.2
              · obtain rfl := Option.some.inj h; exact .stuck
        | false =>
          simp only [Bool.false_eq_true, if_false, Option.some.injEq] at h
          subst h
          exact .reg hrs hn
      · obtain rfl := Option.some.inj h; exact .stuck
    · obtain rfl := Option.some.inj h; exact .stuck
  | .seq a b, sc, h => by
    simp only [trG] at h
    split at h
    · rename_i x y hx hy
      simp only [Option.some.injEq] at h; subst h
      exact .seq (tr_ofG hx) (tr_ofG hy)
    · cases h
  | .cond c a b, sc, h => by
    simp only [trG] at h
    split at h
    · rename_i s hs
      split at h
      · rename_i hn
        split at h
        · rename_i x y hx hy
          simp only [Option.some.injEq] at h; subst h
          exact .cond hs hn (tr_ofG hx) (tr_ofG hy)
        · cases h
      · obtain rfl := Option.some.inj h; exact .stuck
    · obtain rfl := Option.some.inj h; exact .stuck
  | .block id b, sc, h => by
    simp only [trG, Option.map_eq_some_iff] at h
    obtain ⟨x, hx, rfl⟩ := h
    exact .block (tr_ofG hx)
  | .loop b, sc, h => by
    simp only [trG, Option.map_eq_some_iff] at h
    obtain ⟨x, hx, rfl⟩ := h
    exact .loop (tr_ofG hx)
  | .rangeFunc _ _ _ _, sc, h => by simp only [trG, Option.some.injEq] at h; subst h; exact .stuck
  | .scope _, sc, h => by simp only [trG, Option.some.injEq] at h; subst h; exact .stuck
  | .goto _, sc, h => by simp only [trG, Option.some.injEq] at h; subst h; exact .stuck
  | .refuse _, sc, h => by simp only [trG, Option.some.injEq] at h; subst h; exact .stuck

theorem tr_of {P : Program} {n : Nat} {c : Code} {sc : SC} (h : trC P n c = some sc) : Tr P n c sc := tr_ofG h
theorem tr_ofl {ls : List Nat} {P : Program} {n : Nat} {c : Code} {sc : SC} (h : trCl ls P n c = some sc) : Tr P n c sc := tr_ofG h

/-- what slim code does -/
def W (P : Program) (n : Nat) (sc : SC) (Q : Exit → (Nat → AV) → AH → Prop) (a : Nat → AV) (H : AH) : Prop := P.follows .mixedOrders = true → ∀ c, Tr P n c sc → Sat P n c Q a H

variable {P : Program} {n : Nat} {Q Q' : Exit → (Nat → AV) → AH → Prop} {a : Nat → AV} {H : AH}

theorem Lft.after {m m1 : AMap} {H1 HT HT1 : AH} {g : Out} (hst : Stp m H HT m1 H1 HT1) {e : Exit} {act : Act} {w : World} (h : Lft n m1 H1 HT1 g Q e act w) : Lft n m H HT g Q e act w := Got.after hst h

theorem W_mono {sc : SC} (hq : ∀ e a H, Q e a H → Q' e a H) (h : W P n sc Q a H) : W P n sc Q' a H :=
  fun hm c hc m HT g w act hl hR hS hd => wp_mono (h hm c hc m HT g w act hl hR hS hd) fun e act' w' k => Got.mono k (hq e)

theorem W_skip (h : Q .normal a H) : W P n .skip Q a H := by
  intro _ c hc m HT g w act hl hR hS hd
  have fin : Lft n m H HT g Q .normal act w := ⟨m, H, HT, a, .refl hl, hR, hS, hd, h⟩
  cases hc with
  | skip => exact wp_skip fin
  | label => exact wp_label fin

theorem W_exit {id : Nat} (h : Q (.exit id) a H) : W P n (.exit id) Q a H := by
  intro _ c hc m HT g w act hl hR hS hd
  cases hc
  exact wp_exit (Q := Lft n m H HT g Q) ⟨m, H, HT, a, .refl hl, hR, hS, hd, h⟩

theorem W_ret (h : Q .ret a H) : W P n .ret Q a H := by
  intro _ c hc m HT g w act hl hR hS hd
  cases hc
  exact wp_ret (Q := Lft n m H HT g Q) ⟨m, H, HT, a, .refl hl, hR, hS, hd, h⟩

theorem W_reg {rs : List SOp} (h : aopL P false rs a H (Q .normal)) : W P n (.reg rs) Q a H := by
  intro _ c hc m HT g w act hl hR hS hd
  cases hc with
  | @reg id ops _ hrs hn =>
    refine wp_region ?_
    have hlen : rs.length = ops.size := by rw [(trL_get hrs).1]; simp
    rw [← hlen]
    exact aops_sound hrs hn _ m H HT w a act hS hd hl hR (aopL_aops (fun i hi => List.mem_range.mp hi) (by rw [range_get]; exact h)) m H HT (.refl hl)

theorem W_dreg {rs : List SOp} (h : aopL P true rs a H (Q .normal)) : W P n (.dreg rs) Q a H := by
  intro hm c hc m HT g w act hl hR hS hd
  cases hc with
  | @dreg id ops rs1 rs0 f l hrs hf hrf hn hok =>
    have hlen : rs0.length = ops.size := by rw [hrf, List.length_map, (trL_get hrs).1]; simp
    simp only [okOrd, Bool.and_eq_true, List.all_eq_true] at hok
    obtain ⟨⟨⟨⟨h0, h1⟩, h2⟩, h3⟩, h4⟩ := hok
    have h1' := Nat.le_of_ble_eq_true h1
    have hlt : ∀ i ∈ l, i < ops.size := fun i hi => by simpa using h2 i hi
    have hpw := pairOk_pw h4
    have hmem : ∀ i, i < ops.size → i ∈ l := fun i hi => by simpa using h0 i (List.mem_range.mpr hi)
    have hR' : Rel m HT g { w with drawn := w.drawn + 1 } := hR.drew
    refine wp_region_any hm ?_
    refine any_sound hrs hf hrf hn h3 ops.size l (Array.replicate ops.size false) m H HT _ a act (by omega) (by simp) (fun i hi => ⟨fun _ => by simp [hi], fun _ => hmem i hi⟩) hlt ?_ hpw hS hd hl hR' ?_ m H HT (.refl hl)
    · intro i hi hl'
      simp [hi] at hl'
    · exact aopL_aops (fun i hi => by rw [hlen]; exact hlt i hi) h

def Then (K : (Nat → AV) → AH → Prop) (Q : Exit → (Nat → AV) → AH → Prop) : Exit → (Nat → AV) → AH → Prop
  | .normal => K
  | e => Q e

theorem W_seq {x y : SC} (h : W P n x (Then (W P n y Q) Q) a H) : W P n (.seq x y) Q a H := by
  intro hm c hc m HT g w act hl hR hS hd
  cases hc with
  | seq h1 h2 =>
    refine wp_seq (wp_mono (h hm _ h1 m HT g w act hl hR hS hd) fun e act' w' k => ?_)
    cases e with
    | normal =>
      obtain ⟨m', H', HT', a', k1, k2, k3, k4, k5⟩ := k
      exact wp_mono (k5 hm _ h2 m' HT' g w' act' k1.sub k2 k3 k4) fun e act'' w'' kk => Lft.after k1 kk
    | exit id => exact k
    | goto l => exact k
    | ret => exact k
    | panic ch => exact k
    | outgrown => exact k

theorem W_cond {s : SV} {x y : SC} {t : Bool} (ht : evS a s = .b t) (h1 : t = true → W P n x Q a H) (h2 : t = false → W P n y Q a H) : W P n (.cond s x y) Q a H := by
  intro hm c hc m HT g w act hl hR hS hd
  cases hc with
  | cond ho hn hx hy =>
    have hv := ev_rel hS ho hn
    rw [ht] at hv
    refine wp_cond (hv.b_inv) ?_
    cases t with
    | true => exact h1 rfl hm _ hx m HT g w act hl hR hS hd
    | false => exact h2 rfl hm _ hy m HT g w act hl hR hS hd

def InB (id : Nat) (Q : Exit → (Nat → AV) → AH → Prop) : Exit → (Nat → AV) → AH → Prop
  | .exit id' => bif Nat.beq id' id then Q .normal else Q (.exit id')
  | e => Q e

theorem W_block {id : Nat} {x : SC} (h : W P n x (InB id Q) a H) : W P n (.block id x) Q a H := by
  intro hm c hc m HT g w act hl hR hS hd
  cases hc with
  | block hx =>
    refine wp_block (wp_mono (h hm _ hx m HT g w act hl hR hS hd) fun e act' w' k => ?_)
    cases e with
    | exit id' =>
      by_cases q : id' = id
      · subst q
        simp only [Exit.inBlock, if_true]
        exact Got.mono k fun a' H' kk => by simpa [InB, beq_self] using kk
      · simp only [Exit.inBlock, if_neg q]
        exact Got.mono k fun a' H' kk => by simpa [InB, beq_ne q] using kk
    | normal => exact k
    | goto l => exact k
    | ret => exact k
    | panic ch => exact k
    | outgrown => exact k

theorem least {p : Nat → Prop} (h : ∃ k, p k) : ∃ k, p k ∧ ∀ j, j < k → ¬ p j := by
  obtain ⟨k, hk⟩ := h
  induction k using Nat.strongRecOn with
  | _ k ih =>
    by_cases q : ∃ j, j < k ∧ p j
    · obtain ⟨j, hj, hp⟩ := q
      exact ih j hj hp
    · exact ⟨k, hk, fun j hj hp => q ⟨j, hj, hp⟩⟩

theorem W_loop {x : SC} (I : (Nat → AV) → AH → Nat → Prop) (h0 : ∃ k, I a H k) (round : ∀ a H k, I a H k → W P n x (Then (fun a' H' => ∃ k', k' < k ∧ I a' H' k') Q) a H) : W P n (.loop x) Q a H := by
  intro hm c hc m HT g w act hl hR hS hd
  cases hc with
  | loop hx =>
    let J : Nat → Act → World → Prop := fun k act w => Got n m H HT g (fun a' H' => I a' H' k) act w
    let μ : Act → World → Nat := fun act w => Classical.epsilon fun k => J k act w ∧ ∀ j, j < k → ¬ J j act w
    refine wp_loop (fun act w => ∃ k, J k act w) μ ?_ ?_
    · obtain ⟨k, hk⟩ := h0
      exact ⟨k, m, H, HT, a, .refl hl, hR, hS, hd, hk⟩
    · intro act1 w1 hJ
      have hμ := Classical.epsilon_spec (least hJ)
      obtain ⟨m1, H1, HT1, a1, k1, k2, k3, k4, k5⟩ := hμ.1
      refine wp_mono (round a1 H1 _ k5 hm _ hx m1 HT1 g w1 act1 k1.sub k2 k3 k4) fun e act' w' k => ?_
      cases e with
      | normal =>
        obtain ⟨m2, H2, HT2, a2, j1, j2, j3, j4, k', hk', j5⟩ := k
        have hJ' : J k' act' w' := ⟨m2, H2, HT2, a2, k1.trans j1, j2, j3, j4, j5⟩
        refine ⟨⟨k', hJ'⟩, ?_⟩
        have hμ' := Classical.epsilon_spec (least (p := fun k => J k act' w') ⟨k', hJ'⟩)
        have : ¬ k' < μ act' w' := fun q => hμ'.2 k' q hJ'
        have hk2 : k' < μ act1 w1 := hk'
        omega
      | exit id => exact Lft.after k1 k
      | goto l => exact Lft.after k1 k
      | ret => exact Lft.after k1 k
      | panic ch => exact Lft.after k1 k
      | outgrown => exact Lft.after k1 k

/-- slots may be forgotten, and parts of the heap -/
def Weak (a a' : Nat → AV) : Prop := ∀ t, a' t = .u ∨ a' t = a t

theorem W_weak {sc : SC} {a' : Nat → AV} {H' : AH} (ha : Weak a a') (hH : HLe H' H) (h : W P n sc Q a' H') : W P n sc Q a H := by
  intro hm c hc m HT g w act hl hR hS hd
  have hS' : SR n m a' act.tmps := ⟨hS.1, fun t v hv => by
    rcases ha t with e | e
    · rw [e]; exact .u _
    · rw [e]; exact hS.2 t v hv⟩
  refine wp_mono (h hm c hc m HT g w act (hH.trans hl) hR hS' hd) fun e act' w' k => ?_
  obtain ⟨m2, H2, HT2, a2, j1, j2, j3, j4, j5⟩ := k
  refine ⟨m2, H2, HT2, a2, ⟨j1.mle, j1.sub, fun id o h1 h2 => j1.fr id o ?_ h2⟩, j2, j3, j4, j5⟩
  cases hh : H' id with
  | none => rfl
  | some o' => rw [hH _ _ hh] at h1; cases h1

def resV (a : Nat → AV) : List Nat → AV
  | [t] => a t
  | ts => .tu (ts.map a)

def resM (tmps : Array Value) : ResultVar → Sem Value
  | .tmp t => pure (tmps.getD t undef)
  | .cell a t => do loadVar t (← asAddr (tmps.getD a undef))

theorem run_resM (tmps : Array Value) (w : World) : ∀ ts : List Nat, (ts.mapM fun t => resM tmps (.tmp t)).run P w = Result.ok (ts.map fun t => tmps.getD t undef) w
  | [] => by simp
  | t :: ts => by rw [List.mapM_cons, Sem.run_bind]; simp only [resM, Sem.run_pure, Result.andThen_ok, Sem.run_bind]; have := run_resM tmps w ts; simp only [resM] at this; rw [this]; rfl

def oneOf : List Value → Value
  | [v] => v
  | vs => .tuple vs.toArray

theorem oneOf_eq (vs : List Value) : (if h : vs.toArray.size = 1 then vs.toArray[0] else Value.tuple vs.toArray) = oneOf vs := by
  match vs with
  | [] => rfl
  | [v] => rfl
  | v :: u :: vs => simp [oneOf]

theorem run_results {fn : Func} {ts : List Nat} (h : fn.results.toList = ts.map ResultVar.tmp) (tmps : Array Value) (w : World) :
    (results fn tmps).run P w = Result.ok (oneOf (ts.map fun t => tmps.getD t undef)) w := by
  have h2 : fn.results = (ts.map ResultVar.tmp).toArray := by apply Array.ext'; simpa using h
  have h3 : results fn tmps = (do let vs ← fn.results.mapM (resM tmps); pure (if h : vs.size = 1 then vs[0] else .tuple vs)) := rfl
  rw [h3, h2, Array.mapM_eq_mapM_toList, List.mapM_map, Sem.run_bind, Sem.run_map]
  have h4 : (ts.mapM (resM tmps ∘ ResultVar.tmp)).run P w = Result.ok (ts.map fun t => tmps.getD t undef) w := run_resM tmps w ts
  rw [h4]
  simp only [Result.andThen_ok, Sem.run_pure]
  rw [oneOf_eq]

theorem SR.get {m : AMap} {ts : Array Value} (h : SR n m a ts) {t : Nat} (ht : t < n) : VR m (a t) (ts.getD t undef) := by
  have hlt : t < ts.size := by rw [h.1]; exact ht
  have := h.2 t ts[t] (by simp [hlt])
  simpa [Array.getD, hlt] using this

theorem res_rel {m : AMap} {tmps : Array Value} (h : SR n m a tmps) {ts : List Nat} (hts : ∀ t ∈ ts, t < n) : VR m (resV a ts) (oneOf (ts.map fun t => tmps.getD t undef)) := by
  match ts, hts with
  | [t], hts => exact h.get (hts t (by simp))
  | [], hts => exact .tu (by simp) (by simp)
  | t :: u :: ts, hts =>
    refine .tu (by simp) (fun j c v hc hv => ?_)
    have hv' : ((t :: u :: ts).map fun t => tmps.getD t undef)[j]? = some v := by simpa using hv
    rw [List.getElem?_map] at hc hv'
    cases hj : (t :: u :: ts)[j]? with
    | none => rw [hj] at hc; cases hc
    | some q =>
      rw [hj] at hc hv'
      obtain rfl := Option.some.inj hc
      obtain rfl := Option.some.inj hv'
      exact h.get (hts q (List.mem_of_getElem? hj))

def initS (args : List AV) : Nat → AV := fun t => match args[t]? with | some x => x | none => .u

def Fine (P : Program) (f : FuncId) (sc : SC) (n : Nat) (ts : List Nat) : Prop :=
  ∃ fn c, P.funcs[f]? = some fn ∧ ¬ (fn.name = "runtime.NumGoroutine") ∧ fn.body = some c ∧ Tr P n c sc ∧ fn.ntmps = n ∧ fn.results.toList = ts.map ResultVar.tmp ∧ ∀ t ∈ ts, t < n

def Ends (K : AV → AH → Prop) (ts : List Nat) : Exit → (Nat → AV) → AH → Prop
  | .normal, a, H => K (resV a ts) H
  | .ret, a, H => K (resV a ts) H
  | _, _, _ => False

/-- a function's contract, out of its code -/
theorem calls_of {f : FuncId} {sc : SC} {ts : List Nat} (hF : Fine P f sc n ts) (hm : P.follows .mixedOrders = true) {args : List AV} (hargs : args.length ≤ n) {R : AV → AH → Prop} (h : W P n sc (Ends R ts) (initS args) H) : ACalls P f args H R := by
  obtain ⟨fn, c, hfn, hname, hbody, htr, hnt, hres, hts⟩ := hF
  refine ⟨⟨fn, hfn, hname, by rw [hbody]; simp⟩, fun m HT g w vs hl hR hvs => ?_⟩
  refine calls_of_wp hfn hbody ?_
  have hS : SR n m (initS args) (vs.toArray ++ Array.replicate (fn.ntmps - vs.toArray.size) undef) := by
    have hlen := hvs.1
    refine ⟨by simp; omega, fun t v hv => ?_⟩
    unfold initS
    by_cases q : t < vs.length
    · rw [Array.getElem?_append_left (by simpa using q)] at hv
      cases hx : args[t]? with
      | none => exact .u _
      | some x => exact hvs.2 t x v hx (by simpa using hv)
    · have : args[t]? = none := by simp; omega
      rw [this]
      exact .u _
  refine wp_mono (h hm c htr m HT g w _ hl hR hS rfl) fun e act' w' k => ?_
  obtain ⟨m', H', HT', a', k1, k2, k3, k4, k5⟩ := k
  have fin : R (resV a' ts) H' → act'.defers = [] ∧ ∃ v, (results fn act'.tmps).run P w' = .ok v w' ∧ ∃ v_1 x m' H' HT', Ending.returned v = .returned v_1 ∧ VR m' x v_1 ∧ Stp m H HT m' H' HT' ∧ Rel m' HT' g w' ∧ R x H' :=
    fun hRR => ⟨k4, _, run_results hres act'.tmps w', _, _, m', H', HT', rfl, res_rel k3 hts, k1, k2, hRR⟩
  cases e with
  | normal => exact fin k5
  | ret => exact fin k5
  | exit id => exact k5.elim
  | goto l => exact k5.elim
  | panic ch => exact k5.elim
  | outgrown => exact k5.elim

end Go.Proofs.Ytdkdainipanacaa
namespace Go.Proofs.Ytdkdainipanacaa
open Go Go.RowKit
set_option linter.unusedSimpArgs false
set_option linter.unusedVariables false

/-- a result: a slot, or a struct of sz cells at the address in a slot -/
inductive RV where
  | t (n : Nat)
  | c (n sz : Nat)

def resB (P : Program) (n : Nat) : List RV → List ResultVar → Bool
  | [], [] => true
  | .t a :: rs, .tmp b :: vs => Nat.beq a b && Nat.blt a n && resB P n rs vs
  | .c a sz :: rs, .cell b ty :: vs => Nat.beq a b && Nat.blt a n && (match P.underlying ty, P.info? ty with | some d, some i => isAggD d && Nat.beq i.size sz | _, _ => false) && resB P n rs vs
  | _, _ => false

def resL (a : Nat → AV) (H : AH) : List RV → List AV → Prop
  | [], [] => True
  | .t n :: rs, v :: vs => v = a n ∧ resL a H rs vs
  | .c n sz :: rs, v :: vs => (∃ id off ob, a n = .p id off ∧ H id = some ob ∧ off + sz ≤ ob.cells.length ∧ v = .ag ((ob.cells.drop off).take sz)) ∧ resL a H rs vs
  | _, _ => False

def oneA : List AV → AV
  | [v] => v
  | vs => .tu vs

def FineC (P : Program) (f : FuncId) (sc : SC) (n : Nat) (rs : List RV) : Prop :=
  ∃ fn c, P.funcs[f]? = some fn ∧ ¬ (fn.name = "runtime.NumGoroutine") ∧ fn.body = some c ∧ Tr P n c sc ∧ fn.ntmps = n ∧ resB P n rs fn.results.toList = true

def EndsC (K : AV → AH → Prop) (rs : List RV) : Exit → (Nat → AV) → AH → Prop
  | .normal, a, H => ∃ vs, resL a H rs vs ∧ K (oneA vs) H
  | .ret, a, H => ∃ vs, resL a H rs vs ∧ K (oneA vs) H
  | _, _, _ => False

variable {P : Program} {n : Nat}
theorem run_resC {m : AMap} {H HT : AH} {g : Out} {w : World} {a : Nat → AV} {tmps : Array Value} (hS : SR n m a tmps) (hl : HLe H HT) (hR : Rel m HT g w) :
    ∀ {rs : List RV} {vars : List ResultVar} {vs : List AV}, resB P n rs vars = true → resL a H rs vs → ∃ vals : List Value, (vars.mapM (resM tmps)).run P w = Result.ok vals w ∧ VLs m vs vals
  | [], [], [], _, _ => ⟨[], by simp, rfl, by simp⟩
  | .t k :: rs, .tmp b :: vars, v :: vs, hb, hv => by
    simp only [resB, Bool.and_eq_true] at hb
    obtain ⟨⟨h1, h2⟩, h3⟩ := hb
    obtain rfl := Nat.eq_of_beq_eq_true h1
    have hlt : k < n := by simpa using h2
    obtain ⟨rfl, hv'⟩ := hv
    obtain ⟨vals, e1, e2⟩ := run_resC hS hl hR h3 hv'
    refine ⟨tmps.getD k undef :: vals, ?_, ?_⟩
    · rw [List.mapM_cons, Sem.run_bind, show (resM tmps (.tmp k)).run P w = .ok (tmps.getD k undef) w from rfl]
      simp only [Result.andThen_ok, Sem.run_bind, Sem.run_pure]
      rw [e1]; rfl
    · refine ⟨by simp [e2.1], fun j p q hp hq => ?_⟩
      cases j with
      | zero => cases hp; cases hq; exact hS.get hlt
      | succ j => exact e2.2 j p q (by simpa using hp) (by simpa using hq)
  | .c k sz :: rs, .cell b ty :: vars, v :: vs, hb, hv => by
    simp only [resB, Bool.and_eq_true] at hb
    obtain ⟨⟨⟨h1, h2⟩, h4⟩, h3⟩ := hb
    obtain rfl := Nat.eq_of_beq_eq_true h1
    have hlt : k < n := by simpa using h2
    obtain ⟨⟨id, off, ob, ha, ho, hin, rfl⟩, hv'⟩ := hv
    obtain ⟨vals, e1, e2⟩ := run_resC hS hl hR h3 hv'
    split at h4
    · rename_i d i hd hi
      simp only [Bool.and_eq_true] at h4
      obtain rfl := Nat.eq_of_beq_eq_true h4.2
      have hx := hS.get hlt
      rw [ha] at hx
      generalize hu : tmps.getD k undef = u at hx
      cases hx with
      | @p _ _ e he =>
        obtain ⟨e', he', hor⟩ := hR.live id ob (hl _ _ ho)
        rw [he] at he'
        obtain rfl := Option.some.inj he'
        obtain ⟨ws, j1, j2, j3⟩ := hor.part off i.size hin
        have := run_loadCells_list (P := P) w ⟨e.blk, e.sh + off, none⟩ ws j3
        rw [j2] at this
        refine ⟨.agg ws.toArray :: vals, ?_, ?_⟩
        · have e3 : (resM tmps (.cell k ty)).run P w = .ok (.agg ws.toArray) w := by
            simp [resM, hu, asAddr, loadVar, run_isAgg hd, h4.1, run_sizeOf hi, this]
          rw [List.mapM_cons, Sem.run_bind, e3]
          simp only [Result.andThen_ok, Sem.run_bind, Sem.run_pure]
          rw [e1]; rfl
        · refine ⟨by simp [e2.1], fun j p q hp hq => ?_⟩
          cases j with
          | zero => cases hp; cases hq; exact j1.ag
          | succ j => exact e2.2 j p q (by simpa using hp) (by simpa using hq)
    · cases h4

theorem one_rel {m : AMap} {vs : List AV} {vals : List Value} (h : VLs m vs vals) : VR m (oneA vs) (oneOf vals) := by
  obtain ⟨h1, h2⟩ := h
  match vs, vals, h1 with
  | [v], [u], _ => exact h2 0 v u rfl rfl
  | [], [], _ => exact .tu rfl (by simp)
  | v :: v' :: vs, u :: u' :: us, e => exact .tu (by simpa using e) fun j c w hc hw => h2 j c w hc (by simpa using hw)

/-- a function's contract, out of its code -/
theorem calls_ofC {f : FuncId} {sc : SC} {rs : List RV} {H : AH} (hF : FineC P f sc n rs) (hm : P.follows .mixedOrders = true) {args : List AV} (hargs : args.length ≤ n) {R : AV → AH → Prop} (h : W P n sc (EndsC R rs) (initS args) H) : ACalls P f args H R := by
  obtain ⟨fn, c, hfn, hname, hbody, htr, hnt, hres⟩ := hF
  refine ⟨⟨fn, hfn, hname, by rw [hbody]; simp⟩, fun m HT g w vs hl hR hvs => ?_⟩
  refine calls_of_wp hfn hbody ?_
  have hS : SR n m (initS args) (vs.toArray ++ Array.replicate (fn.ntmps - vs.toArray.size) undef) := by
    have hlen := hvs.1
    refine ⟨by simp; omega, fun t v hv => ?_⟩
    unfold initS
    by_cases q : t < vs.length
    · rw [Array.getElem?_append_left (by simpa using q)] at hv
      cases hx : args[t]? with
      | none => exact .u _
      | some x => exact hvs.2 t x v hx (by simpa using hv)
    · have : args[t]? = none := by simp; omega
      rw [this]
      exact .u _
  refine wp_mono (h hm c htr m HT g w _ hl hR hS rfl) fun e act' w' k => ?_
  obtain ⟨m', H', HT', a', k1, k2, k3, k4, k5⟩ := k
  have fin : (∃ vs, resL a' H' rs vs ∧ R (oneA vs) H') → act'.defers = [] ∧ ∃ v, (results fn act'.tmps).run P w' = .ok v w' ∧ ∃ v_1 x m' H' HT', Ending.returned v = .returned v_1 ∧ VR m' x v_1 ∧ Stp m H HT m' H' HT' ∧ Rel m' HT' g w' ∧ R x H' := by
    rintro ⟨us, hus, hRR⟩
    obtain ⟨vals, e1, e2⟩ := run_resC k3 k1.sub k2 hres hus
    refine ⟨k4, oneOf vals, ?_, _, _, m', H', HT', rfl, one_rel e2, k1, k2, hRR⟩
    have h3 : results fn act'.tmps = (do let vs ← fn.results.mapM (resM act'.tmps); pure (if h : vs.size = 1 then vs[0] else .tuple vs)) := rfl
    rw [h3, Array.mapM_eq_mapM_toList, Sem.run_bind, Sem.run_map, e1]
    simp only [Result.andThen_ok, Sem.run_pure]
    rw [oneOf_eq]
  cases e with
  | normal => exact fin k5
  | ret => exact fin k5
  | exit id => exact k5.elim
  | goto l => exact k5.elim
  | panic ch => exact k5.elim
  | outgrown => exact k5.elim

end Go.Proofs.Ytdkdainipanacaa
namespace Go.Proofs.Ytdkdainipanacaa
open Go Go.RowKit
set_option linter.constructorNameAsVariable false
set_option linter.unusedSimpArgs false
set_option linter.unusedVariables false

abbrev o (d : Nat) (op : SO) : SOp := ⟨some d, op, none⟩
abbrev q (op : SO) : SOp := ⟨none, op, none⟩
abbrev og (d : Nat) (op : SO) (j : Nat) (w : Bool) : SOp := ⟨some d, op, some (j, w)⟩
abbrev ci (n : Int) : SV := .k (.i .i64 n)
abbrev cb (b : Bool) : SV := .k (.b b)
abbrev I (n : Int) : AV := .i .i64 n

theorem put_eq (a : Nat → AV) (d : Nat) (v : AV) : put a d v d = v := by simp [put, beq_self]
theorem put_ne {a : Nat → AV} {d t : Nat} {v : AV} (h : t ≠ d) : put a d v t = a t := put_other h
theorem putD_some (a : Nat → AV) (d : Nat) (v : AV) : putD a (some d) v = put a d v := rfl
theorem putD_none (a : Nat → AV) (v : AV) : putD a none v = a := rfl
theorem evS_t (a : Nat → AV) (n : Nat) : evS a (.t n) = a n := rfl
theorem evS_k (a : Nat → AV) (v : AV) : evS a (.k v) = v := rfl

/-- slots told by a list, all others unknown -/
def Sl (l : List (Nat × AV)) : Nat → AV := fun t => match l with
  | [] => .u
  | (d, v) :: l => bif Nat.beq t d then v else Sl l t
theorem Sl_eq (d : Nat) (v : AV) (l : List (Nat × AV)) : Sl ((d, v) :: l) d = v := by simp [Sl, beq_self]
theorem Sl_ne {d t : Nat} {v : AV} {l : List (Nat × AV)} (h : t ≠ d) : Sl ((d, v) :: l) t = Sl l t := by simp [Sl, beq_ne h]
theorem Sl_nil (t : Nat) : Sl [] t = .u := rfl

def Has (a : Nat → AV) : List (Nat × AV) → Prop
  | [] => True
  | (d, v) :: l => a d = v ∧ Has a l
theorem Has.mem {a : Nat → AV} : ∀ {l : List (Nat × AV)}, Has a l → ∀ p ∈ l, a p.1 = p.2
  | [], _ => by simp
  | (d, v) :: l, h => fun p hp => by
    rcases List.mem_cons.mp hp with e | e
    · subst e; exact h.1
    · exact Has.mem h.2 p e

theorem weak_Sl {a : Nat → AV} : ∀ {l : List (Nat × AV)}, (∀ p ∈ l, a p.1 = p.2) → Weak a (Sl l)
  | [], _ => fun t => .inl rfl
  | (d, v) :: l, h => fun t => by
    by_cases e : t = d
    · subst e
      rw [Sl_eq]
      exact .inr (h (t, v) (by simp)).symm
    · rw [Sl_ne e]
      exact weak_Sl (fun p hp => h p (by simp [hp])) t

theorem aopL_nil {P : Program} {pv : Bool} {a : Nat → AV} {H : AH} {K : (Nat → AV) → AH → Prop} : aopL P pv [] a H K = K a H := rfl
theorem aopL_cons {P : Program} {pv : Bool} {r : SOp} {rs : List SOp} {a : Nat → AV} {H : AH} {K : (Nat → AV) → AH → Prop} :
    aopL P pv (r :: rs) a H K = avG P pv r a H (fun v H' => aopL P pv rs (putD a r.dst v) H' K) := rfl
theorem avG_none {P : Program} {pv : Bool} {d : Option Nat} {op : SO} {a : Nat → AV} {H : AH} {V : AV → AH → Prop} : avG P pv ⟨d, op, none⟩ a H V = astepV P pv op a H V := rfl

variable {P : Program} {pv : Bool} {rs : List SOp} {a : Nat → AV} {H : AH} {K : (Nat → AV) → AH → Prop} {n : Nat} {d : Nat}
theorem mI {x : SV} {kk : IntKind} {m : Int} (h : evS a x = .i kk m) (k : aopL P pv rs (put a d (.i kk m)) H K) : aopL P pv (⟨some d, .mv x, none⟩ :: rs) a H K := by
  show aopL P pv rs (put a d (evS a x)) H K
  rw [h]; exact k
theorem mB {x : SV} {t : Bool} (h : evS a x = .b t) (k : aopL P pv rs (put a d (.b t)) H K) : aopL P pv (⟨some d, .mv x, none⟩ :: rs) a H K := by
  show aopL P pv rs (put a d (evS a x)) H K
  rw [h]; exact k
theorem mS {x : SV} {id off len : Nat} (h : evS a x = .s id off len) (k : aopL P pv rs (put a d (.s id off len)) H K) : aopL P pv (⟨some d, .mv x, none⟩ :: rs) a H K := by
  show aopL P pv rs (put a d (evS a x)) H K
  rw [h]; exact k
theorem mP {x : SV} {id off : Nat} (h : evS a x = .p id off) (k : aopL P pv rs (put a d (.p id off)) H K) : aopL P pv (⟨some d, .mv x, none⟩ :: rs) a H K := by
  show aopL P pv rs (put a d (evS a x)) H K
  rw [h]; exact k
theorem mN {x : SV} (h : evS a x = .ns) (k : aopL P pv rs (put a d (.ns)) H K) : aopL P pv (⟨some d, .mv x, none⟩ :: rs) a H K := by
  show aopL P pv rs (put a d (evS a x)) H K
  rw [h]; exact k
theorem mE {x : SV} (h : evS a x = .es) (k : aopL P pv rs (put a d (.es)) H K) : aopL P pv (⟨some d, .mv x, none⟩ :: rs) a H K := by
  show aopL P pv rs (put a d (evS a x)) H K
  rw [h]; exact k
theorem mQ {x : SV} (h : evS a x = .np) (k : aopL P pv rs (put a d (.np)) H K) : aopL P pv (⟨some d, .mv x, none⟩ :: rs) a H K := by
  show aopL P pv rs (put a d (evS a x)) H K
  rw [h]; exact k
theorem mA {x : SV} {cs : List AV} (h : evS a x = .ag cs) (k : aopL P pv rs (put a d (.ag cs)) H K) : aopL P pv (⟨some d, .mv x, none⟩ :: rs) a H K := by
  show aopL P pv rs (put a d (evS a x)) H K
  rw [h]; exact k
theorem mT {x : SV} {cs : List AV} (h : evS a x = .tu cs) (k : aopL P pv rs (put a d (.tu cs)) H K) : aopL P pv (⟨some d, .mv x, none⟩ :: rs) a H K := by
  show aopL P pv rs (put a d (evS a x)) H K
  rw [h]; exact k
theorem mC {x : SV} {v : Value} (h : evS a x = .c v) (k : aopL P pv rs (put a d (.c v)) H K) : aopL P pv (⟨some d, .mv x, none⟩ :: rs) a H K := by
  show aopL P pv rs (put a d (evS a x)) H K
  rw [h]; exact k
theorem mX {x : SV} {v : AV} (h : evS a x = v) (k : aopL P pv rs (put a d (v)) H K) : aopL P pv (⟨some d, .mv x, none⟩ :: rs) a H K := by
  show aopL P pv rs (put a d (evS a x)) H K
  rw [h]; exact k
theorem bin_of {op : BinOp} {x y : SV} (h : abin op (evS a x) (evS a y) (fun v => aopL P pv rs (put a d v) H K)) : aopL P pv (⟨some d, .bin op x y, none⟩ :: rs) a H K := h
theorem bA {x y : SV} {m l : Int} (hx : evS a x = I m) (hy : evS a y = I l) (hb : -9223372036854775808 ≤ m + l ∧ m + l ≤ 9223372036854775807) (k : aopL P pv rs (put a d (I (m + l))) H K) : aopL P pv (⟨some d, .bin .add x y, none⟩ :: rs) a H K := by
  refine bin_of ?_
  rw [hx, hy]; exact ⟨rfl, hb, k⟩
theorem bS {x y : SV} {m l : Int} (hx : evS a x = I m) (hy : evS a y = I l) (hb : -9223372036854775808 ≤ m - l ∧ m - l ≤ 9223372036854775807) (k : aopL P pv rs (put a d (I (m - l))) H K) : aopL P pv (⟨some d, .bin .sub x y, none⟩ :: rs) a H K := by
  refine bin_of ?_
  rw [hx, hy]; exact ⟨rfl, hb, k⟩
theorem bM {x y : SV} {m l : Int} (hx : evS a x = I m) (hy : evS a y = I l) (hb : -9223372036854775808 ≤ m * l ∧ m * l ≤ 9223372036854775807) (k : aopL P pv rs (put a d (I (m * l))) H K) : aopL P pv (⟨some d, .bin .mul x y, none⟩ :: rs) a H K := by
  refine bin_of ?_
  rw [hx, hy]; exact ⟨rfl, hb, k⟩
theorem bQ {x y : SV} {m l : Int} (hx : evS a x = I m) (hy : evS a y = I l) (h0 : 0 ≤ m ∧ m ≤ 9223372036854775807) (h1 : 0 < l) (k : aopL P pv rs (put a d (I (m / l))) H K) : aopL P pv (⟨some d, .bin .quo x y, none⟩ :: rs) a H K := by
  refine bin_of ?_
  rw [hx, hy]
  have e : m.tdiv l = m / l := Int.tdiv_eq_ediv_of_nonneg h0.1
  have h2 : 0 ≤ m / l := Int.ediv_nonneg h0.1 (by omega)
  have h3 : m / l ≤ m := Int.ediv_le_self l h0.1
  refine ⟨rfl, by omega, ?_⟩
  rw [e]; exact ⟨by omega, k⟩
theorem bR {x y : SV} {m l : Int} (hx : evS a x = I m) (hy : evS a y = I l) (h0 : 0 ≤ m) (h1 : 0 < l) (k : aopL P pv rs (put a d (I (m % l))) H K) : aopL P pv (⟨some d, .bin .rem x y, none⟩ :: rs) a H K := by
  refine bin_of ?_
  rw [hx, hy]
  have e : m.tmod l = m % l := Int.tmod_eq_emod_of_nonneg h0
  refine ⟨rfl, by omega, ?_⟩
  rw [e]; exact k
theorem bRn {x y : SV} {m l : Int} (hx : evS a x = I m) (hy : evS a y = I l) (h1 : l ≠ 0) (k : aopL P pv rs (put a d (I (m.tmod l))) H K) : aopL P pv (⟨some d, .bin .rem x y, none⟩ :: rs) a H K := by
  refine bin_of ?_
  rw [hx, hy]
  exact ⟨rfl, h1, k⟩
theorem cL {x y : SV} {kk : IntKind} {m l : Int} (hx : evS a x = .i kk m) (hy : evS a y = .i kk l) (k : aopL P pv rs (put a d (.b (decide (m < l)))) H K) : aopL P pv (⟨some d, .bin .lss x y, none⟩ :: rs) a H K := by
  refine bin_of ?_
  rw [hx, hy]; exact ⟨rfl, k⟩
theorem cG {x y : SV} {kk : IntKind} {m l : Int} (hx : evS a x = .i kk m) (hy : evS a y = .i kk l) (k : aopL P pv rs (put a d (.b (decide (l < m)))) H K) : aopL P pv (⟨some d, .bin .gtr x y, none⟩ :: rs) a H K := by
  refine bin_of ?_
  rw [hx, hy]; exact ⟨rfl, k⟩
theorem cLe {x y : SV} {kk : IntKind} {m l : Int} (hx : evS a x = .i kk m) (hy : evS a y = .i kk l) (k : aopL P pv rs (put a d (.b (decide (m ≤ l)))) H K) : aopL P pv (⟨some d, .bin .leq x y, none⟩ :: rs) a H K := by
  refine bin_of ?_
  rw [hx, hy]; exact ⟨rfl, k⟩
theorem cGe {x y : SV} {kk : IntKind} {m l : Int} (hx : evS a x = .i kk m) (hy : evS a y = .i kk l) (k : aopL P pv rs (put a d (.b (decide (l ≤ m)))) H K) : aopL P pv (⟨some d, .bin .geq x y, none⟩ :: rs) a H K := by
  refine bin_of ?_
  rw [hx, hy]; exact ⟨rfl, k⟩
theorem cE {x y : SV} {kk : IntKind} {m l : Int} (hx : evS a x = .i kk m) (hy : evS a y = .i kk l) (k : aopL P pv rs (put a d (.b (decide (m = l)))) H K) : aopL P pv (⟨some d, .bin .eql x y, none⟩ :: rs) a H K := by
  refine bin_of ?_
  rw [hx, hy]; exact ⟨rfl, k⟩
theorem cN {x y : SV} {kk : IntKind} {m l : Int} (hx : evS a x = .i kk m) (hy : evS a y = .i kk l) (k : aopL P pv rs (put a d (.b (decide (m ≠ l)))) H K) : aopL P pv (⟨some d, .bin .neq x y, none⟩ :: rs) a H K := by
  refine bin_of ?_
  rw [hx, hy]; exact ⟨rfl, k⟩
theorem pT {c x y : SV} (hc : evS a c = .b true) (k : aopL P pv rs (put a d (evS a x)) H K) : aopL P pv (⟨some d, .pk c x y, none⟩ :: rs) a H K := ⟨true, hc, k⟩
theorem pF {c x y : SV} (hc : evS a c = .b false) (k : aopL P pv rs (put a d (evS a y)) H K) : aopL P pv (⟨some d, .pk c x y, none⟩ :: rs) a H K := ⟨false, hc, k⟩
theorem nT {x : SV} {t : Bool} (hx : evS a x = .b t) (k : aopL P pv rs (put a d (.b (!t))) H K) : aopL P pv (⟨some d, .un .not x, none⟩ :: rs) a H K := by
  show aun .not (evS a x) _
  rw [hx]; exact k
theorem nG {x : SV} {m : Int} (hx : evS a x = I m) (hb : -9223372036854775807 ≤ m ∧ m ≤ 9223372036854775807) (k : aopL P pv rs (put a d (I (-m))) H K) : aopL P pv (⟨some d, .un .neg x, none⟩ :: rs) a H K := by
  show aun .neg (evS a x) _
  rw [hx]
  refine ⟨by omega, ?_⟩
  rw [Int.zero_sub]; exact k
theorem lD {x : SV} {id off : Nat} {v : AV} (hx : evS a x = .p id off) (hr : rdc H id off = some v) (k : aopL P pv rs (put a d v) H K) : aopL P pv (⟨some d, .ld x, none⟩ :: rs) a H K := ⟨id, off, v, hx, hr, k⟩
theorem lN {x : SV} {id off z : Nat} {ob : AObj} (hx : evS a x = .p id off) (ho : H id = some ob) (hl : off + z ≤ ob.cells.length) (k : aopL P pv rs (put a d (.ag ((ob.cells.drop off).take z))) H K) : aopL P pv (⟨some d, .ldn z x, none⟩ :: rs) a H K := ⟨id, off, ob, hx, ho, hl, k⟩
theorem sT {x y : SV} {id off z : Nat} {ob : AObj} {cs : List AV} (hx : evS a x = .p id off) (ho : H id = some ob) (hrw : ob.rw = true) (hc : cellsOf (evS a y) = some cs) (hl : cs.length = z) (hi : off + z ≤ ob.cells.length) (k : aopL P pv rs a (upd H id { ob with cells := splice ob.cells off cs }) K) : aopL P pv (⟨none, .st z x y, none⟩ :: rs) a H K := ⟨id, off, ob, cs, hx, ho, hrw, hc, hl, hi, k⟩
theorem iX {x i : SV} {id off len sz : Nat} {kk : IntKind} {m : Int} (hx : evS a x = .s id off len) (hi : evS a i = .i kk m) (h0 : 0 ≤ m) (h1 : m < (len : Int)) (k : aopL P pv rs (put a d (.p id (off + m.toNat * sz))) H K) : aopL P pv (⟨some d, .ix sz x i, none⟩ :: rs) a H K := ⟨id, off, len, kk, m, hx, hi, h0, h1, k⟩
theorem iX1 {x i : SV} {id off len m : Nat} {kk : IntKind} (hx : evS a x = .s id off len) (hi : evS a i = .i kk (m : Int)) (h1 : m < len) (k : aopL P pv rs (put a d (.p id (off + m))) H K) : aopL P pv (⟨some d, .ix 1 x i, none⟩ :: rs) a H K :=
  iX hx hi (by omega) (by omega) (by rw [show off + (m : Int).toNat * 1 = off + m by omega]; exact k)
theorem iX0 {x i : SV} {id len m : Nat} {kk : IntKind} (hx : evS a x = .s id 0 len) (hi : evS a i = .i kk (m : Int)) (h1 : m < len) (k : aopL P pv rs (put a d (.p id m)) H K) : aopL P pv (⟨some d, .ix 1 x i, none⟩ :: rs) a H K :=
  iX1 hx hi h1 (by rw [Nat.zero_add]; exact k)
theorem fD {x : SV} {id off z : Nat} (hx : evS a x = .p id off) (k : aopL P pv rs (put a d (.p id (off + z))) H K) : aopL P pv (⟨some d, .fd z x, none⟩ :: rs) a H K := ⟨id, off, hx, k⟩
theorem nC {x : SV} {id off : Nat} (hx : evS a x = .p id off) (k : aopL P pv rs (put a d (.p id off)) H K) : aopL P pv (⟨some d, .nc x, none⟩ :: rs) a H K := ⟨id, off, hx, k⟩
theorem lS {x : SV} {id off len : Nat} (hx : evS a x = .s id off len) (k : aopL P pv rs (put a d (I len)) H K) : aopL P pv (⟨some d, .ln x, none⟩ :: rs) a H K := .inl ⟨id, off, len, hx, k⟩
theorem lNs {x : SV} (hx : evS a x = .ns) (k : aopL P pv rs (put a d (I 0)) H K) : aopL P pv (⟨some d, .ln x, none⟩ :: rs) a H K := .inr ⟨.inl hx, k⟩
theorem lEs {x : SV} (hx : evS a x = .es) (k : aopL P pv rs (put a d (I 0)) H K) : aopL P pv (⟨some d, .ln x, none⟩ :: rs) a H K := .inr ⟨.inr hx, k⟩
theorem eX {x : SV} {vs : List AV} {v : AV} {j : Nat} (hx : evS a x = .tu vs) (hv : vs[j]? = some v) (k : aopL P pv rs (put a d v) H K) : aopL P pv (⟨some d, .ex x j, none⟩ :: rs) a H K := ⟨vs, v, hx, hv, k⟩
theorem mK {x y : SV} {by_ : Nat} {z : AV} {m l : Int} (hx : evS a x = I m) (hy : evS a y = I l) (h0 : 0 ≤ m) (h1 : m ≤ l) (h2 : (by_ : Int) * l ≤ 281474976710656) (h3 : l ≤ 9223372036854775807) (k : ∀ id, H id = none → aopL P pv rs (put a d (.s id 0 m.toNat)) (upd H id ⟨List.replicate m.toNat z, true, 1⟩) K) : aopL P pv (⟨some d, .ms by_ z x y, none⟩ :: rs) a H K := ⟨_, _, m, l, hx, hy, h0, h1, h2, h3, k⟩
theorem bX {x : SV} {cs : List AV} (hx : cellsOf (evS a x) = some cs) (k : ∀ id, H id = none → aopL P pv rs (put a d (.p id 0)) (upd H id ⟨cs, true, 0⟩) K) : aopL P pv (⟨some d, .bx x, none⟩ :: rs) a H K := ⟨cs, hx, k⟩
theorem aL {zs : List AV} (k : ∀ id, H id = none → aopL P pv rs (put a d (.p id 0)) (upd H id ⟨zs, true, 0⟩) K) : aopL P pv (⟨some d, .al zs, none⟩ :: rs) a H K := k
theorem bK {sz len : Nat} {cs : List AV} (k : ∀ id, H id = none → aopL P pv rs (put a d (.s id 0 len)) (upd H id ⟨cs, true, sz⟩) K) : aopL P pv (⟨some d, .bk sz cs len, none⟩ :: rs) a H K := k
theorem bE (k : aopL P pv rs (put a d .es) H K) : aopL P pv (⟨some d, .be, none⟩ :: rs) a H K := k
theorem bL {sz len : Nat} {zs cs : List AV} {ps : List (Nat × SV)} (hc : afill (fun i => some (i * sz, sz)) zs (ps.map fun p => (p.1, evS a p.2)) = some cs) (k : ∀ id, H id = none → aopL P pv rs (put a d (.s id 0 len)) (upd H id ⟨cs, true, sz⟩) K) : aopL P pv (⟨some d, .bs sz zs len ps, none⟩ :: rs) a H K := ⟨cs, hc, k⟩
theorem bD {zs cs : List AV} {places : List (Nat × Nat)} {ps : List (Nat × SV)} (hc : afill (places.toArray[·]?) zs (ps.map fun p => (p.1, evS a p.2)) = some cs) (k : aopL P pv rs (put a d (.ag cs)) H K) : aopL P pv (⟨some d, .bd zs places ps, none⟩ :: rs) a H K := ⟨cs, hc, k⟩
theorem fI {x : SV} {cs : List AV} {v : AV} {z : Nat} (hx : evS a x = .ag cs) (hv : cs[z]? = some v) (k : aopL P pv rs (put a d v) H K) : aopL P pv (⟨some d, .fi z x, none⟩ :: rs) a H K := ⟨cs, v, hx, hv, k⟩
theorem fN {x : SV} {cs : List AV} {z l : Nat} (hx : evS a x = .ag cs) (k : aopL P pv rs (put a d (.ag ((cs.drop z).take l))) H K) : aopL P pv (⟨some d, .fin z l x, none⟩ :: rs) a H K := ⟨cs, hx, k⟩
theorem mXx {x y : SV} {m l : Int} (hx : evS a x = I m) (hy : evS a y = I l) (k : aopL P pv rs (put a d (I (if l > m then l else m))) H K) : aopL P pv (⟨some d, .mx x y, none⟩ :: rs) a H K := ⟨_, _, m, l, hx, hy, k⟩
theorem mNn {x y : SV} {m l : Int} (hx : evS a x = I m) (hy : evS a y = I l) (k : aopL P pv rs (put a d (I (if l < m then l else m))) H K) : aopL P pv (⟨some d, .mn x y, none⟩ :: rs) a H K := ⟨_, _, m, l, hx, hy, k⟩
theorem cA {f : FuncId} {args : List SV} {dd : Option Nat} {R : AV → AH → Prop} (hc : ACalls P f (args.map (evS a)) H R) (k : ∀ r H', R r H' → aopL P false rs (putD a dd r) H' K) : aopL P false (⟨dd, .ca f args, none⟩ :: rs) a H K := ACalls.mono hc fun r H' h => ⟨fun e => (by cases e), k r H' h⟩
theorem cAt {f : FuncId} {args : List SV} {dd : Option Nat} {R : AV → AH → Prop} (hc : ACalls P f (args.map (evS a)) H R) (k : ∀ r H', R r H' → HLe H H' ∧ aopL P true rs (putD a dd r) H' K) : aopL P true (⟨dd, .ca f args, none⟩ :: rs) a H K := ACalls.mono hc fun r H' h => ⟨fun _ => (k r H' h).1, (k r H' h).2⟩
theorem gO {op : SO} {j : Nat} {w : Bool} (hj : a j = .b w) (k : aopL P pv (⟨some d, op, none⟩ :: rs) a H K) : aopL P pv (⟨some d, op, some (j, w)⟩ :: rs) a H K := Or.inl ⟨w, hj, fun _ => k, fun h => absurd rfl h⟩
theorem gN {op : SO} {j : Nat} {w t : Bool} (hj : a j = .b t) (ht : t = !w) (k : aopL P pv rs (put a d (.c undef)) H K) : aopL P pv (⟨some d, op, some (j, w)⟩ :: rs) a H K := Or.inl ⟨t, hj, fun h => (by subst ht; cases w <;> cases h), fun _ => k⟩
theorem gU {op : SO} {j : Nat} {w : Bool} (hj : a j = .c undef) (k : aopL P pv rs (put a d (.c undef)) H K) : aopL P pv (⟨some d, op, some (j, w)⟩ :: rs) a H K := Or.inr ⟨hj, k⟩
theorem cvI {x : SV} {kk : IntKind} {m : Int} (hx : evS a x = .i kk m) (hb : -9223372036854775808 ≤ m ∧ m ≤ 9223372036854775807) (k : aopL P pv rs (put a d (I m)) H K) : aopL P pv (⟨some d, .cv .i64 x, none⟩ :: rs) a H K := ⟨kk, m, hx, hb, k⟩
theorem aE (h : K a H) : aopL P pv [] a H K := h
theorem rG {Q : Exit → (Nat → AV) → AH → Prop} (h : aopL P false rs a H (Q .normal)) : W P n (.reg rs) Q a H := W_reg h
theorem W_condD {Q : Exit → (Nat → AV) → AH → Prop} {s : SV} {x y : SC} {p : Prop} [Decidable p] (ht : evS a s = .b (decide p)) (h1 : p → W P n x Q a H) (h2 : ¬ p → W P n y Q a H) : W P n (.cond s x y) Q a H := W_cond ht (fun e => h1 (of_decide_eq_true e)) (fun e => h2 (of_decide_eq_false e))

theorem cLt {x y : SV} {kk : IntKind} {m l : Int} (hx : evS a x = .i kk m) (hy : evS a y = .i kk l) (hp : m < l) (k : aopL P pv rs (put a d (.b true)) H K) : aopL P pv (⟨some d, .bin .lss x y, none⟩ :: rs) a H K := cL hx hy (by rw [decide_eq_true hp]; exact k)
theorem cLf {x y : SV} {kk : IntKind} {m l : Int} (hx : evS a x = .i kk m) (hy : evS a y = .i kk l) (hp : l ≤ m) (k : aopL P pv rs (put a d (.b false)) H K) : aopL P pv (⟨some d, .bin .lss x y, none⟩ :: rs) a H K := cL hx hy (by rw [decide_eq_false (Int.not_lt.mpr hp)]; exact k)
theorem cGt {x y : SV} {kk : IntKind} {m l : Int} (hx : evS a x = .i kk m) (hy : evS a y = .i kk l) (hp : l < m) (k : aopL P pv rs (put a d (.b true)) H K) : aopL P pv (⟨some d, .bin .gtr x y, none⟩ :: rs) a H K := cG hx hy (by rw [decide_eq_true hp]; exact k)
theorem cGf {x y : SV} {kk : IntKind} {m l : Int} (hx : evS a x = .i kk m) (hy : evS a y = .i kk l) (hp : m ≤ l) (k : aopL P pv rs (put a d (.b false)) H K) : aopL P pv (⟨some d, .bin .gtr x y, none⟩ :: rs) a H K := cG hx hy (by rw [decide_eq_false (Int.not_lt.mpr hp)]; exact k)
theorem cLet {x y : SV} {kk : IntKind} {m l : Int} (hx : evS a x = .i kk m) (hy : evS a y = .i kk l) (hp : m ≤ l) (k : aopL P pv rs (put a d (.b true)) H K) : aopL P pv (⟨some d, .bin .leq x y, none⟩ :: rs) a H K := cLe hx hy (by rw [decide_eq_true hp]; exact k)
theorem cLef {x y : SV} {kk : IntKind} {m l : Int} (hx : evS a x = .i kk m) (hy : evS a y = .i kk l) (hp : l < m) (k : aopL P pv rs (put a d (.b false)) H K) : aopL P pv (⟨some d, .bin .leq x y, none⟩ :: rs) a H K := cLe hx hy (by rw [decide_eq_false (Int.not_le.mpr hp)]; exact k)
theorem cGet {x y : SV} {kk : IntKind} {m l : Int} (hx : evS a x = .i kk m) (hy : evS a y = .i kk l) (hp : l ≤ m) (k : aopL P pv rs (put a d (.b true)) H K) : aopL P pv (⟨some d, .bin .geq x y, none⟩ :: rs) a H K := cGe hx hy (by rw [decide_eq_true hp]; exact k)
theorem cGef {x y : SV} {kk : IntKind} {m l : Int} (hx : evS a x = .i kk m) (hy : evS a y = .i kk l) (hp : m < l) (k : aopL P pv rs (put a d (.b false)) H K) : aopL P pv (⟨some d, .bin .geq x y, none⟩ :: rs) a H K := cGe hx hy (by rw [decide_eq_false (Int.not_le.mpr hp)]; exact k)
theorem cEt {x y : SV} {kk : IntKind} {m l : Int} (hx : evS a x = .i kk m) (hy : evS a y = .i kk l) (hp : m = l) (k : aopL P pv rs (put a d (.b true)) H K) : aopL P pv (⟨some d, .bin .eql x y, none⟩ :: rs) a H K := cE hx hy (by rw [decide_eq_true hp]; exact k)
theorem cEf {x y : SV} {kk : IntKind} {m l : Int} (hx : evS a x = .i kk m) (hy : evS a y = .i kk l) (hp : m ≠ l) (k : aopL P pv rs (put a d (.b false)) H K) : aopL P pv (⟨some d, .bin .eql x y, none⟩ :: rs) a H K := cE hx hy (by rw [decide_eq_false (hp)]; exact k)
theorem cNt {x y : SV} {kk : IntKind} {m l : Int} (hx : evS a x = .i kk m) (hy : evS a y = .i kk l) (hp : m ≠ l) (k : aopL P pv rs (put a d (.b true)) H K) : aopL P pv (⟨some d, .bin .neq x y, none⟩ :: rs) a H K := cN hx hy (by rw [decide_eq_true hp]; exact k)
theorem cNf {x y : SV} {kk : IntKind} {m l : Int} (hx : evS a x = .i kk m) (hy : evS a y = .i kk l) (hp : m = l) (k : aopL P pv rs (put a d (.b false)) H K) : aopL P pv (⟨some d, .bin .neq x y, none⟩ :: rs) a H K := cN hx hy (by rw [decide_eq_false ((fun h => h hp))]; exact k)
theorem pTI {c x y : SV} {kk : IntKind} {m : Int} (hc : evS a c = .b true) (hv : evS a x = .i kk m) (k : aopL P pv rs (put a d (.i kk m)) H K) : aopL P pv (⟨some d, .pk c x y, none⟩ :: rs) a H K := pT hc (by rw [hv]; exact k)
theorem pTB {c x y : SV} {t : Bool} (hc : evS a c = .b true) (hv : evS a x = .b t) (k : aopL P pv rs (put a d (.b t)) H K) : aopL P pv (⟨some d, .pk c x y, none⟩ :: rs) a H K := pT hc (by rw [hv]; exact k)
theorem pFI {c x y : SV} {kk : IntKind} {m : Int} (hc : evS a c = .b false) (hv : evS a y = .i kk m) (k : aopL P pv rs (put a d (.i kk m)) H K) : aopL P pv (⟨some d, .pk c x y, none⟩ :: rs) a H K := pF hc (by rw [hv]; exact k)
theorem pFB {c x y : SV} {t : Bool} (hc : evS a c = .b false) (hv : evS a y = .b t) (k : aopL P pv rs (put a d (.b t)) H K) : aopL P pv (⟨some d, .pk c x y, none⟩ :: rs) a H K := pF hc (by rw [hv]; exact k)
theorem W_condT {Q : Exit → (Nat → AV) → AH → Prop} {s : SV} {x y : SC} (ht : evS a s = .b true) (h : W P n x Q a H) : W P n (.cond s x y) Q a H := W_cond ht (fun _ => h) (fun e => by cases e)
theorem W_condF {Q : Exit → (Nat → AV) → AH → Prop} {s : SV} {x y : SC} (ht : evS a s = .b false) (h : W P n y Q a H) : W P n (.cond s x y) Q a H := W_cond ht (fun e => by cases e) (fun _ => h)

/-- a loop whose rounds go by a family: from x on, to a lesser one or out -/
theorem W_loopF {Q : Exit → (Nat → AV) → AH → Prop} {X : Type} {b : SC} (sl : X → List (Nat × AV)) (hp : X → AH) (ok : X → Prop) (μ : X → Nat) (x0 : X)
    (h0 : ok x0) (hs : Has a (sl x0)) (hh : HLe (hp x0) H)
    (round : ∀ x, ok x → W P n b (Then (fun a' H' => ∃ y, ok y ∧ μ y < μ x ∧ Has a' (sl y) ∧ HLe (hp y) H') Q) (Sl (sl x)) (hp x)) : W P n (.loop b) Q a H := by
  refine W_loop (fun a H k => ∃ x, ok x ∧ μ x = k ∧ Has a (sl x) ∧ HLe (hp x) H) ⟨_, x0, h0, rfl, hs, hh⟩ ?_
  rintro a H k ⟨x, h1, rfl, h3, h4⟩
  refine W_weak (weak_Sl h3.mem) h4 (W_mono ?_ (round x h1))
  intro e a' H' hq
  cases e with
  | normal => obtain ⟨y, k1, k2, k3, k4⟩ := hq; exact ⟨_, k2, y, k1, rfl, k3, k4⟩
  | _ => exact hq


end Go.Proofs.Ytdkdainipanacaa
