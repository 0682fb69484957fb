/- What a slim operation says, the machine's operation does. No condition. -/
import Derived.Test.YtpppkmeolknofaaA9
namespace Go.Proofs.Ytpppkmeolknofaa
open Go Go.RowKit
set_option linter.unusedSimpArgs false
set_option linter.unusedVariables false

variable {P : Program} {m : AMap} {H HT : AH} {g : Out} {w : World} {K : AV → AH → Prop}

theorem Ex.eq {s s' : Sem Next} (e : s = s') (h : Ex P s' m H HT g w K) : Ex P s m H HT g w K := e ▸ h

def SO.plain : SO → Bool
  | .ca _ _ => false
  | _ => true

theorem constP_some {n : Nat} : ∀ {ps : List (Nat × SV)} {cs : List (Nat × AV)}, constP ps = some cs → ∀ a : Nat → AV, (ps.map fun p => (p.1, evS a p.2)) = cs ∧ ∀ x ∈ ps.map (·.2), opIn n x = true
  | [], cs, h, a => by simp [constP] at h; subst h; simp
  | (i, .k v) :: ps, cs, h, a => by
    simp only [constP] at h
    split at h
    · rename_i r hr
      obtain rfl := Option.some.inj h
      obtain ⟨e1, e2⟩ := constP_some (n := n) hr a
      refine ⟨by rw [List.map_cons, e1]; rfl, fun x hx => ?_⟩
      simp only [List.map_cons, List.mem_cons] at hx
      rcases hx with rfl | hx
      · rfl
      · exact e2 x hx
    · cases h
  | (i, .t v) :: ps, cs, h, a => by simp [constP] at h

theorem aop_sound {o : Oper} {so : SO} (htr : trO P o = some so) {n : Nat} (hn : ∀ x ∈ so.svs, opIn n x = true) {a : Nat → AV} {act : Act} (hS : SR n m a act.tmps) (hl : HLe H HT) (hR : Rel m HT g w)
    (h : aop so a H K) : Ex P (execOp act.eval o) m H HT g w K := by
  obtain ⟨dst, op, ty, pos, after, guard⟩ := o
  cases op
  case move x =>
    obtain ⟨sx, hx, rfl⟩ := o1_some htr
    exact Ex.same hl hR rfl (ev_rel hS hx (hn sx (by simp [SO.svs]))) h
  case assign x =>
    obtain ⟨sx, hx, rfl⟩ := o1_some htr
    exact Ex.same hl hR rfl (ev_rel hS hx (hn sx (by simp [SO.svs]))) h
  case pick c x y =>
    simp only [trO] at htr
    split at htr
    · rename_i sc hc
      obtain ⟨sx, sy, hx, hy, rfl⟩ := o2_some htr
      exact ex_pk hl hR (ev_rel hS hc (hn _ (by simp [SO.svs]))) (ev_rel hS hx (hn _ (by simp [SO.svs]))) (ev_rel hS hy (hn _ (by simp [SO.svs]))) h
    · cases htr
  case binOp op t x y u =>
    have bin : ∀ op' so', o2 x y (.bin op') = some so' → so = so' → op = op' → Ex P (execOp act.eval ⟨dst, .binOp op t x y u, ty, pos, after, guard⟩) m H HT g w K := by
      intro op' so' h1 h2 h3
      subst h2; subst h3
      obtain ⟨sx, sy, hx, hy, rfl⟩ := o2_some h1
      obtain ⟨r, v, h1, h2, h3⟩ := abin_run (P := P) (t := t) (ox := x) (oy := y) (w := w) (ev_rel hS hx (hn _ (by simp [SO.svs]))) (ev_rel hS hy (hn _ (by simp [SO.svs]))) (show abin op (evS a sx) (evS a sy) (fun v => K v H) from h)
      exact Ex.same hl hR (run_v h1) h2 h3
    have eb : ∀ neg, P.underlying t = some .bool → op = (bif neg then .neq else .eql) → o2 x y (.eb neg) = some so → Ex P (execOp act.eval ⟨dst, .binOp op t x y u, ty, pos, after, guard⟩) m H HT g w K := by
      intro neg ht hop h1
      obtain ⟨sx, sy, hx, hy, rfl⟩ := o2_some h1
      obtain ⟨p, q, e1, e2, hK⟩ := h
      have r1 := ev_rel hS hx (hn _ (by simp [SO.svs]))
      have r2 := ev_rel hS hy (hn _ (by simp [SO.svs]))
      rw [e1] at r1; rw [e2] at r2
      exact ex_eb (a := act.eval) ht neg hop hl hR r1.b_inv r2.b_inv hK
    have en : ∀ neg e, P.underlying t = some (.slice e) → op = (bif neg then .neq else .eql) → o2 x y (.en neg) = some so → Ex P (execOp act.eval ⟨dst, .binOp op t x y u, ty, pos, after, guard⟩) m H HT g w K := by
      intro neg e ht hop h1
      obtain ⟨sx, sy, hx, hy, rfl⟩ := o2_some h1
      exact ex_en ht neg hop hl hR (ev_rel hS hx (hn _ (by simp [SO.svs]))) (ev_rel hS hy (hn _ (by simp [SO.svs]))) h
    have ep : ∀ neg e, P.underlying t = some (.pointer e) → op = (bif neg then .neq else .eql) → o2 x y (.ep neg) = some so → Ex P (execOp act.eval ⟨dst, .binOp op t x y u, ty, pos, after, guard⟩) m H HT g w K := by
      intro neg e ht hop h1
      obtain ⟨sx, sy, hx, hy, rfl⟩ := o2_some h1
      exact ex_ep ht neg hop hl hR (ev_rel hS hx (hn _ (by simp [SO.svs]))) (ev_rel hS hy (hn _ (by simp [SO.svs]))) h
    cases op
    case eql =>
      simp only [trO] at htr
      split at htr
      · rename_i ht; exact eb false ht rfl htr
      · rename_i e ht; exact en false e ht rfl htr
      · rename_i e ht; exact ep false e ht rfl htr
      · exact bin _ _ htr rfl rfl
      · cases htr
    case neq =>
      simp only [trO] at htr
      split at htr
      · rename_i ht; exact eb true ht rfl htr
      · rename_i e ht; exact en true e ht rfl htr
      · rename_i e ht; exact ep true e ht rfl htr
      · exact bin _ _ htr rfl rfl
      · cases htr
    all_goals exact bin _ _ htr rfl rfl
  case unOp op t x =>
    obtain ⟨sx, hx, rfl⟩ := o1_some htr
    exact ex_un hl hR (ev_rel hS hx (hn sx (by simp [SO.svs]))) h
  case convert s d x =>
    simp only [trO] at htr
    split at htr
    · rename_i k0 k hs hd
      obtain ⟨sx, hx, rfl⟩ := o1_some htr
      exact ex_cv hs hd hl hR (ev_rel hS hx (hn sx (by simp [SO.svs]))) h
    · cases htr
  case nilCheck x =>
    obtain ⟨sx, hx, rfl⟩ := o1_some htr
    exact ex_nc hl hR rfl rfl (ev_rel hS hx (hn sx (by simp [SO.svs]))) h
  case extract x i =>
    obtain ⟨sx, hx, rfl⟩ := o1_some htr
    exact ex_ex hl hR (ev_rel hS hx (hn sx (by simp [SO.svs]))) h
  case load t x =>
    simp only [trO] at htr
    split at htr
    · rename_i d i hd hi
      split at htr
      · rename_i ha
        obtain ⟨sx, hx, rfl⟩ := o1_some htr
        exact ex_ldn hd ha hi hl hR (ev_rel hS hx (hn sx (by simp [SO.svs]))) h
      · rename_i ha
        obtain ⟨sx, hx, rfl⟩ := o1_some htr
        exact ex_ld hd (by simpa using ha) hl hR (ev_rel hS hx (hn sx (by simp [SO.svs]))) h
    · cases htr
  case store t x v =>
    simp only [trO] at htr
    split at htr
    · rename_i i hi
      obtain ⟨sx, sy, hx, hy, rfl⟩ := o2_some htr
      exact ex_st hi hl hR (ev_rel hS hx (hn _ (by simp [SO.svs]))) (ev_rel hS hy (hn _ (by simp [SO.svs]))) h
    · cases htr
  case indexAddr t x ix =>
    simp only [trO] at htr
    split at htr
    · rename_i i hi
      obtain ⟨e, he, hie⟩ := sliceElem_some hi
      obtain ⟨sx, sy, hx, hy, rfl⟩ := o2_some htr
      exact ex_ix he hie hl hR (ev_rel hS hx (hn _ (by simp [SO.svs]))) (ev_rel hS hy (hn _ (by simp [SO.svs]))) h
    · cases htr
  case fieldAddr t x f =>
    simp only [trO] at htr
    split at htr
    · rename_i off ft hf
      obtain ⟨fs, fd, i, h1, h2, h3, h4, h5, h6⟩ := fieldOff_some hf
      obtain ⟨sx, hx, rfl⟩ := o1_some htr
      subst h5
      exact ex_fd h1 h2 h3 h4 hl hR (ev_rel hS hx (hn sx (by simp [SO.svs]))) h
    · cases htr
  case slice t x lo hi mx =>
    simp only [trO] at htr
    split at htr
    · rename_i i hi
      obtain ⟨e, he, hie⟩ := sliceElem_some hi
      split at htr
      · split at htr
        · rename_i sx slo shi hx hlo hhi
          obtain rfl := Option.some.inj htr
          have rx := ev_rel hS hx (hn _ (by simp [SO.svs]))
          have rlo := oO_rel hS hlo (fun y hy => hn y (by simp [SO.svs] at hy ⊢; exact .inr (.inl hy)))
          have rhi := oO_rel hS hhi (fun y hy => hn y (by simp [SO.svs] at hy ⊢; exact .inr (.inr hy)))
          rcases h with h | h
          · exact ex_sl he hie hl hR rx rlo rhi h
          · obtain ⟨h1, h2, h3, h4⟩ := h
            exact ex_sln he hie hl hR rx rlo rhi ⟨h1, h2, h3, h4⟩
        · cases htr
      · split at htr
        · rename_i hi'
          split at htr
          · rename_i hc
            obtain ⟨sx, hx, rfl⟩ := o1_some htr
            have rx := ev_rel hS hx (hn _ (by simp [SO.svs]))
            rename_i mx' _
            simp only [Bool.and_eq_true] at hc
            have c0 : ∀ q : Operand, isConst0 q = true → ∃ k, q = .const (.int k 0) := by
              intro q hq
              unfold isConst0 at hq
              split at hq
              · exact ⟨_, rfl⟩
              · cases hq
            obtain ⟨k1, rfl⟩ := c0 _ hc.1
            obtain ⟨k2, rfl⟩ := c0 _ hc.2
            exact ex_sl0 he hie hl hR rx h
          · cases htr
        · cases htr
    · cases htr
  case makeSlice t l c =>
    simp only [trO] at htr
    split at htr
    · rename_i i hi
      obtain ⟨e, he, hie⟩ := sliceElem_some hi
      split at htr
      · rename_i z hz
        split at htr
        · rename_i hc
          obtain ⟨sx, sy, hx, hy, rfl⟩ := o2_some htr
          exact ex_mk he hie hz hc.1 (by cases z <;> first | rfl | (simp [aggV] at hc)) hc.2.2 hl hR (ev_rel hS hx (hn _ (by simp [SO.svs]))) (ev_rel hS hy (hn _ (by simp [SO.svs]))) h
        · cases htr
      · cases htr
    · cases htr
  case buildSlice t len parts =>
    simp only [trO] at htr
    split at htr
    · rename_i i hi
      obtain ⟨e, he, hie⟩ := sliceElem_some hi
      split at htr
      · rename_i z hz
        split at htr
        · rename_i hc
          split at htr
          · rename_i zs ps hzl hps
            have full : so = .bs i.size zs len ps → Ex P (execOp act.eval ⟨dst, .buildSlice t len parts, ty, pos, after, guard⟩) m H HT g w K := by
              intro e1
              subst e1
              exact ex_bs he hie hz hc.1 hc.2 hzl hl hR (by rw [Array.toList_map]; exact oP_rel hS hps (fun x hx => hn x (by simpa [SO.svs] using hx))) h
            split at htr
            · rename_i h0
              obtain rfl := Option.some.inj htr
              obtain ⟨rfl, h2⟩ := h0
              have : parts = #[] := Array.eq_empty_of_size_eq_zero h2
              subst this
              exact Ex.eq (by simp [execOp]) <| ex_be he hie hl hR h
            · split at htr
              · rename_i cs hcs
                split at htr
                · rename_i r hr
                  obtain rfl := Option.some.inj htr
                  obtain ⟨e1, e2⟩ := constP_some hcs a
                  exact ex_bs he hie hz hc.1 hc.2 hzl hl hR (by rw [Array.toList_map]; exact oP_rel hS hps e2) ⟨r, by rw [e1]; exact hr, h⟩
                · exact full (Option.some.inj htr).symm
              · exact full (Option.some.inj htr).symm
          · cases htr
        · cases htr
      · cases htr
    · cases htr
  case box t x =>
    obtain ⟨sx, hx, rfl⟩ := o1_some htr
    exact ex_bx hl hR (ev_rel hS hx (hn sx (by simp [SO.svs]))) h
  case alloc t =>
    simp only [trO] at htr
    split at htr
    · rename_i i hi
      split at htr
      · rename_i z hz
        cases hzl : leafs z.cells.toList with
        | none => rw [hzl] at htr; cases htr
        | some zs =>
          rw [hzl] at htr
          obtain rfl := Option.some.inj htr
          unfold leafs at hzl
          split at hzl
          · rename_i hall
            obtain rfl := Option.some.inj hzl
            exact ex_al hi hz hall hl hR h
          · cases hzl
      · cases htr
    · cases htr
  case build t parts =>
    simp only [trO] at htr
    split at htr
    · rename_i fs i ht hi
      split at htr
      · rename_i z places hz hpl
        split at htr
        · rename_i zs ps hzl hps
          obtain rfl := Option.some.inj htr
          exact ex_bd ht hi hz hpl hzl hl hR (by rw [Array.toList_map]; exact oP_rel hS hps (fun x hx => hn x (by simpa [SO.svs] using hx))) h
        · cases htr
      · cases htr
    · cases htr
  case field t x f =>
    simp only [trO] at htr
    split at htr
    · rename_i off ft hf
      obtain ⟨fs, fd, i, h1, h2, h3, h4, h5, h6⟩ := fieldOff_some hf
      split at htr
      · rename_i d i' hd hi'
        split at htr
        · rename_i ha
          obtain ⟨sx, hx, rfl⟩ := o1_some htr
          exact ex_fin h1 h2 h5 h6 hd ha hi' hl hR (ev_rel hS hx (hn sx (by simp [SO.svs]))) h
        · rename_i ha
          obtain ⟨sx, hx, rfl⟩ := o1_some htr
          exact ex_fi h1 h2 h5 h6 hd (by simpa using ha) hl hR (ev_rel hS hx (hn sx (by simp [SO.svs]))) h
      · cases htr
    · cases htr
  case call c =>
    obtain ⟨callee, args, argTypes⟩ := c
    have one : ∀ {l : Array Operand} {x : Operand}, l.toList = [x] → l = #[x] := fun h => by apply Array.ext'; simpa using h
    have two : ∀ {l : Array Operand} {x y : Operand}, l.toList = [x, y] → l = #[x, y] := fun h => by apply Array.ext'; simpa using h
    have oneT : ∀ {l : Array TypeId} {x : TypeId}, l.toList = [x] → l = #[x] := fun h => by apply Array.ext'; simpa using h
    have twoT : ∀ {l : Array TypeId} {x y : TypeId}, l.toList = [x, y] → l = #[x, y] := fun h => by apply Array.ext'; simpa using h
    simp only [trO] at htr
    split at htr
    · cases hq : oL args.toList with
      | none => rw [hq] at htr; cases htr
      | some as => rw [hq] at htr; obtain rfl := Option.some.inj htr; exact h.elim
    · split at htr
      · rename_i x t hx' ht'
        split at htr
        · rename_i e ht
          obtain ⟨sx, hx, rfl⟩ := o1_some htr
          have e1 := one hx'
          have e2 := oneT ht'
          subst e1; subst e2
          exact Ex.eq (by simp [execOp, resolve, invoke, builtin]; rfl) <| ex_ln ht hl hR (ev_rel hS hx (hn _ (by simp [SO.svs]))) h
        · cases htr
      · cases htr
    · split at htr
      · rename_i x y t u hx' ht'
        split at htr
        · rename_i htu
          subst htu
          split at htr
          · rename_i i hi
            obtain ⟨e, he, hie⟩ := sliceElem_some hi
            split at htr
            · rename_i z hz
              split at htr
              · rename_i hc
                obtain ⟨sx, sy, hx, hy, rfl⟩ := o2_some htr
                have e1 := two hx'
                have e2 := twoT ht'
                subst e1; subst e2
                exact Ex.eq (by simp [execOp, resolve, invoke, builtin]; rfl) <| ex_ap he hie hz hc.1 hc.2 hl hR (ev_rel hS hx (hn _ (by simp [SO.svs]))) (ev_rel hS hy (hn _ (by simp [SO.svs]))) h
              · cases htr
            · cases htr
          · cases htr
        · cases htr
      · cases htr
    · split at htr
      · rename_i x y t u hx' ht'
        split at htr
        · rename_i i hi
          obtain ⟨e, he, hie⟩ := sliceElem_some hi
          split at htr
          · rename_i hc
            obtain ⟨sx, sy, hx, hy, rfl⟩ := o2_some htr
            have e1 := two hx'
            have e2 := twoT ht'
            subst e1; subst e2
            exact Ex.eq (by simp [execOp, resolve, invoke, builtin]; rfl) <| ex_cp he hie hc hl hR (ev_rel hS hx (hn _ (by simp [SO.svs]))) (ev_rel hS hy (hn _ (by simp [SO.svs]))) h
          · cases htr
        · cases htr
      · cases htr
    · split at htr
      · rename_i x y hx'
        obtain ⟨sx, sy, hx, hy, rfl⟩ := o2_some htr
        have e1 := two hx'
        subst e1
        exact Ex.eq (by simp [execOp, resolve, invoke, builtin]; rfl) <| ex_mx hl hR (ev_rel hS hx (hn _ (by simp [SO.svs]))) (ev_rel hS hy (hn _ (by simp [SO.svs]))) h
      · cases htr
    · split at htr
      · rename_i x y hx'
        obtain ⟨sx, sy, hx, hy, rfl⟩ := o2_some htr
        have e1 := two hx'
        subst e1
        exact Ex.eq (by simp [execOp, resolve, invoke, builtin]; rfl) <| ex_mn hl hR (ev_rel hS hx (hn _ (by simp [SO.svs]))) (ev_rel hS hy (hn _ (by simp [SO.svs]))) h
      · cases htr
    · cases htr
  all_goals (simp only [trO] at htr; cases htr)

end Go.Proofs.Ytpppkmeolknofaa
