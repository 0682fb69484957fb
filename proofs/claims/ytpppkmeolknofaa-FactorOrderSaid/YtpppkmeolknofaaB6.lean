/- Code: sequences, branches, blocks, loops, and the contract of a function out of its code. No condition. -/
import Derived.Test.YtpppkmeolknofaaB5
namespace Go.Proofs.Ytpppkmeolknofaa
open Go Go.RowKit
set_option linter.unusedSimpArgs false
set_option linter.unusedVariables false
set_option linter.constructorNameAsVariable false

inductive SC where
  | skip
  | reg (rs : List SOp)
  | dreg (rs : List SOp)
  | seq (a b : SC)
  | cond (c : SV) (a b : SC)
  | block (id : Nat) (b : SC)
  | loop (b : SC)
  | exit (id : Nat)
  | ret

def clRank : Cl → Nat
  | .pure | .load => 0
  | .ap | .call | .loud => 1
  | .fal | .alloc => 2

/-- one order of a drawn region: what is quiet first, allocations last -/
def canonGo (ops : Array Oper) (rs : List SOp) : Nat → List Nat → List Nat → List Nat
  | 0, _, acc => acc.reverse
  | fuel + 1, left, acc =>
    let rdy := left.filter fun i => (predsAt ops i).all fun p => !(left.contains p)
    let pick := fun k => rdy.find? fun i => match rs[i]? with | some r => Nat.beq (clRank r.op.cl) k | none => false
    match (pick 0).orElse (fun _ => (pick 1).orElse (fun _ => pick 2)) with
    | some i => canonGo ops rs fuel (left.filter fun j => !(Nat.beq i j)) (i :: acc)
    | none => acc.reverse
def canon (ops : Array Oper) (rs : List SOp) : List Nat := canonGo ops rs ops.size (List.range ops.size) []

def trC (P : Program) (n : Nat) : Code → Option SC
  | .skip => some .skip
  | .label _ => some .skip
  | .region _ ops draw => match trL P ops ops.toList with
    | some rs => if rs.all (sopIn n) then
        if draw then (if okOrd ops rs (canon ops rs) then some (.dreg ((canon ops rs).filterMap (rs[·]?))) else none) else some (.reg rs)
      else none
    | none => none
  | .seq a b => match trC P n a, trC P n b with | some x, some y => some (.seq x y) | _, _ => none
  | .cond c a b => match ofO c with
    | some s => if opIn n s then (match trC P n a, trC P n b with | some x, some y => some (.cond s x y) | _, _ => none) else none
    | none => none
  | .block id b => (trC P n b).map (.block id)
  | .loop b => (trC P n b).map .loop
  | .exit id => some (.exit id)
  | .ret => some .ret
  | _ => none

def aopL (P : Program) (pv : Bool) : List SOp → (Nat → AV) → AH → ((Nat → AV) → AH → Prop) → Prop
  | [], a, H, K => K a H
  | r :: rs, a, H, K => aopG P pv r a H (fun a' H' => aopL P pv rs a' H' K)

theorem aopL_aops {P : Program} {pv : Bool} {rs : List SOp} {K : (Nat → AV) → AH → Prop} : ∀ {l : List Nat} {a : Nat → AV} {H : AH}, (∀ i ∈ l, i < rs.length) → aopL P pv (l.filterMap (rs[·]?)) a H K → aops P pv rs l a H K
  | [], a, H, _, h => h
  | i :: l, a, H, hl, h => by
    have hlt : i < rs.length := hl i (by simp)
    have hi : rs[i]? = some rs[i] := by simp [hlt]
    simp only [List.filterMap_cons, hi] at h
    simp only [aops, hi]
    exact aopG_mono (fun a' H' k => aopL_aops (fun j hj => hl j (by simp [hj])) k) h

theorem range_get {α : Type} (rs : List α) : (List.range rs.length).filterMap (rs[·]?) = rs := by
  have : (List.range rs.length).filterMap (rs[·]?) = ((List.range rs.length).map fun i => rs[i]?).filterMap id := by rw [List.filterMap_map]; rfl
  rw [this]
  have h2 : ((List.range rs.length).map fun i => rs[i]?) = rs.map some := by
    apply List.ext_getElem?
    intro j
    by_cases hj : j < rs.length
    · simp [hj]
    · simp [hj]
  rw [h2, List.filterMap_map]
  simp

def Sat (P : Program) (n : Nat) (c : Code) (Q : Exit → (Nat → AV) → AH → Prop) (a : Nat → AV) (H : AH) : Prop :=
  ∀ (m : AMap) (HT : AH) (g : Out) (w : World) (act : Act), HLe H HT → Rel m HT g w → SR n m a act.tmps → act.defers = [] → c.wp P (Lft n m H HT g Q) act w

inductive Tr (P : Program) (n : Nat) : Code → SC → Prop
  | skip : Tr P n .skip .skip
  | label {l} : Tr P n (.label l) .skip
  | reg {id ops rs} : trL P ops ops.toList = some rs → rs.all (sopIn n) = true → Tr P n (.region id ops false) (.reg rs)
  | dreg {id ops rs} {l : List Nat} : trL P ops ops.toList = some rs → rs.all (sopIn n) = true → okOrd ops rs l = true → Tr P n (.region id ops true) (.dreg (l.filterMap (rs[·]?)))
  | seq {a b x y} : Tr P n a x → Tr P n b y → Tr P n (.seq a b) (.seq x y)
  | cond {c s a b x y} : ofO c = some s → opIn n s = true → Tr P n a x → Tr P n b y → Tr P n (.cond c a b) (.cond s x y)
  | block {id b x} : Tr P n b x → Tr P n (.block id b) (.block id x)
  | loop {b x} : Tr P n b x → Tr P n (.loop b) (.loop x)
  | exit {id} : Tr P n (.exit id) (.exit id)
  | ret : Tr P n .ret .ret

theorem tr_of {P : Program} {n : Nat} : ∀ {c : Code} {sc : SC}, trC P n c = some sc → Tr P n c sc
  | .skip, sc, h => by simp only [trC, Option.some.injEq] at h; subst h; exact .skip
  | .label l, sc, h => by simp only [trC, Option.some.injEq] at h; subst h; exact .label
  | .exit id, sc, h => by simp only [trC, Option.some.injEq] at h; subst h; exact .exit
  | .ret, sc, h => by simp only [trC, Option.some.injEq] at h; subst h; exact .ret
  | .region id ops draw, sc, h => by
    simp only [trC] at h
    split at h
    · rename_i rs hrs
      split at h
      · rename_i hn
        cases draw with
        | true =>
          simp only [if_true] at h
          split at h
          · rename_i hok
            simp only [Option.some.injEq] at h; subst h
            exact .dreg hrs hn hok
          · cases h
        | false =>
          simp only [Bool.false_eq_true, if_false, Option.some.injEq] at h
          subst h
          exact .reg hrs hn
      · cases h
    · cases h
  | .seq a b, sc, h => by
    simp only [trC] at h
    split at h
    · rename_i x y hx hy
      simp only [Option.some.injEq] at h; subst h
      exact .seq (tr_of hx) (tr_of hy)
    · cases h
  | .cond c a b, sc, h => by
    simp only [trC] at h
    split at h
    · rename_i s hs
      split at h
      · rename_i hn
        split at h
        · rename_i x y hx hy
          simp only [Option.some.injEq] at h; subst h
          exact .cond hs hn (tr_of hx) (tr_of hy)
        · cases h
      · cases h
    · cases h
  | .block id b, sc, h => by
    simp only [trC, Option.map_eq_some_iff] at h
    obtain ⟨x, hx, rfl⟩ := h
    exact .block (tr_of hx)
  | .loop b, sc, h => by
    simp only [trC, Option.map_eq_some_iff] at h
    obtain ⟨x, hx, rfl⟩ := h
    exact .loop (tr_of hx)
  | .rangeFunc _ _ _ _, sc, h => by simp [trC] at h
  | .scope _, sc, h => by simp [trC] at h
  | .goto _, sc, h => by simp [trC] at h
  | .refuse _, sc, h => by simp [trC] at h

/-- what slim code does -/
def W (P : Program) (n : Nat) (sc : SC) (Q : Exit → (Nat → AV) → AH → Prop) (a : Nat → AV) (H : AH) : Prop := P.follows .mixedOrders = true → ∀ c, Tr P n c sc → Sat P n c Q a H

variable {P : Program} {n : Nat} {Q Q' : Exit → (Nat → AV) → AH → Prop} {a : Nat → AV} {H : AH}

theorem Lft.after {m m1 : AMap} {H1 HT HT1 : AH} {g : Out} (hst : Stp m H HT m1 H1 HT1) {e : Exit} {act : Act} {w : World} (h : Lft n m1 H1 HT1 g Q e act w) : Lft n m H HT g Q e act w := Got.after hst h

theorem W_mono {sc : SC} (hq : ∀ e a H, Q e a H → Q' e a H) (h : W P n sc Q a H) : W P n sc Q' a H :=
  fun hm c hc m HT g w act hl hR hS hd => wp_mono (h hm c hc m HT g w act hl hR hS hd) fun e act' w' k => Got.mono k (hq e)

theorem W_skip (h : Q .normal a H) : W P n .skip Q a H := by
  intro _ c hc m HT g w act hl hR hS hd
  have fin : Lft n m H HT g Q .normal act w := ⟨m, H, HT, a, .refl hl, hR, hS, hd, h⟩
  cases hc with
  | skip => exact wp_skip fin
  | label => exact wp_label fin

theorem W_exit {id : Nat} (h : Q (.exit id) a H) : W P n (.exit id) Q a H := by
  intro _ c hc m HT g w act hl hR hS hd
  cases hc
  exact wp_exit (Q := Lft n m H HT g Q) ⟨m, H, HT, a, .refl hl, hR, hS, hd, h⟩

theorem W_ret (h : Q .ret a H) : W P n .ret Q a H := by
  intro _ c hc m HT g w act hl hR hS hd
  cases hc
  exact wp_ret (Q := Lft n m H HT g Q) ⟨m, H, HT, a, .refl hl, hR, hS, hd, h⟩

theorem W_reg {rs : List SOp} (h : aopL P false rs a H (Q .normal)) : W P n (.reg rs) Q a H := by
  intro _ c hc m HT g w act hl hR hS hd
  cases hc with
  | @reg id ops _ hrs hn =>
    refine wp_region ?_
    have hlen : rs.length = ops.size := by rw [(trL_get hrs).1]; simp
    rw [← hlen]
    exact aops_sound hrs hn _ m H HT w a act hS hd hl hR (aopL_aops (fun i hi => List.mem_range.mp hi) (by rw [range_get]; exact h)) m H HT (.refl hl)

theorem W_dreg {rs : List SOp} (h : aopL P true rs a H (Q .normal)) : W P n (.dreg rs) Q a H := by
  intro hm c hc m HT g w act hl hR hS hd
  cases hc with
  | @dreg id ops rs0 l hrs hn hok =>
    have hlen : rs0.length = ops.size := by rw [(trL_get hrs).1]; simp
    simp only [okOrd, Bool.and_eq_true, List.all_eq_true] at hok
    obtain ⟨⟨⟨⟨h0, h1⟩, h2⟩, h3⟩, h4⟩ := hok
    have h1' := Nat.le_of_ble_eq_true h1
    have hlt : ∀ i ∈ l, i < ops.size := fun i hi => by simpa using h2 i hi
    have hpw := pairOk_pw h4
    have hmem : ∀ i, i < ops.size → i ∈ l := fun i hi => by simpa using h0 i (List.mem_range.mpr hi)
    have hR' : Rel m HT g { w with drawn := w.drawn + 1 } := hR.drew
    refine wp_region_any hm ?_
    refine any_sound hrs hn h3 ops.size l (Array.replicate ops.size false) m H HT _ a act (by omega) (by simp) (fun i hi => ⟨fun _ => by simp [hi], fun _ => hmem i hi⟩) hlt ?_ hpw hS hd hl hR' ?_ m H HT (.refl hl)
    · intro i hi hl'
      simp [hi] at hl'
    · exact aopL_aops (fun i hi => by rw [hlen]; exact hlt i hi) h

def Then (K : (Nat → AV) → AH → Prop) (Q : Exit → (Nat → AV) → AH → Prop) : Exit → (Nat → AV) → AH → Prop
  | .normal => K
  | e => Q e

theorem W_seq {x y : SC} (h : W P n x (Then (W P n y Q) Q) a H) : W P n (.seq x y) Q a H := by
  intro hm c hc m HT g w act hl hR hS hd
  cases hc with
  | seq h1 h2 =>
    refine wp_seq (wp_mono (h hm _ h1 m HT g w act hl hR hS hd) fun e act' w' k => ?_)
    cases e with
    | normal =>
      obtain ⟨m', H', HT', a', k1, k2, k3, k4, k5⟩ := k
      exact wp_mono (k5 hm _ h2 m' HT' g w' act' k1.sub k2 k3 k4) fun e act'' w'' kk => Lft.after k1 kk
    | exit id => exact k
    | goto l => exact k
    | ret => exact k
    | panic ch => exact k
    | outgrown => exact k

theorem W_cond {s : SV} {x y : SC} {t : Bool} (ht : evS a s = .b t) (h1 : t = true → W P n x Q a H) (h2 : t = false → W P n y Q a H) : W P n (.cond s x y) Q a H := by
  intro hm c hc m HT g w act hl hR hS hd
  cases hc with
  | cond ho hn hx hy =>
    have hv := ev_rel hS ho hn
    rw [ht] at hv
    refine wp_cond (hv.b_inv) ?_
    cases t with
    | true => exact h1 rfl hm _ hx m HT g w act hl hR hS hd
    | false => exact h2 rfl hm _ hy m HT g w act hl hR hS hd

def InB (id : Nat) (Q : Exit → (Nat → AV) → AH → Prop) : Exit → (Nat → AV) → AH → Prop
  | .exit id' => bif Nat.beq id' id then Q .normal else Q (.exit id')
  | e => Q e

theorem W_block {id : Nat} {x : SC} (h : W P n x (InB id Q) a H) : W P n (.block id x) Q a H := by
  intro hm c hc m HT g w act hl hR hS hd
  cases hc with
  | block hx =>
    refine wp_block (wp_mono (h hm _ hx m HT g w act hl hR hS hd) fun e act' w' k => ?_)
    cases e with
    | exit id' =>
      by_cases q : id' = id
      · subst q
        simp only [Exit.inBlock, if_true]
        exact Got.mono k fun a' H' kk => by simpa [InB, beq_self] using kk
      · simp only [Exit.inBlock, if_neg q]
        exact Got.mono k fun a' H' kk => by simpa [InB, beq_ne q] using kk
    | normal => exact k
    | goto l => exact k
    | ret => exact k
    | panic ch => exact k
    | outgrown => exact k

theorem least {p : Nat → Prop} (h : ∃ k, p k) : ∃ k, p k ∧ ∀ j, j < k → ¬ p j := by
  obtain ⟨k, hk⟩ := h
  induction k using Nat.strongRecOn with
  | _ k ih =>
    by_cases q : ∃ j, j < k ∧ p j
    · obtain ⟨j, hj, hp⟩ := q
      exact ih j hj hp
    · exact ⟨k, hk, fun j hj hp => q ⟨j, hj, hp⟩⟩

theorem W_loop {x : SC} (I : (Nat → AV) → AH → Nat → Prop) (h0 : ∃ k, I a H k) (round : ∀ a H k, I a H k → W P n x (Then (fun a' H' => ∃ k', k' < k ∧ I a' H' k') Q) a H) : W P n (.loop x) Q a H := by
  intro hm c hc m HT g w act hl hR hS hd
  cases hc with
  | loop hx =>
    let J : Nat → Act → World → Prop := fun k act w => Got n m H HT g (fun a' H' => I a' H' k) act w
    let μ : Act → World → Nat := fun act w => Classical.epsilon fun k => J k act w ∧ ∀ j, j < k → ¬ J j act w
    refine wp_loop (fun act w => ∃ k, J k act w) μ ?_ ?_
    · obtain ⟨k, hk⟩ := h0
      exact ⟨k, m, H, HT, a, .refl hl, hR, hS, hd, hk⟩
    · intro act1 w1 hJ
      have hμ := Classical.epsilon_spec (least hJ)
      obtain ⟨m1, H1, HT1, a1, k1, k2, k3, k4, k5⟩ := hμ.1
      refine wp_mono (round a1 H1 _ k5 hm _ hx m1 HT1 g w1 act1 k1.sub k2 k3 k4) fun e act' w' k => ?_
      cases e with
      | normal =>
        obtain ⟨m2, H2, HT2, a2, j1, j2, j3, j4, k', hk', j5⟩ := k
        have hJ' : J k' act' w' := ⟨m2, H2, HT2, a2, k1.trans j1, j2, j3, j4, j5⟩
        refine ⟨⟨k', hJ'⟩, ?_⟩
        have hμ' := Classical.epsilon_spec (least (p := fun k => J k act' w') ⟨k', hJ'⟩)
        have : ¬ k' < μ act' w' := fun q => hμ'.2 k' q hJ'
        have hk2 : k' < μ act1 w1 := hk'
        omega
      | exit id => exact Lft.after k1 k
      | goto l => exact Lft.after k1 k
      | ret => exact Lft.after k1 k
      | panic ch => exact Lft.after k1 k
      | outgrown => exact Lft.after k1 k

/-- slots may be forgotten, and parts of the heap -/
def Weak (a a' : Nat → AV) : Prop := ∀ t, a' t = .u ∨ a' t = a t

theorem W_weak {sc : SC} {a' : Nat → AV} {H' : AH} (ha : Weak a a') (hH : HLe H' H) (h : W P n sc Q a' H') : W P n sc Q a H := by
  intro hm c hc m HT g w act hl hR hS hd
  have hS' : SR n m a' act.tmps := ⟨hS.1, fun t v hv => by
    rcases ha t with e | e
    · rw [e]; exact .u _
    · rw [e]; exact hS.2 t v hv⟩
  refine wp_mono (h hm c hc m HT g w act (hH.trans hl) hR hS' hd) fun e act' w' k => ?_
  obtain ⟨m2, H2, HT2, a2, j1, j2, j3, j4, j5⟩ := k
  refine ⟨m2, H2, HT2, a2, ⟨j1.mle, j1.sub, fun id o h1 h2 => j1.fr id o ?_ h2⟩, j2, j3, j4, j5⟩
  cases hh : H' id with
  | none => rfl
  | some o' => rw [hH _ _ hh] at h1; cases h1

def resV (a : Nat → AV) : List Nat → AV
  | [t] => a t
  | ts => .tu (ts.map a)

def resM (tmps : Array Value) : ResultVar → Sem Value
  | .tmp t => pure (tmps.getD t undef)
  | .cell a t => do loadVar t (← asAddr (tmps.getD a undef))

theorem run_resM (tmps : Array Value) (w : World) : ∀ ts : List Nat, (ts.mapM fun t => resM tmps (.tmp t)).run P w = Result.ok (ts.map fun t => tmps.getD t undef) w
  | [] => by simp
  | t :: ts => by rw [List.mapM_cons, Sem.run_bind]; simp only [resM, Sem.run_pure, Result.andThen_ok, Sem.run_bind]; have := run_resM tmps w ts; simp only [resM] at this; rw [this]; rfl

def oneOf : List Value → Value
  | [v] => v
  | vs => .tuple vs.toArray

theorem oneOf_eq (vs : List Value) : (if h : vs.toArray.size = 1 then vs.toArray[0] else Value.tuple vs.toArray) = oneOf vs := by
  match vs with
  | [] => rfl
  | [v] => rfl
  | v :: u :: vs => simp [oneOf]

theorem run_results {fn : Func} {ts : List Nat} (h : fn.results.toList = ts.map ResultVar.tmp) (tmps : Array Value) (w : World) :
    (results fn tmps).run P w = Result.ok (oneOf (ts.map fun t => tmps.getD t undef)) w := by
  have h2 : fn.results = (ts.map ResultVar.tmp).toArray := by apply Array.ext'; simpa using h
  have h3 : results fn tmps = (do let vs ← fn.results.mapM (resM tmps); pure (if h : vs.size = 1 then vs[0] else .tuple vs)) := rfl
  rw [h3, h2, Array.mapM_eq_mapM_toList, List.mapM_map, Sem.run_bind, Sem.run_map]
  have h4 : (ts.mapM (resM tmps ∘ ResultVar.tmp)).run P w = Result.ok (ts.map fun t => tmps.getD t undef) w := run_resM tmps w ts
  rw [h4]
  simp only [Result.andThen_ok, Sem.run_pure]
  rw [oneOf_eq]

theorem SR.get {m : AMap} {ts : Array Value} (h : SR n m a ts) {t : Nat} (ht : t < n) : VR m (a t) (ts.getD t undef) := by
  have hlt : t < ts.size := by rw [h.1]; exact ht
  have := h.2 t ts[t] (by simp [hlt])
  simpa [Array.getD, hlt] using this

theorem res_rel {m : AMap} {tmps : Array Value} (h : SR n m a tmps) {ts : List Nat} (hts : ∀ t ∈ ts, t < n) : VR m (resV a ts) (oneOf (ts.map fun t => tmps.getD t undef)) := by
  match ts, hts with
  | [t], hts => exact h.get (hts t (by simp))
  | [], hts => exact .tu (by simp) (by simp)
  | t :: u :: ts, hts =>
    refine .tu (by simp) (fun j c v hc hv => ?_)
    have hv' : ((t :: u :: ts).map fun t => tmps.getD t undef)[j]? = some v := by simpa using hv
    rw [List.getElem?_map] at hc hv'
    cases hj : (t :: u :: ts)[j]? with
    | none => rw [hj] at hc; cases hc
    | some q =>
      rw [hj] at hc hv'
      obtain rfl := Option.some.inj hc
      obtain rfl := Option.some.inj hv'
      exact h.get (hts q (List.mem_of_getElem? hj))

def initS (args : List AV) : Nat → AV := fun t => match args[t]? with | some x => x | none => .u

def Fine (P : Program) (f : FuncId) (sc : SC) (n : Nat) (ts : List Nat) : Prop :=
  ∃ fn c, P.funcs[f]? = some fn ∧ ¬ (fn.name = "runtime.NumGoroutine") ∧ fn.body = some c ∧ Tr P n c sc ∧ fn.ntmps = n ∧ fn.results.toList = ts.map ResultVar.tmp ∧ ∀ t ∈ ts, t < n

def Ends (K : AV → AH → Prop) (ts : List Nat) : Exit → (Nat → AV) → AH → Prop
  | .normal, a, H => K (resV a ts) H
  | .ret, a, H => K (resV a ts) H
  | _, _, _ => False

/-- a function's contract, out of its code -/
theorem calls_of {f : FuncId} {sc : SC} {ts : List Nat} (hF : Fine P f sc n ts) (hm : P.follows .mixedOrders = true) {args : List AV} (hargs : args.length ≤ n) {R : AV → AH → Prop} (h : W P n sc (Ends R ts) (initS args) H) : ACalls P f args H R := by
  obtain ⟨fn, c, hfn, hname, hbody, htr, hnt, hres, hts⟩ := hF
  refine ⟨⟨fn, hfn, hname, by rw [hbody]; simp⟩, fun m HT g w vs hl hR hvs => ?_⟩
  refine calls_of_wp hfn hbody ?_
  have hS : SR n m (initS args) (vs.toArray ++ Array.replicate (fn.ntmps - vs.toArray.size) undef) := by
    have hlen := hvs.1
    refine ⟨by simp; omega, fun t v hv => ?_⟩
    unfold initS
    by_cases q : t < vs.length
    · rw [Array.getElem?_append_left (by simpa using q)] at hv
      cases hx : args[t]? with
      | none => exact .u _
      | some x => exact hvs.2 t x v hx (by simpa using hv)
    · have : args[t]? = none := by simp; omega
      rw [this]
      exact .u _
  refine wp_mono (h hm c htr m HT g w _ hl hR hS rfl) fun e act' w' k => ?_
  obtain ⟨m', H', HT', a', k1, k2, k3, k4, k5⟩ := k
  have fin : R (resV a' ts) H' → act'.defers = [] ∧ ∃ v, (results fn act'.tmps).run P w' = .ok v w' ∧ ∃ v_1 x m' H' HT', Ending.returned v = .returned v_1 ∧ VR m' x v_1 ∧ Stp m H HT m' H' HT' ∧ Rel m' HT' g w' ∧ R x H' :=
    fun hRR => ⟨k4, _, run_results hres act'.tmps w', _, _, m', H', HT', rfl, res_rel k3 hts, k1, k2, hRR⟩
  cases e with
  | normal => exact fin k5
  | ret => exact fin k5
  | exit id => exact k5.elim
  | goto l => exact k5.elim
  | panic ch => exact k5.elim
  | outgrown => exact k5.elim

end Go.Proofs.Ytpppkmeolknofaa
