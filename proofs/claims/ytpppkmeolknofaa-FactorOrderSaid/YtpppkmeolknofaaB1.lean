/- Calls, regions in the text's order, code: what is said of slots and the abstract heap, the machine does. No condition. -/
import Derived.Test.YtpppkmeolknofaaB0
namespace Go.Proofs.Ytpppkmeolknofaa
open Go Go.RowKit
set_option linter.unusedSimpArgs false
set_option linter.unusedVariables false

/-- an argument list and the machine's -/
def VLs (m : AMap) (xs : List AV) (vs : List Value) : Prop := xs.length = vs.length ∧ ∀ (j : Nat) (x : AV) (v : Value), xs[j]? = some x → vs[j]? = some v → VR m x v

def CallOk (P : Program) (f : FuncId) : Prop := ∃ fn, P.funcs[f]? = some fn ∧ ¬ (fn.name = "runtime.NumGoroutine") ∧ ¬ (fn.body = none)

/-- a call, told over the abstract heap -/
def ACalls (P : Program) (f : FuncId) (args : List AV) (H : AH) (R : AV → AH → Prop) : Prop :=
  CallOk P f ∧ ∀ (m : AMap) (HT : AH) (g : Out) (w : World) (vs : List Value), HLe H HT → Rel m HT g w → VLs m args vs →
    Calls P f vs.toArray w fun e w' => ∃ v x m' H' HT', e = .returned v ∧ VR m' x v ∧ Stp m H HT m' H' HT' ∧ Rel m' HT' g w' ∧ R x H'

theorem ACalls.mono {P : Program} {f : FuncId} {args : List AV} {H : AH} {R R' : AV → AH → Prop} (h : ACalls P f args H R) (hr : ∀ x H', R x H' → R' x H') : ACalls P f args H R' :=
  ⟨h.1, fun m HT g w vs a b c => (h.2 m HT g w vs a b c).mono fun e w' ⟨v, x, m', H', HT', h1, h2, h3, h4, h5⟩ => ⟨v, x, m', H', HT', h1, h2, h3, h4, hr _ _ h5⟩⟩

theorem HLe.upd_new {H : AH} {id : Nat} (h : H id = none) (ob : AObj) : HLe H (upd H id ob) := by
  intro j o hj
  have : j ≠ id := fun q => by rw [q, h] at hj; cases hj
  rw [upd_ne _ _ this]; exact hj

/-- what a call is not told of stays -/
theorem ACalls.frame {P : Program} {f : FuncId} {args : List AV} {H : AH} {R : AV → AH → Prop} (h : ACalls P f args H R) {id : Nat} (hid : H id = none) (ob : AObj) :
    ACalls P f args (upd H id ob) (fun x H'' => ∃ H', H' id = none ∧ H'' = upd H' id ob ∧ R x H') := by
  refine ⟨h.1, fun m HT g w vs hl hR hv => (h.2 m HT g w vs ((HLe.upd_new hid ob).trans hl) hR hv).mono ?_⟩
  rintro e w' ⟨v, x, m', H', HT', h1, h2, h3, h4, h5⟩
  have hT : HT id = some ob := hl _ _ (upd_same _ _ _)
  obtain ⟨hT', hH'⟩ := h3.fr id ob hid hT
  refine ⟨v, x, m', upd H' id ob, HT', h1, h2, ⟨h3.mle, ?_, ?_⟩, h4, H', hH', rfl, h5⟩
  · intro j o hj
    by_cases q : j = id
    · subst q; rw [upd_same] at hj; obtain rfl := Option.some.inj hj; exact hT'
    · rw [upd_ne _ _ q] at hj; exact h3.sub _ _ hj
  · intro j o hj ho
    have q : j ≠ id := fun q => by rw [q, upd_same] at hj; cases hj
    rw [upd_ne _ _ q] at hj
    rw [upd_ne _ _ q]
    exact h3.fr j o hj ho

def astepV (P : Program) (pv : Bool) (op : SO) (a : Nat → AV) (H : AH) (V : AV → AH → Prop) : Prop :=
  match op with
  | .ca f args => ACalls P f (args.map (evS a)) H (fun v H' => (pv = true → HLe H H') ∧ V v H')
  | .ap sz bytes x y => aop (.ap sz bytes x y) a H (fun v H' => (pv = true → HLe H H') ∧ V v H')
  | op => aop op a H V

def avG (P : Program) (pv : Bool) (r : SOp) (a : Nat → AV) (H : AH) (V : AV → AH → Prop) : Prop :=
  match r.grd with
  | none => astepV P pv r.op a H V
  | some (d, want) => ∃ t, a d = .b t ∧ (t = want → astepV P pv r.op a H V) ∧ (t ≠ want → V .u H)

def aopG (P : Program) (pv : Bool) (r : SOp) (a : Nat → AV) (H : AH) (K : (Nat → AV) → AH → Prop) : Prop :=
  avG P pv r a H (fun v H' => K (putD a r.dst v) H')

def aops (P : Program) (pv : Bool) (rs : List SOp) : List Nat → (Nat → AV) → AH → ((Nat → AV) → AH → Prop) → Prop
  | [], a, H, K => K a H
  | i :: l, a, H, K => match rs[i]? with
    | some r => aopG P pv r a H (fun a' H' => aops P pv rs l a' H' K)
    | none => False

def trOp (P : Program) (ops : Array Oper) (o : Oper) : Option SOp :=
  match trO P o with
  | some so => match o.guard with
    | none => some ⟨o.dst, so, none⟩
    | some (j, w) => match (ops[j]?).bind (·.dst) with
      | some d => some ⟨o.dst, so, some (d, w)⟩
      | none => none
  | none => none
def trL (P : Program) (ops : Array Oper) : List Oper → Option (List SOp)
  | [] => some []
  | o :: os => match trOp P ops o, trL P ops os with | some r, some rs => some (r :: rs) | _, _ => none

def sopIn (n : Nat) (r : SOp) : Bool := r.op.svs.all (opIn n) && (match r.grd with | some (d, _) => Nat.blt d n | none => true)

theorem trL_get {P : Program} {ops : Array Oper} : ∀ {os : List Oper} {rs : List SOp}, trL P ops os = some rs → rs.length = os.length ∧ ∀ (i : Nat) (r : SOp), rs[i]? = some r → ∃ o, os[i]? = some o ∧ trOp P ops o = some r
  | [], rs, h => by simp [trL] at h; subst h; simp
  | o :: os, rs, h => by
    simp only [trL] at h
    cases h1 : trOp P ops o with
    | none => rw [h1] at h; cases h
    | some r =>
      cases h2 : trL P ops os with
      | none => rw [h1, h2] at h; cases h
      | some rs' =>
        rw [h1, h2] at h
        obtain rfl := Option.some.inj h
        obtain ⟨e1, e2⟩ := trL_get h2
        refine ⟨by simp [e1], fun i q hq => ?_⟩
        cases i with
        | zero => simp at hq; subst hq; exact ⟨o, rfl, h1⟩
        | succ i => exact e2 i q (by simpa using hq)

/-- what is reached: slots and heap, over the world -/
def Got (n : Nat) (m : AMap) (H HT : AH) (g : Out) (K : (Nat → AV) → AH → Prop) (act : Act) (w : World) : Prop :=
  ∃ m' H' HT' a', Stp m H HT m' H' HT' ∧ Rel m' HT' g w ∧ SR n m' a' act.tmps ∧ act.defers = [] ∧ K a' H'

theorem oL_rel {n : Nat} {m : AMap} {a : Nat → AV} {act : Act} (h : SR n m a act.tmps) : ∀ {xs : List Operand} {ss : List SV}, oL xs = some ss → (∀ x ∈ ss, opIn n x = true) → VLs m (ss.map (evS a)) (xs.map act.eval)
  | [], ss, hx, _ => by simp [oL] at hx; subst hx; exact ⟨rfl, by simp⟩
  | x :: xs, ss, hx, hn => by
    simp only [oL] at hx
    cases h1 : ofO x with
    | none => rw [h1] at hx; cases hx
    | some s =>
      cases h2 : oL xs with
      | none => rw [h1, h2] at hx; cases hx
      | some ss' =>
        rw [h1, h2] at hx
        obtain rfl := Option.some.inj hx
        obtain ⟨e1, e2⟩ := oL_rel h h2 (fun y hy => hn y (by simp [hy]))
        refine ⟨by simpa using e1, fun j p q hp hq => ?_⟩
        cases j with
        | zero => simp at hp hq; subst hp; subst hq; exact ev_rel h h1 (hn s (by simp))
        | succ j => exact e2 j p q (by simpa using hp) (by simpa using hq)

variable {P : Program} {m : AMap} {H HT : AH} {g : Out} {w : World}

theorem o1_ca {x : Operand} {f : SV → SO} {k : FuncId} {as : List SV} (hf : ∀ s, (f s).plain = true) (h : o1 x f = some (.ca k as)) : False := by
  obtain ⟨s, _, e⟩ := o1_some h
  have := hf s
  rw [← e] at this
  cases this
theorem o2_ca {x y : Operand} {f : SV → SV → SO} {k : FuncId} {as : List SV} (hf : ∀ s t, (f s t).plain = true) (h : o2 x y f = some (.ca k as)) : False := by
  obtain ⟨s, t, _, _, e⟩ := o2_some h
  have := hf s t
  rw [← e] at this
  cases this

theorem trO_ca {o : Oper} {f : FuncId} {args : List SV} (h : trO P o = some (.ca f args)) : ∃ as ts, o.op = .call ⟨.value (.func f), as, ts⟩ ∧ oL as.toList = some args := by
  obtain ⟨dst, op, ty, pos, after, guard⟩ := o
  cases op
  case call c =>
    obtain ⟨callee, as, ts⟩ := c
    simp only [trO] at h
    split at h
    · cases hq : oL as.toList with
      | none => rw [hq] at h; cases h
      | some l =>
        rw [hq] at h
        simp only [Option.map_some, Option.some.injEq, SO.ca.injEq] at h
        obtain ⟨rfl, rfl⟩ := h
        exact ⟨as, ts, by first | rfl | simp_all, hq⟩
    all_goals
      exfalso
      repeat' (split at h)
      all_goals first | exact o1_ca (fun _ => rfl) h | exact o2_ca (fun _ _ => rfl) h | cases h
  case alloc t =>
    exfalso
    simp only [trO] at h
    repeat' (split at h)
    all_goals first | (cases hq : leafs _ <;> rw [hq] at h <;> cases h; done) | cases h
  case binOp op t x y u =>
    exfalso
    cases op <;> simp only [trO] at h
    all_goals repeat' (split at h)
    all_goals first | exact o1_ca (fun _ => rfl) h | exact o2_ca (fun _ _ => rfl) h | cases h
  all_goals
    exfalso
    simp only [trO] at h
    repeat' (split at h)
    all_goals first | exact o1_ca (fun _ => rfl) h | exact o2_ca (fun _ _ => rfl) h | cases h

end Go.Proofs.Ytpppkmeolknofaa
