/- The abstract heap: values with ids for addresses, objects, and how they stand to the machine's world. No condition. -/
import Derived.Orders
import Derived.Below
namespace Go.Proofs.Ytpppkmeolknofaa
open Go Go.RowKit

inductive AV where
  | i (k : IntKind) (n : Int)
  | b (x : Bool)
  | p (id off : Nat)
  | np
  | s (id off len : Nat)
  | ns
  | es
  | ag (cs : List AV)
  | tu (vs : List AV)
  | c (v : Value)
  | u

def AV.leaf : AV → Bool
  | .ag _ | .tu _ | .u => false
  | .c (.agg _) | .c (.tuple _) => false
  | _ => true

structure Ent where
  blk : Nat
  sh : Nat
  sz : Nat
  room : Nat

structure AObj where
  cells : List AV
  rw : Bool
  sz : Nat

abbrev AMap := Nat → Option Ent
abbrev AH := Nat → Option AObj

inductive VR (m : AMap) : AV → Value → Prop
  | i (k n) : VR m (.i k n) (.int k n)
  | b (x) : VR m (.b x) (.bool x)
  | p {id off e} : m id = some e → VR m (.p id off) (.pointer (some ⟨e.blk, e.sh + off, none⟩))
  | np : VR m .np (.pointer none)
  | s {id off len e A cap} : m id = some e → len ≤ cap → (cap = 0 ∨ (A = ⟨e.blk, e.sh + off, none⟩ ∧ off + cap * e.sz ≤ e.room)) →
      VR m (.s id off len) (.slice (some A) len cap)
  | ns : VR m .ns (.slice none 0 0)
  | es {A} : VR m .es (.slice (some A) 0 0)
  | ag {cs : List AV} {vs : Array Value} : cs.length = vs.size → (∀ (j : Nat) (c : AV) (v : Value), cs[j]? = some c → vs[j]? = some v → c.leaf = true) →
      (∀ (j : Nat) (c : AV) (v : Value), cs[j]? = some c → vs[j]? = some v → VR m c v) → VR m (.ag cs) (.agg vs)
  | tu {cs : List AV} {vs : Array Value} : cs.length = vs.size → (∀ (j : Nat) (c : AV) (v : Value), cs[j]? = some c → vs[j]? = some v → VR m c v) → VR m (.tu cs) (.tuple vs)
  | c (v) : VR m (.c v) v
  | u (v) : VR m .u v

def MLe (m m' : AMap) : Prop := ∀ id e, m id = some e → m' id = some e
theorem MLe.refl (m : AMap) : MLe m m := fun _ _ h => h
theorem MLe.trans {a b c : AMap} (h : MLe a b) (h' : MLe b c) : MLe a c := fun _ _ x => h' _ _ (h _ _ x)

theorem VR.mono {m m' : AMap} (hm : MLe m m') {a : AV} {v : Value} (h : VR m a v) : VR m' a v := by
  induction h with
  | i k n => exact .i k n
  | b x => exact .b x
  | p h => exact .p (hm _ _ h)
  | np => exact .np
  | s h h1 h2 => exact .s (hm _ _ h) h1 h2
  | ns => exact .ns
  | es => exact .es
  | ag hl hf _ ih => exact .ag hl hf ih
  | tu hl _ ih => exact .tu hl ih
  | c v => exact .c v
  | u v => exact .u v

def OR (m : AMap) (w : World) (e : Ent) (ob : AObj) : Prop :=
  ob.sz = e.sz ∧ ob.cells.length ≤ e.room ∧ ∃ cs t fr, w.heap[e.blk]? = some (.cells cs t fr) ∧ e.sh + e.room ≤ cs.size ∧ (ob.rw = true → fr = (0, 0)) ∧
    ∀ (j : Nat) (c : AV), ob.cells[j]? = some c → ∃ v, cs[e.sh + j]? = some v ∧ c.leaf = true ∧ VR m c v

theorem OR.mono {m m' : AMap} (hm : MLe m m') {w : World} {e : Ent} {ob : AObj} (h : OR m w e ob) : OR m' w e ob := by
  obtain ⟨h1, h2, cs, t, fr, h3, h4, h5, h6⟩ := h
  exact ⟨h1, h2, cs, t, fr, h3, h4, h5, fun j c hj => by obtain ⟨v, a, b, d⟩ := h6 j c hj; exact ⟨v, a, b, d.mono hm⟩⟩

/-- what stays outside: the streams, and blocks that nobody here writes -/
structure Out where
  os : Os
  tape : Nat → Question → Nat
  output : Array (Nat × ByteArray)
  size : Nat
  raw : Nat → Option Obj

structure Rel (m : AMap) (H : AH) (g : Out) (w : World) : Prop where
  os : w.os = g.os
  tape : w.tape = g.tape
  output : w.output = g.output
  size : g.size ≤ w.heap.size
  live : ∀ id ob, H id = some ob → ∃ e, m id = some e ∧ OR m w e ob
  sep : ∀ id ob e id' ob' e', H id = some ob → m id = some e → H id' = some ob' → m id' = some e' → ob.rw = true → id ≠ id' → e.blk ≠ e'.blk
  raw : ∀ b o, g.raw b = some o → w.heap[b]? = some o
  rawsep : ∀ id ob e, H id = some ob → m id = some e → ob.rw = true → g.raw e.blk = none
  fin : ∃ N, ∀ id, N ≤ id → m id = none

def HLe (H H' : AH) : Prop := ∀ id o, H id = some o → H' id = some o
theorem HLe.refl (H : AH) : HLe H H := fun _ _ h => h
theorem HLe.trans {a b c : AH} (h : HLe a b) (h' : HLe b c) : HLe a c := fun _ _ x => h' _ _ (h _ _ x)

structure Stp (m : AMap) (H HT : AH) (m' : AMap) (H' HT' : AH) : Prop where
  mle : MLe m m'
  sub : HLe H' HT'
  fr : ∀ id o, H id = none → HT id = some o → HT' id = some o ∧ H' id = none

theorem Stp.refl {m : AMap} {H HT : AH} (h : HLe H HT) : Stp m H HT m H HT := ⟨.refl m, h, fun _ _ a b => ⟨b, a⟩⟩
theorem Stp.trans {m m1 m2 : AMap} {H HT H1 HT1 H2 HT2 : AH} (h : Stp m H HT m1 H1 HT1) (k : Stp m1 H1 HT1 m2 H2 HT2) : Stp m H HT m2 H2 HT2 :=
  ⟨h.mle.trans k.mle, k.sub, fun id o a b => by obtain ⟨x, y⟩ := h.fr id o a b; exact k.fr id o y x⟩

def SR (n : Nat) (m : AMap) (a : Nat → AV) (ts : Array Value) : Prop := ts.size = n ∧ ∀ t v, ts[t]? = some v → VR m (a t) v

theorem SR.mono {n : Nat} {m m' : AMap} (hm : MLe m m') {a : Nat → AV} {ts : Array Value} (h : SR n m a ts) : SR n m' a ts :=
  ⟨h.1, fun t v hv => (h.2 t v hv).mono hm⟩

def put (a : Nat → AV) (d : Nat) (v : AV) : Nat → AV := fun t => bif Nat.beq t d then v else a t
def putD (a : Nat → AV) : Option Nat → AV → (Nat → AV)
  | none, _ => a
  | some d, v => put a d v

theorem SR.put {n : Nat} {m : AMap} {a : Nat → AV} {act : Act} {d : Option Nat} {x : AV} {v : Value} (h : SR n m a act.tmps) (hv : VR m x v) :
    SR n m (putD a d x) (act.put d v).tmps := by
  cases d with
  | none => exact h
  | some d =>
    refine ⟨by simp [Act.put, h.1], fun t u hu => ?_⟩
    simp only [Act.put] at hu
    by_cases e : t = d
    · subst e
      rw [Array.getElem?_setIfInBounds_self] at hu
      split at hu
      · obtain rfl := Option.some.inj hu
        simpa [putD, Go.Proofs.Ytpppkmeolknofaa.put] using hv
      · exact absurd hu (by simp)
    · rw [Array.getElem?_setIfInBounds_ne (Ne.symm e)] at hu
      have : Nat.beq t d = false := by cases hb : Nat.beq t d with | false => rfl | true => exact absurd (Nat.eq_of_beq_eq_true hb) e
      simpa [putD, Go.Proofs.Ytpppkmeolknofaa.put, this] using h.2 t u hu

/-- operands -/
inductive SV where
  | t (n : Nat)
  | k (v : AV)

def leafOf : Value → AV
  | .int k n => .i k n
  | .bool b => .b b
  | .slice none 0 0 => .ns
  | .pointer none => .np
  | v => .c v
def ofV : Value → AV
  | .agg cs => if (cs.toList.all fun v => (leafOf v).leaf) then .ag (cs.toList.map leafOf) else .c (.agg cs)
  | v => leafOf v
def ofO : Operand → Option SV
  | .tmp t => some (.t t)
  | .const v => some (.k (ofV v))
  | .func f => some (.k (.c (.func (.func f) #[] #[])))
  | .global _ => none
def evS (a : Nat → AV) : SV → AV
  | .t n => a n
  | .k v => v

theorem leafOf_rel (m : AMap) (v : Value) : VR m (leafOf v) v := by
  unfold leafOf
  split <;> constructor

theorem ofV_rel (m : AMap) (v : Value) : VR m (ofV v) v := by
  unfold ofV
  split
  · rename_i cs
    split
    · rename_i hall
      refine .ag (by simp) (fun j c v hc hv => ?_) (fun j c v hc hv => ?_)
      · have hv' : cs.toList[j]? = some v := by simpa using hv
        rw [List.getElem?_map, hv'] at hc
        obtain rfl := Option.some.inj hc
        exact (List.all_eq_true.mp hall) v (List.mem_of_getElem? hv')
      · have hv' : cs.toList[j]? = some v := by simpa using hv
        rw [List.getElem?_map, hv'] at hc
        obtain rfl := Option.some.inj hc
        exact leafOf_rel m v
    · exact .c _
  · exact leafOf_rel m v

/-- operand's value, related; the slot must be there -/
def opIn (n : Nat) : SV → Bool
  | .t t => Nat.blt t n
  | .k _ => true

theorem ev_rel {n : Nat} {m : AMap} {a : Nat → AV} {act : Act} {x : Operand} {sx : SV} (h : SR n m a act.tmps) (hx : ofO x = some sx) (hn : opIn n sx = true) :
    VR m (evS a sx) (act.eval x) := by
  cases x with
  | tmp t =>
    simp only [ofO, Option.some.injEq] at hx
    subst hx
    have hlt : t < act.tmps.size := by rw [h.1]; simpa [opIn] using hn
    have hv : act.tmps[t]? = some act.tmps[t] := by simp [hlt]
    have := h.2 t _ hv
    simpa [evS, Act.eval, Array.getD, hlt] using this
  | const v =>
    simp only [ofO, Option.some.injEq] at hx
    subst hx
    exact ofV_rel m v
  | func f =>
    simp only [ofO, Option.some.injEq] at hx
    subst hx
    exact .c _
  | global g => simp [ofO] at hx

end Go.Proofs.Ytpppkmeolknofaa
