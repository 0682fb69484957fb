/- The abstract heap: values with ids for addresses, objects, and how they stand to the machine's world. No condition. · The slim operations that neither read nor write memory, and that the machine does as they say. No condition. · The abstract heap's moves: a new object, a changed one, one that takes another's place; and how the relation to the world follows them. No condition. · The slim operations on memory, and that the machine does as they say. No condition. · Loads, stores, new variables, slices: the machine does as the abstract heap says. No condition. · make, append, copy, slicing, building: the machine does as the abstract heap says. No condition. · copy, slicing, composite values, parts of values: the machine does as the abstract heap says. No condition. · The slim operations, how they come of the machine's, and that the machine does as they say. No condition. · The slim operations are sound: the machine's operation does as the slim one says. No condition. · Each slim operation is sound. No condition. -/
import Derived.Orders
import Derived.Below
import Derived.Laws.Entries
import Derived.Laws.Unary
import Derived.Laws.Shifts
import Derived.Laws.Cover3
import Derived.Laws.Slices
import Derived.Tactics
import Derived.Laws.CopyRow
import Derived.Laws.MakeOwn
import Derived.Laws.AppendOwn
namespace Go.Proofs.Ytdkdainipanacaa
open Go Go.RowKit

inductive AV where
  | i (k : IntKind) (n : Int)
  | b (x : Bool)
  | p (id off : Nat)
  | np
  | s (id off len : Nat)
  | ns
  | es
  | ag (cs : List AV)
  | tu (vs : List AV)
  | f (id : Nat) (caps : List AV)
  | c (v : Value)
  | u

def AV.leaf : AV → Bool
  | .ag _ | .tu _ | .u => false
  | .c (.agg _) | .c (.tuple _) => false
  | _ => true

structure Ent where
  blk : Nat
  sh : Nat
  sz : Nat
  room : Nat

structure AObj where
  cells : List AV
  rw : Bool
  sz : Nat

abbrev AMap := Nat → Option Ent
abbrev AH := Nat → Option AObj

inductive VR (m : AMap) : AV → Value → Prop
  | i (k n) : VR m (.i k n) (.int k n)
  | b (x) : VR m (.b x) (.bool x)
  | p {id off e} : m id = some e → VR m (.p id off) (.pointer (some ⟨e.blk, e.sh + off, none⟩))
  | np : VR m .np (.pointer none)
  | s {id off len e A cap} : m id = some e → len ≤ cap → (cap = 0 ∨ (A = ⟨e.blk, e.sh + off, none⟩ ∧ off + cap * e.sz ≤ e.room)) →
      VR m (.s id off len) (.slice (some A) len cap)
  | ns : VR m .ns (.slice none 0 0)
  | es {A} : VR m .es (.slice (some A) 0 0)
  | ag {cs : List AV} {vs : Array Value} : cs.length = vs.size → (∀ (j : Nat) (c : AV) (v : Value), cs[j]? = some c → vs[j]? = some v → c.leaf = true) →
      (∀ (j : Nat) (c : AV) (v : Value), cs[j]? = some c → vs[j]? = some v → VR m c v) → VR m (.ag cs) (.agg vs)
  | tu {cs : List AV} {vs : Array Value} : cs.length = vs.size → (∀ (j : Nat) (c : AV) (v : Value), cs[j]? = some c → vs[j]? = some v → VR m c v) → VR m (.tu cs) (.tuple vs)
  | f {id : Nat} {cs : List AV} {vs : Array Value} : cs.length = vs.size → (∀ (j : Nat) (c : AV) (v : Value), cs[j]? = some c → vs[j]? = some v → VR m c v) → VR m (.f id cs) (.func (.func id) #[] vs)
  | c (v) : VR m (.c v) v
  | u (v) : VR m .u v

def MLe (m m' : AMap) : Prop := ∀ id e, m id = some e → m' id = some e
theorem MLe.refl (m : AMap) : MLe m m := fun _ _ h => h
theorem MLe.trans {a b c : AMap} (h : MLe a b) (h' : MLe b c) : MLe a c := fun _ _ x => h' _ _ (h _ _ x)

theorem VR.mono {m m' : AMap} (hm : MLe m m') {a : AV} {v : Value} (h : VR m a v) : VR m' a v := by
  induction h with
  | i k n => exact .i k n
  | b x => exact .b x
  | p h => exact .p (hm _ _ h)
  | np => exact .np
  | s h h1 h2 => exact .s (hm _ _ h) h1 h2
  | ns => exact .ns
  | es => exact .es
  | ag hl hf _ ih => exact .ag hl hf ih
  | tu hl _ ih => exact .tu hl ih
  | f hl _ ih => exact .f hl ih
  | c v => exact .c v
  | u v => exact .u v

def OR (m : AMap) (w : World) (e : Ent) (ob : AObj) : Prop :=
  ob.sz = e.sz ∧ ob.cells.length ≤ e.room ∧ ∃ cs t fr, w.heap[e.blk]? = some (.cells cs t fr) ∧ e.sh + e.room ≤ cs.size ∧ (ob.rw = true → fr = (0, 0)) ∧
    ∀ (j : Nat) (c : AV), ob.cells[j]? = some c → ∃ v, cs[e.sh + j]? = some v ∧ c.leaf = true ∧ VR m c v

theorem OR.mono {m m' : AMap} (hm : MLe m m') {w : World} {e : Ent} {ob : AObj} (h : OR m w e ob) : OR m' w e ob := by
  obtain ⟨h1, h2, cs, t, fr, h3, h4, h5, h6⟩ := h
  exact ⟨h1, h2, cs, t, fr, h3, h4, h5, fun j c hj => by obtain ⟨v, a, b, d⟩ := h6 j c hj; exact ⟨v, a, b, d.mono hm⟩⟩

/-- what stays outside: the streams, and blocks that nobody here writes -/
structure Out where
  os : Os
  tape : Nat → Question → Nat
  output : Array (Nat × ByteArray)
  size : Nat
  raw : Nat → Option Obj

structure Rel (m : AMap) (H : AH) (g : Out) (w : World) : Prop where
  os : w.os = g.os
  tape : w.tape = g.tape
  output : w.output = g.output
  size : g.size ≤ w.heap.size
  live : ∀ id ob, H id = some ob → ∃ e, m id = some e ∧ OR m w e ob
  sep : ∀ id ob e id' ob' e', H id = some ob → m id = some e → H id' = some ob' → m id' = some e' → ob.rw = true → id ≠ id' → e.blk ≠ e'.blk
  raw : ∀ b o, g.raw b = some o → w.heap[b]? = some o
  rawsep : ∀ id ob e, H id = some ob → m id = some e → ob.rw = true → g.raw e.blk = none
  fin : ∃ N, ∀ id, N ≤ id → m id = none

def HLe (H H' : AH) : Prop := ∀ id o, H id = some o → H' id = some o
theorem HLe.refl (H : AH) : HLe H H := fun _ _ h => h
theorem HLe.trans {a b c : AH} (h : HLe a b) (h' : HLe b c) : HLe a c := fun _ _ x => h' _ _ (h _ _ x)

structure Stp (m : AMap) (H HT : AH) (m' : AMap) (H' HT' : AH) : Prop where
  mle : MLe m m'
  sub : HLe H' HT'
  fr : ∀ id o, H id = none → HT id = some o → HT' id = some o ∧ H' id = none

theorem Stp.refl {m : AMap} {H HT : AH} (h : HLe H HT) : Stp m H HT m H HT := ⟨.refl m, h, fun _ _ a b => ⟨b, a⟩⟩
theorem Stp.trans {m m1 m2 : AMap} {H HT H1 HT1 H2 HT2 : AH} (h : Stp m H HT m1 H1 HT1) (k : Stp m1 H1 HT1 m2 H2 HT2) : Stp m H HT m2 H2 HT2 :=
  ⟨h.mle.trans k.mle, k.sub, fun id o a b => by obtain ⟨x, y⟩ := h.fr id o a b; exact k.fr id o y x⟩

def SR (n : Nat) (m : AMap) (a : Nat → AV) (ts : Array Value) : Prop := ts.size = n ∧ ∀ t v, ts[t]? = some v → VR m (a t) v

theorem SR.mono {n : Nat} {m m' : AMap} (hm : MLe m m') {a : Nat → AV} {ts : Array Value} (h : SR n m a ts) : SR n m' a ts :=
  ⟨h.1, fun t v hv => (h.2 t v hv).mono hm⟩

def put (a : Nat → AV) (d : Nat) (v : AV) : Nat → AV := fun t => bif Nat.beq t d then v else a t
def putD (a : Nat → AV) : Option Nat → AV → (Nat → AV)
  | none, _ => a
  | some d, v => put a d v

theorem SR.put {n : Nat} {m : AMap} {a : Nat → AV} {act : Act} {d : Option Nat} {x : AV} {v : Value} (h : SR n m a act.tmps) (hv : VR m x v) :
    SR n m (putD a d x) (act.put d v).tmps := by
  cases d with
  | none => exact h
  | some d =>
    refine ⟨by simp [Act.put, h.1], fun t u hu => ?_⟩
    simp only [Act.put] at hu
    by_cases e : t = d
    · subst e
      rw [Array.getElem?_setIfInBounds_self] at hu
      split at hu
      · obtain rfl := Option.some.inj hu
        simpa [putD, Go.Proofs.Ytdkdainipanacaa.put] using hv
      · exact absurd hu (by simp)
    · rw [Array.getElem?_setIfInBounds_ne (Ne.symm e)] at hu
      have : Nat.beq t d = false := by cases hb : Nat.beq t d with | false => rfl | true => exact absurd (Nat.eq_of_beq_eq_true hb) e
      simpa [putD, Go.Proofs.Ytdkdainipanacaa.put, this] using h.2 t u hu

/-- operands -/
inductive SV where
  | t (n : Nat)
  | k (v : AV)

def leafOf : Value → AV
  | .int k n => .i k n
  | .bool b => .b b
  | .slice none 0 0 => .ns
  | .pointer none => .np
  | v => .c v
def ofV : Value → AV
  | .agg cs => if (cs.toList.all fun v => (leafOf v).leaf) then .ag (cs.toList.map leafOf) else .c (.agg cs)
  | v => leafOf v
def ofO : Operand → Option SV
  | .tmp t => some (.t t)
  | .const v => some (.k (ofV v))
  | .func f => some (.k (.c (.func (.func f) #[] #[])))
  | .global _ => none
def evS (a : Nat → AV) : SV → AV
  | .t n => a n
  | .k v => v

theorem leafOf_rel (m : AMap) (v : Value) : VR m (leafOf v) v := by
  unfold leafOf
  split <;> constructor

theorem ofV_rel (m : AMap) (v : Value) : VR m (ofV v) v := by
  unfold ofV
  split
  · rename_i cs
    split
    · rename_i hall
      refine .ag (by simp) (fun j c v hc hv => ?_) (fun j c v hc hv => ?_)
      · have hv' : cs.toList[j]? = some v := by simpa using hv
        rw [List.getElem?_map, hv'] at hc
        obtain rfl := Option.some.inj hc
        exact (List.all_eq_true.mp hall) v (List.mem_of_getElem? hv')
      · have hv' : cs.toList[j]? = some v := by simpa using hv
        rw [List.getElem?_map, hv'] at hc
        obtain rfl := Option.some.inj hc
        exact leafOf_rel m v
    · exact .c _
  · exact leafOf_rel m v

/-- operand's value, related; the slot must be there -/
def opIn (n : Nat) : SV → Bool
  | .t t => Nat.blt t n
  | .k _ => true

theorem ev_rel {n : Nat} {m : AMap} {a : Nat → AV} {act : Act} {x : Operand} {sx : SV} (h : SR n m a act.tmps) (hx : ofO x = some sx) (hn : opIn n sx = true) :
    VR m (evS a sx) (act.eval x) := by
  cases x with
  | tmp t =>
    simp only [ofO, Option.some.injEq] at hx
    subst hx
    have hlt : t < act.tmps.size := by rw [h.1]; simpa [opIn] using hn
    have hv : act.tmps[t]? = some act.tmps[t] := by simp [hlt]
    have := h.2 t _ hv
    simpa [evS, Act.eval, Array.getD, hlt] using this
  | const v =>
    simp only [ofO, Option.some.injEq] at hx
    subst hx
    exact ofV_rel m v
  | func f =>
    simp only [ofO, Option.some.injEq] at hx
    subst hx
    exact .c _
  | global g => simp [ofO] at hx

end Go.Proofs.Ytdkdainipanacaa
namespace Go.Proofs.Ytdkdainipanacaa
open Go Go.RowKit
set_option linter.unusedSimpArgs false
set_option linter.unusedVariables false

def arK (k : IntKind) (n : Int) (K : AV → Prop) : Prop :=
  match k with
  | .i64 => (-9223372036854775808 ≤ n ∧ n ≤ 9223372036854775807) ∧ K (.i .i64 n)
  | .i8 => K (.i .i8 (IntKind.wrap .i8 n))
  | .i16 => K (.i .i16 (IntKind.wrap .i16 n))
  | .i32 => K (.i .i32 (IntKind.wrap .i32 n))
  | .u8 => K (.i .u8 (IntKind.wrap .u8 n))
  | .u16 => K (.i .u16 (IntKind.wrap .u16 n))
  | .u32 => K (.i .u32 (IntKind.wrap .u32 n))
  | .u64 => K (.i .u64 (IntKind.wrap .u64 n))

def abin (op : BinOp) (x y : AV) (K : AV → Prop) : Prop :=
  match x, y with
  | .i k m, .i k' n =>
    match op with
    | .shl => 0 ≤ n ∧ K (.i k (k.wrap (m * 2 ^ (min n.toNat k.bits))))
    | .shr => 0 ≤ n ∧ K (.i k (m.fdiv (2 ^ (min n.toNat k.bits))))
    | .add => k = k' ∧ arK k (m + n) K
    | .sub => k = k' ∧ arK k (m - n) K
    | .mul => k = k' ∧ arK k (m * n) K
    | .quo => k = k' ∧ n ≠ 0 ∧ arK k (m.tdiv n) K
    | .rem => k = k' ∧ n ≠ 0 ∧ K (.i k (m.tmod n))
    | .and => k = k' ∧ K (.i k (k.wrap (BitVec.ofInt k.bits m &&& BitVec.ofInt k.bits n).toNat))
    | .or => k = k' ∧ K (.i k (k.wrap (BitVec.ofInt k.bits m ||| BitVec.ofInt k.bits n).toNat))
    | .xor => k = k' ∧ K (.i k (k.wrap (BitVec.ofInt k.bits m ^^^ BitVec.ofInt k.bits n).toNat))
    | .andNot => k = k' ∧ K (.i k (k.wrap (BitVec.ofInt k.bits m &&& ~~~(BitVec.ofInt k.bits n)).toNat))
    | .eql => k = k' ∧ K (.b (decide (m = n)))
    | .neq => k = k' ∧ K (.b (decide (m ≠ n)))
    | .lss => k = k' ∧ K (.b (decide (m < n)))
    | .leq => k = k' ∧ K (.b (decide (m ≤ n)))
    | .gtr => k = k' ∧ K (.b (decide (n < m)))
    | .geq => k = k' ∧ K (.b (decide (n ≤ m)))
  | _, _ => False

theorem wrap_i64 {n : Int} (h : -9223372036854775808 ≤ n ∧ n ≤ 9223372036854775807) : IntKind.wrap .i64 n = n := by
  unfold IntKind.wrap
  simp only [IntKind.bits, IntKind.signed, Bool.true_and]
  split <;> rename_i hc <;> simp at hc <;> omega

theorem arK_wrap {k : IntKind} {n : Int} {K : AV → Prop} (h : arK k n K) : K (.i k (k.wrap n)) := by
  cases k <;> simp only [arK] at h <;> first | exact h | (rw [wrap_i64 h.1]; exact h.2)

/-- what a step does that leaves memory alone: the run gives v, which x tells -/
theorem abin_run {P : Program} {op : BinOp} {t : TypeId} {ox oy : Operand} {x y : AV} {vx vy : Value} {m : AMap} {w : World} {K : AV → Prop}
    (hx : VR m x vx) (hy : VR m y vy) (h : abin op x y K) :
    ∃ r v, (do eqGuard op t ox oy vx vy; binOp op t vx vy : Sem Value).run P w = .ok v w ∧ VR m r v ∧ K r := by
  unfold abin at h
  split at h
  · rename_i k a k' b
    cases hx
    cases hy
    split at h
    · obtain ⟨h0, hK⟩ := h
      exact ⟨_, _, by simp [eqGuard, binOp, Op.shift, show ¬ (b < 0) by omega, pure, Sem.run, bind, Sem.bind], .i _ _, hK⟩
    · obtain ⟨h0, hK⟩ := h
      exact ⟨_, _, by simp [eqGuard, binOp, Op.shift, show ¬ (b < 0) by omega, pure, Sem.run, bind, Sem.bind], .i _ _, hK⟩
    · obtain ⟨rfl, hK⟩ := h
      exact ⟨_, _, by simp [eqGuard, binOp, Op.intArith, pure, Sem.run, bind, Sem.bind], .i _ _, arK_wrap hK⟩
    · obtain ⟨rfl, hK⟩ := h
      exact ⟨_, _, by simp [eqGuard, binOp, Op.intArith, pure, Sem.run, bind, Sem.bind], .i _ _, arK_wrap hK⟩
    · obtain ⟨rfl, hK⟩ := h
      exact ⟨_, _, by simp [eqGuard, binOp, Op.intArith, pure, Sem.run, bind, Sem.bind], .i _ _, arK_wrap hK⟩
    · obtain ⟨rfl, hn, hK⟩ := h
      exact ⟨_, _, by simp [eqGuard, binOp, Op.intDiv, hn, pure, Sem.run, bind, Sem.bind], .i _ _, arK_wrap hK⟩
    · obtain ⟨rfl, hn, hK⟩ := h
      exact ⟨_, _, by simp [eqGuard, binOp, Op.intDiv, hn, pure, Sem.run, bind, Sem.bind], .i _ _, hK⟩
    · obtain ⟨rfl, hK⟩ := h
      exact ⟨_, _, by simp [eqGuard, binOp, Op.intBits, pure, Sem.run, bind, Sem.bind], .i _ _, hK⟩
    · obtain ⟨rfl, hK⟩ := h
      exact ⟨_, _, by simp [eqGuard, binOp, Op.intBits, pure, Sem.run, bind, Sem.bind], .i _ _, hK⟩
    · obtain ⟨rfl, hK⟩ := h
      exact ⟨_, _, by simp [eqGuard, binOp, Op.intBits, pure, Sem.run, bind, Sem.bind], .i _ _, hK⟩
    · obtain ⟨rfl, hK⟩ := h
      exact ⟨_, _, by simp [eqGuard, binOp, Op.intBits, pure, Sem.run, bind, Sem.bind], .i _ _, hK⟩
    · obtain ⟨rfl, hK⟩ := h
      exact ⟨_, .bool (decide (a = b)), by simp [eqGuard, binOp, Op.intCmp, pure, Sem.run, bind, Sem.bind]; rfl, .b _, hK⟩
    · obtain ⟨rfl, hK⟩ := h
      exact ⟨_, .bool (decide (a ≠ b)), by simp [eqGuard, binOp, Op.intCmp, pure, Sem.run, bind, Sem.bind]; rfl, .b _, hK⟩
    · obtain ⟨rfl, hK⟩ := h
      exact ⟨_, _, by simp [eqGuard, binOp, Op.intCmp, pure, Sem.run, bind, Sem.bind], .b _, hK⟩
    · obtain ⟨rfl, hK⟩ := h
      exact ⟨_, _, by simp [eqGuard, binOp, Op.intCmp, pure, Sem.run, bind, Sem.bind], .b _, hK⟩
    · obtain ⟨rfl, hK⟩ := h
      exact ⟨_, _, by simp [eqGuard, binOp, Op.intCmp, pure, Sem.run, bind, Sem.bind], .b _, hK⟩
    · obtain ⟨rfl, hK⟩ := h
      exact ⟨_, _, by simp [eqGuard, binOp, Op.intCmp, pure, Sem.run, bind, Sem.bind], .b _, hK⟩
  · exact h.elim

end Go.Proofs.Ytdkdainipanacaa
namespace Go.Proofs.Ytdkdainipanacaa
open Go Go.RowKit
set_option linter.unusedSimpArgs false
set_option linter.unusedVariables false

def upd {α : Type} (H : Nat → Option α) (id : Nat) (ob : α) : Nat → Option α := fun j => bif Nat.beq j id then some ob else H j
def del {α : Type} (H : Nat → Option α) (id : Nat) : Nat → Option α := fun j => bif Nat.beq j id then none else H j

theorem beq_ne {a b : Nat} (h : a ≠ b) : Nat.beq a b = false := by cases hb : Nat.beq a b with | false => rfl | true => exact absurd (Nat.eq_of_beq_eq_true hb) h
theorem beq_self (a : Nat) : Nat.beq a a = true := Nat.beq_refl a
theorem upd_same {α : Type} (H : Nat → Option α) (id : Nat) (ob : α) : upd H id ob id = some ob := by simp [upd, beq_self]
theorem upd_ne {α : Type} (H : Nat → Option α) {id j : Nat} (ob : α) (h : j ≠ id) : upd H id ob j = H j := by simp [upd, beq_ne h]
theorem del_same {α : Type} (H : Nat → Option α) (id : Nat) : del H id id = none := by simp [del, beq_self]
theorem del_ne {α : Type} (H : Nat → Option α) {id j : Nat} (h : j ≠ id) : del H id j = H j := by simp [del, beq_ne h]

theorem Rel.mono {m : AMap} {H H' : AH} {g : Out} {w : World} (h : Rel m H g w) (hl : HLe H' H) : Rel m H' g w :=
  ⟨h.os, h.tape, h.output, h.size, fun id ob hid => h.live id ob (hl _ _ hid), fun id ob e id' ob' e' a b c d => h.sep id ob e id' ob' e' (hl _ _ a) b (hl _ _ c) d, h.raw,
    fun id ob e a => h.rawsep id ob e (hl _ _ a), h.fin⟩

theorem Rel.drew {m : AMap} {H : AH} {g : Out} {w : World} (h : Rel m H g w) : Rel m H g w.drew :=
  ⟨h.os, h.tape, h.output, h.size, h.live, h.sep, h.raw, h.rawsep, h.fin⟩

theorem Rel.fresh {m : AMap} {H : AH} {g : Out} {w : World} (h : Rel m H g w) : ∃ id, m id = none ∧ H id = none := by
  obtain ⟨N, hN⟩ := h.fin
  refine ⟨N, hN N (Nat.le_refl _), ?_⟩
  cases hh : H N with
  | none => rfl
  | some ob => obtain ⟨e, he, _⟩ := h.live N ob hh; rw [hN N (Nat.le_refl _)] at he; cases he

theorem Rel.lt {m : AMap} {H : AH} {g : Out} {w : World} (h : Rel m H g w) {id : Nat} {ob : AObj} {e : Ent} (hid : H id = some ob) (he : m id = some e) : e.blk < w.heap.size := by
  obtain ⟨e', he', _, _, cs, t, fr, hb, _⟩ := h.live id ob hid
  rw [he] at he'
  obtain rfl := Option.some.inj he'
  rcases Nat.lt_or_ge e.blk w.heap.size with h | h
  · exact h
  · rw [Array.getElem?_eq_none h] at hb; cases hb

theorem Rel.raw_new {m : AMap} {H : AH} {g : Out} {w : World} (h : Rel m H g w) : g.raw w.heap.size = none := by
  cases hr : g.raw w.heap.size with
  | none => rfl
  | some o => have := h.raw _ _ hr; rw [Array.getElem?_eq_none (Nat.le_refl _)] at this; cases this

theorem mle_upd {m : AMap} {id : Nat} (h : m id = none) (e : Ent) : MLe m (upd m id e) := by
  intro j e' hj
  rw [upd_ne _ _ (fun heq => by rw [heq, h] at hj; cases hj)]
  exact hj

/-- a new object -/
theorem Rel.alloc {m : AMap} {H : AH} {g : Out} {w : World} (h : Rel m H g w) {id : Nat} (hm : m id = none) {ob : AObj} {cs : Array Value} {t : TypeId}
    (hl : ob.cells.length ≤ cs.size) (hc : ∀ (j : Nat) (c : AV), ob.cells[j]? = some c → ∃ v, cs[j]? = some v ∧ c.leaf = true ∧ VR m c v) :
    Rel (upd m id ⟨w.heap.size, 0, ob.sz, cs.size⟩) (upd H id ob) g (w.alloc (.cells cs t)) := by
  have hH : H id = none := by
    cases hh : H id with
    | none => rfl
    | some ob => obtain ⟨e, he, _⟩ := h.live id ob hh; rw [hm] at he; cases he
  have hmle := mle_upd hm (⟨w.heap.size, 0, ob.sz, cs.size⟩ : Ent)
  refine ⟨h.os, h.tape, h.output, by simp; exact Nat.le_succ_of_le h.size, ?_, ?_, ?_, ?_, ?_⟩
  · intro j oj hj
    by_cases e : j = id
    · subst e
      rw [upd_same] at hj
      obtain rfl := Option.some.inj hj
      refine ⟨_, upd_same _ _ _, rfl, hl, cs, t, (0, 0), heap_alloc_new w _, by simp, fun _ => rfl, fun k c hk => ?_⟩
      obtain ⟨v, a, b, d⟩ := hc k c hk
      exact ⟨v, by simpa using a, b, d.mono hmle⟩
    · rw [upd_ne _ _ e] at hj
      obtain ⟨ej, he, hor⟩ := h.live j oj hj
      refine ⟨ej, by rw [upd_ne _ _ e]; exact he, ?_⟩
      have hlt := h.lt hj he
      obtain ⟨a1, a2, cs', t', fr, a3, a4, a5, a6⟩ := hor.mono hmle
      exact ⟨a1, a2, cs', t', fr, by rw [heap_alloc_old w _ _ hlt]; exact a3, a4, a5, a6⟩
  · intro j oj ej k ok ek hj hej hk hek hrw hne
    by_cases e : j = id
    · subst e
      rw [upd_same] at hj hej
      obtain rfl := Option.some.inj hj
      obtain rfl := Option.some.inj hej
      rw [upd_ne _ _ (Ne.symm hne)] at hk hek
      have := h.lt hk hek
      simp only
      omega
    · rw [upd_ne _ _ e] at hj hej
      by_cases e' : k = id
      · subst e'
        rw [upd_same] at hk hek
        obtain rfl := Option.some.inj hk
        obtain rfl := Option.some.inj hek
        have := h.lt hj hej
        simp only
        omega
      · rw [upd_ne _ _ e'] at hk hek
        exact h.sep j oj ej k ok ek hj hej hk hek hrw hne
  · intro b o hb
    have := h.raw b o hb
    have hlt : b < w.heap.size := by
      rcases Nat.lt_or_ge b w.heap.size with h | h
      · exact h
      · rw [Array.getElem?_eq_none h] at this; cases this
    rw [heap_alloc_old w _ _ hlt]
    exact this
  · intro j oj ej hj hej hrw
    by_cases e : j = id
    · subst e
      rw [upd_same] at hej
      obtain rfl := Option.some.inj hej
      exact h.raw_new
    · rw [upd_ne _ _ e] at hj hej
      exact h.rawsep j oj ej hj hej hrw
  · obtain ⟨N, hN⟩ := h.fin
    refine ⟨max N (id + 1), fun j hj => ?_⟩
    rw [upd_ne _ _ (by omega)]
    exact hN j (by omega)

theorem Stp.alloc {m : AMap} {H HT : AH} {id : Nat} (hl : HLe H HT) (hm : m id = none) (hT : HT id = none) (e : Ent) (ob : AObj) :
    Stp m H HT (upd m id e) (upd H id ob) (upd HT id ob) := by
  refine ⟨mle_upd hm e, ?_, ?_⟩
  · intro j o hj
    by_cases h : j = id
    · subst h; rw [upd_same] at hj ⊢; exact hj
    · rw [upd_ne _ _ h] at hj ⊢; exact hl _ _ hj
  · intro j o h1 h2
    have h : j ≠ id := fun e => by rw [e, hT] at h2; cases h2
    exact ⟨by rw [upd_ne _ _ h]; exact h2, by rw [upd_ne _ _ h]; exact h1⟩

/-- a changed object: its block's row turns; here the block may be told anew under another id (id' = id, or a fresh one), from an offset on -/
theorem Rel.turn {m : AMap} {H : AH} {g : Out} {w : World} (h : Rel m H g w) {id id' : Nat} {ob ob' : AObj} {e e' : Ent} (hid : H id = some ob) (he : m id = some e) (hrw : ob.rw = true)
    (hn : id' = id ∧ e' = e ∨ id' ≠ id ∧ m id' = none) (hblk : e'.blk = e.blk) (hsz : ob'.sz = e'.sz) {cs cs' : Array Value} {t : TypeId}
    (hb : w.heap[e.blk]? = some (.cells cs t (0, 0))) (hsize : cs'.size = cs.size) (hroom : e'.sh + e'.room ≤ cs.size) (hl : ob'.cells.length ≤ e'.room)
    (hc : ∀ (j : Nat) (c : AV), ob'.cells[j]? = some c → ∃ v, cs'[e'.sh + j]? = some v ∧ c.leaf = true ∧ VR m c v) :
    Rel (upd m id' e') (upd (del H id) id' ob') g (w.setRow e.blk cs') := by
  have hmle : MLe m (upd m id' e') := by
    rcases hn with ⟨rfl, rfl⟩ | ⟨hne, hno⟩
    · intro j ej hj
      by_cases hji : j = id'
      · subst hji; rw [upd_same]; rw [he] at hj; exact hj
      · rw [upd_ne _ _ hji]; exact hj
    · exact mle_upd hno e'
  have hold : ∀ j oj, j ≠ id' → upd (del H id) id' ob' j = some oj → j ≠ id ∧ H j = some oj := by
    intro j oj hne hj
    rw [upd_ne _ _ hne] at hj
    by_cases hji : j = id
    · subst hji; rw [del_same] at hj; cases hj
    · rw [del_ne _ hji] at hj; exact ⟨hji, hj⟩
  have hmap : ∀ j ej, j ≠ id' → upd m id' e' j = some ej → m j = some ej := by
    intro j ej hne hj
    rw [upd_ne _ _ hne] at hj
    exact hj
  refine ⟨h.os, h.tape, h.output, by simpa using h.size, ?_, ?_, ?_, ?_, ?_⟩
  · intro j oj hj
    by_cases hji : j = id'
    · subst hji
      rw [upd_same] at hj
      obtain rfl := Option.some.inj hj
      refine ⟨e', upd_same _ _ _, hsz, hl, cs', t, (0, 0), by rw [hblk]; exact setRow_heap w _ cs _ t _ hb, by omega, fun _ => rfl, fun k c hk => ?_⟩
      obtain ⟨v, a, b, d⟩ := hc k c hk
      exact ⟨v, a, b, d.mono hmle⟩
    · obtain ⟨hji', hj'⟩ := hold j oj hji hj
      obtain ⟨ej, hej, hor⟩ := h.live j oj hj'
      refine ⟨ej, by rw [upd_ne _ _ hji]; exact hej, ?_⟩
      have hb' : ej.blk ≠ e.blk := fun q => h.sep id ob e j oj ej hid he hj' hej hrw (Ne.symm hji') q.symm
      obtain ⟨a1, a2, cs1, t1, fr1, a3, a4, a5, a6⟩ := hor.mono hmle
      exact ⟨a1, a2, cs1, t1, fr1, by rw [setRow_other w _ _ _ hb']; exact a3, a4, a5, a6⟩
  · intro j oj ej k ok ek hj hej hk hek hrj hne
    by_cases hji : j = id'
    · subst hji
      rw [upd_same] at hj hej
      obtain rfl := Option.some.inj hej
      obtain ⟨hki, hk'⟩ := hold k ok (Ne.symm hne) hk
      rw [hblk]
      exact h.sep id ob e k ok ek hid he hk' (hmap k ek (Ne.symm hne) hek) hrw (Ne.symm hki)
    · obtain ⟨hji', hj'⟩ := hold j oj hji hj
      by_cases hki : k = id'
      · subst hki
        rw [upd_same] at hk hek
        obtain rfl := Option.some.inj hek
        rw [hblk]
        exact fun q => h.sep id ob e j oj ej hid he hj' (hmap j ej hji hej) hrw (Ne.symm hji') q.symm
      · obtain ⟨hki', hk'⟩ := hold k ok hki hk
        exact h.sep j oj ej k ok ek hj' (hmap j ej hji hej) hk' (hmap k ek hki hek) hrj hne
  · intro b o hb'
    have hne : b ≠ e.blk := fun q => by have := h.rawsep id ob e hid he hrw; rw [← q, hb'] at this; cases this
    rw [setRow_other w _ _ _ hne]
    exact h.raw b o hb'
  · intro j oj ej hj hej hrj
    by_cases hji : j = id'
    · subst hji
      rw [upd_same] at hej
      obtain rfl := Option.some.inj hej
      rw [hblk]
      exact h.rawsep id ob e hid he hrw
    · obtain ⟨hji', hj'⟩ := hold j oj hji hj
      exact h.rawsep j oj ej hj' (hmap j ej hji hej) hrj
  · obtain ⟨N, hN⟩ := h.fin
    refine ⟨max N (id' + 1), fun j hj => ?_⟩
    rw [upd_ne _ _ (by omega)]
    exact hN j (by omega)

theorem Stp.turn {m : AMap} {H HT : AH} {id id' : Nat} {ob : AObj} (hl : HLe H HT) (hid : H id = some ob) {m' : AMap} (hmle : MLe m m') (hT : id' = id ∨ HT id' = none) (ob' : AObj) :
    Stp m H HT m' (upd (del H id) id' ob') (upd (del HT id) id' ob') := by
  refine ⟨hmle, ?_, ?_⟩
  · intro j o hj
    by_cases h : j = id'
    · subst h; rw [upd_same] at hj ⊢; exact hj
    · rw [upd_ne _ _ h] at hj ⊢
      by_cases hji : j = id
      · subst hji; rw [del_same] at hj; cases hj
      · rw [del_ne _ hji] at hj ⊢; exact hl _ _ hj
  · intro j o h1 h2
    have hji : j ≠ id := fun q => by rw [q, hid] at h1; cases h1
    have hji' : j ≠ id' := by
      rcases hT with rfl | hT
      · exact hji
      · exact fun q => by rw [q, hT] at h2; cases h2
    rw [upd_ne _ _ hji', upd_ne _ _ hji', del_ne _ hji, del_ne _ hji]
    exact ⟨h2, h1⟩

theorem upd_del {α : Type} (H : Nat → Option α) (id : Nat) (ob : α) : upd (del H id) id ob = upd H id ob := by
  funext j
  by_cases h : j = id
  · subst h; rw [upd_same, upd_same]
  · rw [upd_ne _ _ h, upd_ne _ _ h, del_ne _ h]

theorem leaf_oneCell {m : AMap} {c : AV} {v : Value} (h : VR m c v) (hl : c.leaf = true) : v.oneCell' = true := by
  cases h with
  | c => cases v <;> first | rfl | (simp [AV.leaf] at hl; done)
  | _ => first | rfl | (simp [AV.leaf] at hl; done)

end Go.Proofs.Ytdkdainipanacaa
namespace Go.Proofs.Ytdkdainipanacaa
open Go Go.RowKit
set_option linter.unusedSimpArgs false
set_option linter.unusedVariables false

def splice {α : Type} (l : List α) (off : Nat) (cs : List α) : List α := l.take off ++ cs ++ l.drop (off + cs.length)

theorem splice_length {α : Type} (l : List α) (off : Nat) (cs : List α) (h : off + cs.length ≤ l.length) : (splice l off cs).length = l.length := by
  simp [splice]; omega

theorem splice_get {α : Type} (l : List α) (off : Nat) (cs : List α) (h : off + cs.length ≤ l.length) (j : Nat) :
    (splice l off cs)[j]? = if off ≤ j ∧ j < off + cs.length then cs[j - off]? else l[j]? := by
  unfold splice
  by_cases h1 : j < off
  · rw [List.append_assoc, List.getElem?_append_left (by simp; omega), List.getElem?_take, if_pos h1, if_neg (by omega)]
  · by_cases h2 : j < off + cs.length
    · rw [List.append_assoc, List.getElem?_append_right (by simp; omega), List.getElem?_append_left (by simp; omega), if_pos (by omega)]
      congr 1; simp; omega
    · rw [List.getElem?_append_right (by simp; omega), List.getElem?_drop, if_neg (by omega)]
      congr 1; simp; omega

def VL (m : AMap) (cs : List AV) (vs : List Value) : Prop :=
  cs.length = vs.length ∧ ∀ (j : Nat) (c : AV) (v : Value), cs[j]? = some c → vs[j]? = some v → c.leaf = true ∧ VR m c v

theorem VL.mono {m m' : AMap} (hm : MLe m m') {cs : List AV} {vs : List Value} (h : VL m cs vs) : VL m' cs vs := ⟨h.1, fun j c v a b => ⟨(h.2 j c v a b).1, (h.2 j c v a b).2.mono hm⟩⟩
theorem VL.nil (m : AMap) : VL m [] [] := ⟨rfl, by simp⟩
theorem VL.get {m : AMap} {cs : List AV} {vs : List Value} (h : VL m cs vs) {j : Nat} {c : AV} (hc : cs[j]? = some c) : ∃ v, vs[j]? = some v ∧ c.leaf = true ∧ VR m c v := by
  have hlt : j < vs.length := by rw [← h.1]; exact (List.getElem?_eq_some_iff.mp hc).1
  have hv : vs[j]? = some vs[j] := by simp [hlt]
  exact ⟨_, hv, h.2 j c _ hc hv⟩
theorem VL.append {m : AMap} {a b : List AV} {x y : List Value} (h : VL m a x) (k : VL m b y) : VL m (a ++ b) (x ++ y) := by
  refine ⟨by simp [h.1, k.1], fun j c v hc hv => ?_⟩
  by_cases hj : j < a.length
  · rw [List.getElem?_append_left hj] at hc
    rw [List.getElem?_append_left (by rw [← h.1]; exact hj)] at hv
    exact h.2 j c v hc hv
  · rw [List.getElem?_append_right (by omega)] at hc
    rw [List.getElem?_append_right (by rw [← h.1]; omega)] at hv
    rw [h.1] at hc
    exact k.2 _ c v hc hv
theorem VL.take {m : AMap} {a : List AV} {x : List Value} (h : VL m a x) (n : Nat) : VL m (a.take n) (x.take n) := by
  refine ⟨by simp [h.1], fun j c v hc hv => ?_⟩
  rw [List.getElem?_take] at hc hv
  split at hc
  · exact h.2 j c v hc (by simpa [*] using hv)
  · cases hc
theorem VL.drop {m : AMap} {a : List AV} {x : List Value} (h : VL m a x) (n : Nat) : VL m (a.drop n) (x.drop n) := by
  refine ⟨by simp [h.1], fun j c v hc hv => ?_⟩
  rw [List.getElem?_drop] at hc hv
  exact h.2 _ c v hc hv
theorem VL.splice {m : AMap} {l cs : List AV} {x y : List Value} (h : VL m l x) (k : VL m cs y) (off : Nat) : VL m (splice l off cs) (splice x off y) := by
  unfold Go.Proofs.Ytdkdainipanacaa.splice
  rw [k.1]
  exact ((h.take off).append k).append (h.drop _)
theorem VL.ag {m : AMap} {cs : List AV} {vs : List Value} (h : VL m cs vs) : VR m (.ag cs) (.agg vs.toArray) :=
  .ag (by simpa using h.1) (fun j c v a b => (h.2 j c v a (by simpa using b)).1) (fun j c v a b => (h.2 j c v a (by simpa using b)).2)
theorem VR.ag_inv {m : AMap} {cs : List AV} {v : Value} (h : VR m (.ag cs) v) : ∃ vs : Array Value, v = .agg vs ∧ VL m cs vs.toList := by
  cases h with
  | ag hl h1 h2 => exact ⟨_, rfl, by simpa using hl, fun j c v a b => ⟨h1 j c v a (by simpa using b), h2 j c v a (by simpa using b)⟩⟩

def cellsOf : AV → Option (List AV)
  | .ag cs => some cs
  | v => if v.leaf then some [v] else none

theorem cellsOf_rel {m : AMap} {x : AV} {v : Value} {cs : List AV} (h : VR m x v) (hc : cellsOf x = some cs) : VL m cs v.cells.toList := by
  unfold cellsOf at hc
  split at hc
  · obtain rfl := Option.some.inj hc
    obtain ⟨vs, rfl, hv⟩ := h.ag_inv
    exact hv
  · split at hc
    · rename_i hl
      obtain rfl := Option.some.inj hc
      have h1 := leaf_oneCell h hl
      have : v.cells = #[v] := by cases v <;> first | rfl | (simp [Value.oneCell'] at h1)
      rw [this]
      refine ⟨rfl, fun j c u a b => ?_⟩
      cases j with
      | zero => simp at a b; subst a; subst b; exact ⟨hl, h⟩
      | succ j => simp at a
    · cases hc

/-- a part of an object: the abstract cells and the world's -/
theorem OR.part {m : AMap} {w : World} {e : Ent} {ob : AObj} (h : OR m w e ob) (off n : Nat) (hn : off + n ≤ ob.cells.length) :
    ∃ vs : List Value, VL m ((ob.cells.drop off).take n) vs ∧ vs.length = n ∧ ∀ j v, vs[j]? = some v → w.cell? ((⟨e.blk, e.sh + off, none⟩ : Addr).add j) = some v := by
  obtain ⟨h1, h2, cs, t, fr, hb, h4, h5, h6⟩ := h
  refine ⟨(cs.toList.drop (e.sh + off)).take n, ⟨?_, fun j c v hc hv => ?_⟩, ?_, fun j v hv => ?_⟩
  · simp; omega
  · rw [List.getElem?_take] at hc hv
    split at hc
    · rename_i hj
      rw [if_pos hj] at hv
      rw [List.getElem?_drop] at hc hv
      obtain ⟨v', a, b, d⟩ := h6 _ c hc
      have : v = v' := by
        have e1 : e.sh + (off + j) = e.sh + off + j := by omega
        rw [e1] at a
        rw [Array.getElem?_toList] at hv
        rw [a] at hv
        exact (Option.some.inj hv).symm
      subst this
      exact ⟨b, d⟩
    · cases hc
  · simp; omega
  · rw [List.getElem?_take] at hv
    split at hv
    · rw [List.getElem?_drop, Array.getElem?_toList] at hv
      have hadd : (⟨e.blk, e.sh + off, none⟩ : Addr).add j = ⟨e.blk, e.sh + off + j, none⟩ := by unfold Addr.add; split <;> simp_all
      rw [hadd, cell_of_row w _ _ cs t fr hb]
      exact hv
    · cases hv

theorem OR.read {m : AMap} {w : World} {e : Ent} {ob : AObj} (h : OR m w e ob) {off : Nat} {c : AV} (hc : ob.cells[off]? = some c) :
    ∃ v, w.cell? ⟨e.blk, e.sh + off, none⟩ = some v ∧ c.leaf = true ∧ VR m c v := by
  obtain ⟨h1, h2, cs, t, fr, hb, h4, h5, h6⟩ := h
  obtain ⟨v, a, b, d⟩ := h6 _ c hc
  exact ⟨v, by rw [cell_of_row w _ _ cs t fr hb]; exact a, b, d⟩

/-- what an operation does: a value or nothing, in a world that is told -/
def Ex (P : Program) (s : Sem Next) (m : AMap) (H HT : AH) (g : Out) (w : World) (K : AV → AH → Prop) : Prop :=
  ∃ x v w' m' H' HT', (s.run P w = .ok (.value v) w' ∨ (s.run P w = .ok .skip w' ∧ v = undef)) ∧ VR m' x v ∧ Stp m H HT m' H' HT' ∧ Rel m' HT' g w' ∧ K x H'

theorem Ex.same {P : Program} {s : Sem Next} {m : AMap} {H HT : AH} {g : Out} {w : World} {K : AV → AH → Prop} {x : AV} {v : Value} (hl : HLe H HT) (hR : Rel m HT g w)
    (hr : s.run P w = .ok (.value v) w) (hv : VR m x v) (hK : K x H) : Ex P s m H HT g w K :=
  ⟨x, v, w, m, H, HT, .inl hr, hv, .refl hl, hR, hK⟩

def rdc (H : AH) (id off : Nat) : Option AV := (H id).bind (·.cells[off]?)

/-- a source: how many elements, and their cells -/
def src (H : AH) (sz : Nat) : AV → Option (Nat × List AV)
  | .ns | .es => some (0, [])
  | .s id off len => (H id).bind fun ob => if off + len * sz ≤ ob.cells.length then some (len, (ob.cells.drop off).take (len * sz)) else none
  | _ => none

theorem src_rel {m : AMap} {H HT : AH} {g : Out} {w : World} (hl : HLe H HT) (hR : Rel m HT g w) {sz : Nat} {x : AV} {v : Value} {n : Nat} {cs : List AV} (hx : VR m x v) (hs : src H sz x = some (n, cs))
    : ∃ a c vs, v = .slice a n c ∧ n ≤ c ∧ VL m cs vs ∧ vs.length = n * sz ∧ (a = none → n = 0 ∧ c = 0) ∧ ∀ A, a = some A → ∀ j u, vs[j]? = some u → w.cell? (A.add j) = some u := by
  cases hx with
  | ns => simp only [src, Option.some.injEq, Prod.mk.injEq] at hs; obtain ⟨rfl, rfl⟩ := hs; exact ⟨none, 0, [], rfl, Nat.le_refl _, .nil m, by simp, by simp, by simp⟩
  | @es A => simp only [src, Option.some.injEq, Prod.mk.injEq] at hs; obtain ⟨rfl, rfl⟩ := hs; exact ⟨some A, 0, [], rfl, Nat.le_refl _, .nil m, by simp, by simp, by simp⟩
  | @s id off len e A cap hm hlen hA =>
    simp only [src] at hs
    cases ho : H id with
    | none => rw [ho] at hs; cases hs
    | some ob =>
      rw [ho] at hs
      simp only [Option.bind_some] at hs
      split at hs
      · rename_i hin
        simp only [Option.some.injEq, Prod.mk.injEq] at hs
        obtain ⟨rfl, rfl⟩ := hs
        obtain ⟨e', he', hor⟩ := hR.live id ob (hl _ _ ho)
        rw [hm] at he'
        obtain rfl := Option.some.inj he'
        obtain ⟨vs, h1, h2, h3⟩ := hor.part off (len * sz) hin
        refine ⟨some A, cap, vs, rfl, hlen, h1, h2, by simp, fun A' hA' => ?_⟩
        obtain rfl := Option.some.inj hA'
        rcases hA with h0 | ⟨rfl, _⟩
        · have : len = 0 := by omega
          subst this
          have : vs = [] := List.eq_nil_of_length_eq_zero (by simpa using h2)
          subst this
          simp
        · exact h3
      · cases hs
  | _ => simp [src] at hs

end Go.Proofs.Ytdkdainipanacaa
namespace Go.Proofs.Ytdkdainipanacaa
open Go Go.RowKit
set_option linter.unusedSimpArgs false
set_option linter.unusedVariables false

variable {P : Program} {m : AMap} {H HT : AH} {g : Out} {w : World} {K : AV → AH → Prop}

def isAggD : TypeDesc → Bool
  | .struct _ | .array _ _ => true
  | _ => false

theorem run_isAgg {t : TypeId} {d : TypeDesc} (hd : P.underlying t = some d) (w : World) : (isAgg t).run P w = .ok (isAggD d) w := by
  unfold isAgg
  rw [Sem.run_bind, run_underlying hd w]
  cases d <;> rfl

theorem run_sizeOf {t : TypeId} {i : TypeInfo} (hi : P.info? t = some i) (w : World) : (sizeOf t).run P w = .ok i.size w := by
  simp [sizeOf, typeInfo, hi]

theorem ex_ld {t : TypeId} {d : TypeDesc} (hd : P.underlying t = some d) (ha : isAggD d = false) (hl : HLe H HT) (hR : Rel m HT g w) {x : AV} {v : Value} (hx : VR m x v)
    (h : ∃ id off c, x = .p id off ∧ rdc H id off = some c ∧ K c H) : Ex P (do pure (.value (← Instr.loadAt t v))) m H HT g w K := by
  obtain ⟨id, off, c, rfl, hc, hK⟩ := h
  cases hx with
  | @p _ _ e he =>
    cases ho : H id with
    | none => rw [rdc, ho] at hc; cases hc
    | some ob =>
      rw [rdc, ho] at hc
      obtain ⟨e', he', hor⟩ := hR.live id ob (hl _ _ ho)
      rw [he] at he'
      obtain rfl := Option.some.inj he'
      obtain ⟨u, h1, h2, h3⟩ := hor.read hc
      refine Ex.same hl hR (v := u) ?_ h3 hK
      simp [Instr.loadAt, Instr.sureAddr, loadVar, run_isAgg hd, ha, load, Sem.run, h1]

theorem ex_ldn {t : TypeId} {d : TypeDesc} {i : TypeInfo} (hd : P.underlying t = some d) (ha : isAggD d = true) (hi : P.info? t = some i) (hl : HLe H HT) (hR : Rel m HT g w) {x : AV} {v : Value} (hx : VR m x v)
    (h : ∃ id off ob, x = .p id off ∧ H id = some ob ∧ off + i.size ≤ ob.cells.length ∧ K (.ag ((ob.cells.drop off).take i.size)) H) : Ex P (do pure (.value (← Instr.loadAt t v))) m H HT g w K := by
  obtain ⟨id, off, ob, rfl, ho, hin, hK⟩ := h
  cases hx with
  | @p _ _ e he =>
    obtain ⟨e', he', hor⟩ := hR.live id ob (hl _ _ ho)
    rw [he] at he'
    obtain rfl := Option.some.inj he'
    obtain ⟨vs, h1, h2, h3⟩ := hor.part off i.size hin
    refine Ex.same hl hR (v := .agg vs.toArray) ?_ h1.ag hK
    have := run_loadCells_list (P := P) w ⟨e.blk, e.sh + off, none⟩ vs h3
    rw [h2] at this
    simp [Instr.loadAt, Instr.sureAddr, loadVar, run_isAgg hd, ha, run_sizeOf hi, this]

/-- the world's row of a live object that may be written, and what it holds -/
theorem Rel.row (hR : Rel m HT g w) {id : Nat} {ob : AObj} {e : Ent} (ho : HT id = some ob) (he : m id = some e) (hrw : ob.rw = true) :
    ob.sz = e.sz ∧ ob.cells.length ≤ e.room ∧ ∃ cs t, w.heap[e.blk]? = some (.cells cs t (0, 0)) ∧ e.sh + e.room ≤ cs.size ∧
      ∀ (j : Nat) (c : AV), ob.cells[j]? = some c → ∃ v, cs[e.sh + j]? = some v ∧ c.leaf = true ∧ VR m c v := by
  obtain ⟨e', he', h1, h2, cs, t, fr, h3, h4, h5, h6⟩ := hR.live id ob ho
  rw [he] at he'
  obtain rfl := Option.some.inj he'
  have := h5 hrw
  subst this
  exact ⟨h1, h2, cs, t, h3, h4, h6⟩

theorem VL.oneCell {cs : List AV} {vs : List Value} (h : VL m cs vs) : ∀ v ∈ vs, v.oneCell' = true := by
  intro v hv
  obtain ⟨j, hj⟩ := List.getElem?_of_mem hv
  have hlt : j < cs.length := by rw [h.1]; exact (List.getElem?_eq_some_iff.mp hj).1
  obtain ⟨a, b⟩ := h.2 j cs[j] v (by simp [hlt]) hj
  exact leaf_oneCell b a

/-- writing cells into an object in place -/
theorem write_at (hl : HLe H HT) (hR : Rel m HT g w) {id : Nat} {ob : AObj} {e : Ent} (ho : H id = some ob) (he : m id = some e) (hrw : ob.rw = true) (off : Nat)
    {cs : List AV} {vs : List Value} (hv : VL m cs vs) (hin : off + cs.length ≤ ob.cells.length) :
    ∃ w', (storeCells ⟨e.blk, e.sh + off, none⟩ vs).run P w = .ok () w' ∧ Stp m H HT m (upd H id { ob with cells := splice ob.cells off cs }) (upd HT id { ob with cells := splice ob.cells off cs }) ∧
      Rel m (upd HT id { ob with cells := splice ob.cells off cs }) g w' := by
  obtain ⟨h1, h2, cur, t, hb, h4, h6⟩ := hR.row (hl _ _ ho) he hrw
  have hlen : vs.length = cs.length := hv.1.symm
  have hst := run_storeCells_at P e.blk (e.sh + off) t vs 0 cur w hb (by omega) hv.oneCell
  have hmm : upd m id e = m := by
    funext j
    by_cases hj : j = id
    · subst hj; rw [upd_same, he]
    · rw [upd_ne _ _ hj]
  refine ⟨_, hst, ?_, ?_⟩
  · rw [← upd_del H, ← upd_del HT]
    exact Stp.turn hl ho (.refl m) (.inl rfl) _
  · have key := hR.turn (id' := id) (e' := e) (ob' := { ob with cells := splice ob.cells off cs }) (hl _ _ ho) he hrw (.inl ⟨rfl, rfl⟩) rfl h1 hb
      (cs' := (cur.toList.take (e.sh + off + 0) ++ vs ++ cur.toList.drop (e.sh + off + 0 + vs.length)).toArray) (by simp; omega) h4 (by simp only; rw [splice_length _ _ _ hin]; exact h2) ?_
    · rw [hmm, upd_del] at key
      exact key
    · intro j c hc
      simp only at hc
      rw [splice_get _ _ _ hin] at hc
      have hsp := splice_get cur.toList (e.sh + off) vs (by simp; omega) (e.sh + j)
      simp only [splice] at hsp
      simp only [Nat.add_zero, List.getElem?_toArray]
      rw [hsp]
      split at hc
      · rename_i hj
        rw [if_pos (by omega)]
        obtain ⟨v, a, b, d⟩ := hv.get hc
        have e1 : e.sh + j - (e.sh + off) = j - off := by omega
        exact ⟨v, by rw [e1]; exact a, b, d⟩
      · rename_i hj
        rw [if_neg (by omega)]
        obtain ⟨v, a, b, d⟩ := h6 j c hc
        exact ⟨v, by rw [Array.getElem?_toList]; exact a, b, d⟩

theorem ex_st {t : TypeId} {i : TypeInfo} (hi : P.info? t = some i) (hl : HLe H HT) (hR : Rel m HT g w) {x y : AV} {v u : Value} (hx : VR m x v) (hy : VR m y u)
    (h : ∃ id off ob cs, x = .p id off ∧ H id = some ob ∧ ob.rw = true ∧ cellsOf y = some cs ∧ cs.length = i.size ∧ off + i.size ≤ ob.cells.length ∧
      K .u (upd H id { ob with cells := splice ob.cells off cs })) : Ex P (do Instr.storeAt t v u; pure .skip) m H HT g w K := by
  obtain ⟨id, off, ob, cs, rfl, ho, hrw, hcs, hlen, hin, hK⟩ := h
  cases hx with
  | @p _ _ e he =>
    have hv := cellsOf_rel hy hcs
    obtain ⟨w', h1, h2, h3⟩ := write_at (P := P) hl hR ho he hrw off hv (by omega)
    refine ⟨.u, undef, w', m, _, _, .inr ⟨?_, rfl⟩, .u _, h2, h3, hK⟩
    have hsz : u.cells.size = i.size := by rw [← hlen, hv.1]; simp
    simp [Instr.storeAt, Instr.sureAddr, storeVar, run_sizeOf hi, hsz, h1]

theorem ex_new (hl : HLe H HT) (hR : Rel m HT g w) {ob : AObj} {cs : Array Value} {t : TypeId} {s : Sem Next} {x : Nat → AV} {v : Value} (hlen : ob.cells.length ≤ cs.size)
    (hc : ∀ (j : Nat) (c : AV), ob.cells[j]? = some c → ∃ v, cs[j]? = some v ∧ c.leaf = true ∧ VR m c v)
    (hs : s.run P w = .ok (.value v) (w.alloc (.cells cs t))) (hv : ∀ m' id, m' id = some (⟨w.heap.size, 0, ob.sz, cs.size⟩ : Ent) → VR m' (x id) v)
    (hK : ∀ id, H id = none → K (x id) (upd H id ob)) : Ex P s m H HT g w K := by
  obtain ⟨id, hm, hT⟩ := hR.fresh
  have hH : H id = none := by
    cases hh : H id with
    | none => rfl
    | some o => rw [hl _ _ hh] at hT; cases hT
  exact ⟨x id, v, _, _, _, _, .inl hs, hv _ id (upd_same _ _ _), Stp.alloc hl hm hT _ ob, hR.alloc hm hlen hc, hK id hH⟩

theorem ex_bx {t : TypeId} (hl : HLe H HT) (hR : Rel m HT g w) {x : AV} {v : Value} (hx : VR m x v) {sz : Nat} 
    (h : ∃ cs, cellsOf x = some cs ∧ ∀ id, H id = none → K (.p id 0) (upd H id ⟨cs, true, sz⟩)) : Ex P (do pure (.value (← Instr.box t v))) m H HT g w K := by
  obtain ⟨cs, hcs, hK⟩ := h
  have hv := cellsOf_rel hx hcs
  refine ex_new hl hR (ob := ⟨cs, true, sz⟩) (cs := v.cells) (t := t) (x := fun id => .p id 0) (v := .pointer (some ⟨w.heap.size, 0, none⟩)) (by simpa using Nat.le_of_eq hv.1) (fun j c hj => ?_) ?_ (fun m' id hid => ?_) hK
  · obtain ⟨u, a, b, d⟩ := hv.get hj
    exact ⟨u, by simpa using a, b, d⟩
  · simp [Instr.box, newVar, newRow]
  · exact .p (e := ⟨w.heap.size, 0, sz, v.cells.size⟩) hid

theorem leafOf_list {zs : List Value} (h : (zs.all fun v => (leafOf v).leaf) = true) (m : AMap) : VL m (zs.map leafOf) zs := by
  refine ⟨by simp, fun j c v hc hv => ?_⟩
  rw [List.getElem?_map, hv] at hc
  obtain rfl := Option.some.inj hc
  exact ⟨(List.all_eq_true.mp h) v (List.mem_of_getElem? hv), leafOf_rel m v⟩

theorem ex_al {t : TypeId} {i : TypeInfo} {z : Value} (hi : P.info? t = some i) (hz : i.zero = some z) (hzl : (z.cells.toList.all fun v => (leafOf v).leaf) = true) (hl : HLe H HT) (hR : Rel m HT g w) {sz : Nat}
    (hK : ∀ id, H id = none → K (.p id 0) (upd H id ⟨z.cells.toList.map leafOf, true, sz⟩)) : Ex P (do pure (.value (← Instr.alloc t true (.tuple #[])))) m H HT g w K := by
  have hv := leafOf_list hzl m
  refine ex_new hl hR (ob := ⟨z.cells.toList.map leafOf, true, sz⟩) (cs := z.cells) (t := t) (x := fun id => .p id 0) (v := .pointer (some ⟨w.heap.size, 0, none⟩)) (by simp) (fun j c hj => ?_) ?_ (fun m' id hid => ?_) hK
  · obtain ⟨u, a, b, d⟩ := hv.get hj
    exact ⟨u, by simpa using a, b, d⟩
  · simp [Instr.alloc, zeroValue, typeInfo, hi, hz, newVar, newRow]
  · exact .p (e := ⟨w.heap.size, 0, sz, z.cells.size⟩) hid

theorem ex_ix {t e : TypeId} {i : TypeInfo} (ht : P.underlying t = some (.slice e)) (hi : P.info? e = some i) (hl : HLe H HT) (hR : Rel m HT g w) {x y : AV} {v u : Value} (hx : VR m x v) (hy : VR m y u)
    (h : ∃ id off len k n, x = .s id off len ∧ y = .i k n ∧ 0 ≤ n ∧ n < (len : Int) ∧ K (.p id (off + n.toNat * i.size)) H) : Ex P (do pure (.value (← Instr.indexAt t v u))) m H HT g w K := by
  obtain ⟨id, off, len, k, n, rfl, rfl, h0, h1, hK⟩ := h
  cases hy
  cases hx with
  | @s _ _ _ e A cap he hc hA =>
    have hA' : A = ⟨e.blk, e.sh + off, none⟩ := by
      rcases hA with h | h
      · omega
      · exact h.1
    subst hA'
    refine Ex.same hl hR (v := .pointer (some ⟨e.blk, e.sh + (off + n.toNat * i.size), none⟩)) ?_ (.p he) hK
    simp [Instr.indexAt, asIntOf, run_underlying ht, h0, h1, run_sizeOf hi, Addr.add_lit, Nat.add_assoc]

theorem ex_fd {t : TypeId} {fs : Array Field} {f : Nat} {fd : Field} {i : TypeInfo} (ht : P.underlying t = some (.struct fs)) (hf : fs[f]? = some fd) (hi : P.info? fd.type = some i) (hs : i.size ≠ 0) (hl : HLe H HT) (hR : Rel m HT g w) {x : AV} {v : Value} (hx : VR m x v)
    (h : ∃ id off, x = .p id off ∧ K (.p id (off + fd.offset)) H) : Ex P (do pure (.value (← Instr.fieldAt t v f))) m H HT g w K := by
  obtain ⟨id, off, rfl, hK⟩ := h
  cases hx with
  | @p _ _ e he =>
    refine Ex.same hl hR (v := .pointer (some ⟨e.blk, e.sh + (off + fd.offset), none⟩)) ?_ (.p he) hK
    simp [Instr.fieldAt, Instr.sureAddr, run_underlying ht, hf, fieldPlace, run_sizeOf hi, hs, Addr.add_lit, Nat.add_assoc]

def optI (a : Nat → AV) : Option SV → Option Int → Prop
  | none, none => True
  | some x, some n => ∃ k, evS a x = .i k n
  | _, _ => False

end Go.Proofs.Ytdkdainipanacaa
namespace Go.Proofs.Ytdkdainipanacaa
open Go Go.RowKit
set_option linter.unusedSimpArgs false
set_option linter.unusedVariables false

variable {P : Program} {m : AMap} {H HT : AH} {g : Out} {w : World} {K : AV → AH → Prop}

theorem madeCells_one {z : Value} {n j : Nat} (h : j < n) : (madeCells #[z] n)[j]? = some z := by
  simp [madeCells, h, Nat.mod_one]

theorem ex_mk {t e : TypeId} {i : TypeInfo} {z : Value} (ht : P.underlying t = some (.slice e)) (hi : P.info? e = some i) (hz : i.zero = some z) (hs : i.size = 1) (hzc : z.cells = #[z]) (hzl : (leafOf z).leaf = true)
    (hl : HLe H HT) (hR : Rel m HT g w) {x y : AV} {v u : Value} (hx : VR m x v) (hy : VR m y u)
    (h : ∃ k k' l c, x = .i k l ∧ y = .i k' c ∧ 0 ≤ l ∧ l ≤ c ∧ (i.bytes : Int) * c ≤ 281474976710656 ∧ c ≤ 9223372036854775807 ∧
      ∀ id, H id = none → K (.s id 0 l.toNat) (upd H id ⟨List.replicate l.toNat (leafOf z), true, 1⟩)) : Ex P (do pure (.value (← Instr.makeSlice t v u))) m H HT g w K := by
  obtain ⟨k, k', l, c, rfl, rfl, h0, hlc, hb, h63, hK⟩ := h
  cases hx
  cases hy
  have hrun := run_make w t e i z ht hi hz k k' l c h0 hlc hb h63
  refine ex_new hl hR (ob := ⟨List.replicate l.toNat (leafOf z), true, 1⟩) (cs := madeCells z.cells (c.toNat * i.size)) (t := e) (x := fun id => .s id 0 l.toNat)
    (v := .slice (some ⟨w.heap.size, 0, none⟩) l.toNat c.toNat) (by simp [madeCells, hs]; omega) (fun j d hj => ?_) ?_ (fun m' id hid => ?_) hK
  · rw [List.getElem?_replicate] at hj
    split at hj
    · obtain rfl := Option.some.inj hj
      exact ⟨z, by rw [hzc, hs, Nat.mul_one]; exact madeCells_one (by omega), hzl, leafOf_rel m z⟩
    · cases hj
  · simp [hrun]
  · refine .s (e := ⟨w.heap.size, 0, 1, (madeCells z.cells (c.toNat * i.size)).size⟩) hid (by omega) (.inr ⟨by simp, ?_⟩)
    simp [madeCells, hs]

theorem run_append_zero (t ty e : TypeId) (i : TypeInfo) (ht : P.underlying t = some (.slice e)) (hi : P.info? e = some i) (a b : Option Addr) (n c c' : Nat) (hn : n ≤ c) (w : World) :
    (Builtin.append_ #[t, t] ty #[.slice a n c, .slice b 0 c']).run P w = .ok (.slice a n c) w := by
  have hf : ∀ b, (Builtin.firstCells i.size 0 (.slice b 0 c')).run P w = .ok #[] w := by
    intro b
    cases b with
    | none => simp [Builtin.firstCells]
    | some b => simp [Builtin.firstCells, loadCells, loadCellsFrom]
  cases a with
  | none => simp [Builtin.append_, run_underlying ht, run_sizeOf hi, Builtin.lenOf, hn, hf]
  | some a => simp [Builtin.append_, run_underlying ht, run_sizeOf hi, Builtin.lenOf, hn, hf, storeCells]

theorem run_append_room' (t ty e : TypeId) (i : TypeInfo) (ht : P.underlying t = some (.slice e)) (hi : P.info? e = some i) (b : Addr) (n c : Nat) (A : Addr) (k c' : Nat) (news : List Value)
    (hl : news.length = k * i.size) (hnews : ∀ j u, news[j]? = some u → w.cell? (A.add j) = some u) (hroom : n + k ≤ c) {w' : World}
    (hst : (storeCells (b.add (n * i.size)) news).run P w = .ok () w') :
    (Builtin.append_ #[t, t] ty #[.slice (some b) n c, .slice (some A) k c']).run P w = .ok (.slice (some b) (n + k) c) w' := by
  have hf := run_firstCells_some (P := P) w i.size k A k c' news hl hnews
  simp [Builtin.append_, run_underlying ht, run_sizeOf hi, Builtin.lenOf, hroom, hf, hst]

theorem run_v {X : Sem Value} {v : Value} {w w' : World} (h : X.run P w = .ok v w') : (do pure (.value (← X)) : Sem Next).run P w = .ok (.value v) w' := by
  simp only [Sem.run_bind, h]
  rfl

/-- a fresh object for what append makes -/
theorem ex_grown (hl : HLe H HT) (hR : Rel m HT g w) {cs : List AV} {vs : List Value} (hv : VL m cs vs) {sz n cap : Nat} (hn : cs.length = n * sz) (hcap : n ≤ cap) {z : Array Value} (hz : z.size = sz) {t : TypeId} {s : Sem Next} {arr : Array Value} (harr : arr = vs.toArray)
    (hs : s.run P w = .ok (.value (.slice (some ⟨w.heap.size, 0, none⟩) n cap)) (w.drew.alloc (.cells (arr ++ Builtin.zeroCells z (cap - n)) t)))
    (hK : ∀ id, m id = none → H id = none → K (.s id 0 n) (upd H id ⟨cs, true, sz⟩)) : Ex P s m H HT g w K := by
  subst harr
  have hd := hR.drew
  obtain ⟨id, hm, hT⟩ := hd.fresh
  have hH : H id = none := by
    cases hh : H id with
    | none => rfl
    | some o => rw [hl _ _ hh] at hT; cases hT
  have hal := hd.alloc hm (ob := ⟨cs, true, sz⟩) (cs := vs.toArray ++ Builtin.zeroCells z (cap - n)) (t := t) (by simp; have := hv.1; omega) (fun j c hj => by
    obtain ⟨v, a, b, d⟩ := hv.get hj
    refine ⟨v, ?_, b, d⟩
    rw [Array.getElem?_append_left (by simpa using (List.getElem?_eq_some_iff.mp a).1)]
    simpa using a)
  refine ⟨.s id 0 n, _, _, _, _, _, .inl hs, ?_, Stp.alloc hl hm hT _ ⟨cs, true, sz⟩, hal, hK id hm hH⟩
  refine .s (upd_same _ _ _) hcap (.inr ⟨by simp, ?_⟩)
  simp only [Array.size_append, List.size_toArray, size_zeroCells, hz]
  have := hv.1
  rw [← this, hn, ← Nat.add_mul]
  rw [show n + (cap - n) = cap by omega]
  simp

theorem Ex.after {s : Sem Next} {H1 HT1 : AH} (hst : Stp m H HT m H1 HT1) (h : Ex P s m H1 HT1 g w K) : Ex P s m H HT g w K := by
  obtain ⟨x, v, w', m', H', HT', a, b, c, d, e⟩ := h
  exact ⟨x, v, w', m', H', HT', a, b, hst.trans c, d, e⟩

theorem Stp.drop (hl : HLe H HT) (id : Nat) {ob : AObj} (ho : H id = some ob) : Stp m H HT m (del H id) (del HT id) := by
  refine ⟨.refl m, ?_, ?_⟩
  · intro j o hj
    by_cases q : j = id
    · subst q; rw [del_same] at hj; cases hj
    · rw [del_ne _ q] at hj ⊢; exact hl _ _ hj
  · intro j o h1 h2
    have q : j ≠ id := fun q => by rw [q, ho] at h1; cases h1
    rw [del_ne _ q, del_ne _ q]
    exact ⟨h2, h1⟩

theorem HLe.del (H : AH) (id : Nat) : HLe (del H id) H := by
  intro j o hj
  by_cases q : j = id
  · subst q; rw [del_same] at hj; cases hj
  · rw [del_ne _ q] at hj; exact hj

theorem ex_ap {t ty e : TypeId} {i : TypeInfo} {z : Value} (ht : P.underlying t = some (.slice e)) (hi : P.info? e = some i) (hz : i.zero = some z) (hzs : z.cells.size = i.size) (hs0 : 0 < i.size)
    (hl : HLe H HT) (hR : Rel m HT g w) {x y : AV} {v u : Value} (hx : VR m x v) (hy : VR m y u)
    (h : ∃ k news, src H i.size y = some (k, news) ∧
      ((x = .ns ∨ x = .es) ∧ (k = 0 → K x H) ∧ (0 < k → k * i.bytes ≤ 140737488355328 ∧ k ≤ maxLen ∧ ∀ id, H id = none → K (.s id 0 k) (upd H id ⟨news, true, i.size⟩)) ∨
       ∃ id off len ob, x = .s id off len ∧ H id = some ob ∧ ob.rw = true ∧ ob.sz = i.size ∧ off + len * i.size ≤ ob.cells.length ∧ (len + k) * i.bytes ≤ 140737488355328 ∧ len + k ≤ maxLen ∧
         ∀ id', H id' = none → K (.s id' 0 (len + k)) (upd (del H id) id' ⟨(ob.cells.drop off).take (len * i.size) ++ news, true, i.size⟩))) :
    Ex P (do pure (.value (← Builtin.append_ #[t, t] ty #[v, u]))) m H HT g w K := by
  obtain ⟨k, news, hsrc, h⟩ := h
  obtain ⟨A, c', vs, rfl, hkc, hvl, hvlen, hnone, hcells⟩ := src_rel hl hR hy hsrc
  rcases h with ⟨hx', h0, hpos⟩ | ⟨id, off, len, ob, rfl, ho, hrw, hsz, hin, hby, hml, hK⟩
  · rcases Nat.eq_zero_or_pos k with hk | hk
    · subst hk
      rcases hx' with rfl | rfl
      · cases hx
        exact Ex.same hl hR (run_v (run_append_zero t ty e i ht hi none A 0 0 c' (Nat.le_refl _) w)) .ns (h0 rfl)
      · cases hx with
        | @es B => exact Ex.same hl hR (run_v (run_append_zero t ty e i ht hi (some B) A 0 0 c' (Nat.le_refl _) w)) .es (h0 rfl)
    · obtain ⟨hby, hml, hK⟩ := hpos hk
      cases A with
      | none => have := (hnone rfl).1; omega
      | some A =>
        have hml' : k ≤ 9223372036854775807 := by simp only [maxLen] at hml; omega
        have hby' : k * i.bytes ≤ 140737488355328 := hby
        have hnl : news.length = k * i.size := by rw [hvl.1, hvlen]
        rcases hx' with rfl | rfl
        · cases hx
          have hr := run_append_nil (P := P) w t ty e i z ht hi hz A k c' vs hvlen (hcells A rfl) hk (by omega) (by omega)
          exact ex_grown hl hR hvl hnl (grownCap_ge w k 0 e) hzs rfl (run_v hr) (fun id _ => hK id)
        · cases hx with
          | @es B =>
            have hr := run_append_grow (P := P) w t ty e i z ht hi hz B 0 0 [] (by simp) (by simp) A k c' vs hvlen (hcells A rfl) (by omega) (by omega) (growslice_fits (by omega) (by rw [Nat.zero_add]; omega))
            rw [Nat.zero_add] at hr
            exact ex_grown hl hR hvl hnl (grownCap_ge w k 0 e) hzs (by simp) (run_v hr) (fun id _ => hK id)
  · cases hx with
    | @s _ _ _ ee B cap he hlen hB =>
      obtain ⟨e1, e2, cs, tt, hb, hrm, hcs⟩ := hR.row (hl _ _ ho) he hrw
      obtain ⟨old, hold, holdlen, holdc⟩ := (show OR m w ee ob from by obtain ⟨e', he', hor⟩ := hR.live id ob (hl _ _ ho); rw [he] at he'; obtain rfl := Option.some.inj he'; exact hor).part off (len * i.size) hin
      have hnl : news.length = k * i.size := by rw [hvl.1, hvlen]
      have hall := hold.append hvl
      have hcl : ((ob.cells.drop off).take (len * i.size) ++ news).length = (len + k) * i.size := by rw [List.length_append, hnl, hold.1, holdlen, Nat.add_mul]
      have hml' : len + k ≤ 9223372036854775807 := by simp only [maxLen] at hml; omega
      have hby' : (len + k) * i.bytes ≤ 140737488355328 := hby
      by_cases hroom : len + k ≤ cap
      · -- in place
        obtain ⟨id', hm', hT'⟩ := hR.fresh
        have hH' : H id' = none := by
          cases hh : H id' with
          | none => rfl
          | some o => rw [hl _ _ hh] at hT'; cases hT'
        have hne : id' ≠ id := fun q => by rw [q, ho] at hH'; cases hH'
        have hstp := Stp.turn (m := m) hl ho (m' := upd m id' ⟨ee.blk, ee.sh + off, ee.sz, ee.room - off⟩) (mle_upd hm' _) (.inr hT') ⟨(ob.cells.drop off).take (len * i.size) ++ news, true, i.size⟩
        have hsplit : k = 0 ∨ 0 < k := Nat.eq_zero_or_pos k
        have hoffr : off ≤ ee.room := by omega
        rcases hsplit with hk | hk
        · subst hk
          have hnews : news = [] := List.eq_nil_of_length_eq_zero (by simpa using hnl)
          subst hnews
          have hrun := run_append_zero t ty e i ht hi (some B) A len cap c' hlen w
          have hrel := hR.turn (id' := id') (e' := ⟨ee.blk, ee.sh + off, ee.sz, ee.room - off⟩) (ob' := ⟨(ob.cells.drop off).take (len * i.size) ++ [], true, i.size⟩) (hl _ _ ho) he hrw (.inr ⟨hne, hm'⟩) rfl
            (by simp only; rw [← hsz, e1]) hb (cs' := cs) rfl (by simp only; omega) (by simp only [List.append_nil, List.length_take, List.length_drop]; omega) (fun j d hj => by
              simp only [List.append_nil] at hj
              rw [List.getElem?_take] at hj
              split at hj
              · rw [List.getElem?_drop] at hj
                obtain ⟨q, a1, a2, a3⟩ := hcs _ d hj
                exact ⟨q, by rw [← a1]; congr 1; simp only; omega, a2, a3⟩
              · cases hj)
          rw [setRow_self w ee.blk cs tt (0, 0) hb] at hrel
          refine ⟨.s id' 0 (len + 0), .slice (some B) len cap, w, _, _, _, .inl (run_v hrun), ?_, hstp, hrel, hK id' hH'⟩
          refine .s (upd_same _ _ _) (by omega) ?_
          rcases hB with h0 | ⟨rfl, hr2⟩
          · exact .inl h0
          · exact .inr ⟨by simp, by simp only; omega⟩
        · cases A with
          | none => have := (hnone rfl).1; omega
          | some A =>
            have hcap : cap ≠ 0 := by omega
            obtain ⟨rfl, hr2⟩ := hB.resolve_left hcap
            have hfit : ee.sh + off + len * i.size + 0 + vs.length ≤ cs.size := by
              rw [hvlen]
              have h1 : (len + k) * i.size ≤ cap * i.size := Nat.mul_le_mul_right _ hroom
              rw [Nat.add_mul] at h1
              have h2 : ee.sz = i.size := by rw [← hsz, e1]
              rw [h2] at hr2
              omega
            have hst := run_storeCells_at P ee.blk (ee.sh + off + len * i.size) tt vs 0 cs w hb hfit hvl.oneCell
            have hrun := run_append_room' (P := P) (w := w) t ty e i ht hi ⟨ee.blk, ee.sh + off, none⟩ len cap A k c' vs hvlen (hcells A rfl) hroom (by rw [Addr.add_lit]; exact hst)
            have hsz2 : ee.sz = i.size := by rw [← hsz, e1]
            have hrm2 : (len + k) * i.size + off ≤ ee.room := by
              have h1 : (len + k) * i.size ≤ cap * i.size := Nat.mul_le_mul_right _ hroom
              rw [hsz2] at hr2
              omega
            have hrel := hR.turn (id' := id') (e' := ⟨ee.blk, ee.sh + off, ee.sz, ee.room - off⟩) (ob' := ⟨(ob.cells.drop off).take (len * i.size) ++ news, true, i.size⟩) (hl _ _ ho) he hrw (.inr ⟨hne, hm'⟩) rfl
              (by simp only; rw [← hsz, e1]) hb (cs' := (cs.toList.take (ee.sh + off + len * i.size + 0) ++ vs ++ cs.toList.drop (ee.sh + off + len * i.size + 0 + vs.length)).toArray)
              (by simp; omega) (by simp only; omega) (by simp only [hcl]; omega) (fun j d hj => by
                simp only at hj
                have hsp := splice_get cs.toList (ee.sh + off + len * i.size) vs (by simp; omega) (ee.sh + off + j)
                simp only [splice] at hsp
                simp only [Nat.add_zero, List.getElem?_toArray]
                rw [hsp]
                have hfl : ((ob.cells.drop off).take (len * i.size)).length = len * i.size := by rw [hold.1, holdlen]
                by_cases hj2 : j < len * i.size
                · rw [List.getElem?_append_left (by rw [hfl]; exact hj2), List.getElem?_take, if_pos hj2, List.getElem?_drop] at hj
                  rw [if_neg (by omega)]
                  obtain ⟨q, a1, a2, a3⟩ := hcs _ d hj
                  exact ⟨q, by rw [Array.getElem?_toList, ← a1]; congr 1; omega, a2, a3⟩
                · rw [List.getElem?_append_right (by rw [hfl]; omega), hfl] at hj
                  obtain ⟨q, a1, a2, a3⟩ := hvl.get hj
                  have hlt := (List.getElem?_eq_some_iff.mp a1).1
                  rw [if_pos (by omega)]
                  exact ⟨q, by rw [← a1]; congr 1; omega, a2, a3⟩)
            refine ⟨.s id' 0 (len + k), _, _, _, _, _, .inl (run_v hrun), ?_, hstp, hrel, hK id' hH'⟩
            refine .s (upd_same _ _ _) hroom (.inr ⟨by simp, by simp only; omega⟩)
      · -- a new row
        cases A with
        | none => have := (hnone rfl).1; omega
        | some A =>
          have hholdB : ∀ j q, old[j]? = some q → w.cell? (B.add j) = some q := by
            rcases hB with h0 | ⟨rfl, _⟩
            · have : len = 0 := by omega
              subst this
              have : old = [] := List.eq_nil_of_length_eq_zero (by simpa using holdlen)
              subst this
              simp
            · exact holdc
          have hr := run_append_grow (P := P) w t ty e i z ht hi hz B len cap old holdlen hholdB A k c' vs hvlen (hcells A rfl) (by omega) (by omega) (growslice_fits (by omega) (by omega))
          have hst := Stp.drop (m := m) hl id ho
          refine Ex.after hst ?_
          refine ex_grown (H := del H id) (HT := del HT id) hst.sub (hR.mono (HLe.del HT id)) hall hcl (grownCap_ge w (len + k) cap e) hzs (by simp) (run_v hr) (fun id' hm' hH' => ?_)
          have hne : id' ≠ id := fun q => by rw [q, he] at hm'; cases hm'
          rw [del_ne _ hne] at hH'
          exact hK id' hH'

end Go.Proofs.Ytdkdainipanacaa
namespace Go.Proofs.Ytdkdainipanacaa
open Go Go.RowKit
set_option linter.unusedSimpArgs false
set_option linter.unusedVariables false

variable {P : Program} {m : AMap} {H HT : AH} {g : Out} {w : World} {K : AV → AH → Prop}

theorem upd_self {α : Type} {H : Nat → Option α} {id : Nat} {ob : α} (h : H id = some ob) : upd H id ob = H := by
  funext j
  by_cases q : j = id
  · subst q; rw [upd_same, h]
  · rw [upd_ne _ _ q]

theorem splice_nil {α : Type} (l : List α) (off : Nat) : splice l off [] = l := by simp [splice]

theorem ex_cp {t t' ty e : TypeId} {i : TypeInfo} (ht : P.underlying t = some (.slice e)) (hi : P.info? e = some i) (hs : i.size = 1)
    (hl : HLe H HT) (hR : Rel m HT g w) {x y : AV} {v u : Value} (hx : VR m x v) (hy : VR m y u)
    (h : ∃ id off len ob k news, x = .s id off len ∧ H id = some ob ∧ ob.rw = true ∧ ob.sz = 1 ∧ off + len ≤ ob.cells.length ∧ src H 1 y = some (k, news) ∧
      K (.i .i64 (Nat.min k len)) (upd H id { ob with cells := splice ob.cells off (news.take (Nat.min k len)) })) : Ex P (do pure (.value (← Builtin.copy_ #[t, t'] ty #[v, u]))) m H HT g w K := by
  obtain ⟨id, off, len, ob, k, news, rfl, ho, hrw, hsz, hin, hsrc, hK⟩ := h
  obtain ⟨A, c', vs, rfl, hkc, hvl, hvlen, hnone, hcells⟩ := src_rel hl hR hy hsrc
  cases hx with
  | @s _ _ _ ee B cap he hlen hB =>
    have hnl : news.length = k := by rw [hvl.1, hvlen, Nat.mul_one]
    by_cases hz : Nat.min k len = 0
    · rw [hz, List.take_zero, splice_nil, upd_self ho] at hK
      refine Ex.same hl hR (x := .i .i64 ((0 : Nat) : Int)) (v := goInt 0) (run_v ?_) (.i _ _) hK
      have hf : (Builtin.firstCells 1 0 (.slice A k c')).run P w = .ok #[] w := by
        cases A with
        | none => simp [Builtin.firstCells]
        | some b => simp [Builtin.firstCells, loadCells, loadCellsFrom]
      simp [Builtin.copy_, run_underlying ht, Builtin.lenOf, hz, run_sizeOf hi, hs, hf, storeCells]
    · have hpos : 0 < Nat.min k len := Nat.pos_of_ne_zero hz
      have hk : 0 < k := Nat.lt_of_lt_of_le hpos (Nat.min_le_left _ _)
      have hln : 0 < len := Nat.lt_of_lt_of_le hpos (Nat.min_le_right _ _)
      obtain ⟨rfl, hr2⟩ := hB.resolve_left (by omega)
      cases A with
      | none => have := (hnone rfl).1; omega
      | some A =>
        have hml : Nat.min k len ≤ k := Nat.min_le_left _ _
        have hml' : Nat.min k len ≤ len := Nat.min_le_right _ _
        have hv := hvl.take (Nat.min k len)
        have htl : (news.take (Nat.min k len)).length = Nat.min k len := by rw [List.length_take, hnl]; exact Nat.min_eq_left hml
        obtain ⟨w', h1, h2, h3⟩ := write_at (P := P) hl hR ho he hrw off hv (by omega)
        have hld := run_firstCells_some (P := P) w 1 (Nat.min k len) A k c' (vs.take (Nat.min k len)) (by rw [← hv.1, htl, Nat.mul_one]) (fun j q hq => hcells A rfl j q (by rw [List.getElem?_take] at hq; split at hq <;> first | exact hq | cases hq))
        refine ⟨_, _, w', m, _, _, .inl (run_v ?_), .i .i64 (Nat.min k len : Nat), h2, h3, hK⟩
        simp [Builtin.copy_, run_underlying ht, Builtin.lenOf, run_sizeOf hi, hs, hld, h1, goInt]

def bnd : Option AV → Int → Int → Prop
  | none, d, r => r = d
  | some x, _, r => ∃ k, x = .i k r

def VO (m : AMap) : Option AV → Option Value → Prop
  | none, none => True
  | some x, some v => VR m x v
  | _, _ => False

theorem bnd_some {x : Option AV} {v : Option Value} (h : VO m x v) {d r : Int} (hb : bnd x d r) : (x = none ∧ v = none ∧ r = d) ∨ ∃ k, v = some (.int k r) ∧ x.isSome = true := by
  cases x with
  | none => cases v with
    | none => exact .inl ⟨rfl, rfl, hb⟩
    | some v => exact h.elim
  | some x => cases v with
    | none => exact h.elim
    | some v => obtain ⟨k, rfl⟩ := hb; cases h; exact .inr ⟨k, rfl, rfl⟩

theorem ex_sl {t e : TypeId} {i : TypeInfo} (ht : P.underlying t = some (.slice e)) (hi : P.info? e = some i) (hl : HLe H HT) (hR : Rel m HT g w) {x : AV} {v : Value} {lo hi' : Option AV} {vlo vhi : Option Value}
    (hx : VR m x v) (hlo : VO m lo vlo) (hhi : VO m hi' vhi)
    (h : ∃ id off len l r ob, x = .s id off len ∧ H id = some ob ∧ ob.sz = i.size ∧ bnd lo 0 l ∧ bnd hi' len r ∧ 0 ≤ l ∧ l ≤ r ∧ r ≤ (len : Int) ∧ K (.s id (off + l.toNat * i.size) (r.toNat - l.toNat)) H) :
    Ex P (do pure (.value (← Instr.sliceAt t v vlo vhi none))) m H HT g w K := by
  obtain ⟨id, off, len, l, r, ob, rfl, ho, hsz, bl, br, h0, hlr, hrl, hK⟩ := h
  cases hx with
  | @s _ _ _ ee A cap he hc hA =>
    have hb : (Instr.sliceBounds true len cap vlo vhi none).run P w = .ok (l.toNat, r.toNat, cap) w := by
      have er : (r.toNat : Int) = r := Int.toNat_of_nonneg (by omega)
      have hrc : r ≤ (cap : Int) := by omega
      rcases bnd_some hlo bl with ⟨_, rfl, rfl⟩ | ⟨k, rfl, _⟩ <;> rcases bnd_some hhi br with ⟨_, rfl, rfl⟩ | ⟨k', rfl, _⟩
      · simp [Instr.sliceBounds]
      · simp [Instr.sliceBounds, run_sliceBound, show (0 : Int) ≤ r by omega, hrc]
      · simp [Instr.sliceBounds, run_sliceBound, h0, hlr]
      · simp [Instr.sliceBounds, run_sliceBound, h0, hlr, show (0 : Int) ≤ r by omega, hrc, er]
    have hrun : (Instr.slice t (.slice (some A) len cap) vlo vhi none).run P w = .ok (.slice (if cap = l.toNat then some A else (some A).map (·.add (l.toNat * i.size))) (r.toNat - l.toNat) (cap - l.toNat)) w := by
      simp only [Instr.slice, Sem.run_bind, run_underlying ht, Result.andThen_ok, hb, run_sizeOf hi]
      rfl
    have hat : (Instr.sliceAt t (.slice (some A) len cap) vlo vhi none).run P w = (Instr.slice t (.slice (some A) len cap) vlo vhi none).run P w := by
      simp [Instr.sliceAt, run_underlying ht]
    refine Ex.same hl hR (run_v (hat.trans hrun)) ?_ hK
    by_cases hcl : cap = l.toNat
    · rw [if_pos hcl]
      exact .s he (by omega) (.inl (by omega))
    · rw [if_neg hcl]
      refine .s he (by omega) (.inr ?_)
      obtain ⟨rfl, hr2⟩ := hA.resolve_left (by omega)
      refine ⟨by show Addr.add _ _ = _; rw [Addr.add_lit, Nat.add_assoc], ?_⟩
      have hsz2 : ee.sz = i.size := by
        obtain ⟨e', he', hor⟩ := hR.live id ob (hl _ _ ho)
        rw [he] at he'
        obtain rfl := Option.some.inj he'
        rw [← hsz, hor.1]
      rw [hsz2] at hr2 ⊢
      have h1 : l.toNat * i.size + (cap - l.toNat) * i.size = cap * i.size := by rw [← Nat.add_mul]; congr 1; omega
      omega


theorem ex_sln {t e : TypeId} {i : TypeInfo} (ht : P.underlying t = some (.slice e)) (hi : P.info? e = some i) (hl : HLe H HT) (hR : Rel m HT g w) {x : AV} {v : Value} {lo hi' : Option AV} {vlo vhi : Option Value}
    (hx : VR m x v) (hlo : VO m lo vlo) (hhi : VO m hi' vhi) (h : (x = .ns ∨ x = .es) ∧ bnd lo 0 0 ∧ bnd hi' 0 0 ∧ K x H) :
    Ex P (do pure (.value (← Instr.sliceAt t v vlo vhi none))) m H HT g w K := by
  obtain ⟨hx', bl, br, hK⟩ := h
  have hb : (Instr.sliceBounds true 0 0 vlo vhi none).run P w = .ok (0, 0, 0) w := by
    rcases bnd_some hlo bl with ⟨_, rfl, _⟩ | ⟨k, rfl, _⟩ <;> rcases bnd_some hhi br with ⟨_, rfl, _⟩ | ⟨k', rfl, _⟩ <;> simp [Instr.sliceBounds, run_sliceBound]
  have hrun : ∀ a, (Instr.sliceAt t (.slice a 0 0) vlo vhi none).run P w = .ok (.slice a 0 0) w := by
    intro a
    simp only [Instr.sliceAt, Instr.slice, Sem.run_bind, run_underlying ht, Result.andThen_ok, hb, run_sizeOf hi]
    rfl
  rcases hx' with rfl | rfl
  · cases hx
    exact Ex.same hl hR (run_v (hrun none)) .ns hK
  · cases hx
    exact Ex.same hl hR (run_v (hrun _)) .es hK

/-- `s[:0:0]` and its like: nothing, and no room -/
theorem ex_sl0 {t e : TypeId} {i : TypeInfo} (ht : P.underlying t = some (.slice e)) (hi : P.info? e = some i) (hl : HLe H HT) (hR : Rel m HT g w) {x : AV} {v : Value} {k k' : IntKind}
    (hx : VR m x v) (h : (x = .ns ∧ K .ns H) ∨ ((x = .es ∨ ∃ id off len, x = .s id off len) ∧ K .es H)) :
    Ex P (do pure (.value (← Instr.sliceAt t v none (some (.int k 0)) (some (.int k' 0))))) m H HT g w K := by
  have hrun : ∀ a n c, (Instr.sliceAt t (.slice a n c) none (some (.int k 0)) (some (.int k' 0))).run P w = .ok (.slice a 0 0) w := by
    intro a n c
    have hb : (Instr.sliceBounds true n c none (some (.int k 0)) (some (.int k' 0))).run P w = .ok (0, 0, 0) w := by simp [Instr.sliceBounds, run_sliceBound]
    simp only [Instr.sliceAt, Instr.slice, Sem.run_bind, run_underlying ht, Result.andThen_ok, hb, run_sizeOf hi]
    rfl
  rcases h with ⟨rfl, hK⟩ | ⟨hx', hK⟩
  · cases hx
    exact Ex.same hl hR (run_v (hrun _ _ _)) .ns hK
  · rcases hx' with rfl | ⟨id, off, len, rfl⟩
    · cases hx
      exact Ex.same hl hR (run_v (hrun _ _ _)) .es hK
    · cases hx
      exact Ex.same hl hR (run_v (hrun _ _ _)) .es hK

/-- `s[:h:m]` with h at most m at most the length -/
theorem ex_sl3 {t e : TypeId} {i : TypeInfo} (ht : P.underlying t = some (.slice e)) (hi : P.info? e = some i) (hl : HLe H HT) (hR : Rel m HT g w) {x : AV} {v : Value} {k k' : IntKind} {r c : Int}
    (hx : VR m x v) (h : 0 ≤ r ∧ r ≤ c ∧ ∃ id off len, x = .s id off len ∧ c ≤ (len : Int) ∧ K (.s id off r.toNat) H) :
    Ex P (do pure (.value (← Instr.sliceAt t v none (some (.int k r)) (some (.int k' c))))) m H HT g w K := by
  obtain ⟨h0, hrc, id, off, len, rfl, hcl, hK⟩ := h
  cases hx with
  | @s _ _ _ ee A cap he hc hA =>
    have er : (r.toNat : Int) = r := Int.toNat_of_nonneg h0
    have ec : (c.toNat : Int) = c := Int.toNat_of_nonneg (by omega)
    have hb : (Instr.sliceBounds true len cap none (some (.int k r)) (some (.int k' c))).run P w = .ok (0, r.toNat, c.toNat) w := by
      simp [Instr.sliceBounds, run_sliceBound, show (0 : Int) ≤ c by omega, show c ≤ (cap : Int) by omega, h0, hrc, er, ec]
    have hrun : (Instr.slice t (.slice (some A) len cap) none (some (.int k r)) (some (.int k' c))).run P w = .ok (.slice (if c.toNat = 0 then some A else (some A).map (·.add (0 * i.size))) (r.toNat - 0) (c.toNat - 0)) w := by
      simp only [Instr.slice, Sem.run_bind, run_underlying ht, Result.andThen_ok, hb, run_sizeOf hi]
      rfl
    have hat : (Instr.sliceAt t (.slice (some A) len cap) none (some (.int k r)) (some (.int k' c))).run P w = (Instr.slice t (.slice (some A) len cap) none (some (.int k r)) (some (.int k' c))).run P w := by
      simp [Instr.sliceAt, run_underlying ht]
    refine Ex.same hl hR (run_v (hat.trans hrun)) ?_ hK
    have eA : (if c.toNat = 0 then some A else (some A).map (·.add (0 * i.size))) = some A := by
      split
      · rfl
      · simp [Addr.add]
    rw [eA]
    refine .s he (by omega) ?_
    by_cases hc0 : c.toNat = 0
    · exact .inl (by omega)
    · obtain ⟨hA1, hA2⟩ := hA.resolve_left (by omega)
      refine .inr ⟨hA1, ?_⟩
      have : (c.toNat - 0) * ee.sz ≤ cap * ee.sz := Nat.mul_le_mul_right _ (by omega)
      omega

/-- composite values: parts laid over zeros -/
def afill (place : Nat → Option (Nat × Nat)) (cells : List AV) : List (Nat × AV) → Option (List AV)
  | [] => some cells
  | (i, v) :: rest =>
    match place i, cellsOf v with
    | some (off, size), some cs => if cs.length = size ∧ off + cs.length ≤ cells.length then afill place (splice cells off cs) rest else none
    | _, _ => none

theorem foldl_splice (off : Nat) : ∀ (vs : List Value) (k : Nat) (cells : Array Value), off + k + vs.length ≤ cells.size →
    ((vs.zipIdx k).foldl (fun cs (c, j) => cs.setIfInBounds (off + j) c) cells).toList = splice cells.toList (off + k) vs
  | [], k, cells, _ => by simp [splice]
  | v :: vs, k, cells, h => by
    simp only [List.zipIdx_cons, List.foldl_cons]
    rw [foldl_splice off vs (k + 1) _ (by simp at h ⊢; omega)]
    simp only [Array.toList_setIfInBounds]
    apply List.ext_getElem?
    intro j
    have hlen : (cells.toList.set (off + k) v).length = cells.size := by simp
    have hl1 : off + (k + 1) + vs.length ≤ (cells.toList.set (off + k) v).length := by rw [hlen]; simp at h; omega
    rw [splice_get _ _ _ hl1, splice_get _ _ _ (by simp at h ⊢; omega)]
    simp only [List.length_cons] at h ⊢
    by_cases h1 : off + (k + 1) ≤ j ∧ j < off + (k + 1) + vs.length
    · rw [if_pos h1, if_pos (by omega)]
      obtain ⟨q, hq⟩ : ∃ q, j - (off + k) = q + 1 := ⟨j - (off + k) - 1, by omega⟩
      rw [hq, List.getElem?_cons_succ]
      congr 1; omega
    · rw [if_neg h1]
      by_cases h2 : j = off + k
      · subst h2
        rw [if_pos (by omega), List.getElem?_set_self (by simp; omega)]
        simp
      · rw [if_neg (by omega), List.getElem?_set_ne (Ne.symm h2)]

theorem afill_rel {place : Nat → Option (Nat × Nat)} : ∀ (parts : List (Nat × AV)) (vparts : List (Nat × Value)) (cells : List AV) (vcells : Array Value) (r : List AV),
    parts.length = vparts.length → (∀ (j : Nat) (p : Nat × AV) (q : Nat × Value), parts[j]? = some p → vparts[j]? = some q → p.1 = q.1 ∧ VR m p.2 q.2) → VL m cells vcells.toList → afill place cells parts = some r →
    ∃ vr, Instr.fill place vcells vparts = some vr ∧ VL m r vr.toList
  | [], [], cells, vcells, r, _, _, hv, h => by
    simp only [afill, Option.some.injEq] at h
    subst h
    exact ⟨vcells, rfl, hv⟩
  | [], q :: qs, _, _, _, hlen, _, _, _ => by simp at hlen
  | p :: ps, [], _, _, _, hlen, _, _, _ => by simp at hlen
  | (i, x) :: ps, (j, v) :: qs, cells, vcells, r, hlen, hrel, hv, h => by
    obtain ⟨hij, hx⟩ := hrel 0 (i, x) (j, v) rfl rfl
    simp only at hij hx
    subst hij
    simp only [afill] at h
    cases hp : place i with
    | none => rw [hp] at h; cases h
    | some pq =>
      obtain ⟨off, size⟩ := pq
      rw [hp] at h
      cases hc : cellsOf x with
      | none => rw [hc] at h; cases h
      | some cs =>
        rw [hc] at h
        simp only at h
        split at h
        · rename_i hin
          have hcv := cellsOf_rel hx hc
          have hsz : v.cells.size = size := by rw [← hin.1, hcv.1]; simp
          have hle : off + v.cells.size ≤ vcells.size := by
            have h1 := hv.1
            have h2 := hcv.1
            simp at h1 h2
            omega
          have hfold := foldl_splice off v.cells.toList 0 vcells (by simpa using hle)
          have key : (v.cells.zipIdx.foldl (fun cs (c, j) => cs.setIfInBounds (off + j) c) vcells).toList = splice vcells.toList off v.cells.toList := by
            rw [← Array.foldl_toList]
            simpa using hfold
          obtain ⟨vr, h1, h2⟩ := afill_rel ps qs (splice cells off cs) (v.cells.zipIdx.foldl (fun cs (c, j) => cs.setIfInBounds (off + j) c) vcells) r (by simpa using hlen)
            (fun k p q a b => hrel (k + 1) p q (by simpa using a) (by simpa using b)) (by rw [key]; exact hv.splice hcv off) h
          refine ⟨vr, ?_, h2⟩
          rw [Instr.fill, hp]
          simp only
          rw [if_neg (by simp [hsz]; omega)]
          exact h1
        · cases h

end Go.Proofs.Ytdkdainipanacaa
namespace Go.Proofs.Ytdkdainipanacaa
open Go Go.RowKit
set_option linter.unusedSimpArgs false
set_option linter.unusedVariables false

inductive SO where
  | mv (x : SV)
  | pk (c x y : SV)
  | bin (op : BinOp) (x y : SV)
  | eb (neg : Bool) (x y : SV)
  | en (neg : Bool) (x y : SV)
  | ep (neg : Bool) (x y : SV)
  | un (op : UnOp) (x : SV)
  | cv (k : IntKind) (x : SV)
  | ld (x : SV)
  | ldn (n : Nat) (x : SV)
  | st (n : Nat) (x v : SV)
  | ix (sz : Nat) (x i : SV)
  | fd (off : Nat) (x : SV)
  | sl (sz : Nat) (x : SV) (lo hi : Option SV)
  | sl0 (x : SV)
  | sl3 (x hi mx : SV)
  | ms (bytes : Nat) (zero : AV) (len cap : SV)
  | bs (sz : Nat) (zs : List AV) (len : Nat) (parts : List (Nat × SV))
  | be
  | bk (sz : Nat) (cs : List AV) (len : Nat)
  | bx (x : SV)
  | al (zs : List AV)
  | bd (zs : List AV) (places : List (Nat × Nat)) (parts : List (Nat × SV))
  | fi (off : Nat) (x : SV)
  | fin (off n : Nat) (x : SV)
  | ex (x : SV) (i : Nat)
  | nc (x : SV)
  | ln (x : SV)
  | ap (sz bytes : Nat) (x y : SV)
  | cp (x y : SV)
  | mx (x y : SV)
  | mn (x y : SV)
  | ca (f : FuncId) (args : List SV)
  | mf (f : FuncId) (caps : List SV)
  | cf (x : SV) (args : List SV)
  | ldf (x : SV)
  | cal (f : FuncId) (args : List SV)
  | apl (sz bytes : Nat) (x y : SV)
  | cpz (x : SV)

structure SOp where
  dst : Option Nat
  op : SO
  grd : Option (Nat × Bool) := none

def o1 (x : Operand) (f : SV → SO) : Option SO := (ofO x).map f
def o2 (x y : Operand) (f : SV → SV → SO) : Option SO := match ofO x, ofO y with | some a, some b => some (f a b) | _, _ => none
def oL : List Operand → Option (List SV)
  | [] => some []
  | x :: xs => match ofO x, oL xs with | some a, some b => some (a :: b) | _, _ => none
def oP : List (Nat × Operand) → Option (List (Nat × SV))
  | [] => some []
  | (i, x) :: xs => match ofO x, oP xs with | some a, some b => some ((i, a) :: b) | _, _ => none
def oO : Option Operand → Option (Option SV)
  | none => some none
  | some x => (ofO x).map some

def sliceElem (P : Program) (t : TypeId) : Option TypeInfo := match P.underlying t with | some (.slice e) => P.info? e | _ => none
def fieldOff (P : Program) (t : TypeId) (f : Nat) : Option (Nat × TypeId) := match P.underlying t with
  | some (.struct fs) => match fs[f]? with
    | some fd => match P.info? fd.type with
      | some i => if i.size = 0 then none else some (fd.offset, fd.type)
      | none => none
    | none => none
  | _ => none
def aggV : Value → Bool
  | .agg _ => true
  | _ => false
def isConst0 : Operand → Bool
  | .const (.int _ 0) => true
  | _ => false
def leafs (zs : List Value) : Option (List AV) := if (zs.all fun v => (leafOf v).leaf) then some (zs.map leafOf) else none

def constP : List (Nat × SV) → Option (List (Nat × AV))
  | [] => some []
  | (i, .k v) :: ps => match constP ps with | some r => some ((i, v) :: r) | none => none
  | _ => none

def trO (P : Program) (o : Oper) : Option SO :=
  match o.op with
  | .move x => o1 x .mv
  | .assign x => o1 x .mv
  | .pick c x y => match ofO c with | some c => o2 x y (.pk c) | none => none
  | .binOp op t x y _ => match op with
    | .eql => match P.underlying t with | some .bool => o2 x y (.eb false) | some (.slice _) => o2 x y (.en false) | some (.pointer _) => o2 x y (.ep false) | some (.int _) => o2 x y (.bin .eql) | _ => none
    | .neq => match P.underlying t with | some .bool => o2 x y (.eb true) | some (.slice _) => o2 x y (.en true) | some (.pointer _) => o2 x y (.ep true) | some (.int _) => o2 x y (.bin .neq) | _ => none
    | op => o2 x y (.bin op)
  | .unOp op _ x => o1 x (.un op)
  | .convert s d x => match P.underlying s, P.underlying d with | some (.int _), some (.int k) => o1 x (.cv k) | _, _ => none
  | .nilCheck x => o1 x .nc
  | .extract x i => o1 x (.ex · i)
  | .load t x => match P.underlying t, P.info? t with | some d, some i => if isAggD d then o1 x (.ldn i.size) else o1 x .ld | _, _ => none
  | .store t x v => match P.info? t with | some i => o2 x v (.st i.size) | none => none
  | .indexAddr t x ix => match sliceElem P t with | some i => o2 x ix (.ix i.size) | none => none
  | .fieldAddr t x f => match fieldOff P t f with | some (off, _) => o1 x (.fd off) | none => none
  | .slice t x lo hi mx => match sliceElem P t with
    | some i => match mx with
      | none => match ofO x, oO lo, oO hi with | some x, some lo, some hi => some (.sl i.size x lo hi) | _, _, _ => none
      | some mx => match lo, hi with | none, some hi => if isConst0 hi && isConst0 mx then o1 x .sl0 else (match ofO x, ofO hi, ofO mx with | some x, some hi, some mx => some (.sl3 x hi mx) | _, _, _ => none) | _, _ => none
    | none => none
  | .makeSlice t l c => match sliceElem P t with
    | some i => match i.zero with
      | some z => if i.size = 1 ∧ aggV z = false ∧ (leafOf z).leaf = true then o2 l c (.ms i.bytes (leafOf z)) else none
      | none => none
    | none => none
  | .buildSlice t len parts => match sliceElem P t with
    | some i => match i.zero with
      | some z => if len * i.size ≤ 2 ^ 24 ∧ z.cells.size = i.size then
          match leafs ((Array.range (len * i.size)).map (z.cells[· % z.cells.size]!)).toList, oP parts.toList with
          | some zs, some ps =>
            if len = 0 ∧ parts.size = 0 then some .be
            else match constP ps with
              | some cs => match afill (fun k => some (k * i.size, i.size)) zs cs with | some r => some (.bk i.size r len) | none => some (.bs i.size zs len ps)
              | none => some (.bs i.size zs len ps)
          | _, _ => none
        else none
      | none => none
    | none => none
  | .box _ x => o1 x .bx
  | .alloc t => match P.info? t with
    | some i => match i.zero with | some z => (leafs z.cells.toList).map .al | none => none
    | none => none
  | .build t parts => match P.underlying t, P.info? t with
    | some (.struct fs), some i => match i.zero, fs.toList.mapM (fun f => (P.info? f.type).map fun i => (f.offset, i.size)) with
      | some z, some places => match leafs z.cells.toList, oP parts.toList with
        | some zs, some ps => some (.bd zs places ps)
        | _, _ => none
      | _, _ => none
    | _, _ => none
  | .field t x f => match fieldOff P t f with
    | some (off, ft) => match P.underlying ft, P.info? ft with
      | some d, some i => if isAggD d then o1 x (.fin off i.size) else o1 x (.fi off)
      | _, _ => none
    | none => none
  | .makeFunc fn first captured => match fn, first.toList, oL captured.toList with | .func f, [], some as => some (.mf f as) | _, _, _ => none
  | .call c => match c.callee with
    | .value (.func f) => (oL c.args.toList).map (.ca f)
    | .value x => match ofO x, oL c.args.toList with | some s, some as => some (.cf s as) | _, _ => none
    | .builtin .len => match c.args.toList, c.argTypes.toList with
      | [x], [t] => match P.underlying t with | some (.slice _) => o1 x .ln | _ => none
      | _, _ => none
    | .builtin .cap => match c.args.toList, c.argTypes.toList with
      | [x], [t] => match P.underlying t with | some (.slice _) => o1 x .cpz | _ => none
      | _, _ => none
    | .builtin .append => match c.args.toList, c.argTypes.toList with
      | [x, y], [t, u] => if t = u then match sliceElem P t with
          | some i => match i.zero with | some z => if z.cells.size = i.size ∧ 0 < i.size then o2 x y (.ap i.size i.bytes) else none | none => none
          | none => none else none
      | _, _ => none
    | .builtin .copy => match c.args.toList, c.argTypes.toList with
      | [x, y], [t, _] => match sliceElem P t with | some i => if i.size = 1 then o2 x y .cp else none | none => none
      | _, _ => none
    | .builtin .max => match c.args.toList with | [x, y] => o2 x y .mx | _ => none
    | .builtin .min => match c.args.toList with | [x, y] => o2 x y .mn | _ => none
    | _ => none
  | _ => none

def SO.svs : SO → List SV
  | .mv x | .un _ x | .cv _ x | .ld x | .ldn _ x | .fd _ x | .sl0 x | .bx x | .fi _ x | .fin _ _ x | .ex x _ | .nc x | .ln x | .cpz x => [x]
  | .pk c x y => [c, x, y]
  | .sl3 x hi cx => [x, hi, cx]
  | .bin _ x y | .eb _ x y | .en _ x y | .ep _ x y | .st _ x y | .ix _ x y | .ms _ _ x y | .ap _ _ x y | .cp x y | .mx x y | .mn x y => [x, y]
  | .sl _ x lo hi => x :: (lo.toList ++ hi.toList)
  | .bs _ _ _ ps => ps.map (·.2)
  | .bd _ _ ps => ps.map (·.2)
  | .al _ => []
  | .be => []
  | .bk _ _ _ => []
  | .ca _ args => args
  | .mf _ caps => caps
  | .cf x args => x :: args
  | .ldf x => [x]
  | .cal _ args => args
  | .apl _ _ x y => [x, y]

def aen (neg : Bool) (x y : AV) (K : AV → Prop) : Prop :=
  match x, y with
  | .ns, .ns => K (.b (!neg))
  | .s _ _ _, .ns => K (.b neg)
  | .es, .ns => K (.b neg)
  | _, _ => False

def aep (neg : Bool) (x y : AV) (K : AV → Prop) : Prop :=
  match x, y with
  | .np, .np => K (.b (!neg))
  | .p _ _, .np => K (.b neg)
  | _, _ => False

def aun (op : UnOp) (x : AV) (K : AV → Prop) : Prop :=
  match op, x with
  | .neg, .i k n => arK k (0 - n) K
  | .not, .b t => K (.b (!t))
  | .xor, .i k n => K (.i k (k.wrap (BitVec.ofInt k.bits (if k.signed then -1 else k.max) ^^^ BitVec.ofInt k.bits n).toNat))
  | _, _ => False

def aop (o : SO) (a : Nat → AV) (H : AH) (K : AV → AH → Prop) : Prop :=
  match o with
  | .mv x => K (evS a x) H
  | .pk c x y => ∃ t, evS a c = .b t ∧ K (bif t then evS a x else evS a y) H
  | .bin op x y => abin op (evS a x) (evS a y) (fun v => K v H)
  | .eb neg x y => ∃ p q, evS a x = .b p ∧ evS a y = .b q ∧ K (.b (bif neg then p != q else p == q)) H
  | .en neg x y => aen neg (evS a x) (evS a y) (fun v => K v H)
  | .ep neg x y => aep neg (evS a x) (evS a y) (fun v => K v H)
  | .un op x => aun op (evS a x) (fun v => K v H)
  | .cv k x => ∃ k' n, evS a x = .i k' n ∧ arK k n (fun v => K v H)
  | .ld x => ∃ id off c, evS a x = .p id off ∧ rdc H id off = some c ∧ K c H
  | .ldn n x => ∃ id off ob, evS a x = .p id off ∧ H id = some ob ∧ off + n ≤ ob.cells.length ∧ K (.ag ((ob.cells.drop off).take n)) H
  | .st n x v => ∃ id off ob cs, evS a x = .p id off ∧ H id = some ob ∧ ob.rw = true ∧ cellsOf (evS a v) = some cs ∧ cs.length = n ∧ off + n ≤ ob.cells.length ∧ K .u (upd H id { ob with cells := splice ob.cells off cs })
  | .ix sz x i => ∃ id off len k n, evS a x = .s id off len ∧ evS a i = .i k n ∧ 0 ≤ n ∧ n < (len : Int) ∧ K (.p id (off + n.toNat * sz)) H
  | .fd o x => ∃ id off, evS a x = .p id off ∧ K (.p id (off + o)) H
  | .sl sz x lo hi => (∃ id off len l r ob, evS a x = .s id off len ∧ H id = some ob ∧ ob.sz = sz ∧ bnd (lo.map (evS a)) 0 l ∧ bnd (hi.map (evS a)) len r ∧ 0 ≤ l ∧ l ≤ r ∧ r ≤ (len : Int) ∧ K (.s id (off + l.toNat * sz) (r.toNat - l.toNat)) H) ∨
      ((evS a x = .ns ∨ evS a x = .es) ∧ bnd (lo.map (evS a)) 0 0 ∧ bnd (hi.map (evS a)) 0 0 ∧ K (evS a x) H)
  | .sl0 x => (evS a x = .ns ∧ K .ns H) ∨ ((evS a x = .es ∨ ∃ id off len, evS a x = .s id off len) ∧ K .es H)
  | .sl3 x hi cx => ∃ k k' r c, evS a hi = .i k r ∧ evS a cx = .i k' c ∧ 0 ≤ r ∧ r ≤ c ∧ ∃ id off len, evS a x = .s id off len ∧ c ≤ (len : Int) ∧ K (.s id off r.toNat) H
  | .ms bytes z x y => ∃ k k' l c, evS a x = .i k l ∧ evS a y = .i k' c ∧ 0 ≤ l ∧ l ≤ c ∧ (bytes : Int) * c ≤ 281474976710656 ∧ c ≤ 9223372036854775807 ∧ ∀ id, H id = none → K (.s id 0 l.toNat) (upd H id ⟨List.replicate l.toNat z, true, 1⟩)
  | .bs sz zs len ps => ∃ cs, afill (fun i => some (i * sz, sz)) zs (ps.map fun p => (p.1, evS a p.2)) = some cs ∧ ∀ id, H id = none → K (.s id 0 len) (upd H id ⟨cs, true, sz⟩)
  | .be => K .es H
  | .bk sz cs len => ∀ id, H id = none → K (.s id 0 len) (upd H id ⟨cs, true, sz⟩)
  | .bx x => ∃ cs, cellsOf (evS a x) = some cs ∧ ∀ id, H id = none → K (.p id 0) (upd H id ⟨cs, true, 0⟩)
  | .al zs => ∀ id, H id = none → K (.p id 0) (upd H id ⟨zs, true, 0⟩)
  | .bd zs places ps => ∃ cs, afill (places.toArray[·]?) zs (ps.map fun p => (p.1, evS a p.2)) = some cs ∧ K (.ag cs) H
  | .fi off x => ∃ cs c, evS a x = .ag cs ∧ cs[off]? = some c ∧ K c H
  | .fin off n x => ∃ cs, evS a x = .ag cs ∧ K (.ag ((cs.drop off).take n)) H
  | .ex x i => ∃ vs c, evS a x = .tu vs ∧ vs[i]? = some c ∧ K c H
  | .nc x => ∃ id off, evS a x = .p id off ∧ K (.p id off) H
  | .ln x => (∃ id off len, evS a x = .s id off len ∧ K (.i .i64 len) H) ∨ ((evS a x = .ns ∨ evS a x = .es) ∧ K (.i .i64 0) H)
  | .ap sz bytes x y => ∃ k news, src H sz (evS a y) = some (k, news) ∧
      ((evS a x = .ns ∨ evS a x = .es) ∧ (k = 0 → K (evS a x) H) ∧ (0 < k → k * bytes ≤ 140737488355328 ∧ k ≤ maxLen ∧ ∀ id, H id = none → K (.s id 0 k) (upd H id ⟨news, true, sz⟩)) ∨
       ∃ id off len ob, evS a x = .s id off len ∧ H id = some ob ∧ ob.rw = true ∧ ob.sz = sz ∧ off + len * sz ≤ ob.cells.length ∧ (len + k) * bytes ≤ 140737488355328 ∧ len + k ≤ maxLen ∧
         ∀ id', H id' = none → K (.s id' 0 (len + k)) (upd (del H id) id' ⟨(ob.cells.drop off).take (len * sz) ++ news, true, sz⟩))
  | .cp x y => ∃ id off len ob k news, evS a x = .s id off len ∧ H id = some ob ∧ ob.rw = true ∧ ob.sz = 1 ∧ off + len ≤ ob.cells.length ∧ src H 1 (evS a y) = some (k, news) ∧
      K (.i .i64 (Nat.min k len)) (upd H id { ob with cells := splice ob.cells off (news.take (Nat.min k len)) })
  | .mx x y => ∃ k k' p q, evS a x = .i k p ∧ evS a y = .i k' q ∧ K (.i k (if q > p then q else p)) H
  | .mn x y => ∃ k k' p q, evS a x = .i k p ∧ evS a y = .i k' q ∧ K (.i k (if q < p then q else p)) H
  | .ca _ _ => False
  | .mf f caps => K (.f f (caps.map (evS a))) H
  | .cf _ _ => False
  | .cal _ _ => False
  | .apl _ _ _ _ => False
  | .cpz x => (evS a x = .ns ∨ evS a x = .es) ∧ K (.i .i64 0) H
  | .ldf x => ∃ id off ob c, evS a x = .p id off ∧ H id = some ob ∧ ob.rw = false ∧ ob.cells[off]? = some c ∧ K c H

end Go.Proofs.Ytdkdainipanacaa
namespace Go.Proofs.Ytdkdainipanacaa
open Go Go.RowKit
set_option linter.unusedSimpArgs false
set_option linter.unusedVariables false

theorem o1_some {x : Operand} {f : SV → SO} {so : SO} (h : o1 x f = some so) : ∃ sx, ofO x = some sx ∧ so = f sx := by
  unfold o1 at h
  cases hx : ofO x with
  | none => rw [hx] at h; cases h
  | some a => rw [hx] at h; exact ⟨a, rfl, (Option.some.inj h).symm⟩
theorem o2_some {x y : Operand} {f : SV → SV → SO} {so : SO} (h : o2 x y f = some so) : ∃ sx sy, ofO x = some sx ∧ ofO y = some sy ∧ so = f sx sy := by
  unfold o2 at h
  cases hx : ofO x with
  | none => rw [hx] at h; cases h
  | some a =>
    cases hy : ofO y with
    | none => rw [hx, hy] at h; cases h
    | some b => rw [hx, hy] at h; exact ⟨a, b, rfl, rfl, (Option.some.inj h).symm⟩
theorem oO_rel {n : Nat} {m : AMap} {a : Nat → AV} {act : Act} (h : SR n m a act.tmps) {x : Option Operand} {sx : Option SV} (hx : oO x = some sx) (hn : ∀ y ∈ sx.toList, opIn n y = true) :
    VO m (sx.map (evS a)) (x.map act.eval) := by
  cases x with
  | none => simp [oO] at hx; subst hx; trivial
  | some x =>
    simp only [oO, Option.map_eq_some_iff] at hx
    obtain ⟨s, hs, rfl⟩ := hx
    exact ev_rel h hs (hn s (by simp))
theorem oP_rel {n : Nat} {m : AMap} {a : Nat → AV} {act : Act} (h : SR n m a act.tmps) : ∀ {ps : List (Nat × Operand)} {ss : List (Nat × SV)}, oP ps = some ss → (∀ x ∈ ss.map (·.2), opIn n x = true) →
    (ss.map fun p => (p.1, evS a p.2)).length = (ps.map fun p => (p.1, act.eval p.2)).length ∧
    ∀ (j : Nat) (p : Nat × AV) (q : Nat × Value), (ss.map fun p => (p.1, evS a p.2))[j]? = some p → (ps.map fun p => (p.1, act.eval p.2))[j]? = some q → p.1 = q.1 ∧ VR m p.2 q.2
  | [], ss, hx, _ => by simp [oP] at hx; subst hx; simp
  | (i, x) :: xs, ss, hx, hn => by
    simp only [oP] at hx
    cases h1 : ofO x with
    | none => rw [h1] at hx; cases hx
    | some s =>
      cases h2 : oP xs with
      | none => rw [h1, h2] at hx; cases hx
      | some ss' =>
        rw [h1, h2] at hx
        obtain rfl := Option.some.inj hx
        obtain ⟨e1, e2⟩ := oP_rel h h2 (fun y hy => hn y (by simp at hy ⊢; exact .inr hy))
        refine ⟨by simpa using e1, fun j p q hp hq => ?_⟩
        cases j with
        | zero =>
          simp at hp hq
          subst hp; subst hq
          exact ⟨rfl, ev_rel h h1 (hn s (by simp))⟩
        | succ j => exact e2 j p q (by simpa using hp) (by simpa using hq)

theorem sliceElem_some {P : Program} {t : TypeId} {i : TypeInfo} (h : sliceElem P t = some i) : ∃ e, P.underlying t = some (.slice e) ∧ P.info? e = some i := by
  unfold sliceElem at h
  split at h
  · rename_i e he; exact ⟨e, he, h⟩
  · cases h
theorem fieldOff_some {P : Program} {t : TypeId} {f off : Nat} {ft : TypeId} (h : fieldOff P t f = some (off, ft)) :
    ∃ fs fd i, P.underlying t = some (.struct fs) ∧ fs[f]? = some fd ∧ P.info? fd.type = some i ∧ i.size ≠ 0 ∧ fd.offset = off ∧ fd.type = ft := by
  unfold fieldOff at h
  split at h
  · rename_i fs hfs
    split at h
    · rename_i fd hfd
      split at h
      · rename_i i hi
        split at h
        · cases h
        · rename_i hs
          simp only [Option.some.injEq, Prod.mk.injEq] at h
          exact ⟨fs, fd, i, hfs, hfd, hi, hs, h.1, h.2⟩
      · cases h
    · cases h
  · cases h
theorem leafs_some {zs : List Value} {as : List AV} (h : leafs zs = some as) (m : AMap) : VL m as zs := by
  unfold leafs at h
  split at h
  · rename_i hl
    obtain rfl := Option.some.inj h
    exact leafOf_list hl m
  · cases h

variable {P : Program} {m : AMap} {H HT : AH} {g : Out} {w : World} {K : AV → AH → Prop}

theorem run_equal_bool_d {t : TypeId} (ht : P.underlying t = some .bool) (d : Nat) (p q : Bool) (w : World) : (Op.equalIn (d + 1) t (.bool p) (.bool q)).run P w = .ok (p == q) w := by
  simp [Op.equalIn, run_underlying ht]
theorem run_equal_slice_d {t e : TypeId} (ht : P.underlying t = some (.slice e)) (d : Nat) (a : Option Addr) (n c : Nat) (w : World) : (Op.equalIn (d + 1) t (.slice a n c) (.slice none 0 0)).run P w = .ok a.isNone w := by
  cases a <;> simp [Op.equalIn, run_underlying ht]
theorem run_equal_ptr_d {t e : TypeId} (ht : P.underlying t = some (.pointer e)) (d : Nat) (a : Option Addr) (w : World) : (Op.equalIn (d + 1) t (.pointer a) (.pointer none)).run P w = .ok a.isNone w := by
  cases a <;> simp [Op.equalIn, run_underlying ht]
theorem run_equalIn_bool {t : TypeId} (ht : P.underlying t = some .bool) (p q : Bool) (w : World) : (Op.equal t (.bool p) (.bool q)).run P w = .ok (p == q) w := run_equal_bool_d ht 9999 p q w
theorem run_equal_slice {t e : TypeId} (ht : P.underlying t = some (.slice e)) (a : Option Addr) (n c : Nat) (w : World) : (Op.equal t (.slice a n c) (.slice none 0 0)).run P w = .ok a.isNone w := run_equal_slice_d ht 9999 a n c w
theorem run_equal_ptr {t e : TypeId} (ht : P.underlying t = some (.pointer e)) (a : Option Addr) (w : World) : (Op.equal t (.pointer a) (.pointer none)).run P w = .ok a.isNone w := run_equal_ptr_d ht 9999 a w

theorem VR.b_inv {m : AMap} {p : Bool} {v : Value} (h : VR m (.b p) v) : v = .bool p := by cases h; rfl
theorem ex_eb {op : BinOp} {t : TypeId} {x y : Operand} (ht : P.underlying t = some .bool) (neg : Bool) (hop : op = bif neg then .neq else .eql) (hl : HLe H HT) (hR : Rel m HT g w) {p q : Bool} {a : Operand → Value} (hx : a x = .bool p) (hy : a y = .bool q)
    (hK : K (.b (bif neg then p != q else p == q)) H) : Ex P (do pure (.value (← (do eqGuard op t x y (a x) (a y); binOp op t (a x) (a y) : Sem Value)))) m H HT g w K := by
  rw [hx, hy]
  cases neg
  · subst hop
    refine Ex.same hl hR (v := .bool (p == q)) (run_v ?_) (.b _) hK
    simp [eqGuard, binOp, run_equalIn_bool ht]
  · subst hop
    refine Ex.same hl hR (v := .bool (p != q)) (run_v ?_) (.b _) hK
    simp [eqGuard, binOp, run_equalIn_bool ht, bne]

theorem ex_en {op : BinOp} {t e : TypeId} {x y : Operand} (ht : P.underlying t = some (.slice e)) (neg : Bool) (hop : op = bif neg then .neq else .eql) (hl : HLe H HT) (hR : Rel m HT g w)
    {ax ay : AV} {vx vy : Value} (hx : VR m ax vx) (hy : VR m ay vy) (h : aen neg ax ay (fun v => K v H)) :
    Ex P (do pure (.value (← (do eqGuard op t x y vx vy; binOp op t vx vy : Sem Value)))) m H HT g w K := by
  have key : ∀ a n c, vx = .slice a n c → vy = .slice none 0 0 → K (.b (bif neg then !a.isNone else a.isNone)) H → Ex P (do pure (.value (← (do eqGuard op t x y vx vy; binOp op t vx vy : Sem Value)))) m H HT g w K := by
    intro a n c e1 e2 hK
    subst e1; subst e2; subst hop
    cases neg
    · refine Ex.same hl hR (v := .bool a.isNone) (run_v ?_) (.b _) hK
      simp [eqGuard, binOp, run_equal_slice ht]
    · refine Ex.same hl hR (v := .bool (!a.isNone)) (run_v ?_) (.b _) hK
      simp [eqGuard, binOp, run_equal_slice ht]
  unfold aen at h
  split at h
  · cases hx; cases hy; exact key none 0 0 rfl rfl (by cases neg <;> exact h)
  · cases hx; cases hy; exact key _ _ _ rfl rfl (by cases neg <;> exact h)
  · cases hx; cases hy; exact key _ _ _ rfl rfl (by cases neg <;> exact h)
  · exact h.elim

theorem ex_ep {op : BinOp} {t e : TypeId} {x y : Operand} (ht : P.underlying t = some (.pointer e)) (neg : Bool) (hop : op = bif neg then .neq else .eql) (hl : HLe H HT) (hR : Rel m HT g w)
    {ax ay : AV} {vx vy : Value} (hx : VR m ax vx) (hy : VR m ay vy) (h : aep neg ax ay (fun v => K v H)) :
    Ex P (do pure (.value (← (do eqGuard op t x y vx vy; binOp op t vx vy : Sem Value)))) m H HT g w K := by
  have key : ∀ a, vx = .pointer a → vy = .pointer none → K (.b (bif neg then !a.isNone else a.isNone)) H → Ex P (do pure (.value (← (do eqGuard op t x y vx vy; binOp op t vx vy : Sem Value)))) m H HT g w K := by
    intro a e1 e2 hK
    subst e1; subst e2; subst hop
    cases neg
    · refine Ex.same hl hR (v := .bool a.isNone) (run_v ?_) (.b _) hK
      simp [eqGuard, binOp, run_equal_ptr ht]
    · refine Ex.same hl hR (v := .bool (!a.isNone)) (run_v ?_) (.b _) hK
      simp [eqGuard, binOp, run_equal_ptr ht]
  unfold aep at h
  split at h
  · cases hx; cases hy; exact key none rfl rfl (by cases neg <;> exact h)
  · cases hx; cases hy; exact key _ rfl rfl (by cases neg <;> exact h)
  · exact h.elim

theorem ex_un {op : UnOp} (hl : HLe H HT) (hR : Rel m HT g w) {ax : AV} {vx : Value} (hx : VR m ax vx) (h : aun op ax (fun v => K v H)) : Ex P (do pure (.value (← Op.unary op vx))) m H HT g w K := by
  unfold aun at h
  split at h
  · cases hx
    exact Ex.same hl hR (run_v (by simp [Op.unary, Op.intArith])) (.i _ _) (arK_wrap h)
  · cases hx
    exact Ex.same hl hR (run_v (by simp [Op.unary])) (.b _) h
  · cases hx
    exact Ex.same hl hR (run_v (by simp [Op.unary, Op.intBits])) (.i _ _) h
  · exact h.elim

end Go.Proofs.Ytdkdainipanacaa
namespace Go.Proofs.Ytdkdainipanacaa
open Go Go.RowKit
set_option linter.unusedSimpArgs false
set_option linter.unusedVariables false

variable {P : Program} {m : AMap} {H HT : AH} {g : Out} {w : World} {K : AV → AH → Prop}

theorem ex_pk (hl : HLe H HT) (hR : Rel m HT g w) {c x y : AV} {vc vx vy : Value} (hc : VR m c vc) (hx : VR m x vx) (hy : VR m y vy) (h : ∃ t, c = .b t ∧ K (bif t then x else y) H) :
    Ex P (do pure (.value (if ← asBool vc then vx else vy))) m H HT g w K := by
  obtain ⟨t, rfl, hK⟩ := h
  cases hc
  cases t
  · exact Ex.same hl hR (v := vy) (by simp [asBool]) hy hK
  · exact Ex.same hl hR (v := vx) (by simp [asBool]) hx hK

theorem ex_cv {s d : TypeId} {k k0 : IntKind} (hs : P.underlying s = some (.int k0)) (hd : P.underlying d = some (.int k)) (hl : HLe H HT) (hR : Rel m HT g w) {x : AV} {v : Value} (hx : VR m x v)
    (h : ∃ k' n, x = .i k' n ∧ arK k n (fun v => K v H)) : Ex P (do pure (.value (← convert s d v))) m H HT g w K := by
  obtain ⟨k', n, rfl, hK⟩ := h
  cases hx
  exact Ex.same hl hR (run_v (by simp [convert, run_underlying hs, run_underlying hd, Conv.intToInt])) (.i _ _) (arK_wrap hK)

theorem ex_nc (hl : HLe H HT) (hR : Rel m HT g w) {x : AV} {v : Value} {ρ : Operand → Value} {y : Operand} {o : Oper} (ho : o.op = .nilCheck y) (hv : ρ y = v) (hx : VR m x v) (h : ∃ id off, x = .p id off ∧ K (.p id off) H) :
    Ex P (execOp ρ o) m H HT g w K := by
  obtain ⟨id, off, rfl, hK⟩ := h
  cases hx with
  | @p _ _ e he =>
    refine Ex.same hl hR (v := .pointer (some ⟨e.blk, e.sh + off, none⟩)) ?_ (.p he) hK
    simp [execOp, ho, hv]

theorem ex_ex (hl : HLe H HT) (hR : Rel m HT g w) {x : AV} {v : Value} (hx : VR m x v) {i : Nat} (h : ∃ vs c, x = .tu vs ∧ vs[i]? = some c ∧ K c H) : Ex P (do pure (.value (← Instr.extract v i))) m H HT g w K := by
  obtain ⟨vs, c, rfl, hc, hK⟩ := h
  cases hx with
  | @tu _ us hlen hr =>
    have hlt : i < us.size := by rw [← hlen]; exact (List.getElem?_eq_some_iff.mp hc).1
    have hv : us[i]? = some us[i] := by simp [hlt]
    refine Ex.same hl hR (run_v ?_) (hr i c us[i] hc hv) hK
    simp [Instr.extract, hlt]

theorem ex_ln {t e : TypeId} (ht : P.underlying t = some (.slice e)) {ty : TypeId} (hl : HLe H HT) (hR : Rel m HT g w) {x : AV} {v : Value} (hx : VR m x v)
    (h : (∃ id off len, x = .s id off len ∧ K (.i .i64 len) H) ∨ ((x = .ns ∨ x = .es) ∧ K (.i .i64 0) H)) : Ex P (do pure (.value (← Builtin.len_ #[t] ty #[v]))) m H HT g w K := by
  have key : ∀ a n c, v = .slice a n c → K (.i .i64 n) H → Ex P (do pure (.value (← Builtin.len_ #[t] ty #[v]))) m H HT g w K := by
    intro a n c e hK
    subst e
    exact Ex.same hl hR (run_v (by simp [Builtin.len_, run_underlying ht]; rfl)) (.i _ _) hK
  rcases h with ⟨id, off, len, rfl, hK⟩ | ⟨rfl | rfl, hK⟩
  · cases hx; exact key _ _ _ rfl hK
  · cases hx; exact key _ _ _ rfl (by simpa using hK)
  · cases hx; exact key _ _ _ rfl (by simpa using hK)

theorem ex_cz {t e : TypeId} (ht : P.underlying t = some (.slice e)) {ty : TypeId} (hl : HLe H HT) (hR : Rel m HT g w) {x : AV} {v : Value} (hx : VR m x v)
    (h : (x = .ns ∨ x = .es) ∧ K (.i .i64 0) H) : Ex P (do pure (.value (← Builtin.cap_ #[t] ty #[v]))) m H HT g w K := by
  have key : ∀ a, v = .slice a 0 0 → K (.i .i64 0) H → Ex P (do pure (.value (← Builtin.cap_ #[t] ty #[v]))) m H HT g w K := by
    intro a e hK
    subst e
    exact Ex.same hl hR (run_v (by simp [Builtin.cap_, run_underlying ht]; rfl)) (.i _ _) hK
  rcases h with ⟨rfl | rfl, hK⟩
  · cases hx; exact key _ rfl hK
  · cases hx; exact key _ rfl hK

theorem ex_mx {ts : Array TypeId} {ty : TypeId} (hl : HLe H HT) (hR : Rel m HT g w) {x y : AV} {v u : Value} (hx : VR m x v) (hy : VR m y u)
    (h : ∃ k k' p q, x = .i k p ∧ y = .i k' q ∧ K (.i k (if q > p then q else p)) H) : Ex P (do pure (.value (← Builtin.max_ ts ty #[v, u]))) m H HT g w K := by
  obtain ⟨k, k', p, q, rfl, rfl, hK⟩ := h
  cases hx; cases hy
  exact Ex.same hl hR (run_v (by simp [Builtin.max_, Builtin.max2])) (.i _ _) hK
theorem ex_mn {ts : Array TypeId} {ty : TypeId} (hl : HLe H HT) (hR : Rel m HT g w) {x y : AV} {v u : Value} (hx : VR m x v) (hy : VR m y u)
    (h : ∃ k k' p q, x = .i k p ∧ y = .i k' q ∧ K (.i k (if q < p then q else p)) H) : Ex P (do pure (.value (← Builtin.min_ ts ty #[v, u]))) m H HT g w K := by
  obtain ⟨k, k', p, q, rfl, rfl, hK⟩ := h
  cases hx; cases hy
  exact Ex.same hl hR (run_v (by simp [Builtin.min_, Builtin.min2])) (.i _ _) hK

theorem ex_fi {t ft : TypeId} {f off : Nat} {d : TypeDesc} {fs : Array Field} {fd : Field} (ht : P.underlying t = some (.struct fs)) (hf : fs[f]? = some fd) (ho : fd.offset = off) (hft : fd.type = ft) (hd : P.underlying ft = some d) (ha : isAggD d = false)
    (hl : HLe H HT) (hR : Rel m HT g w) {x : AV} {v : Value} (hx : VR m x v) (h : ∃ cs c, x = .ag cs ∧ cs[off]? = some c ∧ K c H) : Ex P (do pure (.value (← Instr.field t v f))) m H HT g w K := by
  obtain ⟨cs, c, rfl, hc, hK⟩ := h
  obtain ⟨vs, rfl, hv⟩ := hx.ag_inv
  obtain ⟨u, h1, h2, h3⟩ := hv.get hc
  subst hft
  subst ho
  refine Ex.same hl hR (v := u) (run_v ?_) h3 hK
  have h1' : vs[fd.offset]? = some u := by simpa using h1
  simp [Instr.field, run_underlying ht, hf, asAgg, part, run_isAgg hd, ha, h1']
theorem ex_fin {t ft : TypeId} {f off : Nat} {d : TypeDesc} {fs : Array Field} {fd : Field} {i : TypeInfo} (ht : P.underlying t = some (.struct fs)) (hf : fs[f]? = some fd) (ho : fd.offset = off) (hft : fd.type = ft) (hd : P.underlying ft = some d) (ha : isAggD d = true)
    (hi : P.info? ft = some i) (hl : HLe H HT) (hR : Rel m HT g w) {x : AV} {v : Value} (hx : VR m x v) (h : ∃ cs, x = .ag cs ∧ K (.ag ((cs.drop off).take i.size)) H) : Ex P (do pure (.value (← Instr.field t v f))) m H HT g w K := by
  obtain ⟨cs, rfl, hK⟩ := h
  obtain ⟨vs, rfl, hv⟩ := hx.ag_inv
  subst hft
  subst ho
  refine Ex.same hl hR (v := .agg ((vs.toList.drop fd.offset).take i.size).toArray) (run_v ?_) ((hv.drop _).take _).ag hK
  have he : vs.extract fd.offset (fd.offset + i.size) = ((vs.toList.drop fd.offset).take i.size).toArray := by
    apply Array.ext'
    simp [List.extract_eq_take_drop]
  simp only [Instr.field, Sem.run_bind, run_underlying ht, Result.andThen_ok, hf, asAgg, part, run_isAgg hd, ha, run_sizeOf hi, Sem.run_pure, if_true, he]

theorem afill_length {place : Nat → Option (Nat × Nat)} : ∀ (parts : List (Nat × AV)) (cells r : List AV), afill place cells parts = some r → r.length = cells.length
  | [], cells, r, h => by simp only [afill, Option.some.injEq] at h; rw [h]
  | (i, x) :: ps, cells, r, h => by
    simp only [afill] at h
    split at h
    · rename_i off size cs _ _
      split at h
      · rename_i hin
        rw [afill_length ps _ r h, splice_length _ _ _ hin.2]
      · cases h
    · cases h

theorem ex_bs {t e : TypeId} {i : TypeInfo} {z : Value} {len : Nat} {parts : Array (Nat × Operand)} {ρ : Operand → Value} (ht : P.underlying t = some (.slice e)) (hi : P.info? e = some i) (hz : i.zero = some z) (hcells : len * i.size ≤ 2 ^ 24)
    (hzs : z.cells.size = i.size) {zs : List AV} (hzl : leafs ((Array.range (len * i.size)).map (z.cells[· % z.cells.size]!)).toList = some zs) (hl : HLe H HT) (hR : Rel m HT g w) {ps : List (Nat × AV)}
    (hps : ps.length = (parts.map fun p => (p.1, ρ p.2)).toList.length ∧ ∀ (j : Nat) (p : Nat × AV) (q : Nat × Value), ps[j]? = some p → (parts.map fun p => (p.1, ρ p.2)).toList[j]? = some q → p.1 = q.1 ∧ VR m p.2 q.2)
    (h : ∃ cs, afill (fun k => some (k * i.size, i.size)) zs ps = some cs ∧ ∀ id, H id = none → K (.s id 0 len) (upd H id ⟨cs, true, i.size⟩)) :
    Ex P (do pure (.value (← Instr.buildSlice t len (parts.map fun p => (p.1, ρ p.2))))) m H HT g w K := by
  obtain ⟨cs, hcs, hK⟩ := h
  have hv := leafs_some hzl m
  obtain ⟨vr, h1, h2⟩ := afill_rel ps _ zs ((Array.range (len * i.size)).map (z.cells[· % z.cells.size]!)) cs hps.1 hps.2 hv hcs
  have hcl : cs.length = len * i.size := by rw [afill_length _ _ _ hcs, hv.1]; simp
  have hlen : vr.size = len * i.size := by have := h2.1; simp at this; omega
  rw [Array.toList_map] at h1
  refine ex_new hl hR (ob := ⟨cs, true, i.size⟩) (cs := vr) (t := e) (x := fun id => .s id 0 len) (v := .slice (some ⟨w.heap.size, 0, none⟩) len len) (by simp only; omega) (fun j c hj => ?_) (run_v ?_) (fun m' id hid => ?_) hK
  · obtain ⟨u, a, b, d⟩ := h2.get hj
    exact ⟨u, by simpa using a, b, d⟩
  · have hn : ¬ (len * i.size > 2 ^ 24) := by omega
    by_cases h0 : len * i.size = 0
    · simp only [h0, Array.range_zero', Array.map_empty] at h1
      simp only [Instr.buildSlice, Sem.run_bind, run_underlying ht, Result.andThen_ok, run_sizeOf hi, h0, if_neg (show ¬ (0 > 2 ^ 24) by decide), if_true, Sem.run_pure, Array.range_zero', Array.map_empty, Array.toList_map, h1]
      simp [newRow]
    · simp only [Instr.buildSlice, Sem.run_bind, run_underlying ht, Result.andThen_ok, run_sizeOf hi, if_neg hn, if_neg h0, Sem.run_pure, zeroValue, typeInfo, run_program, hi, hz, Array.toList_map, h1]
      simp [newRow]
  · exact .s (e := ⟨w.heap.size, 0, i.size, vr.size⟩) hid (Nat.le_refl _) (.inr ⟨by simp, by simp [hlen]⟩)


theorem Rel.more {m : AMap} {H : AH} {g : Out} {w : World} (h : Rel m H g w) (o : Obj) : Rel m H g (w.alloc o) := by
  refine ⟨h.os, h.tape, h.output, by simp; exact Nat.le_succ_of_le h.size, ?_, h.sep, ?_, h.rawsep, h.fin⟩
  · intro j oj hj
    obtain ⟨ej, he, hor⟩ := h.live j oj hj
    have hlt := h.lt hj he
    obtain ⟨a1, a2, cs', t', fr, a3, a4, a5, a6⟩ := hor
    exact ⟨ej, he, a1, a2, cs', t', fr, by rw [heap_alloc_old w _ _ hlt]; exact a3, a4, a5, a6⟩
  · intro b o' hb
    have := h.raw b o' hb
    have hlt : b < w.heap.size := by
      rcases Nat.lt_or_ge b w.heap.size with h | h
      · exact h
      · rw [Array.getElem?_eq_none h] at this; cases this
    rw [heap_alloc_old w _ _ hlt]
    exact this

theorem ex_be {t e : TypeId} {i : TypeInfo} (ht : P.underlying t = some (.slice e)) (hi : P.info? e = some i) (hl : HLe H HT) (hR : Rel m HT g w) (h : K .es H) : Ex P (do pure (.value (← Instr.buildSlice t 0 #[]))) m H HT g w K := by
  refine ⟨.es, .slice (some ⟨w.heap.size, 0, none⟩) 0 0, w.alloc (.cells #[] e), m, H, HT, .inl (run_v ?_), .es, .refl hl, hR.more _, h⟩
  simp [Instr.buildSlice, run_underlying ht, run_sizeOf hi, Array.range_zero', Instr.fill, newRow]

theorem ex_bd {t : TypeId} {fs : Array Field} {i : TypeInfo} {z : Value} {parts : Array (Nat × Operand)} {ρ : Operand → Value} {places : List (Nat × Nat)} (ht : P.underlying t = some (.struct fs)) (hi : P.info? t = some i) (hz : i.zero = some z)
    (hpl : fs.toList.mapM (fun f => (P.info? f.type).map fun i => (f.offset, i.size)) = some places) {zs : List AV} (hzl : leafs z.cells.toList = some zs) (hl : HLe H HT) (hR : Rel m HT g w) {ps : List (Nat × AV)}
    (hps : ps.length = (parts.map fun p => (p.1, ρ p.2)).toList.length ∧ ∀ (j : Nat) (p : Nat × AV) (q : Nat × Value), ps[j]? = some p → (parts.map fun p => (p.1, ρ p.2)).toList[j]? = some q → p.1 = q.1 ∧ VR m p.2 q.2)
    (h : ∃ cs, afill (places.toArray[·]?) zs ps = some cs ∧ K (.ag cs) H) :
    Ex P (do pure (.value (← Instr.build t (parts.map fun p => (p.1, ρ p.2))))) m H HT g w K := by
  obtain ⟨cs, hcs, hK⟩ := h
  have hv := leafs_some hzl m
  obtain ⟨vr, h1, h2⟩ := afill_rel ps _ zs z.cells cs hps.1 hps.2 hv hcs
  refine Ex.same hl hR (v := .agg vr) (run_v ?_) (by simpa using h2.ag) hK
  refine run_build w t _ vr ?_
  simp only [Program.built, ht, hi, hz, hpl]
  exact h1

end Go.Proofs.Ytdkdainipanacaa
