/- The slim operations, how they come of the machine's, and that the machine does as they say. No condition. -/
import Derived.Test.YtpppkmeolknofaaA6
namespace Go.Proofs.Ytpppkmeolknofaa
open Go Go.RowKit
set_option linter.unusedSimpArgs false
set_option linter.unusedVariables false

inductive SO where
  | mv (x : SV)
  | pk (c x y : SV)
  | bin (op : BinOp) (x y : SV)
  | eb (neg : Bool) (x y : SV)
  | en (neg : Bool) (x y : SV)
  | ep (neg : Bool) (x y : SV)
  | un (op : UnOp) (x : SV)
  | cv (k : IntKind) (x : SV)
  | ld (x : SV)
  | ldn (n : Nat) (x : SV)
  | st (n : Nat) (x v : SV)
  | ix (sz : Nat) (x i : SV)
  | fd (off : Nat) (x : SV)
  | sl (sz : Nat) (x : SV) (lo hi : Option SV)
  | sl0 (x : SV)
  | ms (bytes : Nat) (zero : AV) (len cap : SV)
  | bs (sz : Nat) (zs : List AV) (len : Nat) (parts : List (Nat × SV))
  | be
  | bk (sz : Nat) (cs : List AV) (len : Nat)
  | bx (x : SV)
  | al (zs : List AV)
  | bd (zs : List AV) (places : List (Nat × Nat)) (parts : List (Nat × SV))
  | fi (off : Nat) (x : SV)
  | fin (off n : Nat) (x : SV)
  | ex (x : SV) (i : Nat)
  | nc (x : SV)
  | ln (x : SV)
  | ap (sz bytes : Nat) (x y : SV)
  | cp (x y : SV)
  | mx (x y : SV)
  | mn (x y : SV)
  | ca (f : FuncId) (args : List SV)

structure SOp where
  dst : Option Nat
  op : SO
  grd : Option (Nat × Bool) := none

def o1 (x : Operand) (f : SV → SO) : Option SO := (ofO x).map f
def o2 (x y : Operand) (f : SV → SV → SO) : Option SO := match ofO x, ofO y with | some a, some b => some (f a b) | _, _ => none
def oL : List Operand → Option (List SV)
  | [] => some []
  | x :: xs => match ofO x, oL xs with | some a, some b => some (a :: b) | _, _ => none
def oP : List (Nat × Operand) → Option (List (Nat × SV))
  | [] => some []
  | (i, x) :: xs => match ofO x, oP xs with | some a, some b => some ((i, a) :: b) | _, _ => none
def oO : Option Operand → Option (Option SV)
  | none => some none
  | some x => (ofO x).map some

def sliceElem (P : Program) (t : TypeId) : Option TypeInfo := match P.underlying t with | some (.slice e) => P.info? e | _ => none
def fieldOff (P : Program) (t : TypeId) (f : Nat) : Option (Nat × TypeId) := match P.underlying t with
  | some (.struct fs) => match fs[f]? with
    | some fd => match P.info? fd.type with
      | some i => if i.size = 0 then none else some (fd.offset, fd.type)
      | none => none
    | none => none
  | _ => none
def aggV : Value → Bool
  | .agg _ => true
  | _ => false
def isConst0 : Operand → Bool
  | .const (.int _ 0) => true
  | _ => false
def leafs (zs : List Value) : Option (List AV) := if (zs.all fun v => (leafOf v).leaf) then some (zs.map leafOf) else none

def constP : List (Nat × SV) → Option (List (Nat × AV))
  | [] => some []
  | (i, .k v) :: ps => match constP ps with | some r => some ((i, v) :: r) | none => none
  | _ => none

def trO (P : Program) (o : Oper) : Option SO :=
  match o.op with
  | .move x => o1 x .mv
  | .assign x => o1 x .mv
  | .pick c x y => match ofO c with | some c => o2 x y (.pk c) | none => none
  | .binOp op t x y _ => match op with
    | .eql => match P.underlying t with | some .bool => o2 x y (.eb false) | some (.slice _) => o2 x y (.en false) | some (.pointer _) => o2 x y (.ep false) | some (.int _) => o2 x y (.bin .eql) | _ => none
    | .neq => match P.underlying t with | some .bool => o2 x y (.eb true) | some (.slice _) => o2 x y (.en true) | some (.pointer _) => o2 x y (.ep true) | some (.int _) => o2 x y (.bin .neq) | _ => none
    | op => o2 x y (.bin op)
  | .unOp op _ x => o1 x (.un op)
  | .convert s d x => match P.underlying s, P.underlying d with | some (.int _), some (.int k) => o1 x (.cv k) | _, _ => none
  | .nilCheck x => o1 x .nc
  | .extract x i => o1 x (.ex · i)
  | .load t x => match P.underlying t, P.info? t with | some d, some i => if isAggD d then o1 x (.ldn i.size) else o1 x .ld | _, _ => none
  | .store t x v => match P.info? t with | some i => o2 x v (.st i.size) | none => none
  | .indexAddr t x ix => match sliceElem P t with | some i => o2 x ix (.ix i.size) | none => none
  | .fieldAddr t x f => match fieldOff P t f with | some (off, _) => o1 x (.fd off) | none => none
  | .slice t x lo hi mx => match sliceElem P t with
    | some i => match mx with
      | none => match ofO x, oO lo, oO hi with | some x, some lo, some hi => some (.sl i.size x lo hi) | _, _, _ => none
      | some mx => match lo, hi with | none, some hi => if isConst0 hi && isConst0 mx then o1 x .sl0 else none | _, _ => none
    | none => none
  | .makeSlice t l c => match sliceElem P t with
    | some i => match i.zero with
      | some z => if i.size = 1 ∧ aggV z = false ∧ (leafOf z).leaf = true then o2 l c (.ms i.bytes (leafOf z)) else none
      | none => none
    | none => none
  | .buildSlice t len parts => match sliceElem P t with
    | some i => match i.zero with
      | some z => if len * i.size ≤ 2 ^ 24 ∧ z.cells.size = i.size then
          match leafs ((Array.range (len * i.size)).map (z.cells[· % z.cells.size]!)).toList, oP parts.toList with
          | some zs, some ps =>
            if len = 0 ∧ parts.size = 0 then some .be
            else match constP ps with
              | some cs => match afill (fun k => some (k * i.size, i.size)) zs cs with | some r => some (.bk i.size r len) | none => some (.bs i.size zs len ps)
              | none => some (.bs i.size zs len ps)
          | _, _ => none
        else none
      | none => none
    | none => none
  | .box _ x => o1 x .bx
  | .alloc t => match P.info? t with
    | some i => match i.zero with | some z => (leafs z.cells.toList).map .al | none => none
    | none => none
  | .build t parts => match P.underlying t, P.info? t with
    | some (.struct fs), some i => match i.zero, fs.toList.mapM (fun f => (P.info? f.type).map fun i => (f.offset, i.size)) with
      | some z, some places => match leafs z.cells.toList, oP parts.toList with
        | some zs, some ps => some (.bd zs places ps)
        | _, _ => none
      | _, _ => none
    | _, _ => none
  | .field t x f => match fieldOff P t f with
    | some (off, ft) => match P.underlying ft, P.info? ft with
      | some d, some i => if isAggD d then o1 x (.fin off i.size) else o1 x (.fi off)
      | _, _ => none
    | none => none
  | .call c => match c.callee with
    | .value (.func f) => (oL c.args.toList).map (.ca f)
    | .builtin .len => match c.args.toList, c.argTypes.toList with
      | [x], [t] => match P.underlying t with | some (.slice _) => o1 x .ln | _ => none
      | _, _ => none
    | .builtin .append => match c.args.toList, c.argTypes.toList with
      | [x, y], [t, u] => if t = u then match sliceElem P t with
          | some i => match i.zero with | some z => if z.cells.size = i.size ∧ 0 < i.size then o2 x y (.ap i.size i.bytes) else none | none => none
          | none => none else none
      | _, _ => none
    | .builtin .copy => match c.args.toList, c.argTypes.toList with
      | [x, y], [t, _] => match sliceElem P t with | some i => if i.size = 1 then o2 x y .cp else none | none => none
      | _, _ => none
    | .builtin .max => match c.args.toList with | [x, y] => o2 x y .mx | _ => none
    | .builtin .min => match c.args.toList with | [x, y] => o2 x y .mn | _ => none
    | _ => none
  | _ => none

def SO.svs : SO → List SV
  | .mv x | .un _ x | .cv _ x | .ld x | .ldn _ x | .fd _ x | .sl0 x | .bx x | .fi _ x | .fin _ _ x | .ex x _ | .nc x | .ln x => [x]
  | .pk c x y => [c, x, y]
  | .bin _ x y | .eb _ x y | .en _ x y | .ep _ x y | .st _ x y | .ix _ x y | .ms _ _ x y | .ap _ _ x y | .cp x y | .mx x y | .mn x y => [x, y]
  | .sl _ x lo hi => x :: (lo.toList ++ hi.toList)
  | .bs _ _ _ ps => ps.map (·.2)
  | .bd _ _ ps => ps.map (·.2)
  | .al _ => []
  | .be => []
  | .bk _ _ _ => []
  | .ca _ args => args

def aen (neg : Bool) (x y : AV) (K : AV → Prop) : Prop :=
  match x, y with
  | .ns, .ns => K (.b (!neg))
  | .s _ _ _, .ns => K (.b neg)
  | .es, .ns => K (.b neg)
  | _, _ => False

def aep (neg : Bool) (x y : AV) (K : AV → Prop) : Prop :=
  match x, y with
  | .np, .np => K (.b (!neg))
  | .p _ _, .np => K (.b neg)
  | _, _ => False

def aun (op : UnOp) (x : AV) (K : AV → Prop) : Prop :=
  match op, x with
  | .neg, .i k n => arK k (0 - n) K
  | .not, .b t => K (.b (!t))
  | .xor, .i k n => K (.i k (k.wrap (BitVec.ofInt k.bits (if k.signed then -1 else k.max) ^^^ BitVec.ofInt k.bits n).toNat))
  | _, _ => False

def aop (o : SO) (a : Nat → AV) (H : AH) (K : AV → AH → Prop) : Prop :=
  match o with
  | .mv x => K (evS a x) H
  | .pk c x y => ∃ t, evS a c = .b t ∧ K (bif t then evS a x else evS a y) H
  | .bin op x y => abin op (evS a x) (evS a y) (fun v => K v H)
  | .eb neg x y => ∃ p q, evS a x = .b p ∧ evS a y = .b q ∧ K (.b (bif neg then p != q else p == q)) H
  | .en neg x y => aen neg (evS a x) (evS a y) (fun v => K v H)
  | .ep neg x y => aep neg (evS a x) (evS a y) (fun v => K v H)
  | .un op x => aun op (evS a x) (fun v => K v H)
  | .cv k x => ∃ k' n, evS a x = .i k' n ∧ arK k n (fun v => K v H)
  | .ld x => ∃ id off c, evS a x = .p id off ∧ rdc H id off = some c ∧ K c H
  | .ldn n x => ∃ id off ob, evS a x = .p id off ∧ H id = some ob ∧ off + n ≤ ob.cells.length ∧ K (.ag ((ob.cells.drop off).take n)) H
  | .st n x v => ∃ id off ob cs, evS a x = .p id off ∧ H id = some ob ∧ ob.rw = true ∧ cellsOf (evS a v) = some cs ∧ cs.length = n ∧ off + n ≤ ob.cells.length ∧ K .u (upd H id { ob with cells := splice ob.cells off cs })
  | .ix sz x i => ∃ id off len k n, evS a x = .s id off len ∧ evS a i = .i k n ∧ 0 ≤ n ∧ n < (len : Int) ∧ K (.p id (off + n.toNat * sz)) H
  | .fd o x => ∃ id off, evS a x = .p id off ∧ K (.p id (off + o)) H
  | .sl sz x lo hi => (∃ id off len l r ob, evS a x = .s id off len ∧ H id = some ob ∧ ob.sz = sz ∧ bnd (lo.map (evS a)) 0 l ∧ bnd (hi.map (evS a)) len r ∧ 0 ≤ l ∧ l ≤ r ∧ r ≤ (len : Int) ∧ K (.s id (off + l.toNat * sz) (r.toNat - l.toNat)) H) ∨
      ((evS a x = .ns ∨ evS a x = .es) ∧ bnd (lo.map (evS a)) 0 0 ∧ bnd (hi.map (evS a)) 0 0 ∧ K (evS a x) H)
  | .sl0 x => (evS a x = .ns ∧ K .ns H) ∨ ((evS a x = .es ∨ ∃ id off len, evS a x = .s id off len) ∧ K .es H)
  | .ms bytes z x y => ∃ k k' l c, evS a x = .i k l ∧ evS a y = .i k' c ∧ 0 ≤ l ∧ l ≤ c ∧ (bytes : Int) * c ≤ 281474976710656 ∧ c ≤ 9223372036854775807 ∧ ∀ id, H id = none → K (.s id 0 l.toNat) (upd H id ⟨List.replicate l.toNat z, true, 1⟩)
  | .bs sz zs len ps => ∃ cs, afill (fun i => some (i * sz, sz)) zs (ps.map fun p => (p.1, evS a p.2)) = some cs ∧ ∀ id, H id = none → K (.s id 0 len) (upd H id ⟨cs, true, sz⟩)
  | .be => K .es H
  | .bk sz cs len => ∀ id, H id = none → K (.s id 0 len) (upd H id ⟨cs, true, sz⟩)
  | .bx x => ∃ cs, cellsOf (evS a x) = some cs ∧ ∀ id, H id = none → K (.p id 0) (upd H id ⟨cs, true, 0⟩)
  | .al zs => ∀ id, H id = none → K (.p id 0) (upd H id ⟨zs, true, 0⟩)
  | .bd zs places ps => ∃ cs, afill (places.toArray[·]?) zs (ps.map fun p => (p.1, evS a p.2)) = some cs ∧ K (.ag cs) H
  | .fi off x => ∃ cs c, evS a x = .ag cs ∧ cs[off]? = some c ∧ K c H
  | .fin off n x => ∃ cs, evS a x = .ag cs ∧ K (.ag ((cs.drop off).take n)) H
  | .ex x i => ∃ vs c, evS a x = .tu vs ∧ vs[i]? = some c ∧ K c H
  | .nc x => ∃ id off, evS a x = .p id off ∧ K (.p id off) H
  | .ln x => (∃ id off len, evS a x = .s id off len ∧ K (.i .i64 len) H) ∨ ((evS a x = .ns ∨ evS a x = .es) ∧ K (.i .i64 0) H)
  | .ap sz bytes x y => ∃ k news, src H sz (evS a y) = some (k, news) ∧
      ((evS a x = .ns ∨ evS a x = .es) ∧ (k = 0 → K (evS a x) H) ∧ (0 < k → k * bytes ≤ 140737488355328 ∧ k ≤ maxLen ∧ ∀ id, H id = none → K (.s id 0 k) (upd H id ⟨news, true, sz⟩)) ∨
       ∃ id off len ob, evS a x = .s id off len ∧ H id = some ob ∧ ob.rw = true ∧ ob.sz = sz ∧ off + len * sz ≤ ob.cells.length ∧ (len + k) * bytes ≤ 140737488355328 ∧ len + k ≤ maxLen ∧
         ∀ id', H id' = none → K (.s id' 0 (len + k)) (upd (del H id) id' ⟨(ob.cells.drop off).take (len * sz) ++ news, true, sz⟩))
  | .cp x y => ∃ id off len ob k news, evS a x = .s id off len ∧ H id = some ob ∧ ob.rw = true ∧ ob.sz = 1 ∧ off + len ≤ ob.cells.length ∧ src H 1 (evS a y) = some (k, news) ∧
      K (.i .i64 (Nat.min k len)) (upd H id { ob with cells := splice ob.cells off (news.take (Nat.min k len)) })
  | .mx x y => ∃ k k' p q, evS a x = .i k p ∧ evS a y = .i k' q ∧ K (.i k (if q > p then q else p)) H
  | .mn x y => ∃ k k' p q, evS a x = .i k p ∧ evS a y = .i k' q ∧ K (.i k (if q < p then q else p)) H
  | .ca _ _ => False

end Go.Proofs.Ytpppkmeolknofaa
