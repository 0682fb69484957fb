/- Words for stepping through slim code. No condition. -/
import Derived.Test.YtpppkmeolknofaaB6
import Derived.KernelRfl
namespace Go.Proofs.Ytpppkmeolknofaa
open Go Go.RowKit
set_option linter.constructorNameAsVariable false
set_option linter.unusedSimpArgs false
set_option linter.unusedVariables false

abbrev o (d : Nat) (op : SO) : SOp := ⟨some d, op, none⟩
abbrev q (op : SO) : SOp := ⟨none, op, none⟩
abbrev og (d : Nat) (op : SO) (j : Nat) (w : Bool) : SOp := ⟨some d, op, some (j, w)⟩
abbrev ci (n : Int) : SV := .k (.i .i64 n)
abbrev cb (b : Bool) : SV := .k (.b b)
abbrev I (n : Int) : AV := .i .i64 n

theorem put_eq (a : Nat → AV) (d : Nat) (v : AV) : put a d v d = v := by simp [put, beq_self]
theorem put_ne {a : Nat → AV} {d t : Nat} {v : AV} (h : t ≠ d) : put a d v t = a t := put_other h
theorem putD_some (a : Nat → AV) (d : Nat) (v : AV) : putD a (some d) v = put a d v := rfl
theorem putD_none (a : Nat → AV) (v : AV) : putD a none v = a := rfl
theorem evS_t (a : Nat → AV) (n : Nat) : evS a (.t n) = a n := rfl
theorem evS_k (a : Nat → AV) (v : AV) : evS a (.k v) = v := rfl

/-- slots told by a list, all others unknown -/
def Sl (l : List (Nat × AV)) : Nat → AV := fun t => match l with
  | [] => .u
  | (d, v) :: l => bif Nat.beq t d then v else Sl l t
theorem Sl_eq (d : Nat) (v : AV) (l : List (Nat × AV)) : Sl ((d, v) :: l) d = v := by simp [Sl, beq_self]
theorem Sl_ne {d t : Nat} {v : AV} {l : List (Nat × AV)} (h : t ≠ d) : Sl ((d, v) :: l) t = Sl l t := by simp [Sl, beq_ne h]
theorem Sl_nil (t : Nat) : Sl [] t = .u := rfl

def Has (a : Nat → AV) : List (Nat × AV) → Prop
  | [] => True
  | (d, v) :: l => a d = v ∧ Has a l
theorem Has.mem {a : Nat → AV} : ∀ {l : List (Nat × AV)}, Has a l → ∀ p ∈ l, a p.1 = p.2
  | [], _ => by simp
  | (d, v) :: l, h => fun p hp => by
    rcases List.mem_cons.mp hp with e | e
    · subst e; exact h.1
    · exact Has.mem h.2 p e

theorem weak_Sl {a : Nat → AV} : ∀ {l : List (Nat × AV)}, (∀ p ∈ l, a p.1 = p.2) → Weak a (Sl l)
  | [], _ => fun t => .inl rfl
  | (d, v) :: l, h => fun t => by
    by_cases e : t = d
    · subst e
      rw [Sl_eq]
      exact .inr (h (t, v) (by simp)).symm
    · rw [Sl_ne e]
      exact weak_Sl (fun p hp => h p (by simp [hp])) t

theorem aopL_nil {P : Program} {pv : Bool} {a : Nat → AV} {H : AH} {K : (Nat → AV) → AH → Prop} : aopL P pv [] a H K = K a H := rfl
theorem aopL_cons {P : Program} {pv : Bool} {r : SOp} {rs : List SOp} {a : Nat → AV} {H : AH} {K : (Nat → AV) → AH → Prop} :
    aopL P pv (r :: rs) a H K = avG P pv r a H (fun v H' => aopL P pv rs (putD a r.dst v) H' K) := rfl
theorem avG_none {P : Program} {pv : Bool} {d : Option Nat} {op : SO} {a : Nat → AV} {H : AH} {V : AV → AH → Prop} : avG P pv ⟨d, op, none⟩ a H V = astepV P pv op a H V := rfl
theorem avG_some {P : Program} {pv : Bool} {d : Option Nat} {op : SO} {j : Nat} {w : Bool} {a : Nat → AV} {H : AH} {V : AV → AH → Prop} :
    avG P pv ⟨d, op, some (j, w)⟩ a H V = ∃ t, a j = .b t ∧ (t = w → astepV P pv op a H V) ∧ (t ≠ w → V .u H) := rfl

variable {P : Program} {pv : Bool} {rs : List SOp} {a : Nat → AV} {H : AH} {K : (Nat → AV) → AH → Prop} {n : Nat} {d : Nat}
theorem mI {x : SV} {kk : IntKind} {m : Int} (h : evS a x = .i kk m) (k : aopL P pv rs (put a d (.i kk m)) H K) : aopL P pv (⟨some d, .mv x, none⟩ :: rs) a H K := by
  show aopL P pv rs (put a d (evS a x)) H K
  rw [h]; exact k
theorem mB {x : SV} {t : Bool} (h : evS a x = .b t) (k : aopL P pv rs (put a d (.b t)) H K) : aopL P pv (⟨some d, .mv x, none⟩ :: rs) a H K := by
  show aopL P pv rs (put a d (evS a x)) H K
  rw [h]; exact k
theorem mS {x : SV} {id off len : Nat} (h : evS a x = .s id off len) (k : aopL P pv rs (put a d (.s id off len)) H K) : aopL P pv (⟨some d, .mv x, none⟩ :: rs) a H K := by
  show aopL P pv rs (put a d (evS a x)) H K
  rw [h]; exact k
theorem mP {x : SV} {id off : Nat} (h : evS a x = .p id off) (k : aopL P pv rs (put a d (.p id off)) H K) : aopL P pv (⟨some d, .mv x, none⟩ :: rs) a H K := by
  show aopL P pv rs (put a d (evS a x)) H K
  rw [h]; exact k
theorem mN {x : SV} (h : evS a x = .ns) (k : aopL P pv rs (put a d (.ns)) H K) : aopL P pv (⟨some d, .mv x, none⟩ :: rs) a H K := by
  show aopL P pv rs (put a d (evS a x)) H K
  rw [h]; exact k
theorem mE {x : SV} (h : evS a x = .es) (k : aopL P pv rs (put a d (.es)) H K) : aopL P pv (⟨some d, .mv x, none⟩ :: rs) a H K := by
  show aopL P pv rs (put a d (evS a x)) H K
  rw [h]; exact k
theorem mQ {x : SV} (h : evS a x = .np) (k : aopL P pv rs (put a d (.np)) H K) : aopL P pv (⟨some d, .mv x, none⟩ :: rs) a H K := by
  show aopL P pv rs (put a d (evS a x)) H K
  rw [h]; exact k
theorem mA {x : SV} {cs : List AV} (h : evS a x = .ag cs) (k : aopL P pv rs (put a d (.ag cs)) H K) : aopL P pv (⟨some d, .mv x, none⟩ :: rs) a H K := by
  show aopL P pv rs (put a d (evS a x)) H K
  rw [h]; exact k
theorem mT {x : SV} {cs : List AV} (h : evS a x = .tu cs) (k : aopL P pv rs (put a d (.tu cs)) H K) : aopL P pv (⟨some d, .mv x, none⟩ :: rs) a H K := by
  show aopL P pv rs (put a d (evS a x)) H K
  rw [h]; exact k
theorem mC {x : SV} {v : Value} (h : evS a x = .c v) (k : aopL P pv rs (put a d (.c v)) H K) : aopL P pv (⟨some d, .mv x, none⟩ :: rs) a H K := by
  show aopL P pv rs (put a d (evS a x)) H K
  rw [h]; exact k
theorem mX {x : SV} {v : AV} (h : evS a x = v) (k : aopL P pv rs (put a d (v)) H K) : aopL P pv (⟨some d, .mv x, none⟩ :: rs) a H K := by
  show aopL P pv rs (put a d (evS a x)) H K
  rw [h]; exact k
theorem bin_of {op : BinOp} {x y : SV} (h : abin op (evS a x) (evS a y) (fun v => aopL P pv rs (put a d v) H K)) : aopL P pv (⟨some d, .bin op x y, none⟩ :: rs) a H K := h
theorem bA {x y : SV} {m l : Int} (hx : evS a x = I m) (hy : evS a y = I l) (hb : -9223372036854775808 ≤ m + l ∧ m + l ≤ 9223372036854775807) (k : aopL P pv rs (put a d (I (m + l))) H K) : aopL P pv (⟨some d, .bin .add x y, none⟩ :: rs) a H K := by
  refine bin_of ?_
  rw [hx, hy]; exact ⟨rfl, hb, k⟩
theorem bS {x y : SV} {m l : Int} (hx : evS a x = I m) (hy : evS a y = I l) (hb : -9223372036854775808 ≤ m - l ∧ m - l ≤ 9223372036854775807) (k : aopL P pv rs (put a d (I (m - l))) H K) : aopL P pv (⟨some d, .bin .sub x y, none⟩ :: rs) a H K := by
  refine bin_of ?_
  rw [hx, hy]; exact ⟨rfl, hb, k⟩
theorem bM {x y : SV} {m l : Int} (hx : evS a x = I m) (hy : evS a y = I l) (hb : -9223372036854775808 ≤ m * l ∧ m * l ≤ 9223372036854775807) (k : aopL P pv rs (put a d (I (m * l))) H K) : aopL P pv (⟨some d, .bin .mul x y, none⟩ :: rs) a H K := by
  refine bin_of ?_
  rw [hx, hy]; exact ⟨rfl, hb, k⟩
theorem bQ {x y : SV} {m l : Int} (hx : evS a x = I m) (hy : evS a y = I l) (h0 : 0 ≤ m ∧ m ≤ 9223372036854775807) (h1 : 0 < l) (k : aopL P pv rs (put a d (I (m / l))) H K) : aopL P pv (⟨some d, .bin .quo x y, none⟩ :: rs) a H K := by
  refine bin_of ?_
  rw [hx, hy]
  have e : m.tdiv l = m / l := Int.tdiv_eq_ediv_of_nonneg h0.1
  have h2 : 0 ≤ m / l := Int.ediv_nonneg h0.1 (by omega)
  have h3 : m / l ≤ m := Int.ediv_le_self l h0.1
  refine ⟨rfl, by omega, ?_⟩
  rw [e]; exact ⟨by omega, k⟩
theorem bR {x y : SV} {m l : Int} (hx : evS a x = I m) (hy : evS a y = I l) (h0 : 0 ≤ m) (h1 : 0 < l) (k : aopL P pv rs (put a d (I (m % l))) H K) : aopL P pv (⟨some d, .bin .rem x y, none⟩ :: rs) a H K := by
  refine bin_of ?_
  rw [hx, hy]
  have e : m.tmod l = m % l := Int.tmod_eq_emod_of_nonneg h0
  refine ⟨rfl, by omega, ?_⟩
  rw [e]; exact k
theorem bRn {x y : SV} {m l : Int} (hx : evS a x = I m) (hy : evS a y = I l) (h1 : l ≠ 0) (k : aopL P pv rs (put a d (I (m.tmod l))) H K) : aopL P pv (⟨some d, .bin .rem x y, none⟩ :: rs) a H K := by
  refine bin_of ?_
  rw [hx, hy]
  exact ⟨rfl, h1, k⟩
theorem cL {x y : SV} {kk : IntKind} {m l : Int} (hx : evS a x = .i kk m) (hy : evS a y = .i kk l) (k : aopL P pv rs (put a d (.b (decide (m < l)))) H K) : aopL P pv (⟨some d, .bin .lss x y, none⟩ :: rs) a H K := by
  refine bin_of ?_
  rw [hx, hy]; exact ⟨rfl, k⟩
theorem cG {x y : SV} {kk : IntKind} {m l : Int} (hx : evS a x = .i kk m) (hy : evS a y = .i kk l) (k : aopL P pv rs (put a d (.b (decide (l < m)))) H K) : aopL P pv (⟨some d, .bin .gtr x y, none⟩ :: rs) a H K := by
  refine bin_of ?_
  rw [hx, hy]; exact ⟨rfl, k⟩
theorem cLe {x y : SV} {kk : IntKind} {m l : Int} (hx : evS a x = .i kk m) (hy : evS a y = .i kk l) (k : aopL P pv rs (put a d (.b (decide (m ≤ l)))) H K) : aopL P pv (⟨some d, .bin .leq x y, none⟩ :: rs) a H K := by
  refine bin_of ?_
  rw [hx, hy]; exact ⟨rfl, k⟩
theorem cGe {x y : SV} {kk : IntKind} {m l : Int} (hx : evS a x = .i kk m) (hy : evS a y = .i kk l) (k : aopL P pv rs (put a d (.b (decide (l ≤ m)))) H K) : aopL P pv (⟨some d, .bin .geq x y, none⟩ :: rs) a H K := by
  refine bin_of ?_
  rw [hx, hy]; exact ⟨rfl, k⟩
theorem cE {x y : SV} {kk : IntKind} {m l : Int} (hx : evS a x = .i kk m) (hy : evS a y = .i kk l) (k : aopL P pv rs (put a d (.b (decide (m = l)))) H K) : aopL P pv (⟨some d, .bin .eql x y, none⟩ :: rs) a H K := by
  refine bin_of ?_
  rw [hx, hy]; exact ⟨rfl, k⟩
theorem cN {x y : SV} {kk : IntKind} {m l : Int} (hx : evS a x = .i kk m) (hy : evS a y = .i kk l) (k : aopL P pv rs (put a d (.b (decide (m ≠ l)))) H K) : aopL P pv (⟨some d, .bin .neq x y, none⟩ :: rs) a H K := by
  refine bin_of ?_
  rw [hx, hy]; exact ⟨rfl, k⟩
theorem pT {c x y : SV} (hc : evS a c = .b true) (k : aopL P pv rs (put a d (evS a x)) H K) : aopL P pv (⟨some d, .pk c x y, none⟩ :: rs) a H K := ⟨true, hc, k⟩
theorem pF {c x y : SV} (hc : evS a c = .b false) (k : aopL P pv rs (put a d (evS a y)) H K) : aopL P pv (⟨some d, .pk c x y, none⟩ :: rs) a H K := ⟨false, hc, k⟩
theorem nT {x : SV} {t : Bool} (hx : evS a x = .b t) (k : aopL P pv rs (put a d (.b (!t))) H K) : aopL P pv (⟨some d, .un .not x, none⟩ :: rs) a H K := by
  show aun .not (evS a x) _
  rw [hx]; exact k
theorem nG {x : SV} {m : Int} (hx : evS a x = I m) (hb : -9223372036854775807 ≤ m ∧ m ≤ 9223372036854775807) (k : aopL P pv rs (put a d (I (-m))) H K) : aopL P pv (⟨some d, .un .neg x, none⟩ :: rs) a H K := by
  show aun .neg (evS a x) _
  rw [hx]
  refine ⟨by omega, ?_⟩
  rw [Int.zero_sub]; exact k
theorem lD {x : SV} {id off : Nat} {v : AV} (hx : evS a x = .p id off) (hr : rdc H id off = some v) (k : aopL P pv rs (put a d v) H K) : aopL P pv (⟨some d, .ld x, none⟩ :: rs) a H K := ⟨id, off, v, hx, hr, k⟩
theorem lN {x : SV} {id off z : Nat} {ob : AObj} (hx : evS a x = .p id off) (ho : H id = some ob) (hl : off + z ≤ ob.cells.length) (k : aopL P pv rs (put a d (.ag ((ob.cells.drop off).take z))) H K) : aopL P pv (⟨some d, .ldn z x, none⟩ :: rs) a H K := ⟨id, off, ob, hx, ho, hl, k⟩
theorem sT {x y : SV} {id off z : Nat} {ob : AObj} {cs : List AV} (hx : evS a x = .p id off) (ho : H id = some ob) (hrw : ob.rw = true) (hc : cellsOf (evS a y) = some cs) (hl : cs.length = z) (hi : off + z ≤ ob.cells.length) (k : aopL P pv rs a (upd H id { ob with cells := splice ob.cells off cs }) K) : aopL P pv (⟨none, .st z x y, none⟩ :: rs) a H K := ⟨id, off, ob, cs, hx, ho, hrw, hc, hl, hi, k⟩
theorem iX {x i : SV} {id off len sz : Nat} {kk : IntKind} {m : Int} (hx : evS a x = .s id off len) (hi : evS a i = .i kk m) (h0 : 0 ≤ m) (h1 : m < (len : Int)) (k : aopL P pv rs (put a d (.p id (off + m.toNat * sz))) H K) : aopL P pv (⟨some d, .ix sz x i, none⟩ :: rs) a H K := ⟨id, off, len, kk, m, hx, hi, h0, h1, k⟩
theorem iX1 {x i : SV} {id off len m : Nat} {kk : IntKind} (hx : evS a x = .s id off len) (hi : evS a i = .i kk (m : Int)) (h1 : m < len) (k : aopL P pv rs (put a d (.p id (off + m))) H K) : aopL P pv (⟨some d, .ix 1 x i, none⟩ :: rs) a H K :=
  iX hx hi (by omega) (by omega) (by rw [show off + (m : Int).toNat * 1 = off + m by omega]; exact k)
theorem iX0 {x i : SV} {id len m : Nat} {kk : IntKind} (hx : evS a x = .s id 0 len) (hi : evS a i = .i kk (m : Int)) (h1 : m < len) (k : aopL P pv rs (put a d (.p id m)) H K) : aopL P pv (⟨some d, .ix 1 x i, none⟩ :: rs) a H K :=
  iX1 hx hi h1 (by rw [Nat.zero_add]; exact k)
theorem fD {x : SV} {id off z : Nat} (hx : evS a x = .p id off) (k : aopL P pv rs (put a d (.p id (off + z))) H K) : aopL P pv (⟨some d, .fd z x, none⟩ :: rs) a H K := ⟨id, off, hx, k⟩
theorem nC {x : SV} {id off : Nat} (hx : evS a x = .p id off) (k : aopL P pv rs (put a d (.p id off)) H K) : aopL P pv (⟨some d, .nc x, none⟩ :: rs) a H K := ⟨id, off, hx, k⟩
theorem lS {x : SV} {id off len : Nat} (hx : evS a x = .s id off len) (k : aopL P pv rs (put a d (I len)) H K) : aopL P pv (⟨some d, .ln x, none⟩ :: rs) a H K := .inl ⟨id, off, len, hx, k⟩
theorem lNs {x : SV} (hx : evS a x = .ns) (k : aopL P pv rs (put a d (I 0)) H K) : aopL P pv (⟨some d, .ln x, none⟩ :: rs) a H K := .inr ⟨.inl hx, k⟩
theorem lEs {x : SV} (hx : evS a x = .es) (k : aopL P pv rs (put a d (I 0)) H K) : aopL P pv (⟨some d, .ln x, none⟩ :: rs) a H K := .inr ⟨.inr hx, k⟩
theorem eX {x : SV} {vs : List AV} {v : AV} {j : Nat} (hx : evS a x = .tu vs) (hv : vs[j]? = some v) (k : aopL P pv rs (put a d v) H K) : aopL P pv (⟨some d, .ex x j, none⟩ :: rs) a H K := ⟨vs, v, hx, hv, k⟩
theorem mK {x y : SV} {by_ : Nat} {z : AV} {m l : Int} (hx : evS a x = I m) (hy : evS a y = I l) (h0 : 0 ≤ m) (h1 : m ≤ l) (h2 : (by_ : Int) * l ≤ 281474976710656) (h3 : l ≤ 9223372036854775807) (k : ∀ id, H id = none → aopL P pv rs (put a d (.s id 0 m.toNat)) (upd H id ⟨List.replicate m.toNat z, true, 1⟩) K) : aopL P pv (⟨some d, .ms by_ z x y, none⟩ :: rs) a H K := ⟨_, _, m, l, hx, hy, h0, h1, h2, h3, k⟩
theorem bX {x : SV} {cs : List AV} (hx : cellsOf (evS a x) = some cs) (k : ∀ id, H id = none → aopL P pv rs (put a d (.p id 0)) (upd H id ⟨cs, true, 0⟩) K) : aopL P pv (⟨some d, .bx x, none⟩ :: rs) a H K := ⟨cs, hx, k⟩
theorem aL {zs : List AV} (k : ∀ id, H id = none → aopL P pv rs (put a d (.p id 0)) (upd H id ⟨zs, true, 0⟩) K) : aopL P pv (⟨some d, .al zs, none⟩ :: rs) a H K := k
theorem bK {sz len : Nat} {cs : List AV} (k : ∀ id, H id = none → aopL P pv rs (put a d (.s id 0 len)) (upd H id ⟨cs, true, sz⟩) K) : aopL P pv (⟨some d, .bk sz cs len, none⟩ :: rs) a H K := k
theorem bE (k : aopL P pv rs (put a d .es) H K) : aopL P pv (⟨some d, .be, none⟩ :: rs) a H K := k
theorem bL {sz len : Nat} {zs cs : List AV} {ps : List (Nat × SV)} (hc : afill (fun i => some (i * sz, sz)) zs (ps.map fun p => (p.1, evS a p.2)) = some cs) (k : ∀ id, H id = none → aopL P pv rs (put a d (.s id 0 len)) (upd H id ⟨cs, true, sz⟩) K) : aopL P pv (⟨some d, .bs sz zs len ps, none⟩ :: rs) a H K := ⟨cs, hc, k⟩
theorem bD {zs cs : List AV} {places : List (Nat × Nat)} {ps : List (Nat × SV)} (hc : afill (places.toArray[·]?) zs (ps.map fun p => (p.1, evS a p.2)) = some cs) (k : aopL P pv rs (put a d (.ag cs)) H K) : aopL P pv (⟨some d, .bd zs places ps, none⟩ :: rs) a H K := ⟨cs, hc, k⟩
theorem fI {x : SV} {cs : List AV} {v : AV} {z : Nat} (hx : evS a x = .ag cs) (hv : cs[z]? = some v) (k : aopL P pv rs (put a d v) H K) : aopL P pv (⟨some d, .fi z x, none⟩ :: rs) a H K := ⟨cs, v, hx, hv, k⟩
theorem fN {x : SV} {cs : List AV} {z l : Nat} (hx : evS a x = .ag cs) (k : aopL P pv rs (put a d (.ag ((cs.drop z).take l))) H K) : aopL P pv (⟨some d, .fin z l x, none⟩ :: rs) a H K := ⟨cs, hx, k⟩
theorem mXx {x y : SV} {m l : Int} (hx : evS a x = I m) (hy : evS a y = I l) (k : aopL P pv rs (put a d (I (if l > m then l else m))) H K) : aopL P pv (⟨some d, .mx x y, none⟩ :: rs) a H K := ⟨_, _, m, l, hx, hy, k⟩
theorem mNn {x y : SV} {m l : Int} (hx : evS a x = I m) (hy : evS a y = I l) (k : aopL P pv rs (put a d (I (if l < m then l else m))) H K) : aopL P pv (⟨some d, .mn x y, none⟩ :: rs) a H K := ⟨_, _, m, l, hx, hy, k⟩
theorem cA {f : FuncId} {args : List SV} {dd : Option Nat} {R : AV → AH → Prop} (hc : ACalls P f (args.map (evS a)) H R) (k : ∀ r H', R r H' → aopL P false rs (putD a dd r) H' K) : aopL P false (⟨dd, .ca f args, none⟩ :: rs) a H K := ACalls.mono hc fun r H' h => ⟨fun e => (by cases e), k r H' h⟩
theorem cAt {f : FuncId} {args : List SV} {dd : Option Nat} {R : AV → AH → Prop} (hc : ACalls P f (args.map (evS a)) H R) (k : ∀ r H', R r H' → HLe H H' ∧ aopL P true rs (putD a dd r) H' K) : aopL P true (⟨dd, .ca f args, none⟩ :: rs) a H K := ACalls.mono hc fun r H' h => ⟨fun _ => (k r H' h).1, (k r H' h).2⟩
theorem gD {op : SO} {j : Nat} {w : Bool} {p : Prop} [Decidable p] (hj : a j = .b (decide p)) (h1 : p → aopL P pv ((if w then ⟨some d, op, none⟩ else ⟨some d, .mv (.k .u), none⟩) :: rs) a H K) (h2 : ¬ p → aopL P pv ((if w then ⟨some d, .mv (.k .u), none⟩ else ⟨some d, op, none⟩) :: rs) a H K) : aopL P pv (⟨some d, op, some (j, w)⟩ :: rs) a H K := by
  by_cases hp : p
  · refine ⟨true, by rw [hj, decide_eq_true hp], ?_, ?_⟩
    · intro e; subst e; exact h1 hp
    · intro e; have : w = false := by cases w <;> simp_all
      subst this; exact h1 hp
  · refine ⟨false, by rw [hj, decide_eq_false hp], ?_, ?_⟩
    · intro e; subst e; exact h2 hp
    · intro e; have : w = true := by cases w <;> simp_all
      subst this; exact h2 hp
theorem gO {op : SO} {j : Nat} {w : Bool} (hj : a j = .b w) (k : aopL P pv (⟨some d, op, none⟩ :: rs) a H K) : aopL P pv (⟨some d, op, some (j, w)⟩ :: rs) a H K := ⟨w, hj, fun _ => k, fun h => absurd rfl h⟩
theorem gN {op : SO} {j : Nat} {w t : Bool} (hj : a j = .b t) (ht : t = !w) (k : aopL P pv rs (put a d .u) H K) : aopL P pv (⟨some d, op, some (j, w)⟩ :: rs) a H K := ⟨t, hj, fun h => (by subst ht; cases w <;> cases h), fun _ => k⟩
theorem cvI {x : SV} {kk : IntKind} {m : Int} (hx : evS a x = .i kk m) (hb : -9223372036854775808 ≤ m ∧ m ≤ 9223372036854775807) (k : aopL P pv rs (put a d (I m)) H K) : aopL P pv (⟨some d, .cv .i64 x, none⟩ :: rs) a H K := ⟨kk, m, hx, hb, k⟩
theorem aE (h : K a H) : aopL P pv [] a H K := h
theorem rG {Q : Exit → (Nat → AV) → AH → Prop} (h : aopL P false rs a H (Q .normal)) : W P n (.reg rs) Q a H := W_reg h
theorem W_condD {Q : Exit → (Nat → AV) → AH → Prop} {s : SV} {x y : SC} {p : Prop} [Decidable p] (ht : evS a s = .b (decide p)) (h1 : p → W P n x Q a H) (h2 : ¬ p → W P n y Q a H) : W P n (.cond s x y) Q a H := W_cond ht (fun e => h1 (of_decide_eq_true e)) (fun e => h2 (of_decide_eq_false e))

theorem cLt {x y : SV} {kk : IntKind} {m l : Int} (hx : evS a x = .i kk m) (hy : evS a y = .i kk l) (hp : m < l) (k : aopL P pv rs (put a d (.b true)) H K) : aopL P pv (⟨some d, .bin .lss x y, none⟩ :: rs) a H K := cL hx hy (by rw [decide_eq_true hp]; exact k)
theorem cLf {x y : SV} {kk : IntKind} {m l : Int} (hx : evS a x = .i kk m) (hy : evS a y = .i kk l) (hp : l ≤ m) (k : aopL P pv rs (put a d (.b false)) H K) : aopL P pv (⟨some d, .bin .lss x y, none⟩ :: rs) a H K := cL hx hy (by rw [decide_eq_false (Int.not_lt.mpr hp)]; exact k)
theorem cGt {x y : SV} {kk : IntKind} {m l : Int} (hx : evS a x = .i kk m) (hy : evS a y = .i kk l) (hp : l < m) (k : aopL P pv rs (put a d (.b true)) H K) : aopL P pv (⟨some d, .bin .gtr x y, none⟩ :: rs) a H K := cG hx hy (by rw [decide_eq_true hp]; exact k)
theorem cGf {x y : SV} {kk : IntKind} {m l : Int} (hx : evS a x = .i kk m) (hy : evS a y = .i kk l) (hp : m ≤ l) (k : aopL P pv rs (put a d (.b false)) H K) : aopL P pv (⟨some d, .bin .gtr x y, none⟩ :: rs) a H K := cG hx hy (by rw [decide_eq_false (Int.not_lt.mpr hp)]; exact k)
theorem cLet {x y : SV} {kk : IntKind} {m l : Int} (hx : evS a x = .i kk m) (hy : evS a y = .i kk l) (hp : m ≤ l) (k : aopL P pv rs (put a d (.b true)) H K) : aopL P pv (⟨some d, .bin .leq x y, none⟩ :: rs) a H K := cLe hx hy (by rw [decide_eq_true hp]; exact k)
theorem cLef {x y : SV} {kk : IntKind} {m l : Int} (hx : evS a x = .i kk m) (hy : evS a y = .i kk l) (hp : l < m) (k : aopL P pv rs (put a d (.b false)) H K) : aopL P pv (⟨some d, .bin .leq x y, none⟩ :: rs) a H K := cLe hx hy (by rw [decide_eq_false (Int.not_le.mpr hp)]; exact k)
theorem cGet {x y : SV} {kk : IntKind} {m l : Int} (hx : evS a x = .i kk m) (hy : evS a y = .i kk l) (hp : l ≤ m) (k : aopL P pv rs (put a d (.b true)) H K) : aopL P pv (⟨some d, .bin .geq x y, none⟩ :: rs) a H K := cGe hx hy (by rw [decide_eq_true hp]; exact k)
theorem cGef {x y : SV} {kk : IntKind} {m l : Int} (hx : evS a x = .i kk m) (hy : evS a y = .i kk l) (hp : m < l) (k : aopL P pv rs (put a d (.b false)) H K) : aopL P pv (⟨some d, .bin .geq x y, none⟩ :: rs) a H K := cGe hx hy (by rw [decide_eq_false (Int.not_le.mpr hp)]; exact k)
theorem cEt {x y : SV} {kk : IntKind} {m l : Int} (hx : evS a x = .i kk m) (hy : evS a y = .i kk l) (hp : m = l) (k : aopL P pv rs (put a d (.b true)) H K) : aopL P pv (⟨some d, .bin .eql x y, none⟩ :: rs) a H K := cE hx hy (by rw [decide_eq_true hp]; exact k)
theorem cEf {x y : SV} {kk : IntKind} {m l : Int} (hx : evS a x = .i kk m) (hy : evS a y = .i kk l) (hp : m ≠ l) (k : aopL P pv rs (put a d (.b false)) H K) : aopL P pv (⟨some d, .bin .eql x y, none⟩ :: rs) a H K := cE hx hy (by rw [decide_eq_false (hp)]; exact k)
theorem cNt {x y : SV} {kk : IntKind} {m l : Int} (hx : evS a x = .i kk m) (hy : evS a y = .i kk l) (hp : m ≠ l) (k : aopL P pv rs (put a d (.b true)) H K) : aopL P pv (⟨some d, .bin .neq x y, none⟩ :: rs) a H K := cN hx hy (by rw [decide_eq_true hp]; exact k)
theorem cNf {x y : SV} {kk : IntKind} {m l : Int} (hx : evS a x = .i kk m) (hy : evS a y = .i kk l) (hp : m = l) (k : aopL P pv rs (put a d (.b false)) H K) : aopL P pv (⟨some d, .bin .neq x y, none⟩ :: rs) a H K := cN hx hy (by rw [decide_eq_false ((fun h => h hp))]; exact k)
theorem pTI {c x y : SV} {kk : IntKind} {m : Int} (hc : evS a c = .b true) (hv : evS a x = .i kk m) (k : aopL P pv rs (put a d (.i kk m)) H K) : aopL P pv (⟨some d, .pk c x y, none⟩ :: rs) a H K := pT hc (by rw [hv]; exact k)
theorem pTB {c x y : SV} {t : Bool} (hc : evS a c = .b true) (hv : evS a x = .b t) (k : aopL P pv rs (put a d (.b t)) H K) : aopL P pv (⟨some d, .pk c x y, none⟩ :: rs) a H K := pT hc (by rw [hv]; exact k)
theorem pFI {c x y : SV} {kk : IntKind} {m : Int} (hc : evS a c = .b false) (hv : evS a y = .i kk m) (k : aopL P pv rs (put a d (.i kk m)) H K) : aopL P pv (⟨some d, .pk c x y, none⟩ :: rs) a H K := pF hc (by rw [hv]; exact k)
theorem pFB {c x y : SV} {t : Bool} (hc : evS a c = .b false) (hv : evS a y = .b t) (k : aopL P pv rs (put a d (.b t)) H K) : aopL P pv (⟨some d, .pk c x y, none⟩ :: rs) a H K := pF hc (by rw [hv]; exact k)
theorem W_condT {Q : Exit → (Nat → AV) → AH → Prop} {s : SV} {x y : SC} (ht : evS a s = .b true) (h : W P n x Q a H) : W P n (.cond s x y) Q a H := W_cond ht (fun _ => h) (fun e => by cases e)
theorem W_condF {Q : Exit → (Nat → AV) → AH → Prop} {s : SV} {x y : SC} (ht : evS a s = .b false) (h : W P n y Q a H) : W P n (.cond s x y) Q a H := W_cond ht (fun e => by cases e) (fun _ => h)

/-- a loop whose rounds go by a family: from x on, to a lesser one or out -/
theorem W_loopF {Q : Exit → (Nat → AV) → AH → Prop} {X : Type} {b : SC} (sl : X → List (Nat × AV)) (hp : X → AH) (ok : X → Prop) (μ : X → Nat) (x0 : X)
    (h0 : ok x0) (hs : Has a (sl x0)) (hh : HLe (hp x0) H)
    (round : ∀ x, ok x → W P n b (Then (fun a' H' => ∃ y, ok y ∧ μ y < μ x ∧ Has a' (sl y) ∧ HLe (hp y) H') Q) (Sl (sl x)) (hp x)) : W P n (.loop b) Q a H := by
  refine W_loop (fun a H k => ∃ x, ok x ∧ μ x = k ∧ Has a (sl x) ∧ HLe (hp x) H) ⟨_, x0, h0, rfl, hs, hh⟩ ?_
  rintro a H k ⟨x, h1, rfl, h3, h4⟩
  refine W_weak (weak_Sl h3.mem) h4 (W_mono ?_ (round x h1))
  intro e a' H' hq
  cases e with
  | normal => obtain ⟨y, k1, k2, k3, k4⟩ := hq; exact ⟨_, k2, y, k1, rfl, k3, k4⟩
  | _ => exact hq


end Go.Proofs.Ytpppkmeolknofaa
