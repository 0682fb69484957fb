/- Lists in memory: a slice that reads as a list of ints; arrays of one's own. No condition. · From a contract over the abstract heap to the machine's call at the law's own start. No condition. · Heaps by parts, appends of one, slices of slices. No condition. · Slices of slices, copies. No condition. · Appends of a slice known by its reading. No condition. · Comparisons of slices and pointers with nil; struct literals. No condition. · The greater of two natural numbers. No condition. · Function values, and objects that are written no more. No condition. · New objects without their names: boxes, cells, arrays; results in cells. No condition. · Arguments that are slices of whole numbers, or structs of numbers and slices, read into the abstract heap. No condition. · Arguments that are slices of slices, and codes, read into the abstract heap. No condition. -/
import Derived.Test.YtdkdainipanacaaXB
import Derived.ChangeSlices
import Derived.ChangeArms
import Derived.WalkKit
import Derived.ProofKit
import Derived.OpenShut
namespace Go.Proofs.Ytdkdainipanacaa
open Go Go.RowKit
set_option linter.unusedSimpArgs false
set_option linter.unusedVariables false
set_option linter.constructorNameAsVariable false

/-- x reads as the list l of ints -/
def IntS (H : AH) (x : AV) (l : List Int) : Prop :=
  (l = [] ∧ (x = .ns ∨ x = .es)) ∨ ∃ id off ob, x = .s id off l.length ∧ H id = some ob ∧ ob.sz = 1 ∧ off + l.length ≤ ob.cells.length ∧ (ob.cells.drop off).take l.length = l.map I

theorem IntS.mono {H H' : AH} (hl : HLe H H') {x : AV} {l : List Int} (h : IntS H x l) : IntS H' x l := by
  rcases h with h | ⟨id, off, ob, h1, h2, h3⟩
  · exact .inl h
  · exact .inr ⟨id, off, ob, h1, hl _ _ h2, h3⟩

theorem IntS.own {H : AH} {id : Nat} {l : List Int} {rw : Bool} (h : H id = some ⟨l.map I, rw, 1⟩) : IntS H (.s id 0 l.length) l :=
  .inr ⟨id, 0, _, rfl, h, rfl, by simp, by simp [List.take_of_length_le]⟩

theorem rdc_map {α : Type} {H : AH} {id j : Nat} {l : List α} {f : α → AV} {rw : Bool} {sz : Nat} {v : α} (h : H id = some ⟨l.map f, rw, sz⟩) (hv : l[j]? = some v) : rdc H id j = some (f v) := by
  unfold rdc
  rw [h]
  show (l.map f)[j]? = _
  rw [List.getElem?_map, hv]; rfl

theorem part_get {cells : List AV} {off n j : Nat} {l : List Int} (hn : l.length = n) (h : (cells.drop off).take n = l.map I) {v : Int} (hv : l[j]? = some v) : cells[off + j]? = some (I v) := by
  have hj : j < n := by rw [← hn]; exact (List.getElem?_eq_some_iff.mp hv).1
  have := congrArg (fun z => z[j]?) h
  simp only [List.getElem?_take, if_pos hj, List.getElem?_drop, List.getElem?_map, hv, Option.map_some] at this
  exact this

theorem IntS.rd {H : AH} {id off n j : Nat} {l : List Int} (h : IntS H (.s id off n) l) {v : Int} (hv : l[j]? = some v) : n = l.length ∧ rdc H id (off + j) = some (I v) := by
  rcases h with ⟨_, h | h⟩ | ⟨id', off', ob, h1, h2, h3, h4, h5⟩
  · cases h
  · cases h
  · cases h1
    refine ⟨rfl, ?_⟩
    unfold rdc
    rw [h2]
    exact part_get rfl h5 hv

theorem IntS.len {H : AH} {id off n : Nat} {l : List Int} (h : IntS H (.s id off n) l) : n = l.length := by
  rcases h with ⟨_, h | h⟩ | ⟨id', off', ob, h1, h2⟩
  · cases h
  · cases h
  · cases h1; rfl

/-- the shapes of a slice of ints -/
theorem IntS.cases {H : AH} {x : AV} {l : List Int} (h : IntS H x l) : (l = [] ∧ x = .ns) ∨ (l = [] ∧ x = .es) ∨ ∃ id off, x = .s id off l.length := by
  rcases h with ⟨h, e | e⟩ | ⟨id, off, ob, h1, _⟩
  · exact .inl ⟨h, e⟩
  · exact .inr (.inl ⟨h, e⟩)
  · exact .inr (.inr ⟨id, off, h1⟩)

theorem IntS.src {H : AH} {x : AV} {l : List Int} (h : IntS H x l) : Go.Proofs.Ytdkdainipanacaa.src H 1 x = some (l.length, l.map I) := by
  rcases h with ⟨rfl, rfl | rfl⟩ | ⟨id, off, ob, rfl, h2, h3, h4, h5⟩
  · rfl
  · rfl
  · show (H id).bind _ = _
    rw [h2]
    show (if off + l.length * 1 ≤ ob.cells.length then _ else _) = _
    rw [Nat.mul_one, if_pos h4, h5]

theorem splice_one {α : Type} {l : List α} {j : Nat} {v : α} (h : j < l.length) : splice l j [v] = l.set j v := by
  apply List.ext_getElem?
  intro k
  rw [splice_get _ _ _ (by simp; omega)]
  by_cases e : k = j
  · subst e; rw [if_pos (by simp), List.getElem?_set_self h]; simp
  · rw [if_neg (by simp; omega), List.getElem?_set_ne (Ne.symm e)]

theorem splice_map {α : Type} {l : List α} {f : α → AV} {j : Nat} {v : α} (h : j < l.length) : splice (l.map f) j [f v] = (l.set j v).map f := by
  rw [splice_one (by simpa using h), List.map_set]

theorem rdc_ne {H : AH} {id j off : Nat} {ob : AObj} (h : j ≠ id) : rdc (upd H id ob) j off = rdc H j off := by unfold rdc; rw [upd_ne _ _ h]
theorem ne_fresh {H : AH} {i j : Nat} {ob : AObj} (h : H i = some ob) (k : H j = none) : i ≠ j := fun e => by rw [e, k] at h; cases h
theorem upd_upd {α : Type} (H : Nat → Option α) (i : Nat) (x y : α) : upd (upd H i x) i y = upd H i y := by
  funext t
  by_cases q : t = i
  · subst q; rw [upd_same, upd_same]
  · rw [upd_ne _ _ q, upd_ne _ _ q, upd_ne _ _ q]
theorem HLe.upd_of {H H' : AH} (h : HLe H H') {id : Nat} (hid : H id = none) (ob : AObj) : HLe H (upd H' id ob) := by
  intro j o hj
  have : j ≠ id := fun q => by rw [q, hid] at hj; cases hj
  rw [upd_ne _ _ this]; exact h _ _ hj
/-- one's own array changes: what was there ahead of it stays -/
theorem HLe.set {H : AH} {id : Nat} {ob ob' : AObj} (hid : H id = none) : HLe (upd H id ob) (upd (upd H id ob) id ob') → True := fun _ => trivial

end Go.Proofs.Ytdkdainipanacaa
namespace Go.Proofs.Ytdkdainipanacaa
open Go Go.RowKit
set_option linter.unusedSimpArgs false
set_option linter.unusedVariables false

def topOut (w : World) : Out := ⟨w.os, w.tape, w.output, w.heap.size, fun b => w.heap[b]?⟩

theorem below_of {m : AMap} {H : AH} {w w' : World} (h : Rel m H (topOut w) w') : Below w.heap.size w w' := by
  refine ⟨h.os, h.tape, h.output, h.size, fun k hk => ?_⟩
  have : (topOut w).raw k = some w.heap[k] := by simp [topOut, hk]
  rw [h.raw k _ this]
  simp [hk]

theorem top_calls {P : Program} {f : FuncId} {args : List AV} {H : AH} (hc : ACalls P f args H (fun r _ => r = .b true)) {m : AMap} {w : World} {vs : List Value} (hR : Rel m H (topOut w) w) (hv : VLs m args vs) :
    Calls P f vs.toArray w fun e w' => e = .returned (.bool true) ∧ Below w.heap.size w w' := by
  refine (hc.2 m H (topOut w) w vs (.refl H) hR hv).mono ?_
  rintro e w' ⟨v, x, m', H', HT', rfl, hx, _, hR', rfl⟩
  exact ⟨by rw [hx.b_inv], below_of hR'⟩

/-- nothing in memory is told -/
theorem rel_none (w : World) : Rel (fun _ => none) (fun _ => none) (topOut w) w :=
  ⟨rfl, rfl, rfl, Nat.le_refl _, by simp, by simp, fun b o h => h, by simp, ⟨0, by simp⟩⟩

/-- argument lists, one by one -/
def VLAll (m : AMap) : List AV → List Value → Prop
  | [], [] => True
  | x :: xs, v :: vs => VR m x v ∧ VLAll m xs vs
  | _, _ => False
theorem vls_of {m : AMap} : ∀ {xs : List AV} {vs : List Value}, VLAll m xs vs → VLs m xs vs
  | [], [], _ => ⟨rfl, by simp⟩
  | x :: xs, v :: vs, h => by
    obtain ⟨h1, h2⟩ := vls_of h.2
    refine ⟨by simp [h1], fun j y u a b => ?_⟩
    cases j with
    | zero => cases a; cases b; exact h.1
    | succ j => exact h2 j y u a b
  | [], _ :: _, h => h.elim
  | _ :: _, [], h => h.elim

end Go.Proofs.Ytdkdainipanacaa
namespace Go.Proofs.Ytdkdainipanacaa
open Go Go.RowKit
set_option linter.unusedSimpArgs false
set_option linter.unusedVariables false
set_option linter.constructorNameAsVariable false

theorem upd_get {α : Type} (H : Nat → Option α) (i : Nat) (x : α) (j : Nat) : upd H i x j = if j = i then some x else H j := by
  by_cases h : j = i
  · subst h; rw [upd_same, if_pos rfl]
  · rw [upd_ne _ _ h, if_neg h]
theorem del_get {α : Type} (H : Nat → Option α) (i : Nat) (j : Nat) : del H i j = if j = i then none else H j := by
  by_cases h : j = i
  · subst h; rw [del_same, if_pos rfl]
  · rw [del_ne _ h, if_neg h]
theorem HLe.put {A B : AH} {i : Nat} {ob : AObj} (h : HLe A B) (hb : B i = some ob) : HLe (upd A i ob) B := by
  intro j o hj
  rw [upd_get] at hj
  split at hj
  · rename_i e; rw [e, hb]; exact hj
  · exact h _ _ hj
theorem HLe.del_of {A B : AH} {i : Nat} (h : HLe A B) (hi : A i = none) : HLe A (Go.Proofs.Ytdkdainipanacaa.del B i) := by
  intro j o hj
  rw [del_get, if_neg]
  · exact h _ _ hj
  · intro e; rw [e, hi] at hj; cases hj
theorem HLe.upd_to {A B : AH} {i : Nat} {ob : AObj} (h : HLe A B) (hi : A i = none) : HLe A (upd B i ob) := h.upd_of hi ob
theorem HLe.absent {A B : AH} (h : HLe A B) {i : Nat} (hi : B i = none) : A i = none := by
  cases e : A i with
  | none => rfl
  | some o => rw [h _ _ e] at hi; cases hi
/-- one object set apart -/
theorem HLe.apart {A B : AH} {i : Nat} (h : HLe A B) (hi : A i = none) : HLe A (Go.Proofs.Ytdkdainipanacaa.del B i) := h.del_of hi

variable {P : Program} {pv : Bool} {rs : List SOp} {a : Nat → AV} {H : AH} {K : (Nat → AV) → AH → Prop}
/-- one value is appended to nothing -/
theorem apN {d1 d2 j by_ : Nat} {z v : AV} {y : SV} (hx : a j = .ns) (hj : j ≠ d1) (hv : evS a y = v) (hc : cellsOf v = some [v]) (hb : by_ ≤ 1024)
    (k : ∀ t, H t = none → ∀ id, upd H t ⟨[v], true, 1⟩ id = none → aopL P false rs (put (put a d1 (.s t 0 1)) d2 (.s id 0 1)) (upd (upd H t ⟨[v], true, 1⟩) id ⟨[v], true, 1⟩) K) :
    aopL P false (⟨some d1, .bs 1 [z] 1 [(0, y)], none⟩ :: ⟨some d2, .ap 1 by_ (.t j) (.t d1), none⟩ :: rs) a H K := by
  refine bL (cs := [v]) ?_ ?_
  · show afill _ _ [(0, evS a y)] = _
    rw [hv]; simp [afill, hc, splice]
  intro t ht
  refine ⟨1, [v], ?_, .inl ⟨?_, ?_, ?_⟩⟩
  · show src _ 1 (put a d1 _ d1) = _
    rw [put_eq]; simp [src, upd_same]
  · show put a d1 _ j = _ ∨ _
    rw [put_ne hj]; exact .inl hx
  · intro h; omega
  · intro _
    refine ⟨by omega, by decide, ?_⟩
    intro id hid
    exact ⟨fun e => (by cases e), k t ht id hid⟩

/-- one value is appended to one's own slice -/
theorem apS {d1 d2 j by_ id len : Nat} {z v : AV} {y : SV} {cells : List AV} (hx : a j = .s id 0 len) (ho : H id = some ⟨cells, true, 1⟩) (hl : cells.length = len) (hj : j ≠ d1) (hv : evS a y = v) (hc : cellsOf v = some [v])
    (hb : by_ ≤ 1024) (hn : len ≤ 100000000)
    (k : ∀ t, H t = none → t ≠ id → ∀ i, i ≠ t → H i = none → i ≠ id → aopL P false rs (put (put a d1 (.s t 0 1)) d2 (.s i 0 (len + 1))) (upd (del (upd H t ⟨[v], true, 1⟩) id) i ⟨cells ++ [v], true, 1⟩) K) :
    aopL P false (⟨some d1, .bs 1 [z] 1 [(0, y)], none⟩ :: ⟨some d2, .ap 1 by_ (.t j) (.t d1), none⟩ :: rs) a H K := by
  refine bL (cs := [v]) ?_ ?_
  · show afill _ _ [(0, evS a y)] = _
    rw [hv]; simp [afill, hc, splice]
  intro t ht
  have hti : t ≠ id := fun e => by rw [e, ho] at ht; cases ht
  refine ⟨1, [v], ?_, .inr ⟨id, 0, len, ⟨cells, true, 1⟩, ?_, ?_, rfl, rfl, ?_, ?_, ?_, ?_⟩⟩
  · show src _ 1 (put a d1 _ d1) = _
    rw [put_eq]; simp [src, upd_same]
  · show put a d1 _ j = _
    rw [put_ne hj]; exact hx
  · rw [upd_ne _ _ (Ne.symm hti)]; exact ho
  · simp [hl]
  · calc (len + 1) * by_ ≤ 100000001 * 1024 := Nat.mul_le_mul (by omega) hb
      _ ≤ _ := by decide
  · exact Nat.le_trans (show len + 1 ≤ 100000001 by omega) (by decide)
  · intro i hi
    rw [upd_get] at hi
    split at hi
    · cases hi
    · rename_i hit
      have := k t ht hti i hit hi (fun e => by rw [e, ho] at hi; cases hi)
      refine ⟨fun e => (by cases e), ?_⟩
      have e : (List.drop 0 cells).take (len * 1) = cells := by rw [List.drop_zero, Nat.mul_one, ← hl, List.take_length]
      rw [e]
      exact this

theorem bRN {x y : SV} {d m l : Nat} (hx : evS a x = I (m : Int)) (hy : evS a y = I (l : Int)) (h1 : 0 < l) (k : aopL P pv rs (put a d (I ((m % l : Nat) : Int))) H K) : aopL P pv (⟨some d, .bin .rem x y, none⟩ :: rs) a H K :=
  bR hx hy (Int.natCast_nonneg m) (by omega) (by rw [← Int.natCast_emod]; exact k)
theorem bQN {x y : SV} {d m l : Nat} (hx : evS a x = I (m : Int)) (hy : evS a y = I (l : Int)) (h1 : 0 < l) (h2 : m ≤ 9223372036854775807) (k : aopL P pv rs (put a d (I ((m / l : Nat) : Int))) H K) : aopL P pv (⟨some d, .bin .quo x y, none⟩ :: rs) a H K :=
  bQ hx hy ⟨Int.natCast_nonneg m, by omega⟩ (by omega) (by rw [← Int.natCast_ediv]; exact k)
theorem bMN {x y : SV} {d m l : Nat} (hx : evS a x = I (m : Int)) (hy : evS a y = I (l : Int)) (h2 : m * l ≤ 9223372036854775807) (k : aopL P pv rs (put a d (I ((m * l : Nat) : Int))) H K) : aopL P pv (⟨some d, .bin .mul x y, none⟩ :: rs) a H K := by
  have e : ((m * l : Nat) : Int) = (m : Int) * (l : Int) := Int.natCast_mul _ _
  exact bM hx hy (by rw [← e]; omega) (by rw [← e]; exact k)
theorem bAN {x y : SV} {d m l : Nat} (hx : evS a x = I (m : Int)) (hy : evS a y = I (l : Int)) (h2 : m + l ≤ 9223372036854775807) (k : aopL P pv rs (put a d (I ((m + l : Nat) : Int))) H K) : aopL P pv (⟨some d, .bin .add x y, none⟩ :: rs) a H K := by
  have e : ((m + l : Nat) : Int) = (m : Int) + (l : Int) := Int.natCast_add _ _
  exact bA hx hy (by rw [← e]; omega) (by rw [← e]; exact k)
theorem bSN {x y : SV} {d m l : Nat} (hx : evS a x = I (m : Int)) (hy : evS a y = I (l : Int)) (h2 : l ≤ m) (h3 : m ≤ 9223372036854775807) (k : aopL P pv rs (put a d (I ((m - l : Nat) : Int))) H K) : aopL P pv (⟨some d, .bin .sub x y, none⟩ :: rs) a H K := by
  have e : ((m - l : Nat) : Int) = (m : Int) - (l : Int) := Int.natCast_sub h2
  exact bS hx hy (by rw [← e]; omega) (by rw [← e]; exact k)
/-- one value is stored -/
theorem sV {x y : SV} {id off sz : Nat} {cells : List AV} {v : AV} (hx : evS a x = .p id off) (ho : H id = some ⟨cells, true, sz⟩) (hv : evS a y = v) (hc : cellsOf v = some [v]) (hi : off < cells.length)
    (k : aopL P pv rs a (upd H id ⟨cells.set off v, true, sz⟩) K) : aopL P pv (⟨none, .st 1 x y, none⟩ :: rs) a H K := by
  refine sT hx ho rfl (cs := [v]) (by rw [hv]; exact hc) rfl (by simp only; omega) ?_
  rw [splice_one hi]; exact k

/-- x is a slice that holds the cells cs -/
def Cs (H : AH) (x : AV) (cs : List AV) : Prop :=
  (cs = [] ∧ (x = .ns ∨ x = .es)) ∨ ∃ id off ob, x = .s id off cs.length ∧ H id = some ob ∧ ob.sz = 1 ∧ off + cs.length ≤ ob.cells.length ∧ (ob.cells.drop off).take cs.length = cs
theorem Cs.mono {H H' : AH} (hl : HLe H H') {x : AV} {l : List AV} (h : Cs H x l) : Cs H' x l := by
  rcases h with h | ⟨id, off, ob, h1, h2, h3⟩
  · exact .inl h
  · exact .inr ⟨id, off, ob, h1, hl _ _ h2, h3⟩
theorem Cs.own {H : AH} {id : Nat} {l : List AV} {rw : Bool} (h : H id = some ⟨l, rw, 1⟩) : Cs H (.s id 0 l.length) l :=
  .inr ⟨id, 0, _, rfl, h, rfl, by simp, by simp [List.take_of_length_le]⟩
theorem Cs.cases {H : AH} {x : AV} {l : List AV} (h : Cs H x l) : (l = [] ∧ x = .ns) ∨ (l = [] ∧ x = .es) ∨ ∃ id off, x = .s id off l.length := by
  rcases h with ⟨h, e | e⟩ | ⟨id, off, ob, h1, _⟩
  · exact .inl ⟨h, e⟩
  · exact .inr (.inl ⟨h, e⟩)
  · exact .inr (.inr ⟨id, off, h1⟩)
theorem Cs.rd {H : AH} {id off n j : Nat} {l : List AV} (h : Cs H (.s id off n) l) {v : AV} (hv : l[j]? = some v) : n = l.length ∧ rdc H id (off + j) = some v := by
  rcases h with ⟨_, h | h⟩ | ⟨id', off', ob, h1, h2, h3, h4, h5⟩
  · cases h
  · cases h
  · cases h1
    refine ⟨rfl, ?_⟩
    unfold rdc
    rw [h2]
    have hj : j < l.length := (List.getElem?_eq_some_iff.mp hv).1
    have := congrArg (fun z => z[j]?) h5
    simp only [List.getElem?_take, if_pos hj, List.getElem?_drop, hv] at this
    exact this
/-- the length of a slice that holds cs -/
theorem lC {x : SV} {d : Nat} {v : AV} {cs : List AV} (hx : evS a x = v) (hc : Cs H v cs) (k : aopL P pv rs (put a d (I cs.length)) H K) : aopL P pv (⟨some d, .ln x, none⟩ :: rs) a H K := by
  rcases hc.cases with ⟨h, e⟩ | ⟨h, e⟩ | ⟨id, off, e⟩
  · exact lNs (hx.trans e) (by subst h; exact k)
  · exact lEs (hx.trans e) (by subst h; exact k)
  · exact lS (hx.trans e) k
/-- a place of a slice that holds cs -/
theorem iC {x i : SV} {d m : Nat} {v w : AV} {cs : List AV} {kk : IntKind} (hx : evS a x = v) (hc : Cs H v cs) (hi : evS a i = .i kk (m : Int)) (hw : cs[m]? = some w)
    (k : ∀ id off, v = .s id off cs.length → rdc H id (off + m) = some w → aopL P pv rs (put a d (.p id (off + m))) H K) : aopL P pv (⟨some d, .ix 1 x i, none⟩ :: rs) a H K := by
  have hm : m < cs.length := (List.getElem?_eq_some_iff.mp hw).1
  rcases hc.cases with ⟨h, e⟩ | ⟨h, e⟩ | ⟨id, off, e⟩
  · subst h; exact absurd hm (by simp)
  · subst h; exact absurd hm (by simp)
  · subst e
    exact iX1 hx hi hm (k id off rfl (hc.rd hw).2)
theorem IntS.cs {H : AH} {x : AV} {l : List Int} (h : IntS H x l) : Cs H x (l.map I) := by
  rcases h with ⟨rfl, h⟩ | ⟨id, off, ob, h1, h2, h3, h4, h5⟩
  · exact .inl ⟨rfl, h⟩
  · exact .inr ⟨id, off, ob, by simpa using h1, h2, h3, by simpa using h4, by simpa using h5⟩
theorem Cs.ints {H : AH} {x : AV} {l : List Int} (h : Cs H x (l.map I)) : IntS H x l := by
  rcases h with ⟨h0, h⟩ | ⟨id, off, ob, h1, h2, h3, h4, h5⟩
  · exact .inl ⟨by simpa using h0, h⟩
  · exact .inr ⟨id, off, ob, by simpa using h1, h2, h3, by simpa using h4, by simpa using h5⟩

/-- each cell reads as the list beside it -/
def Rows2 (H : AH) (cs : List AV) (ls : List (List Int)) : Prop := cs.length = ls.length ∧ ∀ (i : Nat) (c : AV) (l : List Int), cs[i]? = some c → ls[i]? = some l → IntS H c l
theorem Rows2.nil (H : AH) : Rows2 H [] [] := ⟨rfl, by simp⟩
theorem Rows2.mono {H H' : AH} (hl : HLe H H') {cs : List AV} {ls : List (List Int)} (h : Rows2 H cs ls) : Rows2 H' cs ls := ⟨h.1, fun i c l a b => (h.2 i c l a b).mono hl⟩
theorem Rows2.snoc {H : AH} {cs : List AV} {ls : List (List Int)} (h : Rows2 H cs ls) {c : AV} {l : List Int} (hc : IntS H c l) : Rows2 H (cs ++ [c]) (ls ++ [l]) := by
  refine ⟨by simp [h.1], fun i c' l' h1 h2 => ?_⟩
  rw [List.getElem?_append] at h1 h2
  have := h.1
  split at h1
  · rename_i hlt
    rw [if_pos (by omega)] at h2
    exact h.2 i c' l' h1 h2
  · rename_i hlt
    rw [if_neg (by omega)] at h2
    have e1 : i - cs.length = 0 := by have := (List.getElem?_eq_some_iff.mp h1).1; simp at this; omega
    rw [e1] at h1; rw [show i - ls.length = 0 by omega] at h2
    simp at h1 h2
    subst h1; subst h2; exact hc

def RowsS (H : AH) (x : AV) (ls : List (List Int)) : Prop := ∃ cs, Cs H x cs ∧ Rows2 H cs ls
theorem RowsS.mono {H H' : AH} (hl : HLe H H') {x : AV} {ls : List (List Int)} (h : RowsS H x ls) : RowsS H' x ls := by
  obtain ⟨cs, h1, h2⟩ := h; exact ⟨cs, h1.mono hl, h2.mono hl⟩
theorem RowsS.nil (H : AH) : RowsS H .ns [] := ⟨[], .inl ⟨rfl, .inl rfl⟩, .nil H⟩
theorem RowsS.cases {H : AH} {x : AV} {ls : List (List Int)} (h : RowsS H x ls) : (ls = [] ∧ x = .ns) ∨ (ls = [] ∧ x = .es) ∨ ∃ id off, x = .s id off ls.length := by
  obtain ⟨cs, h1, h2, _⟩ := h
  rcases h1.cases with ⟨rfl, e⟩ | ⟨rfl, e⟩ | ⟨id, off, e⟩
  · exact .inl ⟨by simpa using h2.symm, e⟩
  · exact .inr (.inl ⟨by simpa using h2.symm, e⟩)
  · exact .inr (.inr ⟨id, off, by rw [← h2]; exact e⟩)
theorem RowsS.rd {H : AH} {id off n j : Nat} {ls : List (List Int)} (h : RowsS H (.s id off n) ls) {l : List Int} (hv : ls[j]? = some l) : n = ls.length ∧ ∃ c, rdc H id (off + j) = some c ∧ IntS H c l := by
  obtain ⟨cs, h1, h2, h3⟩ := h
  have hj : j < cs.length := by rw [h2]; exact (List.getElem?_eq_some_iff.mp hv).1
  have hc : cs[j]? = some cs[j] := List.getElem?_eq_getElem hj
  obtain ⟨k1, k2⟩ := h1.rd hc
  exact ⟨by rw [k1, h2], cs[j], k2, h3 j _ _ hc hv⟩

/-- the heap with one's own growing slice -/
def hpO (G : AH) (x : AV) (cells : List AV) : AH := match x with
  | .s id _ _ => upd G id ⟨cells, true, 1⟩
  | _ => G
def OwnS (G : AH) (x : AV) (cells : List AV) : Prop := (x = .ns ∧ cells = []) ∨ ∃ id, x = .s id 0 cells.length ∧ G id = none
theorem OwnS.nil (G : AH) : OwnS G .ns [] := .inl ⟨rfl, rfl⟩
theorem OwnS.sl {G : AH} {id : Nat} {cells : List AV} {n : Nat} (h : G id = none) (hn : cells.length = n) : OwnS G (.s id 0 n) cells := .inr ⟨id, by rw [hn], h⟩
theorem OwnS.low {G G' : AH} {x : AV} {cells : List AV} (hl : HLe G' G) (h : OwnS G x cells) : OwnS G' x cells := by
  rcases h with h | ⟨id, h1, h2⟩
  · exact .inl h
  · exact .inr ⟨id, h1, hl.absent h2⟩
theorem OwnS.same {G : AH} {x : AV} {cells : List AV} {s : Nat} {S S' : AObj} (h : OwnS (upd G s S) x cells) : OwnS (upd G s S') x cells := by
  rcases h with h | ⟨id, h1, h2⟩
  · exact .inl h
  · rw [upd_get] at h2
    split at h2
    · cases h2
    · rename_i hne
      exact .inr ⟨id, h1, by rw [upd_ne _ _ hne]; exact h2⟩
theorem OwnS.hle {G : AH} {x : AV} {cells : List AV} (h : OwnS G x cells) : HLe G (hpO G x cells) := by
  rcases h with ⟨rfl, _⟩ | ⟨id, rfl, h2⟩
  · exact .refl G
  · exact .upd_new h2 _
theorem OwnS.cs {G : AH} {x : AV} {cells : List AV} (h : OwnS G x cells) : Cs (hpO G x cells) x cells := by
  rcases h with ⟨rfl, rfl⟩ | ⟨id, rfl, h2⟩
  · exact .inl ⟨rfl, .inl rfl⟩
  · exact Cs.own (upd_same _ _ _)
theorem hpO_get {G : AH} {x : AV} {cells : List AV} (h : OwnS G x cells) {j : Nat} {ob : AObj} (hj : G j = some ob) : hpO G x cells j = some ob := h.hle _ _ hj
theorem hpO_upd {G : AH} {x : AV} {cells : List AV} {s : Nat} {S S' : AObj} (h : OwnS (upd G s S) x cells) : upd (hpO (upd G s S) x cells) s S' = hpO (upd G s S') x cells := by
  rcases h with ⟨rfl, _⟩ | ⟨id, rfl, h2⟩
  · exact upd_upd _ _ _ _
  · rw [upd_get] at h2
    split at h2
    · cases h2
    · rename_i hne
      show upd (upd (upd G s S) id _) s S' = upd (upd G s S') id _
      rw [upd_comm _ hne, upd_upd]
theorem hpO_comm {G : AH} {x : AV} {cells : List AV} {s : Nat} {S : AObj} (h : OwnS (upd G s S) x cells) : upd (hpO G x cells) s S = hpO (upd G s S) x cells := by
  rcases h with ⟨rfl, _⟩ | ⟨id, rfl, h2⟩
  · rfl
  · rw [upd_get] at h2
    split at h2
    · cases h2
    · rename_i hne
      exact upd_comm _ hne _ _
theorem HLe.hpO {A B : AH} {x : AV} {cells : List AV} (h : HLe A B) (hx : ∀ id, x = .s id 0 cells.length → B id = some ⟨cells, true, 1⟩) (ho : OwnS A x cells) : HLe (hpO A x cells) B := by
  rcases ho with ⟨rfl, _⟩ | ⟨id, rfl, _⟩
  · exact h
  · exact h.put (hx id rfl)
theorem HLe.upd_both {A B : AH} (h : HLe A B) (i : Nat) (ob : AObj) : HLe (upd A i ob) (upd B i ob) := by
  intro j o hj
  rw [upd_get] at hj ⊢
  split
  · rename_i e; rw [if_pos e] at hj; exact hj
  · rename_i e; rw [if_neg e] at hj; exact h _ _ hj
theorem HLe.hpO_both {A B : AH} (h : HLe A B) (x : AV) (cells : List AV) : HLe (Go.Proofs.Ytdkdainipanacaa.hpO A x cells) (Go.Proofs.Ytdkdainipanacaa.hpO B x cells) := by
  unfold Go.Proofs.Ytdkdainipanacaa.hpO
  split
  · exact h.upd_both _ _
  · exact h

theorem OwnS.add {G : AH} {x : AV} {cells : List AV} {c : Nat} {C : AObj} (h : OwnS G x cells) (hc : hpO G x cells c = none) : OwnS (upd G c C) x cells := by
  rcases h with h | ⟨id, rfl, h2⟩
  · exact .inl h
  · have : c ≠ id := fun e => by rw [e, show hpO G (.s id 0 cells.length) cells id = some ⟨cells, true, 1⟩ from upd_same _ _ _] at hc; cases hc
    exact .inr ⟨id, rfl, by rw [upd_ne _ _ (Ne.symm this)]; exact h2⟩
theorem hpO_upd_self {G : AH} {id o n : Nat} {cells : List AV} {ob : AObj} : upd (hpO G (.s id o n) cells) id ob = upd G id ob := upd_upd _ _ _ _
theorem splice_all {l m : List AV} (h : l.length = m.length) : splice l 0 m = m := by
  apply List.ext_getElem?
  intro j
  rw [splice_get _ _ _ (by omega)]
  by_cases hj : j < m.length
  · rw [if_pos (by omega)]; rfl
  · rw [if_neg (by omega), List.getElem?_eq_none (by omega), List.getElem?_eq_none (by omega)]
/-- one value is appended to one's own slice, be it nil or not -/
theorem ap1 {G : AH} {x : AV} {cells : List AV} {d1 d2 j by_ : Nat} {z v : AV} {y : SV} (hH : H = hpO G x cells) (hO : OwnS G x cells) (hx : a j = x) (hj : j ≠ d1) (hv : evS a y = v) (hc : cellsOf v = some [v])
    (hb : by_ ≤ 1024) (hn : cells.length ≤ 100000000)
    (k : ∀ t i, G t = none → G i = none → i ≠ t → aopL P false rs (put (put a d1 (.s t 0 1)) d2 (.s i 0 (cells.length + 1))) (upd (upd G t ⟨[v], true, 1⟩) i ⟨cells ++ [v], true, 1⟩) K) :
    aopL P false (⟨some d1, .bs 1 [z] 1 [(0, y)], none⟩ :: ⟨some d2, .ap 1 by_ (.t j) (.t d1), none⟩ :: rs) a H K := by
  subst hH
  rcases hO with ⟨rfl, rfl⟩ | ⟨id, rfl, h2⟩
  · refine apN hx hj hv hc hb ?_
    intro t ht i hi
    rw [upd_get] at hi
    split at hi
    · cases hi
    · rename_i hne
      exact k t i ht hi hne
  · refine apS (id := id) (len := cells.length) (cells := cells) hx (upd_same _ _ _) rfl hj hv hc hb hn ?_
    intro t ht hti i hit hi hid
    rw [show hpO G (.s id 0 cells.length) cells = upd G id ⟨cells, true, 1⟩ from rfl] at *
    rw [upd_ne _ _ hti] at ht
    rw [upd_ne _ _ hid] at hi
    have e : del (upd (upd G id ⟨cells, true, 1⟩) t ⟨[v], true, 1⟩) id = upd G t ⟨[v], true, 1⟩ := by
      funext u
      rw [del_get, upd_get, upd_get, upd_get]
      by_cases hu : u = id
      · subst hu; rw [if_pos rfl, if_neg (Ne.symm hti), h2]
      · rw [if_neg hu, if_neg hu]
    rw [e]
    exact k t i ht hi hit

end Go.Proofs.Ytdkdainipanacaa
namespace Go.Proofs.Ytdkdainipanacaa
open Go Go.RowKit
set_option linter.unusedSimpArgs false
set_option linter.unusedVariables false
set_option linter.constructorNameAsVariable false
variable {P : Program} {pv : Bool} {rs : List SOp} {a : Nat → AV} {H : AH} {K : (Nat → AV) → AH → Prop}

theorem sHi {x y : SV} {d id off len r : Nat} {ob : AObj} (hx : evS a x = .s id off len) (ho : H id = some ob) (hsz : ob.sz = 1) (hy : evS a y = I (r : Int)) (hr : r ≤ len) (k : aopL P pv rs (put a d (.s id off r)) H K) :
    aopL P pv (⟨some d, .sl 1 x none (some y), none⟩ :: rs) a H K := by
  refine Or.inl ⟨id, off, len, 0, (r : Int), ob, hx, ho, hsz, rfl, ⟨.i64, hy⟩, Int.le_refl _, by omega, by omega, ?_⟩
  show aopL P pv rs (put a d (.s id (off + (0 : Int).toNat * 1) ((r : Int).toNat - (0 : Int).toNat))) H K
  rw [show off + (0 : Int).toNat * 1 = off by simp, show (r : Int).toNat - (0 : Int).toNat = r by simp]
  exact k
theorem sLo {x y : SV} {d id off len l : Nat} {ob : AObj} (hx : evS a x = .s id off len) (ho : H id = some ob) (hsz : ob.sz = 1) (hy : evS a y = I (l : Int)) (hl : l ≤ len) (k : aopL P pv rs (put a d (.s id (off + l) (len - l))) H K) :
    aopL P pv (⟨some d, .sl 1 x (some y) none, none⟩ :: rs) a H K := by
  refine Or.inl ⟨id, off, len, (l : Int), (len : Int), ob, hx, ho, hsz, ⟨.i64, hy⟩, rfl, by omega, by omega, by omega, ?_⟩
  show aopL P pv rs (put a d (.s id (off + (l : Int).toNat * 1) ((len : Int).toNat - (l : Int).toNat))) H K
  rw [show off + (l : Int).toNat * 1 = off + l by simp, show (len : Int).toNat - (l : Int).toNat = len - l by simp]
  exact k
/-- one's own array is moved up by one -/
theorem cpUp {x y : SV} {d id m : Nat} {cells : List AV} (hx : evS a x = .s id 1 (m - 1)) (hy : evS a y = .s id 0 (m - 1)) (ho : H id = some ⟨cells, true, 1⟩) (hm : cells.length = m) (h1 : 1 ≤ m)
    (k : aopL P pv rs (put a d (I ((m - 1 : Nat) : Int))) (upd H id ⟨splice cells 1 (cells.take (m - 1)), true, 1⟩) K) :
    aopL P pv (⟨some d, .cp x y, none⟩ :: rs) a H K := by
  refine ⟨id, 1, m - 1, ⟨cells, true, 1⟩, m - 1, cells.take (m - 1), hx, ho, rfl, rfl, by simp only; omega, ?_, ?_⟩
  · rw [hy]
    show (H id).bind _ = _
    rw [ho]
    show (if 0 + (m - 1) * 1 ≤ cells.length then some (m - 1, (cells.drop 0).take ((m - 1) * 1)) else none) = _
    rw [if_pos (by omega), List.drop_zero, Nat.mul_one]
  · rw [show Nat.min (m - 1) (m - 1) = m - 1 from Nat.min_self _, List.take_take, Nat.min_self]
    exact k
theorem rdc_mono {A B : AH} (h : HLe A B) {j i : Nat} {v : AV} (hr : rdc A j i = some v) : rdc B j i = some v := by
  unfold rdc at hr ⊢
  cases e : A j with
  | none => rw [e] at hr; cases hr
  | some o => rw [e] at hr; rw [h _ _ e]; exact hr
theorem rdc_of {A : AH} {j i : Nat} {ob : AObj} {v : AV} (h : A j = some ob) (hv : ob.cells[i]? = some v) : rdc A j i = some v := by
  unfold rdc
  rw [h]; exact hv
end Go.Proofs.Ytdkdainipanacaa
namespace Go.Proofs.Ytdkdainipanacaa
open Go Go.RowKit
set_option linter.unusedSimpArgs false
set_option linter.unusedVariables false
set_option linter.constructorNameAsVariable false
variable {P : Program} {pv : Bool} {rs : List SOp} {a : Nat → AV} {H : AH} {K : (Nat → AV) → AH → Prop}

theorem Cs.src {H : AH} {v : AV} {cs : List AV} (h : Cs H v cs) : src H 1 v = some (cs.length, cs) := by
  rcases h with ⟨rfl, rfl | rfl⟩ | ⟨id, off, ob, rfl, h2, h3, h4, h5⟩
  · rfl
  · rfl
  · show (H id).bind _ = _
    rw [h2]
    show (if off + cs.length * 1 ≤ ob.cells.length then some (cs.length, (ob.cells.drop off).take (cs.length * 1)) else none) = _
    rw [if_pos (by omega), Nat.mul_one, h5]
/-- a slice is appended to an empty one -/
theorem apE {x y : SV} {d by_ : Nat} {v : AV} {cs : List AV} (hx : evS a x = .ns ∨ evS a x = .es) (hy : evS a y = v) (hv : Cs H v cs) (h0 : cs ≠ []) (hb : by_ ≤ 1024) (hn : cs.length ≤ 100000000)
    (k : ∀ id, H id = none → aopL P pv rs (put a d (.s id 0 cs.length)) (upd H id ⟨cs, true, 1⟩) K) :
    aopL P pv (⟨some d, .ap 1 by_ x y, none⟩ :: rs) a H K := by
  have hl : 0 < cs.length := by cases cs with
    | nil => exact absurd rfl h0
    | cons c cs => exact Nat.succ_pos _
  refine ⟨cs.length, cs, by rw [hy]; exact hv.src, .inl ⟨hx, fun e => by omega, fun _ => ⟨?_, Nat.le_trans hn (by decide), fun id hid => ⟨fun _ => .upd_new hid _, k id hid⟩⟩⟩⟩
  calc cs.length * by_ ≤ 100000000 * 1024 := Nat.mul_le_mul hn hb
      _ ≤ _ := by decide
/-- nothing is appended to an empty slice -/
theorem apE0 {x y : SV} {d by_ : Nat} {v w : AV} (hx : evS a x = w) (hw : w = .ns ∨ w = .es) (hy : evS a y = v) (hv : Cs H v [])
    (k : aopL P pv rs (put a d w) H K) :
    aopL P pv (⟨some d, .ap 1 by_ x y, none⟩ :: rs) a H K :=
  ⟨0, [], by rw [hy]; exact hv.src, .inl ⟨by rw [hx]; exact hw, fun _ => ⟨fun _ => .refl _, by rw [hx]; exact k⟩, fun e => by omega⟩⟩
/-- a copy of a slice -/
theorem apC {x y : SV} {d by_ : Nat} {v : AV} {cs : List AV} (hx : evS a x = .es) (hy : evS a y = v) (hv : Cs H v cs) (hb : by_ ≤ 1024) (hn : cs.length ≤ 100000000)
    (k : ∀ w H', HLe H H' → Cs H' w cs → cellsOf w = some [w] → w.leaf = true → aopL P pv rs (put a d w) H' K) :
    aopL P pv (⟨some d, .ap 1 by_ x y, none⟩ :: rs) a H K := by
  cases e : cs with
  | nil =>
    subst e
    exact apE0 hx (.inr rfl) hy hv (k _ _ (.refl H) (.inl ⟨rfl, .inr rfl⟩) rfl rfl)
  | cons c cs' =>
    exact apE (.inr hx) hy hv (by rw [e]; simp) hb hn fun id hid => k _ _ (.upd_new hid _) (.own (upd_same _ _ _)) rfl rfl
/-- a slice is appended to one's own -/
theorem apO {G : AH} {x y : SV} {u v : AV} {cells cs : List AV} {d by_ : Nat} (hH : H = hpO G u cells) (hO : OwnS G u cells) (hx : evS a x = u) (hy : evS a y = v) (hv : Cs G v cs) (h0 : cs ≠ [])
    (hb : by_ ≤ 1024) (hn : cells.length + cs.length ≤ 100000000)
    (k : ∀ id, G id = none → aopL P false rs (put a d (.s id 0 (cells.length + cs.length))) (upd G id ⟨cells ++ cs, true, 1⟩) K) :
    aopL P false (⟨some d, .ap 1 by_ x y, none⟩ :: rs) a H K := by
  subst hH
  have hvH := hv.mono hO.hle
  rcases hO with ⟨rfl, rfl⟩ | ⟨id, rfl, h2⟩
  · refine apE (.inl hx) hy hvH h0 hb (by simpa using hn) ?_
    intro id hid
    have := k id hid
    show aopL P false rs (put a d (.s id 0 cs.length)) (upd G id ⟨cs, true, 1⟩) K
    simpa using this
  · refine ⟨cs.length, cs, by rw [hy]; exact hvH.src, .inr ⟨id, 0, cells.length, ⟨cells, true, 1⟩, hx, upd_same _ _ _, rfl, rfl, by simp, ?_, Nat.le_trans hn (by decide), ?_⟩⟩
    · calc (cells.length + cs.length) * by_ ≤ 100000000 * 1024 := Nat.mul_le_mul hn hb
        _ ≤ _ := by decide
    · intro i hi
      rw [show hpO G (.s id 0 cells.length) cells = upd G id ⟨cells, true, 1⟩ from rfl, upd_get] at hi
      split at hi
      · cases hi
      · rename_i hid
        refine ⟨fun e => (by cases e), ?_⟩
        rw [show (List.drop 0 cells).take (cells.length * 1) = cells by rw [List.drop_zero, Nat.mul_one, List.take_length]]
        have e : del (hpO G (.s id 0 cells.length) cells) id = G := by
          funext u
          rw [show hpO G (.s id 0 cells.length) cells = upd G id ⟨cells, true, 1⟩ from rfl, del_get, upd_get]
          by_cases hu : u = id
          · rw [if_pos hu, hu, h2]
          · rw [if_neg hu, if_neg hu]
        rw [e]
        exact k i hi
/-- a number is read from the field of a struct value -/
theorem ldn_own {x : SV} {id z d : Nat} {cells : List AV} {sz : Nat} {rw_ : Bool} (hx : evS a x = .p id 0) (ho : H id = some ⟨cells, rw_, sz⟩) (hl : cells.length = z) (k : aopL P pv rs (put a d (.ag cells)) H K) :
    aopL P pv (⟨some d, .ldn z x, none⟩ :: rs) a H K := by
  refine lN hx ho (by simp [hl]) ?_
  rw [show (List.drop 0 cells).take z = cells by rw [List.drop_zero, ← hl, List.take_length]]
  exact k
end Go.Proofs.Ytdkdainipanacaa
namespace Go.Proofs.Ytdkdainipanacaa
open Go Go.RowKit
set_option linter.unusedSimpArgs false
set_option linter.unusedVariables false
set_option linter.constructorNameAsVariable false
variable {P : Program} {pv : Bool} {rs : List SOp} {a : Nat → AV} {H : AH} {K : (Nat → AV) → AH → Prop} {d id off len : Nat} {neg : Bool} {x y : SV}
theorem en_of (h : aen neg (evS a x) (evS a y) (fun v => aopL P pv rs (put a d v) H K)) : aopL P pv (⟨some d, .en neg x y, none⟩ :: rs) a H K := h
theorem ep_of (h : aep neg (evS a x) (evS a y) (fun v => aopL P pv rs (put a d v) H K)) : aopL P pv (⟨some d, .ep neg x y, none⟩ :: rs) a H K := h
theorem aen_s (hx : evS a x = .s id off len) (k : aopL P pv rs (put a d (.b neg)) H K) : aopL P pv (⟨some d, .en neg x (.k .ns), none⟩ :: rs) a H K := en_of (by rw [hx]; exact k)
theorem aen_n (hx : evS a x = .ns) (k : aopL P pv rs (put a d (.b (!neg))) H K) : aopL P pv (⟨some d, .en neg x (.k .ns), none⟩ :: rs) a H K := en_of (by rw [hx]; exact k)
theorem aen_e (hx : evS a x = .es) (k : aopL P pv rs (put a d (.b neg)) H K) : aopL P pv (⟨some d, .en neg x (.k .ns), none⟩ :: rs) a H K := en_of (by rw [hx]; exact k)
theorem aep_p (hx : evS a x = .p id off) (k : aopL P pv rs (put a d (.b neg)) H K) : aopL P pv (⟨some d, .ep neg x (.k .np), none⟩ :: rs) a H K := ep_of (by rw [hx]; exact k)
theorem aep_n (hx : evS a x = .np) (k : aopL P pv rs (put a d (.b (!neg))) H K) : aopL P pv (⟨some d, .ep neg x (.k .np), none⟩ :: rs) a H K := ep_of (by rw [hx]; exact k)
theorem afill_cons {place : Nat → Option (Nat × Nat)} {cells cs : List AV} {i off size : Nat} {v : AV} {rest : List (Nat × AV)} (hp : place i = some (off, size)) (hc : cellsOf v = some cs) (hl : cs.length = size) (hb : off + cs.length ≤ cells.length) :
    afill place cells ((i, v) :: rest) = afill place (splice cells off cs) rest := by
  simp only [afill]
  rw [hp, hc]
  exact if_pos ⟨hl, hb⟩


theorem bXN {m l : Nat} (hx : evS a x = I (m : Int)) (hy : evS a y = I (l : Int)) (hm : m < 2 ^ 62) (hl : l < 2 ^ 62) (k : aopL P pv rs (put a d (I ((m ^^^ l : Nat) : Int))) H K) : aopL P pv (⟨some d, .bin .xor x y, none⟩ :: rs) a H K := by
  refine bin_of ?_
  rw [hx, hy]
  refine ⟨rfl, ?_⟩
  have e1 : (BitVec.ofInt 64 (m : Int) ^^^ BitVec.ofInt 64 (l : Int)).toNat = m ^^^ l := by
    rw [BitVec.toNat_xor, BitVec.ofInt_natCast, BitVec.ofInt_natCast, BitVec.toNat_ofNat, BitVec.toNat_ofNat, Nat.mod_eq_of_lt (by omega), Nat.mod_eq_of_lt (by omega)]
  have hlt : m ^^^ l < 2 ^ 62 := Nat.xor_lt_two_pow hm hl
  show aopL P pv rs (put a d (.i .i64 (IntKind.wrap .i64 ((BitVec.ofInt 64 (m : Int) ^^^ BitVec.ofInt 64 (l : Int)).toNat : Int)))) H K
  rw [e1, wrap_i64 (by omega)]
  exact k
theorem bRt {m l : Int} (hx : evS a x = I m) (hy : evS a y = I l) (h1 : l ≠ 0) (k : aopL P pv rs (put a d (I (m.tmod l))) H K) : aopL P pv (⟨some d, .bin .rem x y, none⟩ :: rs) a H K := bRn hx hy h1 k
theorem bS1 {m : Nat} (hx : evS a x = I (m : Int)) (h1 : 1 ≤ m) (h2 : m ≤ 9223372036854775807) (k : aopL P pv rs (put a d (I ((m - 1 : Nat) : Int))) H K) : aopL P pv (⟨some d, .bin .sub x (ci 1), none⟩ :: rs) a H K := by
  have e : ((m - 1 : Nat) : Int) = (m : Int) - 1 := by omega
  exact bS hx rfl (by omega) (by rw [← e]; exact k)
theorem bS2 {m : Nat} (hx : evS a x = I (m : Int)) (h1 : 2 ≤ m) (h2 : m ≤ 9223372036854775807) (k : aopL P pv rs (put a d (I ((m - 2 : Nat) : Int))) H K) : aopL P pv (⟨some d, .bin .sub x (ci 2), none⟩ :: rs) a H K := by
  have e : ((m - 2 : Nat) : Int) = (m : Int) - 2 := by omega
  exact bS hx rfl (by omega) (by rw [← e]; exact k)
theorem bA1 {m : Nat} (hx : evS a x = I (m : Int)) (h2 : m + 1 ≤ 9223372036854775807) (k : aopL P pv rs (put a d (I ((m + 1 : Nat) : Int))) H K) : aopL P pv (⟨some d, .bin .add x (ci 1), none⟩ :: rs) a H K :=
  bA hx rfl (by omega) (by exact k)
end Go.Proofs.Ytdkdainipanacaa
namespace Go.Proofs.Ytdkdainipanacaa
open Go Go.RowKit
variable {P : Program} {pv : Bool} {rs : List SOp} {a : Nat → AV} {H : AH} {K : (Nat → AV) → AH → Prop} {d : Nat} {x y : SV}
theorem mXN {m l : Nat} (hx : evS a x = I (m : Int)) (hy : evS a y = I (l : Int)) (k : aopL P pv rs (put a d (I ((max m l : Nat) : Int))) H K) : aopL P pv (⟨some d, .mx x y, none⟩ :: rs) a H K := by
  refine mXx hx hy ?_
  have e : (if (l : Int) > (m : Int) then (l : Int) else (m : Int)) = ((max m l : Nat) : Int) := by
    by_cases h : m < l
    · rw [if_pos (by omega), Nat.max_eq_right (by omega)]
    · rw [if_neg (by omega), Nat.max_eq_left (by omega)]
  rw [e]; exact k
theorem HLe.same {H : AH} {i : Nat} {ob : AObj} (h : H i = some ob) : upd H i ob = H := funext fun j => by
  rw [upd_get]
  split
  · rename_i e; rw [e, h]
  · rfl
end Go.Proofs.Ytdkdainipanacaa
namespace Go.Proofs.Ytdkdainipanacaa
open Go Go.RowKit
set_option linter.unusedSimpArgs false
set_option linter.unusedVariables false
set_option linter.constructorNameAsVariable false

section
variable {P : Program} {pv : Bool} {rs : List SOp} {a : Nat → AV} {H : AH} {K : (Nat → AV) → AH → Prop} {d : Nat}
theorem mF {f : FuncId} {caps : List SV} {vs : List AV} (hv : caps.map (evS a) = vs) (k : aopL P pv rs (put a d (.f f vs)) H K) : aopL P pv (⟨some d, .mf f caps, none⟩ :: rs) a H K := by
  subst hv; exact k
theorem cF {f : FuncId} {x : SV} {args : List SV} {caps : List AV} {dd : Option Nat} {R : AV → AH → Prop} (hx : evS a x = .f f caps) (hc : ACalls P f (args.map (evS a) ++ caps) H R) (k : ∀ r H', R r H' → aopL P false rs (putD a dd r) H' K) : aopL P false (⟨dd, .cf x args, none⟩ :: rs) a H K :=
  ⟨f, caps, hx, ACalls.mono hc fun r H' h => ⟨fun e => (by cases e), k r H' h⟩⟩
theorem cFt {f : FuncId} {x : SV} {args : List SV} {caps : List AV} {dd : Option Nat} {R : AV → AH → Prop} (hx : evS a x = .f f caps) (hc : ACalls P f (args.map (evS a) ++ caps) H R) (k : ∀ r H', R r H' → HLe H H' ∧ aopL P true rs (putD a dd r) H' K) : aopL P true (⟨dd, .cf x args, none⟩ :: rs) a H K :=
  ⟨f, caps, hx, ACalls.mono hc fun r H' h => ⟨fun _ => (k r H' h).1, (k r H' h).2⟩⟩
theorem cLo {f : FuncId} {args : List SV} {dd : Option Nat} {R : AV → AH → Prop} (hc : ACalls P f (args.map (evS a)) H R) (k : ∀ r H', R r H' → aopL P pv rs (putD a dd r) H' K) : aopL P pv (⟨dd, .cal f args, none⟩ :: rs) a H K := ACalls.mono hc fun r H' h => k r H' h
theorem lF {x : SV} {id off : Nat} {ob : AObj} {v : AV} (hx : evS a x = .p id off) (ho : H id = some ob) (hr : ob.rw = false) (hv : ob.cells[off]? = some v) (k : aopL P pv rs (put a d v) H K) : aopL P pv (⟨some d, .ldf x, none⟩ :: rs) a H K := ⟨id, off, ob, v, hx, ho, hr, hv, k⟩
end

theorem Rel.freeze {m : AMap} {H : AH} {g : Out} {w : World} (h : Rel m H g w) {id : Nat} {ob : AObj} (ho : H id = some ob) : Rel m (upd H id ⟨ob.cells, false, ob.sz⟩) g w := by
  refine ⟨h.os, h.tape, h.output, h.size, fun j o hj => ?_, fun j o e j' o' e' hj he hj' he' hrw hne => ?_, h.raw, fun j o e hj he hrw => ?_, h.fin⟩
  · rw [upd_get] at hj
    split at hj
    · rename_i e
      subst e
      cases hj
      obtain ⟨e, h1, h2, h3, cs, t, fr, h4, h5, _, h6⟩ := h.live j ob ho
      exact ⟨e, h1, h2, h3, cs, t, fr, h4, h5, fun q => (by cases q), h6⟩
    · exact h.live j o hj
  · have hji : j ≠ id := fun q => by
      rw [q, upd_same] at hj
      cases hj; cases hrw
    rw [upd_ne _ _ hji] at hj
    rw [upd_get] at hj'
    split at hj'
    · rename_i q
      subst q
      exact h.sep j o e j' ob e' hj he ho he' hrw hne
    · exact h.sep j o e j' o' e' hj he hj' he' hrw hne
  · have hji : j ≠ id := fun q => by
      rw [q, upd_same] at hj
      cases hj; cases hrw
    rw [upd_ne _ _ hji] at hj
    exact h.rawsep j o e hj he hrw

/-- an object is written no more -/
theorem W_freeze {P : Program} {n : Nat} {sc : SC} {Q : Exit → (Nat → AV) → AH → Prop} {a : Nat → AV} {H : AH} {id : Nat} {ob : AObj} (ho : H id = some ob) (h : W P n sc Q a (upd H id ⟨ob.cells, false, ob.sz⟩)) : W P n sc Q a H := by
  intro hm c hc m HT g w act hl hR hS hd
  have hoT := hl _ _ ho
  refine wp_mono (h hm c hc m (upd HT id ⟨ob.cells, false, ob.sz⟩) g w act (hl.upd_both id _) (hR.freeze hoT) hS hd) fun e act' w' k => ?_
  obtain ⟨m', H', HT', a', k1, k2, k3, k4, k5⟩ := k
  refine ⟨m', H', HT', a', ⟨k1.mle, k1.sub, fun j o hj hT => k1.fr j o ?_ ?_⟩, k2, k3, k4, k5⟩
  · rw [upd_ne _ _ (fun q => by rw [q, ho] at hj; cases hj)]; exact hj
  · rw [upd_ne _ _ (fun q => by rw [q, ho] at hj; cases hj)]; exact hT
end Go.Proofs.Ytdkdainipanacaa
namespace Go.Proofs.Ytdkdainipanacaa
open Go Go.RowKit
set_option linter.unusedSimpArgs false
set_option linter.unusedVariables false
set_option linter.constructorNameAsVariable false
variable {P : Program} {pv : Bool} {rs : List SOp} {a : Nat → AV} {H : AH} {K : (Nat → AV) → AH → Prop} {d : Nat}

theorem bXg {x : SV} {cs : List AV} (hx : cellsOf (evS a x) = some cs) (k : ∀ id H', H id = none → HLe H H' → H' id = some ⟨cs, true, 0⟩ → H' = upd H id ⟨cs, true, 0⟩ → aopL P pv rs (put a d (.p id 0)) H' K) : aopL P pv (⟨some d, .bx x, none⟩ :: rs) a H K :=
  bX hx fun id hid => k id _ hid (.upd_new hid _) (upd_same _ _ _) rfl
theorem aLg {zs : List AV} (k : ∀ id H', H id = none → HLe H H' → H' id = some ⟨zs, true, 0⟩ → H' = upd H id ⟨zs, true, 0⟩ → aopL P pv rs (put a d (.p id 0)) H' K) : aopL P pv (⟨some d, .al zs, none⟩ :: rs) a H K :=
  aL fun id hid => k id _ hid (.upd_new hid _) (upd_same _ _ _) rfl
theorem bKg {sz len : Nat} {cs : List AV} (k : ∀ id H', H id = none → HLe H H' → H' id = some ⟨cs, true, sz⟩ → H' = upd H id ⟨cs, true, sz⟩ → aopL P pv rs (put a d (.s id 0 len)) H' K) : aopL P pv (⟨some d, .bk sz cs len, none⟩ :: rs) a H K :=
  bK fun id hid => k id _ hid (.upd_new hid _) (upd_same _ _ _) rfl
theorem bLg {sz len : Nat} {zs cs : List AV} {ps : List (Nat × SV)} (hc : afill (fun i => some (i * sz, sz)) zs (ps.map fun p => (p.1, evS a p.2)) = some cs) (k : ∀ id H', H id = none → HLe H H' → H' id = some ⟨cs, true, sz⟩ → H' = upd H id ⟨cs, true, sz⟩ → aopL P pv rs (put a d (.s id 0 len)) H' K) : aopL P pv (⟨some d, .bs sz zs len ps, none⟩ :: rs) a H K :=
  bL hc fun id hid => k id _ hid (.upd_new hid _) (upd_same _ _ _) rfl
/-- a new array of n cells -/
theorem mKN {x y : SV} {by_ n l : Nat} {z : AV} (hx : evS a x = I (n : Int)) (hy : evS a y = I (l : Int)) (h1 : n ≤ l) (h2 : by_ * l ≤ 281474976710656) (h3 : l ≤ 9223372036854775807) (k : ∀ id H', H id = none → HLe H H' → H' id = some ⟨List.replicate n z, true, 1⟩ → H' = upd H id ⟨List.replicate n z, true, 1⟩ → aopL P pv rs (put a d (.s id 0 n)) H' K) : aopL P pv (⟨some d, .ms by_ z x y, none⟩ :: rs) a H K :=
  mK hx hy (Int.natCast_nonneg n) (by omega) (by
    have : ((by_ * l : Nat) : Int) = (by_ : Int) * (l : Int) := Int.natCast_mul _ _
    rw [← this]; omega) (by omega) fun id hid => by
      rw [Int.toNat_natCast]
      exact k id _ hid (.upd_new hid _) (upd_same _ _ _) rfl
/-- a whole struct is stored -/
theorem sA {x y : SV} {id z sz : Nat} {zs cs : List AV} (hx : evS a x = .p id 0) (ho : H id = some ⟨zs, true, sz⟩) (hy : evS a y = .ag cs) (hl : zs.length = z) (hc : cs.length = z)
    (k : ∀ H', H' = upd H id ⟨cs, true, sz⟩ → aopL P pv rs a H' K) : aopL P pv (⟨none, .st z x y, none⟩ :: rs) a H K := by
  refine sT hx ho rfl (cs := cs) (by rw [hy]; rfl) hc (by simp only; omega) (k _ ?_)
  show upd H id ⟨splice zs 0 cs, true, sz⟩ = _
  rw [splice_all (by omega)]
/-- one value is stored in a cell of a struct -/
theorem sF {x y : SV} {id off sz : Nat} {zs : List AV} {v : AV} (hx : evS a x = .p id off) (ho : H id = some ⟨zs, true, sz⟩) (hy : evS a y = v) (hc : cellsOf v = some [v]) (hl : off < zs.length)
    (k : ∀ H', H' = upd H id ⟨zs.set off v, true, sz⟩ → aopL P pv rs a H' K) : aopL P pv (⟨none, .st 1 x y, none⟩ :: rs) a H K :=
  sV hx ho hy hc hl (k _ rfl)
theorem upd_out {H0 H : AH} {id : Nat} {ob : AObj} (h0 : H0 id = none) (hl : HLe H0 H) : HLe H0 (upd H id ob) := hl.upd_of h0 ob
/-- a field of a struct that is put in its place -/
theorem afill_nil {place : Nat → Option (Nat × Nat)} {cells : List AV} : afill place cells [] = some cells := rfl
end Go.Proofs.Ytdkdainipanacaa
namespace Go.Proofs.Ytdkdainipanacaa
open Go Go.RowKit Go.ChangeShapes Go.WideShapes Go.ChangeAt
set_option linter.unusedSimpArgs false
set_option linter.unusedVariables false

/-- a heap of objects that nobody writes -/
structure RO (m : AMap) (H : AH) (w : World) : Prop where
  rel : Rel m H (topOut w) w
  ro : ∀ id ob, H id = some ob → ob.rw = false
theorem ro_none (w : World) : RO (fun _ => none) (fun _ => none) w := ⟨rel_none w, fun _ _ h => by cases h⟩

theorem RO.ints {m : AMap} {H : AH} {w : World} (h : RO m H w) {a : Addr} {len cap : Nat} {zs : List Int} {k : IntKind} (hl : len ≤ cap) (hz : zs.length = cap) (hcell : ∀ i, i < zs.length → w.cell? (a.add i) = some (.int k (zs.getD i 0))) :
    ∃ m' H' x, MLe m m' ∧ HLe H H' ∧ RO m' H' w ∧ VR m' x (.slice (some a) len cap) ∧ Cs H' x ((zs.take len).map (AV.i k)) ∧ x.leaf = true := by
  by_cases hc : cap = 0
  · subst hc
    have : len = 0 := by omega
    subst this
    exact ⟨m, H, .es, .refl m, .refl H, h, .es, .inl ⟨by simp, .inr rfl⟩, rfl⟩
  have h0 := hcell 0 (by omega)
  have hend := hcell (cap - 1) (by omega)
  have hadd0 : a.add 0 = a := by simp [Addr.add]
  rw [hadd0] at h0
  have hcells : ∃ cs t fr, w.heap[a.block]? = some (.cells cs t fr) ∧ a.spot = none := by
    unfold World.cell? at h0
    split at h0
    · rename_i cs t fr e
      refine ⟨cs, t, fr, e, ?_⟩
      cases hs : a.spot with
      | none => rfl
      | some x => rw [hs] at h0; simp at h0
    · cases h0
  obtain ⟨cs, t, fr, hb, hs⟩ := hcells
  have hadd : ∀ i, a.add i = ⟨a.block, a.off + i, none⟩ := fun i => by
    unfold Addr.add
    split
    · rename_i e; subst e; cases a; simp_all
    · rfl
  have hat : ∀ i, i < cap → cs[a.off + i]? = some (.int k (zs.getD i 0)) := fun i hi => by
    have := hcell i (by omega)
    rw [hadd] at this
    unfold World.cell? at this
    simpa [hb] using this
  have hsize : a.off + cap ≤ cs.size := by
    have := hat (cap - 1) (by omega)
    have := (Array.getElem?_eq_some_iff.mp this).1
    omega
  obtain ⟨N, hN⟩ := h.rel.fin
  have hmN : m N = none := hN N (Nat.le_refl _)
  have hHN : H N = none := by
    cases e : H N with
    | none => rfl
    | some ob => obtain ⟨e', he, _⟩ := h.rel.live N ob e; rw [hmN] at he; cases he
  let e0 : Ent := ⟨a.block, a.off, 1, cap⟩
  let ob0 : AObj := ⟨zs.map (AV.i k), false, 1⟩
  have hle : HLe H (upd H N ob0) := .upd_new hHN _
  have hml : MLe m (upd m N e0) := fun id e he => by
    rw [upd_get, if_neg (fun h => by rw [h, hmN] at he; cases he)]; exact he
  have hro : ∀ id ob, upd H N ob0 id = some ob → ob.rw = false := fun id ob hi => by
    rw [upd_get] at hi
    split at hi
    · cases hi; rfl
    · exact h.ro id ob hi
  refine ⟨upd m N e0, upd H N ob0, .s N 0 len, hml, hle, ⟨⟨h.rel.os, h.rel.tape, h.rel.output, h.rel.size, ?_, ?_, h.rel.raw, ?_, ?_⟩, hro⟩, ?_, ?_, rfl⟩
  · intro id ob hi
    rw [upd_get] at hi
    split at hi
    · rename_i e
      subst e
      cases hi
      refine ⟨e0, upd_same _ _ _, rfl, by show (zs.map _).length ≤ cap; rw [List.length_map]; omega, cs, t, fr, hb, hsize, fun e => (by cases e), fun j c hj => ?_⟩
      have hj' : (zs.map (AV.i k))[j]? = some c := hj
      rw [List.getElem?_map] at hj'
      cases ez : zs[j]? with
      | none => rw [ez] at hj'; cases hj'
      | some z =>
        rw [ez] at hj'
        cases hj'
        have hjl := (List.getElem?_eq_some_iff.mp ez).1
        refine ⟨.int k z, ?_, rfl, .i k z⟩
        have := hat j (by omega)
        rw [List.getD_eq_getElem?_getD, ez] at this
        exact this
    · obtain ⟨e, he, ho⟩ := h.rel.live id ob hi
      exact ⟨e, hml _ _ he, ho.mono hml⟩
  · intro id ob e id' ob' e' h1 _ _ _ hrw
    rw [hro id ob h1] at hrw; cases hrw
  · intro id ob e h1 _ hrw
    rw [hro id ob h1] at hrw; cases hrw
  · exact ⟨N + 1, fun id hid => by rw [upd_get, if_neg (by omega)]; exact hN id (by omega)⟩
  · exact .s (upd_same _ _ _) hl (.inr ⟨by rw [← hadd 0, hadd0], by show 0 + cap * 1 ≤ cap; omega⟩)
  · refine .inr ⟨N, 0, ob0, by rw [List.length_map, List.length_take, Nat.min_eq_left (by omega)], upd_same _ _ _, rfl, ?_, ?_⟩
    · show 0 + ((zs.take len).map (AV.i k)).length ≤ (zs.map (AV.i k)).length
      rw [List.length_map, List.length_map, List.length_take]; omega
    · show (List.drop 0 (zs.map (AV.i k))).take ((zs.take len).map (AV.i k)).length = _
      rw [List.drop_zero, List.length_map, List.length_take, Nat.min_eq_left (by omega), List.map_take]

section
variable {T : Type} {enc : TypeId × Value → T} {P : Program} {w : World} {held : Bool}
/-- a slice of whole numbers -/
theorem RO.read {m : AMap} {H : AH} (h : RO m H w) {t e : TypeId} {k : IntKind} {fuel : Nat} {v : Value} {x : DataW T × List MemPlace} (ht : P.underlying t = some (.slice e)) (he : P.underlying e = some (.int k)) (hc : P.cellsOf e = 1)
    (hd : DataW.trod enc P w 0 (fun _ => true) held fuel t [v] = some x) :
    ∃ (m' : AMap) (H' : AH) (xv : AV) (l : List Int), MLe m m' ∧ HLe H H' ∧ RO m' H' w ∧ VR m' xv v ∧ Cs H' xv (l.map (AV.i k)) ∧ (∀ n ∈ l, (Lit.int k n).wf = true) ∧ l.length ≤ maxLen ∧ xv.leaf = true ∧ (l = [] ∨ ∃ es sp, x.1 = .slice es sp ∧ es.length = l.length) := by
  rcases open_ints ht he hc hd with ⟨h1, h2⟩ | ⟨a, len, cap, zs, h1, h2, h3, h4, h5, h6, h7, h8⟩
  · cases h1
    exact ⟨m, H, .ns, [], .refl m, .refl H, h, .ns, .inl ⟨rfl, .inl rfl⟩, by simp, by simp, rfl, .inl rfl⟩
  · cases h1
    obtain ⟨m', H', xv, k1, k2, k3, k4, k5, k6⟩ := h.ints h3 (h5.trans (if_pos rfl)) h7
    refine ⟨m', H', xv, zs.take len, k1, k2, k3, k4, k5, fun n hn => h8 n (List.mem_of_mem_take hn), by rw [List.length_take]; omega, k6, .inr ⟨_, _, by rw [h6], by simp [lits]⟩⟩
theorem RO.arg_ints {m : AMap} {H : AH} (h : RO m H w) {t e : TypeId} {k : IntKind} {r : Reach} {b0 : Nat} {v : Value} {d : DataW T} {ps : List MemPlace} (ht : P.underlying t = some (.slice e)) (he : P.underlying e = some (.int k)) (hc : P.cellsOf e = 1)
    (hval : Value.okWide P w r b0 t v) (hd : DataW.Trod enc P w 0 (fun _ => true) held t v d ps) :
    ∃ (m' : AMap) (H' : AH) (xv : AV) (l : List Int), MLe m m' ∧ HLe H H' ∧ RO m' H' w ∧ VR m' xv v ∧ Cs H' xv (l.map (AV.i k)) ∧ (∀ n ∈ l, (Lit.int k n).wf = true) ∧ (l = [] ∨ ∃ es sp, d = .slice es sp ∧ es.length = l.length) := by
  obtain ⟨a, len, cap, rfl⟩ := okWide_slice ht hval
  obtain ⟨fuel, hf⟩ := hd
  obtain ⟨m', H', xv, l, k1, k2, k3, k4, k5, k6, _, _, k7⟩ := h.read ht he hc hf
  exact ⟨m', H', xv, l, k1, k2, k3, k4, k5, k6, k7⟩
/-- a struct of two numbers and a slice of numbers -/
theorem RO.arg_field {m : AMap} {H : AH} (h : RO m H w) {t ti tl e : TypeId} {k : IntKind} {r : Reach} {b0 : Nat} {v : Value} {d : DataW T} {ps : List MemPlace} {fs : Array Field} {f0 f1 f2 : Field} (ht : P.underlying t = some (.struct fs)) (hfs : fs = #[f0, f1, f2])
    (h0 : f0.type = ti ∧ f0.offset = 0) (h1 : f1.type = ti ∧ f1.offset = 1) (h2 : f2.type = tl ∧ f2.offset = 2) (hti : P.underlying ti = some (.int k)) (hci : P.cellsOf ti = 1) (htl : P.underlying tl = some (.slice e)) (hcl : P.cellsOf tl = 1)
    (he : P.underlying e = some (.int k)) (hc : P.cellsOf e = 1) (hct : P.cellsOf t = 3) (hval : Value.okWide P w r b0 t v) (hd : DataW.Trod enc P w 0 (fun _ => true) held t v d ps) :
    ∃ (m' : AMap) (H' : AH) (xv : AV) (l : List Int) (p q : Int), MLe m m' ∧ HLe H H' ∧ RO m' H' w ∧ VR m' (.ag [.i k p, .i k q, xv]) v ∧ Cs H' xv (l.map (AV.i k)) ∧ (Lit.int k p).wf = true ∧ (Lit.int k q).wf = true ∧ (∀ n ∈ l, (Lit.int k n).wf = true) := by
  subst hfs
  obtain ⟨cs, rfl, hsz⟩ := okWide_struct ht hval
  obtain ⟨fuel, hf⟩ := hd
  obtain ⟨xs, n, _, _, _, hxl, hx⟩ := DataW.trod_struct ht hf
  have hxl3 : xs.length = 3 := hxl
  obtain ⟨a, b, c, rfl⟩ : ∃ a b c, cs = #[a, b, c] := by
    obtain ⟨l⟩ := cs
    have hl : l.length = 3 := hsz.trans hct
    match l, hl with
    | [a, b, c], _ => exact ⟨a, b, c, rfl⟩
  have e0 := hx 0 f0 rfl
  have e1 := hx 1 f1 rfl
  have e2 := hx 2 f2 rfl
  rw [h0.1, h0.2, hci, List.getElem?_eq_getElem (by omega)] at e0
  rw [h1.1, h1.2, hci, List.getElem?_eq_getElem (by omega)] at e1
  rw [h2.1, h2.2, hcl, List.getElem?_eq_getElem (by omega)] at e2
  obtain ⟨p, hp, _, hpw⟩ := DataW.trod_int hti e0
  obtain ⟨q, hq, _, hqw⟩ := DataW.trod_int hti e1
  have ha : a = .int k p := (List.cons.inj hp).1
  have hb : b = .int k q := (List.cons.inj hq).1
  subst ha
  subst hb
  have e2' : DataW.trod enc P w 0 (fun _ => true) held n tl [c] = some xs[2] := e2
  obtain ⟨m', H', xv, l, k1, k2, k3, k4, k5, k6, _, k8, _⟩ := h.read htl he hc e2'
  refine ⟨m', H', xv, l, p, q, k1, k2, k3, .ag rfl ?_ ?_, k5, hpw, hqw, k6⟩
  · intro j x y hj hy
    match j with
    | 0 => cases hj; rfl
    | 1 => cases hj; rfl
    | 2 => cases hj; exact k8
    | j + 3 => cases hj
  · intro j x y hj hy
    match j with
    | 0 => cases hj; cases hy; exact .i _ _
    | 1 => cases hj; cases hy; exact .i _ _
    | 2 => cases hj; cases hy; exact k4
    | j + 3 => cases hj
end

end Go.Proofs.Ytdkdainipanacaa
namespace Go.Proofs.Ytdkdainipanacaa
open Go Go.RowKit Go.ChangeShapes Go.WideShapes Go.ChangeAt
set_option linter.unusedSimpArgs false
set_option linter.unusedVariables false

theorem add_at {a : Addr} (hs : a.spot = none) (i : Nat) : a.add i = ⟨a.block, a.off + i, none⟩ := by
  unfold Addr.add
  split
  · rename_i e; subst e; cases a; simp_all
  · rfl

/-- an array that nobody writes -/
theorem RO.obj {m : AMap} {H : AH} {w : World} (h : RO m H w) {a : Addr} {cap : Nat} {cs : List AV} {vs : List Value} (hl : cs.length = vs.length) (hcap : vs.length ≤ cap) (hcell : ∀ (i : Nat) v, vs[i]? = some v → w.cell? (a.add i) = some v)
    (hall : ∀ i, i < cap → ∃ v, w.cell? (a.add i) = some v) (hrel : ∀ (i : Nat) c v, cs[i]? = some c → vs[i]? = some v → c.leaf = true ∧ VR m c v) :
    ∃ m' H' x, MLe m m' ∧ HLe H H' ∧ RO m' H' w ∧ VR m' x (.slice (some a) vs.length cap) ∧ Cs H' x cs ∧ x.leaf = true := by
  by_cases hc : cap = 0
  · subst hc
    have hv : vs = [] := List.eq_nil_of_length_eq_zero (by omega)
    subst hv
    have hcs : cs = [] := List.eq_nil_of_length_eq_zero hl
    subst hcs
    exact ⟨m, H, .es, .refl m, .refl H, h, .es, .inl ⟨rfl, .inr rfl⟩, rfl⟩
  obtain ⟨v0, h0⟩ := hall 0 (by omega)
  have hadd0 : a.add 0 = a := by simp [Addr.add]
  rw [hadd0] at h0
  have hcells : ∃ bs t fr, w.heap[a.block]? = some (.cells bs t fr) ∧ a.spot = none := by
    unfold World.cell? at h0
    split at h0
    · rename_i bs t fr e
      refine ⟨bs, t, fr, e, ?_⟩
      cases hs : a.spot with
      | none => rfl
      | some x => rw [hs] at h0; simp at h0
    · cases h0
  obtain ⟨bs, t, fr, hb, hs⟩ := hcells
  have hat : ∀ i v, w.cell? (a.add i) = some v → bs[a.off + i]? = some v := fun i v hv => by
    rw [add_at hs] at hv
    unfold World.cell? at hv
    simpa [hb] using hv
  have hsize : a.off + cap ≤ bs.size := by
    obtain ⟨v, hv⟩ := hall (cap - 1) (by omega)
    have := (Array.getElem?_eq_some_iff.mp (hat _ v hv)).1
    omega
  obtain ⟨N, hN⟩ := h.rel.fin
  have hmN : m N = none := hN N (Nat.le_refl _)
  have hHN : H N = none := by
    cases e : H N with
    | none => rfl
    | some ob => obtain ⟨e', he, _⟩ := h.rel.live N ob e; rw [hmN] at he; cases he
  let e0 : Ent := ⟨a.block, a.off, 1, cap⟩
  let ob0 : AObj := ⟨cs, false, 1⟩
  have hle : HLe H (upd H N ob0) := .upd_new hHN _
  have hml : MLe m (upd m N e0) := fun id e he => by
    rw [upd_get, if_neg (fun h => by rw [h, hmN] at he; cases he)]; exact he
  have hro : ∀ id ob, upd H N ob0 id = some ob → ob.rw = false := fun id ob hi => by
    rw [upd_get] at hi
    split at hi
    · cases hi; rfl
    · exact h.ro id ob hi
  refine ⟨upd m N e0, upd H N ob0, .s N 0 vs.length, hml, hle, ⟨⟨h.rel.os, h.rel.tape, h.rel.output, h.rel.size, ?_, ?_, h.rel.raw, ?_, ?_⟩, hro⟩, ?_, ?_, rfl⟩
  · intro id ob hi
    rw [upd_get] at hi
    split at hi
    · rename_i e
      subst e
      cases hi
      refine ⟨e0, upd_same _ _ _, rfl, by show cs.length ≤ cap; omega, bs, t, fr, hb, hsize, fun e => (by cases e), fun j c hj => ?_⟩
      have hj' : cs[j]? = some c := hj
      have hjl := (List.getElem?_eq_some_iff.mp hj').1
      have hv : vs[j]? = some vs[j] := List.getElem?_eq_getElem (by omega)
      obtain ⟨k1, k2⟩ := hrel j c _ hj' hv
      exact ⟨vs[j], hat j _ (hcell j _ hv), k1, k2.mono hml⟩
    · obtain ⟨e, he, ho⟩ := h.rel.live id ob hi
      exact ⟨e, hml _ _ he, ho.mono hml⟩
  · intro id ob e id' ob' e' h1 _ _ _ hrw
    rw [hro id ob h1] at hrw; cases hrw
  · intro id ob e h1 _ hrw
    rw [hro id ob h1] at hrw; cases hrw
  · exact ⟨N + 1, fun id hid => by rw [upd_get, if_neg (by omega)]; exact hN id (by omega)⟩
  · exact .s (upd_same _ _ _) hcap (.inr ⟨by rw [← add_at hs 0, hadd0], by show 0 + cap * 1 ≤ cap; omega⟩)
  · refine .inr ⟨N, 0, ob0, by rw [hl], upd_same _ _ _, rfl, by show 0 + cs.length ≤ cs.length; omega, ?_⟩
    show (List.drop 0 cs).take cs.length = cs
    rw [List.drop_zero, List.take_length]

section
variable {T : Type} {enc : TypeId × Value → T} {P : Program} {w : World} {held : Bool}
/-- a slice of what can be read -/
theorem RO.slice_of {α : Type} {Q : AH → AV → α → Prop} (hQ : ∀ H H' c l, HLe H H' → Q H c l → Q H' c l) {e : TypeId} (hc : P.cellsOf e = 1)
    (rd : ∀ (m : AMap) (H : AH) (fuel : Nat) (v : Value) (x : DataW T × List MemPlace), RO m H w → DataW.trod enc P w 0 (fun _ => true) held fuel e [v] = some x → ∃ m' H' c l, MLe m m' ∧ HLe H H' ∧ RO m' H' w ∧ VR m' c v ∧ c.leaf = true ∧ Q H' c l)
    {m : AMap} {H : AH} (h : RO m H w) {t : TypeId} {fuel : Nat} {v : Value} {x : DataW T × List MemPlace} (ht : P.underlying t = some (.slice e)) (hd : DataW.trod enc P w 0 (fun _ => true) held fuel t [v] = some x) :
    ∃ m' H' xv cs, ∃ ls : List α, MLe m m' ∧ HLe H H' ∧ RO m' H' w ∧ VR m' xv v ∧ Cs H' xv cs ∧ xv.leaf = true ∧ cs.length = ls.length ∧ ls.length ≤ maxLen ∧ ∀ (i : Nat) c l, cs[i]? = some c → ls[i]? = some l → Q H' c l := by
  rcases DataW.trod_slice ht hd with ⟨h0, _⟩ | ⟨a, len, cap, elems, rest, n, _, h0, _, hb, hl, hm, hlen, hel, hsp, hns⟩
  · cases h0
    exact ⟨m, H, .ns, [], [], .refl m, .refl H, h, .ns, .inl ⟨rfl, .inl rfl⟩, rfl, rfl, Nat.zero_le _, fun i c l hc => by simp at hc⟩
  obtain rfl : v = .slice (some a) len cap := (List.cons.inj h0).1
  have hone : ∀ (b : Addr) y, (w.cells? 0 b (P.cellsOf e)).bind (DataW.trod enc P w 0 (fun _ => true) held n e) = some y → ∃ u, w.cell? b = some u ∧ DataW.trod enc P w 0 (fun _ => true) held n e [u] = some y := fun b y hy => by
    rw [hc, Option.bind_eq_some_iff] at hy
    obtain ⟨us, hus, hy⟩ := hy
    have hlen1 : us.length = 1 := by
      have := hus
      unfold World.cells? at this
      split at this
      · simpa using mapM_some_length this
      · cases this
    match us, hlen1 with
    | [u], _ => exact ⟨u, cell_of_cells?_one hus, hy⟩
  have hE : ∀ i, i < len → ∃ u y, w.cell? (a.add i) = some u ∧ DataW.trod enc P w 0 (fun _ => true) held n e [u] = some y := fun i hi => by
    have h1 := hel i hi
    rw [List.getElem?_eq_getElem (by omega)] at h1
    obtain ⟨u, h2, h3⟩ := hone _ _ h1
    rw [hc, Nat.mul_one] at h2
    exact ⟨u, _, h2, h3⟩
  obtain ⟨hrl, hr⟩ := hsp rfl
  have hall : ∀ i, i < cap → ∃ u, w.cell? (a.add i) = some u := fun i hi => by
    by_cases hil : i < len
    · obtain ⟨u, _, h1, _⟩ := hE i hil; exact ⟨u, h1⟩
    · have h1 := hr (i - len) (by omega)
      rw [List.getElem?_eq_getElem (by omega)] at h1
      obtain ⟨u, h2, _⟩ := hone _ _ h1
      rw [hc, Nat.mul_one, show len + (i - len) = i by omega] at h2
      exact ⟨u, h2⟩
  have key : ∀ k, k ≤ len → ∃ m' H', ∃ cs : List AV, ∃ vs : List Value, ∃ ls : List α, MLe m m' ∧ HLe H H' ∧ RO m' H' w ∧ cs.length = k ∧ vs.length = k ∧ ls.length = k ∧ (∀ (i : Nat) v, vs[i]? = some v → w.cell? (a.add i) = some v) ∧
      (∀ (i : Nat) c v, cs[i]? = some c → vs[i]? = some v → c.leaf = true ∧ VR m' c v) ∧ ∀ (i : Nat) c l, cs[i]? = some c → ls[i]? = some l → Q H' c l := by
    intro k
    induction k with
    | zero => intro _; exact ⟨m, H, [], [], [], .refl m, .refl H, h, rfl, rfl, rfl, fun i v hv => by simp at hv, fun i c v hc => by simp at hc, fun i c l hc => by simp at hc⟩
    | succ k ih =>
      intro hk
      obtain ⟨m1, H1, cs, vs, ls, a1, a2, a3, a4, a5, a6, a7, a8, a9⟩ := ih (by omega)
      obtain ⟨u, y, h1, h2⟩ := hE k (by omega)
      obtain ⟨m2, H2, c, l, b1, b2, b3, b4, b5, b6⟩ := rd m1 H1 n u y a3 h2
      refine ⟨m2, H2, cs ++ [c], vs ++ [u], ls ++ [l], a1.trans b1, a2.trans b2, b3, by simp [a4], by simp [a5], by simp [a6], fun i v hv => ?_, fun i c' v hc' hv => ?_, fun i c' l' hc' hl' => ?_⟩
      · rw [List.getElem?_append] at hv
        split at hv
        · exact a7 i v hv
        · have hi : i = vs.length := by have := (List.getElem?_eq_some_iff.mp hv).1; simp at this; omega
          rw [hi, Nat.sub_self] at hv
          obtain rfl : u = v := by simpa using hv
          rw [hi, a5]; exact h1
      · rw [List.getElem?_append] at hc' hv
        split at hc'
        · rename_i hi
          rw [if_pos (by omega)] at hv
          obtain ⟨k1, k2⟩ := a8 i c' v hc' hv
          exact ⟨k1, k2.mono b1⟩
        · rename_i hi
          rw [if_neg (by omega)] at hv
          have hi2 : i = cs.length := by have := (List.getElem?_eq_some_iff.mp hc').1; simp at this; omega
          rw [hi2, Nat.sub_self] at hc'
          rw [hi2, a4, a5, Nat.sub_self] at hv
          obtain rfl : c = c' := by simpa using hc'
          obtain rfl : u = v := by simpa using hv
          exact ⟨b5, b4⟩
      · rw [List.getElem?_append] at hc' hl'
        split at hc'
        · rename_i hi
          rw [if_pos (by omega)] at hl'
          exact hQ _ _ _ _ b2 (a9 i c' l' hc' hl')
        · rename_i hi
          rw [if_neg (by omega)] at hl'
          have hi2 : i = cs.length := by have := (List.getElem?_eq_some_iff.mp hc').1; simp at this; omega
          rw [hi2, Nat.sub_self] at hc'
          rw [hi2, a4, a6, Nat.sub_self] at hl'
          obtain rfl : c = c' := by simpa using hc'
          obtain rfl : l = l' := by simpa using hl'
          exact b6
  obtain ⟨m1, H1, cs, vs, ls, a1, a2, a3, a4, a5, a6, a7, a8, a9⟩ := key len (Nat.le_refl _)
  obtain ⟨m2, H2, xv, b1, b2, b3, b4, b5, b6⟩ := a3.obj (by omega) (by omega) a7 hall a8
  rw [a5] at b4
  exact ⟨m2, H2, xv, cs, ls, a1.trans b1, a2.trans b2, b3, b4, b5, b6, by omega, by omega, fun i c l hc hl => hQ _ _ _ _ b2 (a9 i c l hc hl)⟩

/-- a slice of slices of whole numbers -/
theorem RO.rows {m : AMap} {H : AH} (h : RO m H w) {t e e2 : TypeId} {fuel : Nat} {v : Value} {x : DataW T × List MemPlace} (ht : P.underlying t = some (.slice e)) (hce : P.cellsOf e = 1) (he : P.underlying e = some (.slice e2)) (he2 : P.underlying e2 = some (.int .i64)) (hc : P.cellsOf e2 = 1)
    (hd : DataW.trod enc P w 0 (fun _ => true) held fuel t [v] = some x) :
    ∃ m' H' xv, ∃ ls : List (List Int), MLe m m' ∧ HLe H H' ∧ RO m' H' w ∧ VR m' xv v ∧ RowsS H' xv ls ∧ xv.leaf = true ∧ ls.length ≤ maxLen ∧ ∀ l, l ∈ ls → l.length ≤ maxLen := by
  obtain ⟨m', H', xv, cs, ls, h1, h2, h3, h4, h5, h6, h7, h8, h9⟩ := RO.slice_of (α := List Int) (Q := fun H c l => Cs H c (l.map I) ∧ l.length ≤ maxLen) (fun H H' c l hl hq => ⟨hq.1.mono hl, hq.2⟩) hce
    (fun m H fuel v x hro hd => by
      obtain ⟨m', H', xv, l, k1, k2, k3, k4, k5, _, k7, k8, _⟩ := hro.read he he2 hc hd
      exact ⟨m', H', xv, l, k1, k2, k3, k4, k8, k5, k7⟩) h ht hd
  refine ⟨m', H', xv, ls, h1, h2, h3, h4, ⟨cs, h5, h7, fun i c l hc hl => (h9 i c l hc hl).1.ints⟩, h6, h8, fun l hl => ?_⟩
  obtain ⟨i, hi⟩ := List.getElem?_of_mem hl
  have hi' := (List.getElem?_eq_some_iff.mp hi).1
  exact (h9 i _ l (List.getElem?_eq_getElem (by omega)) hi).2

/-- a code: a struct of a field's description, a length, and rows -/
theorem RO.arg_code {m : AMap} {H : AH} (h : RO m H w) {t tf ti tl tr e : TypeId} {r : Reach} {b0 : Nat} {v : Value} {d : DataW T} {ps : List MemPlace} {fs gs : Array Field} {f0 f1 f2 g0 g1 g2 : Field} (ht : P.underlying t = some (.struct fs)) (hfs : fs = #[f0, f1, f2])
    (h0 : f0.type = tf ∧ f0.offset = 0) (h1 : f1.type = ti ∧ f1.offset = 3) (h2 : f2.type = tr ∧ f2.offset = 4) (htf : P.underlying tf = some (.struct gs)) (hgs : gs = #[g0, g1, g2]) (k0 : g0.type = ti ∧ g0.offset = 0) (k1 : g1.type = ti ∧ g1.offset = 1) (k2 : g2.type = tl ∧ g2.offset = 2)
    (hti : P.underlying ti = some (.int .i64)) (hci : P.cellsOf ti = 1) (htl : P.underlying tl = some (.slice ti)) (hcl : P.cellsOf tl = 1) (htr : P.underlying tr = some (.slice tl)) (hcr : P.cellsOf tr = 1) (hcf : P.cellsOf tf = 3) (hct : P.cellsOf t = 5)
    (hval : Value.okWide P w r b0 t v) (hd : DataW.Trod enc P w 0 (fun _ => true) held t v d ps) :
    ∃ (m' : AMap) (H' : AH) (xv xg : AV) (l : List Int) (ls : List (List Int)) (p q n : Int), MLe m m' ∧ HLe H H' ∧ RO m' H' w ∧ VR m' (.ag [I p, I q, xv, I n, xg]) v ∧ Cs H' xv (l.map I) ∧ RowsS H' xg ls ∧ l.length ≤ maxLen ∧ ls.length ≤ maxLen ∧ (∀ l, l ∈ ls → l.length ≤ maxLen) ∧
      (Lit.int .i64 n).wf = true := by
  subst hfs
  subst hgs
  obtain ⟨cs, rfl, hsz⟩ := okWide_struct ht hval
  obtain ⟨fuel, hf⟩ := hd
  obtain ⟨xs, n, _, _, _, hxl, hx⟩ := DataW.trod_struct ht hf
  have hxl3 : xs.length = 3 := hxl
  obtain ⟨a, b, c, d, e, rfl⟩ : ∃ a b c d e, cs = #[a, b, c, d, e] := by
    obtain ⟨l⟩ := cs
    have hl : l.length = 5 := hsz.trans hct
    match l, hl with
    | [a, b, c, d, e], _ => exact ⟨a, b, c, d, e, rfl⟩
  have e0 := hx 0 f0 rfl
  have e1 := hx 1 f1 rfl
  have e2 := hx 2 f2 rfl
  rw [h0.1, h0.2, hcf, List.getElem?_eq_getElem (by omega)] at e0
  rw [h1.1, h1.2, hci, List.getElem?_eq_getElem (by omega)] at e1
  rw [h2.1, h2.2, hcr, List.getElem?_eq_getElem (by omega)] at e2
  obtain ⟨ys, n2, _, _, _, hyl, hy⟩ := DataW.trod_struct htf e0
  have hyl3 : ys.length = 3 := hyl
  have j0 := hy 0 g0 rfl
  have j1 := hy 1 g1 rfl
  have j2 := hy 2 g2 rfl
  rw [k0.1, k0.2, hci, List.getElem?_eq_getElem (by omega)] at j0
  rw [k1.1, k1.2, hci, List.getElem?_eq_getElem (by omega)] at j1
  rw [k2.1, k2.2, hcl, List.getElem?_eq_getElem (by omega)] at j2
  obtain ⟨p, hp, _, hpw⟩ := DataW.trod_int hti j0
  obtain ⟨q, hq, _, hqw⟩ := DataW.trod_int hti j1
  obtain ⟨nn, hn, _, hnw⟩ := DataW.trod_int hti e1
  have ha : a = .int .i64 p := (List.cons.inj hp).1
  have hb : b = .int .i64 q := (List.cons.inj hq).1
  have hdd : d = .int .i64 nn := (List.cons.inj hn).1
  subst ha
  subst hb
  subst hdd
  have j2' : DataW.trod enc P w 0 (fun _ => true) held n2 tl [c] = some ys[2] := j2
  have e2' : DataW.trod enc P w 0 (fun _ => true) held n tr [e] = some xs[2] := e2
  obtain ⟨m1, H1, xv, l, q1, q2, q3, q4, q5, q6, q7, q8, _⟩ := h.read htl hti hci j2'
  obtain ⟨m2, H2, xg, ls, r1, r2, r3, r4, r5, r6, r7, r8⟩ := q3.rows htr hcl htl hti hci e2'
  refine ⟨m2, H2, xv, xg, l, ls, p, q, nn, q1.trans r1, q2.trans r2, r3, .ag rfl ?_ ?_, q5.mono r2, r5, q7, r7, r8, hnw⟩
  · intro j x y hj hy
    match j with
    | 0 => cases hj; rfl
    | 1 => cases hj; rfl
    | 2 => cases hj; exact q8
    | 3 => cases hj; rfl
    | 4 => cases hj; exact r6
    | j + 5 => cases hj
  · intro j x y hj hy
    match j with
    | 0 => cases hj; cases hy; exact .i _ _
    | 1 => cases hj; cases hy; exact .i _ _
    | 2 => cases hj; cases hy; exact q4.mono r1
    | 3 => cases hj; cases hy; exact .i _ _
    | 4 => cases hj; cases hy; exact r4
    | j + 5 => cases hj
end
end Go.Proofs.Ytdkdainipanacaa
