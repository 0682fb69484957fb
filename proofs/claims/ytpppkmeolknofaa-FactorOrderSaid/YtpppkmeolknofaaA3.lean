/- The slim operations on memory, and that the machine does as they say. No condition. -/
import Derived.Test.YtpppkmeolknofaaA2
namespace Go.Proofs.Ytpppkmeolknofaa
open Go Go.RowKit
set_option linter.unusedSimpArgs false
set_option linter.unusedVariables false

def splice {α : Type} (l : List α) (off : Nat) (cs : List α) : List α := l.take off ++ cs ++ l.drop (off + cs.length)

theorem splice_length {α : Type} (l : List α) (off : Nat) (cs : List α) (h : off + cs.length ≤ l.length) : (splice l off cs).length = l.length := by
  simp [splice]; omega

theorem splice_get {α : Type} (l : List α) (off : Nat) (cs : List α) (h : off + cs.length ≤ l.length) (j : Nat) :
    (splice l off cs)[j]? = if off ≤ j ∧ j < off + cs.length then cs[j - off]? else l[j]? := by
  unfold splice
  by_cases h1 : j < off
  · rw [List.append_assoc, List.getElem?_append_left (by simp; omega), List.getElem?_take, if_pos h1, if_neg (by omega)]
  · by_cases h2 : j < off + cs.length
    · rw [List.append_assoc, List.getElem?_append_right (by simp; omega), List.getElem?_append_left (by simp; omega), if_pos (by omega)]
      congr 1; simp; omega
    · rw [List.getElem?_append_right (by simp; omega), List.getElem?_drop, if_neg (by omega)]
      congr 1; simp; omega

def VL (m : AMap) (cs : List AV) (vs : List Value) : Prop :=
  cs.length = vs.length ∧ ∀ (j : Nat) (c : AV) (v : Value), cs[j]? = some c → vs[j]? = some v → c.leaf = true ∧ VR m c v

theorem VL.mono {m m' : AMap} (hm : MLe m m') {cs : List AV} {vs : List Value} (h : VL m cs vs) : VL m' cs vs := ⟨h.1, fun j c v a b => ⟨(h.2 j c v a b).1, (h.2 j c v a b).2.mono hm⟩⟩
theorem VL.nil (m : AMap) : VL m [] [] := ⟨rfl, by simp⟩
theorem VL.get {m : AMap} {cs : List AV} {vs : List Value} (h : VL m cs vs) {j : Nat} {c : AV} (hc : cs[j]? = some c) : ∃ v, vs[j]? = some v ∧ c.leaf = true ∧ VR m c v := by
  have hlt : j < vs.length := by rw [← h.1]; exact (List.getElem?_eq_some_iff.mp hc).1
  have hv : vs[j]? = some vs[j] := by simp [hlt]
  exact ⟨_, hv, h.2 j c _ hc hv⟩
theorem VL.append {m : AMap} {a b : List AV} {x y : List Value} (h : VL m a x) (k : VL m b y) : VL m (a ++ b) (x ++ y) := by
  refine ⟨by simp [h.1, k.1], fun j c v hc hv => ?_⟩
  by_cases hj : j < a.length
  · rw [List.getElem?_append_left hj] at hc
    rw [List.getElem?_append_left (by rw [← h.1]; exact hj)] at hv
    exact h.2 j c v hc hv
  · rw [List.getElem?_append_right (by omega)] at hc
    rw [List.getElem?_append_right (by rw [← h.1]; omega)] at hv
    rw [h.1] at hc
    exact k.2 _ c v hc hv
theorem VL.take {m : AMap} {a : List AV} {x : List Value} (h : VL m a x) (n : Nat) : VL m (a.take n) (x.take n) := by
  refine ⟨by simp [h.1], fun j c v hc hv => ?_⟩
  rw [List.getElem?_take] at hc hv
  split at hc
  · exact h.2 j c v hc (by simpa [*] using hv)
  · cases hc
theorem VL.drop {m : AMap} {a : List AV} {x : List Value} (h : VL m a x) (n : Nat) : VL m (a.drop n) (x.drop n) := by
  refine ⟨by simp [h.1], fun j c v hc hv => ?_⟩
  rw [List.getElem?_drop] at hc hv
  exact h.2 _ c v hc hv
theorem VL.splice {m : AMap} {l cs : List AV} {x y : List Value} (h : VL m l x) (k : VL m cs y) (off : Nat) : VL m (splice l off cs) (splice x off y) := by
  unfold Go.Proofs.Ytpppkmeolknofaa.splice
  rw [k.1]
  exact ((h.take off).append k).append (h.drop _)
theorem VL.ag {m : AMap} {cs : List AV} {vs : List Value} (h : VL m cs vs) : VR m (.ag cs) (.agg vs.toArray) :=
  .ag (by simpa using h.1) (fun j c v a b => (h.2 j c v a (by simpa using b)).1) (fun j c v a b => (h.2 j c v a (by simpa using b)).2)
theorem VR.ag_inv {m : AMap} {cs : List AV} {v : Value} (h : VR m (.ag cs) v) : ∃ vs : Array Value, v = .agg vs ∧ VL m cs vs.toList := by
  cases h with
  | ag hl h1 h2 => exact ⟨_, rfl, by simpa using hl, fun j c v a b => ⟨h1 j c v a (by simpa using b), h2 j c v a (by simpa using b)⟩⟩

def cellsOf : AV → Option (List AV)
  | .ag cs => some cs
  | v => if v.leaf then some [v] else none

theorem cellsOf_rel {m : AMap} {x : AV} {v : Value} {cs : List AV} (h : VR m x v) (hc : cellsOf x = some cs) : VL m cs v.cells.toList := by
  unfold cellsOf at hc
  split at hc
  · obtain rfl := Option.some.inj hc
    obtain ⟨vs, rfl, hv⟩ := h.ag_inv
    exact hv
  · split at hc
    · rename_i hl
      obtain rfl := Option.some.inj hc
      have h1 := leaf_oneCell h hl
      have : v.cells = #[v] := by cases v <;> first | rfl | (simp [Value.oneCell'] at h1)
      rw [this]
      refine ⟨rfl, fun j c u a b => ?_⟩
      cases j with
      | zero => simp at a b; subst a; subst b; exact ⟨hl, h⟩
      | succ j => simp at a
    · cases hc

/-- a part of an object: the abstract cells and the world's -/
theorem OR.part {m : AMap} {w : World} {e : Ent} {ob : AObj} (h : OR m w e ob) (off n : Nat) (hn : off + n ≤ ob.cells.length) :
    ∃ vs : List Value, VL m ((ob.cells.drop off).take n) vs ∧ vs.length = n ∧ ∀ j v, vs[j]? = some v → w.cell? ((⟨e.blk, e.sh + off, none⟩ : Addr).add j) = some v := by
  obtain ⟨h1, h2, cs, t, fr, hb, h4, h5, h6⟩ := h
  refine ⟨(cs.toList.drop (e.sh + off)).take n, ⟨?_, fun j c v hc hv => ?_⟩, ?_, fun j v hv => ?_⟩
  · simp; omega
  · rw [List.getElem?_take] at hc hv
    split at hc
    · rename_i hj
      rw [if_pos hj] at hv
      rw [List.getElem?_drop] at hc hv
      obtain ⟨v', a, b, d⟩ := h6 _ c hc
      have : v = v' := by
        have e1 : e.sh + (off + j) = e.sh + off + j := by omega
        rw [e1] at a
        rw [Array.getElem?_toList] at hv
        rw [a] at hv
        exact (Option.some.inj hv).symm
      subst this
      exact ⟨b, d⟩
    · cases hc
  · simp; omega
  · rw [List.getElem?_take] at hv
    split at hv
    · rw [List.getElem?_drop, Array.getElem?_toList] at hv
      have hadd : (⟨e.blk, e.sh + off, none⟩ : Addr).add j = ⟨e.blk, e.sh + off + j, none⟩ := by unfold Addr.add; split <;> simp_all
      rw [hadd, cell_of_row w _ _ cs t fr hb]
      exact hv
    · cases hv

theorem OR.read {m : AMap} {w : World} {e : Ent} {ob : AObj} (h : OR m w e ob) {off : Nat} {c : AV} (hc : ob.cells[off]? = some c) :
    ∃ v, w.cell? ⟨e.blk, e.sh + off, none⟩ = some v ∧ c.leaf = true ∧ VR m c v := by
  obtain ⟨h1, h2, cs, t, fr, hb, h4, h5, h6⟩ := h
  obtain ⟨v, a, b, d⟩ := h6 _ c hc
  exact ⟨v, by rw [cell_of_row w _ _ cs t fr hb]; exact a, b, d⟩

/-- what an operation does: a value or nothing, in a world that is told -/
def Ex (P : Program) (s : Sem Next) (m : AMap) (H HT : AH) (g : Out) (w : World) (K : AV → AH → Prop) : Prop :=
  ∃ x v w' m' H' HT', (s.run P w = .ok (.value v) w' ∨ (s.run P w = .ok .skip w' ∧ v = undef)) ∧ VR m' x v ∧ Stp m H HT m' H' HT' ∧ Rel m' HT' g w' ∧ K x H'

theorem Ex.same {P : Program} {s : Sem Next} {m : AMap} {H HT : AH} {g : Out} {w : World} {K : AV → AH → Prop} {x : AV} {v : Value} (hl : HLe H HT) (hR : Rel m HT g w)
    (hr : s.run P w = .ok (.value v) w) (hv : VR m x v) (hK : K x H) : Ex P s m H HT g w K :=
  ⟨x, v, w, m, H, HT, .inl hr, hv, .refl hl, hR, hK⟩

def rdc (H : AH) (id off : Nat) : Option AV := (H id).bind (·.cells[off]?)

/-- a source: how many elements, and their cells -/
def src (H : AH) (sz : Nat) : AV → Option (Nat × List AV)
  | .ns | .es => some (0, [])
  | .s id off len => (H id).bind fun ob => if off + len * sz ≤ ob.cells.length then some (len, (ob.cells.drop off).take (len * sz)) else none
  | _ => none

theorem src_rel {m : AMap} {H HT : AH} {g : Out} {w : World} (hl : HLe H HT) (hR : Rel m HT g w) {sz : Nat} {x : AV} {v : Value} {n : Nat} {cs : List AV} (hx : VR m x v) (hs : src H sz x = some (n, cs))
    : ∃ a c vs, v = .slice a n c ∧ n ≤ c ∧ VL m cs vs ∧ vs.length = n * sz ∧ (a = none → n = 0 ∧ c = 0) ∧ ∀ A, a = some A → ∀ j u, vs[j]? = some u → w.cell? (A.add j) = some u := by
  cases hx with
  | ns => simp only [src, Option.some.injEq, Prod.mk.injEq] at hs; obtain ⟨rfl, rfl⟩ := hs; exact ⟨none, 0, [], rfl, Nat.le_refl _, .nil m, by simp, by simp, by simp⟩
  | @es A => simp only [src, Option.some.injEq, Prod.mk.injEq] at hs; obtain ⟨rfl, rfl⟩ := hs; exact ⟨some A, 0, [], rfl, Nat.le_refl _, .nil m, by simp, by simp, by simp⟩
  | @s id off len e A cap hm hlen hA =>
    simp only [src] at hs
    cases ho : H id with
    | none => rw [ho] at hs; cases hs
    | some ob =>
      rw [ho] at hs
      simp only [Option.bind_some] at hs
      split at hs
      · rename_i hin
        simp only [Option.some.injEq, Prod.mk.injEq] at hs
        obtain ⟨rfl, rfl⟩ := hs
        obtain ⟨e', he', hor⟩ := hR.live id ob (hl _ _ ho)
        rw [hm] at he'
        obtain rfl := Option.some.inj he'
        obtain ⟨vs, h1, h2, h3⟩ := hor.part off (len * sz) hin
        refine ⟨some A, cap, vs, rfl, hlen, h1, h2, by simp, fun A' hA' => ?_⟩
        obtain rfl := Option.some.inj hA'
        rcases hA with h0 | ⟨rfl, _⟩
        · have : len = 0 := by omega
          subst this
          have : vs = [] := List.eq_nil_of_length_eq_zero (by simpa using h2)
          subst this
          simp
        · exact h3
      · cases hs
  | _ => simp [src] at hs

end Go.Proofs.Ytpppkmeolknofaa
