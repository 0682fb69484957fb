/- Arguments that are slices of whole numbers, or structs of numbers and slices, read into the abstract heap. No condition. -/
import Derived.Test.YtpppkmeolknofaaE0
import Derived.Test.YtpppkmeolknofaaD2
import Derived.ChangeSlices
import Derived.ChangeArms
import Derived.WalkKit
import Derived.ProofKit
import Derived.OpenShut
namespace Go.Proofs.Ytpppkmeolknofaa
open Go Go.RowKit Go.ChangeShapes Go.WideShapes Go.ChangeAt
set_option linter.unusedSimpArgs false
set_option linter.unusedVariables false

/-- a heap of objects that nobody writes -/
structure RO (m : AMap) (H : AH) (w : World) : Prop where
  rel : Rel m H (topOut w) w
  ro : ∀ id ob, H id = some ob → ob.rw = false
theorem ro_none (w : World) : RO (fun _ => none) (fun _ => none) w := ⟨rel_none w, fun _ _ h => by cases h⟩

theorem RO.ints {m : AMap} {H : AH} {w : World} (h : RO m H w) {a : Addr} {len cap : Nat} {zs : List Int} {k : IntKind} (hl : len ≤ cap) (hz : zs.length = cap) (hcell : ∀ i, i < zs.length → w.cell? (a.add i) = some (.int k (zs.getD i 0))) :
    ∃ m' H' x, MLe m m' ∧ HLe H H' ∧ RO m' H' w ∧ VR m' x (.slice (some a) len cap) ∧ Cs H' x ((zs.take len).map (AV.i k)) ∧ x.leaf = true := by
  by_cases hc : cap = 0
  · subst hc
    have : len = 0 := by omega
    subst this
    exact ⟨m, H, .es, .refl m, .refl H, h, .es, .inl ⟨by simp, .inr rfl⟩, rfl⟩
  have h0 := hcell 0 (by omega)
  have hend := hcell (cap - 1) (by omega)
  have hadd0 : a.add 0 = a := by simp [Addr.add]
  rw [hadd0] at h0
  have hcells : ∃ cs t fr, w.heap[a.block]? = some (.cells cs t fr) ∧ a.spot = none := by
    unfold World.cell? at h0
    split at h0
    · rename_i cs t fr e
      refine ⟨cs, t, fr, e, ?_⟩
      cases hs : a.spot with
      | none => rfl
      | some x => rw [hs] at h0; simp at h0
    · cases h0
  obtain ⟨cs, t, fr, hb, hs⟩ := hcells
  have hadd : ∀ i, a.add i = ⟨a.block, a.off + i, none⟩ := fun i => by
    unfold Addr.add
    split
    · rename_i e; subst e; cases a; simp_all
    · rfl
  have hat : ∀ i, i < cap → cs[a.off + i]? = some (.int k (zs.getD i 0)) := fun i hi => by
    have := hcell i (by omega)
    rw [hadd] at this
    unfold World.cell? at this
    simpa [hb] using this
  have hsize : a.off + cap ≤ cs.size := by
    have := hat (cap - 1) (by omega)
    have := (Array.getElem?_eq_some_iff.mp this).1
    omega
  obtain ⟨N, hN⟩ := h.rel.fin
  have hmN : m N = none := hN N (Nat.le_refl _)
  have hHN : H N = none := by
    cases e : H N with
    | none => rfl
    | some ob => obtain ⟨e', he, _⟩ := h.rel.live N ob e; rw [hmN] at he; cases he
  let e0 : Ent := ⟨a.block, a.off, 1, cap⟩
  let ob0 : AObj := ⟨zs.map (AV.i k), false, 1⟩
  have hle : HLe H (upd H N ob0) := .upd_new hHN _
  have hml : MLe m (upd m N e0) := fun id e he => by
    rw [upd_get, if_neg (fun h => by rw [h, hmN] at he; cases he)]; exact he
  have hro : ∀ id ob, upd H N ob0 id = some ob → ob.rw = false := fun id ob hi => by
    rw [upd_get] at hi
    split at hi
    · cases hi; rfl
    · exact h.ro id ob hi
  refine ⟨upd m N e0, upd H N ob0, .s N 0 len, hml, hle, ⟨⟨h.rel.os, h.rel.tape, h.rel.output, h.rel.size, ?_, ?_, h.rel.raw, ?_, ?_⟩, hro⟩, ?_, ?_, rfl⟩
  · intro id ob hi
    rw [upd_get] at hi
    split at hi
    · rename_i e
      subst e
      cases hi
      refine ⟨e0, upd_same _ _ _, rfl, by show (zs.map _).length ≤ cap; rw [List.length_map]; omega, cs, t, fr, hb, hsize, fun e => (by cases e), fun j c hj => ?_⟩
      have hj' : (zs.map (AV.i k))[j]? = some c := hj
      rw [List.getElem?_map] at hj'
      cases ez : zs[j]? with
      | none => rw [ez] at hj'; cases hj'
      | some z =>
        rw [ez] at hj'
        cases hj'
        have hjl := (List.getElem?_eq_some_iff.mp ez).1
        refine ⟨.int k z, ?_, rfl, .i k z⟩
        have := hat j (by omega)
        rw [List.getD_eq_getElem?_getD, ez] at this
        exact this
    · obtain ⟨e, he, ho⟩ := h.rel.live id ob hi
      exact ⟨e, hml _ _ he, ho.mono hml⟩
  · intro id ob e id' ob' e' h1 _ _ _ hrw
    rw [hro id ob h1] at hrw; cases hrw
  · intro id ob e h1 _ hrw
    rw [hro id ob h1] at hrw; cases hrw
  · exact ⟨N + 1, fun id hid => by rw [upd_get, if_neg (by omega)]; exact hN id (by omega)⟩
  · exact .s (upd_same _ _ _) hl (.inr ⟨by rw [← hadd 0, hadd0], by show 0 + cap * 1 ≤ cap; omega⟩)
  · refine .inr ⟨N, 0, ob0, by rw [List.length_map, List.length_take, Nat.min_eq_left (by omega)], upd_same _ _ _, rfl, ?_, ?_⟩
    · show 0 + ((zs.take len).map (AV.i k)).length ≤ (zs.map (AV.i k)).length
      rw [List.length_map, List.length_map, List.length_take]; omega
    · show (List.drop 0 (zs.map (AV.i k))).take ((zs.take len).map (AV.i k)).length = _
      rw [List.drop_zero, List.length_map, List.length_take, Nat.min_eq_left (by omega), List.map_take]

section
variable {T : Type} {enc : TypeId × Value → T} {P : Program} {w : World} {held : Bool}
/-- a slice of whole numbers -/
theorem RO.read {m : AMap} {H : AH} (h : RO m H w) {t e : TypeId} {k : IntKind} {fuel : Nat} {v : Value} {x : DataW T × List MemPlace} (ht : P.underlying t = some (.slice e)) (he : P.underlying e = some (.int k)) (hc : P.cellsOf e = 1)
    (hd : DataW.trod enc P w 0 (fun _ => true) held fuel t [v] = some x) :
    ∃ (m' : AMap) (H' : AH) (xv : AV) (l : List Int), MLe m m' ∧ HLe H H' ∧ RO m' H' w ∧ VR m' xv v ∧ Cs H' xv (l.map (AV.i k)) ∧ (∀ n ∈ l, (Lit.int k n).wf = true) ∧ l.length ≤ maxLen ∧ xv.leaf = true ∧ (l = [] ∨ ∃ es sp, x.1 = .slice es sp ∧ es.length = l.length) := by
  rcases open_ints ht he hc hd with ⟨h1, h2⟩ | ⟨a, len, cap, zs, h1, h2, h3, h4, h5, h6, h7, h8⟩
  · cases h1
    exact ⟨m, H, .ns, [], .refl m, .refl H, h, .ns, .inl ⟨rfl, .inl rfl⟩, by simp, by simp, rfl, .inl rfl⟩
  · cases h1
    obtain ⟨m', H', xv, k1, k2, k3, k4, k5, k6⟩ := h.ints h3 (h5.trans (if_pos rfl)) h7
    refine ⟨m', H', xv, zs.take len, k1, k2, k3, k4, k5, fun n hn => h8 n (List.mem_of_mem_take hn), by rw [List.length_take]; omega, k6, .inr ⟨_, _, by rw [h6], by simp [lits]⟩⟩
theorem RO.arg_ints {m : AMap} {H : AH} (h : RO m H w) {t e : TypeId} {k : IntKind} {r : Reach} {b0 : Nat} {v : Value} {d : DataW T} {ps : List MemPlace} (ht : P.underlying t = some (.slice e)) (he : P.underlying e = some (.int k)) (hc : P.cellsOf e = 1)
    (hval : Value.okWide P w r b0 t v) (hd : DataW.Trod enc P w 0 (fun _ => true) held t v d ps) :
    ∃ (m' : AMap) (H' : AH) (xv : AV) (l : List Int), MLe m m' ∧ HLe H H' ∧ RO m' H' w ∧ VR m' xv v ∧ Cs H' xv (l.map (AV.i k)) ∧ (∀ n ∈ l, (Lit.int k n).wf = true) ∧ (l = [] ∨ ∃ es sp, d = .slice es sp ∧ es.length = l.length) := by
  obtain ⟨a, len, cap, rfl⟩ := okWide_slice ht hval
  obtain ⟨fuel, hf⟩ := hd
  obtain ⟨m', H', xv, l, k1, k2, k3, k4, k5, k6, _, _, k7⟩ := h.read ht he hc hf
  exact ⟨m', H', xv, l, k1, k2, k3, k4, k5, k6, k7⟩
/-- a struct of two numbers and a slice of numbers -/
theorem RO.arg_field {m : AMap} {H : AH} (h : RO m H w) {t ti tl e : TypeId} {k : IntKind} {r : Reach} {b0 : Nat} {v : Value} {d : DataW T} {ps : List MemPlace} {fs : Array Field} {f0 f1 f2 : Field} (ht : P.underlying t = some (.struct fs)) (hfs : fs = #[f0, f1, f2])
    (h0 : f0.type = ti ∧ f0.offset = 0) (h1 : f1.type = ti ∧ f1.offset = 1) (h2 : f2.type = tl ∧ f2.offset = 2) (hti : P.underlying ti = some (.int k)) (hci : P.cellsOf ti = 1) (htl : P.underlying tl = some (.slice e)) (hcl : P.cellsOf tl = 1)
    (he : P.underlying e = some (.int k)) (hc : P.cellsOf e = 1) (hct : P.cellsOf t = 3) (hval : Value.okWide P w r b0 t v) (hd : DataW.Trod enc P w 0 (fun _ => true) held t v d ps) :
    ∃ (m' : AMap) (H' : AH) (xv : AV) (l : List Int) (p q : Int), MLe m m' ∧ HLe H H' ∧ RO m' H' w ∧ VR m' (.ag [.i k p, .i k q, xv]) v ∧ Cs H' xv (l.map (AV.i k)) ∧ (Lit.int k p).wf = true ∧ (Lit.int k q).wf = true ∧ (∀ n ∈ l, (Lit.int k n).wf = true) := by
  subst hfs
  obtain ⟨cs, rfl, hsz⟩ := okWide_struct ht hval
  obtain ⟨fuel, hf⟩ := hd
  obtain ⟨xs, n, _, _, _, hxl, hx⟩ := DataW.trod_struct ht hf
  have hxl3 : xs.length = 3 := hxl
  obtain ⟨a, b, c, rfl⟩ : ∃ a b c, cs = #[a, b, c] := by
    obtain ⟨l⟩ := cs
    have hl : l.length = 3 := hsz.trans hct
    match l, hl with
    | [a, b, c], _ => exact ⟨a, b, c, rfl⟩
  have e0 := hx 0 f0 rfl
  have e1 := hx 1 f1 rfl
  have e2 := hx 2 f2 rfl
  rw [h0.1, h0.2, hci, List.getElem?_eq_getElem (by omega)] at e0
  rw [h1.1, h1.2, hci, List.getElem?_eq_getElem (by omega)] at e1
  rw [h2.1, h2.2, hcl, List.getElem?_eq_getElem (by omega)] at e2
  obtain ⟨p, hp, _, hpw⟩ := DataW.trod_int hti e0
  obtain ⟨q, hq, _, hqw⟩ := DataW.trod_int hti e1
  have ha : a = .int k p := (List.cons.inj hp).1
  have hb : b = .int k q := (List.cons.inj hq).1
  subst ha
  subst hb
  have e2' : DataW.trod enc P w 0 (fun _ => true) held n tl [c] = some xs[2] := e2
  obtain ⟨m', H', xv, l, k1, k2, k3, k4, k5, k6, _, k8, _⟩ := h.read htl he hc e2'
  refine ⟨m', H', xv, l, p, q, k1, k2, k3, .ag rfl ?_ ?_, k5, hpw, hqw, k6⟩
  · intro j x y hj hy
    match j with
    | 0 => cases hj; rfl
    | 1 => cases hj; rfl
    | 2 => cases hj; exact k8
    | j + 3 => cases hj
  · intro j x y hj hy
    match j with
    | 0 => cases hj; cases hy; exact .i _ _
    | 1 => cases hj; cases hy; exact .i _ _
    | 2 => cases hj; cases hy; exact k4
    | j + 3 => cases hj
end

end Go.Proofs.Ytpppkmeolknofaa
