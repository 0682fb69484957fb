/- The library's sort of ints, over the abstract heap: out of the shelf's contract. Condition: the program holds the library's functions (a laying), the slice is not empty. -/
import Derived.Test.YtdkdainipanacaaC0
import Derived.Shelf.Sort.Plain
namespace Go.Proofs.Ytdkdainipanacaa
open Go Go.RowKit
set_option linter.unusedSimpArgs false
set_option linter.unusedVariables false
set_option linter.constructorNameAsVariable false

theorem Rel.grow {m : AMap} {H : AH} {g : Out} {w : World} (h : Rel m H g w) (os : Array Obj) : Rel m H g (Go.Sort.grow w os) := by
  have hget : ∀ k, k < w.heap.size → (Go.Sort.grow w os).heap[k]? = w.heap[k]? := by
    intro k hk
    unfold Go.Sort.grow
    rw [Array.getElem?_append_left hk]
  refine ⟨h.os, h.tape, h.output, by have := h.size; unfold Go.Sort.grow; simp; omega, ?_, h.sep, ?_, h.rawsep, h.fin⟩
  · intro j oj hj
    obtain ⟨ej, he, hor⟩ := h.live j oj hj
    have hlt := h.lt hj he
    obtain ⟨a1, a2, cs', t', fr, a3, a4, a5, a6⟩ := hor
    exact ⟨ej, he, a1, a2, cs', t', fr, by rw [hget _ hlt]; exact a3, a4, a5, a6⟩
  · intro b o' hb
    have := h.raw b o' hb
    have hlt : b < w.heap.size := by
      rcases Nat.lt_or_ge b w.heap.size with h | h
      · exact h
      · rw [Array.getElem?_eq_none h] at this; cases this
    rw [hget _ hlt]
    exact this

theorem mapBlock_setRow {w : World} {b : Nat} {cs : Array Value} {t : TypeId} {fr : Nat × Nat} (h : w.heap[b]? = some (.cells cs t fr)) (f : Array Value → Array Value) : Go.Sort.mapBlock w b f = w.setRow b (f cs) := by
  unfold Go.Sort.mapBlock World.setRow
  congr 1
  apply Array.ext_getElem?
  intro i
  rw [Array.getElem?_modify, Array.getElem?_modify]
  by_cases q : b = i
  · subst q
    simp only [if_true, h, Option.map_some]
    rfl
  · simp [q]

theorem sort_calls {P : Program} {ρ : Go.Shelf.Ren} (Ly : Go.Proofs.Lays.n189 P ρ) (hok : CallOk P (ρ.f 189)) {id off len : Nat} {ob : AObj} {zs : List Int} {H : AH} (ho : H id = some ob) (hrw : ob.rw = true) (hsz : ob.sz = 1)
    (hin : off + len ≤ ob.cells.length) (hz : (ob.cells.drop off).take len = zs.map I) (h0 : 0 < len) (hbig : len < 4611686018427387904) :
    ACalls P (ρ.f 189) [.s id off len] H (fun r H' => r = .tu [] ∧ H' = upd H id { ob with cells := splice ob.cells off ((zs.mergeSort fun x y => decide (x ≤ y)).map I) }) := by
  refine ⟨hok, fun m HT g w vs hl hR hvs => ?_⟩
  have hzl : zs.length = len := by have := congrArg List.length hz; simp at this; omega
  obtain ⟨v, rfl⟩ : ∃ v, vs = [v] := by
    have := hvs.1
    match vs, this with
    | [v], _ => exact ⟨v, rfl⟩
  have hv := hvs.2 0 _ v rfl rfl
  cases hv with
  | @s _ _ _ e A cap he hc hA =>
    obtain ⟨rfl, hr2⟩ := hA.resolve_left (by omega)
    obtain ⟨h1, h2, cs, t, hb, h4, h6⟩ := hR.row (hl _ _ ho) he hrw
    have hcell : ∀ j, j < zs.length → cs[e.sh + off + j]? = some (.int .i64 zs[j]!) := by
      intro j hj
      have hj2 : ((ob.cells.drop off).take len)[j]? = some (I zs[j]!) := by
        rw [hz, List.getElem?_map]
        simp [hj]
      rw [List.getElem?_take, if_pos (by omega), List.getElem?_drop] at hj2
      obtain ⟨u, a1, a2, a3⟩ := h6 _ _ hj2
      cases a3
      rw [← a1]; congr 1; omega
    have hH : Go.Sort.Holds (Value.int .i64) w e.blk (e.sh + off) zs.toArray := by
      intro j hj
      have hj' : j < zs.length := by simpa using hj
      refine ⟨?_, ?_⟩
      · rw [cell_of_row w _ _ cs t (0, 0) hb, hcell j hj']; simp [hj']
      · exact frozen_of_row w _ _ cs t hb
    have hlt := hR.lt (hl _ _ ho) he
    have key := Any.slices_Sort_int Ly e.blk (e.sh + off) cap zs w hH hlt (by omega)
    rw [hzl] at key
    refine key.mono ?_
    rintro e' w' ⟨rfl, n, os, rfl⟩
    have hys : (zs.mergeSort fun x y => decide (x ≤ y)).length = len := by rw [List.length_mergeSort, hzl]
    generalize hyg : (zs.mergeSort fun x y => decide (x ≤ y)) = ys at hys ⊢
    have hRa : Rel m HT g (Go.Sort.ahead w n) := ⟨hR.os, hR.tape, hR.output, hR.size, hR.live, hR.sep, hR.raw, hR.rawsep, hR.fin⟩
    have hba : (Go.Sort.ahead w n).heap[e.blk]? = some (.cells cs t (0, 0)) := hb
    have hput : Go.Sort.putRow (Value.int .i64) (Go.Sort.ahead w n) e.blk (e.sh + off) ys.toArray = (Go.Sort.ahead w n).setRow e.blk (Go.Sort.putCells (Value.int .i64) (e.sh + off) ys.toArray cs) := mapBlock_setRow hba _
    have hmm : upd m id e = m := by
      funext j
      by_cases hj : j = id
      · subst hj; rw [upd_same, he]
      · rw [upd_ne _ _ hj]
    have hsl : (splice ob.cells off (ys.map I)).length = ob.cells.length := splice_length _ _ _ (by simp; omega)
    have hrel := hRa.turn (id' := id) (e' := e) (ob' := { ob with cells := splice ob.cells off (ys.map I) }) (hl _ _ ho) he hrw (.inl ⟨rfl, rfl⟩) rfl h1 hba
      (cs' := Go.Sort.putCells (Value.int .i64) (e.sh + off) ys.toArray cs) (by simp [Go.Sort.putCells]) h4 (by simp only; rw [hsl]; exact h2) (fun j d hj => by
        simp only at hj
        rw [splice_get _ _ _ (by simp; omega)] at hj
        simp only [Go.Sort.putCells, Array.getElem?_mapIdx]
        split at hj
        · rename_i hjj
          rw [List.getElem?_map] at hj
          simp only [List.length_map] at hjj
          have hlt2 : j - off < ys.length := by omega
          simp only [hlt2, List.getElem?_eq_getElem, Option.map_some, Option.some.injEq] at hj
          subst hj
          have hcsz : e.sh + j < cs.size := by omega
          refine ⟨.int .i64 ys[j - off], ?_, rfl, .i _ _⟩
          have e1 : e.sh + j - (e.sh + off) = j - off := by omega
          simp only [hcsz, Array.getElem?_eq_getElem, Option.map_some, List.size_toArray, e1]
          rw [if_pos (by omega)]
          simp [hlt2]
        · rename_i hjj
          simp only [List.length_map] at hjj
          obtain ⟨u, a1, a2, a3⟩ := h6 j d hj
          refine ⟨u, ?_, a2, a3⟩
          rw [a1]
          simp only [Option.map_some, List.size_toArray]
          rw [if_neg (by omega)])
    rw [hmm, upd_del] at hrel
    have hstp := Stp.turn (m := m) hl ho (m' := m) (.refl m) (.inl rfl) { ob with cells := splice ob.cells off (ys.map I) }
    rw [upd_del, upd_del] at hstp
    refine ⟨.tuple #[], .tu [], m, _, _, rfl, .tu (by simp) (by simp), hstp, ?_, rfl, rfl⟩
    rw [hput]
    exact hrel.grow os

end Go.Proofs.Ytdkdainipanacaa
