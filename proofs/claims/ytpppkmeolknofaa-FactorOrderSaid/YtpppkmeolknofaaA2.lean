/- The abstract heap's moves: a new object, a changed one, one that takes another's place; and how the relation to the world follows them. No condition. -/
import Derived.Test.YtpppkmeolknofaaA1
import Derived.Laws.CopyRow
import Derived.Laws.MakeOwn
import Derived.Laws.AppendOwn
namespace Go.Proofs.Ytpppkmeolknofaa
open Go Go.RowKit
set_option linter.unusedSimpArgs false
set_option linter.unusedVariables false

def upd {α : Type} (H : Nat → Option α) (id : Nat) (ob : α) : Nat → Option α := fun j => bif Nat.beq j id then some ob else H j
def del {α : Type} (H : Nat → Option α) (id : Nat) : Nat → Option α := fun j => bif Nat.beq j id then none else H j

theorem beq_ne {a b : Nat} (h : a ≠ b) : Nat.beq a b = false := by cases hb : Nat.beq a b with | false => rfl | true => exact absurd (Nat.eq_of_beq_eq_true hb) h
theorem beq_self (a : Nat) : Nat.beq a a = true := Nat.beq_refl a
theorem upd_same {α : Type} (H : Nat → Option α) (id : Nat) (ob : α) : upd H id ob id = some ob := by simp [upd, beq_self]
theorem upd_ne {α : Type} (H : Nat → Option α) {id j : Nat} (ob : α) (h : j ≠ id) : upd H id ob j = H j := by simp [upd, beq_ne h]
theorem del_same {α : Type} (H : Nat → Option α) (id : Nat) : del H id id = none := by simp [del, beq_self]
theorem del_ne {α : Type} (H : Nat → Option α) {id j : Nat} (h : j ≠ id) : del H id j = H j := by simp [del, beq_ne h]

theorem Rel.mono {m : AMap} {H H' : AH} {g : Out} {w : World} (h : Rel m H g w) (hl : HLe H' H) : Rel m H' g w :=
  ⟨h.os, h.tape, h.output, h.size, fun id ob hid => h.live id ob (hl _ _ hid), fun id ob e id' ob' e' a b c d => h.sep id ob e id' ob' e' (hl _ _ a) b (hl _ _ c) d, h.raw,
    fun id ob e a => h.rawsep id ob e (hl _ _ a), h.fin⟩

theorem Rel.drew {m : AMap} {H : AH} {g : Out} {w : World} (h : Rel m H g w) : Rel m H g w.drew :=
  ⟨h.os, h.tape, h.output, h.size, h.live, h.sep, h.raw, h.rawsep, h.fin⟩

theorem Rel.fresh {m : AMap} {H : AH} {g : Out} {w : World} (h : Rel m H g w) : ∃ id, m id = none ∧ H id = none := by
  obtain ⟨N, hN⟩ := h.fin
  refine ⟨N, hN N (Nat.le_refl _), ?_⟩
  cases hh : H N with
  | none => rfl
  | some ob => obtain ⟨e, he, _⟩ := h.live N ob hh; rw [hN N (Nat.le_refl _)] at he; cases he

theorem Rel.lt {m : AMap} {H : AH} {g : Out} {w : World} (h : Rel m H g w) {id : Nat} {ob : AObj} {e : Ent} (hid : H id = some ob) (he : m id = some e) : e.blk < w.heap.size := by
  obtain ⟨e', he', _, _, cs, t, fr, hb, _⟩ := h.live id ob hid
  rw [he] at he'
  obtain rfl := Option.some.inj he'
  rcases Nat.lt_or_ge e.blk w.heap.size with h | h
  · exact h
  · rw [Array.getElem?_eq_none h] at hb; cases hb

theorem Rel.raw_new {m : AMap} {H : AH} {g : Out} {w : World} (h : Rel m H g w) : g.raw w.heap.size = none := by
  cases hr : g.raw w.heap.size with
  | none => rfl
  | some o => have := h.raw _ _ hr; rw [Array.getElem?_eq_none (Nat.le_refl _)] at this; cases this

theorem mle_upd {m : AMap} {id : Nat} (h : m id = none) (e : Ent) : MLe m (upd m id e) := by
  intro j e' hj
  rw [upd_ne _ _ (fun heq => by rw [heq, h] at hj; cases hj)]
  exact hj

/-- a new object -/
theorem Rel.alloc {m : AMap} {H : AH} {g : Out} {w : World} (h : Rel m H g w) {id : Nat} (hm : m id = none) {ob : AObj} {cs : Array Value} {t : TypeId}
    (hl : ob.cells.length ≤ cs.size) (hc : ∀ (j : Nat) (c : AV), ob.cells[j]? = some c → ∃ v, cs[j]? = some v ∧ c.leaf = true ∧ VR m c v) :
    Rel (upd m id ⟨w.heap.size, 0, ob.sz, cs.size⟩) (upd H id ob) g (w.alloc (.cells cs t)) := by
  have hH : H id = none := by
    cases hh : H id with
    | none => rfl
    | some ob => obtain ⟨e, he, _⟩ := h.live id ob hh; rw [hm] at he; cases he
  have hmle := mle_upd hm (⟨w.heap.size, 0, ob.sz, cs.size⟩ : Ent)
  refine ⟨h.os, h.tape, h.output, by simp; exact Nat.le_succ_of_le h.size, ?_, ?_, ?_, ?_, ?_⟩
  · intro j oj hj
    by_cases e : j = id
    · subst e
      rw [upd_same] at hj
      obtain rfl := Option.some.inj hj
      refine ⟨_, upd_same _ _ _, rfl, hl, cs, t, (0, 0), heap_alloc_new w _, by simp, fun _ => rfl, fun k c hk => ?_⟩
      obtain ⟨v, a, b, d⟩ := hc k c hk
      exact ⟨v, by simpa using a, b, d.mono hmle⟩
    · rw [upd_ne _ _ e] at hj
      obtain ⟨ej, he, hor⟩ := h.live j oj hj
      refine ⟨ej, by rw [upd_ne _ _ e]; exact he, ?_⟩
      have hlt := h.lt hj he
      obtain ⟨a1, a2, cs', t', fr, a3, a4, a5, a6⟩ := hor.mono hmle
      exact ⟨a1, a2, cs', t', fr, by rw [heap_alloc_old w _ _ hlt]; exact a3, a4, a5, a6⟩
  · intro j oj ej k ok ek hj hej hk hek hrw hne
    by_cases e : j = id
    · subst e
      rw [upd_same] at hj hej
      obtain rfl := Option.some.inj hj
      obtain rfl := Option.some.inj hej
      rw [upd_ne _ _ (Ne.symm hne)] at hk hek
      have := h.lt hk hek
      simp only
      omega
    · rw [upd_ne _ _ e] at hj hej
      by_cases e' : k = id
      · subst e'
        rw [upd_same] at hk hek
        obtain rfl := Option.some.inj hk
        obtain rfl := Option.some.inj hek
        have := h.lt hj hej
        simp only
        omega
      · rw [upd_ne _ _ e'] at hk hek
        exact h.sep j oj ej k ok ek hj hej hk hek hrw hne
  · intro b o hb
    have := h.raw b o hb
    have hlt : b < w.heap.size := by
      rcases Nat.lt_or_ge b w.heap.size with h | h
      · exact h
      · rw [Array.getElem?_eq_none h] at this; cases this
    rw [heap_alloc_old w _ _ hlt]
    exact this
  · intro j oj ej hj hej hrw
    by_cases e : j = id
    · subst e
      rw [upd_same] at hej
      obtain rfl := Option.some.inj hej
      exact h.raw_new
    · rw [upd_ne _ _ e] at hj hej
      exact h.rawsep j oj ej hj hej hrw
  · obtain ⟨N, hN⟩ := h.fin
    refine ⟨max N (id + 1), fun j hj => ?_⟩
    rw [upd_ne _ _ (by omega)]
    exact hN j (by omega)

theorem Stp.alloc {m : AMap} {H HT : AH} {id : Nat} (hl : HLe H HT) (hm : m id = none) (hT : HT id = none) (e : Ent) (ob : AObj) :
    Stp m H HT (upd m id e) (upd H id ob) (upd HT id ob) := by
  refine ⟨mle_upd hm e, ?_, ?_⟩
  · intro j o hj
    by_cases h : j = id
    · subst h; rw [upd_same] at hj ⊢; exact hj
    · rw [upd_ne _ _ h] at hj ⊢; exact hl _ _ hj
  · intro j o h1 h2
    have h : j ≠ id := fun e => by rw [e, hT] at h2; cases h2
    exact ⟨by rw [upd_ne _ _ h]; exact h2, by rw [upd_ne _ _ h]; exact h1⟩

/-- a changed object: its block's row turns; here the block may be told anew under another id (id' = id, or a fresh one), from an offset on -/
theorem Rel.turn {m : AMap} {H : AH} {g : Out} {w : World} (h : Rel m H g w) {id id' : Nat} {ob ob' : AObj} {e e' : Ent} (hid : H id = some ob) (he : m id = some e) (hrw : ob.rw = true)
    (hn : id' = id ∧ e' = e ∨ id' ≠ id ∧ m id' = none) (hblk : e'.blk = e.blk) (hsz : ob'.sz = e'.sz) {cs cs' : Array Value} {t : TypeId}
    (hb : w.heap[e.blk]? = some (.cells cs t (0, 0))) (hsize : cs'.size = cs.size) (hroom : e'.sh + e'.room ≤ cs.size) (hl : ob'.cells.length ≤ e'.room)
    (hc : ∀ (j : Nat) (c : AV), ob'.cells[j]? = some c → ∃ v, cs'[e'.sh + j]? = some v ∧ c.leaf = true ∧ VR m c v) :
    Rel (upd m id' e') (upd (del H id) id' ob') g (w.setRow e.blk cs') := by
  have hmle : MLe m (upd m id' e') := by
    rcases hn with ⟨rfl, rfl⟩ | ⟨hne, hno⟩
    · intro j ej hj
      by_cases hji : j = id'
      · subst hji; rw [upd_same]; rw [he] at hj; exact hj
      · rw [upd_ne _ _ hji]; exact hj
    · exact mle_upd hno e'
  have hold : ∀ j oj, j ≠ id' → upd (del H id) id' ob' j = some oj → j ≠ id ∧ H j = some oj := by
    intro j oj hne hj
    rw [upd_ne _ _ hne] at hj
    by_cases hji : j = id
    · subst hji; rw [del_same] at hj; cases hj
    · rw [del_ne _ hji] at hj; exact ⟨hji, hj⟩
  have hmap : ∀ j ej, j ≠ id' → upd m id' e' j = some ej → m j = some ej := by
    intro j ej hne hj
    rw [upd_ne _ _ hne] at hj
    exact hj
  refine ⟨h.os, h.tape, h.output, by simpa using h.size, ?_, ?_, ?_, ?_, ?_⟩
  · intro j oj hj
    by_cases hji : j = id'
    · subst hji
      rw [upd_same] at hj
      obtain rfl := Option.some.inj hj
      refine ⟨e', upd_same _ _ _, hsz, hl, cs', t, (0, 0), by rw [hblk]; exact setRow_heap w _ cs _ t _ hb, by omega, fun _ => rfl, fun k c hk => ?_⟩
      obtain ⟨v, a, b, d⟩ := hc k c hk
      exact ⟨v, a, b, d.mono hmle⟩
    · obtain ⟨hji', hj'⟩ := hold j oj hji hj
      obtain ⟨ej, hej, hor⟩ := h.live j oj hj'
      refine ⟨ej, by rw [upd_ne _ _ hji]; exact hej, ?_⟩
      have hb' : ej.blk ≠ e.blk := fun q => h.sep id ob e j oj ej hid he hj' hej hrw (Ne.symm hji') q.symm
      obtain ⟨a1, a2, cs1, t1, fr1, a3, a4, a5, a6⟩ := hor.mono hmle
      exact ⟨a1, a2, cs1, t1, fr1, by rw [setRow_other w _ _ _ hb']; exact a3, a4, a5, a6⟩
  · intro j oj ej k ok ek hj hej hk hek hrj hne
    by_cases hji : j = id'
    · subst hji
      rw [upd_same] at hj hej
      obtain rfl := Option.some.inj hej
      obtain ⟨hki, hk'⟩ := hold k ok (Ne.symm hne) hk
      rw [hblk]
      exact h.sep id ob e k ok ek hid he hk' (hmap k ek (Ne.symm hne) hek) hrw (Ne.symm hki)
    · obtain ⟨hji', hj'⟩ := hold j oj hji hj
      by_cases hki : k = id'
      · subst hki
        rw [upd_same] at hk hek
        obtain rfl := Option.some.inj hek
        rw [hblk]
        exact fun q => h.sep id ob e j oj ej hid he hj' (hmap j ej hji hej) hrw (Ne.symm hji') q.symm
      · obtain ⟨hki', hk'⟩ := hold k ok hki hk
        exact h.sep j oj ej k ok ek hj' (hmap j ej hji hej) hk' (hmap k ek hki hek) hrj hne
  · intro b o hb'
    have hne : b ≠ e.blk := fun q => by have := h.rawsep id ob e hid he hrw; rw [← q, hb'] at this; cases this
    rw [setRow_other w _ _ _ hne]
    exact h.raw b o hb'
  · intro j oj ej hj hej hrj
    by_cases hji : j = id'
    · subst hji
      rw [upd_same] at hej
      obtain rfl := Option.some.inj hej
      rw [hblk]
      exact h.rawsep id ob e hid he hrw
    · obtain ⟨hji', hj'⟩ := hold j oj hji hj
      exact h.rawsep j oj ej hj' (hmap j ej hji hej) hrj
  · obtain ⟨N, hN⟩ := h.fin
    refine ⟨max N (id' + 1), fun j hj => ?_⟩
    rw [upd_ne _ _ (by omega)]
    exact hN j (by omega)

theorem Stp.turn {m : AMap} {H HT : AH} {id id' : Nat} {ob : AObj} (hl : HLe H HT) (hid : H id = some ob) {m' : AMap} (hmle : MLe m m') (hT : id' = id ∨ HT id' = none) (ob' : AObj) :
    Stp m H HT m' (upd (del H id) id' ob') (upd (del HT id) id' ob') := by
  refine ⟨hmle, ?_, ?_⟩
  · intro j o hj
    by_cases h : j = id'
    · subst h; rw [upd_same] at hj ⊢; exact hj
    · rw [upd_ne _ _ h] at hj ⊢
      by_cases hji : j = id
      · subst hji; rw [del_same] at hj; cases hj
      · rw [del_ne _ hji] at hj ⊢; exact hl _ _ hj
  · intro j o h1 h2
    have hji : j ≠ id := fun q => by rw [q, hid] at h1; cases h1
    have hji' : j ≠ id' := by
      rcases hT with rfl | hT
      · exact hji
      · exact fun q => by rw [q, hT] at h2; cases h2
    rw [upd_ne _ _ hji', upd_ne _ _ hji', del_ne _ hji, del_ne _ hji]
    exact ⟨h2, h1⟩

theorem upd_del {α : Type} (H : Nat → Option α) (id : Nat) (ob : α) : upd (del H id) id ob = upd H id ob := by
  funext j
  by_cases h : j = id
  · subst h; rw [upd_same, upd_same]
  · rw [upd_ne _ _ h, upd_ne _ _ h, del_ne _ h]

theorem leaf_oneCell {m : AMap} {c : AV} {v : Value} (h : VR m c v) (hl : c.leaf = true) : v.oneCell' = true := by
  cases h with
  | c => cases v <;> first | rfl | (simp [AV.leaf] at hl; done)
  | _ => first | rfl | (simp [AV.leaf] at hl; done)

end Go.Proofs.Ytpppkmeolknofaa
