/- Appends of a slice known by its reading. No condition. -/
import Derived.Test.YtpppkmeolknofaaD3
namespace Go.Proofs.Ytpppkmeolknofaa
open Go Go.RowKit
set_option linter.unusedSimpArgs false
set_option linter.unusedVariables false
set_option linter.constructorNameAsVariable false
variable {P : Program} {pv : Bool} {rs : List SOp} {a : Nat → AV} {H : AH} {K : (Nat → AV) → AH → Prop}

theorem Cs.src {H : AH} {v : AV} {cs : List AV} (h : Cs H v cs) : src H 1 v = some (cs.length, cs) := by
  rcases h with ⟨rfl, rfl | rfl⟩ | ⟨id, off, ob, rfl, h2, h3, h4, h5⟩
  · rfl
  · rfl
  · show (H id).bind _ = _
    rw [h2]
    show (if off + cs.length * 1 ≤ ob.cells.length then some (cs.length, (ob.cells.drop off).take (cs.length * 1)) else none) = _
    rw [if_pos (by omega), Nat.mul_one, h5]
/-- a slice is appended to an empty one -/
theorem apE {x y : SV} {d by_ : Nat} {v : AV} {cs : List AV} (hx : evS a x = .ns ∨ evS a x = .es) (hy : evS a y = v) (hv : Cs H v cs) (h0 : cs ≠ []) (hb : by_ ≤ 1024) (hn : cs.length ≤ 100000000)
    (k : ∀ id, H id = none → aopL P pv rs (put a d (.s id 0 cs.length)) (upd H id ⟨cs, true, 1⟩) K) :
    aopL P pv (⟨some d, .ap 1 by_ x y, none⟩ :: rs) a H K := by
  have hl : 0 < cs.length := by cases cs with
    | nil => exact absurd rfl h0
    | cons c cs => exact Nat.succ_pos _
  refine ⟨cs.length, cs, by rw [hy]; exact hv.src, .inl ⟨hx, fun e => by omega, fun _ => ⟨?_, Nat.le_trans hn (by decide), fun id hid => ⟨fun _ => .upd_new hid _, k id hid⟩⟩⟩⟩
  calc cs.length * by_ ≤ 100000000 * 1024 := Nat.mul_le_mul hn hb
      _ ≤ _ := by decide
/-- nothing is appended to an empty slice -/
theorem apE0 {x y : SV} {d by_ : Nat} {v w : AV} (hx : evS a x = w) (hw : w = .ns ∨ w = .es) (hy : evS a y = v) (hv : Cs H v [])
    (k : aopL P pv rs (put a d w) H K) :
    aopL P pv (⟨some d, .ap 1 by_ x y, none⟩ :: rs) a H K :=
  ⟨0, [], by rw [hy]; exact hv.src, .inl ⟨by rw [hx]; exact hw, fun _ => ⟨fun _ => .refl _, by rw [hx]; exact k⟩, fun e => by omega⟩⟩
/-- a copy of a slice -/
theorem apC {x y : SV} {d by_ : Nat} {v : AV} {cs : List AV} (hx : evS a x = .es) (hy : evS a y = v) (hv : Cs H v cs) (hb : by_ ≤ 1024) (hn : cs.length ≤ 100000000)
    (k : ∀ w H', HLe H H' → Cs H' w cs → cellsOf w = some [w] → w.leaf = true → aopL P pv rs (put a d w) H' K) :
    aopL P pv (⟨some d, .ap 1 by_ x y, none⟩ :: rs) a H K := by
  cases e : cs with
  | nil =>
    subst e
    exact apE0 hx (.inr rfl) hy hv (k _ _ (.refl H) (.inl ⟨rfl, .inr rfl⟩) rfl rfl)
  | cons c cs' =>
    exact apE (.inr hx) hy hv (by rw [e]; simp) hb hn fun id hid => k _ _ (.upd_new hid _) (.own (upd_same _ _ _)) rfl rfl
/-- a slice is appended to one's own -/
theorem apO {G : AH} {x y : SV} {u v : AV} {cells cs : List AV} {d by_ : Nat} (hH : H = hpO G u cells) (hO : OwnS G u cells) (hx : evS a x = u) (hy : evS a y = v) (hv : Cs G v cs) (h0 : cs ≠ [])
    (hb : by_ ≤ 1024) (hn : cells.length + cs.length ≤ 100000000)
    (k : ∀ id, G id = none → aopL P false rs (put a d (.s id 0 (cells.length + cs.length))) (upd G id ⟨cells ++ cs, true, 1⟩) K) :
    aopL P false (⟨some d, .ap 1 by_ x y, none⟩ :: rs) a H K := by
  subst hH
  have hvH := hv.mono hO.hle
  rcases hO with ⟨rfl, rfl⟩ | ⟨id, rfl, h2⟩
  · refine apE (.inl hx) hy hvH h0 hb (by simpa using hn) ?_
    intro id hid
    have := k id hid
    show aopL P false rs (put a d (.s id 0 cs.length)) (upd G id ⟨cs, true, 1⟩) K
    simpa using this
  · refine ⟨cs.length, cs, by rw [hy]; exact hvH.src, .inr ⟨id, 0, cells.length, ⟨cells, true, 1⟩, hx, upd_same _ _ _, rfl, rfl, by simp, ?_, Nat.le_trans hn (by decide), ?_⟩⟩
    · calc (cells.length + cs.length) * by_ ≤ 100000000 * 1024 := Nat.mul_le_mul hn hb
        _ ≤ _ := by decide
    · intro i hi
      rw [show hpO G (.s id 0 cells.length) cells = upd G id ⟨cells, true, 1⟩ from rfl, upd_get] at hi
      split at hi
      · cases hi
      · rename_i hid
        refine ⟨fun e => (by cases e), ?_⟩
        rw [show (List.drop 0 cells).take (cells.length * 1) = cells by rw [List.drop_zero, Nat.mul_one, List.take_length]]
        have e : del (hpO G (.s id 0 cells.length) cells) id = G := by
          funext u
          rw [show hpO G (.s id 0 cells.length) cells = upd G id ⟨cells, true, 1⟩ from rfl, del_get, upd_get]
          by_cases hu : u = id
          · rw [if_pos hu, hu, h2]
          · rw [if_neg hu, if_neg hu]
        rw [e]
        exact k i hi
/-- a number is read from the field of a struct value -/
theorem ldn_own {x : SV} {id z d : Nat} {cells : List AV} {sz : Nat} {rw_ : Bool} (hx : evS a x = .p id 0) (ho : H id = some ⟨cells, rw_, sz⟩) (hl : cells.length = z) (k : aopL P pv rs (put a d (.ag cells)) H K) :
    aopL P pv (⟨some d, .ldn z x, none⟩ :: rs) a H K := by
  refine lN hx ho (by simp [hl]) ?_
  rw [show (List.drop 0 cells).take z = cells by rw [List.drop_zero, ← hl, List.take_length]]
  exact k
end Go.Proofs.Ytpppkmeolknofaa
