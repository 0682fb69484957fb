/- Slices of slices, copies. No condition. -/
import Derived.Test.YtpppkmeolknofaaD2
namespace Go.Proofs.Ytpppkmeolknofaa
open Go Go.RowKit
set_option linter.unusedSimpArgs false
set_option linter.unusedVariables false
set_option linter.constructorNameAsVariable false
variable {P : Program} {pv : Bool} {rs : List SOp} {a : Nat → AV} {H : AH} {K : (Nat → AV) → AH → Prop}

theorem sHi {x y : SV} {d id off len r : Nat} {ob : AObj} (hx : evS a x = .s id off len) (ho : H id = some ob) (hsz : ob.sz = 1) (hy : evS a y = I (r : Int)) (hr : r ≤ len) (k : aopL P pv rs (put a d (.s id off r)) H K) :
    aopL P pv (⟨some d, .sl 1 x none (some y), none⟩ :: rs) a H K := by
  refine Or.inl ⟨id, off, len, 0, (r : Int), ob, hx, ho, hsz, rfl, ⟨.i64, hy⟩, Int.le_refl _, by omega, by omega, ?_⟩
  show aopL P pv rs (put a d (.s id (off + (0 : Int).toNat * 1) ((r : Int).toNat - (0 : Int).toNat))) H K
  rw [show off + (0 : Int).toNat * 1 = off by simp, show (r : Int).toNat - (0 : Int).toNat = r by simp]
  exact k
theorem sLo {x y : SV} {d id off len l : Nat} {ob : AObj} (hx : evS a x = .s id off len) (ho : H id = some ob) (hsz : ob.sz = 1) (hy : evS a y = I (l : Int)) (hl : l ≤ len) (k : aopL P pv rs (put a d (.s id (off + l) (len - l))) H K) :
    aopL P pv (⟨some d, .sl 1 x (some y) none, none⟩ :: rs) a H K := by
  refine Or.inl ⟨id, off, len, (l : Int), (len : Int), ob, hx, ho, hsz, ⟨.i64, hy⟩, rfl, by omega, by omega, by omega, ?_⟩
  show aopL P pv rs (put a d (.s id (off + (l : Int).toNat * 1) ((len : Int).toNat - (l : Int).toNat))) H K
  rw [show off + (l : Int).toNat * 1 = off + l by simp, show (len : Int).toNat - (l : Int).toNat = len - l by simp]
  exact k
/-- one's own array is moved up by one -/
theorem cpUp {x y : SV} {d id m : Nat} {cells : List AV} (hx : evS a x = .s id 1 (m - 1)) (hy : evS a y = .s id 0 (m - 1)) (ho : H id = some ⟨cells, true, 1⟩) (hm : cells.length = m) (h1 : 1 ≤ m)
    (k : aopL P pv rs (put a d (I ((m - 1 : Nat) : Int))) (upd H id ⟨splice cells 1 (cells.take (m - 1)), true, 1⟩) K) :
    aopL P pv (⟨some d, .cp x y, none⟩ :: rs) a H K := by
  refine ⟨id, 1, m - 1, ⟨cells, true, 1⟩, m - 1, cells.take (m - 1), hx, ho, rfl, rfl, by simp only; omega, ?_, ?_⟩
  · rw [hy]
    show (H id).bind _ = _
    rw [ho]
    show (if 0 + (m - 1) * 1 ≤ cells.length then some (m - 1, (cells.drop 0).take ((m - 1) * 1)) else none) = _
    rw [if_pos (by omega), List.drop_zero, Nat.mul_one]
  · rw [show Nat.min (m - 1) (m - 1) = m - 1 from Nat.min_self _, List.take_take, Nat.min_self]
    exact k
theorem rdc_mono {A B : AH} (h : HLe A B) {j i : Nat} {v : AV} (hr : rdc A j i = some v) : rdc B j i = some v := by
  unfold rdc at hr ⊢
  cases e : A j with
  | none => rw [e] at hr; cases hr
  | some o => rw [e] at hr; rw [h _ _ e]; exact hr
theorem rdc_of {A : AH} {j i : Nat} {ob : AObj} {v : AV} (h : A j = some ob) (hv : ob.cells[i]? = some v) : rdc A j i = some v := by
  unfold rdc
  rw [h]; exact hv
end Go.Proofs.Ytpppkmeolknofaa
