/- Comparisons of slices and pointers with nil; struct literals. No condition. -/
import Derived.Test.YtpppkmeolknofaaD4
namespace Go.Proofs.Ytpppkmeolknofaa
open Go Go.RowKit
set_option linter.unusedSimpArgs false
set_option linter.unusedVariables false
set_option linter.constructorNameAsVariable false
variable {P : Program} {pv : Bool} {rs : List SOp} {a : Nat → AV} {H : AH} {K : (Nat → AV) → AH → Prop} {d id off len : Nat} {neg : Bool} {x y : SV}
theorem en_of (h : aen neg (evS a x) (evS a y) (fun v => aopL P pv rs (put a d v) H K)) : aopL P pv (⟨some d, .en neg x y, none⟩ :: rs) a H K := h
theorem ep_of (h : aep neg (evS a x) (evS a y) (fun v => aopL P pv rs (put a d v) H K)) : aopL P pv (⟨some d, .ep neg x y, none⟩ :: rs) a H K := h
theorem aen_s (hx : evS a x = .s id off len) (k : aopL P pv rs (put a d (.b neg)) H K) : aopL P pv (⟨some d, .en neg x (.k .ns), none⟩ :: rs) a H K := en_of (by rw [hx]; exact k)
theorem aen_n (hx : evS a x = .ns) (k : aopL P pv rs (put a d (.b (!neg))) H K) : aopL P pv (⟨some d, .en neg x (.k .ns), none⟩ :: rs) a H K := en_of (by rw [hx]; exact k)
theorem aen_e (hx : evS a x = .es) (k : aopL P pv rs (put a d (.b neg)) H K) : aopL P pv (⟨some d, .en neg x (.k .ns), none⟩ :: rs) a H K := en_of (by rw [hx]; exact k)
theorem aep_p (hx : evS a x = .p id off) (k : aopL P pv rs (put a d (.b neg)) H K) : aopL P pv (⟨some d, .ep neg x (.k .np), none⟩ :: rs) a H K := ep_of (by rw [hx]; exact k)
theorem aep_n (hx : evS a x = .np) (k : aopL P pv rs (put a d (.b (!neg))) H K) : aopL P pv (⟨some d, .ep neg x (.k .np), none⟩ :: rs) a H K := ep_of (by rw [hx]; exact k)
theorem afill_cons {place : Nat → Option (Nat × Nat)} {cells cs : List AV} {i off size : Nat} {v : AV} {rest : List (Nat × AV)} (hp : place i = some (off, size)) (hc : cellsOf v = some cs) (hl : cs.length = size) (hb : off + cs.length ≤ cells.length) :
    afill place cells ((i, v) :: rest) = afill place (splice cells off cs) rest := by
  simp only [afill]
  rw [hp, hc]
  exact if_pos ⟨hl, hb⟩


end Go.Proofs.Ytpppkmeolknofaa
