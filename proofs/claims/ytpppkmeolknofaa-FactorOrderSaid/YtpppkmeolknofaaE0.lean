/- From a contract over the abstract heap to the machine's call at the law's own start. No condition. -/
import Derived.Test.YtpppkmeolknofaaC0
namespace Go.Proofs.Ytpppkmeolknofaa
open Go Go.RowKit
set_option linter.unusedSimpArgs false
set_option linter.unusedVariables false

def topOut (w : World) : Out := ⟨w.os, w.tape, w.output, w.heap.size, fun b => w.heap[b]?⟩

theorem below_of {m : AMap} {H : AH} {w w' : World} (h : Rel m H (topOut w) w') : Below w.heap.size w w' := by
  refine ⟨h.os, h.tape, h.output, h.size, fun k hk => ?_⟩
  have : (topOut w).raw k = some w.heap[k] := by simp [topOut, hk]
  rw [h.raw k _ this]
  simp [hk]

theorem top_calls {P : Program} {f : FuncId} {args : List AV} {H : AH} (hc : ACalls P f args H (fun r _ => r = .b true)) {m : AMap} {w : World} {vs : List Value} (hR : Rel m H (topOut w) w) (hv : VLs m args vs) :
    Calls P f vs.toArray w fun e w' => e = .returned (.bool true) ∧ Below w.heap.size w w' := by
  refine (hc.2 m H (topOut w) w vs (.refl H) hR hv).mono ?_
  rintro e w' ⟨v, x, m', H', HT', rfl, hx, _, hR', rfl⟩
  exact ⟨by rw [hx.b_inv], below_of hR'⟩

/-- nothing in memory is told -/
theorem rel_none (w : World) : Rel (fun _ => none) (fun _ => none) (topOut w) w :=
  ⟨rfl, rfl, rfl, Nat.le_refl _, by simp, by simp, fun b o h => h, by simp, ⟨0, by simp⟩⟩

/-- argument lists, one by one -/
def VLAll (m : AMap) : List AV → List Value → Prop
  | [], [] => True
  | x :: xs, v :: vs => VR m x v ∧ VLAll m xs vs
  | _, _ => False
theorem vls_of {m : AMap} : ∀ {xs : List AV} {vs : List Value}, VLAll m xs vs → VLs m xs vs
  | [], [], _ => ⟨rfl, by simp⟩
  | x :: xs, v :: vs, h => by
    obtain ⟨h1, h2⟩ := vls_of h.2
    refine ⟨by simp [h1], fun j y u a b => ?_⟩
    cases j with
    | zero => cases a; cases b; exact h.1
    | succ j => exact h2 j y u a b
  | [], _ :: _, h => h.elim
  | _ :: _, [], h => h.elim

end Go.Proofs.Ytpppkmeolknofaa
