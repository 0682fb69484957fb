/- The law CyclicNews, whole. No condition. -/
import Derived.Test.YtdkdainipanacaaRows
import Derived.Test.YtdkdainipanacaaXD
import Derived.Test.YtdkdainipanacaaHp
import Derived.WalkKit
import Derived.ProofKit
import Derived.OpenShut
import Derived.ShutString
import Derived.ChangeOld
import Derived.Below
import Derived.Carry
import Derived.SizedLaws
namespace Go.Proofs.Ytdkdainipanacaa.cyclicNews
open Go.ChangeShapes Go.WideShapes Go.ChangeAt Go.RowKit
set_option linter.unusedVariables false
theorem own : ownKnob Try.prog.godebug = none := by kernel_rfl
theorem laidOut : laidOutB Try.prog = true := by kernel_rfl
theorem reach48 : reachBytes ≤ 281474976710656 := by decide
set_option maxRecDepth 100000 in
theorem lifted (os : Os) (started : os.Started) (H : Type) (enc : TypeId × Value → H) :
    ReturnsInHanded {} Try.checked os 3 .any (Rows.cyclicNewsSpec.pre6 enc Try.prog Try.f3 Rows.cyclicNewsRow.domain false) (Rows.cyclicNewsSpec.post enc Try.prog Try.f3 false true false false) := by
  refine returnsInHanded_of_change_sized (C := Try.checked) own started (by kernel_rfl) Try.func3
    (ChangeSpec.witness6 (enc := enc) (C := Try.checked) false ⟨#[], #[.agg #[.int .i64 0, .int .i64 0, .slice none 0 0], .int .i64 0, .slice none 0 0], []⟩ 8 (by kernel_rfl) (by kernel_rfl) (by kernel_rfl) (by kernel_rfl)) ?_
  intro W base args ds gs before hval0 hW hcnd hsz0 _
  have hval : ∀ (j : Nat) t v, Try.f3.params[j]? = some t → args[j]? = some v → Value.okWide Try.prog W .any base t v := hval0
  have hW' := hW
  obtain ⟨p, q, hA0, hV, rfl, hfz, hnd⟩ := hW
  have hA : DataW.TrodAll enc Try.prog W 0 (fun _ => true) true Try.f3.params.toList args.toList ds p := hA0
  rw [Try.params3] at hA hval
  obtain ⟨v0, vs0, d0, ds0, p0, q0, hargs, rfl, rfl, h0, r0⟩ := trodAll_cons hA
  obtain ⟨v1, vs1, d1, ds1, p1, q1, rfl, rfl, rfl, h1, r1⟩ := trodAll_cons r0
  obtain ⟨v2, vs2, d2, ds2, p2, q2, rfl, rfl, rfl, h2, r2⟩ := trodAll_cons r1
  obtain ⟨rfl, rfl, rfl⟩ := trodAll_nil r2
  obtain rfl : args = #[v0, v1, v2] := by cases args; simp_all
  obtain ⟨rfl, rfl⟩ := trodVars_none hV
  have hsz : (DataW.weightsEach Try.prog (Try.f3.params.toList ++ Rows.cyclicNewsSpec.plain.varTypes Try.prog) ([d0, d1, d2] ++ [])).all (· ≤ reachBytes) = true := hsz0
  rw [Try.params3] at hsz
  have k0 := h0
  obtain ⟨m0, H0, x0, l0, a0, b0, ml0, hl0, ro0, vr0, c0, w0, u0, y0⟩ := (ro_none W).arg_field (ti := 3) (tl := 22) (e := 3) Try.underlying24 rfl ⟨rfl, rfl⟩ ⟨rfl, rfl⟩ ⟨rfl, rfl⟩ Try.underlying3 (by kernel_rfl) Try.underlying22 (by kernel_rfl) Try.underlying3 (by kernel_rfl) (by kernel_rfl) (hval 0 24 v0 rfl rfl) h0
  obtain ⟨a1, rfl, rfl, rfl, w1⟩ := open_int Try.underlying3 (hval 1 3 v1 rfl rfl) h1
  have k2 := h2
  obtain ⟨m2, H2, x2, l2, ml2, hl2, ro2, vr2, c2, w2, z2⟩ := (ro0).arg_ints Try.underlying22 Try.underlying3 (by kernel_rfl) (hval 2 22 v2 rfl rfl) h2
  have s2 : l2.length * 8 ≤ 281474976710656 := by
    rcases z2 with e | ⟨es, sp, e, el⟩
    · rw [e]; decide
    · subst e
      have hs := sized_slice hsz (j := 2) (t := 22) (e := 3) (elems := es) (spare := sp) rfl rfl Try.underlying22
      rw [show Program.bytesOf Try.prog 3 = 8 by kernel_rfl] at hs
      have := reach48
      omega
  replace vr0 := vr0.mono ml2
  replace c0 := c0.mono hl2
  have hlt : ∀ x ∈ (p0 ++ p2), x.block < W.heap.size := fun x hx => by simpa using hW'.lt x (by simpa using hx)
  have hc := top_calls (ACalls.mono (law16_CyclicNews_calls a0 b0 a1 l0 l2 c0 c2) fun r H' h => (h : r = .b true)) ro2.rel (vs := [v0, .int .i64 a1, v2]) (vls_of ⟨vr0, .i _ _, vr2, trivial⟩)
  refine hc.mono fun e W' ⟨he, bel⟩ => ?_
  subst he
  exact ⟨_, rfl, _, _, _, [], _, [], hW', trodAll_mk1 (shut_bool Try.underlying4 _), (trodAll_cons_mk (Below.trod laidOut (by kernel_rfl) (of_decide_eq_true (by kernel_rfl)) k0 bel (fun x hx => hlt x (by simp [hx]))) (trodAll_cons_mk (shut_int Try.underlying3 w1) (trodAll_cons_mk (Below.trod laidOut (by kernel_rfl) (of_decide_eq_true (by kernel_rfl)) k2 bel (fun x hx => hlt x (by simp [hx]))) trodAll_mk0))), rfl, bel.frame _, fun h => by cases h⟩
theorem over : Rows.cyclicNewsRow.holds Try.pinned (OpenSpec.ofChange Rows.cyclicNewsSpec) :=
  OpenClaim.holds_of_wide 3 Try.f3 rfl rfl rfl rfl rfl rfl rfl ⟨rfl, rfl, rfl, rfl, rfl⟩ rfl rfl rfl rfl rfl (by kernel_rfl) Try.func3 (by kernel_rfl)
    (of_decide_eq_true (by kernel_rfl)) (by unfold Func.isWrapper; first | (rw [if_pos (by decide +kernel)]; kernel_rfl) | (rw [if_neg (by decide +kernel)]; exact ⟨rfl, rfl⟩))
    (fun os started H enc _ => lifted os started H enc)
theorem proved : Rows.CyclicNewsSaid := over
#print axioms proved
end Go.Proofs.Ytdkdainipanacaa.cyclicNews
namespace Go.Proofs.Ytdkdainipanacaa
/-- The row, under a short name, for the claim. -/
theorem cyclicNews_holds : Rows.CyclicNewsSaid := cyclicNews.proved
end Go.Proofs.Ytdkdainipanacaa

