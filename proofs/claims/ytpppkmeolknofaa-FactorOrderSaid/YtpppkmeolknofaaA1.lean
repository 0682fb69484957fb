/- The slim operations that neither read nor write memory, and that the machine does as they say. No condition. -/
import Derived.Test.YtpppkmeolknofaaA0
import Derived.Laws.Entries
import Derived.Laws.Unary
import Derived.Laws.Shifts
import Derived.Laws.Cover3
import Derived.Laws.Slices
import Derived.Tactics
namespace Go.Proofs.Ytpppkmeolknofaa
open Go Go.RowKit
set_option linter.unusedSimpArgs false
set_option linter.unusedVariables false

def arK (k : IntKind) (n : Int) (K : AV → Prop) : Prop :=
  match k with
  | .i64 => (-9223372036854775808 ≤ n ∧ n ≤ 9223372036854775807) ∧ K (.i .i64 n)
  | .i8 => K (.i .i8 (IntKind.wrap .i8 n))
  | .i16 => K (.i .i16 (IntKind.wrap .i16 n))
  | .i32 => K (.i .i32 (IntKind.wrap .i32 n))
  | .u8 => K (.i .u8 (IntKind.wrap .u8 n))
  | .u16 => K (.i .u16 (IntKind.wrap .u16 n))
  | .u32 => K (.i .u32 (IntKind.wrap .u32 n))
  | .u64 => K (.i .u64 (IntKind.wrap .u64 n))

def abin (op : BinOp) (x y : AV) (K : AV → Prop) : Prop :=
  match x, y with
  | .i k m, .i k' n =>
    match op with
    | .shl => 0 ≤ n ∧ K (.i k (k.wrap (m * 2 ^ (min n.toNat k.bits))))
    | .shr => 0 ≤ n ∧ K (.i k (m.fdiv (2 ^ (min n.toNat k.bits))))
    | .add => k = k' ∧ arK k (m + n) K
    | .sub => k = k' ∧ arK k (m - n) K
    | .mul => k = k' ∧ arK k (m * n) K
    | .quo => k = k' ∧ n ≠ 0 ∧ arK k (m.tdiv n) K
    | .rem => k = k' ∧ n ≠ 0 ∧ K (.i k (m.tmod n))
    | .and => k = k' ∧ K (.i k (k.wrap (BitVec.ofInt k.bits m &&& BitVec.ofInt k.bits n).toNat))
    | .or => k = k' ∧ K (.i k (k.wrap (BitVec.ofInt k.bits m ||| BitVec.ofInt k.bits n).toNat))
    | .xor => k = k' ∧ K (.i k (k.wrap (BitVec.ofInt k.bits m ^^^ BitVec.ofInt k.bits n).toNat))
    | .andNot => k = k' ∧ K (.i k (k.wrap (BitVec.ofInt k.bits m &&& ~~~(BitVec.ofInt k.bits n)).toNat))
    | .eql => k = k' ∧ K (.b (decide (m = n)))
    | .neq => k = k' ∧ K (.b (decide (m ≠ n)))
    | .lss => k = k' ∧ K (.b (decide (m < n)))
    | .leq => k = k' ∧ K (.b (decide (m ≤ n)))
    | .gtr => k = k' ∧ K (.b (decide (n < m)))
    | .geq => k = k' ∧ K (.b (decide (n ≤ m)))
  | _, _ => False

theorem wrap_i64 {n : Int} (h : -9223372036854775808 ≤ n ∧ n ≤ 9223372036854775807) : IntKind.wrap .i64 n = n := by
  unfold IntKind.wrap
  simp only [IntKind.bits, IntKind.signed, Bool.true_and]
  split <;> rename_i hc <;> simp at hc <;> omega

theorem arK_wrap {k : IntKind} {n : Int} {K : AV → Prop} (h : arK k n K) : K (.i k (k.wrap n)) := by
  cases k <;> simp only [arK] at h <;> first | exact h | (rw [wrap_i64 h.1]; exact h.2)

/-- what a step does that leaves memory alone: the run gives v, which x tells -/
theorem abin_run {P : Program} {op : BinOp} {t : TypeId} {ox oy : Operand} {x y : AV} {vx vy : Value} {m : AMap} {w : World} {K : AV → Prop}
    (hx : VR m x vx) (hy : VR m y vy) (h : abin op x y K) :
    ∃ r v, (do eqGuard op t ox oy vx vy; binOp op t vx vy : Sem Value).run P w = .ok v w ∧ VR m r v ∧ K r := by
  unfold abin at h
  split at h
  · rename_i k a k' b
    cases hx
    cases hy
    split at h
    · obtain ⟨h0, hK⟩ := h
      exact ⟨_, _, by simp [eqGuard, binOp, Op.shift, show ¬ (b < 0) by omega, pure, Sem.run, bind, Sem.bind], .i _ _, hK⟩
    · obtain ⟨h0, hK⟩ := h
      exact ⟨_, _, by simp [eqGuard, binOp, Op.shift, show ¬ (b < 0) by omega, pure, Sem.run, bind, Sem.bind], .i _ _, hK⟩
    · obtain ⟨rfl, hK⟩ := h
      exact ⟨_, _, by simp [eqGuard, binOp, Op.intArith, pure, Sem.run, bind, Sem.bind], .i _ _, arK_wrap hK⟩
    · obtain ⟨rfl, hK⟩ := h
      exact ⟨_, _, by simp [eqGuard, binOp, Op.intArith, pure, Sem.run, bind, Sem.bind], .i _ _, arK_wrap hK⟩
    · obtain ⟨rfl, hK⟩ := h
      exact ⟨_, _, by simp [eqGuard, binOp, Op.intArith, pure, Sem.run, bind, Sem.bind], .i _ _, arK_wrap hK⟩
    · obtain ⟨rfl, hn, hK⟩ := h
      exact ⟨_, _, by simp [eqGuard, binOp, Op.intDiv, hn, pure, Sem.run, bind, Sem.bind], .i _ _, arK_wrap hK⟩
    · obtain ⟨rfl, hn, hK⟩ := h
      exact ⟨_, _, by simp [eqGuard, binOp, Op.intDiv, hn, pure, Sem.run, bind, Sem.bind], .i _ _, hK⟩
    · obtain ⟨rfl, hK⟩ := h
      exact ⟨_, _, by simp [eqGuard, binOp, Op.intBits, pure, Sem.run, bind, Sem.bind], .i _ _, hK⟩
    · obtain ⟨rfl, hK⟩ := h
      exact ⟨_, _, by simp [eqGuard, binOp, Op.intBits, pure, Sem.run, bind, Sem.bind], .i _ _, hK⟩
    · obtain ⟨rfl, hK⟩ := h
      exact ⟨_, _, by simp [eqGuard, binOp, Op.intBits, pure, Sem.run, bind, Sem.bind], .i _ _, hK⟩
    · obtain ⟨rfl, hK⟩ := h
      exact ⟨_, _, by simp [eqGuard, binOp, Op.intBits, pure, Sem.run, bind, Sem.bind], .i _ _, hK⟩
    · obtain ⟨rfl, hK⟩ := h
      exact ⟨_, .bool (decide (a = b)), by simp [eqGuard, binOp, Op.intCmp, pure, Sem.run, bind, Sem.bind]; rfl, .b _, hK⟩
    · obtain ⟨rfl, hK⟩ := h
      exact ⟨_, .bool (decide (a ≠ b)), by simp [eqGuard, binOp, Op.intCmp, pure, Sem.run, bind, Sem.bind]; rfl, .b _, hK⟩
    · obtain ⟨rfl, hK⟩ := h
      exact ⟨_, _, by simp [eqGuard, binOp, Op.intCmp, pure, Sem.run, bind, Sem.bind], .b _, hK⟩
    · obtain ⟨rfl, hK⟩ := h
      exact ⟨_, _, by simp [eqGuard, binOp, Op.intCmp, pure, Sem.run, bind, Sem.bind], .b _, hK⟩
    · obtain ⟨rfl, hK⟩ := h
      exact ⟨_, _, by simp [eqGuard, binOp, Op.intCmp, pure, Sem.run, bind, Sem.bind], .b _, hK⟩
    · obtain ⟨rfl, hK⟩ := h
      exact ⟨_, _, by simp [eqGuard, binOp, Op.intCmp, pure, Sem.run, bind, Sem.bind], .b _, hK⟩
  · exact h.elim

end Go.Proofs.Ytpppkmeolknofaa
