/- The law CyclicPartition for bytes as the row tells them. No condition. -/
import Derived.Test.YtdkdainipanacaaF6
namespace Go.Proofs.Ytdkdainipanacaa
open Go Go.RowKit

theorem u8_nat {a : Int} (h : (Lit.int .u8 a).wf = true) : ∃ n : Nat, a = n ∧ n ≤ 255 := by
  have : 0 ≤ a ∧ a ≤ 255 := by simpa [Lit.wf, IntKind.min, IntKind.max, IntKind.signed, IntKind.bits] using h
  exact ⟨a.toNat, by omega, by omega⟩
theorem partition_row {a b : Int} (ha : (Lit.int .u8 a).wf = true) (hb : (Lit.int .u8 b).wf = true) (H : AH) : ACalls Try.prog n_law16_CyclicPartition [.i .u8 a, .i .u8 b] H (fun r _ => r = .b true) := by
  obtain ⟨q, rfl, hq⟩ := u8_nat ha
  obtain ⟨n, rfl, hn⟩ := u8_nat hb
  exact partition_law hq hn H

end Go.Proofs.Ytdkdainipanacaa
