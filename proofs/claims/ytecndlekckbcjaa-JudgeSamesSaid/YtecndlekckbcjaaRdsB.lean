/- How arguments are read. -/
import Derived.Test.YtecndlekckbcjaaBase
import Derived.Test.YtecndlekckbcjaaFwV
namespace Go.Proofs.Ytecndlekckbcjaa
set_option linter.all false
open Go Go.Proofs.Ytecndlekckbcjaa.Fw
set_option maxRecDepth 100000
set_option maxHeartbeats 1000000
theorem rdU8 : Rd Try.prog 5 1 (fun l => ∃ n : Int, (0 ≤ n ∧ n < 256) ∧ l = [.int .u8 n]) := (Rd.int (k := .u8) (by kernel_rfl) (by kernel_rfl)).imp fun l ⟨n, h, e⟩ => ⟨n, (by rw [show IntKind.u8.min = 0 from rfl, show IntKind.u8.max = 255 from rfl] at h; omega), e⟩
theorem rdInt : Rd Try.prog 3 1 (fun l => ∃ n : Int, (-9223372036854775808 ≤ n ∧ n ≤ 9223372036854775807) ∧ l = [.int .i64 n]) := (Rd.int (k := .i64) (by kernel_rfl) (by kernel_rfl)).imp fun l ⟨n, h, e⟩ => ⟨n, (by rw [show IntKind.i64.min = -9223372036854775808 from rfl, show IntKind.i64.max = 9223372036854775807 from rfl] at h; omega), e⟩
theorem rdBool : Rd Try.prog 4 1 (fun l => ∃ b : Bool, l = [.bool b]) := Rd.bool (by kernel_rfl) (by kernel_rfl)
end Go.Proofs.Ytecndlekckbcjaa
