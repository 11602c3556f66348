/- How keys are read. -/
import Derived.Test.YtjbhjjmkgakphaaHeapP
import Derived.Test.YtjbhjjmkgakphaaFwV
namespace Go.Proofs.Ytjbhjjmkgakphaa
set_option linter.all false
open Go Go.Proofs.Ytjbhjjmkgakphaa.Fw
set_option maxRecDepth 100000
set_option maxHeartbeats 1000000
theorem rdU8 : Rd Try.prog 5 1 (fun l => ∃ n : Int, (0 ≤ n ∧ n < 256) ∧ l = [.int .u8 n]) := (Rd.int (k := .u8) (by kernel_rfl) (by kernel_rfl)).imp fun l ⟨n, h, e⟩ => ⟨n, (by rw [show IntKind.u8.min = 0 from rfl, show IntKind.u8.max = 255 from rfl] at h; omega), e⟩
theorem rdInt : Rd Try.prog 3 1 (fun l => ∃ n : Int, (-9223372036854775808 ≤ n ∧ n ≤ 9223372036854775807) ∧ l = [.int .i64 n]) := (Rd.int (k := .i64) (by kernel_rfl) (by kernel_rfl)).imp fun l ⟨n, h, e⟩ => ⟨n, (by rw [show IntKind.i64.min = -9223372036854775808 from rfl, show IntKind.i64.max = 9223372036854775807 from rfl] at h; omega), e⟩
abbrev pI : List AV → Prop := fun l => ∃ n : Int, (-9223372036854775808 ≤ n ∧ n ≤ 9223372036854775807) ∧ l = [.int .i64 n]
theorem rdKey : Rd Try.prog 23 4 (fun l => ∃ k : Key, True ∧ l = eKey k) :=
  (Rd.struct (ps := [(1, pI), (1, pI), (1, pI), (1, pI)]) Try.underlying23 (by kernel_rfl) ⟨rfl, rdInt, rfl, rdInt, rfl, rdInt, rfl, rdInt, rfl⟩).imp fun l h => by
    obtain ⟨l1, r1, rfl, _, ⟨a, ha, rfl⟩, l2, r2, rfl, _, ⟨b, hb, rfl⟩, l3, r3, rfl, _, ⟨c, hc, rfl⟩, l4, r4, rfl, _, ⟨d, hd, rfl⟩, rfl⟩ := h
    exact ⟨⟨a, b, c, d⟩, trivial, rfl⟩
theorem rdKeys : Rd Try.prog 28 1 (fun l => ∃ xs : List Key, ((∀ a ∈ xs, True) ∧ xs.length ≤ maxLen) ∧ l = [tab 4 eKey dKey xs]) := Rd.slice dKey (by kernel_rfl) (by kernel_rfl) (by omega) rdKey
end Go.Proofs.Ytjbhjjmkgakphaa
