/- Rows of numbers. -/
import Derived.Test.YtecndlekckbcjaaBase
namespace Go.Proofs.Ytecndlekckbcjaa
set_option linter.all false
open Go Go.Proofs.Ytecndlekckbcjaa.Fw
set_option maxRecDepth 100000
set_option maxHeartbeats 1000000
set_option linter.unusedSimpArgs false

abbrev rIn (c : Nat) (m : List Int) : Ob := .row 1 c (fun i => eInt (m.getD i 0))
theorem rIn_set {m : List Int} {c i : Nat} {v : Int} (hc : m.length = c) (h : i < m.length) : (.row 1 c (fun j => if j = i then [.int .i64 v] else eInt (m.getD j 0)) : Ob) = rIn c (m.set i v) := by
  rw [kInts_set hc h]; exact rInts_row (by rw [List.length_set]; exact hc)
end Go.Proofs.Ytecndlekckbcjaa
