/- How arguments are read: nets too. -/
import Derived.Test.YtecndlekckbcjaaEnc
import Derived.Test.YtecndlekckbcjaaFwV
namespace Go.Proofs.Ytecndlekckbcjaa
set_option linter.all false
open Go Go.Proofs.Ytecndlekckbcjaa.Fw
set_option maxRecDepth 100000
set_option maxHeartbeats 1000000
theorem rdU8 : Rd Try.prog 5 1 (fun l => ∃ n : Int, (0 ≤ n ∧ n < 256) ∧ l = [.int .u8 n]) := (Rd.int (k := .u8) (by kernel_rfl) (by kernel_rfl)).imp fun l ⟨n, h, e⟩ => ⟨n, (by rw [show IntKind.u8.min = 0 from rfl, show IntKind.u8.max = 255 from rfl] at h; omega), e⟩
theorem rdInt : Rd Try.prog 3 1 (fun l => ∃ n : Int, (-9223372036854775808 ≤ n ∧ n ≤ 9223372036854775807) ∧ l = [.int .i64 n]) := (Rd.int (k := .i64) (by kernel_rfl) (by kernel_rfl)).imp fun l ⟨n, h, e⟩ => ⟨n, (by rw [show IntKind.i64.min = -9223372036854775808 from rfl, show IntKind.i64.max = 9223372036854775807 from rfl] at h; omega), e⟩
theorem rdBool : Rd Try.prog 4 1 (fun l => ∃ b : Bool, l = [.bool b]) := Rd.bool (by kernel_rfl) (by kernel_rfl)
theorem rdStr : Rd Try.prog 9 1 (fun l => ∃ s : ByteArray, s.size ≤ maxLen ∧ l = [.str s]) := Rd.str (by kernel_rfl) (by kernel_rfl)
abbrev pInt : List AV → Prop := fun l => ∃ n : Int, (-9223372036854775808 ≤ n ∧ n ≤ 9223372036854775807) ∧ l = [.int .i64 n]
abbrev pStr : List AV → Prop := fun l => ∃ s : ByteArray, s.size ≤ maxLen ∧ l = [.str s]
theorem rdArc : Rd Try.prog 29 2 (fun l => ∃ a : Arc, True ∧ l = eArc a) :=
  (Rd.struct (ps := [(1, pInt), (1, pInt)]) Try.underlying29 (by kernel_rfl) ⟨rfl, rdInt, rfl, rdInt, rfl⟩).imp fun l h => by
    obtain ⟨l1, r1, rfl, _, ⟨a, ha, rfl⟩, l2, r2, rfl, _, ⟨b, hb, rfl⟩, rfl⟩ := h
    exact ⟨⟨a, b⟩, trivial, rfl⟩
theorem rdArcs : Rd Try.prog 30 1 (fun l => ∃ xs : List Arc, ((∀ a ∈ xs, True) ∧ xs.length ≤ maxLen) ∧ l = [aArcs xs]) := Rd.slice dArc (by kernel_rfl) (by kernel_rfl) (by omega) rdArc
theorem rdPlace : Rd Try.prog 27 2 (fun l => ∃ a : Place, True ∧ l = ePlace a) :=
  (Rd.struct (ps := [(1, pStr), (1, pInt)]) Try.underlying27 (by kernel_rfl) ⟨rfl, rdStr, rfl, rdInt, rfl⟩).imp fun l h => by
    obtain ⟨l1, r1, rfl, _, ⟨a, ha, rfl⟩, l2, r2, rfl, _, ⟨b, hb, rfl⟩, rfl⟩ := h
    exact ⟨⟨a, b⟩, trivial, rfl⟩
theorem rdPlaces : Rd Try.prog 22 1 (fun l => ∃ xs : List Place, ((∀ a ∈ xs, True) ∧ xs.length ≤ maxLen) ∧ l = [tab 2 ePlace dPlace xs]) := Rd.slice dPlace (by kernel_rfl) (by kernel_rfl) (by omega) rdPlace
theorem rdTrans : Rd Try.prog 32 6 (fun l => ∃ a : Trans, True ∧ l = eTrans a) :=
  (Rd.struct (ps := [(1, pStr), (1, pInt), (1, pInt), (1, _), (1, _), (1, _)]) Try.underlying32 (by kernel_rfl) ⟨rfl, rdStr, rfl, rdInt, rfl, rdInt, rfl, rdArcs, rfl, rdArcs, rfl, rdArcs, rfl⟩).imp fun l h => by
    obtain ⟨l1, r1, rfl, _, ⟨a, ha, rfl⟩, l2, r2, rfl, _, ⟨b, hb, rfl⟩, l3, r3, rfl, _, ⟨c, hc, rfl⟩, l4, r4, rfl, _, ⟨d, hd, rfl⟩, l5, r5, rfl, _, ⟨e, he, rfl⟩, l6, r6, rfl, _, ⟨f, hf, rfl⟩, rfl⟩ := h
    exact ⟨⟨a, b, c, d, e, f⟩, trivial, rfl⟩
theorem rdTranss : Rd Try.prog 23 1 (fun l => ∃ xs : List Trans, ((∀ a ∈ xs, True) ∧ xs.length ≤ maxLen) ∧ l = [tab 6 eTrans dTrans xs]) := Rd.slice dTrans (by kernel_rfl) (by kernel_rfl) (by omega) rdTrans
theorem rdNet : Rd Try.prog 25 2 (fun l => ∃ n : Net, (n.places.length ≤ maxLen ∧ n.trans.length ≤ maxLen) ∧ l = eNet n) :=
  (Rd.struct (ps := [(1, _), (1, _)]) Try.underlying25 (by kernel_rfl) ⟨rfl, rdPlaces, rfl, rdTranss, rfl⟩).imp fun l h => by
    obtain ⟨l1, r1, rfl, _, ⟨a, ha, rfl⟩, l2, r2, rfl, _, ⟨b, hb, rfl⟩, rfl⟩ := h
    exact ⟨⟨a, b⟩, ⟨ha.2, hb.2⟩, rfl⟩
end Go.Proofs.Ytecndlekckbcjaa
