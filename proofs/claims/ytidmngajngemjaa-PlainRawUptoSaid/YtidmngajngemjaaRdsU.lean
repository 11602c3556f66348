/- How nets are read, where their bulk is bounded. -/
import Derived.Test.YtidmngajngemjaaRows
import Derived.Test.YtidmngajngemjaaEnc
import Derived.Test.YtidmngajngemjaaRdsB
import Derived.Test.YtidmngajngemjaaFwW
namespace Go.Proofs.Ytidmngajngemjaa
set_option linter.all false
open Go Go.Proofs.Ytidmngajngemjaa.Fw
set_option maxRecDepth 100000
set_option maxHeartbeats 1000000
theorem bulk_part {H : Type} {d : DataW H} : ∀ {l : List (DataW H)}, d ∈ l → Rows.uptoBulk d ≤ Rows.uptoBulkAll l
  | [], h => by cases h
  | x :: r, h => by
    simp only [Rows.uptoBulkAll]
    rcases List.mem_cons.1 h with rfl | h
    · omega
    · have := bulk_part h; omega
abbrev bulkD : ∀ H, DataW H → Prop := fun H d => Rows.uptoBulk d ≤ 1048576
theorem bulkP : DPart bulkD := by
  refine ⟨fun H es rs h e he => ?_, fun H ps h p hp => ?_⟩
  · have h1 := bulk_part he
    simp only [bulkD, Rows.uptoBulk] at h ⊢
    omega
  · have h1 := bulk_part hp
    simp only [bulkD, Rows.uptoBulk] at h ⊢
    omega
theorem bulkS : ∀ H l, bulkD H (.lit (.string l)) → l.length ≤ 1048576 := fun H l h => by
  simp only [bulkD, Rows.uptoBulk] at h
  omega
def namesU (n : Net) : List ByteArray := n.places.map (·.name) ++ n.trans.map (·.name)
theorem udU8 : RdD bulkD Try.prog 5 1 (fun l => ∃ n : Int, (0 ≤ n ∧ n < 256) ∧ l = [.int .u8 n]) := rdU8.toD
abbrev pIntU : List AV → Prop := fun l => ∃ n : Int, (-9223372036854775808 ≤ n ∧ n ≤ 9223372036854775807) ∧ l = [.int .i64 n]
abbrev pStrU : List AV → Prop := fun l => ∃ s : ByteArray, s.size ≤ 1048576 ∧ l = [.str s]
theorem udStr : RdD bulkD Try.prog 9 1 pStrU := RdD.str bulkS (by kernel_rfl) (by kernel_rfl)
theorem udInt : RdD bulkD Try.prog 3 1 pIntU := rdInt.toD
theorem udArc : RdD bulkD Try.prog 57 2 (fun l => ∃ a : Arc, True ∧ l = eArc a) :=
  (RdD.struct bulkP (ps := [(1, pIntU), (1, pIntU)]) Try.underlying57 (by kernel_rfl) ⟨rfl, udInt, rfl, udInt, rfl⟩).imp fun l h => by
    obtain ⟨l1, r1, rfl, _, ⟨a, ha, rfl⟩, l2, r2, rfl, _, ⟨b, hb, rfl⟩, rfl⟩ := h
    exact ⟨⟨a, b⟩, trivial, rfl⟩
theorem udArcs : RdD bulkD Try.prog 53 1 (fun l => ∃ xs : List Arc, ((∀ a ∈ xs, True) ∧ xs.length ≤ maxLen) ∧ l = [aArcs xs]) := RdD.slice dArc (by kernel_rfl) (by kernel_rfl) (by omega) bulkP udArc
theorem udPlace : RdD bulkD Try.prog 48 2 (fun l => ∃ a : Place, a.name.size ≤ 1048576 ∧ l = ePlace a) :=
  (RdD.struct bulkP (ps := [(1, pStrU), (1, pIntU)]) Try.underlying48 (by kernel_rfl) ⟨rfl, udStr, rfl, udInt, rfl⟩).imp fun l h => by
    obtain ⟨l1, r1, rfl, _, ⟨a, ha, rfl⟩, l2, r2, rfl, _, ⟨b, hb, rfl⟩, rfl⟩ := h
    exact ⟨⟨a, b⟩, ha, rfl⟩
theorem udPlaces : RdD bulkD Try.prog 30 1 (fun l => ∃ xs : List Place, ((∀ a ∈ xs, a.name.size ≤ 1048576) ∧ xs.length ≤ maxLen) ∧ l = [tab 2 ePlace dPlace xs]) := RdD.slice dPlace (by kernel_rfl) (by kernel_rfl) (by omega) bulkP udPlace
theorem udTrans : RdD bulkD Try.prog 55 6 (fun l => ∃ a : Trans, a.name.size ≤ 1048576 ∧ l = eTrans a) :=
  (RdD.struct bulkP (ps := [(1, pStrU), (1, pIntU), (1, pIntU), (1, _), (1, _), (1, _)]) Try.underlying55 (by kernel_rfl) ⟨rfl, udStr, rfl, udInt, rfl, udInt, rfl, udArcs, rfl, udArcs, rfl, udArcs, rfl⟩).imp fun l h => by
    obtain ⟨l1, r1, rfl, _, ⟨a, ha, rfl⟩, l2, r2, rfl, _, ⟨b, hb, rfl⟩, l3, r3, rfl, _, ⟨c, hc, rfl⟩, l4, r4, rfl, _, ⟨d, hd, rfl⟩, l5, r5, rfl, _, ⟨e, he, rfl⟩, l6, r6, rfl, _, ⟨f, hf, rfl⟩, rfl⟩ := h
    exact ⟨⟨a, b, c, d, e, f⟩, ha, rfl⟩
theorem udTranss : RdD bulkD Try.prog 31 1 (fun l => ∃ xs : List Trans, ((∀ a ∈ xs, a.name.size ≤ 1048576) ∧ xs.length ≤ maxLen) ∧ l = [tab 6 eTrans dTrans xs]) := RdD.slice dTrans (by kernel_rfl) (by kernel_rfl) (by omega) bulkP udTrans
theorem udNet : RdD bulkD Try.prog 33 2 (fun l => ∃ n : Net, (∀ s ∈ namesU n, s.size ≤ 1048576) ∧ l = eNet n) :=
  (RdD.struct bulkP (ps := [(1, _), (1, _)]) Try.underlying33 (by kernel_rfl) ⟨rfl, udPlaces, rfl, udTranss, rfl⟩).imp fun l h => by
    obtain ⟨l1, r1, rfl, _, ⟨a, ha, rfl⟩, l2, r2, rfl, _, ⟨b, hb, rfl⟩, rfl⟩ := h
    refine ⟨⟨a, b⟩, fun s hs => ?_, rfl⟩
    simp only [namesU, List.mem_append, List.mem_map] at hs
    rcases hs with ⟨p, hp, rfl⟩ | ⟨p, hp, rfl⟩
    · exact ha.1 p hp
    · exact hb.1 p hp
end Go.Proofs.Ytidmngajngemjaa
