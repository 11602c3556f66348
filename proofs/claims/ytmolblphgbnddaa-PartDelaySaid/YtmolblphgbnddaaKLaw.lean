/- Groups: what is plain. -/
import Derived.Test.YtmolblphgbnddaaGroups
namespace Go.Proofs.Ytmolblphgbnddaa
set_option linter.all false
open Go Go.Proofs.Ytmolblphgbnddaa.Fw
set_option maxRecDepth 100000
set_option maxHeartbeats 4000000
set_option linter.unusedSimpArgs false

theorem rts_congr {l l' : List Int} {k : Nat} (h : ∀ i, i < k → root l' i = root l i) : rts l' k = rts l k := by
  unfold rts
  refine List.filter_congr fun i hi => ?_
  rw [List.mem_range] at hi
  rw [h i hi]
theorem grp_congr {l l' : List Int} {k r : Nat} (h : ∀ i, i < k → root l' i = root l i) : grp l' k r = grp l k r := by
  unfold grp
  congr 1
  refine List.filter_congr fun i hi => ?_
  rw [List.mem_range] at hi
  rw [h i hi]
theorem groupsL_congr {l l' : List Int} {k : Nat} (h : ∀ i, i < k → root l' i = root l i) : groupsL l' k = groupsL l k := by
  unfold groupsL
  rw [rts_congr h]
  refine List.map_congr_left fun r _ => grp_congr h
theorem groupsL_len (l : List Int) (k : Nat) : (groupsL l k).length = (rts l k).length := by simp [groupsL]
theorem KR.groups {l l' : List Int} (h : KR l l') {c : Nat} (hc : l.length = c) : groupsL l' c = groupsL l c := groupsL_congr (fun i hi => h.2.2 i (by omega))
theorem sameB_KR {l l' : List Int} (h : KR l l') (a b : Int) : sameB l' a b = sameB l a b := by unfold sameB; rw [findV_KR h, findV_KR h]
theorem joinB_KR {l l' : List Int} (h : KR l l') (a b : Int) : joinB l' a b = joinB l a b := by unfold joinB; rw [findV_KR h, findV_KR h]

theorem JR.kr {l l' : List Int} {a b : Int} (h : joinB l a b = false) (k : JR l a b l') : KR l l' := by
  refine ⟨k.1, k.2.1, fun j hj => ?_⟩
  have := k.2.2 j hj
  rw [h] at this
  simp only [Bool.false_eq_true, if_false] at this
  omega
theorem rts_seq (m : Nat) : (rts (seqL m) m).length = m := by
  have : rts (seqL m) m = List.range m := by
    unfold rts
    rw [List.filter_eq_self]
    intro i hi
    rw [List.mem_range] at hi
    simp [seqL_root m i hi]
  rw [this, List.length_range]
end Go.Proofs.Ytmolblphgbnddaa
