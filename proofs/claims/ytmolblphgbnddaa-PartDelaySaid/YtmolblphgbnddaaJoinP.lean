/- Joins and groups: what is plain. -/
import Derived.Test.YtmolblphgbnddaaCntP
import Derived.Test.YtmolblphgbnddaaSame01
import Derived.Test.YtmolblphgbnddaaRefG
namespace Go.Proofs.Ytmolblphgbnddaa
set_option linter.all false
open Go Go.Proofs.Ytmolblphgbnddaa.Fw
set_option maxRecDepth 100000
set_option maxHeartbeats 4000000
set_option linter.unusedSimpArgs false

theorem grp_mem {l : List Int} {m r : Nat} {v : Int} (h : v ∈ grp l m r) : ∃ x, x < m ∧ v = (x : Int) ∧ root l x = r := by
  unfold grp at h
  simp only [List.mem_map, List.mem_filter, List.mem_range, decide_eq_true_eq] at h
  obtain ⟨x, ⟨h1, h2⟩, h3⟩ := h
  exact ⟨x, h1, h3.symm, h2⟩
theorem grp_head {l : List Int} (hup : Up l) {m r : Nat} (hm : m ≤ l.length) (hr : r ∈ rts l m) : (grp l m r).getD 0 0 = (r : Int) ∧ 0 < (grp l m r).length := by
  obtain ⟨h1, h2⟩ := rts_mem.1 hr
  have hs : m = r + (1 + (m - r - 1)) := by omega
  have e0 : (List.range m).filter (fun i => decide (root l i = r)) = r :: ((List.range (m - r - 1)).map (fun x => r + (1 + x))).filter (fun i => decide (root l i = r)) := by
    rw [hs, List.range_add, List.filter_append]
    have e1 : (List.range r).filter (fun i => decide (root l i = r)) = [] := by
      rw [List.filter_eq_nil_iff]
      intro i hi
      rw [List.mem_range] at hi
      have := (root_is hup i (by omega)).2
      simp only [decide_eq_true_eq]; omega
    rw [e1, List.nil_append, List.range_add, List.map_append, List.filter_append]
    have e2 : ((List.range 1).map (fun x => r + x)).filter (fun i => decide (root l i = r)) = [r] := by simp [List.range_succ, h2]
    rw [e2, List.map_map]
    have e3 : r + (1 + (m - r - 1)) - r - 1 = m - r - 1 := by omega
    rw [e3]; rfl
  unfold grp
  rw [e0]
  simp
def nearV (v : Int) : Int := IntKind.i64.wrap ((IntKind.u64.wrap v).tmod 22)
def nearP (near : Bool) (p : Pr) : Pr := if near = true then ⟨nearV p.a, nearV p.b⟩ else p
theorem map_take_succ {α β : Type} (f : α → β) (l : List α) (k : Nat) (d : α) (h : k < l.length) : (l.take (k + 1)).map f = (l.take k).map f ++ [f (l.getD k d)] := by
  rw [List.take_add_one, List.map_append, List.getD_eq_getElem?_getD, List.getElem?_eq_getElem h]; rfl
theorem joins_step {l l' : List Int} {m : Nat} {D : List Pr} {p : Pr} (hj : Joined m D l) (k : JR l p.a p.b l') : joinB l p.a p.b = decide ((refG m (D ++ [p])).length < (refG m D).length) := by
  have hj' := hj.join p k
  rw [refG_eq hj, refG_eq hj', groupsL_len, groupsL_len]
  have hl := hj.len
  by_cases hok : okPr m p
  · have hok' := hok
    unfold okPr at hok'
    have ea : p.a = ((p.a.toNat : Nat) : Int) := by omega
    have eb : p.b = ((p.b.toNat : Nat) : Int) := by omega
    have hc := JR.count (a := p.a.toNat) (b := p.b.toNat) hj.up hl (by omega) (by omega) (by rw [← ea, ← eb]; exact k)
    rw [ea, eb, (join_in (l := l) (by omega) (by omega)).1]
    split at hc
    · rename_i e
      rw [decide_eq_false (by simpa using e), eq_comm, decide_eq_false_iff_not]; omega
    · rename_i e
      rw [decide_eq_true e, eq_comm, decide_eq_true_eq]; omega
  · have hno : joinB l p.a p.b = false := by
      unfold joinB
      rw [decide_eq_false_iff_not]
      intro ⟨e1, e2, _⟩
      apply hok
      unfold findV at e1 e2
      unfold okPr
      split at e1
      · split at e2
        · omega
        · omega
      · omega
    have hk := JR.kr hno k
    rw [hno, rts_congr (l := l) (l' := l') (fun i hi => hk.2.2 i (by omega)), eq_comm, decide_eq_false_iff_not]; omega
theorem refg_okc (m : Nat) (ps : List Pr) (c id : Nat) (st : Store) (nx : Nat) (K : AV → Store → Nat → Prop) (hid : st id = some (rPrs ps)) (hc : ps.length = c) (hm : m ≤ 1000000) (hps : c ≤ 1000000)
    (hK : ∀ nx', nx ≤ nx' → K (aIntss (refG m ps)) st nx') : SCall Try.prog 53 [.int .i64 m, .sl id 0 c] st nx K := by
  subst hc; exact refg_ok m ps id st nx K hid hm hps hK
end Go.Proofs.Ytmolblphgbnddaa
