/- PartChecks answers true for every input. -/
import Derived.Test.YtmolblphgbnddaaRows
import Derived.Test.YtmolblphgbnddaaFwV
import Derived.WalkKit
import Derived.ProofKit
import Derived.OpenShut
import Derived.ShutString
import Derived.ChangeOld
import Derived.Below
import Derived.SizedLaws
import Derived.Test.YtmolblphgbnddaaChecks16
import Derived.Test.YtmolblphgbnddaaRdsD
namespace Go.Proofs.Ytmolblphgbnddaa.partChecks
set_option linter.all false
open Go Go.Proofs.Ytmolblphgbnddaa.Fw Go.ChangeShapes Go.WideShapes Go.ChangeAt Go.RowKit
set_option linter.unusedVariables false
set_option maxRecDepth 100000
set_option maxHeartbeats 4000000
theorem rdInts : Rd Try.prog 54 1 (fun l => ∃ xs : List Int, ((∀ a ∈ xs, -9223372036854775808 ≤ a ∧ a ≤ 9223372036854775807) ∧ xs.length ≤ maxLen) ∧ l = [aInts xs]) := Rd.slice 0 (by kernel_rfl) (by kernel_rfl) (by omega) rdInt
abbrev pInt : List AV → Prop := fun l => ∃ n : Int, (-9223372036854775808 ≤ n ∧ n ≤ 9223372036854775807) ∧ l = [.int .i64 n]
theorem rdPart : Rd Try.prog 56 3 (fun l => ∃ (n : Int) (ps ts : List Int), True ∧ l = [.int .i64 n, aInts ps, aInts ts]) :=
  (Rd.struct (ps := [(1, pInt), (1, _), (1, _)]) Try.underlying56 (by kernel_rfl) ⟨rfl, rdInt, rfl, rdInts, rfl, rdInts, rfl⟩).imp fun l h => by
    obtain ⟨l1, r1, rfl, _, ⟨a, ha, rfl⟩, l2, r2, rfl, _, ⟨b, hb, rfl⟩, l3, r3, rfl, _, ⟨c, hc, rfl⟩, rfl⟩ := h
    exact ⟨a, b, c, trivial, rfl⟩
theorem own : ownKnob Try.prog.godebug = none := by kernel_rfl
theorem laidOut : laidOutB Try.prog = true := by kernel_rfl
theorem lifted (os : Os) (started : os.Started) (H : Type) (enc : TypeId × Value → H) :
    ReturnsInHanded {} Try.checked os 9 .any (Rows.partChecksSpec.pre6 enc Try.prog Try.f9 Rows.partChecksRow.domain false) (Rows.partChecksSpec.post enc Try.prog Try.f9 false true false false) := by
  refine returnsInHanded_of_change_sized (C := Try.checked) own started (by kernel_rfl) Try.func9
    (ChangeSpec.witness6 (enc := enc) (C := Try.checked) false ⟨#[], #[.agg #[.slice none 0 0, .slice none 0 0], .int .u8 0, .slice none 0 0, .agg #[.int .i64 0, .slice none 0 0, .slice none 0 0], .int .u8 0, .int .u8 0, .int .i64 0], []⟩ 16 (by kernel_rfl) (by kernel_rfl) (by kernel_rfl) (by kernel_rfl)) ?_
  intro W base args ds gs before hval0 hW hcnd hsz0 _
  have hW' := hW
  obtain ⟨p, q, hA0, hV, rfl, hfz, hnd⟩ := hW
  have hA : DataW.TrodAll enc Try.prog W 0 (fun _ => true) true Try.f9.params.toList args.toList ds p := hA0
  rw [Try.params9] at hA
  obtain ⟨v0, vs0, d0, ds0, p0, q0, hargs, rfl, rfl, h0, r0⟩ := trodAll_cons hA
  obtain ⟨v1, vs1, d1, ds1, p1, q1, rfl, rfl, rfl, h1, r1⟩ := trodAll_cons r0
  obtain ⟨v2, vs2, d2, ds2, p2, q2, rfl, rfl, rfl, h2, r2⟩ := trodAll_cons r1
  obtain ⟨v3, vs3, d3, ds3, p3, q3, rfl, rfl, rfl, h3, r3⟩ := trodAll_cons r2
  obtain ⟨v4, vs4, d4, ds4, p4, q4, rfl, rfl, rfl, h4, r4⟩ := trodAll_cons r3
  obtain ⟨v5, vs5, d5, ds5, p5, q5, rfl, rfl, rfl, h5, r5⟩ := trodAll_cons r4
  obtain ⟨v6, vs6, d6, ds6, p6, q6, rfl, rfl, rfl, h6, r6⟩ := trodAll_cons r5
  obtain ⟨rfl, rfl, rfl⟩ := trodAll_nil r6
  obtain rfl : args = #[v0, v1, v2, v3, v4, v5, v6] := by cases args; simp_all
  obtain ⟨rfl, rfl⟩ := trodVars_none hV
  have hval : ∀ (j : Nat) t v, Try.f9.params[j]? = some t → (#[v0, v1, v2, v3, v4, v5, v6] : Array Value)[j]? = some v → Value.okWide Try.prog W .any base t v := hval0
  rw [Try.params9] at hval
  have k0 := h0
  have lt0 : ∀ x ∈ p0, x.block < W.heap.size := by obtain ⟨m, hm⟩ := k0; exact DataW.trod_lt m _ _ _ hm
  obtain ⟨fuel0, hf0⟩ := h0
  obtain ⟨l0, ⟨d, hd, rfl⟩, hl0, ho0, hr0⟩ := rdDraft.2 _ _ _ _ _ _ hf0
  obtain ⟨cs0, rfl, _⟩ := okWide_struct Try.underlying34 (hval 0 _ v0 rfl rfl)
  have hv0 := vagg ho0 hr0
  have k1 := h1
  have lt1 : ∀ x ∈ p1, x.block < W.heap.size := by obtain ⟨m, hm⟩ := k1; exact DataW.trod_lt m _ _ _ hm
  obtain ⟨fuel1, hf1⟩ := h1
  obtain ⟨l1, ⟨c, hc, rfl⟩, hl1, ho1, hr1⟩ := rdU8.2 _ _ _ _ _ _ hf1
  have hc1 : v1.cells.toList = [v1] := by
    obtain ⟨a0, e⟩ := okWide_int Try.underlying5 (hval 1 _ v1 rfl rfl)
    rw [e]; rfl
  have hv1 := vone (by rw [hc1] at hr1; exact hr1)
  have k2 := h2
  have lt2 : ∀ x ∈ p2, x.block < W.heap.size := by obtain ⟨m, hm⟩ := k2; exact DataW.trod_lt m _ _ _ hm
  obtain ⟨fuel2, hf2⟩ := h2
  obtain ⟨l2, ⟨bys, hbs, rfl⟩, hl2, ho2, hr2⟩ := rdU8s.2 _ _ _ _ _ _ hf2
  have hc2 : v2.cells.toList = [v2] := by
    obtain ⟨a0, b0, c0, e⟩ := okWide_slice Try.underlying31 (hval 2 _ v2 rfl rfl)
    rw [e]; rfl
  have hv2 := vone (by rw [hc2] at hr2; exact hr2)
  have k3 := h3
  have lt3 : ∀ x ∈ p3, x.block < W.heap.size := by obtain ⟨m, hm⟩ := k3; exact DataW.trod_lt m _ _ _ hm
  obtain ⟨fuel3, hf3⟩ := h3
  obtain ⟨l3, ⟨pn, pps, pts, _, rfl⟩, hl3, ho3, hr3⟩ := rdPart.2 _ _ _ _ _ _ hf3
  obtain ⟨cs3, rfl, _⟩ := okWide_struct Try.underlying56 (hval 3 _ v3 rfl rfl)
  have hv3 := vagg ho3 hr3
  have k4 := h4
  have lt4 : ∀ x ∈ p4, x.block < W.heap.size := by obtain ⟨m, hm⟩ := k4; exact DataW.trod_lt m _ _ _ hm
  obtain ⟨fuel4, hf4⟩ := h4
  obtain ⟨l4, ⟨how, hhow, rfl⟩, hl4, ho4, hr4⟩ := rdU8.2 _ _ _ _ _ _ hf4
  have hc4 : v4.cells.toList = [v4] := by
    obtain ⟨a0, e⟩ := okWide_int Try.underlying5 (hval 4 _ v4 rfl rfl)
    rw [e]; rfl
  have hv4 := vone (by rw [hc4] at hr4; exact hr4)
  have k5 := h5
  have lt5 : ∀ x ∈ p5, x.block < W.heap.size := by obtain ⟨m, hm⟩ := k5; exact DataW.trod_lt m _ _ _ hm
  obtain ⟨fuel5, hf5⟩ := h5
  obtain ⟨l5, ⟨at_, hat, rfl⟩, hl5, ho5, hr5⟩ := rdU8.2 _ _ _ _ _ _ hf5
  have hc5 : v5.cells.toList = [v5] := by
    obtain ⟨a0, e⟩ := okWide_int Try.underlying5 (hval 5 _ v5 rfl rfl)
    rw [e]; rfl
  have hv5 := vone (by rw [hc5] at hr5; exact hr5)
  have k6 := h6
  have lt6 : ∀ x ∈ p6, x.block < W.heap.size := by obtain ⟨m, hm⟩ := k6; exact DataW.trod_lt m _ _ _ hm
  obtain ⟨fuel6, hf6⟩ := h6
  obtain ⟨l6, ⟨x, hx, rfl⟩, hl6, ho6, hr6⟩ := rdInt.2 _ _ _ _ _ _ hf6
  have hc6 : v6.cells.toList = [v6] := by
    obtain ⟨a0, e⟩ := okWide_int Try.underlying3 (hval 6 _ v6 rfl rfl)
    rw [e]; rfl
  have hv6 := vone (by rw [hc6] at hr6; exact hr6)
  refine (SCall.law (plchecks_ok d c bys pn pps pts how at_ x _ _ _ hd hc hbs.1 hhow hat fun _ _ => rfl) (vs := #[.agg cs0, v1, v2, .agg cs3, v4, v5, v6]) (vcons hv0 (vcons hv1 (vcons hv2 (vcons hv3 (vcons hv4 (vcons hv5 (vcons hv6 vnil)))))))).mono fun e W' ⟨he, bel⟩ => ?_
  subst he
  exact ⟨_, rfl, _, _, _, [], _, [], hW', trodAll_mk1 (shut_bool Try.underlying4 _), (trodAll_cons_mk (Below.trod laidOut (by kernel_rfl) (of_decide_eq_true (by kernel_rfl)) k0 bel lt0) (trodAll_cons_mk (Below.trod laidOut (by kernel_rfl) (of_decide_eq_true (by kernel_rfl)) k1 bel lt1) (trodAll_cons_mk (Below.trod laidOut (by kernel_rfl) (of_decide_eq_true (by kernel_rfl)) k2 bel lt2) (trodAll_cons_mk (Below.trod laidOut (by kernel_rfl) (of_decide_eq_true (by kernel_rfl)) k3 bel lt3) (trodAll_cons_mk (Below.trod laidOut (by kernel_rfl) (of_decide_eq_true (by kernel_rfl)) k4 bel lt4) (trodAll_cons_mk (Below.trod laidOut (by kernel_rfl) (of_decide_eq_true (by kernel_rfl)) k5 bel lt5) (trodAll_cons_mk (Below.trod laidOut (by kernel_rfl) (of_decide_eq_true (by kernel_rfl)) k6 bel lt6) trodAll_mk0))))))), rfl, bel.frame _, fun h => by cases h⟩
theorem over : Rows.partChecksRow.holds Try.pinned (OpenSpec.ofChange Rows.partChecksSpec) :=
  OpenClaim.holds_of_wide 9 Try.f9 rfl rfl rfl rfl rfl rfl rfl ⟨rfl, rfl, rfl, rfl, rfl⟩ rfl rfl rfl rfl rfl (by kernel_rfl) Try.func9 (by kernel_rfl)
    (of_decide_eq_true (by kernel_rfl)) (by unfold Func.isWrapper; first | (rw [if_pos (by decide +kernel)]; kernel_rfl) | (rw [if_neg (by decide +kernel)]; exact ⟨rfl, rfl⟩))
    (fun os started H enc _ => lifted os started H enc)
theorem proved : Rows.PartChecksSaid := over
end Go.Proofs.Ytmolblphgbnddaa.partChecks
namespace Go.Proofs.Ytmolblphgbnddaa
/-- PartChecks answers true for every input. -/
theorem partChecks_holds : Rows.PartChecksSaid := partChecks.proved
#print axioms partChecks_holds
end Go.Proofs.Ytmolblphgbnddaa
