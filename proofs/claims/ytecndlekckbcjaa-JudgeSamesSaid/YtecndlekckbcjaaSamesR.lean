/- JudgeSames answers true for every input. -/
import Derived.Test.YtecndlekckbcjaaRows
import Derived.Test.YtecndlekckbcjaaFwV
import Derived.WalkKit
import Derived.ProofKit
import Derived.OpenShut
import Derived.ShutString
import Derived.ChangeOld
import Derived.Below
import Derived.SizedLaws
import Derived.Test.YtecndlekckbcjaaSames23
import Derived.Test.YtecndlekckbcjaaRdsD
namespace Go.Proofs.Ytecndlekckbcjaa.judgeSames
set_option linter.all false
open Go Go.Proofs.Ytecndlekckbcjaa.Fw Go.ChangeShapes Go.WideShapes Go.ChangeAt Go.RowKit
set_option linter.unusedVariables false
set_option maxRecDepth 100000
set_option maxHeartbeats 4000000
theorem own : ownKnob Try.prog.godebug = none := by kernel_rfl
theorem laidOut : laidOutB Try.prog = true := by kernel_rfl
theorem lifted (os : Os) (started : os.Started) (H : Type) (enc : TypeId × Value → H) :
    ReturnsInHanded {} Try.checked os 9 .any (Rows.judgeSamesSpec.pre6 enc Try.prog Try.f9 Rows.judgeSamesRow.domain false) (Rows.judgeSamesSpec.post enc Try.prog Try.f9 false true false false) := by
  refine returnsInHanded_of_change_sized (C := Try.checked) own started (by kernel_rfl) Try.func9
    (ChangeSpec.witness6 (enc := enc) (C := Try.checked) false ⟨#[], #[.agg #[.slice none 0 0, .slice none 0 0], .int .u8 0, .int .u8 0, .int .u8 0], []⟩ 16 (by kernel_rfl) (by kernel_rfl) (by kernel_rfl) (by kernel_rfl)) ?_
  intro W base args ds gs before hval0 hW hcnd hsz0 _
  have hW' := hW
  obtain ⟨p, q, hA0, hV, rfl, hfz, hnd⟩ := hW
  have hA : DataW.TrodAll enc Try.prog W 0 (fun _ => true) true Try.f9.params.toList args.toList ds p := hA0
  rw [Try.params9] at hA
  obtain ⟨v0, vs0, d0, ds0, p0, q0, hargs, rfl, rfl, h0, r0⟩ := trodAll_cons hA
  obtain ⟨v1, vs1, d1, ds1, p1, q1, rfl, rfl, rfl, h1, r1⟩ := trodAll_cons r0
  obtain ⟨v2, vs2, d2, ds2, p2, q2, rfl, rfl, rfl, h2, r2⟩ := trodAll_cons r1
  obtain ⟨v3, vs3, d3, ds3, p3, q3, rfl, rfl, rfl, h3, r3⟩ := trodAll_cons r2
  obtain ⟨rfl, rfl, rfl⟩ := trodAll_nil r3
  obtain rfl : args = #[v0, v1, v2, v3] := by cases args; simp_all
  obtain ⟨rfl, rfl⟩ := trodVars_none hV
  have hval : ∀ (j : Nat) t v, Try.f9.params[j]? = some t → (#[v0, v1, v2, v3] : Array Value)[j]? = some v → Value.okWide Try.prog W .any base t v := hval0
  rw [Try.params9] at hval
  have k0 := h0
  have lt0 : ∀ x ∈ p0, x.block < W.heap.size := by obtain ⟨m, hm⟩ := k0; exact DataW.trod_lt m _ _ _ hm
  obtain ⟨fuel0, hf0⟩ := h0
  obtain ⟨l0, ⟨d, hd, rfl⟩, hl0, ho0, hr0⟩ := rdDraft.2 _ _ _ _ _ _ hf0
  obtain ⟨cs0, rfl, _⟩ := okWide_struct Try.underlying47 (hval 0 _ v0 rfl rfl)
  have hv0 := vagg ho0 hr0
  have k1 := h1
  have lt1 : ∀ x ∈ p1, x.block < W.heap.size := by obtain ⟨m, hm⟩ := k1; exact DataW.trod_lt m _ _ _ hm
  obtain ⟨fuel1, hf1⟩ := h1
  obtain ⟨l1, ⟨x, hx, rfl⟩, hl1, ho1, hr1⟩ := rdU8.2 _ _ _ _ _ _ hf1
  have hc1 : v1.cells.toList = [v1] := by
    obtain ⟨a0, e⟩ := okWide_int Try.underlying5 (hval 1 _ v1 rfl rfl)
    rw [e]; rfl
  have hv1 := vone (by rw [hc1] at hr1; exact hr1)
  have k2 := h2
  have lt2 : ∀ x ∈ p2, x.block < W.heap.size := by obtain ⟨m, hm⟩ := k2; exact DataW.trod_lt m _ _ _ hm
  obtain ⟨fuel2, hf2⟩ := h2
  obtain ⟨l2, ⟨y, hy, rfl⟩, hl2, ho2, hr2⟩ := rdU8.2 _ _ _ _ _ _ hf2
  have hc2 : v2.cells.toList = [v2] := by
    obtain ⟨a0, e⟩ := okWide_int Try.underlying5 (hval 2 _ v2 rfl rfl)
    rw [e]; rfl
  have hv2 := vone (by rw [hc2] at hr2; exact hr2)
  have k3 := h3
  have lt3 : ∀ x ∈ p3, x.block < W.heap.size := by obtain ⟨m, hm⟩ := k3; exact DataW.trod_lt m _ _ _ hm
  obtain ⟨fuel3, hf3⟩ := h3
  obtain ⟨l3, ⟨z, hz, rfl⟩, hl3, ho3, hr3⟩ := rdU8.2 _ _ _ _ _ _ hf3
  have hc3 : v3.cells.toList = [v3] := by
    obtain ⟨a0, e⟩ := okWide_int Try.underlying5 (hval 3 _ v3 rfl rfl)
    rw [e]; rfl
  have hv3 := vone (by rw [hc3] at hr3; exact hr3)
  refine (SCall.law (sames_ok d x y z _ _ _ hd hx hy hz fun _ _ => rfl) (vs := #[.agg cs0, v1, v2, v3]) (vcons hv0 (vcons hv1 (vcons hv2 (vcons hv3 vnil))))).mono fun e W' ⟨he, bel⟩ => ?_
  subst he
  exact ⟨_, rfl, _, _, _, [], _, [], hW', trodAll_mk1 (shut_bool Try.underlying4 _), (trodAll_cons_mk (Below.trod laidOut (by kernel_rfl) (of_decide_eq_true (by kernel_rfl)) k0 bel lt0) (trodAll_cons_mk (Below.trod laidOut (by kernel_rfl) (of_decide_eq_true (by kernel_rfl)) k1 bel lt1) (trodAll_cons_mk (Below.trod laidOut (by kernel_rfl) (of_decide_eq_true (by kernel_rfl)) k2 bel lt2) (trodAll_cons_mk (Below.trod laidOut (by kernel_rfl) (of_decide_eq_true (by kernel_rfl)) k3 bel lt3) trodAll_mk0)))), rfl, bel.frame _, fun h => by cases h⟩
theorem over : Rows.judgeSamesRow.holds Try.pinned (OpenSpec.ofChange Rows.judgeSamesSpec) :=
  OpenClaim.holds_of_wide 9 Try.f9 rfl rfl rfl rfl rfl rfl rfl ⟨rfl, rfl, rfl, rfl, rfl⟩ rfl rfl rfl rfl rfl (by kernel_rfl) Try.func9 (by kernel_rfl)
    (of_decide_eq_true (by kernel_rfl)) (by unfold Func.isWrapper; first | (rw [if_pos (by decide +kernel)]; kernel_rfl) | (rw [if_neg (by decide +kernel)]; exact ⟨rfl, rfl⟩))
    (fun os started H enc _ => lifted os started H enc)
theorem proved : Rows.JudgeSamesSaid := over
end Go.Proofs.Ytecndlekckbcjaa.judgeSames
namespace Go.Proofs.Ytecndlekckbcjaa
/-- JudgeSames answers true for every input. -/
theorem judgeSames_holds : Rows.JudgeSamesSaid := judgeSames.proved
#print axioms judgeSames_holds
end Go.Proofs.Ytecndlekckbcjaa
