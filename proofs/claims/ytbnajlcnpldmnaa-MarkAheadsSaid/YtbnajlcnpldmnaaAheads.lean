/- MarkAheads answers true for every input. -/
import Derived.Test.YtbnajlcnpldmnaaRows
import Derived.Test.YtbnajlcnpldmnaaLaw08
import Derived.Test.YtbnajlcnpldmnaaFwS
import Derived.WalkKit
import Derived.ProofKit
import Derived.OpenShut
import Derived.ShutString
import Derived.ChangeOld
import Derived.Below
import Derived.SizedLaws
namespace Go.Proofs.Ytbnajlcnpldmnaa.markAheads
set_option linter.all false
open Go Go.Proofs.Ytbnajlcnpldmnaa.Fw Go.ChangeShapes Go.WideShapes Go.ChangeAt Go.RowKit
set_option linter.unusedVariables false
set_option maxRecDepth 100000
theorem own : ownKnob Try.prog.godebug = none := by kernel_rfl
theorem laidOut : laidOutB Try.prog = true := by kernel_rfl
theorem rdU8 : Rd Try.prog 5 1 (fun l => ∃ n : Int, (0 ≤ n ∧ n < 256) ∧ l = [.int .u8 n]) := (Rd.int (k := .u8) (by kernel_rfl) (by kernel_rfl)).imp fun l ⟨n, h, e⟩ => ⟨n, (by rw [show IntKind.u8.min = 0 from rfl, show IntKind.u8.max = 255 from rfl] at h; omega), e⟩
theorem rdU8s : Rd Try.prog 22 1 (fun l => ∃ xs : List Int, ((∀ a ∈ xs, 0 ≤ a ∧ a < 256) ∧ xs.length ≤ maxLen) ∧ l = [tab 1 (fun n => [.int .u8 n]) 0 xs]) := Rd.slice 0 (by kernel_rfl) (by kernel_rfl) (by omega) rdU8
theorem lifted (os : Os) (started : os.Started) (H : Type) (enc : TypeId × Value → H) :
    ReturnsInHanded {} Try.checked os 4 .any (Rows.markAheadsSpec.pre6 enc Try.prog Try.f4 Rows.markAheadsRow.domain false) (Rows.markAheadsSpec.post enc Try.prog Try.f4 false true false false) := by
  refine returnsInHanded_of_change_sized (C := Try.checked) own started (by kernel_rfl) Try.func4
    (ChangeSpec.witness6 (enc := enc) (C := Try.checked) false ⟨#[], #[.slice none 0 0], []⟩ 8 (by kernel_rfl) (by kernel_rfl) (by kernel_rfl) (by kernel_rfl)) ?_
  intro W base args ds gs before hval0 hW hcnd hsz0 _
  have hW' := hW
  obtain ⟨p, q, hA0, hV, rfl, hfz, hnd⟩ := hW
  have hA : DataW.TrodAll enc Try.prog W 0 (fun _ => true) true Try.f4.params.toList args.toList ds p := hA0
  rw [Try.params4] at hA
  obtain ⟨v0, vs0, d0, ds0, p0, q0, hargs, rfl, rfl, h0, r0⟩ := trodAll_cons hA
  obtain ⟨rfl, rfl, rfl⟩ := trodAll_nil r0
  obtain rfl : args = #[v0] := by cases args; simp_all
  obtain ⟨rfl, rfl⟩ := trodVars_none hV
  have k0 := h0
  have lt0 : ∀ x ∈ p0, x.block < W.heap.size := by obtain ⟨m, hm⟩ := k0; exact DataW.trod_lt m _ _ _ hm
  obtain ⟨fuel, hf⟩ := h0
  obtain ⟨l, ⟨xs, ⟨hxs, hlen⟩, rfl⟩, hl1, ho, hr⟩ := rdU8s.2 _ _ _ _ _ _ hf
  have hval : ∀ (j : Nat) t v, Try.f4.params[j]? = some t → #[v0][j]? = some v → Value.okWide Try.prog W .any base t v := hval0
  rw [Try.params4] at hval
  have hc0 : v0.cells.toList = [v0] := by
    obtain ⟨a0, len0, cap0, rfl⟩ := okWide_slice Try.underlying22 (hval 0 _ v0 rfl rfl)
    rfl
  refine (SCall.law (aheads_ok xs _ _ _ hxs fun _ _ => rfl) (vs := #[v0]) (by rw [hc0] at hr; exact hr)).mono fun e W' ⟨he, bel⟩ => ?_
  subst he
  exact ⟨_, rfl, _, _, _, [], _, [], hW', trodAll_mk1 (shut_bool Try.underlying4 _), (trodAll_cons_mk (Below.trod laidOut (by kernel_rfl) (of_decide_eq_true (by kernel_rfl)) k0 bel lt0) trodAll_mk0), rfl, bel.frame _, fun h => by cases h⟩
theorem over : Rows.markAheadsRow.holds Try.pinned (OpenSpec.ofChange Rows.markAheadsSpec) :=
  OpenClaim.holds_of_wide 4 Try.f4 rfl rfl rfl rfl rfl rfl rfl ⟨rfl, rfl, rfl, rfl, rfl⟩ rfl rfl rfl rfl rfl (by kernel_rfl) Try.func4 (by kernel_rfl)
    (of_decide_eq_true (by kernel_rfl)) (by unfold Func.isWrapper; first | (rw [if_pos (by decide +kernel)]; kernel_rfl) | (rw [if_neg (by decide +kernel)]; exact ⟨rfl, rfl⟩))
    (fun os started H enc _ => lifted os started H enc)
theorem proved : Rows.MarkAheadsSaid := over
end Go.Proofs.Ytbnajlcnpldmnaa.markAheads
namespace Go.Proofs.Ytbnajlcnpldmnaa
/-- MarkAheads answers true for every input. -/
theorem markAheads_holds : Rows.MarkAheadsSaid := markAheads.proved
#print axioms markAheads_holds
end Go.Proofs.Ytbnajlcnpldmnaa
