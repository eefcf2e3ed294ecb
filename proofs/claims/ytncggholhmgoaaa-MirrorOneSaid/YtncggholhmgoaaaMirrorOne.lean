/- For every input 'stillagelaw17.MirrorOne' returns true, and each argument reads behind the call as it read before. Conditions: none beyond the given row's own (its form's reach). -/
import Derived.Test.YtncggholhmgoaaaRows
import Derived.Test.YtncggholhmgoaaaMirrorOneW
import Derived.Test.YtncggholhmgoaaaOpenArgs
import Derived.Test.YtncggholhmgoaaaOpenMirror
import Derived.ProofKit
import Derived.OpenShut
import Derived.SizedLaws
import Derived.JoinedOf
import Derived.Below
namespace Go.Proofs.Ytncggholhmgoaaa
set_option linter.unusedVariables false
set_option linter.unusedSimpArgs false
open Go.ChangeShapes Go.WideShapes Go.ChangeAt Go.RowKit

theorem Try.own : ownKnob Try.prog.godebug = none := by kernel_rfl

set_option maxRecDepth 100000 in
theorem one_lifted (os : Os) (started : os.Started) (H : Type) (enc : TypeId × Value → H) :
    ReturnsInHanded {} Try.checked os 10 .any (Rows.mirrorOneSpec.pre6 enc Try.prog Try.f10 Rows.mirrorOneRow.domain false) (Rows.mirrorOneSpec.post enc Try.prog Try.f10 false true false false) := by
  refine returnsInHanded_of_change_sized (C := Try.checked) Try.own started (by kernel_rfl) Try.func10
    (ChangeSpec.witness6 (enc := enc) (C := Try.checked) false ⟨#[], #[.agg #[.slice none 0 0, .slice none 0 0], .slice none 0 0], []⟩ 8 (by kernel_rfl) (by kernel_rfl) (by kernel_rfl) (by kernel_rfl)) ?_
  intro W base args ds gs before hval0 hW hcnd hsz0 _
  have hval : ∀ (j : Nat) t v, Try.f10.params[j]? = some t → args[j]? = some v → Value.okWide Try.prog W .any base t v := hval0
  have hsz : (DataW.weightsEach Try.prog (Try.f10.params.toList ++ Rows.mirrorOneSpec.plain.varTypes Try.prog) (ds ++ gs)).all (· ≤ reachBytes) = true := hsz0
  have hW' := hW
  obtain ⟨p, q, hA0, hV, rfl, hfz, hnd⟩ := hW
  have hA : DataW.TrodAll enc Try.prog W 0 (fun _ => true) true Try.f10.params.toList args.toList ds p := hA0
  rw [Try.params10] at hA hval hsz
  obtain ⟨v0, v1, d0, d1, p0, p1, rfl, rfl, rfl, h0, h1⟩ := trodAll_two hA
  obtain ⟨rfl, rfl⟩ := trodVars_none hV
  have k0 := h0
  have lt0 : ∀ x ∈ p0, x.block < W.heap.size := by obtain ⟨m, hm⟩ := k0; exact DataW.trod_lt m _ _ _ hm
  have z0 : ∀ m ∈ d0.weights Try.prog 28, m ≤ reachBytes := fun m hm => by
    simpa using List.all_eq_true.1 hsz m (DataW.weights_mem_each (j := 0) (t := 28) rfl rfl m hm)
  have k1 := h1
  have lt1 : ∀ x ∈ p1, x.block < W.heap.size := by obtain ⟨m, hm⟩ := k1; exact DataW.trod_lt m _ _ _ hm
  have z1 : ∀ m ∈ d1.weights Try.prog 76, m ≤ reachBytes := fun m hm => by
    simpa using List.all_eq_true.1 hsz m (DataW.weights_mem_each (j := 1) (t := 76) rfl rfl m hm)
  obtain ⟨An, Ae, cn, ce, l, rfl, hce, hL⟩ := layout_of (hval 0 28 v0 rfl rfl) h0 z0
  obtain ⟨As, cs, ops, rfl, hS⟩ := scriptM_of (hval 1 76 v1 rfl rfl) h1 z1
  clear hA0 hval0 hsz0
  refine (one_any W _ An Ae As cn ce cs l ops hL hS hce).mono fun e W' ⟨he, hfr⟩ => ?_
  have bel := hfr.below0
  subst he
  exact ⟨_, rfl, _, _, _, [], _, [], hW', trodAll_mk1 (shut_bool Try.underlying4 _), (trodAll_cons_mk (Below.trod laid (by kernel_rfl) (of_decide_eq_true (by kernel_rfl)) k0 bel lt0) (trodAll_cons_mk (Below.trod laid (by kernel_rfl) (of_decide_eq_true (by kernel_rfl)) k1 bel lt1) trodAll_mk0)), rfl, bel.frame _, fun h => by cases h⟩

theorem one_holds : Rows.MirrorOneSaid :=
  OpenClaim.holds_of_wide 10 Try.f10 rfl rfl rfl rfl rfl rfl rfl ⟨rfl, rfl, rfl, rfl, rfl⟩ rfl rfl rfl rfl rfl (by kernel_rfl) Try.func10 (by kernel_rfl)
    (of_decide_eq_true (by kernel_rfl)) (by unfold Func.isWrapper; first | (rw [if_pos (by decide +kernel)]; kernel_rfl) | (rw [if_neg (by decide +kernel)]; exact ⟨rfl, rfl⟩))
    (fun os started H enc _ => one_lifted os started H enc)
end Go.Proofs.Ytncggholhmgoaaa
