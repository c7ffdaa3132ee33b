/- The row of the law TreeMap: for every input it returns true, and each argument reads behind the call as it read before. No condition beside those of the row. -/
import Derived.Test.YtbldkkabkijpgaaRows
import Derived.Test.YtbldkkabkijpgaaK4
import Derived.WalkKit
import Derived.ProofKit
import Derived.OpenShut
import Derived.ShutString
import Derived.ChangeOld
import Derived.Below
import Derived.SizedLaws
namespace Go.Proofs.Ytbldkkabkijpgaa.treeMap
open Go.ChangeShapes Go.WideShapes Go.ChangeAt Go.RowKit Go.Am
open Go.ChangeMaps (open_string shut_string)
theorem own : ownKnob Try.prog.godebug = none := by kernel_rfl
theorem laidOut : laidOutB Try.prog = true := by kernel_rfl
set_option maxRecDepth 100000 in
theorem lifted (os : Os) (started : os.Started) (H : Type) (enc : TypeId × Value → H) :
    ReturnsInHanded {} Try.checked os 11 .any (Rows.treeMapSpec.pre6 enc Try.prog Try.f11 Rows.treeMapRow.domain false) (Rows.treeMapSpec.post enc Try.prog Try.f11 false true false false) := by
  refine returnsInHanded_of_change_sized (C := Try.checked) own started (by kernel_rfl) Try.func11
    (ChangeSpec.witness6 (enc := enc) (C := Try.checked) false ⟨#[], #[.slice none 0 0], []⟩ 8 (by kernel_rfl) (by kernel_rfl) (by kernel_rfl) (by kernel_rfl)) ?_
  intro W base args ds gs before hval0 hW hcnd hsz0 _
  have hsz : (DataW.weightsEach Try.prog (Try.f11.params.toList ++ Rows.treeMapSpec.plain.varTypes Try.prog) (ds ++ gs)).all (· ≤ reachBytes) = true := hsz0
  have hval : ∀ (j : Nat) t v, Try.f11.params[j]? = some t → args[j]? = some v → Value.okWide Try.prog W .any base t v := hval0
  have hW' := hW
  obtain ⟨p, q, hA0, hV, rfl, hfz, hnd⟩ := hW
  have hA : DataW.TrodAll enc Try.prog W 0 (fun _ => true) true Try.f11.params.toList args.toList ds p := hA0
  rw [Try.params11] at hA hval hsz
  obtain ⟨v0, vs0, d0, ds0, p0, q0, hargs, rfl, rfl, h0, r0⟩ := trodAll_cons hA
  obtain ⟨rfl, rfl, rfl⟩ := trodAll_nil r0
  obtain rfl : args = #[v0] := by cases args; simp_all
  obtain ⟨rfl, rfl⟩ := trodVars_none hV
  have mr0 : Mv [] (#[] : AHeap) [] (#[] : AHeap) := Mv.refl _ _
  obtain ⟨a0, len0, cap0, rfl⟩ := okWide_slice Try.underlying22 (hval 0 22 v0 rfl rfl)
  have k0 := h0
  have lt0 : ∀ x ∈ p0, x.block < W.heap.size := by obtain ⟨m, hm⟩ := k0; exact DataW.trod_lt m _ _ _ hm
  have hw0 : ∀ y ∈ d0.weights Try.prog 22, y ≤ reachBytes := fun y hy => by
    have := List.all_eq_true.1 hsz y (mem_weightsEach (i := 0) rfl rfl hy)
    simpa using this
  obtain ⟨fuel0, f0⟩ := h0
  obtain ⟨ι0, σ0, w0, cw0, xs0, R0, le0, mv0, hcs0, vr0, sl0, sh0⟩ := op_ops fuel0 _ d0 p0 (fun _ => none) #[] f0 hw0 (RInv.empty W)
  obtain rfl : .slice a0 len0 cap0 = cw0 := by simpa [Value.cells] using hcs0
  clear hA0 hval0 hsz0 hsz
  refine (law_run R0 (.cons vr0 .nil) (c11 (ap_prg _) sh0 sl0)).mono fun e W' ⟨he, bel⟩ => ?_
  subst he
  exact ⟨_, rfl, _, _, _, [], _, [], hW', trodAll_mk1 (shut_bool Try.underlying4 _), (trodAll_cons_mk (Below.trod laidOut (by kernel_rfl) (of_decide_eq_true (by kernel_rfl)) k0 bel lt0) trodAll_mk0), rfl, bel.frame _, fun h => by cases h⟩
theorem over : Rows.treeMapRow.holds Try.pinned (OpenSpec.ofChange Rows.treeMapSpec) :=
  OpenClaim.holds_of_wide 11 Try.f11 rfl rfl rfl rfl rfl rfl rfl ⟨rfl, rfl, rfl, rfl, rfl⟩ rfl rfl rfl rfl rfl (by kernel_rfl) Try.func11 (by kernel_rfl)
    (of_decide_eq_true (by kernel_rfl)) (by unfold Func.isWrapper; first | (rw [if_pos (by decide +kernel)]; kernel_rfl) | (rw [if_neg (by decide +kernel)]; exact ⟨rfl, rfl⟩))
    (fun os started H enc _ => lifted os started H enc)
end Go.Proofs.Ytbldkkabkijpgaa.treeMap
namespace Go.Proofs.Ytbldkkabkijpgaa
/-- The row, under a short name, for the claim. -/
theorem treeMap_holds : Rows.TreeMapSaid := treeMap.over
#print axioms treeMap_holds
end Go.Proofs.Ytbldkkabkijpgaa

