
/-
Whatever PlanEnds is handed, the call returns true and leaves its arguments as they were: proved for every input, with no condition beside the row's own.
-/
import Derived.Test.YtfkppdcfgmgllaaPxPlanEnds14
import Derived.Test.YtfkppdcfgmgllaaRows
import Derived.WalkKit
import Derived.ProofKit
import Derived.OpenShut
import Derived.ShutString
import Derived.ChangeOld
import Derived.Below
import Derived.SizedLaws
import Derived.Carry
set_option linter.unusedVariables false
namespace Go.Proofs.Ytfkppdcfgmgllaa.planEnds
open Go.ChangeShapes Go.WideShapes Go.ChangeAt Go.RowKit
open Go.ChangeMaps (open_string shut_string)
open Go.Pv Go.Proofs.Ytfkppdcfgmgllaa.PvGD1

theorem own : ownKnob Try.prog.godebug = none := by kernel_rfl
theorem laidOut : laidOutB Try.prog = true := by kernel_rfl
theorem opn3 : Opn Try.prog 3 (encInt .i64) (I64) := opn_int _ wf_i64 (by kernel_rfl)
theorem opn2 : Opn Try.prog 2 (encInt .i64) (I64) := opn_int _ wf_i64 (by kernel_rfl)
theorem opn31 : Opn Try.prog 31 epluvialref17_Item Rpluvialref17_Item := by
  intro n ims hs
  obtain ⟨m, hs⟩ := opn_struct hs Try.underlying31
  obtain ⟨a0, b0, e0, h0, a1, b1, e1, h1, a2, b2, e2, h2, a3, b3, e3, h3, e⟩ := hs
  obtain ⟨x0, y0, z0⟩ := opn3 m _ h0
  obtain ⟨x1, y1, z1⟩ := opn3 m _ h1
  obtain ⟨x2, y2, z2⟩ := opn2 m _ h2
  obtain ⟨x3, y3, z3⟩ := opn2 m _ h3
  refine ⟨⟨x0, x1, x2, x3⟩, ?_, ⟨z0, z1, z2, z3⟩⟩
  subst e; subst e3; subst e2; subst e1; subst e0
  subst y0; subst y1; subst y2; subst y3
  rfl
theorem opn22 : Opn Try.prog 22 (encRow epluvialref17_Item) (fun (x : List Tpluvialref17_Item) => x.length ≤ maxLen ∧ ∀ y ∈ x, Rpluvialref17_Item y) := opn_slice opn31 (by kernel_rfl)
set_option maxRecDepth 100000 in
theorem lifted (os : Os) (started : os.Started) (H : Type) (enc : TypeId × Value → H) :
    ReturnsInHanded {} Try.checked os 7 .any (Rows.planEndsSpec.pre6 enc Try.prog Try.f7 Rows.planEndsRow.domain false) (Rows.planEndsSpec.post enc Try.prog Try.f7 false true false false) := by
  refine returnsInHanded_of_change_sized (C := Try.checked) own started (by kernel_rfl) Try.func7
    (ChangeSpec.witness6 (enc := enc) (C := Try.checked) false ⟨#[], #[.slice none 0 0], []⟩ 8 (by kernel_rfl) (by kernel_rfl) (by kernel_rfl) (by kernel_rfl)) ?_
  intro W base args ds gs before hval0 hW hcnd hsz0 _
  have hval : ∀ (j : Nat) t v, Try.f7.params[j]? = some t → args[j]? = some v → Value.okWide Try.prog W .any base t v := hval0
  have hW' := hW
  obtain ⟨p, q, hA0, hV, rfl, hfz, hnd⟩ := hW
  have hA : DataW.TrodAll enc Try.prog W 0 (fun _ => true) true Try.f7.params.toList args.toList ds p := hA0
  rw [Try.params7] at hA hval
  obtain ⟨v0, vs0, d0, ds0, p0, q0, hargs, rfl, rfl, h0, r0⟩ := trodAll_cons hA
  obtain ⟨rfl, rfl, rfl⟩ := trodAll_nil r0
  obtain rfl : args = #[v0] := by cases args; simp_all
  obtain ⟨rfl, rfl⟩ := trodVars_none hV
  have lt0 : ∀ x ∈ p0, x.block < W.heap.size := by obtain ⟨m, hm⟩ := h0; exact DataW.trod_lt m _ _ _ hm
  obtain ⟨ims0, rep0, sh0⟩ := arg_open (b := false) 4 (hval 0 22 v0 rfl rfl) (by kernel_rfl) (by kernel_rfl) h0 (fun _ => none)
  obtain ⟨a0, rfl, R0⟩ := opn22 _ _ sh0
  clear hA0 hval0 hsz0
  refine ((f_pluviallaw17_PlanEnds.ok a0 true (planEnds_R a0 R0)).law (w := W) (vs := [v0]) rfl (fun j h h' => ?_)).mono fun e W' ⟨he, bel⟩ => ?_
  · match j with
    | 0 => exact rep0
    | j + 1 => simp at h <;> omega
  · subst he
    exact ⟨_, rfl, _, _, _, [], _, [], hW', trodAll_mk1 (shut_bool Try.underlying4 _), (trodAll_cons_mk (Below.trod laidOut (by kernel_rfl) (of_decide_eq_true (by kernel_rfl)) h0 bel lt0) trodAll_mk0), rfl, bel.frame _, fun h => by cases h⟩

theorem over : Rows.planEndsRow.holds Try.pinned (OpenSpec.ofChange Rows.planEndsSpec) :=
  OpenClaim.holds_of_wide 7 Try.f7 rfl rfl rfl rfl rfl rfl rfl ⟨rfl, rfl, rfl, rfl, rfl⟩ rfl rfl rfl rfl rfl (by kernel_rfl) Try.func7 (by kernel_rfl)
    (of_decide_eq_true (by kernel_rfl)) (by unfold Func.isWrapper; first | (rw [if_pos (by decide +kernel)]; kernel_rfl) | (rw [if_neg (by decide +kernel)]; exact ⟨rfl, rfl⟩))
    (fun os started H enc _ => lifted os started H enc)
theorem proved : Rows.PlanEndsSaid := over
#print axioms proved
end Go.Proofs.Ytfkppdcfgmgllaa.planEnds
namespace Go.Proofs.Ytfkppdcfgmgllaa
theorem planEnds_holds : Rows.PlanEndsSaid := planEnds.proved
#print axioms planEnds_holds
end Go.Proofs.Ytfkppdcfgmgllaa
