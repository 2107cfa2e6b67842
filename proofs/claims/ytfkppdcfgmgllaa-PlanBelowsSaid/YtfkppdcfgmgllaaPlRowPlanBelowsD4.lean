
/-
Whatever PlanBelows is handed, the call returns true and leaves its arguments as they were: proved for every input, with no condition beside the row's own.
-/
import Derived.Test.YtfkppdcfgmgllaaPxPlanBelows14
import Derived.Test.YtfkppdcfgmgllaaRows
import Derived.WalkKit
import Derived.ProofKit
import Derived.OpenShut
import Derived.ShutString
import Derived.ChangeOld
import Derived.Below
import Derived.SizedLaws
import Derived.Carry
set_option linter.unusedVariables false
namespace Go.Proofs.Ytfkppdcfgmgllaa.planBelows
open Go.ChangeShapes Go.WideShapes Go.ChangeAt Go.RowKit
open Go.ChangeMaps (open_string shut_string)
open Go.Pv Go.Proofs.Ytfkppdcfgmgllaa.PvGD4

theorem own : ownKnob Try.prog.godebug = none := by kernel_rfl
theorem laidOut : laidOutB Try.prog = true := by kernel_rfl
theorem opn3 : Opn Try.prog 3 (encInt .i64) (I64) := opn_int _ wf_i64 (by kernel_rfl)
theorem opn2 : Opn Try.prog 2 (encInt .i64) (I64) := opn_int _ wf_i64 (by kernel_rfl)
theorem opn31 : Opn Try.prog 31 epluvialref17_Item Rpluvialref17_Item := by
  intro n ims hs
  obtain ⟨m, hs⟩ := opn_struct hs Try.underlying31
  obtain ⟨a0, b0, e0, h0, a1, b1, e1, h1, a2, b2, e2, h2, a3, b3, e3, h3, e⟩ := hs
  obtain ⟨x0, y0, z0⟩ := opn3 m _ h0
  obtain ⟨x1, y1, z1⟩ := opn3 m _ h1
  obtain ⟨x2, y2, z2⟩ := opn2 m _ h2
  obtain ⟨x3, y3, z3⟩ := opn2 m _ h3
  refine ⟨⟨x0, x1, x2, x3⟩, ?_, ⟨z0, z1, z2, z3⟩⟩
  subst e; subst e3; subst e2; subst e1; subst e0
  subst y0; subst y1; subst y2; subst y3
  rfl
theorem opn22 : Opn Try.prog 22 (encRow epluvialref17_Item) (fun (x : List Tpluvialref17_Item) => x.length ≤ maxLen ∧ ∀ y ∈ x, Rpluvialref17_Item y) := opn_slice opn31 (by kernel_rfl)
set_option maxRecDepth 100000 in
theorem lifted (os : Os) (started : os.Started) (H : Type) (enc : TypeId × Value → H) :
    ReturnsInHanded {} Try.checked os 3 .any (Rows.planBelowsSpec.pre6 enc Try.prog Try.f3 Rows.planBelowsRow.domain false) (Rows.planBelowsSpec.post enc Try.prog Try.f3 false true false false) := by
  refine returnsInHanded_of_change_sized (C := Try.checked) own started (by kernel_rfl) Try.func3
    (ChangeSpec.witness6 (enc := enc) (C := Try.checked) false ⟨#[], #[.slice none 0 0, .int .i64 0, .int .i64 0], []⟩ 8 (by kernel_rfl) (by kernel_rfl) (by kernel_rfl) (by kernel_rfl)) ?_
  intro W base args ds gs before hval0 hW hcnd hsz0 _
  have hval : ∀ (j : Nat) t v, Try.f3.params[j]? = some t → args[j]? = some v → Value.okWide Try.prog W .any base t v := hval0
  have hW' := hW
  obtain ⟨p, q, hA0, hV, rfl, hfz, hnd⟩ := hW
  have hA : DataW.TrodAll enc Try.prog W 0 (fun _ => true) true Try.f3.params.toList args.toList ds p := hA0
  rw [Try.params3] at hA hval
  obtain ⟨v0, vs0, d0, ds0, p0, q0, hargs, rfl, rfl, h0, r0⟩ := trodAll_cons hA
  obtain ⟨v1, vs1, d1, ds1, p1, q1, rfl, rfl, rfl, h1, r1⟩ := trodAll_cons r0
  obtain ⟨v2, vs2, d2, ds2, p2, q2, rfl, rfl, rfl, h2, r2⟩ := trodAll_cons r1
  obtain ⟨rfl, rfl, rfl⟩ := trodAll_nil r2
  obtain rfl : args = #[v0, v1, v2] := by cases args; simp_all
  obtain ⟨rfl, rfl⟩ := trodVars_none hV
  have lt0 : ∀ x ∈ p0, x.block < W.heap.size := by obtain ⟨m, hm⟩ := h0; exact DataW.trod_lt m _ _ _ hm
  obtain ⟨ims0, rep0, sh0⟩ := arg_open (b := false) 4 (hval 0 22 v0 rfl rfl) (by kernel_rfl) (by kernel_rfl) h0 (fun _ => none)
  obtain ⟨a0, rfl, R0⟩ := opn22 _ _ sh0
  have lt1 : ∀ x ∈ p1, x.block < W.heap.size := by obtain ⟨m, hm⟩ := h1; exact DataW.trod_lt m _ _ _ hm
  obtain ⟨ims1, rep1, sh1⟩ := arg_open (b := false) 2 (hval 1 2 v1 rfl rfl) (by kernel_rfl) (by kernel_rfl) h1 (fun _ => none)
  obtain ⟨a1, rfl, R1⟩ := opn2 _ _ sh1
  have lt2 : ∀ x ∈ p2, x.block < W.heap.size := by obtain ⟨m, hm⟩ := h2; exact DataW.trod_lt m _ _ _ hm
  obtain ⟨ims2, rep2, sh2⟩ := arg_open (b := false) 2 (hval 2 2 v2 rfl rfl) (by kernel_rfl) (by kernel_rfl) h2 (fun _ => none)
  obtain ⟨a2, rfl, R2⟩ := opn2 _ _ sh2
  clear hA0 hval0 hsz0
  refine ((f_pluviallaw17_PlanBelows.ok a0 a1 a2 true (planBelows_R a0 a1 a2 R0 R1 R2)).law (w := W) (vs := [v0, v1, v2]) rfl (fun j h h' => ?_)).mono fun e W' ⟨he, bel⟩ => ?_
  · match j with
    | 0 => exact rep0
    | 1 => exact rep1
    | 2 => exact rep2
    | j + 3 => simp at h <;> omega
  · subst he
    exact ⟨_, rfl, _, _, _, [], _, [], hW', trodAll_mk1 (shut_bool Try.underlying4 _), (trodAll_cons_mk (Below.trod laidOut (by kernel_rfl) (of_decide_eq_true (by kernel_rfl)) h0 bel lt0) (trodAll_cons_mk (Below.trod laidOut (by kernel_rfl) (of_decide_eq_true (by kernel_rfl)) h1 bel lt1) (trodAll_cons_mk (Below.trod laidOut (by kernel_rfl) (of_decide_eq_true (by kernel_rfl)) h2 bel lt2) trodAll_mk0))), rfl, bel.frame _, fun h => by cases h⟩

theorem over : Rows.planBelowsRow.holds Try.pinned (OpenSpec.ofChange Rows.planBelowsSpec) :=
  OpenClaim.holds_of_wide 3 Try.f3 rfl rfl rfl rfl rfl rfl rfl ⟨rfl, rfl, rfl, rfl, rfl⟩ rfl rfl rfl rfl rfl (by kernel_rfl) Try.func3 (by kernel_rfl)
    (of_decide_eq_true (by kernel_rfl)) (by unfold Func.isWrapper; first | (rw [if_pos (by decide +kernel)]; kernel_rfl) | (rw [if_neg (by decide +kernel)]; exact ⟨rfl, rfl⟩))
    (fun os started H enc _ => lifted os started H enc)
theorem proved : Rows.PlanBelowsSaid := over
#print axioms proved
end Go.Proofs.Ytfkppdcfgmgllaa.planBelows
namespace Go.Proofs.Ytfkppdcfgmgllaa
theorem planBelows_holds : Rows.PlanBelowsSaid := planBelows.proved
#print axioms planBelows_holds
end Go.Proofs.Ytfkppdcfgmgllaa
