
/-
Whatever DiskNil is handed, the call returns true and leaves its arguments as they were: proved for every input, with no condition beside the row's own.
-/
import Derived.Test.YtejakiofcmlohaaPxDiskNil07
import Derived.Test.YtejakiofcmlohaaRows
import Derived.WalkKit
import Derived.ProofKit
import Derived.OpenShut
import Derived.ShutString
import Derived.ChangeOld
import Derived.Below
import Derived.SizedLaws
import Derived.Carry
set_option linter.unusedVariables false
namespace Go.Proofs.Ytejakiofcmlohaa.diskNil
open Go.ChangeShapes Go.WideShapes Go.ChangeAt Go.RowKit
open Go.ChangeMaps (open_string shut_string)
open Go.Pv Go.Proofs.Ytejakiofcmlohaa.PvGN

theorem own : ownKnob Try.prog.godebug = none := by kernel_rfl
theorem laidOut : laidOutB Try.prog = true := by kernel_rfl
theorem opn9 : Opn Try.prog 9 Pv.encStr (fun s => s.size ≤ maxLen) := opn_str (by kernel_rfl)
theorem opn3 : Opn Try.prog 3 (encInt .i64) (I64) := opn_int _ wf_i64 (by kernel_rfl)
set_option maxRecDepth 100000 in
theorem lifted (os : Os) (started : os.Started) (H : Type) (enc : TypeId × Value → H) :
    ReturnsInHanded {} Try.checked os 5 .any (Rows.diskNilSpec.pre6 enc Try.prog Try.f5 Rows.diskNilRow.domain false) (Rows.diskNilSpec.post enc Try.prog Try.f5 false true false false) := by
  refine returnsInHanded_of_change_sized (C := Try.checked) own started (by kernel_rfl) Try.func5
    (ChangeSpec.witness6 (enc := enc) (C := Try.checked) false ⟨#[], #[.string ByteArray.empty, .int .i64 0], []⟩ 8 (by kernel_rfl) (by kernel_rfl) (by kernel_rfl) (by kernel_rfl)) ?_
  intro W base args ds gs before hval0 hW hcnd hsz0 _
  have hval : ∀ (j : Nat) t v, Try.f5.params[j]? = some t → args[j]? = some v → Value.okWide Try.prog W .any base t v := hval0
  have hW' := hW
  obtain ⟨p, q, hA0, hV, rfl, hfz, hnd⟩ := hW
  have hA : DataW.TrodAll enc Try.prog W 0 (fun _ => true) true Try.f5.params.toList args.toList ds p := hA0
  rw [Try.params5] at hA hval
  obtain ⟨v0, vs0, d0, ds0, p0, q0, hargs, rfl, rfl, h0, r0⟩ := trodAll_cons hA
  obtain ⟨v1, vs1, d1, ds1, p1, q1, rfl, rfl, rfl, h1, r1⟩ := trodAll_cons r0
  obtain ⟨rfl, rfl, rfl⟩ := trodAll_nil r1
  obtain rfl : args = #[v0, v1] := by cases args; simp_all
  obtain ⟨rfl, rfl⟩ := trodVars_none hV
  have lt0 : ∀ x ∈ p0, x.block < W.heap.size := by obtain ⟨m, hm⟩ := h0; exact DataW.trod_lt m _ _ _ hm
  obtain ⟨ims0, rep0, sh0⟩ := arg_open (b := false) 2 (hval 0 9 v0 rfl rfl) (by kernel_rfl) (by kernel_rfl) h0 (fun _ => none)
  obtain ⟨a0, rfl, R0⟩ := opn9 _ _ sh0
  have lt1 : ∀ x ∈ p1, x.block < W.heap.size := by obtain ⟨m, hm⟩ := h1; exact DataW.trod_lt m _ _ _ hm
  obtain ⟨ims1, rep1, sh1⟩ := arg_open (b := false) 2 (hval 1 3 v1 rfl rfl) (by kernel_rfl) (by kernel_rfl) h1 (fun _ => none)
  obtain ⟨a1, rfl, R1⟩ := opn3 _ _ sh1
  clear hA0 hval0 hsz0
  refine ((f_pluviallaw13_DiskNil.ok a0 a1 true (diskNil_R a0 a1 R0 R1)).law (w := W) (vs := [v0, v1]) rfl (fun j h h' => ?_)).mono fun e W' ⟨he, bel⟩ => ?_
  · match j with
    | 0 => exact rep0
    | 1 => exact rep1
    | j + 2 => simp at h <;> omega
  · subst he
    exact ⟨_, rfl, _, _, _, [], _, [], hW', trodAll_mk1 (shut_bool Try.underlying4 _), (trodAll_cons_mk (Below.trod laidOut (by kernel_rfl) (of_decide_eq_true (by kernel_rfl)) h0 bel lt0) (trodAll_cons_mk (Below.trod laidOut (by kernel_rfl) (of_decide_eq_true (by kernel_rfl)) h1 bel lt1) trodAll_mk0)), rfl, bel.frame _, fun h => by cases h⟩

theorem over : Rows.diskNilRow.holds Try.pinned (OpenSpec.ofChange Rows.diskNilSpec) :=
  OpenClaim.holds_of_wide 5 Try.f5 rfl rfl rfl rfl rfl rfl rfl ⟨rfl, rfl, rfl, rfl, rfl⟩ rfl rfl rfl rfl rfl (by kernel_rfl) Try.func5 (by kernel_rfl)
    (of_decide_eq_true (by kernel_rfl)) (by unfold Func.isWrapper; first | (rw [if_pos (by decide +kernel)]; kernel_rfl) | (rw [if_neg (by decide +kernel)]; exact ⟨rfl, rfl⟩))
    (fun os started H enc _ => lifted os started H enc)
theorem proved : Rows.DiskNilSaid := over
#print axioms proved
end Go.Proofs.Ytejakiofcmlohaa.diskNil
namespace Go.Proofs.Ytejakiofcmlohaa
theorem diskNil_holds : Rows.DiskNilSaid := diskNil.proved
#print axioms diskNil_holds
end Go.Proofs.Ytejakiofcmlohaa
