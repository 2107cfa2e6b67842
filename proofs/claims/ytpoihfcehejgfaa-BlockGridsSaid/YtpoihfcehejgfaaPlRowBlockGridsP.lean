
/-
Whatever BlockGrids is handed, the call returns true and leaves its arguments as they were: proved for every input, with no condition beside the row's own.
-/
import Derived.Test.YtpoihfcehejgfaaPxBlockGrids09
import Derived.Test.YtpoihfcehejgfaaRows
import Derived.WalkKit
import Derived.ProofKit
import Derived.OpenShut
import Derived.ShutString
import Derived.ChangeOld
import Derived.Below
import Derived.SizedLaws
import Derived.Carry
set_option linter.unusedVariables false
namespace Go.Proofs.Ytpoihfcehejgfaa.blockGrids
open Go.ChangeShapes Go.WideShapes Go.ChangeAt Go.RowKit
open Go.ChangeMaps (open_string shut_string)
open Go.Pv Go.Proofs.Ytpoihfcehejgfaa.PvGP

theorem own : ownKnob Try.prog.godebug = none := by kernel_rfl
theorem laidOut : laidOutB Try.prog = true := by kernel_rfl
theorem opn22 : Opn Try.prog 22 (Z19 .u32) (Rng 0 4294967296) := opn_int _ wf_u32 (by kernel_rfl)
theorem opn5 : Opn Try.prog 5 (Z19 .u8) (Rng 0 256) := opn_int _ wf_u8 (by kernel_rfl)
set_option maxRecDepth 100000 in
theorem lifted (os : Os) (started : os.Started) (H : Type) (enc : TypeId × Value → H) :
    ReturnsInHanded {} Try.checked os 3 .any (Rows.blockGridsSpec.pre6 enc Try.prog Try.f3 Rows.blockGridsRow.domain false) (Rows.blockGridsSpec.post enc Try.prog Try.f3 false true false false) := by
  refine returnsInHanded_of_change_sized (C := Try.checked) own started (by kernel_rfl) Try.func3
    (ChangeSpec.witness6 (enc := enc) (C := Try.checked) false ⟨#[], #[.int .u32 0, .int .u8 0], []⟩ 8 (by kernel_rfl) (by kernel_rfl) (by kernel_rfl) (by kernel_rfl)) ?_
  intro W base args ds gs before hval0 hW hcnd hsz0 _
  have hval : ∀ (j : Nat) t v, Try.f3.params[j]? = some t → args[j]? = some v → Value.okWide Try.prog W .any base t v := hval0
  have hW' := hW
  obtain ⟨p, q, hA0, hV, rfl, hfz, hnd⟩ := hW
  have hA : DataW.TrodAll enc Try.prog W 0 (fun _ => true) true Try.f3.params.toList args.toList ds p := hA0
  rw [Try.params3] at hA hval
  obtain ⟨v0, vs0, d0, ds0, p0, q0, hargs, rfl, rfl, h0, r0⟩ := trodAll_cons hA
  obtain ⟨v1, vs1, d1, ds1, p1, q1, rfl, rfl, rfl, h1, r1⟩ := trodAll_cons r0
  obtain ⟨rfl, rfl, rfl⟩ := trodAll_nil r1
  obtain rfl : args = #[v0, v1] := by cases args; simp_all
  obtain ⟨rfl, rfl⟩ := trodVars_none hV
  have lt0 : ∀ x ∈ p0, x.block < W.heap.size := by obtain ⟨m, hm⟩ := h0; exact DataW.trod_lt m _ _ _ hm
  obtain ⟨ims0, rep0, sh0⟩ := arg_open (b := false) 2 (hval 0 22 v0 rfl rfl) (by kernel_rfl) (by kernel_rfl) h0 (fun _ => none)
  obtain ⟨a0, rfl, R0⟩ := opn22 _ _ sh0
  have lt1 : ∀ x ∈ p1, x.block < W.heap.size := by obtain ⟨m, hm⟩ := h1; exact DataW.trod_lt m _ _ _ hm
  obtain ⟨ims1, rep1, sh1⟩ := arg_open (b := false) 2 (hval 1 5 v1 rfl rfl) (by kernel_rfl) (by kernel_rfl) h1 (fun _ => none)
  obtain ⟨a1, rfl, R1⟩ := opn5 _ _ sh1
  clear hA0 hval0 hsz0
  refine ((Z0r.ok a0 a1 true (blockGrids_R a0 a1 R0 R1)).law (w := W) (vs := [v0, v1]) rfl (fun j h h' => ?_)).mono fun e W' ⟨he, bel⟩ => ?_
  · match j with
    | 0 => exact rep0
    | 1 => exact rep1
    | j + 2 => simp at h <;> omega
  · subst he
    exact ⟨_, rfl, _, _, _, [], _, [], hW', trodAll_mk1 (shut_bool Try.underlying4 _), (trodAll_cons_mk (Below.trod laidOut (by kernel_rfl) (of_decide_eq_true (by kernel_rfl)) h0 bel lt0) (trodAll_cons_mk (Below.trod laidOut (by kernel_rfl) (of_decide_eq_true (by kernel_rfl)) h1 bel lt1) trodAll_mk0)), rfl, bel.frame _, fun h => by cases h⟩

theorem over : Rows.blockGridsRow.holds Try.pinned (OpenSpec.ofChange Rows.blockGridsSpec) :=
  OpenClaim.holds_of_wide 3 Try.f3 rfl rfl rfl rfl rfl rfl rfl ⟨rfl, rfl, rfl, rfl, rfl⟩ rfl rfl rfl rfl rfl (by kernel_rfl) Try.func3 (by kernel_rfl)
    (of_decide_eq_true (by kernel_rfl)) (by unfold Func.isWrapper; first | (rw [if_pos (by decide +kernel)]; kernel_rfl) | (rw [if_neg (by decide +kernel)]; exact ⟨rfl, rfl⟩))
    (fun os started H enc _ => lifted os started H enc)
theorem proved : Rows.BlockGridsSaid := over
#print axioms proved
end Go.Proofs.Ytpoihfcehejgfaa.blockGrids
namespace Go.Proofs.Ytpoihfcehejgfaa
theorem blockGrids_holds : Rows.BlockGridsSaid := blockGrids.proved
#print axioms blockGrids_holds
end Go.Proofs.Ytpoihfcehejgfaa
