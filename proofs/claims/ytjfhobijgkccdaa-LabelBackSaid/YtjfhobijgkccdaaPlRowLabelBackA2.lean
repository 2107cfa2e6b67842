
/-
Whatever LabelBack is handed, the call returns true and leaves its arguments as they were: proved for every input, with no condition beside the row's own.
-/
import Derived.Test.YtjfhobijgkccdaaPxLabelBack11
import Derived.Test.YtjfhobijgkccdaaRows
import Derived.WalkKit
import Derived.ProofKit
import Derived.OpenShut
import Derived.ShutString
import Derived.ChangeOld
import Derived.Below
import Derived.SizedLaws
import Derived.Carry
set_option linter.unusedVariables false
namespace Go.Proofs.Ytjfhobijgkccdaa.labelBack
open Go.ChangeShapes Go.WideShapes Go.ChangeAt Go.RowKit
open Go.ChangeMaps (open_string shut_string)
open Go.Pv Go.Proofs.Ytjfhobijgkccdaa.PvGA2

theorem own : ownKnob Try.prog.godebug = none := by kernel_rfl
theorem laidOut : laidOutB Try.prog = true := by kernel_rfl
theorem opn9 : Opn Try.prog 9 encStr (fun s => s.size ≤ maxLen) := opn_str (by kernel_rfl)
theorem opn67 : Opn Try.prog 67 eLabel RLabel := by
  intro n ims hs
  obtain ⟨m, hs⟩ := opn_struct hs Try.underlying67
  obtain ⟨a0, b0, e0, h0, a1, b1, e1, h1, e⟩ := hs
  obtain ⟨x0, y0, z0⟩ := opn9 m _ h0
  obtain ⟨x1, y1, z1⟩ := opn9 m _ h1
  refine ⟨⟨x0, x1⟩, ?_, ⟨z0, z1⟩⟩
  subst e; subst e1; subst e0
  subst y0; subst y1
  rfl
theorem opn40 : Opn Try.prog 40 (encRow eLabel) (fun (x : List TLabel) => x.length ≤ maxLen ∧ ∀ y ∈ x, RLabel y) := opn_slice opn67 (by kernel_rfl)
set_option maxRecDepth 100000 in
theorem lifted (os : Os) (started : os.Started) (H : Type) (enc : TypeId × Value → H) :
    ReturnsInHanded {} Try.checked os 5 .any (Rows.labelBackSpec.pre6 enc Try.prog Try.f5 Rows.labelBackRow.domain false) (Rows.labelBackSpec.post enc Try.prog Try.f5 false true false false) := by
  refine returnsInHanded_of_change_sized (C := Try.checked) own started (by kernel_rfl) Try.func5
    (ChangeSpec.witness6 (enc := enc) (C := Try.checked) false ⟨#[], #[.slice none 0 0, .string ByteArray.empty], []⟩ 8 (by kernel_rfl) (by kernel_rfl) (by kernel_rfl) (by kernel_rfl)) ?_
  intro W base args ds gs before hval0 hW hcnd hsz0 _
  have hval : ∀ (j : Nat) t v, Try.f5.params[j]? = some t → args[j]? = some v → Value.okWide Try.prog W .any base t v := hval0
  have hW' := hW
  obtain ⟨p, q, hA0, hV, rfl, hfz, hnd⟩ := hW
  have hA : DataW.TrodAll enc Try.prog W 0 (fun _ => true) true Try.f5.params.toList args.toList ds p := hA0
  rw [Try.params5] at hA hval
  obtain ⟨v0, vs0, d0, ds0, p0, q0, hargs, rfl, rfl, h0, r0⟩ := trodAll_cons hA
  obtain ⟨v1, vs1, d1, ds1, p1, q1, rfl, rfl, rfl, h1, r1⟩ := trodAll_cons r0
  obtain ⟨rfl, rfl, rfl⟩ := trodAll_nil r1
  obtain rfl : args = #[v0, v1] := by cases args; simp_all
  obtain ⟨rfl, rfl⟩ := trodVars_none hV
  have lt0 : ∀ x ∈ p0, x.block < W.heap.size := by obtain ⟨m, hm⟩ := h0; exact DataW.trod_lt m _ _ _ hm
  obtain ⟨ims0, rep0, sh0⟩ := arg_open (b := false) 4 (hval 0 40 v0 rfl rfl) (by kernel_rfl) (by kernel_rfl) h0 (fun _ => none)
  obtain ⟨a0, rfl, R0⟩ := opn40 _ _ sh0
  have lt1 : ∀ x ∈ p1, x.block < W.heap.size := by obtain ⟨m, hm⟩ := h1; exact DataW.trod_lt m _ _ _ hm
  obtain ⟨ims1, rep1, sh1⟩ := arg_open (b := false) 2 (hval 1 9 v1 rfl rfl) (by kernel_rfl) (by kernel_rfl) h1 (fun _ => none)
  obtain ⟨a1, rfl, R1⟩ := opn9 _ _ sh1
  have hsz : (DataW.weightsEach Try.prog (Try.f5.params.toList ++ Rows.labelBackSpec.plain.varTypes Try.prog) (d0 :: d1 :: [] ++ [])).all (· ≤ reachBytes) = true := hsz0
  rw [Try.params5] at hsz
  have K0 := reach_slice (t := 40) (e := 67) 0 hsz rfl rfl (by kernel_rfl) h0 rep0
  rw [show Try.prog.bytesOf 67 = 32 by kernel_rfl, List.length_map] at K0
  clear hA0 hval0 hsz0 hsz
  refine ((f_pluviallaw10_LabelBack.ok a0 a1 true (labelBack_R a0 a1 R0 R1 K0)).law (w := W) (vs := [v0, v1]) rfl (fun j h h' => ?_)).mono fun e W' ⟨he, bel⟩ => ?_
  · match j with
    | 0 => exact rep0
    | 1 => exact rep1
    | j + 2 => simp at h <;> omega
  · subst he
    exact ⟨_, rfl, _, _, _, [], _, [], hW', trodAll_mk1 (shut_bool Try.underlying4 _), (trodAll_cons_mk (Below.trod laidOut (by kernel_rfl) (of_decide_eq_true (by kernel_rfl)) h0 bel lt0) (trodAll_cons_mk (Below.trod laidOut (by kernel_rfl) (of_decide_eq_true (by kernel_rfl)) h1 bel lt1) trodAll_mk0)), rfl, bel.frame _, fun h => by cases h⟩

theorem over : Rows.labelBackRow.holds Try.pinned (OpenSpec.ofChange Rows.labelBackSpec) :=
  OpenClaim.holds_of_wide 5 Try.f5 rfl rfl rfl rfl rfl rfl rfl ⟨rfl, rfl, rfl, rfl, rfl⟩ rfl rfl rfl rfl rfl (by kernel_rfl) Try.func5 (by kernel_rfl)
    (of_decide_eq_true (by kernel_rfl)) (by unfold Func.isWrapper; first | (rw [if_pos (by decide +kernel)]; kernel_rfl) | (rw [if_neg (by decide +kernel)]; exact ⟨rfl, rfl⟩))
    (fun os started H enc _ => lifted os started H enc)
theorem proved : Rows.LabelBackSaid := over
#print axioms proved
end Go.Proofs.Ytjfhobijgkccdaa.labelBack
namespace Go.Proofs.Ytjfhobijgkccdaa
theorem labelBack_holds : Rows.LabelBackSaid := labelBack.proved
#print axioms labelBack_holds
end Go.Proofs.Ytjfhobijgkccdaa
