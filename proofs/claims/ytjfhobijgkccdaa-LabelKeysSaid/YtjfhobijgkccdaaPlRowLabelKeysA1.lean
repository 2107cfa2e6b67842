
/-
Whatever LabelKeys is handed, the call returns true and leaves its arguments as they were: proved for every input, with no condition beside the row's own.
-/
import Derived.Test.YtjfhobijgkccdaaPxLabelKeys12
import Derived.Test.YtjfhobijgkccdaaRows
import Derived.WalkKit
import Derived.ProofKit
import Derived.OpenShut
import Derived.ShutString
import Derived.ChangeOld
import Derived.Below
import Derived.SizedLaws
import Derived.Carry
set_option linter.unusedVariables false
namespace Go.Proofs.Ytjfhobijgkccdaa.labelKeys
open Go.ChangeShapes Go.WideShapes Go.ChangeAt Go.RowKit
open Go.ChangeMaps (open_string shut_string)
open Go.Pv Go.Proofs.Ytjfhobijgkccdaa.PvGA1

theorem own : ownKnob Try.prog.godebug = none := by kernel_rfl
theorem laidOut : laidOutB Try.prog = true := by kernel_rfl
theorem opn9 : Opn Try.prog 9 encStr (fun s => s.size ≤ maxLen) := opn_str (by kernel_rfl)
theorem opn67 : Opn Try.prog 67 eLabel RLabel := by
  intro n ims hs
  obtain ⟨m, hs⟩ := opn_struct hs Try.underlying67
  obtain ⟨a0, b0, e0, h0, a1, b1, e1, h1, e⟩ := hs
  obtain ⟨x0, y0, z0⟩ := opn9 m _ h0
  obtain ⟨x1, y1, z1⟩ := opn9 m _ h1
  refine ⟨⟨x0, x1⟩, ?_, ⟨z0, z1⟩⟩
  subst e; subst e1; subst e0
  subst y0; subst y1
  rfl
theorem opn40 : Opn Try.prog 40 (encRow eLabel) (fun (x : List TLabel) => x.length ≤ maxLen ∧ ∀ y ∈ x, RLabel y) := opn_slice opn67 (by kernel_rfl)
theorem opn5 : Opn Try.prog 5 (encInt .u8) (Rng 0 256) := opn_int _ wf_u8 (by kernel_rfl)
set_option maxRecDepth 100000 in
theorem lifted (os : Os) (started : os.Started) (H : Type) (enc : TypeId × Value → H) :
    ReturnsInHanded {} Try.checked os 10 .any (Rows.labelKeysSpec.pre6 enc Try.prog Try.f10 Rows.labelKeysRow.domain false) (Rows.labelKeysSpec.post enc Try.prog Try.f10 false true false false) := by
  refine returnsInHanded_of_change_sized (C := Try.checked) own started (by kernel_rfl) Try.func10
    (ChangeSpec.witness6 (enc := enc) (C := Try.checked) false ⟨#[], #[.slice none 0 0, .slice none 0 0, .int .u8 0], []⟩ 8 (by kernel_rfl) (by kernel_rfl) (by kernel_rfl) (by kernel_rfl)) ?_
  intro W base args ds gs before hval0 hW hcnd hsz0 _
  have hval : ∀ (j : Nat) t v, Try.f10.params[j]? = some t → args[j]? = some v → Value.okWide Try.prog W .any base t v := hval0
  have hW' := hW
  obtain ⟨p, q, hA0, hV, rfl, hfz, hnd⟩ := hW
  have hA : DataW.TrodAll enc Try.prog W 0 (fun _ => true) true Try.f10.params.toList args.toList ds p := hA0
  rw [Try.params10] at hA hval
  obtain ⟨v0, vs0, d0, ds0, p0, q0, hargs, rfl, rfl, h0, r0⟩ := trodAll_cons hA
  obtain ⟨v1, vs1, d1, ds1, p1, q1, rfl, rfl, rfl, h1, r1⟩ := trodAll_cons r0
  obtain ⟨v2, vs2, d2, ds2, p2, q2, rfl, rfl, rfl, h2, r2⟩ := trodAll_cons r1
  obtain ⟨rfl, rfl, rfl⟩ := trodAll_nil r2
  obtain rfl : args = #[v0, v1, v2] := by cases args; simp_all
  obtain ⟨rfl, rfl⟩ := trodVars_none hV
  have lt0 : ∀ x ∈ p0, x.block < W.heap.size := by obtain ⟨m, hm⟩ := h0; exact DataW.trod_lt m _ _ _ hm
  obtain ⟨ims0, rep0, sh0⟩ := arg_open (b := false) 4 (hval 0 40 v0 rfl rfl) (by kernel_rfl) (by kernel_rfl) h0 (fun _ => none)
  obtain ⟨a0, rfl, R0⟩ := opn40 _ _ sh0
  have lt1 : ∀ x ∈ p1, x.block < W.heap.size := by obtain ⟨m, hm⟩ := h1; exact DataW.trod_lt m _ _ _ hm
  obtain ⟨ims1, rep1, sh1⟩ := arg_open (b := false) 4 (hval 1 40 v1 rfl rfl) (by kernel_rfl) (by kernel_rfl) h1 (fun _ => none)
  obtain ⟨a1, rfl, R1⟩ := opn40 _ _ sh1
  have lt2 : ∀ x ∈ p2, x.block < W.heap.size := by obtain ⟨m, hm⟩ := h2; exact DataW.trod_lt m _ _ _ hm
  obtain ⟨ims2, rep2, sh2⟩ := arg_open (b := false) 2 (hval 2 5 v2 rfl rfl) (by kernel_rfl) (by kernel_rfl) h2 (fun _ => none)
  obtain ⟨a2, rfl, R2⟩ := opn5 _ _ sh2
  have hsz : (DataW.weightsEach Try.prog (Try.f10.params.toList ++ Rows.labelKeysSpec.plain.varTypes Try.prog) (d0 :: d1 :: d2 :: [] ++ [])).all (· ≤ reachBytes) = true := hsz0
  rw [Try.params10] at hsz
  have K0 := reach_slice (t := 40) (e := 67) 0 hsz rfl rfl (by kernel_rfl) h0 rep0
  rw [show Try.prog.bytesOf 67 = 32 by kernel_rfl, List.length_map] at K0
  have K1 := reach_slice (t := 40) (e := 67) 1 hsz rfl rfl (by kernel_rfl) h1 rep1
  rw [show Try.prog.bytesOf 67 = 32 by kernel_rfl, List.length_map] at K1
  clear hA0 hval0 hsz0 hsz
  refine ((f_pluviallaw10_LabelKeys.ok a0 a1 a2 true (labelKeys_R a0 a1 a2 R0 R1 R2 K0 K1)).law (w := W) (vs := [v0, v1, v2]) rfl (fun j h h' => ?_)).mono fun e W' ⟨he, bel⟩ => ?_
  · match j with
    | 0 => exact rep0
    | 1 => exact rep1
    | 2 => exact rep2
    | j + 3 => simp at h <;> omega
  · subst he
    exact ⟨_, rfl, _, _, _, [], _, [], hW', trodAll_mk1 (shut_bool Try.underlying4 _), (trodAll_cons_mk (Below.trod laidOut (by kernel_rfl) (of_decide_eq_true (by kernel_rfl)) h0 bel lt0) (trodAll_cons_mk (Below.trod laidOut (by kernel_rfl) (of_decide_eq_true (by kernel_rfl)) h1 bel lt1) (trodAll_cons_mk (Below.trod laidOut (by kernel_rfl) (of_decide_eq_true (by kernel_rfl)) h2 bel lt2) trodAll_mk0))), rfl, bel.frame _, fun h => by cases h⟩

theorem over : Rows.labelKeysRow.holds Try.pinned (OpenSpec.ofChange Rows.labelKeysSpec) :=
  OpenClaim.holds_of_wide 10 Try.f10 rfl rfl rfl rfl rfl rfl rfl ⟨rfl, rfl, rfl, rfl, rfl⟩ rfl rfl rfl rfl rfl (by kernel_rfl) Try.func10 (by kernel_rfl)
    (of_decide_eq_true (by kernel_rfl)) (by unfold Func.isWrapper; first | (rw [if_pos (by decide +kernel)]; kernel_rfl) | (rw [if_neg (by decide +kernel)]; exact ⟨rfl, rfl⟩))
    (fun os started H enc _ => lifted os started H enc)
theorem proved : Rows.LabelKeysSaid := over
#print axioms proved
end Go.Proofs.Ytjfhobijgkccdaa.labelKeys
namespace Go.Proofs.Ytjfhobijgkccdaa
theorem labelKeys_holds : Rows.LabelKeysSaid := labelKeys.proved
#print axioms labelKeys_holds
end Go.Proofs.Ytjfhobijgkccdaa
