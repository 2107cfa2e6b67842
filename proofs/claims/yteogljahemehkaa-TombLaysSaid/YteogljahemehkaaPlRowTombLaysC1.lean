
/-
Whatever TombLays is handed, the call returns true and leaves its arguments as they were: proved for every input, with no condition beside the row's own.
-/
import Derived.Test.YteogljahemehkaaPxTombLays19
import Derived.Test.YteogljahemehkaaRows
import Derived.WalkKit
import Derived.ProofKit
import Derived.OpenShut
import Derived.ShutString
import Derived.ChangeOld
import Derived.Below
import Derived.SizedLaws
import Derived.Carry
set_option linter.unusedVariables false
namespace Go.Proofs.Yteogljahemehkaa.tombLays
open Go.ChangeShapes Go.WideShapes Go.ChangeAt Go.RowKit
open Go.ChangeMaps (open_string shut_string)
open Go.Pv Go.Proofs.Yteogljahemehkaa.PvGC1

theorem own : ownKnob Try.prog.godebug = none := by kernel_rfl
theorem laidOut : laidOutB Try.prog = true := by kernel_rfl
theorem opn2 : Opn Try.prog 2 (encInt .i64) (I64) := opn_int _ wf_i64 (by kernel_rfl)
theorem opn63 : Opn Try.prog 63 etomb_Range Rtomb_Range := by
  intro n ims hs
  obtain ⟨m, hs⟩ := opn_struct hs Try.underlying63
  obtain ⟨a0, b0, e0, h0, a1, b1, e1, h1, e⟩ := hs
  obtain ⟨x0, y0, z0⟩ := opn2 m _ h0
  obtain ⟨x1, y1, z1⟩ := opn2 m _ h1
  refine ⟨⟨x0, x1⟩, ?_, ⟨z0, z1⟩⟩
  subst e; subst e1; subst e0
  subst y0; subst y1
  rfl
theorem opn22 : Opn Try.prog 22 (encRow etomb_Range) (fun (x : List Ttomb_Range) => x.length ≤ maxLen ∧ ∀ y ∈ x, Rtomb_Range y) := opn_slice opn63 (by kernel_rfl)
theorem opn5 : Opn Try.prog 5 (encInt .u8) (Rng 0 256) := opn_int _ wf_u8 (by kernel_rfl)
theorem opn95 : Opn Try.prog 95 (encRow (encInt .u8)) (fun (x : List Int) => x.length ≤ maxLen ∧ ∀ y ∈ x, Rng 0 256 y) := opn_slice opn5 (by kernel_rfl)
set_option maxRecDepth 100000 in
theorem lifted (os : Os) (started : os.Started) (H : Type) (enc : TypeId × Value → H) :
    ReturnsInHanded {} Try.checked os 12 .any (Rows.tombLaysSpec.pre6 enc Try.prog Try.f12 Rows.tombLaysRow.domain false) (Rows.tombLaysSpec.post enc Try.prog Try.f12 false true false false) := by
  refine returnsInHanded_of_change_sized (C := Try.checked) own started (by kernel_rfl) Try.func12
    (ChangeSpec.witness6 (enc := enc) (C := Try.checked) false ⟨#[], #[.slice none 0 0, .slice none 0 0, .int .u8 0], []⟩ 8 (by kernel_rfl) (by kernel_rfl) (by kernel_rfl) (by kernel_rfl)) ?_
  intro W base args ds gs before hval0 hW hcnd hsz0 _
  have hval : ∀ (j : Nat) t v, Try.f12.params[j]? = some t → args[j]? = some v → Value.okWide Try.prog W .any base t v := hval0
  have hW' := hW
  obtain ⟨p, q, hA0, hV, rfl, hfz, hnd⟩ := hW
  have hA : DataW.TrodAll enc Try.prog W 0 (fun _ => true) true Try.f12.params.toList args.toList ds p := hA0
  rw [Try.params12] at hA hval
  obtain ⟨v0, vs0, d0, ds0, p0, q0, hargs, rfl, rfl, h0, r0⟩ := trodAll_cons hA
  obtain ⟨v1, vs1, d1, ds1, p1, q1, rfl, rfl, rfl, h1, r1⟩ := trodAll_cons r0
  obtain ⟨v2, vs2, d2, ds2, p2, q2, rfl, rfl, rfl, h2, r2⟩ := trodAll_cons r1
  obtain ⟨rfl, rfl, rfl⟩ := trodAll_nil r2
  obtain rfl : args = #[v0, v1, v2] := by cases args; simp_all
  obtain ⟨rfl, rfl⟩ := trodVars_none hV
  have lt0 : ∀ x ∈ p0, x.block < W.heap.size := by obtain ⟨m, hm⟩ := h0; exact DataW.trod_lt m _ _ _ hm
  obtain ⟨ims0, rep0, sh0⟩ := arg_open (b := false) 4 (hval 0 22 v0 rfl rfl) (by kernel_rfl) (by kernel_rfl) h0 (fun _ => none)
  obtain ⟨a0, rfl, R0⟩ := opn22 _ _ sh0
  have lt1 : ∀ x ∈ p1, x.block < W.heap.size := by obtain ⟨m, hm⟩ := h1; exact DataW.trod_lt m _ _ _ hm
  obtain ⟨ims1, rep1, sh1⟩ := arg_open (b := false) 3 (hval 1 95 v1 rfl rfl) (by kernel_rfl) (by kernel_rfl) h1 (fun _ => none)
  obtain ⟨a1, rfl, R1⟩ := opn95 _ _ sh1
  have lt2 : ∀ x ∈ p2, x.block < W.heap.size := by obtain ⟨m, hm⟩ := h2; exact DataW.trod_lt m _ _ _ hm
  obtain ⟨ims2, rep2, sh2⟩ := arg_open (b := false) 2 (hval 2 5 v2 rfl rfl) (by kernel_rfl) (by kernel_rfl) h2 (fun _ => none)
  obtain ⟨a2, rfl, R2⟩ := opn5 _ _ sh2
  clear hA0 hval0 hsz0
  refine ((f_pluviallaw14_TombLays.ok a0 a1 a2 true (tombLays_R a0 a1 a2 R0 R1 R2)).law (w := W) (vs := [v0, v1, v2]) rfl (fun j h h' => ?_)).mono fun e W' ⟨he, bel⟩ => ?_
  · match j with
    | 0 => exact rep0
    | 1 => exact rep1
    | 2 => exact rep2
    | j + 3 => simp at h <;> omega
  · subst he
    exact ⟨_, rfl, _, _, _, [], _, [], hW', trodAll_mk1 (shut_bool Try.underlying4 _), (trodAll_cons_mk (Below.trod laidOut (by kernel_rfl) (of_decide_eq_true (by kernel_rfl)) h0 bel lt0) (trodAll_cons_mk (Below.trod laidOut (by kernel_rfl) (of_decide_eq_true (by kernel_rfl)) h1 bel lt1) (trodAll_cons_mk (Below.trod laidOut (by kernel_rfl) (of_decide_eq_true (by kernel_rfl)) h2 bel lt2) trodAll_mk0))), rfl, bel.frame _, fun h => by cases h⟩

theorem over : Rows.tombLaysRow.holds Try.pinned (OpenSpec.ofChange Rows.tombLaysSpec) :=
  OpenClaim.holds_of_wide 12 Try.f12 rfl rfl rfl rfl rfl rfl rfl ⟨rfl, rfl, rfl, rfl, rfl⟩ rfl rfl rfl rfl rfl (by kernel_rfl) Try.func12 (by kernel_rfl)
    (of_decide_eq_true (by kernel_rfl)) (by unfold Func.isWrapper; first | (rw [if_pos (by decide +kernel)]; kernel_rfl) | (rw [if_neg (by decide +kernel)]; exact ⟨rfl, rfl⟩))
    (fun os started H enc _ => lifted os started H enc)
theorem proved : Rows.TombLaysSaid := over
#print axioms proved
end Go.Proofs.Yteogljahemehkaa.tombLays
namespace Go.Proofs.Yteogljahemehkaa
theorem tombLays_holds : Rows.TombLaysSaid := tombLays.proved
#print axioms tombLays_holds
end Go.Proofs.Yteogljahemehkaa
