
/-
Whatever HistSame is handed, the call returns true and leaves its arguments as they were: proved for every input, with no condition beside the row's own.
-/
import Derived.Test.YtjfhobijgkccdaaPxHistSame13
import Derived.Test.YtjfhobijgkccdaaRows
import Derived.WalkKit
import Derived.ProofKit
import Derived.OpenShut
import Derived.ShutString
import Derived.ChangeOld
import Derived.Below
import Derived.SizedLaws
import Derived.Carry
set_option linter.unusedVariables false
namespace Go.Proofs.Ytjfhobijgkccdaa.histSame
open Go.ChangeShapes Go.WideShapes Go.ChangeAt Go.RowKit
open Go.ChangeMaps (open_string shut_string)
open Go.Pv Go.Proofs.Ytjfhobijgkccdaa.PvGA3

theorem own : ownKnob Try.prog.godebug = none := by kernel_rfl
theorem laidOut : laidOutB Try.prog = true := by kernel_rfl
theorem opn3 : Opn Try.prog 3 (encInt .i64) (I64) := opn_int _ wf_i64 (by kernel_rfl)
theorem opn27 : Opn Try.prog 27 (encInt .u64) (U64) := opn_int _ wf_u64 (by kernel_rfl)
theorem opn2 : Opn Try.prog 2 (encInt .i64) (I64) := opn_int _ wf_i64 (by kernel_rfl)
theorem opn36 : Opn Try.prog 36 eBucket RBucket := by
  intro n ims hs
  obtain ⟨m, hs⟩ := opn_struct hs Try.underlying36
  obtain ⟨a0, b0, e0, h0, a1, b1, e1, h1, e⟩ := hs
  obtain ⟨x0, y0, z0⟩ := opn3 m _ h0
  obtain ⟨x1, y1, z1⟩ := opn27 m _ h1
  refine ⟨⟨x0, x1⟩, ?_, ⟨z0, z1⟩⟩
  subst e; subst e1; subst e0
  subst y0; subst y1
  rfl
theorem opn28 : Opn Try.prog 28 (encRow eBucket) (fun (x : List TBucket) => x.length ≤ maxLen ∧ ∀ y ∈ x, RBucket y) := opn_slice opn36 (by kernel_rfl)
theorem opn30 : Opn Try.prog 30 eHist RHist := by
  intro n ims hs
  obtain ⟨m, hs⟩ := opn_struct hs Try.underlying30
  obtain ⟨a0, b0, e0, h0, a1, b1, e1, h1, a2, b2, e2, h2, a3, b3, e3, h3, a4, b4, e4, h4, a5, b5, e5, h5, a6, b6, e6, h6, a7, b7, e7, h7, e⟩ := hs
  obtain ⟨x0, y0, z0⟩ := opn3 m _ h0
  obtain ⟨x1, y1, z1⟩ := opn3 m _ h1
  obtain ⟨x2, y2, z2⟩ := opn3 m _ h2
  obtain ⟨x3, y3, z3⟩ := opn27 m _ h3
  obtain ⟨x4, y4, z4⟩ := opn27 m _ h4
  obtain ⟨x5, y5, z5⟩ := opn2 m _ h5
  obtain ⟨x6, y6, z6⟩ := opn28 m _ h6
  obtain ⟨x7, y7, z7⟩ := opn28 m _ h7
  refine ⟨⟨x0, x1, x2, x3, x4, x5, x6, x7⟩, ?_, ⟨z0, z1, z2, z3, z4, z5, z6, z7⟩⟩
  subst e; subst e7; subst e6; subst e5; subst e4; subst e3; subst e2; subst e1; subst e0
  subst y0; subst y1; subst y2; subst y3; subst y4; subst y5; subst y6; subst y7
  rfl
set_option maxRecDepth 100000 in
theorem lifted (os : Os) (started : os.Started) (H : Type) (enc : TypeId × Value → H) :
    ReturnsInHanded {} Try.checked os 6 .any (Rows.histSameSpec.pre6 enc Try.prog Try.f6 Rows.histSameRow.domain false) (Rows.histSameSpec.post enc Try.prog Try.f6 false true false false) := by
  refine returnsInHanded_of_change_sized (C := Try.checked) own started (by kernel_rfl) Try.func6
    (ChangeSpec.witness6 (enc := enc) (C := Try.checked) false ⟨#[], #[.agg #[.int .i64 0, .int .i64 0, .int .i64 0, .int .u64 0, .int .u64 0, .int .i64 0, .slice none 0 0, .slice none 0 0], .agg #[.int .i64 0, .int .i64 0, .int .i64 0, .int .u64 0, .int .u64 0, .int .i64 0, .slice none 0 0, .slice none 0 0]], []⟩ 8 (by kernel_rfl) (by kernel_rfl) (by kernel_rfl) (by kernel_rfl)) ?_
  intro W base args ds gs before hval0 hW hcnd hsz0 _
  have hval : ∀ (j : Nat) t v, Try.f6.params[j]? = some t → args[j]? = some v → Value.okWide Try.prog W .any base t v := hval0
  have hW' := hW
  obtain ⟨p, q, hA0, hV, rfl, hfz, hnd⟩ := hW
  have hA : DataW.TrodAll enc Try.prog W 0 (fun _ => true) true Try.f6.params.toList args.toList ds p := hA0
  rw [Try.params6] at hA hval
  obtain ⟨v0, vs0, d0, ds0, p0, q0, hargs, rfl, rfl, h0, r0⟩ := trodAll_cons hA
  obtain ⟨v1, vs1, d1, ds1, p1, q1, rfl, rfl, rfl, h1, r1⟩ := trodAll_cons r0
  obtain ⟨rfl, rfl, rfl⟩ := trodAll_nil r1
  obtain rfl : args = #[v0, v1] := by cases args; simp_all
  obtain ⟨rfl, rfl⟩ := trodVars_none hV
  have lt0 : ∀ x ∈ p0, x.block < W.heap.size := by obtain ⟨m, hm⟩ := h0; exact DataW.trod_lt m _ _ _ hm
  obtain ⟨ims0, rep0, sh0⟩ := arg_open (b := true) 5 (hval 0 30 v0 rfl rfl) (by kernel_rfl) (by kernel_rfl) h0 (fun _ => none)
  obtain ⟨a0, rfl, R0⟩ := opn30 _ _ sh0
  have lt1 : ∀ x ∈ p1, x.block < W.heap.size := by obtain ⟨m, hm⟩ := h1; exact DataW.trod_lt m _ _ _ hm
  obtain ⟨ims1, rep1, sh1⟩ := arg_open (b := true) 5 (hval 1 30 v1 rfl rfl) (by kernel_rfl) (by kernel_rfl) h1 (fun _ => none)
  obtain ⟨a1, rfl, R1⟩ := opn30 _ _ sh1
  clear hA0 hval0 hsz0
  refine ((f_pluviallaw05_HistSame.ok a0 a1 true (histSame_R a0 a1 R0 R1)).law (w := W) (vs := [v0, v1]) rfl (fun j h h' => ?_)).mono fun e W' ⟨he, bel⟩ => ?_
  · match j with
    | 0 => exact rep0
    | 1 => exact rep1
    | j + 2 => simp at h <;> omega
  · subst he
    exact ⟨_, rfl, _, _, _, [], _, [], hW', trodAll_mk1 (shut_bool Try.underlying4 _), (trodAll_cons_mk (Below.trod laidOut (by kernel_rfl) (of_decide_eq_true (by kernel_rfl)) h0 bel lt0) (trodAll_cons_mk (Below.trod laidOut (by kernel_rfl) (of_decide_eq_true (by kernel_rfl)) h1 bel lt1) trodAll_mk0)), rfl, bel.frame _, fun h => by cases h⟩

theorem over : Rows.histSameRow.holds Try.pinned (OpenSpec.ofChange Rows.histSameSpec) :=
  OpenClaim.holds_of_wide 6 Try.f6 rfl rfl rfl rfl rfl rfl rfl ⟨rfl, rfl, rfl, rfl, rfl⟩ rfl rfl rfl rfl rfl (by kernel_rfl) Try.func6 (by kernel_rfl)
    (of_decide_eq_true (by kernel_rfl)) (by unfold Func.isWrapper; first | (rw [if_pos (by decide +kernel)]; kernel_rfl) | (rw [if_neg (by decide +kernel)]; exact ⟨rfl, rfl⟩))
    (fun os started H enc _ => lifted os started H enc)
theorem proved : Rows.HistSameSaid := over
#print axioms proved
end Go.Proofs.Ytjfhobijgkccdaa.histSame
namespace Go.Proofs.Ytjfhobijgkccdaa
theorem histSame_holds : Rows.HistSameSaid := histSame.proved
#print axioms histSame_holds
end Go.Proofs.Ytjfhobijgkccdaa
