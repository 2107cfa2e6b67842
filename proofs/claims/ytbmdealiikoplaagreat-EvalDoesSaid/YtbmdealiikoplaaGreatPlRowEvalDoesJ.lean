
/-
Whatever EvalDoes is handed, the call returns true and leaves its arguments as they were: proved for every input, with no condition beside the row's own.
-/
import Derived.Test.YtbmdealiikoplaaGreatPxEvalDoes17
import Derived.Test.YtbmdealiikoplaaGreatRows
import Derived.WalkKit
import Derived.ProofKit
import Derived.OpenShut
import Derived.ShutString
import Derived.ChangeOld
import Derived.Below
import Derived.SizedLaws
import Derived.Carry
set_option linter.unusedVariables false
namespace Go.Proofs.YtbmdealiikoplaaGreat.evalDoes
open Go.ChangeShapes Go.WideShapes Go.ChangeAt Go.RowKit
open Go.ChangeMaps (open_string shut_string)
open Go.Pv Go.Proofs.YtbmdealiikoplaaGreat.PvGJ

theorem own : ownKnob Tryz.prog.godebug = none := by kernel_rfl
theorem laidOut : laidOutB Tryz.prog = true := by kernel_rfl
theorem opn3 : OpnW Tryz.prog 3 (encInt .i64) (I64) := opnW_int _ wf_i64 (by kernel_rfl)
theorem opn22 : OpnW Tryz.prog 22 (encInt .u64) (U64) := opnW_int _ wf_u64 (by kernel_rfl)
theorem opn2 : OpnW Tryz.prog 2 (encInt .i64) (I64) := opnW_int _ wf_i64 (by kernel_rfl)
theorem opn24 : OpnW Tryz.prog 24 er19_Ask Rr19_Ask := by
  intro n ims hs
  obtain ⟨m, hs⟩ := opnW_struct hs Tryz.underlying24
  obtain ⟨a0, b0, e0, h0, a1, b1, e1, h1, a2, b2, e2, h2, a3, b3, e3, h3, a4, b4, e4, h4, a5, b5, e5, h5, a6, b6, e6, h6, e⟩ := hs
  obtain ⟨x0, y0, z0⟩ := opn3 m _ h0
  obtain ⟨x1, y1, z1⟩ := opn22 m _ h1
  obtain ⟨x2, y2, z2⟩ := opn22 m _ h2
  obtain ⟨x3, y3, z3⟩ := opn3 m _ h3
  obtain ⟨x4, y4, z4⟩ := opn3 m _ h4
  obtain ⟨x5, y5, z5⟩ := opn2 m _ h5
  obtain ⟨x6, y6, z6⟩ := opn2 m _ h6
  refine ⟨⟨x0, x1, x2, x3, x4, x5, x6⟩, ?_, ⟨z0, z1, z2, z3, z4, z5, z6⟩⟩
  subst e; subst e6; subst e5; subst e4; subst e3; subst e2; subst e1; subst e0
  subst y0; subst y1; subst y2; subst y3; subst y4; subst y5; subst y6
  rfl
theorem opn89 : OpnW Tryz.prog 89 eBucket RBucket := by
  intro n ims hs
  obtain ⟨m, hs⟩ := opnW_struct hs Tryz.underlying89
  obtain ⟨a0, b0, e0, h0, a1, b1, e1, h1, e⟩ := hs
  obtain ⟨x0, y0, z0⟩ := opn3 m _ h0
  obtain ⟨x1, y1, z1⟩ := opn22 m _ h1
  refine ⟨⟨x0, x1⟩, ?_, ⟨z0, z1⟩⟩
  subst e; subst e1; subst e0
  subst y0; subst y1
  rfl
theorem opn30 : OpnW Tryz.prog 30 (encRow eBucket) (fun (x : List TBucket) => x.length ≤ 140737488351232 ∧ ∀ y ∈ x, RBucket y) := opnW_slice opn89 (by kernel_rfl) (by rw [show Tryz.prog.bytesOf 89 = 16 by kernel_rfl]; decide)
theorem opn32 : OpnW Tryz.prog 32 eHist RHist := by
  intro n ims hs
  obtain ⟨m, hs⟩ := opnW_struct hs Tryz.underlying32
  obtain ⟨a0, b0, e0, h0, a1, b1, e1, h1, a2, b2, e2, h2, a3, b3, e3, h3, a4, b4, e4, h4, a5, b5, e5, h5, a6, b6, e6, h6, a7, b7, e7, h7, e⟩ := hs
  obtain ⟨x0, y0, z0⟩ := opn3 m _ h0
  obtain ⟨x1, y1, z1⟩ := opn3 m _ h1
  obtain ⟨x2, y2, z2⟩ := opn3 m _ h2
  obtain ⟨x3, y3, z3⟩ := opn22 m _ h3
  obtain ⟨x4, y4, z4⟩ := opn22 m _ h4
  obtain ⟨x5, y5, z5⟩ := opn2 m _ h5
  obtain ⟨x6, y6, z6⟩ := opn30 m _ h6
  obtain ⟨x7, y7, z7⟩ := opn30 m _ h7
  refine ⟨⟨x0, x1, x2, x3, x4, x5, x6, x7⟩, ?_, ⟨z0, z1, z2, z3, z4, z5, z6, z7⟩⟩
  subst e; subst e7; subst e6; subst e5; subst e4; subst e3; subst e2; subst e1; subst e0
  subst y0; subst y1; subst y2; subst y3; subst y4; subst y5; subst y6; subst y7
  rfl
theorem opn65 : OpnW Tryz.prog 65 eSample RSample := by
  intro n ims hs
  obtain ⟨m, hs⟩ := opnW_struct hs Tryz.underlying65
  obtain ⟨a0, b0, e0, h0, a1, b1, e1, h1, e⟩ := hs
  obtain ⟨x0, y0, z0⟩ := opn2 m _ h0
  obtain ⟨x1, y1, z1⟩ := opn32 m _ h1
  refine ⟨⟨x0, x1⟩, ?_, ⟨z0, z1⟩⟩
  subst e; subst e1; subst e0
  subst y0; subst y1
  rfl
theorem opn25 : OpnW Tryz.prog 25 (encRow eSample) (fun (x : List TSample) => x.length ≤ 140737488351232 ∧ ∀ y ∈ x, RSample y) := opnW_slice opn65 (by kernel_rfl) (by rw [show Tryz.prog.bytesOf 65 = 104 by kernel_rfl]; decide)
set_option maxRecDepth 100000 in
theorem lifted (os : Os) (started : os.Started) (H : Type) (enc : TypeId × Value → H) :
    ReturnsInHanded {} Tryz.checked os 3 .any (Rows.evalDoesSpec.pre6 enc Tryz.prog Tryz.f3 Rows.evalDoesRow.domain false) (Rows.evalDoesSpec.post enc Tryz.prog Tryz.f3 false true false false) := by
  refine returnsInHanded_of_change_sized (C := Tryz.checked) own started (by kernel_rfl) Tryz.func3
    (ChangeSpec.witness6 (enc := enc) (C := Tryz.checked) false ⟨#[], #[.agg #[.int .i64 0, .int .u64 0, .int .u64 0, .int .i64 0, .int .i64 0, .int .i64 0, .int .i64 0], .slice none 0 0], []⟩ 8 (by kernel_rfl) (by kernel_rfl) (by kernel_rfl) (by kernel_rfl)) ?_
  intro W base args ds gs before hval0 hW hcnd hsz0 _
  have hval : ∀ (j : Nat) t v, Tryz.f3.params[j]? = some t → args[j]? = some v → Value.okWide Tryz.prog W .any base t v := hval0
  have hW' := hW
  obtain ⟨p, q, hA0, hV, rfl, hfz, hnd⟩ := hW
  have hA : DataW.TrodAll enc Tryz.prog W 0 (fun _ => true) true Tryz.f3.params.toList args.toList ds p := hA0
  rw [Tryz.params3] at hA hval
  obtain ⟨v0, vs0, d0, ds0, p0, q0, hargs, rfl, rfl, h0, r0⟩ := trodAll_cons hA
  obtain ⟨v1, vs1, d1, ds1, p1, q1, rfl, rfl, rfl, h1, r1⟩ := trodAll_cons r0
  obtain ⟨rfl, rfl, rfl⟩ := trodAll_nil r1
  obtain rfl : args = #[v0, v1] := by cases args; simp_all
  obtain ⟨rfl, rfl⟩ := trodVars_none hV
  have hsz : (DataW.weightsEach Tryz.prog (Tryz.f3.params.toList ++ Rows.evalDoesSpec.plain.varTypes Tryz.prog) (d0 :: d1 :: [] ++ [])).all (· ≤ reachBytes) = true := hsz0
  rw [Tryz.params3] at hsz
  have hw0 : ∀ m ∈ DataW.weights Tryz.prog 24 d0, m ≤ reachBytes := fun m hm => of_decide_eq_true (List.all_eq_true.1 hsz m (DataW.weights_mem_each (j := 0) (t := 24) (d := d0) rfl rfl m hm))
  have hw1 : ∀ m ∈ DataW.weights Tryz.prog 25 d1, m ≤ reachBytes := fun m hm => of_decide_eq_true (List.all_eq_true.1 hsz m (DataW.weights_mem_each (j := 1) (t := 25) (d := d1) rfl rfl m hm))
  have lt0 : ∀ x ∈ p0, x.block < W.heap.size := by obtain ⟨m, hm⟩ := h0; exact DataW.trod_lt m _ _ _ hm
  obtain ⟨ims0, rep0, sh0⟩ := arg_openW (b := true) 3 (hval 0 24 v0 rfl rfl) (by kernel_rfl) (by kernel_rfl) h0 hw0 (fun _ => none)
  obtain ⟨a0, rfl, R0⟩ := opn24 _ _ sh0
  have lt1 : ∀ x ∈ p1, x.block < W.heap.size := by obtain ⟨m, hm⟩ := h1; exact DataW.trod_lt m _ _ _ hm
  obtain ⟨ims1, rep1, sh1⟩ := arg_openW (b := false) 7 (hval 1 25 v1 rfl rfl) (by kernel_rfl) (by kernel_rfl) h1 hw1 (fun _ => none)
  obtain ⟨a1, rfl, R1⟩ := opn25 _ _ sh1
  clear hA0 hval0 hsz0 hsz
  refine ((f_l19_EvalDoes.ok a0 a1 true (evalDoes_R a0 a1 R0 R1)).law (w := W) (vs := [v0, v1]) rfl (fun j h h' => ?_)).mono fun e W' ⟨he, bel⟩ => ?_
  · match j with
    | 0 => exact rep0
    | 1 => exact rep1
    | j + 2 => simp at h <;> omega
  · subst he
    exact ⟨_, rfl, _, _, _, [], _, [], hW', trodAll_mk1 (shut_bool Tryz.underlying4 _), (trodAll_cons_mk (Below.trod laidOut (by kernel_rfl) (of_decide_eq_true (by kernel_rfl)) h0 bel lt0) (trodAll_cons_mk (Below.trod laidOut (by kernel_rfl) (of_decide_eq_true (by kernel_rfl)) h1 bel lt1) trodAll_mk0)), rfl, bel.frame _, fun h => by cases h⟩

theorem over : Rows.evalDoesRow.holds Tryz.pinned (OpenSpec.ofChange Rows.evalDoesSpec) :=
  OpenClaim.holds_of_wide 3 Tryz.f3 rfl rfl rfl rfl rfl rfl rfl ⟨rfl, rfl, rfl, rfl, rfl⟩ rfl rfl rfl rfl rfl (by kernel_rfl) Tryz.func3 (by kernel_rfl)
    (of_decide_eq_true (by kernel_rfl)) (by unfold Func.isWrapper; first | (rw [if_pos (by decide +kernel)]; kernel_rfl) | (rw [if_neg (by decide +kernel)]; exact ⟨rfl, rfl⟩))
    (fun os started H enc _ => lifted os started H enc)
theorem proved : Rows.EvalDoesSaid := over
#print axioms proved
end Go.Proofs.YtbmdealiikoplaaGreat.evalDoes
namespace Go.Proofs.YtbmdealiikoplaaGreat
theorem evalDoes_holds : Rows.EvalDoesSaid := evalDoes.proved
#print axioms evalDoes_holds
end Go.Proofs.YtbmdealiikoplaaGreat
