
/-
Whatever EntryRising is handed, the call returns true and leaves its arguments as they were: proved for every input, with no condition beside the row's own.
-/
import Derived.Test.YtinhldbfifpakaaGreatPxEntryRising13
import Derived.Test.YtinhldbfifpakaaGreatRows
import Derived.WalkKit
import Derived.ProofKit
import Derived.OpenShut
import Derived.ShutString
import Derived.ChangeOld
import Derived.Below
import Derived.SizedLaws
import Derived.Carry
set_option linter.unusedVariables false
namespace Go.Proofs.YtinhldbfifpakaaGreat.entryRising
open Go.ChangeShapes Go.WideShapes Go.ChangeAt Go.RowKit
open Go.ChangeMaps (open_string shut_string)
open Go.Pv Go.Proofs.YtinhldbfifpakaaGreat.PvGL

theorem own : ownKnob Tryz.prog.godebug = none := by kernel_rfl
theorem laidOut : laidOutB Tryz.prog = true := by kernel_rfl
theorem opn2 : OpnW Tryz.prog 2 (Z2 .i64) (I64) := Z7t _ wf_i64 (by kernel_rfl)
theorem opn3 : OpnW Tryz.prog 3 (Z2 .i64) (I64) := Z7t _ wf_i64 (by kernel_rfl)
theorem opn45 : OpnW Tryz.prog 45 (Z2 .u64) (U64) := Z7t _ wf_u64 (by kernel_rfl)
theorem opn136 : OpnW Tryz.prog 136 Z1 RBucket := by
  intro n ims hs
  obtain ⟨m, hs⟩ := Z6c hs Tryz.underlying136
  obtain ⟨a0, b0, e0, h0, a1, b1, e1, h1, e⟩ := hs
  obtain ⟨x0, y0, z0⟩ := opn3 m _ h0
  obtain ⟨x1, y1, z1⟩ := opn45 m _ h1
  refine ⟨⟨x0, x1⟩, ?_, ⟨z0, z1⟩⟩
  subst e; subst e1; subst e0
  subst y0; subst y1
  rfl
theorem opn46 : OpnW Tryz.prog 46 (Z1e Z1) (fun (x : List Z9) => x.length ≤ 140737488351232 ∧ ∀ y ∈ x, RBucket y) := Z8i opn136 (by kernel_rfl) (by rw [show Tryz.prog.bytesOf 136 = 16 by kernel_rfl]; decide)
theorem opn48 : OpnW Tryz.prog 48 eHist RHist := by
  intro n ims hs
  obtain ⟨m, hs⟩ := Z6c hs Tryz.underlying48
  obtain ⟨a0, b0, e0, h0, a1, b1, e1, h1, a2, b2, e2, h2, a3, b3, e3, h3, a4, b4, e4, h4, a5, b5, e5, h5, a6, b6, e6, h6, a7, b7, e7, h7, e⟩ := hs
  obtain ⟨x0, y0, z0⟩ := opn3 m _ h0
  obtain ⟨x1, y1, z1⟩ := opn3 m _ h1
  obtain ⟨x2, y2, z2⟩ := opn3 m _ h2
  obtain ⟨x3, y3, z3⟩ := opn45 m _ h3
  obtain ⟨x4, y4, z4⟩ := opn45 m _ h4
  obtain ⟨x5, y5, z5⟩ := opn2 m _ h5
  obtain ⟨x6, y6, z6⟩ := opn46 m _ h6
  obtain ⟨x7, y7, z7⟩ := opn46 m _ h7
  refine ⟨⟨x0, x1, x2, x3, x4, x5, x6, x7⟩, ?_, ⟨z0, z1, z2, z3, z4, z5, z6, z7⟩⟩
  subst e; subst e7; subst e6; subst e5; subst e4; subst e3; subst e2; subst e1; subst e0
  subst y0; subst y1; subst y2; subst y3; subst y4; subst y5; subst y6; subst y7
  rfl
theorem opn50 : OpnW Tryz.prog 50 Z6 RSample := by
  intro n ims hs
  obtain ⟨m, hs⟩ := Z6c hs Tryz.underlying50
  obtain ⟨a0, b0, e0, h0, a1, b1, e1, h1, e⟩ := hs
  obtain ⟨x0, y0, z0⟩ := opn2 m _ h0
  obtain ⟨x1, y1, z1⟩ := opn48 m _ h1
  refine ⟨⟨x0, x1⟩, ?_, ⟨z0, z1⟩⟩
  subst e; subst e1; subst e0
  subst y0; subst y1
  rfl
theorem opn44 : OpnW Tryz.prog 44 (Z1e Z6) (fun (x : List Zt) => x.length ≤ 140737488351232 ∧ ∀ y ∈ x, RSample y) := Z8i opn50 (by kernel_rfl) (by rw [show Tryz.prog.bytesOf 50 = 104 by kernel_rfl]; decide)
theorem opn5 : OpnW Tryz.prog 5 (Z2 .u8) (Rng 0 256) := Z7t _ wf_u8 (by kernel_rfl)
set_option maxRecDepth 100000 in
theorem lifted (os : Os) (started : os.Started) (H : Type) (enc : TypeId × Value → H) :
    ReturnsInHanded {} Tryz.checked os 5 .any (Rows.entryRisingSpec.pre6 enc Tryz.prog Tryz.f5 Rows.entryRisingRow.domain false) (Rows.entryRisingSpec.post enc Tryz.prog Tryz.f5 false true false false) := by
  refine returnsInHanded_of_change_sized (C := Tryz.checked) own started (by kernel_rfl) Tryz.func5
    (ChangeSpec.witness6 (enc := enc) (C := Tryz.checked) false ⟨#[], #[.slice none 0 0, .int .u8 0], []⟩ 8 (by kernel_rfl) (by kernel_rfl) (by kernel_rfl) (by kernel_rfl)) ?_
  intro W base args ds gs before hval0 hW hcnd hsz0 _
  have hval : ∀ (j : Nat) t v, Tryz.f5.params[j]? = some t → args[j]? = some v → Value.okWide Tryz.prog W .any base t v := hval0
  have hW' := hW
  obtain ⟨p, q, hA0, hV, rfl, hfz, hnd⟩ := hW
  have hA : DataW.TrodAll enc Tryz.prog W 0 (fun _ => true) true Tryz.f5.params.toList args.toList ds p := hA0
  rw [Tryz.params5] at hA hval
  obtain ⟨v0, vs0, d0, ds0, p0, q0, hargs, rfl, rfl, h0, r0⟩ := trodAll_cons hA
  obtain ⟨v1, vs1, d1, ds1, p1, q1, rfl, rfl, rfl, h1, r1⟩ := trodAll_cons r0
  obtain ⟨rfl, rfl, rfl⟩ := trodAll_nil r1
  obtain rfl : args = #[v0, v1] := by cases args; simp_all
  obtain ⟨rfl, rfl⟩ := trodVars_none hV
  have hsz : (DataW.weightsEach Tryz.prog (Tryz.f5.params.toList ++ Rows.entryRisingSpec.plain.varTypes Tryz.prog) (d0 :: d1 :: [] ++ [])).all (· ≤ reachBytes) = true := hsz0
  rw [Tryz.params5] at hsz
  have hw0 : ∀ m ∈ DataW.weights Tryz.prog 44 d0, m ≤ reachBytes := fun m hm => of_decide_eq_true (List.all_eq_true.1 hsz m (DataW.weights_mem_each (j := 0) (t := 44) (d := d0) rfl rfl m hm))
  have hw1 : ∀ m ∈ DataW.weights Tryz.prog 5 d1, m ≤ reachBytes := fun m hm => of_decide_eq_true (List.all_eq_true.1 hsz m (DataW.weights_mem_each (j := 1) (t := 5) (d := d1) rfl rfl m hm))
  have lt0 : ∀ x ∈ p0, x.block < W.heap.size := by obtain ⟨m, hm⟩ := h0; exact DataW.trod_lt m _ _ _ hm
  obtain ⟨ims0, rep0, sh0⟩ := arg_openW (b := false) 7 (hval 0 44 v0 rfl rfl) (by kernel_rfl) (by kernel_rfl) h0 hw0 (fun _ => none)
  obtain ⟨a0, rfl, R0⟩ := opn44 _ _ sh0
  have lt1 : ∀ x ∈ p1, x.block < W.heap.size := by obtain ⟨m, hm⟩ := h1; exact DataW.trod_lt m _ _ _ hm
  obtain ⟨ims1, rep1, sh1⟩ := arg_openW (b := false) 2 (hval 1 5 v1 rfl rfl) (by kernel_rfl) (by kernel_rfl) h1 hw1 (fun _ => none)
  obtain ⟨a1, rfl, R1⟩ := opn5 _ _ sh1
  clear hA0 hval0 hsz0 hsz
  refine ((Z0b.ok a0 a1 true (entryRising_R a0 a1 R0 R1)).law (w := W) (vs := [v0, v1]) rfl (fun j h h' => ?_)).mono fun e W' ⟨he, bel⟩ => ?_
  · match j with
    | 0 => exact rep0
    | 1 => exact rep1
    | j + 2 => simp at h <;> omega
  · subst he
    exact ⟨_, rfl, _, _, _, [], _, [], hW', trodAll_mk1 (shut_bool Tryz.underlying4 _), (trodAll_cons_mk (Below.trod laidOut (by kernel_rfl) (of_decide_eq_true (by kernel_rfl)) h0 bel lt0) (trodAll_cons_mk (Below.trod laidOut (by kernel_rfl) (of_decide_eq_true (by kernel_rfl)) h1 bel lt1) trodAll_mk0)), rfl, bel.frame _, fun h => by cases h⟩

theorem over : Rows.entryRisingRow.holds Tryz.pinned (OpenSpec.ofChange Rows.entryRisingSpec) :=
  OpenClaim.holds_of_wide 5 Tryz.f5 rfl rfl rfl rfl rfl rfl rfl ⟨rfl, rfl, rfl, rfl, rfl⟩ rfl rfl rfl rfl rfl (by kernel_rfl) Tryz.func5 (by kernel_rfl)
    (of_decide_eq_true (by kernel_rfl)) (by unfold Func.isWrapper; first | (rw [if_pos (by decide +kernel)]; kernel_rfl) | (rw [if_neg (by decide +kernel)]; exact ⟨rfl, rfl⟩))
    (fun os started H enc _ => lifted os started H enc)
theorem proved : Rows.EntryRisingSaid := over
#print axioms proved
end Go.Proofs.YtinhldbfifpakaaGreat.entryRising
namespace Go.Proofs.YtinhldbfifpakaaGreat
theorem entryRising_holds : Rows.EntryRisingSaid := entryRising.proved
#print axioms entryRising_holds
end Go.Proofs.YtinhldbfifpakaaGreat
