
/-
Whatever BlockMakes is handed, the call returns true and leaves its arguments as they were: proved for every input, with no condition beside the row's own.
-/
import Derived.Test.YtpoihfcehejgfaaGreatPxBlockMakes20
import Derived.Test.YtpoihfcehejgfaaGreatRows
import Derived.JoinedCond
import Derived.WalkKit
import Derived.ProofKit
import Derived.OpenShut
import Derived.ShutString
import Derived.ChangeOld
import Derived.Below
import Derived.SizedLaws
import Derived.Carry
set_option linter.unusedVariables false
namespace Go.Proofs.YtpoihfcehejgfaaGreat.blockMakes
open Go.ChangeShapes Go.WideShapes Go.ChangeAt Go.RowKit
open Go.ChangeMaps (open_string shut_string)
open Go.Pv Go.Proofs.YtpoihfcehejgfaaGreat.PvGS

theorem own : ownKnob Tryz.prog.godebug = none := by kernel_rfl
theorem laidOut : laidOutB Tryz.prog = true := by kernel_rfl
theorem opn9 : OpnU Tryz.prog 9 encStr (fun s => s.size ≤ 1048576) := opnU_str (by kernel_rfl)
theorem opn2 : OpnU Tryz.prog 2 (Z41 .i64) (I64) := Z9p _ wf_i64 (by kernel_rfl)
theorem opn3 : OpnU Tryz.prog 3 (Z41 .i64) (I64) := Z9p _ wf_i64 (by kernel_rfl)
theorem opn47 : OpnU Tryz.prog 47 (Z41 .u64) (U64) := Z9p _ wf_u64 (by kernel_rfl)
theorem opn193 : OpnU Tryz.prog 193 Z0r RBucket := by
  intro n ims hs
  obtain ⟨m, hs⟩ := Z56 hs Tryz.underlying193
  obtain ⟨a0, b0, e0, h0, a1, b1, e1, h1, e⟩ := hs
  obtain ⟨x0, y0, z0⟩ := opn3 m _ h0
  obtain ⟨x1, y1, z1⟩ := opn47 m _ h1
  refine ⟨⟨x0, x1⟩, ?_, ⟨z0, z1⟩⟩
  subst e; subst e1; subst e0
  subst y0; subst y1
  rfl
theorem opn48 : OpnU Tryz.prog 48 (Z6b Z0r) (fun (x : List Z0v) => x.length ≤ 1048576 ∧ ∀ y ∈ x, RBucket y) := Z6u opn193 (by kernel_rfl)
theorem opn50 : OpnU Tryz.prog 50 eHist RHist := by
  intro n ims hs
  obtain ⟨m, hs⟩ := Z56 hs Tryz.underlying50
  obtain ⟨a0, b0, e0, h0, a1, b1, e1, h1, a2, b2, e2, h2, a3, b3, e3, h3, a4, b4, e4, h4, a5, b5, e5, h5, a6, b6, e6, h6, a7, b7, e7, h7, e⟩ := hs
  obtain ⟨x0, y0, z0⟩ := opn3 m _ h0
  obtain ⟨x1, y1, z1⟩ := opn3 m _ h1
  obtain ⟨x2, y2, z2⟩ := opn3 m _ h2
  obtain ⟨x3, y3, z3⟩ := opn47 m _ h3
  obtain ⟨x4, y4, z4⟩ := opn47 m _ h4
  obtain ⟨x5, y5, z5⟩ := opn2 m _ h5
  obtain ⟨x6, y6, z6⟩ := opn48 m _ h6
  obtain ⟨x7, y7, z7⟩ := opn48 m _ h7
  refine ⟨⟨x0, x1, x2, x3, x4, x5, x6, x7⟩, ?_, ⟨z0, z1, z2, z3, z4, z5, z6, z7⟩⟩
  subst e; subst e7; subst e6; subst e5; subst e4; subst e3; subst e2; subst e1; subst e0
  subst y0; subst y1; subst y2; subst y3; subst y4; subst y5; subst y6; subst y7
  rfl
theorem opn52 : OpnU Tryz.prog 52 Ze RSample := by
  intro n ims hs
  obtain ⟨m, hs⟩ := Z56 hs Tryz.underlying52
  obtain ⟨a0, b0, e0, h0, a1, b1, e1, h1, e⟩ := hs
  obtain ⟨x0, y0, z0⟩ := opn2 m _ h0
  obtain ⟨x1, y1, z1⟩ := opn50 m _ h1
  refine ⟨⟨x0, x1⟩, ?_, ⟨z0, z1⟩⟩
  subst e; subst e1; subst e0
  subst y0; subst y1
  rfl
theorem opn27 : OpnU Tryz.prog 27 (Z6b Ze) (fun (x : List Zi) => x.length ≤ 1048576 ∧ ∀ y ∈ x, RSample y) := Z6u opn52 (by kernel_rfl)
theorem opn29 : OpnU Tryz.prog 29 Z0 Z3b := by
  intro n ims hs
  obtain ⟨m, hs⟩ := Z56 hs Tryz.underlying29
  obtain ⟨a0, b0, e0, h0, a1, b1, e1, h1, e⟩ := hs
  obtain ⟨x0, y0, z0⟩ := opn9 m _ h0
  obtain ⟨x1, y1, z1⟩ := opn27 m _ h1
  refine ⟨⟨x0, x1⟩, ?_, ⟨z0, z1⟩⟩
  subst e; subst e1; subst e0
  subst y0; subst y1
  rfl
theorem opn22 : OpnU Tryz.prog 22 (Z6b Z0) (fun (x : List Z2) => x.length ≤ 1048576 ∧ ∀ y ∈ x, Z3b y) := Z6u opn29 (by kernel_rfl)
theorem opn5 : OpnU Tryz.prog 5 (Z41 .u8) (Rng 0 256) := Z9p _ wf_u8 (by kernel_rfl)
theorem opn89 : OpnU Tryz.prog 89 Z1 Z68 := by
  intro n ims hs
  obtain ⟨m, hs⟩ := Z56 hs Tryz.underlying89
  obtain ⟨a0, b0, e0, h0, a1, b1, e1, h1, e⟩ := hs
  obtain ⟨x0, y0, z0⟩ := opn2 m _ h0
  obtain ⟨x1, y1, z1⟩ := opn2 m _ h1
  refine ⟨⟨x0, x1⟩, ?_, ⟨z0, z1⟩⟩
  subst e; subst e1; subst e0
  subst y0; subst y1
  rfl
theorem opn23 : OpnU Tryz.prog 23 (Z6b Z1) (fun (x : List Z4) => x.length ≤ 1048576 ∧ ∀ y ∈ x, Z68 y) := Z6u opn89 (by kernel_rfl)
theorem one_le {H : Type} (d : DataW H) : 1 ≤ Rows.uptoBulk d := by
  cases d with
  | lit l => cases l <;> simp [Rows.uptoBulk]
  | nil => simp [Rows.uptoBulk]
  | ptr d => simp [Rows.uptoBulk]
  | slice elems spare => simp [Rows.uptoBulk]
  | agg parts => simp [Rows.uptoBulk]
  | iface t d => simp [Rows.uptoBulk]
  | map entries => simp [Rows.uptoBulk]
  | held h => simp [Rows.uptoBulk]
theorem part_le {H : Type} {d : DataW H} {l : List (DataW H)} (h : d ∈ l) : Rows.uptoBulk d ≤ Rows.uptoBulkAll l := by
  induction l with
  | nil => cases h
  | cons x r ih =>
    simp only [Rows.uptoBulkAll]
    rcases List.mem_cons.1 h with e | e
    · subst e; omega
    · have := ih e; omega
theorem length_le {H : Type} (l : List (DataW H)) : l.length ≤ Rows.uptoBulkAll l := by
  induction l with
  | nil => simp [Rows.uptoBulkAll]
  | cons x r ih => have := one_le x; simp only [Rows.uptoBulkAll, List.length_cons]; omega
theorem bk (H : Type) : BK (Rows.uptoBulk (H := H)) := ⟨fun l => by simp [Rows.uptoBulk], fun a b => by have := length_le a; simp only [Rows.uptoBulk]; omega, fun a b d h => by have := part_le h; simp only [Rows.uptoBulk]; omega, fun a d h => by have := part_le h; simp only [Rows.uptoBulk]; omega⟩
set_option maxRecDepth 100000 in
theorem lifted (os : Os) (started : os.Started) (H : Type) (enc : TypeId × Value → H) (F : Stop.Interp) :
    ReturnsInHanded {} Tryz.checked os 3 .any ((Rows.OpenSpec.upto Rows.blockMakesSpec).pre6 enc Tryz.prog Tryz.f3 Rows.blockMakesUptoRow.domain false) (((Rows.OpenSpec.upto Rows.blockMakesSpec).at F).post enc Tryz.prog Tryz.f3 false true false false) := by
  refine returnsInHanded_of_cond (C := Tryz.checked) (s := Rows.OpenSpec.upto Rows.blockMakesSpec) (k := Rows.uptoSmall) rfl own started (by kernel_rfl) Tryz.func3
    (OpenSpec.witness (enc := enc) (C := Tryz.checked) (s := Rows.OpenSpec.upto Rows.blockMakesSpec) (k := Rows.uptoSmall) rfl false ⟨#[], #[.slice none 0 0, .int .u8 0, .slice none 0 0], []⟩ 16 (by kernel_rfl) (by kernel_rfl) (by kernel_rfl)
      (x := ([.nil, .lit (.int .u8 0), .nil], [], [])) (by kernel_rfl) rfl (by kernel_rfl)) ?_
  intro W base args ds gs before hval0 hW hcnd hsz0 _
  show Calls Tryz.prog 3 args W fun e W' => ∃ v, e = .returned v ∧ Rows.blockMakesSpec.post enc Tryz.prog Tryz.f3 false true false false W args v W'
  have hval : ∀ (j : Nat) t v, Tryz.f3.params[j]? = some t → args[j]? = some v → Value.okWide Tryz.prog W .any base t v := hval0
  have hW' := hW
  obtain ⟨p, q, hA0, hV, rfl, hfz, hnd⟩ := hW
  have hA : DataW.TrodAll enc Tryz.prog W 0 (fun _ => true) true Tryz.f3.params.toList args.toList ds p := hA0
  rw [Tryz.params3] at hA hval
  obtain ⟨v0, vs0, d0, ds0, p0, q0, hargs, rfl, rfl, h0, r0⟩ := trodAll_cons hA
  obtain ⟨v1, vs1, d1, ds1, p1, q1, rfl, rfl, rfl, h1, r1⟩ := trodAll_cons r0
  obtain ⟨v2, vs2, d2, ds2, p2, q2, rfl, rfl, rfl, h2, r2⟩ := trodAll_cons r1
  obtain ⟨rfl, rfl, rfl⟩ := trodAll_nil r2
  obtain rfl : args = #[v0, v1, v2] := by cases args; simp_all
  obtain ⟨rfl, rfl⟩ := trodVars_none hV
  have hsz : Rows.uptoBulkAll (d0 :: d1 :: d2 :: [] ++ []) ≤ 1048576 := of_decide_eq_true hsz0
  have hw0 : Rows.uptoBulk d0 ≤ upN := Nat.le_trans (part_le (by simp)) hsz
  have hw1 : Rows.uptoBulk d1 ≤ upN := Nat.le_trans (part_le (by simp)) hsz
  have hw2 : Rows.uptoBulk d2 ≤ upN := Nat.le_trans (part_le (by simp)) hsz
  have lt0 : ∀ x ∈ p0, x.block < W.heap.size := by obtain ⟨m, hm⟩ := h0; exact DataW.trod_lt m _ _ _ hm
  obtain ⟨ims0, rep0, sh0⟩ := Zaz (bk H) (b := false) 9 (hval 0 22 v0 rfl rfl) (by kernel_rfl) (by kernel_rfl) h0 hw0 (fun _ => none)
  obtain ⟨a0, rfl, R0⟩ := opn22 _ _ sh0
  have lt1 : ∀ x ∈ p1, x.block < W.heap.size := by obtain ⟨m, hm⟩ := h1; exact DataW.trod_lt m _ _ _ hm
  obtain ⟨ims1, rep1, sh1⟩ := Zaz (bk H) (b := false) 2 (hval 1 5 v1 rfl rfl) (by kernel_rfl) (by kernel_rfl) h1 hw1 (fun _ => none)
  obtain ⟨a1, rfl, R1⟩ := opn5 _ _ sh1
  have lt2 : ∀ x ∈ p2, x.block < W.heap.size := by obtain ⟨m, hm⟩ := h2; exact DataW.trod_lt m _ _ _ hm
  obtain ⟨ims2, rep2, sh2⟩ := Zaz (bk H) (b := false) 4 (hval 2 23 v2 rfl rfl) (by kernel_rfl) (by kernel_rfl) h2 hw2 (fun _ => none)
  obtain ⟨a2, rfl, R2⟩ := opn23 _ _ sh2
  clear hA0 hval0 hsz0 hsz
  refine ((Zs.ok a0 a1 a2 true (blockMakes_R a0 a1 a2 R0 R1 R2)).law (w := W) (vs := [v0, v1, v2]) rfl (fun j h h' => ?_)).mono fun e W' ⟨he, bel⟩ => ?_
  · match j with
    | 0 => exact rep0
    | 1 => exact rep1
    | 2 => exact rep2
    | j + 3 => simp at h <;> omega
  · subst he
    exact ⟨_, rfl, _, _, _, [], _, [], hW', trodAll_mk1 (shut_bool Tryz.underlying4 _), (trodAll_cons_mk (Below.trod laidOut (by kernel_rfl) (of_decide_eq_true (by kernel_rfl)) h0 bel lt0) (trodAll_cons_mk (Below.trod laidOut (by kernel_rfl) (of_decide_eq_true (by kernel_rfl)) h1 bel lt1) (trodAll_cons_mk (Below.trod laidOut (by kernel_rfl) (of_decide_eq_true (by kernel_rfl)) h2 bel lt2) trodAll_mk0))), rfl, bel.frame _, fun h => by cases h⟩

theorem over : Rows.blockMakesUptoRow.holds Tryz.pinned (Rows.OpenSpec.upto Rows.blockMakesSpec) :=
  OpenClaim.holds_of_cond 3 Tryz.f3 rfl rfl rfl rfl rfl rfl rfl ⟨rfl, rfl, rfl, rfl, rfl⟩ rfl rfl rfl rfl rfl (by kernel_rfl) Tryz.func3 (by kernel_rfl)
    (of_decide_eq_true (by kernel_rfl)) (by unfold Func.isWrapper; first | (rw [if_pos (by decide +kernel)]; kernel_rfl) | (rw [if_neg (by decide +kernel)]; exact ⟨rfl, rfl⟩))
    (fun os started H enc _ F => lifted os started H enc F)
theorem proved : Rows.BlockMakesUptoSaid := over
#print axioms proved
end Go.Proofs.YtpoihfcehejgfaaGreat.blockMakes
namespace Go.Proofs.YtpoihfcehejgfaaGreat
theorem blockMakes_holds : Rows.BlockMakesUptoSaid := blockMakes.proved
#print axioms blockMakes_holds
end Go.Proofs.YtpoihfcehejgfaaGreat
