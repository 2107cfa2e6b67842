import Derived.Test.YticdbkmekkbiiaaProg
import Derived.Test.YticdbkmekkbiiaaPxMeldRises08
set_option linter.unusedVariables false
set_option linter.unnecessarySimpa false
set_option linter.unusedSimpArgs false
set_option maxRecDepth 10000
namespace Go.Proofs.Yticdbkmekkbiiaa.PvGB
open Go Go.Pv
def f_pluvialref07_Rise.l0 (a0 : List THist) (x3238 : Int) : Option ((THist × Int) ⊕ Unit) := if (decide (x3238 < (a0.length : Int))) = true then ((at? a0 x3238) >>= fun b3243 => if (b3243.f0 != (0 : Int)) = true then (some (.inl ((⟨0, 0, 0, 0, 0, 0, [], []⟩ : THist), 25))) else (f_pluvialref07_Rise.l0 a0 (IntKind.i64.wrap (x3238 + (1 : Int))))) else (some (.inr ()))
partial_fixpoint
def f_pluvialref07_Rise.l1 (a0 : List THist) (v : Int × Int × Int × Int × Int × Int × (List TBucket) × (List TBucket) × Int) : Option ((THist × Int) ⊕ (Int × Int × Int × Int × Int × Int × (List TBucket) × (List TBucket))) := match v with
  | (x3285, x3286, x3287, x3288, x3289, x3290, x3291, x3292, x3293) => if (decide (x3293 < (a0.length : Int))) = true then ((at? a0 x3293) >>= fun b3303 => (at? a0 (IntKind.i64.wrap (x3293 - (1 : Int)))) >>= fun b3306 => (f_pluvialref07_Sub.f b3303 b3306) >>= fun t3309 => ((if (t3309.2 == (21 : Int)) = true then (some (.inr (b3303.f0, b3303.f1, b3303.f2, b3303.f3, b3303.f4, b3303.f5, b3303.f6, b3303.f7))) else (if (t3309.2 != (0 : Int)) = true then (some (.inl ((⟨0, 0, 0, 0, 0, 0, [], []⟩ : THist), t3309.2))) else (some (.inr ((t3309.1).f0, (t3309.1).f1, (t3309.1).f2, (t3309.1).f3, (t3309.1).f4, (t3309.1).f5, (t3309.1).f6, (t3309.1).f7))))) : Option ((THist × Int) ⊕ (Int × Int × Int × Int × Int × Int × (List TBucket) × (List TBucket)))) >>= fun oo => match oo with | .inl rr => (some (.inl rr)) | .inr (x3313, x3314, x3315, x3316, x3317, x3318, x3319, x3320) => ((f_pluvialref07_Add.f (⟨x3285, x3286, x3287, x3288, x3289, x3290, x3291, x3292⟩ : THist) (⟨x3313, x3314, x3315, x3316, x3317, x3318, x3319, x3320⟩ : THist)) >>= fun t3325 => if (t3325.2 != (0 : Int)) = true then (some (.inl ((⟨0, 0, 0, 0, 0, 0, [], []⟩ : THist), t3325.2))) else (f_pluvialref07_Rise.l1 a0 ((t3325.1).f0, (t3325.1).f1, (t3325.1).f2, (t3325.1).f3, (t3325.1).f4, (t3325.1).f5, (t3325.1).f6, (t3325.1).f7, IntKind.i64.wrap (x3293 + (1 : Int)))))) else (some (.inr (x3285, x3286, x3287, x3288, x3289, x3290, x3291, x3292)))
partial_fixpoint
def f_pluvialref07_Rise.f (a0 : List THist) : Option (THist × Int) := if (decide ((a0.length : Int) < (2 : Int))) = true then (some ((⟨0, 0, 0, 0, 0, 0, [], []⟩ : THist), 30)) else ((f_pluvialref07_Rise.l0 a0 0) >>= fun oo => match oo with | .inl rr => (some rr) | .inr _ => ((at? a0 0) >>= fun b3250 => (f_pluvialref07_Rise.l1 a0 (0, b3250.f1, (-524288), 0, 0, 0, [], [], 1)) >>= fun oo => match oo with | .inl rr => (some rr) | .inr (x3328, x3329, x3330, x3331, x3332, x3333, x3334, x3335) => (some ((⟨x3328, x3329, x3330, x3331, x3332, x3333, x3334, x3335⟩ : THist), 0))))
theorem f_pluvialref07_Rise.ok (a0 : List THist) (r : THist × Int) (H : f_pluvialref07_Rise.f a0 = some r) : Pv.Fn Try.prog 28 [.im (.row (a0.map eHist))] [] 0 (fun x o => x = .tup [.agg [iV .i64 ((r.1).f0), iV .i64 ((r.1).f1), iV .i64 ((r.1).f2), iV .u64 ((r.1).f3), iV .u64 ((r.1).f4), iV .i64 ((r.1).f5), .own 0, .own 1], iV .i64 r.2] ∧ o = [(0, some (.row 2 54 (((r.1).f6).map eBucket))), (1, some (.row 2 54 (((r.1).f7).map eBucket)))]) := by
  unfold f_pluvialref07_Rise.f at H
  refine Fn.bodyK [0, 1] Try.func28 rfl rfl (fun Γ hP hn => ?_)
  have hm : Try.prog.follows .mixedOrders = true := by kernel_rfl
  replace hn : Γ.n = 74 := hn
  refine AWp.seq ?_
  refine reg hP hn hm [(0, .k 0)] [0, 2] [0] ⟨[(0, .im (.row (a0.map eHist))), (2, .ptr 0 0 0)], [(0, some (.box 25 [iV .i64 0, iV .i64 0, iV .i64 0, iV .u64 0, iV .u64 0, iV .i64 0, .none0, .none0]))], 0⟩ [] (by kernel_rfl) trivial ?_
  refine AWp.seq ?_
  refine AWp.seq ?_
  refine reg hP hn hm [(1, .any (iV .i64 (a0.length : Int)))] [0, 2, 13] [0] ⟨[(0, .im (.row (a0.map eHist))), (2, .ptr 0 0 0), (13, bV (decide ((a0.length : Int) < (2 : Int))))], [(0, some (.box 25 [iV .i64 0, iV .i64 0, iV .i64 0, iV .u64 0, iV .u64 0, iV .i64 0, .none0, .none0]))], 0⟩ [((a0.map eHist).length : Int) = (a0.length : Int)] (by kernel_rfl) ⟨by rw [len_map], trivial⟩ ?_
  refine AWp.cond (decide ((a0.length : Int) < (2 : Int))) rfl (fun c3229 => ?_) (fun c3229 => ?_)
  · replace H := (ifT c3229).symm.trans H
    refine AWp.seq ?_
    refine reg hP hn hm [] [2, 3] [0] ⟨[(2, .ptr 0 0 0), (3, iV .i64 30)], [(0, some (.box 25 [iV .i64 0, iV .i64 0, iV .i64 0, iV .u64 0, iV .u64 0, iV .i64 0, .none0, .none0]))], 0⟩ [] (by kernel_rfl) trivial ?_
    refine AWp.conv (inv := [(0, 2)]) (vk := []) (e0 := [0, 1]) (t := ⟨[(2, .ptr 2 0 0), (3, iV .i64 30)], [(0, some (.row 2 54 ((((⟨0, 0, 0, 0, 0, 0, [], []⟩ : THist)).f6).map eBucket))), (1, some (.row 2 54 ((((⟨0, 0, 0, 0, 0, 0, [], []⟩ : THist)).f7).map eBucket))), (2, some (.box 25 [iV .i64 (((⟨0, 0, 0, 0, 0, 0, [], []⟩ : THist)).f0), iV .i64 (((⟨0, 0, 0, 0, 0, 0, [], []⟩ : THist)).f1), iV .i64 (((⟨0, 0, 0, 0, 0, 0, [], []⟩ : THist)).f2), iV .u64 (((⟨0, 0, 0, 0, 0, 0, [], []⟩ : THist)).f3), iV .u64 (((⟨0, 0, 0, 0, 0, 0, [], []⟩ : THist)).f4), iV .i64 (((⟨0, 0, 0, 0, 0, 0, [], []⟩ : THist)).f5), .own 0, .own 1]))], 0⟩) (by kernel_rfl) ?_
    refine AWp.ret ?_
    obtain rfl := Option.some.inj H
    exact Exists.intro _ (And.intro (fun _ _ h => h) (And.intro (.inl rfl) (And.intro rfl (And.intro (by kernel_rfl) (by kernel_rfl)))))
  · replace H := (ifF c3229).symm.trans H
    refine AWp.skip ?_
    refine AWp.seq ?_
    refine AWp.seq ?_
    refine reg hP hn hm [] [0, 2, 4] [0] ⟨[(0, .im (.row (a0.map eHist))), (2, .ptr 0 0 0), (4, iV .i64 0)], [(0, some (.box 25 [iV .i64 0, iV .i64 0, iV .i64 0, iV .u64 0, iV .u64 0, iV .i64 0, .none0, .none0]))], 0⟩ [] (by kernel_rfl) trivial ?_
    refine AWp.block ?_
    obtain ⟨o3336, e3337, H⟩ := bind_of H
    refine AWp.loop (LWp.conv (inv := [(0, 1)]) (vk := []) (e0 := []) (t := ⟨[(0, .im (.row (a0.map eHist))), (2, .ptr 1 0 0), (4, iV .i64 0)], [(1, some (.box 25 [iV .i64 0, iV .i64 0, iV .i64 0, iV .u64 0, iV .u64 0, iV .i64 0, .none0, .none0]))], 0⟩) (by kernel_rfl) ?_)
    refine LWp.mono (Q := fun e s => (match (generalizing := false) o3336 with | .inl rr => e = .ret ∧ s.floor = 0 ∧ resOf Try.prog Try.f28 s = some (.tup [.agg [iV .i64 ((rr.1).f0), iV .i64 ((rr.1).f1), iV .i64 ((rr.1).f2), iV .u64 ((rr.1).f3), iV .u64 ((rr.1).f4), iV .i64 ((rr.1).f5), .own 0, .own 1], iV .i64 rr.2]) ∧ ([(0, s.obj 0), (1, s.obj 1)] : List (Nat × Option MObj)) = [(0, some (.row 2 54 (((rr.1).f6).map eBucket))), (1, some (.row 2 54 (((rr.1).f7).map eBucket)))] | .inr _ => e = .exit 0 ∧ s = ⟨[(0, .im (.row (a0.map eHist))), (2, .ptr 2 0 0)], [(2, some (.box 25 [iV .i64 0, iV .i64 0, iV .i64 0, iV .u64 0, iV .u64 0, iV .i64 0, .none0, .none0]))], 0⟩)) (LWp.cv (withBody (fun body hbody => ?_))) ?_
    · refine f_pluvialref07_Rise.l0.partial_correctness a0 (motive := fun x3238 o3336 => LWp Γ body (fun e s => ∃ t, Cv Γ s t ∧ (match (generalizing := false) o3336 with | .inl rr => e = .ret ∧ t.floor = 0 ∧ resOf Try.prog Try.f28 t = some (.tup [.agg [iV .i64 ((rr.1).f0), iV .i64 ((rr.1).f1), iV .i64 ((rr.1).f2), iV .u64 ((rr.1).f3), iV .u64 ((rr.1).f4), iV .i64 ((rr.1).f5), .own 0, .own 1], iV .i64 rr.2]) ∧ ([(0, t.obj 0), (1, t.obj 1)] : List (Nat × Option MObj)) = [(0, some (.row 2 54 (((rr.1).f6).map eBucket))), (1, some (.row 2 54 (((rr.1).f7).map eBucket)))] | .inr _ => e = .exit 0 ∧ t = ⟨[(0, .im (.row (a0.map eHist))), (2, .ptr 2 0 0)], [(2, some (.box 25 [iV .i64 0, iV .i64 0, iV .i64 0, iV .u64 0, iV .u64 0, iV .i64 0, .none0, .none0]))], 0⟩)) ⟨[(0, .im (.row (a0.map eHist))), (2, .ptr 1 0 0), (4, iV .i64 x3238)], [(1, some (.box 25 [iV .i64 0, iV .i64 0, iV .i64 0, iV .u64 0, iV .u64 0, iV .i64 0, .none0, .none0]))], 0⟩) ?_ _ _ e3337
      clear H e3337 o3336; intro self ih x3238 o3336 H
      subst hbody
      refine LWp.round ?_
      refine AWp.seq ?_
      refine AWp.seq ?_
      refine reg hP hn hm [(2, .any (iV .i64 (a0.length : Int)))] [0, 2, 4, 18] [1] ⟨[(0, .im (.row (a0.map eHist))), (2, .ptr 1 0 0), (4, iV .i64 x3238), (18, bV (decide (x3238 < (a0.length : Int))))], [(1, some (.box 25 [iV .i64 0, iV .i64 0, iV .i64 0, iV .u64 0, iV .u64 0, iV .i64 0, .none0, .none0]))], 0⟩ [((a0.map eHist).length : Int) = (a0.length : Int)] (by kernel_rfl) ⟨by rw [len_map], trivial⟩ ?_
      refine AWp.cond (decide (x3238 < (a0.length : Int))) rfl (fun c3239 => ?_) (fun c3239 => ?_)
      · replace H := (ifT c3239).symm.trans H
        refine AWp.skip ?_
        refine AWp.seq ?_
        refine AWp.block ?_
        refine AWp.seq ?_
        obtain ⟨b3243, p3244, q3245, H⟩ := at_of H
        refine reg hP hn hm [(2, .c (eHist b3243))] [0, 2, 4, 26] [1] ⟨[(0, .im (.row (a0.map eHist))), (2, .ptr 1 0 0), (4, iV .i64 x3238), (26, bV (b3243.f0 != (0 : Int)))], [(1, some (.box 25 [iV .i64 0, iV .i64 0, iV .i64 0, iV .u64 0, iV .u64 0, iV .i64 0, .none0, .none0]))], 0⟩ [0 ≤ x3238, (a0.map eHist)[(Int.toNat (x3238))]? = some (eHist b3243)] (by kernel_rfl) ⟨by exact p3244, by exact el_map eHist q3245, trivial⟩ ?_
        refine AWp.cond (b3243.f0 != (0 : Int)) rfl (fun c3246 => ?_) (fun c3246 => ?_)
        · replace H := (ifT c3246).symm.trans H
          refine AWp.seq ?_
          refine reg hP hn hm [] [2, 3] [1] ⟨[(2, .ptr 1 0 0), (3, iV .i64 25)], [(1, some (.box 25 [iV .i64 0, iV .i64 0, iV .i64 0, iV .u64 0, iV .u64 0, iV .i64 0, .none0, .none0]))], 0⟩ [] (by kernel_rfl) trivial ?_
          refine AWp.conv (inv := [(1, 2)]) (vk := []) (e0 := [0, 1]) (t := ⟨[(2, .ptr 2 0 0), (3, iV .i64 25)], [(0, some (.row 2 54 ((((⟨0, 0, 0, 0, 0, 0, [], []⟩ : THist)).f6).map eBucket))), (1, some (.row 2 54 ((((⟨0, 0, 0, 0, 0, 0, [], []⟩ : THist)).f7).map eBucket))), (2, some (.box 25 [iV .i64 (((⟨0, 0, 0, 0, 0, 0, [], []⟩ : THist)).f0), iV .i64 (((⟨0, 0, 0, 0, 0, 0, [], []⟩ : THist)).f1), iV .i64 (((⟨0, 0, 0, 0, 0, 0, [], []⟩ : THist)).f2), iV .u64 (((⟨0, 0, 0, 0, 0, 0, [], []⟩ : THist)).f3), iV .u64 (((⟨0, 0, 0, 0, 0, 0, [], []⟩ : THist)).f4), iV .i64 (((⟨0, 0, 0, 0, 0, 0, [], []⟩ : THist)).f5), .own 0, .own 1]))], 0⟩) (by kernel_rfl) ?_
          refine AWp.ret ?_
          obtain rfl := Option.some.inj H
          exact Exists.intro _ (And.intro (fun _ _ h => h) (And.intro rfl (And.intro rfl (And.intro (by kernel_rfl) (by kernel_rfl)))))
        · replace H := (ifF c3246).symm.trans H
          refine AWp.skip ?_
          refine reg hP hn hm [] [0, 2, 4] [1] ⟨[(0, .im (.row (a0.map eHist))), (2, .ptr 1 0 0), (4, iV .i64 (IntKind.i64.wrap (x3238 + (1 : Int))))], [(1, some (.box 25 [iV .i64 0, iV .i64 0, iV .i64 0, iV .u64 0, iV .u64 0, iV .i64 0, .none0, .none0]))], 0⟩ [] (by kernel_rfl) trivial ?_
          exact LWp.conv (inv := [(1, 1)]) (vk := []) (e0 := []) (t := ⟨[(0, .im (.row (a0.map eHist))), (2, .ptr 1 0 0), (4, iV .i64 (IntKind.i64.wrap (x3238 + (1 : Int))))], [(1, some (.box 25 [iV .i64 0, iV .i64 0, iV .i64 0, iV .u64 0, iV .u64 0, iV .i64 0, .none0, .none0]))], 0⟩) (by kernel_rfl) (ih _ _ H)
      · replace H := (ifF c3239).symm.trans H
        refine AWp.exit ?_
        obtain rfl := Option.some.inj H
        exact Exists.intro _ (And.intro (fun _ _ h => h.conv (inv := [(1, 2)]) (vk := []) (e0 := []) (t := ⟨[(0, .im (.row (a0.map eHist))), (2, .ptr 2 0 0)], [(2, some (.box 25 [iV .i64 0, iV .i64 0, iV .i64 0, iV .u64 0, iV .u64 0, iV .i64 0, .none0, .none0]))], 0⟩) (by kernel_rfl)) (And.intro rfl rfl))
    · rcases o3336 with rr | _
      · skip
        rintro e s ⟨rfl, hfl, hres⟩
        obtain rfl := Option.some.inj H
        exact Exists.intro _ (And.intro (fun _ _ h => h) (And.intro (.inl rfl) (And.intro hfl hres)))
      · skip
        rintro e s ⟨rfl, rfl⟩
        refine AWp.seq ?_
        obtain ⟨b3250, p3251, q3252, H⟩ := at_of H
        refine reg hP hn hm [(1, .c (eHist b3250)), (5, .k 3)] [0, 2, 5] [2, 3] ⟨[(0, .im (.row (a0.map eHist))), (2, .ptr 2 0 0), (5, .ptr 3 0 0)], [(2, some (.box 25 [iV .i64 0, iV .i64 0, iV .i64 0, iV .u64 0, iV .u64 0, iV .i64 0, .none0, .none0])), (3, some (.box 25 [iV .i64 0, iV .i64 b3250.f1, iV .i64 (-524288), iV .u64 0, iV .u64 0, iV .i64 0, .none0, .none0]))], 0⟩ [0 ≤ (0 : Int), (a0.map eHist)[(Int.toNat (0))]? = some (eHist b3250)] (by kernel_rfl) ⟨by exact p3251, by exact el_map eHist q3252, trivial⟩ ?_
        refine AWp.seq ?_
        refine AWp.seq ?_
        refine reg hP hn hm [] [0, 2, 5, 6] [2, 3] ⟨[(0, .im (.row (a0.map eHist))), (2, .ptr 2 0 0), (5, .ptr 3 0 0), (6, iV .i64 1)], [(2, some (.box 25 [iV .i64 0, iV .i64 0, iV .i64 0, iV .u64 0, iV .u64 0, iV .i64 0, .none0, .none0])), (3, some (.box 25 [iV .i64 0, iV .i64 b3250.f1, iV .i64 (-524288), iV .u64 0, iV .u64 0, iV .i64 0, .none0, .none0]))], 0⟩ [] (by kernel_rfl) trivial ?_
        refine AWp.block ?_
        obtain ⟨o3338, e3339, H⟩ := bind_of H
        refine AWp.loop (LWp.conv (inv := [(2, 13), (3, 14)]) (vk := []) (e0 := [15, 16]) (t := ⟨[(0, .im (.row (a0.map eHist))), (2, .ptr 13 0 0), (5, .ptr 14 0 0), (6, iV .i64 1)], [(13, some (.box 25 [iV .i64 0, iV .i64 0, iV .i64 0, iV .u64 0, iV .u64 0, iV .i64 0, .none0, .none0])), (14, some (.box 25 [iV .i64 0, iV .i64 b3250.f1, iV .i64 (-524288), iV .u64 0, iV .u64 0, iV .i64 0, .own 15, .own 16])), (15, some (.row 2 54 ([].map eBucket))), (16, some (.row 2 54 ([].map eBucket)))], 0⟩) (by kernel_rfl) ?_)
        refine LWp.mono (Q := fun e s => (match (generalizing := false) o3338 with | .inl rr => e = .ret ∧ s.floor = 0 ∧ resOf Try.prog Try.f28 s = some (.tup [.agg [iV .i64 ((rr.1).f0), iV .i64 ((rr.1).f1), iV .i64 ((rr.1).f2), iV .u64 ((rr.1).f3), iV .u64 ((rr.1).f4), iV .i64 ((rr.1).f5), .own 0, .own 1], iV .i64 rr.2]) ∧ ([(0, s.obj 0), (1, s.obj 1)] : List (Nat × Option MObj)) = [(0, some (.row 2 54 (((rr.1).f6).map eBucket))), (1, some (.row 2 54 (((rr.1).f7).map eBucket)))] | .inr (x3328, x3329, x3330, x3331, x3332, x3333, x3334, x3335) => e = .exit 2 ∧ s = ⟨[(2, .ptr 28 0 0), (5, .ptr 29 0 0)], [(28, some (.box 25 [iV .i64 0, iV .i64 0, iV .i64 0, iV .u64 0, iV .u64 0, iV .i64 0, .none0, .none0])), (29, some (.box 25 [iV .i64 x3328, iV .i64 x3329, iV .i64 x3330, iV .u64 x3331, iV .u64 x3332, iV .i64 x3333, .own 30, .own 31])), (30, some (.row 2 54 (x3334.map eBucket))), (31, some (.row 2 54 (x3335.map eBucket)))], 0⟩)) (LWp.cv (withBody (fun body hbody => ?_))) ?_
        · refine f_pluvialref07_Rise.l1.partial_correctness a0 (motive := fun v o3338 => (match (generalizing := false) v with | (x3285, x3286, x3287, x3288, x3289, x3290, x3291, x3292, x3293) => LWp Γ body (fun e s => ∃ t, Cv Γ s t ∧ (match (generalizing := false) o3338 with | .inl rr => e = .ret ∧ t.floor = 0 ∧ resOf Try.prog Try.f28 t = some (.tup [.agg [iV .i64 ((rr.1).f0), iV .i64 ((rr.1).f1), iV .i64 ((rr.1).f2), iV .u64 ((rr.1).f3), iV .u64 ((rr.1).f4), iV .i64 ((rr.1).f5), .own 0, .own 1], iV .i64 rr.2]) ∧ ([(0, t.obj 0), (1, t.obj 1)] : List (Nat × Option MObj)) = [(0, some (.row 2 54 (((rr.1).f6).map eBucket))), (1, some (.row 2 54 (((rr.1).f7).map eBucket)))] | .inr (x3328, x3329, x3330, x3331, x3332, x3333, x3334, x3335) => e = .exit 2 ∧ t = ⟨[(2, .ptr 28 0 0), (5, .ptr 29 0 0)], [(28, some (.box 25 [iV .i64 0, iV .i64 0, iV .i64 0, iV .u64 0, iV .u64 0, iV .i64 0, .none0, .none0])), (29, some (.box 25 [iV .i64 x3328, iV .i64 x3329, iV .i64 x3330, iV .u64 x3331, iV .u64 x3332, iV .i64 x3333, .own 30, .own 31])), (30, some (.row 2 54 (x3334.map eBucket))), (31, some (.row 2 54 (x3335.map eBucket)))], 0⟩)) ⟨[(0, .im (.row (a0.map eHist))), (2, .ptr 13 0 0), (5, .ptr 14 0 0), (6, iV .i64 x3293)], [(13, some (.box 25 [iV .i64 0, iV .i64 0, iV .i64 0, iV .u64 0, iV .u64 0, iV .i64 0, .none0, .none0])), (14, some (.box 25 [iV .i64 x3285, iV .i64 x3286, iV .i64 x3287, iV .u64 x3288, iV .u64 x3289, iV .i64 x3290, .own 15, .own 16])), (15, some (.row 2 54 (x3291.map eBucket))), (16, some (.row 2 54 (x3292.map eBucket)))], 0⟩)) ?_ _ _ e3339
          clear H e3339 o3338; intro self ih v o3338 H
          obtain ⟨x3285, x3286, x3287, x3288, x3289, x3290, x3291, x3292, x3293⟩ := v
          dsimp only at H
          subst hbody
          refine LWp.round ?_
          refine AWp.seq ?_
          refine AWp.seq ?_
          refine reg hP hn hm [(2, .any (iV .i64 (a0.length : Int)))] [0, 2, 5, 6, 36] [13, 14, 15, 16] ⟨[(0, .im (.row (a0.map eHist))), (2, .ptr 13 0 0), (5, .ptr 14 0 0), (6, iV .i64 x3293), (36, bV (decide (x3293 < (a0.length : Int))))], [(13, some (.box 25 [iV .i64 0, iV .i64 0, iV .i64 0, iV .u64 0, iV .u64 0, iV .i64 0, .none0, .none0])), (14, some (.box 25 [iV .i64 x3285, iV .i64 x3286, iV .i64 x3287, iV .u64 x3288, iV .u64 x3289, iV .i64 x3290, .own 15, .own 16])), (15, some (.row 2 54 (x3291.map eBucket))), (16, some (.row 2 54 (x3292.map eBucket)))], 0⟩ [((a0.map eHist).length : Int) = (a0.length : Int)] (by kernel_rfl) ⟨by rw [len_map], trivial⟩ ?_
          refine AWp.cond (decide (x3293 < (a0.length : Int))) rfl (fun c3294 => ?_) (fun c3294 => ?_)
          · replace H := (ifT c3294).symm.trans H
            refine AWp.skip ?_
            refine AWp.seq ?_
            refine AWp.block ?_
            refine AWp.seq ?_
            obtain ⟨b3303, p3304, q3305, H⟩ := at_of H
            obtain ⟨b3306, p3307, q3308, H⟩ := at_of H
            obtain ⟨t3309, e3310, H⟩ := bind_of H
            refine reg hP hn hm [(2, .c (eHist b3303)), (7, .c (eHist b3306)), (9, .call [] [(0, 17), (1, 18)] [] [17, 18] 0 (.tup [.agg [iV .i64 ((t3309.1).f0), iV .i64 ((t3309.1).f1), iV .i64 ((t3309.1).f2), iV .u64 ((t3309.1).f3), iV .u64 ((t3309.1).f4), iV .i64 ((t3309.1).f5), .own 0, .own 1], iV .i64 t3309.2]) [(0, some (.row 2 54 (((t3309.1).f6).map eBucket))), (1, some (.row 2 54 (((t3309.1).f7).map eBucket)))]), (13, .k 19)] [0, 2, 5, 6, 7, 8] [13, 14, 15, 16, 17, 18, 19] ⟨[(0, .im (.row (a0.map eHist))), (2, .ptr 13 0 0), (5, .ptr 14 0 0), (6, iV .i64 x3293), (7, .ptr 19 0 0), (8, iV .i64 t3309.2)], [(13, some (.box 25 [iV .i64 0, iV .i64 0, iV .i64 0, iV .u64 0, iV .u64 0, iV .i64 0, .none0, .none0])), (14, some (.box 25 [iV .i64 x3285, iV .i64 x3286, iV .i64 x3287, iV .u64 x3288, iV .u64 x3289, iV .i64 x3290, .own 15, .own 16])), (15, some (.row 2 54 (x3291.map eBucket))), (16, some (.row 2 54 (x3292.map eBucket))), (17, some (.row 2 54 (((t3309.1).f6).map eBucket))), (18, some (.row 2 54 (((t3309.1).f7).map eBucket))), (19, some (.box 25 [iV .i64 ((t3309.1).f0), iV .i64 ((t3309.1).f1), iV .i64 ((t3309.1).f2), iV .u64 ((t3309.1).f3), iV .u64 ((t3309.1).f4), iV .i64 ((t3309.1).f5), .own 17, .own 18]))], 0⟩ [0 ≤ x3293, (a0.map eHist)[(Int.toNat (x3293))]? = some (eHist b3303), 0 ≤ (IntKind.i64.wrap (x3293 - (1 : Int))), (a0.map eHist)[(Int.toNat (IntKind.i64.wrap (x3293 - (1 : Int))))]? = some (eHist b3306), Enters Try.prog 24, Pv.Fn Try.prog 24 [.agg (aHist b3303), .agg (aHist b3306)] [] 0 (fun r o => r = .tup [.agg [iV .i64 ((t3309.1).f0), iV .i64 ((t3309.1).f1), iV .i64 ((t3309.1).f2), iV .u64 ((t3309.1).f3), iV .u64 ((t3309.1).f4), iV .i64 ((t3309.1).f5), .own 0, .own 1], iV .i64 t3309.2] ∧ o = [(0, some (.row 2 54 (((t3309.1).f6).map eBucket))), (1, some (.row 2 54 (((t3309.1).f7).map eBucket)))])] (by kernel_rfl) ⟨by exact p3304, by exact el_map eHist q3305, by exact p3307, by exact el_map eHist q3308, by exact Try.call24, by exact f_pluvialref07_Sub.ok b3303 b3306 t3309 e3310, trivial⟩ ?_
            refine AWp.seq ?_
            refine AWp.seq ?_
            refine reg hP hn hm [] [0, 2, 5, 6, 7, 8, 53] [13, 14, 15, 16, 17, 18, 19] ⟨[(0, .im (.row (a0.map eHist))), (2, .ptr 13 0 0), (5, .ptr 14 0 0), (6, iV .i64 x3293), (7, .ptr 19 0 0), (8, iV .i64 t3309.2), (53, bV (t3309.2 == (21 : Int)))], [(13, some (.box 25 [iV .i64 0, iV .i64 0, iV .i64 0, iV .u64 0, iV .u64 0, iV .i64 0, .none0, .none0])), (14, some (.box 25 [iV .i64 x3285, iV .i64 x3286, iV .i64 x3287, iV .u64 x3288, iV .u64 x3289, iV .i64 x3290, .own 15, .own 16])), (15, some (.row 2 54 (x3291.map eBucket))), (16, some (.row 2 54 (x3292.map eBucket))), (17, some (.row 2 54 (((t3309.1).f6).map eBucket))), (18, some (.row 2 54 (((t3309.1).f7).map eBucket))), (19, some (.box 25 [iV .i64 ((t3309.1).f0), iV .i64 ((t3309.1).f1), iV .i64 ((t3309.1).f2), iV .u64 ((t3309.1).f3), iV .u64 ((t3309.1).f4), iV .i64 ((t3309.1).f5), .own 17, .own 18]))], 0⟩ [] (by kernel_rfl) trivial ?_
            obtain ⟨o3340, e3341, H⟩ := bind_of H
            refine AWp.mono (Q := fun e s => (match (generalizing := false) o3340 with | .inl rr => e = .ret ∧ s.floor = 0 ∧ resOf Try.prog Try.f28 s = some (.tup [.agg [iV .i64 ((rr.1).f0), iV .i64 ((rr.1).f1), iV .i64 ((rr.1).f2), iV .u64 ((rr.1).f3), iV .u64 ((rr.1).f4), iV .i64 ((rr.1).f5), .own 0, .own 1], iV .i64 rr.2]) ∧ ([(0, s.obj 0), (1, s.obj 1)] : List (Nat × Option MObj)) = [(0, some (.row 2 54 (((rr.1).f6).map eBucket))), (1, some (.row 2 54 (((rr.1).f7).map eBucket)))] | .inr (x3313, x3314, x3315, x3316, x3317, x3318, x3319, x3320) => e = .normal ∧ s = ⟨[(0, .im (.row (a0.map eHist))), (2, .ptr 20 0 0), (5, .ptr 21 0 0), (6, iV .i64 x3293), (7, .ptr 24 0 0)], [(20, some (.box 25 [iV .i64 0, iV .i64 0, iV .i64 0, iV .u64 0, iV .u64 0, iV .i64 0, .none0, .none0])), (21, some (.box 25 [iV .i64 x3285, iV .i64 x3286, iV .i64 x3287, iV .u64 x3288, iV .u64 x3289, iV .i64 x3290, .own 22, .own 23])), (22, some (.row 2 54 (x3291.map eBucket))), (23, some (.row 2 54 (x3292.map eBucket))), (24, some (.box 25 (aHist ⟨x3313, x3314, x3315, x3316, x3317, x3318, x3319, x3320⟩)))], 0⟩)) (AWp.cv ?_) ?_
            · replace H := e3341; clear e3341
              refine AWp.cond (t3309.2 == (21 : Int)) rfl (fun c3311 => ?_) (fun c3311 => ?_)
              · replace H := (ifT c3311).symm.trans H
                refine reg hP hn hm [(2, .c (eHist b3303))] [0, 2, 5, 6, 7] [13, 14, 15, 16, 19] ⟨[(0, .im (.row (a0.map eHist))), (2, .ptr 13 0 0), (5, .ptr 14 0 0), (6, iV .i64 x3293), (7, .ptr 19 0 0)], [(13, some (.box 25 [iV .i64 0, iV .i64 0, iV .i64 0, iV .u64 0, iV .u64 0, iV .i64 0, .none0, .none0])), (14, some (.box 25 [iV .i64 x3285, iV .i64 x3286, iV .i64 x3287, iV .u64 x3288, iV .u64 x3289, iV .i64 x3290, .own 15, .own 16])), (15, some (.row 2 54 (x3291.map eBucket))), (16, some (.row 2 54 (x3292.map eBucket))), (19, some (.box 25 (aHist b3303)))], 0⟩ [0 ≤ x3293, (a0.map eHist)[(Int.toNat (x3293))]? = some (eHist b3303)] (by kernel_rfl) ⟨by exact p3304, by exact el_map eHist q3305, trivial⟩ ?_
                obtain rfl := Option.some.inj H
                exact Exists.intro _ (And.intro (fun _ _ h => h.conv (inv := [(13, 20), (14, 21), (15, 22), (16, 23), (19, 24)]) (vk := []) (e0 := []) (t := ⟨[(0, .im (.row (a0.map eHist))), (2, .ptr 20 0 0), (5, .ptr 21 0 0), (6, iV .i64 x3293), (7, .ptr 24 0 0)], [(20, some (.box 25 [iV .i64 0, iV .i64 0, iV .i64 0, iV .u64 0, iV .u64 0, iV .i64 0, .none0, .none0])), (21, some (.box 25 [iV .i64 x3285, iV .i64 x3286, iV .i64 x3287, iV .u64 x3288, iV .u64 x3289, iV .i64 x3290, .own 22, .own 23])), (22, some (.row 2 54 (x3291.map eBucket))), (23, some (.row 2 54 (x3292.map eBucket))), (24, some (.box 25 (aHist b3303)))], 0⟩) (by kernel_rfl)) (And.intro rfl rfl))
              · replace H := (ifF c3311).symm.trans H
                refine AWp.seq ?_
                refine reg hP hn hm [] [0, 2, 5, 6, 7, 8, 59] [13, 14, 15, 16, 17, 18, 19] ⟨[(0, .im (.row (a0.map eHist))), (2, .ptr 13 0 0), (5, .ptr 14 0 0), (6, iV .i64 x3293), (7, .ptr 19 0 0), (8, iV .i64 t3309.2), (59, bV (t3309.2 != (0 : Int)))], [(13, some (.box 25 [iV .i64 0, iV .i64 0, iV .i64 0, iV .u64 0, iV .u64 0, iV .i64 0, .none0, .none0])), (14, some (.box 25 [iV .i64 x3285, iV .i64 x3286, iV .i64 x3287, iV .u64 x3288, iV .u64 x3289, iV .i64 x3290, .own 15, .own 16])), (15, some (.row 2 54 (x3291.map eBucket))), (16, some (.row 2 54 (x3292.map eBucket))), (17, some (.row 2 54 (((t3309.1).f6).map eBucket))), (18, some (.row 2 54 (((t3309.1).f7).map eBucket))), (19, some (.box 25 [iV .i64 ((t3309.1).f0), iV .i64 ((t3309.1).f1), iV .i64 ((t3309.1).f2), iV .u64 ((t3309.1).f3), iV .u64 ((t3309.1).f4), iV .i64 ((t3309.1).f5), .own 17, .own 18]))], 0⟩ [] (by kernel_rfl) trivial ?_
                refine AWp.cond (t3309.2 != (0 : Int)) rfl (fun c3312 => ?_) (fun c3312 => ?_)
                · replace H := (ifT c3312).symm.trans H
                  refine AWp.seq ?_
                  refine reg hP hn hm [] [2, 3] [13] ⟨[(2, .ptr 13 0 0), (3, iV .i64 t3309.2)], [(13, some (.box 25 [iV .i64 0, iV .i64 0, iV .i64 0, iV .u64 0, iV .u64 0, iV .i64 0, .none0, .none0]))], 0⟩ [] (by kernel_rfl) trivial ?_
                  refine AWp.conv (inv := [(13, 2)]) (vk := []) (e0 := [0, 1]) (t := ⟨[(2, .ptr 2 0 0), (3, iV .i64 t3309.2)], [(0, some (.row 2 54 ((((⟨0, 0, 0, 0, 0, 0, [], []⟩ : THist)).f6).map eBucket))), (1, some (.row 2 54 ((((⟨0, 0, 0, 0, 0, 0, [], []⟩ : THist)).f7).map eBucket))), (2, some (.box 25 [iV .i64 (((⟨0, 0, 0, 0, 0, 0, [], []⟩ : THist)).f0), iV .i64 (((⟨0, 0, 0, 0, 0, 0, [], []⟩ : THist)).f1), iV .i64 (((⟨0, 0, 0, 0, 0, 0, [], []⟩ : THist)).f2), iV .u64 (((⟨0, 0, 0, 0, 0, 0, [], []⟩ : THist)).f3), iV .u64 (((⟨0, 0, 0, 0, 0, 0, [], []⟩ : THist)).f4), iV .i64 (((⟨0, 0, 0, 0, 0, 0, [], []⟩ : THist)).f5), .own 0, .own 1]))], 0⟩) (by kernel_rfl) ?_
                  refine AWp.ret ?_
                  obtain rfl := Option.some.inj H
                  exact Exists.intro _ (And.intro (fun _ _ h => h) (And.intro rfl (And.intro rfl (And.intro (by kernel_rfl) (by kernel_rfl)))))
                · replace H := (ifF c3312).symm.trans H
                  refine AWp.skip ?_
                  obtain rfl := Option.some.inj H
                  exact Exists.intro _ (And.intro (fun _ _ h => h.conv (inv := [(13, 20), (14, 21), (15, 22), (16, 23), (19, 24)]) (vk := [17, 18]) (e0 := []) (t := ⟨[(0, .im (.row (a0.map eHist))), (2, .ptr 20 0 0), (5, .ptr 21 0 0), (6, iV .i64 x3293), (7, .ptr 24 0 0)], [(20, some (.box 25 [iV .i64 0, iV .i64 0, iV .i64 0, iV .u64 0, iV .u64 0, iV .i64 0, .none0, .none0])), (21, some (.box 25 [iV .i64 x3285, iV .i64 x3286, iV .i64 x3287, iV .u64 x3288, iV .u64 x3289, iV .i64 x3290, .own 22, .own 23])), (22, some (.row 2 54 (x3291.map eBucket))), (23, some (.row 2 54 (x3292.map eBucket))), (24, some (.box 25 (aHist (t3309.1))))], 0⟩) (by kernel_rfl)) (And.intro rfl rfl))
            · rcases o3340 with rr | ⟨x3313, x3314, x3315, x3316, x3317, x3318, x3319, x3320⟩
              · skip
                rintro e s ⟨rfl, hfl, hres⟩
                obtain rfl := Option.some.inj H
                exact Exists.intro _ (And.intro (fun _ _ h => h) (And.intro rfl (And.intro hfl hres)))
              · skip
                rintro e s ⟨rfl, rfl⟩
                refine AWp.seq ?_
                refine AWp.conv (inv := [(20, 20), (21, 21), (24, 24)]) (vk := [22, 23]) (e0 := []) (t := ⟨[(0, .im (.row (a0.map eHist))), (2, .ptr 20 0 0), (5, .ptr 21 0 0), (6, iV .i64 x3293), (7, .ptr 24 0 0)], [(20, some (.box 25 [iV .i64 0, iV .i64 0, iV .i64 0, iV .u64 0, iV .u64 0, iV .i64 0, .none0, .none0])), (21, some (.box 25 (aHist ⟨x3285, x3286, x3287, x3288, x3289, x3290, x3291, x3292⟩))), (24, some (.box 25 (aHist ⟨x3313, x3314, x3315, x3316, x3317, x3318, x3319, x3320⟩)))], 0⟩) (by kernel_rfl) ?_
                obtain ⟨t3325, e3326, H⟩ := bind_of H
                refine reg hP hn hm [(2, .call [] [(0, 25), (1, 26)] [] [25, 26] 0 (.tup [.agg [iV .i64 ((t3325.1).f0), iV .i64 ((t3325.1).f1), iV .i64 ((t3325.1).f2), iV .u64 ((t3325.1).f3), iV .u64 ((t3325.1).f4), iV .i64 ((t3325.1).f5), .own 0, .own 1], iV .i64 t3325.2]) [(0, some (.row 2 54 (((t3325.1).f6).map eBucket))), (1, some (.row 2 54 (((t3325.1).f7).map eBucket)))]), (6, .k 27)] [0, 2, 5, 6, 9, 10] [20, 21, 25, 26, 27] ⟨[(0, .im (.row (a0.map eHist))), (2, .ptr 20 0 0), (5, .ptr 21 0 0), (6, iV .i64 x3293), (9, .ptr 27 0 0), (10, iV .i64 t3325.2)], [(20, some (.box 25 [iV .i64 0, iV .i64 0, iV .i64 0, iV .u64 0, iV .u64 0, iV .i64 0, .none0, .none0])), (21, some (.box 25 (aHist ⟨x3285, x3286, x3287, x3288, x3289, x3290, x3291, x3292⟩))), (25, some (.row 2 54 (((t3325.1).f6).map eBucket))), (26, some (.row 2 54 (((t3325.1).f7).map eBucket))), (27, some (.box 25 [iV .i64 ((t3325.1).f0), iV .i64 ((t3325.1).f1), iV .i64 ((t3325.1).f2), iV .u64 ((t3325.1).f3), iV .u64 ((t3325.1).f4), iV .i64 ((t3325.1).f5), .own 25, .own 26]))], 0⟩ [Enters Try.prog 22, Pv.Fn Try.prog 22 [.agg (aHist ⟨x3285, x3286, x3287, x3288, x3289, x3290, x3291, x3292⟩), .agg (aHist ⟨x3313, x3314, x3315, x3316, x3317, x3318, x3319, x3320⟩)] [] 0 (fun r o => r = .tup [.agg [iV .i64 ((t3325.1).f0), iV .i64 ((t3325.1).f1), iV .i64 ((t3325.1).f2), iV .u64 ((t3325.1).f3), iV .u64 ((t3325.1).f4), iV .i64 ((t3325.1).f5), .own 0, .own 1], iV .i64 t3325.2] ∧ o = [(0, some (.row 2 54 (((t3325.1).f6).map eBucket))), (1, some (.row 2 54 (((t3325.1).f7).map eBucket)))])] (by kernel_rfl) ⟨by exact Try.call22, by exact f_pluvialref07_Add.ok (⟨x3285, x3286, x3287, x3288, x3289, x3290, x3291, x3292⟩ : THist) (⟨x3313, x3314, x3315, x3316, x3317, x3318, x3319, x3320⟩ : THist) t3325 e3326, trivial⟩ ?_
                refine AWp.seq ?_
                refine AWp.seq ?_
                refine reg hP hn hm [] [0, 2, 5, 6, 9, 10, 69] [20, 21, 25, 26, 27] ⟨[(0, .im (.row (a0.map eHist))), (2, .ptr 20 0 0), (5, .ptr 21 0 0), (6, iV .i64 x3293), (9, .ptr 27 0 0), (10, iV .i64 t3325.2), (69, bV (t3325.2 != (0 : Int)))], [(20, some (.box 25 [iV .i64 0, iV .i64 0, iV .i64 0, iV .u64 0, iV .u64 0, iV .i64 0, .none0, .none0])), (21, some (.box 25 (aHist ⟨x3285, x3286, x3287, x3288, x3289, x3290, x3291, x3292⟩))), (25, some (.row 2 54 (((t3325.1).f6).map eBucket))), (26, some (.row 2 54 (((t3325.1).f7).map eBucket))), (27, some (.box 25 [iV .i64 ((t3325.1).f0), iV .i64 ((t3325.1).f1), iV .i64 ((t3325.1).f2), iV .u64 ((t3325.1).f3), iV .u64 ((t3325.1).f4), iV .i64 ((t3325.1).f5), .own 25, .own 26]))], 0⟩ [] (by kernel_rfl) trivial ?_
                refine AWp.cond (t3325.2 != (0 : Int)) rfl (fun c3327 => ?_) (fun c3327 => ?_)
                · replace H := (ifT c3327).symm.trans H
                  refine AWp.seq ?_
                  refine reg hP hn hm [] [2, 3] [20] ⟨[(2, .ptr 20 0 0), (3, iV .i64 t3325.2)], [(20, some (.box 25 [iV .i64 0, iV .i64 0, iV .i64 0, iV .u64 0, iV .u64 0, iV .i64 0, .none0, .none0]))], 0⟩ [] (by kernel_rfl) trivial ?_
                  refine AWp.conv (inv := [(20, 2)]) (vk := []) (e0 := [0, 1]) (t := ⟨[(2, .ptr 2 0 0), (3, iV .i64 t3325.2)], [(0, some (.row 2 54 ((((⟨0, 0, 0, 0, 0, 0, [], []⟩ : THist)).f6).map eBucket))), (1, some (.row 2 54 ((((⟨0, 0, 0, 0, 0, 0, [], []⟩ : THist)).f7).map eBucket))), (2, some (.box 25 [iV .i64 (((⟨0, 0, 0, 0, 0, 0, [], []⟩ : THist)).f0), iV .i64 (((⟨0, 0, 0, 0, 0, 0, [], []⟩ : THist)).f1), iV .i64 (((⟨0, 0, 0, 0, 0, 0, [], []⟩ : THist)).f2), iV .u64 (((⟨0, 0, 0, 0, 0, 0, [], []⟩ : THist)).f3), iV .u64 (((⟨0, 0, 0, 0, 0, 0, [], []⟩ : THist)).f4), iV .i64 (((⟨0, 0, 0, 0, 0, 0, [], []⟩ : THist)).f5), .own 0, .own 1]))], 0⟩) (by kernel_rfl) ?_
                  refine AWp.ret ?_
                  obtain rfl := Option.some.inj H
                  exact Exists.intro _ (And.intro (fun _ _ h => h) (And.intro rfl (And.intro rfl (And.intro (by kernel_rfl) (by kernel_rfl)))))
                · replace H := (ifF c3327).symm.trans H
                  refine AWp.skip ?_
                  refine reg hP hn hm [] [0, 2, 5, 6] [20, 21, 25, 26] ⟨[(0, .im (.row (a0.map eHist))), (2, .ptr 20 0 0), (5, .ptr 21 0 0), (6, iV .i64 x3293)], [(20, some (.box 25 [iV .i64 0, iV .i64 0, iV .i64 0, iV .u64 0, iV .u64 0, iV .i64 0, .none0, .none0])), (21, some (.box 25 [iV .i64 ((t3325.1).f0), iV .i64 ((t3325.1).f1), iV .i64 ((t3325.1).f2), iV .u64 ((t3325.1).f3), iV .u64 ((t3325.1).f4), iV .i64 ((t3325.1).f5), .own 25, .own 26])), (25, some (.row 2 54 (((t3325.1).f6).map eBucket))), (26, some (.row 2 54 (((t3325.1).f7).map eBucket)))], 0⟩ [] (by kernel_rfl) trivial ?_
                  refine reg hP hn hm [] [0, 2, 5, 6] [20, 21, 25, 26] ⟨[(0, .im (.row (a0.map eHist))), (2, .ptr 20 0 0), (5, .ptr 21 0 0), (6, iV .i64 (IntKind.i64.wrap (x3293 + (1 : Int))))], [(20, some (.box 25 [iV .i64 0, iV .i64 0, iV .i64 0, iV .u64 0, iV .u64 0, iV .i64 0, .none0, .none0])), (21, some (.box 25 [iV .i64 ((t3325.1).f0), iV .i64 ((t3325.1).f1), iV .i64 ((t3325.1).f2), iV .u64 ((t3325.1).f3), iV .u64 ((t3325.1).f4), iV .i64 ((t3325.1).f5), .own 25, .own 26])), (25, some (.row 2 54 (((t3325.1).f6).map eBucket))), (26, some (.row 2 54 (((t3325.1).f7).map eBucket)))], 0⟩ [] (by kernel_rfl) trivial ?_
                  exact LWp.conv (inv := [(20, 13), (21, 14), (25, 15), (26, 16)]) (vk := []) (e0 := []) (t := ⟨[(0, .im (.row (a0.map eHist))), (2, .ptr 13 0 0), (5, .ptr 14 0 0), (6, iV .i64 (IntKind.i64.wrap (x3293 + (1 : Int))))], [(13, some (.box 25 [iV .i64 0, iV .i64 0, iV .i64 0, iV .u64 0, iV .u64 0, iV .i64 0, .none0, .none0])), (14, some (.box 25 [iV .i64 ((t3325.1).f0), iV .i64 ((t3325.1).f1), iV .i64 ((t3325.1).f2), iV .u64 ((t3325.1).f3), iV .u64 ((t3325.1).f4), iV .i64 ((t3325.1).f5), .own 15, .own 16])), (15, some (.row 2 54 (((t3325.1).f6).map eBucket))), (16, some (.row 2 54 (((t3325.1).f7).map eBucket)))], 0⟩) (by kernel_rfl) (ih _ _ H)
          · replace H := (ifF c3294).symm.trans H
            refine AWp.exit ?_
            obtain rfl := Option.some.inj H
            exact Exists.intro _ (And.intro (fun _ _ h => h.conv (inv := [(13, 28), (14, 29), (15, 30), (16, 31)]) (vk := []) (e0 := []) (t := ⟨[(2, .ptr 28 0 0), (5, .ptr 29 0 0)], [(28, some (.box 25 [iV .i64 0, iV .i64 0, iV .i64 0, iV .u64 0, iV .u64 0, iV .i64 0, .none0, .none0])), (29, some (.box 25 [iV .i64 x3285, iV .i64 x3286, iV .i64 x3287, iV .u64 x3288, iV .u64 x3289, iV .i64 x3290, .own 30, .own 31])), (30, some (.row 2 54 (x3291.map eBucket))), (31, some (.row 2 54 (x3292.map eBucket)))], 0⟩) (by kernel_rfl)) (And.intro rfl rfl))
        · rcases o3338 with rr | ⟨x3328, x3329, x3330, x3331, x3332, x3333, x3334, x3335⟩
          · skip
            rintro e s ⟨rfl, hfl, hres⟩
            obtain rfl := Option.some.inj H
            exact Exists.intro _ (And.intro (fun _ _ h => h) (And.intro (.inl rfl) (And.intro hfl hres)))
          · skip
            rintro e s ⟨rfl, rfl⟩
            refine AWp.seq ?_
            refine reg hP hn hm [] [2, 3] [28, 30, 31] ⟨[(2, .ptr 28 0 0), (3, iV .i64 0)], [(28, some (.box 25 [iV .i64 x3328, iV .i64 x3329, iV .i64 x3330, iV .u64 x3331, iV .u64 x3332, iV .i64 x3333, .own 30, .own 31])), (30, some (.row 2 54 (x3334.map eBucket))), (31, some (.row 2 54 (x3335.map eBucket)))], 0⟩ [] (by kernel_rfl) trivial ?_
            refine AWp.conv (inv := [(28, 2), (30, 0), (31, 1)]) (vk := []) (e0 := []) (t := ⟨[(2, .ptr 2 0 0), (3, iV .i64 0)], [(0, some (.row 2 54 ((((⟨x3328, x3329, x3330, x3331, x3332, x3333, x3334, x3335⟩ : THist)).f6).map eBucket))), (1, some (.row 2 54 ((((⟨x3328, x3329, x3330, x3331, x3332, x3333, x3334, x3335⟩ : THist)).f7).map eBucket))), (2, some (.box 25 [iV .i64 (((⟨x3328, x3329, x3330, x3331, x3332, x3333, x3334, x3335⟩ : THist)).f0), iV .i64 (((⟨x3328, x3329, x3330, x3331, x3332, x3333, x3334, x3335⟩ : THist)).f1), iV .i64 (((⟨x3328, x3329, x3330, x3331, x3332, x3333, x3334, x3335⟩ : THist)).f2), iV .u64 (((⟨x3328, x3329, x3330, x3331, x3332, x3333, x3334, x3335⟩ : THist)).f3), iV .u64 (((⟨x3328, x3329, x3330, x3331, x3332, x3333, x3334, x3335⟩ : THist)).f4), iV .i64 (((⟨x3328, x3329, x3330, x3331, x3332, x3333, x3334, x3335⟩ : THist)).f5), .own 0, .own 1]))], 0⟩) (by kernel_rfl) ?_
            refine AWp.ret ?_
            obtain rfl := Option.some.inj H
            exact Exists.intro _ (And.intro (fun _ _ h => h) (And.intro (.inl rfl) (And.intro rfl (And.intro (by kernel_rfl) (by kernel_rfl)))))
def f_meld_Sum.l0 (a0 : List THist) (v : Int × Int × Int × Int × Int × Int × (List TBucket) × (List TBucket) × Int) : Option ((THist × Int) ⊕ (Int × Int × Int × Int × Int × Int × (List TBucket) × (List TBucket))) := match v with
  | (x3381, x3382, x3383, x3384, x3385, x3386, x3387, x3388, x3389) => if (decide (x3389 < (((a0.drop (Int.toNat ((1 : Int)))).take ((Int.toNat ((a0.length : Int))) - (Int.toNat ((1 : Int))))).length : Int))) = true then ((at? ((a0.drop (Int.toNat ((1 : Int)))).take ((Int.toNat ((a0.length : Int))) - (Int.toNat ((1 : Int))))) x3389) >>= fun b3394 => (f_meld_Add.f (⟨x3381, x3382, x3383, x3384, x3385, x3386, x3387, x3388⟩ : THist) b3394) >>= fun t3399 => if (t3399.2 != (0 : Int)) = true then (some (.inl ((⟨0, 0, 0, 0, 0, 0, [], []⟩ : THist), t3399.2))) else (f_meld_Sum.l0 a0 ((t3399.1).f0, (t3399.1).f1, (t3399.1).f2, (t3399.1).f3, (t3399.1).f4, (t3399.1).f5, (t3399.1).f6, (t3399.1).f7, IntKind.i64.wrap (x3389 + (1 : Int))))) else (some (.inr (x3381, x3382, x3383, x3384, x3385, x3386, x3387, x3388)))
partial_fixpoint
def f_meld_Sum.f (a0 : List THist) : Option (THist × Int) := if ((a0.length : Int) == (0 : Int)) = true then (some ((⟨0, 0, 0, 0, 0, 0, [], []⟩ : THist), 30)) else ((at? a0 0) >>= fun b3360 => (f_hist_Clone.f b3360) >>= fun t3363 => (chk (0 ≤ (1 : Int) ∧ (1 : Int) ≤ (a0.length : Int) ∧ (a0.length : Int) ≤ (a0.length : Int))) >>= fun _ => (f_meld_Sum.l0 a0 ((t3363).f0, (t3363).f1, (t3363).f2, (t3363).f3, (t3363).f4, (t3363).f5, (t3363).f6, (t3363).f7, 0)) >>= fun oo => match oo with | .inl rr => (some rr) | .inr (x3402, x3403, x3404, x3405, x3406, x3407, x3408, x3409) => (some ((⟨x3402, x3403, x3404, x3405, x3406, x3407, x3408, x3409⟩ : THist), 0)))
theorem f_meld_Sum.ok (a0 : List THist) (r : THist × Int) (H : f_meld_Sum.f a0 = some r) : Pv.Fn Try.prog 29 [.im (.row (a0.map eHist))] [] 0 (fun x o => x = .tup [.agg (aHist (r.1)), iV .i64 r.2] ∧ o = []) := by
  unfold f_meld_Sum.f at H
  refine Fn.bodyK [] Try.func29 rfl rfl (fun Γ hP hn => ?_)
  have hm : Try.prog.follows .mixedOrders = true := by kernel_rfl
  replace hn : Γ.n = 35 := hn
  refine AWp.seq ?_
  refine reg hP hn hm [(0, .k 0)] [0, 2] [0] ⟨[(0, .im (.row (a0.map eHist))), (2, .ptr 0 0 0)], [(0, some (.box 25 [iV .i64 0, iV .i64 0, iV .i64 0, iV .u64 0, iV .u64 0, iV .i64 0, .none0, .none0]))], 0⟩ [] (by kernel_rfl) trivial ?_
  refine AWp.seq ?_
  refine AWp.seq ?_
  refine reg hP hn hm [(1, .any (iV .i64 (a0.length : Int)))] [0, 2, 10] [0] ⟨[(0, .im (.row (a0.map eHist))), (2, .ptr 0 0 0), (10, bV ((a0.length : Int) == (0 : Int)))], [(0, some (.box 25 [iV .i64 0, iV .i64 0, iV .i64 0, iV .u64 0, iV .u64 0, iV .i64 0, .none0, .none0]))], 0⟩ [((a0.map eHist).length : Int) = (a0.length : Int)] (by kernel_rfl) ⟨by rw [len_map], trivial⟩ ?_
  refine AWp.cond ((a0.length : Int) == (0 : Int)) rfl (fun c3354 => ?_) (fun c3354 => ?_)
  · replace H := (ifT c3354).symm.trans H
    refine AWp.seq ?_
    refine reg hP hn hm [] [2, 3] [0] ⟨[(2, .ptr 0 0 0), (3, iV .i64 30)], [(0, some (.box 25 [iV .i64 0, iV .i64 0, iV .i64 0, iV .u64 0, iV .u64 0, iV .i64 0, .none0, .none0]))], 0⟩ [] (by kernel_rfl) trivial ?_
    refine AWp.conv (inv := [(0, 0)]) (vk := []) (e0 := []) (t := ⟨[(2, .ptr 0 0 0), (3, iV .i64 30)], [(0, some (.box 25 (aHist ((⟨0, 0, 0, 0, 0, 0, [], []⟩ : THist)))))], 0⟩) (by kernel_rfl) ?_
    refine AWp.ret ?_
    obtain rfl := Option.some.inj H
    exact Exists.intro _ (And.intro (fun _ _ h => h) (And.intro (.inl rfl) (And.intro rfl (And.intro (by kernel_rfl) (by kernel_rfl)))))
  · replace H := (ifF c3354).symm.trans H
    refine AWp.skip ?_
    refine AWp.seq ?_
    obtain ⟨b3360, p3361, q3362, H⟩ := at_of H
    obtain ⟨t3363, e3364, H⟩ := bind_of H
    refine reg hP hn hm [(1, .c (eHist b3360)), (3, .call [] [(0, 1), (1, 2)] [] [1, 2] 0 (.agg [iV .i64 ((t3363).f0), iV .i64 ((t3363).f1), iV .i64 ((t3363).f2), iV .u64 ((t3363).f3), iV .u64 ((t3363).f4), iV .i64 ((t3363).f5), .own 0, .own 1]) [(0, some (.row 2 54 (((t3363).f6).map eBucket))), (1, some (.row 2 54 (((t3363).f7).map eBucket)))]), (4, .k 3)] [0, 2, 4] [0, 1, 2, 3] ⟨[(0, .im (.row (a0.map eHist))), (2, .ptr 0 0 0), (4, .ptr 3 0 0)], [(0, some (.box 25 [iV .i64 0, iV .i64 0, iV .i64 0, iV .u64 0, iV .u64 0, iV .i64 0, .none0, .none0])), (1, some (.row 2 54 (((t3363).f6).map eBucket))), (2, some (.row 2 54 (((t3363).f7).map eBucket))), (3, some (.box 25 [iV .i64 ((t3363).f0), iV .i64 ((t3363).f1), iV .i64 ((t3363).f2), iV .u64 ((t3363).f3), iV .u64 ((t3363).f4), iV .i64 ((t3363).f5), .own 1, .own 2]))], 0⟩ [0 ≤ (0 : Int), (a0.map eHist)[(Int.toNat (0))]? = some (eHist b3360), Enters Try.prog 26, Pv.Fn Try.prog 26 [.agg (aHist b3360)] [] 0 (fun r o => r = .agg [iV .i64 ((t3363).f0), iV .i64 ((t3363).f1), iV .i64 ((t3363).f2), iV .u64 ((t3363).f3), iV .u64 ((t3363).f4), iV .i64 ((t3363).f5), .own 0, .own 1] ∧ o = [(0, some (.row 2 54 (((t3363).f6).map eBucket))), (1, some (.row 2 54 (((t3363).f7).map eBucket)))])] (by kernel_rfl) ⟨by exact p3361, by exact el_map eHist q3362, by exact Try.call26, by exact f_hist_Clone.ok b3360 t3363 e3364, trivial⟩ ?_
    refine AWp.seq ?_
    refine AWp.seq ?_
    obtain ⟨c3366, H⟩ := chk_of H
    refine reg hP hn hm [(1, .rows (((a0.drop (Int.toNat ((1 : Int)))).take ((Int.toNat ((a0.length : Int))) - (Int.toNat ((1 : Int))))).map eHist)), (2, .any (iV .i64 (((a0.drop (Int.toNat ((1 : Int)))).take ((Int.toNat ((a0.length : Int))) - (Int.toNat ((1 : Int))))).length : Int)))] [2, 4, 17, 18, 19] [0, 1, 2, 3] ⟨[(2, .ptr 0 0 0), (4, .ptr 3 0 0), (17, .im (.row (((a0.drop (Int.toNat ((1 : Int)))).take ((Int.toNat ((a0.length : Int))) - (Int.toNat ((1 : Int))))).map eHist))), (18, iV .i64 (((a0.drop (Int.toNat ((1 : Int)))).take ((Int.toNat ((a0.length : Int))) - (Int.toNat ((1 : Int))))).length : Int)), (19, iV .i64 0)], [(0, some (.box 25 [iV .i64 0, iV .i64 0, iV .i64 0, iV .u64 0, iV .u64 0, iV .i64 0, .none0, .none0])), (1, some (.row 2 54 (((t3363).f6).map eBucket))), (2, some (.row 2 54 (((t3363).f7).map eBucket))), (3, some (.box 25 [iV .i64 ((t3363).f0), iV .i64 ((t3363).f1), iV .i64 ((t3363).f2), iV .u64 ((t3363).f3), iV .u64 ((t3363).f4), iV .i64 ((t3363).f5), .own 1, .own 2]))], 0⟩ [0 ≤ (1 : Int), (1 : Int) ≤ ((a0.map eHist).length : Int), ((a0.map eHist).length : Int) ≤ ((a0.map eHist).length : Int), ∀ c ∈ a0.map eHist, c.length = 8, ((a0.drop (Int.toNat ((1 : Int)))).take ((Int.toNat ((a0.length : Int))) - (Int.toNat ((1 : Int))))).map eHist = ((a0.map eHist).drop (Int.toNat ((1 : Int)))).take ((Int.toNat (((a0.map eHist).length : Int))) - (Int.toNat ((1 : Int)))), ((((a0.drop (Int.toNat ((1 : Int)))).take ((Int.toNat ((a0.length : Int))) - (Int.toNat ((1 : Int))))).map eHist).length : Int) = (((a0.drop (Int.toNat ((1 : Int)))).take ((Int.toNat ((a0.length : Int))) - (Int.toNat ((1 : Int))))).length : Int)] (by kernel_rfl) ⟨by exact c3366.1, by simpa using c3366.2.1, by simpa using c3366.2.2, by exact all_len _ _ _ (fun _ => rfl), by simp [cut1], by rw [len_map], trivial⟩ ?_
    refine AWp.block ?_
    obtain ⟨o3410, e3411, H⟩ := bind_of H
    refine AWp.loop (LWp.conv (inv := [(0, 5), (3, 6)]) (vk := [1, 2]) (e0 := []) (t := ⟨[(2, .ptr 5 0 0), (4, .ptr 6 0 0), (17, .im (.row (((a0.drop (Int.toNat ((1 : Int)))).take ((Int.toNat ((a0.length : Int))) - (Int.toNat ((1 : Int))))).map eHist))), (18, iV .i64 (((a0.drop (Int.toNat ((1 : Int)))).take ((Int.toNat ((a0.length : Int))) - (Int.toNat ((1 : Int))))).length : Int)), (19, iV .i64 0)], [(5, some (.box 25 [iV .i64 0, iV .i64 0, iV .i64 0, iV .u64 0, iV .u64 0, iV .i64 0, .none0, .none0])), (6, some (.box 25 (aHist (t3363))))], 0⟩) (by kernel_rfl) ?_)
    refine LWp.mono (Q := fun e s => (match (generalizing := false) o3410 with | .inl rr => e = .ret ∧ s.floor = 0 ∧ resOf Try.prog Try.f29 s = some (.tup [.agg (aHist (rr.1)), iV .i64 rr.2]) ∧ ([] : List (Nat × Option MObj)) = [] | .inr (x3402, x3403, x3404, x3405, x3406, x3407, x3408, x3409) => e = .exit 0 ∧ s = ⟨[(2, .ptr 8 0 0), (4, .ptr 9 0 0)], [(8, some (.box 25 [iV .i64 0, iV .i64 0, iV .i64 0, iV .u64 0, iV .u64 0, iV .i64 0, .none0, .none0])), (9, some (.box 25 (aHist ⟨x3402, x3403, x3404, x3405, x3406, x3407, x3408, x3409⟩)))], 0⟩)) (LWp.cv (withBody (fun body hbody => ?_))) ?_
    · refine f_meld_Sum.l0.partial_correctness a0 (motive := fun v o3410 => (match (generalizing := false) v with | (x3381, x3382, x3383, x3384, x3385, x3386, x3387, x3388, x3389) => LWp Γ body (fun e s => ∃ t, Cv Γ s t ∧ (match (generalizing := false) o3410 with | .inl rr => e = .ret ∧ t.floor = 0 ∧ resOf Try.prog Try.f29 t = some (.tup [.agg (aHist (rr.1)), iV .i64 rr.2]) ∧ ([] : List (Nat × Option MObj)) = [] | .inr (x3402, x3403, x3404, x3405, x3406, x3407, x3408, x3409) => e = .exit 0 ∧ t = ⟨[(2, .ptr 8 0 0), (4, .ptr 9 0 0)], [(8, some (.box 25 [iV .i64 0, iV .i64 0, iV .i64 0, iV .u64 0, iV .u64 0, iV .i64 0, .none0, .none0])), (9, some (.box 25 (aHist ⟨x3402, x3403, x3404, x3405, x3406, x3407, x3408, x3409⟩)))], 0⟩)) ⟨[(2, .ptr 5 0 0), (4, .ptr 6 0 0), (17, .im (.row (((a0.drop (Int.toNat ((1 : Int)))).take ((Int.toNat ((a0.length : Int))) - (Int.toNat ((1 : Int))))).map eHist))), (18, iV .i64 (((a0.drop (Int.toNat ((1 : Int)))).take ((Int.toNat ((a0.length : Int))) - (Int.toNat ((1 : Int))))).length : Int)), (19, iV .i64 x3389)], [(5, some (.box 25 [iV .i64 0, iV .i64 0, iV .i64 0, iV .u64 0, iV .u64 0, iV .i64 0, .none0, .none0])), (6, some (.box 25 (aHist ⟨x3381, x3382, x3383, x3384, x3385, x3386, x3387, x3388⟩)))], 0⟩)) ?_ _ _ e3411
      clear H e3411 o3410; intro self ih v o3410 H
      obtain ⟨x3381, x3382, x3383, x3384, x3385, x3386, x3387, x3388, x3389⟩ := v
      dsimp only at H
      subst hbody
      refine LWp.round ?_
      refine AWp.seq ?_
      refine reg hP hn hm [] [2, 4, 17, 18, 19, 20] [5, 6] ⟨[(2, .ptr 5 0 0), (4, .ptr 6 0 0), (17, .im (.row (((a0.drop (Int.toNat ((1 : Int)))).take ((Int.toNat ((a0.length : Int))) - (Int.toNat ((1 : Int))))).map eHist))), (18, iV .i64 (((a0.drop (Int.toNat ((1 : Int)))).take ((Int.toNat ((a0.length : Int))) - (Int.toNat ((1 : Int))))).length : Int)), (19, iV .i64 x3389), (20, bV (decide (x3389 < (((a0.drop (Int.toNat ((1 : Int)))).take ((Int.toNat ((a0.length : Int))) - (Int.toNat ((1 : Int))))).length : Int))))], [(5, some (.box 25 [iV .i64 0, iV .i64 0, iV .i64 0, iV .u64 0, iV .u64 0, iV .i64 0, .none0, .none0])), (6, some (.box 25 (aHist ⟨x3381, x3382, x3383, x3384, x3385, x3386, x3387, x3388⟩)))], 0⟩ [] (by kernel_rfl) trivial ?_
      refine AWp.seq ?_
      refine AWp.cond (decide (x3389 < (((a0.drop (Int.toNat ((1 : Int)))).take ((Int.toNat ((a0.length : Int))) - (Int.toNat ((1 : Int))))).length : Int))) rfl (fun c3390 => ?_) (fun c3390 => ?_)
      · replace H := (ifT c3390).symm.trans H
        refine AWp.skip ?_
        refine AWp.seq ?_
        refine AWp.block ?_
        refine AWp.seq ?_
        obtain ⟨b3394, p3395, q3396, H⟩ := at_of H
        refine reg hP hn hm [(0, .c (eHist b3394)), (2, .k 7)] [2, 4, 6, 17, 18, 19] [5, 6, 7] ⟨[(2, .ptr 5 0 0), (4, .ptr 6 0 0), (6, .ptr 7 0 0), (17, .im (.row (((a0.drop (Int.toNat ((1 : Int)))).take ((Int.toNat ((a0.length : Int))) - (Int.toNat ((1 : Int))))).map eHist))), (18, iV .i64 (((a0.drop (Int.toNat ((1 : Int)))).take ((Int.toNat ((a0.length : Int))) - (Int.toNat ((1 : Int))))).length : Int)), (19, iV .i64 x3389)], [(5, some (.box 25 [iV .i64 0, iV .i64 0, iV .i64 0, iV .u64 0, iV .u64 0, iV .i64 0, .none0, .none0])), (6, some (.box 25 (aHist ⟨x3381, x3382, x3383, x3384, x3385, x3386, x3387, x3388⟩))), (7, some (.box 25 (aHist b3394)))], 0⟩ [0 ≤ x3389, (((a0.drop (Int.toNat ((1 : Int)))).take ((Int.toNat ((a0.length : Int))) - (Int.toNat ((1 : Int))))).map eHist)[(Int.toNat (x3389))]? = some (eHist b3394)] (by kernel_rfl) ⟨by exact p3395, by exact el_map eHist q3396, trivial⟩ ?_
        refine AWp.seq ?_
        refine reg hP hn hm [] [2, 4, 6, 17, 18, 19] [5, 6, 7] ⟨[(2, .ptr 5 0 0), (4, .ptr 6 0 0), (6, .ptr 7 0 0), (17, .im (.row (((a0.drop (Int.toNat ((1 : Int)))).take ((Int.toNat ((a0.length : Int))) - (Int.toNat ((1 : Int))))).map eHist))), (18, iV .i64 (((a0.drop (Int.toNat ((1 : Int)))).take ((Int.toNat ((a0.length : Int))) - (Int.toNat ((1 : Int))))).length : Int)), (19, iV .i64 x3389)], [(5, some (.box 25 [iV .i64 0, iV .i64 0, iV .i64 0, iV .u64 0, iV .u64 0, iV .i64 0, .none0, .none0])), (6, some (.box 25 (aHist ⟨x3381, x3382, x3383, x3384, x3385, x3386, x3387, x3388⟩))), (7, some (.box 25 (aHist b3394)))], 0⟩ [] (by kernel_rfl) trivial ?_
        refine AWp.seq ?_
        obtain ⟨t3399, e3400, H⟩ := bind_of H
        refine reg hP hn hm [(2, .call [] [] [] [] 0 (.tup [.agg (aHist (t3399.1)), iV .i64 t3399.2]) [])] [2, 4, 7, 17, 18, 19] [5, 6] ⟨[(2, .ptr 5 0 0), (4, .ptr 6 0 0), (7, iV .i64 t3399.2), (17, .im (.row (((a0.drop (Int.toNat ((1 : Int)))).take ((Int.toNat ((a0.length : Int))) - (Int.toNat ((1 : Int))))).map eHist))), (18, iV .i64 (((a0.drop (Int.toNat ((1 : Int)))).take ((Int.toNat ((a0.length : Int))) - (Int.toNat ((1 : Int))))).length : Int)), (19, iV .i64 x3389)], [(5, some (.box 25 [iV .i64 0, iV .i64 0, iV .i64 0, iV .u64 0, iV .u64 0, iV .i64 0, .none0, .none0])), (6, some (.box 25 (aHist (t3399.1))))], 0⟩ [Enters Try.prog 21, Pv.Fn Try.prog 21 [.agg (aHist ⟨x3381, x3382, x3383, x3384, x3385, x3386, x3387, x3388⟩), .agg (aHist b3394)] [] 0 (fun r o => r = .tup [.agg (aHist (t3399.1)), iV .i64 t3399.2] ∧ o = [])] (by kernel_rfl) ⟨by exact Try.call21, by exact f_meld_Add.ok (⟨x3381, x3382, x3383, x3384, x3385, x3386, x3387, x3388⟩ : THist) b3394 t3399 e3400, trivial⟩ ?_
        refine AWp.seq ?_
        refine reg hP hn hm [] [2, 4, 7, 17, 18, 19, 30] [5, 6] ⟨[(2, .ptr 5 0 0), (4, .ptr 6 0 0), (7, iV .i64 t3399.2), (17, .im (.row (((a0.drop (Int.toNat ((1 : Int)))).take ((Int.toNat ((a0.length : Int))) - (Int.toNat ((1 : Int))))).map eHist))), (18, iV .i64 (((a0.drop (Int.toNat ((1 : Int)))).take ((Int.toNat ((a0.length : Int))) - (Int.toNat ((1 : Int))))).length : Int)), (19, iV .i64 x3389), (30, bV (t3399.2 != (0 : Int)))], [(5, some (.box 25 [iV .i64 0, iV .i64 0, iV .i64 0, iV .u64 0, iV .u64 0, iV .i64 0, .none0, .none0])), (6, some (.box 25 (aHist (t3399.1))))], 0⟩ [] (by kernel_rfl) trivial ?_
        refine AWp.cond (t3399.2 != (0 : Int)) rfl (fun c3401 => ?_) (fun c3401 => ?_)
        · replace H := (ifT c3401).symm.trans H
          refine AWp.seq ?_
          refine reg hP hn hm [] [2, 3] [5] ⟨[(2, .ptr 5 0 0), (3, iV .i64 t3399.2)], [(5, some (.box 25 [iV .i64 0, iV .i64 0, iV .i64 0, iV .u64 0, iV .u64 0, iV .i64 0, .none0, .none0]))], 0⟩ [] (by kernel_rfl) trivial ?_
          refine AWp.conv (inv := [(5, 0)]) (vk := []) (e0 := []) (t := ⟨[(2, .ptr 0 0 0), (3, iV .i64 t3399.2)], [(0, some (.box 25 (aHist ((⟨0, 0, 0, 0, 0, 0, [], []⟩ : THist)))))], 0⟩) (by kernel_rfl) ?_
          refine AWp.ret ?_
          obtain rfl := Option.some.inj H
          exact Exists.intro _ (And.intro (fun _ _ h => h) (And.intro rfl (And.intro rfl (And.intro (by kernel_rfl) (by kernel_rfl)))))
        · replace H := (ifF c3401).symm.trans H
          refine AWp.skip ?_
          refine reg hP hn hm [] [2, 4, 17, 18, 19] [5, 6] ⟨[(2, .ptr 5 0 0), (4, .ptr 6 0 0), (17, .im (.row (((a0.drop (Int.toNat ((1 : Int)))).take ((Int.toNat ((a0.length : Int))) - (Int.toNat ((1 : Int))))).map eHist))), (18, iV .i64 (((a0.drop (Int.toNat ((1 : Int)))).take ((Int.toNat ((a0.length : Int))) - (Int.toNat ((1 : Int))))).length : Int)), (19, iV .i64 (IntKind.i64.wrap (x3389 + (1 : Int))))], [(5, some (.box 25 [iV .i64 0, iV .i64 0, iV .i64 0, iV .u64 0, iV .u64 0, iV .i64 0, .none0, .none0])), (6, some (.box 25 (aHist (t3399.1))))], 0⟩ [] (by kernel_rfl) trivial ?_
          exact LWp.conv (inv := [(5, 5), (6, 6)]) (vk := []) (e0 := []) (t := ⟨[(2, .ptr 5 0 0), (4, .ptr 6 0 0), (17, .im (.row (((a0.drop (Int.toNat ((1 : Int)))).take ((Int.toNat ((a0.length : Int))) - (Int.toNat ((1 : Int))))).map eHist))), (18, iV .i64 (((a0.drop (Int.toNat ((1 : Int)))).take ((Int.toNat ((a0.length : Int))) - (Int.toNat ((1 : Int))))).length : Int)), (19, iV .i64 (IntKind.i64.wrap (x3389 + (1 : Int))))], [(5, some (.box 25 [iV .i64 0, iV .i64 0, iV .i64 0, iV .u64 0, iV .u64 0, iV .i64 0, .none0, .none0])), (6, some (.box 25 (aHist (t3399.1))))], 0⟩) (by kernel_rfl) (ih _ _ H)
      · replace H := (ifF c3390).symm.trans H
        refine AWp.exit ?_
        obtain rfl := Option.some.inj H
        exact Exists.intro _ (And.intro (fun _ _ h => h.conv (inv := [(5, 8), (6, 9)]) (vk := []) (e0 := []) (t := ⟨[(2, .ptr 8 0 0), (4, .ptr 9 0 0)], [(8, some (.box 25 [iV .i64 0, iV .i64 0, iV .i64 0, iV .u64 0, iV .u64 0, iV .i64 0, .none0, .none0])), (9, some (.box 25 (aHist ⟨x3381, x3382, x3383, x3384, x3385, x3386, x3387, x3388⟩)))], 0⟩) (by kernel_rfl)) (And.intro rfl rfl))
    · rcases o3410 with rr | ⟨x3402, x3403, x3404, x3405, x3406, x3407, x3408, x3409⟩
      · skip
        rintro e s ⟨rfl, hfl, hres⟩
        obtain rfl := Option.some.inj H
        exact Exists.intro _ (And.intro (fun _ _ h => h) (And.intro (.inl rfl) (And.intro hfl hres)))
      · skip
        rintro e s ⟨rfl, rfl⟩
        refine AWp.seq ?_
        refine reg hP hn hm [] [2, 3] [8] ⟨[(2, .ptr 8 0 0), (3, iV .i64 0)], [(8, some (.box 25 (aHist ⟨x3402, x3403, x3404, x3405, x3406, x3407, x3408, x3409⟩)))], 0⟩ [] (by kernel_rfl) trivial ?_
        refine AWp.conv (inv := [(8, 0)]) (vk := []) (e0 := []) (t := ⟨[(2, .ptr 0 0 0), (3, iV .i64 0)], [(0, some (.box 25 (aHist ((⟨x3402, x3403, x3404, x3405, x3406, x3407, x3408, x3409⟩ : THist)))))], 0⟩) (by kernel_rfl) ?_
        refine AWp.ret ?_
        obtain rfl := Option.some.inj H
        exact Exists.intro _ (And.intro (fun _ _ h => h) (And.intro (.inl rfl) (And.intro rfl (And.intro (by kernel_rfl) (by kernel_rfl)))))
def f_pluvialref07_Sum.l0 (a0 : List THist) (v : Int × Int × Int × Int × Int × Int × (List TBucket) × (List TBucket) × Int) : Option ((THist × Int) ⊕ (Int × Int × Int × Int × Int × Int × (List TBucket) × (List TBucket))) := match v with
  | (x3435, x3436, x3437, x3438, x3439, x3440, x3441, x3442, x3443) => if (decide (x3443 < (a0.length : Int))) = true then ((at? a0 x3443) >>= fun b3450 => (f_pluvialref07_Add.f (⟨x3435, x3436, x3437, x3438, x3439, x3440, x3441, x3442⟩ : THist) b3450) >>= fun t3453 => if (t3453.2 != (0 : Int)) = true then (some (.inl ((⟨0, 0, 0, 0, 0, 0, [], []⟩ : THist), t3453.2))) else (f_pluvialref07_Sum.l0 a0 ((t3453.1).f0, (t3453.1).f1, (t3453.1).f2, (t3453.1).f3, (t3453.1).f4, (t3453.1).f5, (t3453.1).f6, (t3453.1).f7, IntKind.i64.wrap (x3443 + (1 : Int))))) else (some (.inr (x3435, x3436, x3437, x3438, x3439, x3440, x3441, x3442)))
partial_fixpoint
def f_pluvialref07_Sum.f (a0 : List THist) : Option (THist × Int) := if ((a0.length : Int) == (0 : Int)) = true then (some ((⟨0, 0, 0, 0, 0, 0, [], []⟩ : THist), 30)) else ((at? a0 0) >>= fun b3420 => (f_pluvialref07_Sum.l0 a0 (b3420.f0, b3420.f1, b3420.f2, b3420.f3, b3420.f4, b3420.f5, b3420.f6, b3420.f7, 1)) >>= fun oo => match oo with | .inl rr => (some rr) | .inr (x3456, x3457, x3458, x3459, x3460, x3461, x3462, x3463) => (some ((⟨x3456, x3457, x3458, x3459, x3460, x3461, x3462, x3463⟩ : THist), 0)))
theorem f_pluvialref07_Sum.ok (a0 : List THist) (r : THist × Int) (H : f_pluvialref07_Sum.f a0 = some r) : Pv.Fn Try.prog 30 [.im (.row (a0.map eHist))] [] 0 (fun x o => x = .tup [.agg (aHist (r.1)), iV .i64 r.2] ∧ o = []) := by
  unfold f_pluvialref07_Sum.f at H
  refine Fn.bodyK [] Try.func30 rfl rfl (fun Γ hP hn => ?_)
  have hm : Try.prog.follows .mixedOrders = true := by kernel_rfl
  replace hn : Γ.n = 36 := hn
  refine AWp.seq ?_
  refine reg hP hn hm [(0, .k 0)] [0, 2] [0] ⟨[(0, .im (.row (a0.map eHist))), (2, .ptr 0 0 0)], [(0, some (.box 25 [iV .i64 0, iV .i64 0, iV .i64 0, iV .u64 0, iV .u64 0, iV .i64 0, .none0, .none0]))], 0⟩ [] (by kernel_rfl) trivial ?_
  refine AWp.seq ?_
  refine AWp.seq ?_
  refine reg hP hn hm [(1, .any (iV .i64 (a0.length : Int)))] [0, 2, 10] [0] ⟨[(0, .im (.row (a0.map eHist))), (2, .ptr 0 0 0), (10, bV ((a0.length : Int) == (0 : Int)))], [(0, some (.box 25 [iV .i64 0, iV .i64 0, iV .i64 0, iV .u64 0, iV .u64 0, iV .i64 0, .none0, .none0]))], 0⟩ [((a0.map eHist).length : Int) = (a0.length : Int)] (by kernel_rfl) ⟨by rw [len_map], trivial⟩ ?_
  refine AWp.cond ((a0.length : Int) == (0 : Int)) rfl (fun c3416 => ?_) (fun c3416 => ?_)
  · replace H := (ifT c3416).symm.trans H
    refine AWp.seq ?_
    refine reg hP hn hm [] [2, 3] [0] ⟨[(2, .ptr 0 0 0), (3, iV .i64 30)], [(0, some (.box 25 [iV .i64 0, iV .i64 0, iV .i64 0, iV .u64 0, iV .u64 0, iV .i64 0, .none0, .none0]))], 0⟩ [] (by kernel_rfl) trivial ?_
    refine AWp.conv (inv := [(0, 0)]) (vk := []) (e0 := []) (t := ⟨[(2, .ptr 0 0 0), (3, iV .i64 30)], [(0, some (.box 25 (aHist ((⟨0, 0, 0, 0, 0, 0, [], []⟩ : THist)))))], 0⟩) (by kernel_rfl) ?_
    refine AWp.ret ?_
    obtain rfl := Option.some.inj H
    exact Exists.intro _ (And.intro (fun _ _ h => h) (And.intro (.inl rfl) (And.intro rfl (And.intro (by kernel_rfl) (by kernel_rfl)))))
  · replace H := (ifF c3416).symm.trans H
    refine AWp.skip ?_
    refine AWp.seq ?_
    obtain ⟨b3420, p3421, q3422, H⟩ := at_of H
    refine reg hP hn hm [(1, .c (eHist b3420)), (3, .k 1)] [0, 2, 4] [0, 1] ⟨[(0, .im (.row (a0.map eHist))), (2, .ptr 0 0 0), (4, .ptr 1 0 0)], [(0, some (.box 25 [iV .i64 0, iV .i64 0, iV .i64 0, iV .u64 0, iV .u64 0, iV .i64 0, .none0, .none0])), (1, some (.box 25 (aHist b3420)))], 0⟩ [0 ≤ (0 : Int), (a0.map eHist)[(Int.toNat (0))]? = some (eHist b3420)] (by kernel_rfl) ⟨by exact p3421, by exact el_map eHist q3422, trivial⟩ ?_
    refine AWp.seq ?_
    refine AWp.seq ?_
    refine reg hP hn hm [] [0, 2, 4, 5] [0, 1] ⟨[(0, .im (.row (a0.map eHist))), (2, .ptr 0 0 0), (4, .ptr 1 0 0), (5, iV .i64 1)], [(0, some (.box 25 [iV .i64 0, iV .i64 0, iV .i64 0, iV .u64 0, iV .u64 0, iV .i64 0, .none0, .none0])), (1, some (.box 25 (aHist b3420)))], 0⟩ [] (by kernel_rfl) trivial ?_
    refine AWp.block ?_
    obtain ⟨o3464, e3465, H⟩ := bind_of H
    refine AWp.loop (LWp.conv (inv := [(0, 5), (1, 6)]) (vk := []) (e0 := []) (t := ⟨[(0, .im (.row (a0.map eHist))), (2, .ptr 5 0 0), (4, .ptr 6 0 0), (5, iV .i64 1)], [(5, some (.box 25 [iV .i64 0, iV .i64 0, iV .i64 0, iV .u64 0, iV .u64 0, iV .i64 0, .none0, .none0])), (6, some (.box 25 (aHist b3420)))], 0⟩) (by kernel_rfl) ?_)
    refine LWp.mono (Q := fun e s => (match (generalizing := false) o3464 with | .inl rr => e = .ret ∧ s.floor = 0 ∧ resOf Try.prog Try.f30 s = some (.tup [.agg (aHist (rr.1)), iV .i64 rr.2]) ∧ ([] : List (Nat × Option MObj)) = [] | .inr (x3456, x3457, x3458, x3459, x3460, x3461, x3462, x3463) => e = .exit 0 ∧ s = ⟨[(2, .ptr 10 0 0), (4, .ptr 11 0 0)], [(10, some (.box 25 [iV .i64 0, iV .i64 0, iV .i64 0, iV .u64 0, iV .u64 0, iV .i64 0, .none0, .none0])), (11, some (.box 25 (aHist ⟨x3456, x3457, x3458, x3459, x3460, x3461, x3462, x3463⟩)))], 0⟩)) (LWp.cv (withBody (fun body hbody => ?_))) ?_
    · refine f_pluvialref07_Sum.l0.partial_correctness a0 (motive := fun v o3464 => (match (generalizing := false) v with | (x3435, x3436, x3437, x3438, x3439, x3440, x3441, x3442, x3443) => LWp Γ body (fun e s => ∃ t, Cv Γ s t ∧ (match (generalizing := false) o3464 with | .inl rr => e = .ret ∧ t.floor = 0 ∧ resOf Try.prog Try.f30 t = some (.tup [.agg (aHist (rr.1)), iV .i64 rr.2]) ∧ ([] : List (Nat × Option MObj)) = [] | .inr (x3456, x3457, x3458, x3459, x3460, x3461, x3462, x3463) => e = .exit 0 ∧ t = ⟨[(2, .ptr 10 0 0), (4, .ptr 11 0 0)], [(10, some (.box 25 [iV .i64 0, iV .i64 0, iV .i64 0, iV .u64 0, iV .u64 0, iV .i64 0, .none0, .none0])), (11, some (.box 25 (aHist ⟨x3456, x3457, x3458, x3459, x3460, x3461, x3462, x3463⟩)))], 0⟩)) ⟨[(0, .im (.row (a0.map eHist))), (2, .ptr 5 0 0), (4, .ptr 6 0 0), (5, iV .i64 x3443)], [(5, some (.box 25 [iV .i64 0, iV .i64 0, iV .i64 0, iV .u64 0, iV .u64 0, iV .i64 0, .none0, .none0])), (6, some (.box 25 (aHist ⟨x3435, x3436, x3437, x3438, x3439, x3440, x3441, x3442⟩)))], 0⟩)) ?_ _ _ e3465
      clear H e3465 o3464; intro self ih v o3464 H
      obtain ⟨x3435, x3436, x3437, x3438, x3439, x3440, x3441, x3442, x3443⟩ := v
      dsimp only at H
      subst hbody
      refine LWp.round ?_
      refine AWp.seq ?_
      refine AWp.seq ?_
      refine reg hP hn hm [(2, .any (iV .i64 (a0.length : Int)))] [0, 2, 4, 5, 18] [5, 6] ⟨[(0, .im (.row (a0.map eHist))), (2, .ptr 5 0 0), (4, .ptr 6 0 0), (5, iV .i64 x3443), (18, bV (decide (x3443 < (a0.length : Int))))], [(5, some (.box 25 [iV .i64 0, iV .i64 0, iV .i64 0, iV .u64 0, iV .u64 0, iV .i64 0, .none0, .none0])), (6, some (.box 25 (aHist ⟨x3435, x3436, x3437, x3438, x3439, x3440, x3441, x3442⟩)))], 0⟩ [((a0.map eHist).length : Int) = (a0.length : Int)] (by kernel_rfl) ⟨by rw [len_map], trivial⟩ ?_
      refine AWp.cond (decide (x3443 < (a0.length : Int))) rfl (fun c3444 => ?_) (fun c3444 => ?_)
      · replace H := (ifT c3444).symm.trans H
        refine AWp.skip ?_
        refine AWp.seq ?_
        refine AWp.block ?_
        refine AWp.seq ?_
        obtain ⟨b3450, p3451, q3452, H⟩ := at_of H
        obtain ⟨t3453, e3454, H⟩ := bind_of H
        refine reg hP hn hm [(3, .c (eHist b3450)), (5, .call [] [(0, 7), (1, 8)] [] [7, 8] 0 (.tup [.agg [iV .i64 ((t3453.1).f0), iV .i64 ((t3453.1).f1), iV .i64 ((t3453.1).f2), iV .u64 ((t3453.1).f3), iV .u64 ((t3453.1).f4), iV .i64 ((t3453.1).f5), .own 0, .own 1], iV .i64 t3453.2]) [(0, some (.row 2 54 (((t3453.1).f6).map eBucket))), (1, some (.row 2 54 (((t3453.1).f7).map eBucket)))]), (9, .k 9)] [0, 2, 4, 5, 6, 7] [5, 6, 7, 8, 9] ⟨[(0, .im (.row (a0.map eHist))), (2, .ptr 5 0 0), (4, .ptr 6 0 0), (5, iV .i64 x3443), (6, .ptr 9 0 0), (7, iV .i64 t3453.2)], [(5, some (.box 25 [iV .i64 0, iV .i64 0, iV .i64 0, iV .u64 0, iV .u64 0, iV .i64 0, .none0, .none0])), (6, some (.box 25 (aHist ⟨x3435, x3436, x3437, x3438, x3439, x3440, x3441, x3442⟩))), (7, some (.row 2 54 (((t3453.1).f6).map eBucket))), (8, some (.row 2 54 (((t3453.1).f7).map eBucket))), (9, some (.box 25 [iV .i64 ((t3453.1).f0), iV .i64 ((t3453.1).f1), iV .i64 ((t3453.1).f2), iV .u64 ((t3453.1).f3), iV .u64 ((t3453.1).f4), iV .i64 ((t3453.1).f5), .own 7, .own 8]))], 0⟩ [0 ≤ x3443, (a0.map eHist)[(Int.toNat (x3443))]? = some (eHist b3450), Enters Try.prog 22, Pv.Fn Try.prog 22 [.agg (aHist ⟨x3435, x3436, x3437, x3438, x3439, x3440, x3441, x3442⟩), .agg (aHist b3450)] [] 0 (fun r o => r = .tup [.agg [iV .i64 ((t3453.1).f0), iV .i64 ((t3453.1).f1), iV .i64 ((t3453.1).f2), iV .u64 ((t3453.1).f3), iV .u64 ((t3453.1).f4), iV .i64 ((t3453.1).f5), .own 0, .own 1], iV .i64 t3453.2] ∧ o = [(0, some (.row 2 54 (((t3453.1).f6).map eBucket))), (1, some (.row 2 54 (((t3453.1).f7).map eBucket)))])] (by kernel_rfl) ⟨by exact p3451, by exact el_map eHist q3452, by exact Try.call22, by exact f_pluvialref07_Add.ok (⟨x3435, x3436, x3437, x3438, x3439, x3440, x3441, x3442⟩ : THist) b3450 t3453 e3454, trivial⟩ ?_
        refine AWp.seq ?_
        refine AWp.seq ?_
        refine reg hP hn hm [] [0, 2, 4, 5, 6, 7, 31] [5, 6, 7, 8, 9] ⟨[(0, .im (.row (a0.map eHist))), (2, .ptr 5 0 0), (4, .ptr 6 0 0), (5, iV .i64 x3443), (6, .ptr 9 0 0), (7, iV .i64 t3453.2), (31, bV (t3453.2 != (0 : Int)))], [(5, some (.box 25 [iV .i64 0, iV .i64 0, iV .i64 0, iV .u64 0, iV .u64 0, iV .i64 0, .none0, .none0])), (6, some (.box 25 (aHist ⟨x3435, x3436, x3437, x3438, x3439, x3440, x3441, x3442⟩))), (7, some (.row 2 54 (((t3453.1).f6).map eBucket))), (8, some (.row 2 54 (((t3453.1).f7).map eBucket))), (9, some (.box 25 [iV .i64 ((t3453.1).f0), iV .i64 ((t3453.1).f1), iV .i64 ((t3453.1).f2), iV .u64 ((t3453.1).f3), iV .u64 ((t3453.1).f4), iV .i64 ((t3453.1).f5), .own 7, .own 8]))], 0⟩ [] (by kernel_rfl) trivial ?_
        refine AWp.cond (t3453.2 != (0 : Int)) rfl (fun c3455 => ?_) (fun c3455 => ?_)
        · replace H := (ifT c3455).symm.trans H
          refine AWp.seq ?_
          refine reg hP hn hm [] [2, 3] [5] ⟨[(2, .ptr 5 0 0), (3, iV .i64 t3453.2)], [(5, some (.box 25 [iV .i64 0, iV .i64 0, iV .i64 0, iV .u64 0, iV .u64 0, iV .i64 0, .none0, .none0]))], 0⟩ [] (by kernel_rfl) trivial ?_
          refine AWp.conv (inv := [(5, 0)]) (vk := []) (e0 := []) (t := ⟨[(2, .ptr 0 0 0), (3, iV .i64 t3453.2)], [(0, some (.box 25 (aHist ((⟨0, 0, 0, 0, 0, 0, [], []⟩ : THist)))))], 0⟩) (by kernel_rfl) ?_
          refine AWp.ret ?_
          obtain rfl := Option.some.inj H
          exact Exists.intro _ (And.intro (fun _ _ h => h) (And.intro rfl (And.intro rfl (And.intro (by kernel_rfl) (by kernel_rfl)))))
        · replace H := (ifF c3455).symm.trans H
          refine AWp.skip ?_
          refine reg hP hn hm [] [0, 2, 4, 5] [5, 6, 7, 8] ⟨[(0, .im (.row (a0.map eHist))), (2, .ptr 5 0 0), (4, .ptr 6 0 0), (5, iV .i64 x3443)], [(5, some (.box 25 [iV .i64 0, iV .i64 0, iV .i64 0, iV .u64 0, iV .u64 0, iV .i64 0, .none0, .none0])), (6, some (.box 25 [iV .i64 ((t3453.1).f0), iV .i64 ((t3453.1).f1), iV .i64 ((t3453.1).f2), iV .u64 ((t3453.1).f3), iV .u64 ((t3453.1).f4), iV .i64 ((t3453.1).f5), .own 7, .own 8])), (7, some (.row 2 54 (((t3453.1).f6).map eBucket))), (8, some (.row 2 54 (((t3453.1).f7).map eBucket)))], 0⟩ [] (by kernel_rfl) trivial ?_
          refine reg hP hn hm [] [0, 2, 4, 5] [5, 6, 7, 8] ⟨[(0, .im (.row (a0.map eHist))), (2, .ptr 5 0 0), (4, .ptr 6 0 0), (5, iV .i64 (IntKind.i64.wrap (x3443 + (1 : Int))))], [(5, some (.box 25 [iV .i64 0, iV .i64 0, iV .i64 0, iV .u64 0, iV .u64 0, iV .i64 0, .none0, .none0])), (6, some (.box 25 [iV .i64 ((t3453.1).f0), iV .i64 ((t3453.1).f1), iV .i64 ((t3453.1).f2), iV .u64 ((t3453.1).f3), iV .u64 ((t3453.1).f4), iV .i64 ((t3453.1).f5), .own 7, .own 8])), (7, some (.row 2 54 (((t3453.1).f6).map eBucket))), (8, some (.row 2 54 (((t3453.1).f7).map eBucket)))], 0⟩ [] (by kernel_rfl) trivial ?_
          exact LWp.conv (inv := [(5, 5), (6, 6)]) (vk := [7, 8]) (e0 := []) (t := ⟨[(0, .im (.row (a0.map eHist))), (2, .ptr 5 0 0), (4, .ptr 6 0 0), (5, iV .i64 (IntKind.i64.wrap (x3443 + (1 : Int))))], [(5, some (.box 25 [iV .i64 0, iV .i64 0, iV .i64 0, iV .u64 0, iV .u64 0, iV .i64 0, .none0, .none0])), (6, some (.box 25 (aHist (t3453.1))))], 0⟩) (by kernel_rfl) (ih _ _ H)
      · replace H := (ifF c3444).symm.trans H
        refine AWp.exit ?_
        obtain rfl := Option.some.inj H
        exact Exists.intro _ (And.intro (fun _ _ h => h.conv (inv := [(5, 10), (6, 11)]) (vk := []) (e0 := []) (t := ⟨[(2, .ptr 10 0 0), (4, .ptr 11 0 0)], [(10, some (.box 25 [iV .i64 0, iV .i64 0, iV .i64 0, iV .u64 0, iV .u64 0, iV .i64 0, .none0, .none0])), (11, some (.box 25 (aHist ⟨x3435, x3436, x3437, x3438, x3439, x3440, x3441, x3442⟩)))], 0⟩) (by kernel_rfl)) (And.intro rfl rfl))
    · rcases o3464 with rr | ⟨x3456, x3457, x3458, x3459, x3460, x3461, x3462, x3463⟩
      · skip
        rintro e s ⟨rfl, hfl, hres⟩
        obtain rfl := Option.some.inj H
        exact Exists.intro _ (And.intro (fun _ _ h => h) (And.intro (.inl rfl) (And.intro hfl hres)))
      · skip
        rintro e s ⟨rfl, rfl⟩
        refine AWp.seq ?_
        refine reg hP hn hm [] [2, 3] [10] ⟨[(2, .ptr 10 0 0), (3, iV .i64 0)], [(10, some (.box 25 (aHist ⟨x3456, x3457, x3458, x3459, x3460, x3461, x3462, x3463⟩)))], 0⟩ [] (by kernel_rfl) trivial ?_
        refine AWp.conv (inv := [(10, 0)]) (vk := []) (e0 := []) (t := ⟨[(2, .ptr 0 0 0), (3, iV .i64 0)], [(0, some (.box 25 (aHist ((⟨x3456, x3457, x3458, x3459, x3460, x3461, x3462, x3463⟩ : THist)))))], 0⟩) (by kernel_rfl) ?_
        refine AWp.ret ?_
        obtain rfl := Option.some.inj H
        exact Exists.intro _ (And.intro (fun _ _ h => h) (And.intro (.inl rfl) (And.intro rfl (And.intro (by kernel_rfl) (by kernel_rfl)))))
def f_pluviallaw07_MeldRises.f (a0 : List THist) : Option (Bool) := ((if (decide ((a0.length : Int) > (12 : Int))) = true then (some true) else ((f_pluviallaw07_right.f a0) >>= fun t3217 => some (!t3217))) : Option (Bool)) >>= fun x3219 => if x3219 = true then ((f_pluviallaw07_awake.f) >>= fun t3223 => some t3223) else ((f_meld_Rise.f a0) >>= fun t3227 => (f_pluvialref07_Rise.f a0) >>= fun t3344 => ((if (t3227.2 != t3344.2) = true then (some true) else ((f_pluvialref05_Same.f (t3227.1) (t3344.1)) >>= fun t3350 => some (!t3350))) : Option (Bool)) >>= fun x3352 => if x3352 = true then (some false) else ((f_meld_Sum.f a0) >>= fun t3414 => (f_pluvialref07_Sum.f a0) >>= fun t3468 => (((f_pluviallaw07_awake.f) >>= fun t3476 => if t3476 = true then (if (t3414.2 == t3468.2) = true then ((f_pluvialref05_Same.f (t3414.1) (t3468.1)) >>= fun t3480 => some t3480) else (some false)) else (some false)) : Option (Bool)) >>= fun x3482 => some x3482))
theorem f_pluviallaw07_MeldRises.ok (a0 : List THist) (r : Bool) (H : f_pluviallaw07_MeldRises.f a0 = some r) : Pv.Fn Try.prog 8 [.im (.row (a0.map eHist))] [] 0 (fun x o => x = bV r ∧ o = []) := by
  unfold f_pluviallaw07_MeldRises.f at H
  refine Fn.bodyK [] Try.func8 rfl rfl (fun Γ hP hn => ?_)
  have hm : Try.prog.follows .mixedOrders = true := by kernel_rfl
  replace hn : Γ.n = 56 := hn
  refine AWp.seq ?_
  refine reg hP hn hm [] [0] [] ⟨[(0, .im (.row (a0.map eHist)))], [], 0⟩ [] (by kernel_rfl) trivial ?_
  refine AWp.seq ?_
  refine AWp.seq ?_
  obtain ⟨o3483, e3484, H⟩ := bind_of H
  refine AWp.mono (Q := fun e s => (match (generalizing := false) o3483 with | x3219 => e = .normal ∧ s = ⟨[(0, .im (.row (a0.map eHist))), (14, bV x3219)], [], 0⟩)) (AWp.cv ?_) ?_
  · replace H := e3484; clear e3484
    rcases Bool.eq_false_or_eq_true (decide ((a0.length : Int) > (12 : Int))) with c3216 | c3216
    · replace H := (ifT c3216).symm.trans H
      refine reg hP hn hm [(1, .any (iV .i64 (a0.length : Int))), (3, .b true)] [0, 14] [] ⟨[(0, .im (.row (a0.map eHist))), (14, bV true)], [], 0⟩ [((a0.map eHist).length : Int) = (a0.length : Int), (decide ((a0.length : Int) > (12 : Int))) = true] (by kernel_rfl) ⟨by rw [len_map], by exact c3216, trivial⟩ ?_
      obtain rfl := Option.some.inj H
      exact Exists.intro _ (And.intro (fun _ _ h => h.conv (inv := []) (vk := []) (e0 := []) (t := ⟨[(0, .im (.row (a0.map eHist))), (14, bV true)], [], 0⟩) (by kernel_rfl)) (And.intro rfl rfl))
    · replace H := (ifF c3216).symm.trans H
      obtain ⟨t3217, e3218, H⟩ := bind_of H
      refine reg hP hn hm [(1, .any (iV .i64 (a0.length : Int))), (3, .b false), (5, .call [] [] [] [] 0 (bV t3217) [])] [0, 14] [] ⟨[(0, .im (.row (a0.map eHist))), (14, bV (!t3217))], [], 0⟩ [((a0.map eHist).length : Int) = (a0.length : Int), (decide ((a0.length : Int) > (12 : Int))) = false, Enters Try.prog 10, Pv.Fn Try.prog 10 [.im (.row (a0.map eHist))] [] 0 (fun r o => r = bV t3217 ∧ o = [])] (by kernel_rfl) ⟨by rw [len_map], by exact c3216, by exact Try.call10, by exact f_pluviallaw07_right.ok a0 t3217 e3218, trivial⟩ ?_
      obtain rfl := Option.some.inj H
      exact Exists.intro _ (And.intro (fun _ _ h => h.conv (inv := []) (vk := []) (e0 := []) (t := ⟨[(0, .im (.row (a0.map eHist))), (14, bV (!t3217))], [], 0⟩) (by kernel_rfl)) (And.intro rfl rfl))
  · obtain ⟨x3219, rfl⟩ : ∃ z, z = o3483 := ⟨_, rfl⟩
    rintro e s ⟨rfl, rfl⟩
    refine AWp.cond x3219 rfl (fun c3220 => ?_) (fun c3220 => ?_)
    · replace H := (ifT c3220).symm.trans H
      refine AWp.seq ?_
      obtain ⟨t3223, e3224, H⟩ := bind_of H
      refine reg hP hn hm [(0, .call [] [] [] [] 0 (bV t3223) [])] [2] [] ⟨[(2, bV t3223)], [], 0⟩ [Enters Try.prog 11, Pv.Fn Try.prog 11 [] [] 0 (fun r o => r = bV t3223 ∧ o = [])] (by kernel_rfl) ⟨by exact Try.call11, by exact f_pluviallaw07_awake.ok  t3223 e3224, trivial⟩ ?_
      refine AWp.conv (inv := []) (vk := []) (e0 := []) (t := ⟨[(2, bV t3223)], [], 0⟩) (by kernel_rfl) ?_
      refine AWp.ret ?_
      obtain rfl := Option.some.inj H
      exact Exists.intro _ (And.intro (fun _ _ h => h) (And.intro (.inl rfl) (And.intro rfl (And.intro (by kernel_rfl) (by kernel_rfl)))))
    · replace H := (ifF c3220).symm.trans H
      refine AWp.skip ?_
      refine AWp.seq ?_
      obtain ⟨t3227, e3228, H⟩ := bind_of H
      refine reg hP hn hm [(1, .call [] [] [] [] 0 (.tup [.agg (aHist (t3227.1)), iV .i64 t3227.2]) []), (5, .k 0)] [0, 3, 4] [0] ⟨[(0, .im (.row (a0.map eHist))), (3, .ptr 0 0 0), (4, iV .i64 t3227.2)], [(0, some (.box 25 (aHist (t3227.1))))], 0⟩ [Enters Try.prog 27, Pv.Fn Try.prog 27 [.im (.row (a0.map eHist))] [] 0 (fun r o => r = .tup [.agg (aHist (t3227.1)), iV .i64 t3227.2] ∧ o = [])] (by kernel_rfl) ⟨by exact Try.call27, by exact f_meld_Rise.ok a0 t3227 e3228, trivial⟩ ?_
      refine AWp.seq ?_
      obtain ⟨t3344, e3345, H⟩ := bind_of H
      refine reg hP hn hm [(1, .call [] [(0, 1), (1, 2)] [] [1, 2] 0 (.tup [.agg [iV .i64 ((t3344.1).f0), iV .i64 ((t3344.1).f1), iV .i64 ((t3344.1).f2), iV .u64 ((t3344.1).f3), iV .u64 ((t3344.1).f4), iV .i64 ((t3344.1).f5), .own 0, .own 1], iV .i64 t3344.2]) [(0, some (.row 2 54 (((t3344.1).f6).map eBucket))), (1, some (.row 2 54 (((t3344.1).f7).map eBucket)))]), (5, .k 3)] [0, 3, 4, 5, 6] [0, 1, 2, 3] ⟨[(0, .im (.row (a0.map eHist))), (3, .ptr 0 0 0), (4, iV .i64 t3227.2), (5, .ptr 3 0 0), (6, iV .i64 t3344.2)], [(0, some (.box 25 (aHist (t3227.1)))), (1, some (.row 2 54 (((t3344.1).f6).map eBucket))), (2, some (.row 2 54 (((t3344.1).f7).map eBucket))), (3, some (.box 25 [iV .i64 ((t3344.1).f0), iV .i64 ((t3344.1).f1), iV .i64 ((t3344.1).f2), iV .u64 ((t3344.1).f3), iV .u64 ((t3344.1).f4), iV .i64 ((t3344.1).f5), .own 1, .own 2]))], 0⟩ [Enters Try.prog 28, Pv.Fn Try.prog 28 [.im (.row (a0.map eHist))] [] 0 (fun r o => r = .tup [.agg [iV .i64 ((t3344.1).f0), iV .i64 ((t3344.1).f1), iV .i64 ((t3344.1).f2), iV .u64 ((t3344.1).f3), iV .u64 ((t3344.1).f4), iV .i64 ((t3344.1).f5), .own 0, .own 1], iV .i64 t3344.2] ∧ o = [(0, some (.row 2 54 (((t3344.1).f6).map eBucket))), (1, some (.row 2 54 (((t3344.1).f7).map eBucket)))])] (by kernel_rfl) ⟨by exact Try.call28, by exact f_pluvialref07_Rise.ok a0 t3344 e3345, trivial⟩ ?_
      refine AWp.seq ?_
      refine AWp.seq ?_
      obtain ⟨o3485, e3486, H⟩ := bind_of H
      refine AWp.mono (Q := fun e s => (match (generalizing := false) o3485 with | x3352 => e = .normal ∧ s = ⟨[(0, .im (.row (a0.map eHist))), (3, .ptr 4 0 0), (5, .ptr 5 0 0), (34, bV x3352)], [(4, some (.box 25 (aHist (t3227.1)))), (5, some (.box 25 [iV .i64 ((t3344.1).f0), iV .i64 ((t3344.1).f1), iV .i64 ((t3344.1).f2), iV .u64 ((t3344.1).f3), iV .u64 ((t3344.1).f4), iV .i64 ((t3344.1).f5), .own 6, .own 7])), (6, some (.row 2 54 (((t3344.1).f6).map eBucket))), (7, some (.row 2 54 (((t3344.1).f7).map eBucket)))], 0⟩)) (AWp.cv ?_) ?_
      · replace H := e3486; clear e3486
        rcases Bool.eq_false_or_eq_true (t3227.2 != t3344.2) with c3349 | c3349
        · replace H := (ifT c3349).symm.trans H
          refine reg hP hn hm [(3, .b true)] [0, 3, 5, 34] [0, 1, 2, 3] ⟨[(0, .im (.row (a0.map eHist))), (3, .ptr 0 0 0), (5, .ptr 3 0 0), (34, bV true)], [(0, some (.box 25 (aHist (t3227.1)))), (1, some (.row 2 54 (((t3344.1).f6).map eBucket))), (2, some (.row 2 54 (((t3344.1).f7).map eBucket))), (3, some (.box 25 [iV .i64 ((t3344.1).f0), iV .i64 ((t3344.1).f1), iV .i64 ((t3344.1).f2), iV .u64 ((t3344.1).f3), iV .u64 ((t3344.1).f4), iV .i64 ((t3344.1).f5), .own 1, .own 2]))], 0⟩ [(t3227.2 != t3344.2) = true] (by kernel_rfl) ⟨by exact c3349, trivial⟩ ?_
          obtain rfl := Option.some.inj H
          exact Exists.intro _ (And.intro (fun _ _ h => h.conv (inv := [(0, 4), (3, 5), (1, 6), (2, 7)]) (vk := []) (e0 := []) (t := ⟨[(0, .im (.row (a0.map eHist))), (3, .ptr 4 0 0), (5, .ptr 5 0 0), (34, bV true)], [(4, some (.box 25 (aHist (t3227.1)))), (5, some (.box 25 [iV .i64 ((t3344.1).f0), iV .i64 ((t3344.1).f1), iV .i64 ((t3344.1).f2), iV .u64 ((t3344.1).f3), iV .u64 ((t3344.1).f4), iV .i64 ((t3344.1).f5), .own 6, .own 7])), (6, some (.row 2 54 (((t3344.1).f6).map eBucket))), (7, some (.row 2 54 (((t3344.1).f7).map eBucket)))], 0⟩) (by kernel_rfl)) (And.intro rfl rfl))
        · replace H := (ifF c3349).symm.trans H
          obtain ⟨t3350, e3351, H⟩ := bind_of H
          refine reg hP hn hm [(3, .b false), (6, .call [] [] [1, 2] [] 0 (bV t3350) [])] [0, 3, 5, 34] [0, 1, 2, 3] ⟨[(0, .im (.row (a0.map eHist))), (3, .ptr 0 0 0), (5, .ptr 3 0 0), (34, bV (!t3350))], [(0, some (.box 25 (aHist (t3227.1)))), (1, some (.row 2 54 (((t3344.1).f6).map eBucket))), (2, some (.row 2 54 (((t3344.1).f7).map eBucket))), (3, some (.box 25 [iV .i64 ((t3344.1).f0), iV .i64 ((t3344.1).f1), iV .i64 ((t3344.1).f2), iV .u64 ((t3344.1).f3), iV .u64 ((t3344.1).f4), iV .i64 ((t3344.1).f5), .own 1, .own 2]))], 0⟩ [(t3227.2 != t3344.2) = false, Enters Try.prog 17, Pv.Fn Try.prog 17 [.agg (aHist (t3227.1)), .agg (aHist (t3344.1))] [] 0 (fun r o => r = bV t3350 ∧ o = [])] (by kernel_rfl) ⟨by exact c3349, by exact Try.call17, by exact f_pluvialref05_Same.ok (t3227.1) (t3344.1) t3350 e3351, trivial⟩ ?_
          obtain rfl := Option.some.inj H
          exact Exists.intro _ (And.intro (fun _ _ h => h.conv (inv := [(0, 4), (3, 5), (1, 6), (2, 7)]) (vk := []) (e0 := []) (t := ⟨[(0, .im (.row (a0.map eHist))), (3, .ptr 4 0 0), (5, .ptr 5 0 0), (34, bV (!t3350))], [(4, some (.box 25 (aHist (t3227.1)))), (5, some (.box 25 [iV .i64 ((t3344.1).f0), iV .i64 ((t3344.1).f1), iV .i64 ((t3344.1).f2), iV .u64 ((t3344.1).f3), iV .u64 ((t3344.1).f4), iV .i64 ((t3344.1).f5), .own 6, .own 7])), (6, some (.row 2 54 (((t3344.1).f6).map eBucket))), (7, some (.row 2 54 (((t3344.1).f7).map eBucket)))], 0⟩) (by kernel_rfl)) (And.intro rfl rfl))
      · obtain ⟨x3352, rfl⟩ : ∃ z, z = o3485 := ⟨_, rfl⟩
        rintro e s ⟨rfl, rfl⟩
        refine AWp.cond x3352 rfl (fun c3353 => ?_) (fun c3353 => ?_)
        · replace H := (ifT c3353).symm.trans H
          refine AWp.seq ?_
          refine reg hP hn hm [] [2] [] ⟨[(2, bV false)], [], 0⟩ [] (by kernel_rfl) trivial ?_
          refine AWp.conv (inv := []) (vk := []) (e0 := []) (t := ⟨[(2, bV false)], [], 0⟩) (by kernel_rfl) ?_
          refine AWp.ret ?_
          obtain rfl := Option.some.inj H
          exact Exists.intro _ (And.intro (fun _ _ h => h) (And.intro (.inl rfl) (And.intro rfl (And.intro (by kernel_rfl) (by kernel_rfl)))))
        · replace H := (ifF c3353).symm.trans H
          refine AWp.skip ?_
          refine AWp.seq ?_
          obtain ⟨t3414, e3415, H⟩ := bind_of H
          refine reg hP hn hm [(1, .call [] [] [] [] 0 (.tup [.agg (aHist (t3414.1)), iV .i64 t3414.2]) [])] [0, 3, 4, 5] [4, 5, 6, 7] ⟨[(0, .im (.row (a0.map eHist))), (3, .ptr 4 0 0), (4, iV .i64 t3414.2), (5, .ptr 5 0 0)], [(4, some (.box 25 (aHist (t3414.1)))), (5, some (.box 25 [iV .i64 ((t3344.1).f0), iV .i64 ((t3344.1).f1), iV .i64 ((t3344.1).f2), iV .u64 ((t3344.1).f3), iV .u64 ((t3344.1).f4), iV .i64 ((t3344.1).f5), .own 6, .own 7])), (6, some (.row 2 54 (((t3344.1).f6).map eBucket))), (7, some (.row 2 54 (((t3344.1).f7).map eBucket)))], 0⟩ [Enters Try.prog 29, Pv.Fn Try.prog 29 [.im (.row (a0.map eHist))] [] 0 (fun r o => r = .tup [.agg (aHist (t3414.1)), iV .i64 t3414.2] ∧ o = [])] (by kernel_rfl) ⟨by exact Try.call29, by exact f_meld_Sum.ok a0 t3414 e3415, trivial⟩ ?_
          refine AWp.seq ?_
          obtain ⟨t3468, e3469, H⟩ := bind_of H
          refine reg hP hn hm [(1, .call [] [] [] [] 0 (.tup [.agg (aHist (t3468.1)), iV .i64 t3468.2]) [])] [3, 4, 5, 6] [4, 5] ⟨[(3, .ptr 4 0 0), (4, iV .i64 t3414.2), (5, .ptr 5 0 0), (6, iV .i64 t3468.2)], [(4, some (.box 25 (aHist (t3414.1)))), (5, some (.box 25 (aHist (t3468.1))))], 0⟩ [Enters Try.prog 30, Pv.Fn Try.prog 30 [.im (.row (a0.map eHist))] [] 0 (fun r o => r = .tup [.agg (aHist (t3468.1)), iV .i64 t3468.2] ∧ o = [])] (by kernel_rfl) ⟨by exact Try.call30, by exact f_pluvialref07_Sum.ok a0 t3468 e3469, trivial⟩ ?_
          refine AWp.seq ?_
          obtain ⟨o3487, e3488, H⟩ := bind_of H
          refine AWp.mono (Q := fun e s => (match (generalizing := false) o3487 with | x3482 => e = .normal ∧ s = ⟨[(2, bV x3482)], [], 0⟩)) (AWp.cv ?_) ?_
          · replace H := e3488; clear e3488
            obtain ⟨t3476, e3477, H⟩ := bind_of H
            rcases Bool.eq_false_or_eq_true t3476 with c3478 | c3478
            · replace H := (ifT c3478).symm.trans H
              rcases Bool.eq_false_or_eq_true (t3414.2 == t3468.2) with c3479 | c3479
              · replace H := (ifT c3479).symm.trans H
                obtain ⟨t3480, e3481, H⟩ := bind_of H
                refine reg hP hn hm [(0, .call [] [] [] [] 0 (bV t3476) []), (1, .b true), (6, .b true), (9, .call [] [] [] [] 0 (bV t3480) [])] [2] [] ⟨[(2, bV t3480)], [], 0⟩ [Enters Try.prog 11, Pv.Fn Try.prog 11 [] [] 0 (fun r o => r = bV t3476 ∧ o = []), t3476 = true, (t3414.2 == t3468.2) = true, Enters Try.prog 17, Pv.Fn Try.prog 17 [.agg (aHist (t3414.1)), .agg (aHist (t3468.1))] [] 0 (fun r o => r = bV t3480 ∧ o = [])] (by kernel_rfl) ⟨by exact Try.call11, by exact f_pluviallaw07_awake.ok  t3476 e3477, by exact c3478, by exact c3479, by exact Try.call17, by exact f_pluvialref05_Same.ok (t3414.1) (t3468.1) t3480 e3481, trivial⟩ ?_
                obtain rfl := Option.some.inj H
                exact Exists.intro _ (And.intro (fun _ _ h => h.conv (inv := []) (vk := []) (e0 := []) (t := ⟨[(2, bV t3480)], [], 0⟩) (by kernel_rfl)) (And.intro rfl rfl))
              · replace H := (ifF c3479).symm.trans H
                refine reg hP hn hm [(0, .call [] [] [] [] 0 (bV t3476) []), (1, .b true), (6, .b false)] [2] [] ⟨[(2, bV false)], [], 0⟩ [Enters Try.prog 11, Pv.Fn Try.prog 11 [] [] 0 (fun r o => r = bV t3476 ∧ o = []), t3476 = true, (t3414.2 == t3468.2) = false] (by kernel_rfl) ⟨by exact Try.call11, by exact f_pluviallaw07_awake.ok  t3476 e3477, by exact c3478, by exact c3479, trivial⟩ ?_
                obtain rfl := Option.some.inj H
                exact Exists.intro _ (And.intro (fun _ _ h => h.conv (inv := []) (vk := []) (e0 := []) (t := ⟨[(2, bV false)], [], 0⟩) (by kernel_rfl)) (And.intro rfl rfl))
            · replace H := (ifF c3478).symm.trans H
              refine reg hP hn hm [(0, .call [] [] [] [] 0 (bV t3476) []), (1, .b false)] [2] [] ⟨[(2, bV false)], [], 0⟩ [Enters Try.prog 11, Pv.Fn Try.prog 11 [] [] 0 (fun r o => r = bV t3476 ∧ o = []), t3476 = false] (by kernel_rfl) ⟨by exact Try.call11, by exact f_pluviallaw07_awake.ok  t3476 e3477, by exact c3478, trivial⟩ ?_
              obtain rfl := Option.some.inj H
              exact Exists.intro _ (And.intro (fun _ _ h => h.conv (inv := []) (vk := []) (e0 := []) (t := ⟨[(2, bV false)], [], 0⟩) (by kernel_rfl)) (And.intro rfl rfl))
          · obtain ⟨x3482, rfl⟩ : ∃ z, z = o3487 := ⟨_, rfl⟩
            rintro e s ⟨rfl, rfl⟩
            refine AWp.conv (inv := []) (vk := []) (e0 := []) (t := ⟨[(2, bV x3482)], [], 0⟩) (by kernel_rfl) ?_
            refine AWp.ret ?_
            obtain rfl := Option.some.inj H
            exact Exists.intro _ (And.intro (fun _ _ h => h) (And.intro (.inl rfl) (And.intro rfl (And.intro (by kernel_rfl) (by kernel_rfl)))))
end Go.Proofs.Yticdbkmekkbiiaa.PvGB
