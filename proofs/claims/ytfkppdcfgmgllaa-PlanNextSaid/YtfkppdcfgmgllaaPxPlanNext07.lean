import Derived.Test.YtfkppdcfgmgllaaProg
import Derived.Test.YtfkppdcfgmgllaaPxPlanNext06
set_option linter.unusedVariables false
set_option linter.unnecessarySimpa false
set_option linter.unusedSimpArgs false
set_option maxRecDepth 10000
namespace Go.Proofs.Ytfkppdcfgmgllaa.PvGD2
open Go Go.Pv
def f_slices_choosePivotOrdered_int.f (a0 : List Int) (a1 : Int) (a2 : Int) : Option (Int × Int) := ((if (decide ((IntKind.i64.wrap (a2 - a1)) ≥ (8 : Int))) = true then (((if (decide ((IntKind.i64.wrap (a2 - a1)) ≥ (50 : Int))) = true then ((f_slices_medianAdjacentOrdered_int_7cb.f a0 (IntKind.i64.wrap (a1 + (IntKind.i64.wrap ((IntKind.i64.wrap (Int.tdiv (IntKind.i64.wrap (a2 - a1)) (4 : Int))) * (1 : Int))))) 0) >>= fun t2475 => (f_slices_medianAdjacentOrdered_int_7cb.f a0 (IntKind.i64.wrap (a1 + (IntKind.i64.wrap ((IntKind.i64.wrap (Int.tdiv (IntKind.i64.wrap (a2 - a1)) (4 : Int))) * (2 : Int))))) t2475.2) >>= fun t2479 => (f_slices_medianAdjacentOrdered_int_7cb.f a0 (IntKind.i64.wrap (a1 + (IntKind.i64.wrap ((IntKind.i64.wrap (Int.tdiv (IntKind.i64.wrap (a2 - a1)) (4 : Int))) * (3 : Int))))) t2479.2) >>= fun t2483 => some (t2483.2, t2475.1, t2479.1, t2483.1)) else (some (0, IntKind.i64.wrap (a1 + (IntKind.i64.wrap ((IntKind.i64.wrap (Int.tdiv (IntKind.i64.wrap (a2 - a1)) (4 : Int))) * (1 : Int)))), IntKind.i64.wrap (a1 + (IntKind.i64.wrap ((IntKind.i64.wrap (Int.tdiv (IntKind.i64.wrap (a2 - a1)) (4 : Int))) * (2 : Int)))), IntKind.i64.wrap (a1 + (IntKind.i64.wrap ((IntKind.i64.wrap (Int.tdiv (IntKind.i64.wrap (a2 - a1)) (4 : Int))) * (3 : Int))))))) : Option (Int × Int × Int × Int)) >>= fun oo => match oo with | (x2485, x2486, x2487, x2488) => ((f_slices_medianOrdered_int_5f3.f a0 x2486 x2487 x2488 x2485) >>= fun t2491 => some (t2491.2, t2491.1))) else (some (0, IntKind.i64.wrap (a1 + (IntKind.i64.wrap ((IntKind.i64.wrap (Int.tdiv (IntKind.i64.wrap (a2 - a1)) (4 : Int))) * (2 : Int))))))) : Option (Int × Int)) >>= fun oo => match oo with | (x2493, x2494) => (if (x2493 == (0 : Int)) = true then (some (x2494, 1)) else (if (x2493 == (12 : Int)) = true then (some (x2494, 2)) else (some (x2494, 0))))
theorem f_slices_choosePivotOrdered_int.ok (a0 : List Int) (a1 : Int) (a2 : Int) (r : Int × Int) (H : f_slices_choosePivotOrdered_int.f a0 a1 a2 = some r) : Pv.Fn Try.prog 70 [.own 0, iV .i64 a1, iV .i64 a2] [(0, some (.row 1 3 (a0.map (encInt .i64))))] 1 (fun x o => x = .tup [iV .i64 r.1, iV .i64 r.2] ∧ o = [(0, some (.row 1 3 (a0.map (encInt .i64))))]) := by
  unfold f_slices_choosePivotOrdered_int.f at H
  refine Fn.bodyK [0] Try.func70 rfl rfl (fun Γ hP hn => ?_)
  have hm : Try.prog.follows .mixedOrders = true := by kernel_rfl
  replace hn : Γ.n = 57 := hn
  refine AWp.seq ?_
  refine reg hP hn hm [] [0, 1, 2] [0] ⟨[(0, .own 0), (1, iV .i64 a1), (2, iV .i64 a2)], [(0, some (.row 1 3 (a0.map (encInt .i64))))], 1⟩ [] (by kernel_rfl) trivial ?_
  refine AWp.seq ?_
  refine reg hP hn hm [] [0, 1, 8] [0] ⟨[(0, .own 0), (1, iV .i64 a1), (8, iV .i64 (IntKind.i64.wrap (a2 - a1)))], [(0, some (.row 1 3 (a0.map (encInt .i64))))], 1⟩ [] (by kernel_rfl) trivial ?_
  refine AWp.seq ?_
  refine reg hP hn hm [(0, .k 1)] [0, 1, 8, 9] [0, 1] ⟨[(0, .own 0), (1, iV .i64 a1), (8, iV .i64 (IntKind.i64.wrap (a2 - a1))), (9, .ptr 1 0 0)], [(0, some (.row 1 3 (a0.map (encInt .i64)))), (1, some (.box 3 [iV .i64 0]))], 1⟩ [] (by kernel_rfl) trivial ?_
  refine AWp.seq ?_
  refine reg hP hn hm [] [0, 1, 8, 9, 10] [0, 1] ⟨[(0, .own 0), (1, iV .i64 a1), (8, iV .i64 (IntKind.i64.wrap (a2 - a1))), (9, .ptr 1 0 0), (10, iV .i64 (IntKind.i64.wrap (a1 + (IntKind.i64.wrap ((IntKind.i64.wrap (Int.tdiv (IntKind.i64.wrap (a2 - a1)) (4 : Int))) * (1 : Int))))))], [(0, some (.row 1 3 (a0.map (encInt .i64)))), (1, some (.box 3 [iV .i64 0]))], 1⟩ [(4 : Int) ≠ 0] (by kernel_rfl) ⟨by decide, trivial⟩ ?_
  refine AWp.seq ?_
  refine reg hP hn hm [] [0, 1, 8, 9, 10, 11] [0, 1] ⟨[(0, .own 0), (1, iV .i64 a1), (8, iV .i64 (IntKind.i64.wrap (a2 - a1))), (9, .ptr 1 0 0), (10, iV .i64 (IntKind.i64.wrap (a1 + (IntKind.i64.wrap ((IntKind.i64.wrap (Int.tdiv (IntKind.i64.wrap (a2 - a1)) (4 : Int))) * (1 : Int)))))), (11, iV .i64 (IntKind.i64.wrap (a1 + (IntKind.i64.wrap ((IntKind.i64.wrap (Int.tdiv (IntKind.i64.wrap (a2 - a1)) (4 : Int))) * (2 : Int))))))], [(0, some (.row 1 3 (a0.map (encInt .i64)))), (1, some (.box 3 [iV .i64 0]))], 1⟩ [(4 : Int) ≠ 0] (by kernel_rfl) ⟨by decide, trivial⟩ ?_
  refine AWp.seq ?_
  refine reg hP hn hm [] [0, 8, 9, 10, 11, 12] [0, 1] ⟨[(0, .own 0), (8, iV .i64 (IntKind.i64.wrap (a2 - a1))), (9, .ptr 1 0 0), (10, iV .i64 (IntKind.i64.wrap (a1 + (IntKind.i64.wrap ((IntKind.i64.wrap (Int.tdiv (IntKind.i64.wrap (a2 - a1)) (4 : Int))) * (1 : Int)))))), (11, iV .i64 (IntKind.i64.wrap (a1 + (IntKind.i64.wrap ((IntKind.i64.wrap (Int.tdiv (IntKind.i64.wrap (a2 - a1)) (4 : Int))) * (2 : Int)))))), (12, iV .i64 (IntKind.i64.wrap (a1 + (IntKind.i64.wrap ((IntKind.i64.wrap (Int.tdiv (IntKind.i64.wrap (a2 - a1)) (4 : Int))) * (3 : Int))))))], [(0, some (.row 1 3 (a0.map (encInt .i64)))), (1, some (.box 3 [iV .i64 0]))], 1⟩ [(4 : Int) ≠ 0] (by kernel_rfl) ⟨by decide, trivial⟩ ?_
  refine AWp.seq ?_
  refine AWp.seq ?_
  refine reg hP hn hm [] [0, 8, 9, 10, 11, 12, 32] [0, 1] ⟨[(0, .own 0), (8, iV .i64 (IntKind.i64.wrap (a2 - a1))), (9, .ptr 1 0 0), (10, iV .i64 (IntKind.i64.wrap (a1 + (IntKind.i64.wrap ((IntKind.i64.wrap (Int.tdiv (IntKind.i64.wrap (a2 - a1)) (4 : Int))) * (1 : Int)))))), (11, iV .i64 (IntKind.i64.wrap (a1 + (IntKind.i64.wrap ((IntKind.i64.wrap (Int.tdiv (IntKind.i64.wrap (a2 - a1)) (4 : Int))) * (2 : Int)))))), (12, iV .i64 (IntKind.i64.wrap (a1 + (IntKind.i64.wrap ((IntKind.i64.wrap (Int.tdiv (IntKind.i64.wrap (a2 - a1)) (4 : Int))) * (3 : Int)))))), (32, bV (decide ((IntKind.i64.wrap (a2 - a1)) ≥ (8 : Int))))], [(0, some (.row 1 3 (a0.map (encInt .i64)))), (1, some (.box 3 [iV .i64 0]))], 1⟩ [] (by kernel_rfl) trivial ?_
  obtain ⟨o2497, e2498, H⟩ := bind_of H
  refine AWp.mono (Q := fun e s => (match (generalizing := false) o2497 with | (x2493, x2494) => e = .normal ∧ s = ⟨[(9, .ptr 3 0 0), (11, iV .i64 x2494)], [(0, some (.row 1 3 (a0.map (encInt .i64)))), (3, some (.box 3 [iV .i64 x2493]))], 1⟩)) (AWp.cv ?_) ?_
  · replace H := e2498; clear e2498
    refine AWp.cond (decide ((IntKind.i64.wrap (a2 - a1)) ≥ (8 : Int))) rfl (fun c2438 => ?_) (fun c2438 => ?_)
    · replace H := (ifT c2438).symm.trans H
      refine AWp.seq ?_
      refine AWp.seq ?_
      refine reg hP hn hm [] [0, 9, 10, 11, 12, 34] [0, 1] ⟨[(0, .own 0), (9, .ptr 1 0 0), (10, iV .i64 (IntKind.i64.wrap (a1 + (IntKind.i64.wrap ((IntKind.i64.wrap (Int.tdiv (IntKind.i64.wrap (a2 - a1)) (4 : Int))) * (1 : Int)))))), (11, iV .i64 (IntKind.i64.wrap (a1 + (IntKind.i64.wrap ((IntKind.i64.wrap (Int.tdiv (IntKind.i64.wrap (a2 - a1)) (4 : Int))) * (2 : Int)))))), (12, iV .i64 (IntKind.i64.wrap (a1 + (IntKind.i64.wrap ((IntKind.i64.wrap (Int.tdiv (IntKind.i64.wrap (a2 - a1)) (4 : Int))) * (3 : Int)))))), (34, bV (decide ((IntKind.i64.wrap (a2 - a1)) ≥ (50 : Int))))], [(0, some (.row 1 3 (a0.map (encInt .i64)))), (1, some (.box 3 [iV .i64 0]))], 1⟩ [] (by kernel_rfl) trivial ?_
      obtain ⟨o2499, e2500, H⟩ := bind_of H
      refine AWp.mono (Q := fun e s => (match (generalizing := false) o2499 with | (x2485, x2486, x2487, x2488) => e = .normal ∧ s = ⟨[(0, .own 0), (9, .ptr 2 0 0), (10, iV .i64 x2486), (11, iV .i64 x2487), (12, iV .i64 x2488)], [(0, some (.row 1 3 (a0.map (encInt .i64)))), (2, some (.box 3 [iV .i64 x2485]))], 1⟩)) (AWp.cv ?_) ?_
      · replace H := e2500; clear e2500
        refine AWp.cond (decide ((IntKind.i64.wrap (a2 - a1)) ≥ (50 : Int))) rfl (fun c2439 => ?_) (fun c2439 => ?_)
        · replace H := (ifT c2439).symm.trans H
          refine AWp.seq ?_
          obtain ⟨t2475, e2476, H⟩ := bind_of H
          refine reg hP hn hm [(2, .call [(0, 0), (1, 1)] [(0, 0), (1, 1)] [] [] 2 (iV .i64 t2475.1) [(0, some (.row 1 3 (a0.map (encInt .i64)))), (1, some (.box 3 [iV .i64 t2475.2]))])] [0, 9, 10, 11, 12] [0, 1] ⟨[(0, .own 0), (9, .ptr 1 0 0), (10, iV .i64 t2475.1), (11, iV .i64 (IntKind.i64.wrap (a1 + (IntKind.i64.wrap ((IntKind.i64.wrap (Int.tdiv (IntKind.i64.wrap (a2 - a1)) (4 : Int))) * (2 : Int)))))), (12, iV .i64 (IntKind.i64.wrap (a1 + (IntKind.i64.wrap ((IntKind.i64.wrap (Int.tdiv (IntKind.i64.wrap (a2 - a1)) (4 : Int))) * (3 : Int))))))], [(0, some (.row 1 3 (a0.map (encInt .i64)))), (1, some (.box 3 [iV .i64 t2475.2]))], 1⟩ [Enters Try.prog 102, Pv.Fn Try.prog 102 [.own 0, iV .i64 (IntKind.i64.wrap (a1 + (IntKind.i64.wrap ((IntKind.i64.wrap (Int.tdiv (IntKind.i64.wrap (a2 - a1)) (4 : Int))) * (1 : Int))))), .ptr 1 0 0] [(0, some (.row 1 3 (a0.map (encInt .i64)))), (1, some (.box 3 [iV .i64 0]))] 2 (fun r o => r = iV .i64 t2475.1 ∧ o = [(0, some (.row 1 3 (a0.map (encInt .i64)))), (1, some (.box 3 [iV .i64 t2475.2]))])] (by kernel_rfl) ⟨by exact Try.call102, by exact f_slices_medianAdjacentOrdered_int_7cb.ok a0 (IntKind.i64.wrap (a1 + (IntKind.i64.wrap ((IntKind.i64.wrap (Int.tdiv (IntKind.i64.wrap (a2 - a1)) (4 : Int))) * (1 : Int))))) 0 t2475 e2476, trivial⟩ ?_
          refine AWp.seq ?_
          obtain ⟨t2479, e2480, H⟩ := bind_of H
          refine reg hP hn hm [(2, .call [(0, 0), (1, 1)] [(0, 0), (1, 1)] [] [] 2 (iV .i64 t2479.1) [(0, some (.row 1 3 (a0.map (encInt .i64)))), (1, some (.box 3 [iV .i64 t2479.2]))])] [0, 9, 10, 11, 12] [0, 1] ⟨[(0, .own 0), (9, .ptr 1 0 0), (10, iV .i64 t2475.1), (11, iV .i64 t2479.1), (12, iV .i64 (IntKind.i64.wrap (a1 + (IntKind.i64.wrap ((IntKind.i64.wrap (Int.tdiv (IntKind.i64.wrap (a2 - a1)) (4 : Int))) * (3 : Int))))))], [(0, some (.row 1 3 (a0.map (encInt .i64)))), (1, some (.box 3 [iV .i64 t2479.2]))], 1⟩ [Enters Try.prog 102, Pv.Fn Try.prog 102 [.own 0, iV .i64 (IntKind.i64.wrap (a1 + (IntKind.i64.wrap ((IntKind.i64.wrap (Int.tdiv (IntKind.i64.wrap (a2 - a1)) (4 : Int))) * (2 : Int))))), .ptr 1 0 0] [(0, some (.row 1 3 (a0.map (encInt .i64)))), (1, some (.box 3 [iV .i64 t2475.2]))] 2 (fun r o => r = iV .i64 t2479.1 ∧ o = [(0, some (.row 1 3 (a0.map (encInt .i64)))), (1, some (.box 3 [iV .i64 t2479.2]))])] (by kernel_rfl) ⟨by exact Try.call102, by exact f_slices_medianAdjacentOrdered_int_7cb.ok a0 (IntKind.i64.wrap (a1 + (IntKind.i64.wrap ((IntKind.i64.wrap (Int.tdiv (IntKind.i64.wrap (a2 - a1)) (4 : Int))) * (2 : Int))))) t2475.2 t2479 e2480, trivial⟩ ?_
          obtain ⟨t2483, e2484, H⟩ := bind_of H
          refine reg hP hn hm [(2, .call [(0, 0), (1, 1)] [(0, 0), (1, 1)] [] [] 2 (iV .i64 t2483.1) [(0, some (.row 1 3 (a0.map (encInt .i64)))), (1, some (.box 3 [iV .i64 t2483.2]))])] [0, 9, 10, 11, 12] [0, 1] ⟨[(0, .own 0), (9, .ptr 1 0 0), (10, iV .i64 t2475.1), (11, iV .i64 t2479.1), (12, iV .i64 t2483.1)], [(0, some (.row 1 3 (a0.map (encInt .i64)))), (1, some (.box 3 [iV .i64 t2483.2]))], 1⟩ [Enters Try.prog 102, Pv.Fn Try.prog 102 [.own 0, iV .i64 (IntKind.i64.wrap (a1 + (IntKind.i64.wrap ((IntKind.i64.wrap (Int.tdiv (IntKind.i64.wrap (a2 - a1)) (4 : Int))) * (3 : Int))))), .ptr 1 0 0] [(0, some (.row 1 3 (a0.map (encInt .i64)))), (1, some (.box 3 [iV .i64 t2479.2]))] 2 (fun r o => r = iV .i64 t2483.1 ∧ o = [(0, some (.row 1 3 (a0.map (encInt .i64)))), (1, some (.box 3 [iV .i64 t2483.2]))])] (by kernel_rfl) ⟨by exact Try.call102, by exact f_slices_medianAdjacentOrdered_int_7cb.ok a0 (IntKind.i64.wrap (a1 + (IntKind.i64.wrap ((IntKind.i64.wrap (Int.tdiv (IntKind.i64.wrap (a2 - a1)) (4 : Int))) * (3 : Int))))) t2479.2 t2483 e2484, trivial⟩ ?_
          obtain rfl := Option.some.inj H
          exact Exists.intro _ (And.intro (fun _ _ h => h.conv (inv := [(0, 0), (1, 2)]) (vk := []) (e0 := []) (t := ⟨[(0, .own 0), (9, .ptr 2 0 0), (10, iV .i64 t2475.1), (11, iV .i64 t2479.1), (12, iV .i64 t2483.1)], [(0, some (.row 1 3 (a0.map (encInt .i64)))), (2, some (.box 3 [iV .i64 t2483.2]))], 1⟩) (by kernel_rfl)) (And.intro rfl rfl))
        · replace H := (ifF c2439).symm.trans H
          refine AWp.skip ?_
          obtain rfl := Option.some.inj H
          exact Exists.intro _ (And.intro (fun _ _ h => h.conv (inv := [(0, 0), (1, 2)]) (vk := []) (e0 := []) (t := ⟨[(0, .own 0), (9, .ptr 2 0 0), (10, iV .i64 (IntKind.i64.wrap (a1 + (IntKind.i64.wrap ((IntKind.i64.wrap (Int.tdiv (IntKind.i64.wrap (a2 - a1)) (4 : Int))) * (1 : Int)))))), (11, iV .i64 (IntKind.i64.wrap (a1 + (IntKind.i64.wrap ((IntKind.i64.wrap (Int.tdiv (IntKind.i64.wrap (a2 - a1)) (4 : Int))) * (2 : Int)))))), (12, iV .i64 (IntKind.i64.wrap (a1 + (IntKind.i64.wrap ((IntKind.i64.wrap (Int.tdiv (IntKind.i64.wrap (a2 - a1)) (4 : Int))) * (3 : Int))))))], [(0, some (.row 1 3 (a0.map (encInt .i64)))), (2, some (.box 3 [iV .i64 0]))], 1⟩) (by kernel_rfl)) (And.intro rfl rfl))
      · obtain ⟨x2485, x2486, x2487, x2488⟩ := o2499
        rintro e s ⟨rfl, rfl⟩
        obtain ⟨t2491, e2492, H⟩ := bind_of H
        refine reg hP hn hm [(4, .call [(0, 0), (2, 1)] [(0, 0), (1, 2)] [] [] 2 (iV .i64 t2491.1) [(0, some (.row 1 3 (a0.map (encInt .i64)))), (1, some (.box 3 [iV .i64 t2491.2]))])] [9, 11] [0, 2] ⟨[(9, .ptr 2 0 0), (11, iV .i64 t2491.1)], [(0, some (.row 1 3 (a0.map (encInt .i64)))), (2, some (.box 3 [iV .i64 t2491.2]))], 1⟩ [Enters Try.prog 103, Pv.Fn Try.prog 103 [.own 0, iV .i64 x2486, iV .i64 x2487, iV .i64 x2488, .ptr 1 0 0] [(0, some (.row 1 3 (a0.map (encInt .i64)))), (1, some (.box 3 [iV .i64 x2485]))] 2 (fun r o => r = iV .i64 t2491.1 ∧ o = [(0, some (.row 1 3 (a0.map (encInt .i64)))), (1, some (.box 3 [iV .i64 t2491.2]))])] (by kernel_rfl) ⟨by exact Try.call103, by exact f_slices_medianOrdered_int_5f3.ok a0 x2486 x2487 x2488 x2485 t2491 e2492, trivial⟩ ?_
        obtain rfl := Option.some.inj H
        exact Exists.intro _ (And.intro (fun _ _ h => h.conv (inv := [(2, 3), (0, 0)]) (vk := []) (e0 := []) (t := ⟨[(9, .ptr 3 0 0), (11, iV .i64 t2491.1)], [(0, some (.row 1 3 (a0.map (encInt .i64)))), (3, some (.box 3 [iV .i64 t2491.2]))], 1⟩) (by kernel_rfl)) (And.intro rfl rfl))
    · replace H := (ifF c2438).symm.trans H
      refine AWp.skip ?_
      obtain rfl := Option.some.inj H
      exact Exists.intro _ (And.intro (fun _ _ h => h.conv (inv := [(1, 3), (0, 0)]) (vk := []) (e0 := []) (t := ⟨[(9, .ptr 3 0 0), (11, iV .i64 (IntKind.i64.wrap (a1 + (IntKind.i64.wrap ((IntKind.i64.wrap (Int.tdiv (IntKind.i64.wrap (a2 - a1)) (4 : Int))) * (2 : Int))))))], [(0, some (.row 1 3 (a0.map (encInt .i64)))), (3, some (.box 3 [iV .i64 0]))], 1⟩) (by kernel_rfl)) (And.intro rfl rfl))
  · obtain ⟨x2493, x2494⟩ := o2497
    rintro e s ⟨rfl, rfl⟩
    refine AWp.seq ?_
    refine reg hP hn hm [] [11, 49] [0] ⟨[(11, iV .i64 x2494), (49, iV .i64 x2493)], [(0, some (.row 1 3 (a0.map (encInt .i64))))], 1⟩ [] (by kernel_rfl) trivial ?_
    refine AWp.block ?_
    refine AWp.seq ?_
    refine reg hP hn hm [] [11, 49, 51] [0] ⟨[(11, iV .i64 x2494), (49, iV .i64 x2493), (51, bV (x2493 == (0 : Int)))], [(0, some (.row 1 3 (a0.map (encInt .i64))))], 1⟩ [] (by kernel_rfl) trivial ?_
    refine AWp.cond (x2493 == (0 : Int)) rfl (fun c2495 => ?_) (fun c2495 => ?_)
    · replace H := (ifT c2495).symm.trans H
      refine AWp.seq ?_
      refine reg hP hn hm [] [6, 7] [0] ⟨[(6, iV .i64 x2494), (7, iV .i64 1)], [(0, some (.row 1 3 (a0.map (encInt .i64))))], 1⟩ [] (by kernel_rfl) trivial ?_
      refine AWp.conv (inv := [(0, 0)]) (vk := []) (e0 := []) (t := ⟨[(6, iV .i64 x2494), (7, iV .i64 1)], [(0, some (.row 1 3 (a0.map (encInt .i64))))], 1⟩) (by kernel_rfl) ?_
      refine AWp.ret ?_
      obtain rfl := Option.some.inj H
      exact Exists.intro _ (And.intro (fun _ _ h => h) (And.intro (.inl rfl) (And.intro rfl (And.intro (by kernel_rfl) (by kernel_rfl)))))
    · replace H := (ifF c2495).symm.trans H
      refine AWp.seq ?_
      refine reg hP hn hm [] [11, 54] [0] ⟨[(11, iV .i64 x2494), (54, bV (x2493 == (12 : Int)))], [(0, some (.row 1 3 (a0.map (encInt .i64))))], 1⟩ [] (by kernel_rfl) trivial ?_
      refine AWp.cond (x2493 == (12 : Int)) rfl (fun c2496 => ?_) (fun c2496 => ?_)
      · replace H := (ifT c2496).symm.trans H
        refine AWp.seq ?_
        refine reg hP hn hm [] [6, 7] [0] ⟨[(6, iV .i64 x2494), (7, iV .i64 2)], [(0, some (.row 1 3 (a0.map (encInt .i64))))], 1⟩ [] (by kernel_rfl) trivial ?_
        refine AWp.conv (inv := [(0, 0)]) (vk := []) (e0 := []) (t := ⟨[(6, iV .i64 x2494), (7, iV .i64 2)], [(0, some (.row 1 3 (a0.map (encInt .i64))))], 1⟩) (by kernel_rfl) ?_
        refine AWp.ret ?_
        obtain rfl := Option.some.inj H
        exact Exists.intro _ (And.intro (fun _ _ h => h) (And.intro (.inl rfl) (And.intro rfl (And.intro (by kernel_rfl) (by kernel_rfl)))))
      · replace H := (ifF c2496).symm.trans H
        refine AWp.seq ?_
        refine reg hP hn hm [] [6, 7] [0] ⟨[(6, iV .i64 x2494), (7, iV .i64 0)], [(0, some (.row 1 3 (a0.map (encInt .i64))))], 1⟩ [] (by kernel_rfl) trivial ?_
        refine AWp.conv (inv := [(0, 0)]) (vk := []) (e0 := []) (t := ⟨[(6, iV .i64 x2494), (7, iV .i64 0)], [(0, some (.row 1 3 (a0.map (encInt .i64))))], 1⟩) (by kernel_rfl) ?_
        refine AWp.ret ?_
        obtain rfl := Option.some.inj H
        exact Exists.intro _ (And.intro (fun _ _ h => h) (And.intro (.inl rfl) (And.intro rfl (And.intro (by kernel_rfl) (by kernel_rfl)))))
def f_slices_reverseRangeOrdered_int.l0 (x2525 : List Int) (x2526 : Int) (x2527 : Int) : Option (List Int) := if (decide (x2526 < x2527)) = true then ((at? x2525 x2527) >>= fun b2538 => (at? x2525 x2526) >>= fun b2541 => (at? (x2525.set (Int.toNat (x2526)) b2538) x2527) >>= fun b2544 => f_slices_reverseRangeOrdered_int.l0  ((x2525.set (Int.toNat (x2526)) b2538).set (Int.toNat (x2527)) b2541) (IntKind.i64.wrap (x2526 + (1 : Int))) (IntKind.i64.wrap (x2527 - (1 : Int)))) else (some x2525)
partial_fixpoint
def f_slices_reverseRangeOrdered_int.f (a0 : List Int) (a1 : Int) (a2 : Int) : Option (List Int) := (f_slices_reverseRangeOrdered_int.l0  a0 a1 (IntKind.i64.wrap (a2 - (1 : Int)))) >>= fun x2547 => some x2547
theorem f_slices_reverseRangeOrdered_int.ok (a0 : List Int) (a1 : Int) (a2 : Int) (r : List Int) (H : f_slices_reverseRangeOrdered_int.f a0 a1 a2 = some r) : Pv.Fn Try.prog 71 [.own 0, iV .i64 a1, iV .i64 a2] [(0, some (.row 1 3 (a0.map (encInt .i64))))] 1 (fun x o => x = .tup [] ∧ o = [(0, some (.row 1 3 (r.map (encInt .i64))))]) := by
  unfold f_slices_reverseRangeOrdered_int.f at H
  refine Fn.bodyK [0] Try.func71 rfl rfl (fun Γ hP hn => ?_)
  have hm : Try.prog.follows .mixedOrders = true := by kernel_rfl
  replace hn : Γ.n = 32 := hn
  refine AWp.seq ?_
  refine reg hP hn hm [] [0, 2, 6] [0] ⟨[(0, .own 0), (2, iV .i64 a2), (6, iV .i64 a1)], [(0, some (.row 1 3 (a0.map (encInt .i64))))], 1⟩ [] (by kernel_rfl) trivial ?_
  refine AWp.seq ?_
  refine reg hP hn hm [] [0, 6, 7] [0] ⟨[(0, .own 0), (6, iV .i64 a1), (7, iV .i64 (IntKind.i64.wrap (a2 - (1 : Int))))], [(0, some (.row 1 3 (a0.map (encInt .i64))))], 1⟩ [] (by kernel_rfl) trivial ?_
  refine AWp.block ?_
  obtain ⟨o2548, e2549, H⟩ := bind_of H
  refine AWp.loop (LWp.conv (inv := [(0, 0)]) (vk := []) (e0 := []) (t := ⟨[(0, .own 0), (6, iV .i64 a1), (7, iV .i64 (IntKind.i64.wrap (a2 - (1 : Int))))], [(0, some (.row 1 3 (a0.map (encInt .i64))))], 1⟩) (by kernel_rfl) ?_)
  refine LWp.mono (Q := fun e s => (match (generalizing := false) o2548 with | x2547 => e = .exit 0 ∧ s = ⟨[], [(0, some (.row 1 3 (x2547.map (encInt .i64))))], 1⟩)) (LWp.cv (withBody (fun body hbody => ?_))) ?_
  · refine f_slices_reverseRangeOrdered_int.l0.partial_correctness  (motive := fun x2525 x2526 x2527 o2548 => LWp Γ body (fun e s => ∃ t, Cv Γ s t ∧ (match (generalizing := false) o2548 with | x2547 => e = .exit 0 ∧ t = ⟨[], [(0, some (.row 1 3 (x2547.map (encInt .i64))))], 1⟩)) ⟨[(0, .own 0), (6, iV .i64 x2526), (7, iV .i64 x2527)], [(0, some (.row 1 3 (x2525.map (encInt .i64))))], 1⟩) ?_ _ _ _ _ e2549
    clear H e2549 o2548; intro self ih x2525 x2526 x2527 o2548 H
    subst hbody
    refine LWp.round ?_
    refine AWp.seq ?_
    refine AWp.seq ?_
    refine reg hP hn hm [] [0, 6, 7, 13] [0] ⟨[(0, .own 0), (6, iV .i64 x2526), (7, iV .i64 x2527), (13, bV (decide (x2526 < x2527)))], [(0, some (.row 1 3 (x2525.map (encInt .i64))))], 1⟩ [] (by kernel_rfl) trivial ?_
    refine AWp.cond (decide (x2526 < x2527)) rfl (fun c2528 => ?_) (fun c2528 => ?_)
    · replace H := (ifT c2528).symm.trans H
      refine AWp.skip ?_
      refine AWp.block ?_
      refine AWp.seq ?_
      obtain ⟨b2538, p2539, q2540, H⟩ := at_of H
      obtain ⟨b2541, p2542, q2543, H⟩ := at_of H
      obtain ⟨b2544, p2545, q2546, H⟩ := at_of H
      refine reg hP hn hm [(7, .c ((encInt .i64) b2538)), (11, .c ((encInt .i64) b2541)), (13, .put ((encInt .i64) b2541) ((x2525.set (Int.toNat (x2526)) b2538).map (encInt .i64))), (15, .put ((encInt .i64) b2544) (((x2525.set (Int.toNat (x2526)) b2538).set (Int.toNat (x2527)) b2541).map (encInt .i64)))] [0, 6, 7] [0] ⟨[(0, .own 0), (6, iV .i64 x2526), (7, iV .i64 x2527)], [(0, some (.row 1 3 (((x2525.set (Int.toNat (x2526)) b2538).set (Int.toNat (x2527)) b2541).map (encInt .i64))))], 1⟩ [0 ≤ x2527, x2527 < (((x2525.map (encInt .i64)).length : Nat) : Int), (x2525.map (encInt .i64))[(Int.toNat (x2527))]? = some ((encInt .i64) b2538), 0 ≤ x2526, x2526 < (((x2525.map (encInt .i64)).length : Nat) : Int), (x2525.map (encInt .i64))[(Int.toNat (x2526))]? = some ((encInt .i64) b2541), 0 ≤ x2526, x2526 < (((x2525.map (encInt .i64)).length : Nat) : Int), (x2525.map (encInt .i64))[(Int.toNat (x2526))]? = some ((encInt .i64) b2541), (x2525.set (Int.toNat (x2526)) b2538).map (encInt .i64) = (x2525.map (encInt .i64)).set (Int.toNat (x2526)) (splice ((encInt .i64) b2541) 0 [iI .i64 b2538]), 0 ≤ x2527, x2527 < ((((x2525.set (Int.toNat (x2526)) b2538).map (encInt .i64)).length : Nat) : Int), ((x2525.set (Int.toNat (x2526)) b2538).map (encInt .i64))[(Int.toNat (x2527))]? = some ((encInt .i64) b2544), ((x2525.set (Int.toNat (x2526)) b2538).set (Int.toNat (x2527)) b2541).map (encInt .i64) = ((x2525.set (Int.toNat (x2526)) b2538).map (encInt .i64)).set (Int.toNat (x2527)) (splice ((encInt .i64) b2544) 0 [iI .i64 b2541])] (by kernel_rfl) ⟨by exact p2539, by exact el_lt (encInt .i64) p2539 q2540, by exact el_map (encInt .i64) q2540, by exact p2542, by exact el_lt (encInt .i64) p2542 q2543, by exact el_map (encInt .i64) q2543, by exact p2542, by exact el_lt (encInt .i64) p2542 q2543, by exact el_map (encInt .i64) q2543, by exact set1 _ _ _ _, by exact p2545, by exact el_lt (encInt .i64) p2545 q2546, by exact el_map (encInt .i64) q2546, by exact set1 _ _ _ _, trivial⟩ ?_
      refine AWp.seq ?_
      refine reg hP hn hm [] [0, 6, 7] [0] ⟨[(0, .own 0), (6, iV .i64 (IntKind.i64.wrap (x2526 + (1 : Int)))), (7, iV .i64 x2527)], [(0, some (.row 1 3 (((x2525.set (Int.toNat (x2526)) b2538).set (Int.toNat (x2527)) b2541).map (encInt .i64))))], 1⟩ [] (by kernel_rfl) trivial ?_
      refine reg hP hn hm [] [0, 6, 7] [0] ⟨[(0, .own 0), (6, iV .i64 (IntKind.i64.wrap (x2526 + (1 : Int)))), (7, iV .i64 (IntKind.i64.wrap (x2527 - (1 : Int))))], [(0, some (.row 1 3 (((x2525.set (Int.toNat (x2526)) b2538).set (Int.toNat (x2527)) b2541).map (encInt .i64))))], 1⟩ [] (by kernel_rfl) trivial ?_
      exact LWp.conv (inv := [(0, 0)]) (vk := []) (e0 := []) (t := ⟨[(0, .own 0), (6, iV .i64 (IntKind.i64.wrap (x2526 + (1 : Int)))), (7, iV .i64 (IntKind.i64.wrap (x2527 - (1 : Int))))], [(0, some (.row 1 3 (((x2525.set (Int.toNat (x2526)) b2538).set (Int.toNat (x2527)) b2541).map (encInt .i64))))], 1⟩) (by kernel_rfl) (ih _ _ _ _ H)
    · replace H := (ifF c2528).symm.trans H
      refine AWp.exit ?_
      obtain rfl := Option.some.inj H
      exact Exists.intro _ (And.intro (fun _ _ h => h.conv (inv := [(0, 0)]) (vk := []) (e0 := []) (t := ⟨[], [(0, some (.row 1 3 (x2525.map (encInt .i64))))], 1⟩) (by kernel_rfl)) (And.intro rfl rfl))
  · obtain ⟨x2547, rfl⟩ : ∃ z, z = o2548 := ⟨_, rfl⟩
    rintro e s ⟨rfl, rfl⟩
    obtain rfl := Option.some.inj H
    exact Exists.intro ⟨[], [(0, some (.row 1 3 (x2547.map (encInt .i64))))], 1⟩ (And.intro (fun _ _ h => h.conv (inv := [(0, 0)]) (vk := []) (e0 := []) (t := ⟨[], [(0, some (.row 1 3 (x2547.map (encInt .i64))))], 1⟩) (by kernel_rfl)) (And.intro (.inr rfl) (And.intro rfl (And.intro (by kernel_rfl) (by kernel_rfl)))))
def f_slices_partialInsertionSortOrdered_int.l1 (a1 : Int) (a2 : Int) (x2726 : List Int) (x2728 : Int) (x2750 : Int) : Option (Int) := ((if (decide (x2750 < a2)) = true then ((at? x2726 x2750) >>= fun b2761 => (at? x2726 (IntKind.i64.wrap (x2750 - (1 : Int)))) >>= fun b2764 => (f_cmp_Less_int.f b2761 b2764) >>= fun t2767 => some (!t2767)) else (some false)) : Option (Bool)) >>= fun x2769 => if x2769 = true then (f_slices_partialInsertionSortOrdered_int.l1 a1 a2 x2726 x2728 (IntKind.i64.wrap (x2750 + (1 : Int)))) else (some x2750)
partial_fixpoint
def f_slices_partialInsertionSortOrdered_int.l2 (a1 : Int) (a2 : Int) (x2728 : Int) (x2771 : Int) (x2817 : List Int) (x2818 : Int) : Option (List Int) := if (decide (x2818 ≥ (1 : Int))) = true then ((at? x2817 x2818) >>= fun b2828 => (at? x2817 (IntKind.i64.wrap (x2818 - (1 : Int)))) >>= fun b2831 => (f_cmp_Less_int.f b2828 b2831) >>= fun t2834 => if (!t2834) = true then (some x2817) else ((at? (x2817.set (Int.toNat (x2818)) b2831) (IntKind.i64.wrap (x2818 - (1 : Int)))) >>= fun b2840 => f_slices_partialInsertionSortOrdered_int.l2 a1 a2 x2728 x2771 ((x2817.set (Int.toNat (x2818)) b2831).set (Int.toNat (IntKind.i64.wrap (x2818 - (1 : Int)))) b2828) (IntKind.i64.wrap (x2818 - (1 : Int))))) else (some x2817)
partial_fixpoint
def f_slices_partialInsertionSortOrdered_int.l3 (a1 : Int) (a2 : Int) (x2728 : Int) (x2771 : Int) (x2870 : List Int) (x2871 : Int) : Option (List Int) := if (decide (x2871 < a2)) = true then ((at? x2870 x2871) >>= fun b2881 => (at? x2870 (IntKind.i64.wrap (x2871 - (1 : Int)))) >>= fun b2884 => (f_cmp_Less_int.f b2881 b2884) >>= fun t2887 => if (!t2887) = true then (some x2870) else ((at? (x2870.set (Int.toNat (x2871)) b2884) (IntKind.i64.wrap (x2871 - (1 : Int)))) >>= fun b2893 => f_slices_partialInsertionSortOrdered_int.l3 a1 a2 x2728 x2771 ((x2870.set (Int.toNat (x2871)) b2884).set (Int.toNat (IntKind.i64.wrap (x2871 - (1 : Int)))) b2881) (IntKind.i64.wrap (x2871 + (1 : Int))))) else (some x2870)
partial_fixpoint
def f_slices_partialInsertionSortOrdered_int.l0 (a1 : Int) (a2 : Int) (x2726 : List Int) (x2727 : Int) (x2728 : Int) : Option ((Bool × (List Int)) ⊕ (List Int)) := if (decide (x2728 < (5 : Int))) = true then ((f_slices_partialInsertionSortOrdered_int.l1 a1 a2 x2726 x2728 x2727) >>= fun x2771 => if (x2771 == a2) = true then (some (.inl (true, x2726))) else (if (decide ((IntKind.i64.wrap (a2 - a1)) < (50 : Int))) = true then (some (.inl (false, x2726))) else ((at? x2726 (IntKind.i64.wrap (x2771 - (1 : Int)))) >>= fun b2783 => (at? x2726 x2771) >>= fun b2786 => (at? (x2726.set (Int.toNat (x2771)) b2783) (IntKind.i64.wrap (x2771 - (1 : Int)))) >>= fun b2789 => ((if (decide ((IntKind.i64.wrap (x2771 - a1)) ≥ (2 : Int))) = true then ((f_slices_partialInsertionSortOrdered_int.l2 a1 a2 x2728 x2771 ((x2726.set (Int.toNat (x2771)) b2783).set (Int.toNat (IntKind.i64.wrap (x2771 - (1 : Int)))) b2786) (IntKind.i64.wrap (x2771 - (1 : Int)))) >>= fun x2843 => some x2843) else (some ((x2726.set (Int.toNat (x2771)) b2783).set (Int.toNat (IntKind.i64.wrap (x2771 - (1 : Int)))) b2786))) : Option (List Int)) >>= fun x2844 => ((if (decide ((IntKind.i64.wrap (a2 - x2771)) ≥ (2 : Int))) = true then ((f_slices_partialInsertionSortOrdered_int.l3 a1 a2 x2728 x2771 x2844 (IntKind.i64.wrap (x2771 + (1 : Int)))) >>= fun x2896 => some x2896) else (some x2844)) : Option (List Int)) >>= fun x2897 => f_slices_partialInsertionSortOrdered_int.l0 a1 a2 x2897 x2771 (IntKind.i64.wrap (x2728 + (1 : Int)))))) else (some (.inr x2726))
partial_fixpoint
def f_slices_partialInsertionSortOrdered_int.f (a0 : List Int) (a1 : Int) (a2 : Int) : Option (Bool × (List Int)) := (f_slices_partialInsertionSortOrdered_int.l0 a1 a2 a0 (IntKind.i64.wrap (a1 + (1 : Int))) 0) >>= fun oo => match oo with | .inl rr => (some rr) | .inr x2898 => (some (false, x2898))
theorem f_slices_partialInsertionSortOrdered_int.ok (a0 : List Int) (a1 : Int) (a2 : Int) (r : Bool × (List Int)) (H : f_slices_partialInsertionSortOrdered_int.f a0 a1 a2 = some r) : Pv.Fn Try.prog 72 [.own 0, iV .i64 a1, iV .i64 a2] [(0, some (.row 1 3 (a0.map (encInt .i64))))] 1 (fun x o => x = bV r.1 ∧ o = [(0, some (.row 1 3 (r.2.map (encInt .i64))))]) := by
  unfold f_slices_partialInsertionSortOrdered_int.f at H
  refine Fn.bodyK [0] Try.func72 rfl rfl (fun Γ hP hn => ?_)
  have hm : Try.prog.follows .mixedOrders = true := by kernel_rfl
  replace hn : Γ.n = 133 := hn
  refine AWp.seq ?_
  refine reg hP hn hm [] [0, 1, 2] [0] ⟨[(0, .own 0), (1, iV .i64 a1), (2, iV .i64 a2)], [(0, some (.row 1 3 (a0.map (encInt .i64))))], 1⟩ [] (by kernel_rfl) trivial ?_
  refine AWp.seq ?_
  refine reg hP hn hm [] [0, 1, 2, 7] [0] ⟨[(0, .own 0), (1, iV .i64 a1), (2, iV .i64 a2), (7, iV .i64 (IntKind.i64.wrap (a1 + (1 : Int))))], [(0, some (.row 1 3 (a0.map (encInt .i64))))], 1⟩ [] (by kernel_rfl) trivial ?_
  refine AWp.seq ?_
  refine AWp.seq ?_
  refine reg hP hn hm [] [0, 1, 2, 7, 8] [0] ⟨[(0, .own 0), (1, iV .i64 a1), (2, iV .i64 a2), (7, iV .i64 (IntKind.i64.wrap (a1 + (1 : Int)))), (8, iV .i64 0)], [(0, some (.row 1 3 (a0.map (encInt .i64))))], 1⟩ [] (by kernel_rfl) trivial ?_
  refine AWp.block ?_
  obtain ⟨o2899, e2900, H⟩ := bind_of H
  refine AWp.loop (LWp.conv (inv := [(0, 0)]) (vk := []) (e0 := []) (t := ⟨[(0, .own 0), (1, iV .i64 a1), (2, iV .i64 a2), (7, iV .i64 (IntKind.i64.wrap (a1 + (1 : Int)))), (8, iV .i64 0)], [(0, some (.row 1 3 (a0.map (encInt .i64))))], 1⟩) (by kernel_rfl) ?_)
  refine LWp.mono (Q := fun e s => (match (generalizing := false) o2899 with | .inl rr => e = .ret ∧ s.floor = 1 ∧ resOf Try.prog Try.f72 s = some (bV rr.1) ∧ ([(0, s.obj 0)] : List (Nat × Option MObj)) = [(0, some (.row 1 3 (rr.2.map (encInt .i64))))] | .inr x2898 => e = .exit 0 ∧ s = ⟨[], [(0, some (.row 1 3 (x2898.map (encInt .i64))))], 1⟩)) (LWp.cv (withBody (fun body hbody => ?_))) ?_
  · refine f_slices_partialInsertionSortOrdered_int.l0.partial_correctness a1 a2 (motive := fun x2726 x2727 x2728 o2899 => LWp Γ body (fun e s => ∃ t, Cv Γ s t ∧ (match (generalizing := false) o2899 with | .inl rr => e = .ret ∧ t.floor = 1 ∧ resOf Try.prog Try.f72 t = some (bV rr.1) ∧ ([(0, t.obj 0)] : List (Nat × Option MObj)) = [(0, some (.row 1 3 (rr.2.map (encInt .i64))))] | .inr x2898 => e = .exit 0 ∧ t = ⟨[], [(0, some (.row 1 3 (x2898.map (encInt .i64))))], 1⟩)) ⟨[(0, .own 0), (1, iV .i64 a1), (2, iV .i64 a2), (7, iV .i64 x2727), (8, iV .i64 x2728)], [(0, some (.row 1 3 (x2726.map (encInt .i64))))], 1⟩) ?_ _ _ _ _ e2900
    clear H e2900 o2899; intro self ih x2726 x2727 x2728 o2899 H
    subst hbody
    refine LWp.round ?_
    refine AWp.seq ?_
    refine AWp.seq ?_
    refine reg hP hn hm [] [0, 1, 2, 7, 8, 14] [0] ⟨[(0, .own 0), (1, iV .i64 a1), (2, iV .i64 a2), (7, iV .i64 x2727), (8, iV .i64 x2728), (14, bV (decide (x2728 < (5 : Int))))], [(0, some (.row 1 3 (x2726.map (encInt .i64))))], 1⟩ [] (by kernel_rfl) trivial ?_
    refine AWp.cond (decide (x2728 < (5 : Int))) rfl (fun c2729 => ?_) (fun c2729 => ?_)
    · replace H := (ifT c2729).symm.trans H
      refine AWp.skip ?_
      refine AWp.seq ?_
      refine AWp.block ?_
      refine AWp.seq ?_
      refine AWp.block ?_
      obtain ⟨o2901, e2902, H⟩ := bind_of H
      refine AWp.loop (LWp.conv (inv := [(0, 0)]) (vk := []) (e0 := []) (t := ⟨[(0, .own 0), (1, iV .i64 a1), (2, iV .i64 a2), (7, iV .i64 x2727), (8, iV .i64 x2728)], [(0, some (.row 1 3 (x2726.map (encInt .i64))))], 1⟩) (by kernel_rfl) ?_)
      refine LWp.mono (Q := fun e s => (match (generalizing := false) o2901 with | x2771 => e = .exit 2 ∧ s = ⟨[(0, .own 0), (1, iV .i64 a1), (2, iV .i64 a2), (7, iV .i64 x2771), (8, iV .i64 x2728)], [(0, some (.row 1 3 (x2726.map (encInt .i64))))], 1⟩)) (LWp.cv (withBody (fun body hbody => ?_))) ?_
      · refine f_slices_partialInsertionSortOrdered_int.l1.partial_correctness a1 a2 x2726 x2728 (motive := fun x2750 o2901 => LWp Γ body (fun e s => ∃ t, Cv Γ s t ∧ (match (generalizing := false) o2901 with | x2771 => e = .exit 2 ∧ t = ⟨[(0, .own 0), (1, iV .i64 a1), (2, iV .i64 a2), (7, iV .i64 x2771), (8, iV .i64 x2728)], [(0, some (.row 1 3 (x2726.map (encInt .i64))))], 1⟩)) ⟨[(0, .own 0), (1, iV .i64 a1), (2, iV .i64 a2), (7, iV .i64 x2750), (8, iV .i64 x2728)], [(0, some (.row 1 3 (x2726.map (encInt .i64))))], 1⟩) ?_ _ _ e2902
        clear H e2902 o2901; intro self ih x2750 o2901 H
        subst hbody
        refine LWp.round ?_
        refine AWp.seq ?_
        refine AWp.seq ?_
        obtain ⟨o2903, e2904, H⟩ := bind_of H
        refine AWp.mono (Q := fun e s => (match (generalizing := false) o2903 with | x2769 => e = .normal ∧ s = ⟨[(0, .own 0), (1, iV .i64 a1), (2, iV .i64 a2), (7, iV .i64 x2750), (8, iV .i64 x2728), (32, bV x2769)], [(0, some (.row 1 3 (x2726.map (encInt .i64))))], 1⟩)) (AWp.cv ?_) ?_
        · replace H := e2904; clear e2904
          rcases Bool.eq_false_or_eq_true (decide (x2750 < a2)) with c2760 | c2760
          · replace H := (ifT c2760).symm.trans H
            obtain ⟨b2761, p2762, q2763, H⟩ := at_of H
            obtain ⟨b2764, p2765, q2766, H⟩ := at_of H
            obtain ⟨t2767, e2768, H⟩ := bind_of H
            refine reg hP hn hm [(3, .b true), (7, .c ((encInt .i64) b2761)), (12, .c ((encInt .i64) b2764)), (13, .call [] [] [] [] 0 (bV t2767) [])] [0, 1, 2, 7, 8, 21, 22, 23, 24, 25, 26, 27, 28, 29, 30, 31, 32] [0] ⟨[(0, .own 0), (1, iV .i64 a1), (2, iV .i64 a2), (7, iV .i64 x2750), (8, iV .i64 x2728), (21, .own 0), (22, iV .i64 x2750), (23, .ptr 0 (Int.toNat (x2750)) 0), (24, iV .i64 b2761), (25, .own 0), (26, iV .i64 x2750), (27, iV .i64 (IntKind.i64.wrap (x2750 - (1 : Int)))), (28, .ptr 0 (Int.toNat (IntKind.i64.wrap (x2750 - (1 : Int)))) 0), (29, iV .i64 b2764), (30, bV t2767), (31, bV (!t2767)), (32, bV (!t2767))], [(0, some (.row 1 3 (x2726.map (encInt .i64))))], 1⟩ [(decide (x2750 < a2)) = true, 0 ≤ x2750, x2750 < (((x2726.map (encInt .i64)).length : Nat) : Int), (x2726.map (encInt .i64))[(Int.toNat (x2750))]? = some ((encInt .i64) b2761), 0 ≤ (IntKind.i64.wrap (x2750 - (1 : Int))), IntKind.i64.wrap (x2750 - (1 : Int)) < (((x2726.map (encInt .i64)).length : Nat) : Int), (x2726.map (encInt .i64))[(Int.toNat (IntKind.i64.wrap (x2750 - (1 : Int))))]? = some ((encInt .i64) b2764), Enters Try.prog 73, Pv.Fn Try.prog 73 [iV .i64 b2761, iV .i64 b2764] [] 0 (fun r o => r = bV t2767 ∧ o = [])] (by kernel_rfl) ⟨by exact c2760, by exact p2762, by exact el_lt (encInt .i64) p2762 q2763, by exact el_map (encInt .i64) q2763, by exact p2765, by exact el_lt (encInt .i64) p2765 q2766, by exact el_map (encInt .i64) q2766, by exact Try.call73, by exact f_cmp_Less_int.ok b2761 b2764 t2767 e2768, trivial⟩ ?_
            obtain rfl := Option.some.inj H
            exact Exists.intro _ (And.intro (fun _ _ h => h.conv (inv := [(0, 0)]) (vk := []) (e0 := []) (t := ⟨[(0, .own 0), (1, iV .i64 a1), (2, iV .i64 a2), (7, iV .i64 x2750), (8, iV .i64 x2728), (32, bV (!t2767))], [(0, some (.row 1 3 (x2726.map (encInt .i64))))], 1⟩) (by kernel_rfl)) (And.intro rfl rfl))
          · replace H := (ifF c2760).symm.trans H
            refine reg hP hn hm [(3, .b false)] [0, 1, 2, 7, 8, 32] [0] ⟨[(0, .own 0), (1, iV .i64 a1), (2, iV .i64 a2), (7, iV .i64 x2750), (8, iV .i64 x2728), (32, bV false)], [(0, some (.row 1 3 (x2726.map (encInt .i64))))], 1⟩ [(decide (x2750 < a2)) = false] (by kernel_rfl) ⟨by exact c2760, trivial⟩ ?_
            obtain rfl := Option.some.inj H
            exact Exists.intro _ (And.intro (fun _ _ h => h.conv (inv := [(0, 0)]) (vk := []) (e0 := []) (t := ⟨[(0, .own 0), (1, iV .i64 a1), (2, iV .i64 a2), (7, iV .i64 x2750), (8, iV .i64 x2728), (32, bV false)], [(0, some (.row 1 3 (x2726.map (encInt .i64))))], 1⟩) (by kernel_rfl)) (And.intro rfl rfl))
        · obtain ⟨x2769, rfl⟩ : ∃ z, z = o2903 := ⟨_, rfl⟩
          rintro e s ⟨rfl, rfl⟩
          refine AWp.cond x2769 rfl (fun c2770 => ?_) (fun c2770 => ?_)
          · replace H := (ifT c2770).symm.trans H
            refine AWp.skip ?_
            refine AWp.block ?_
            refine reg hP hn hm [] [0, 1, 2, 7, 8] [0] ⟨[(0, .own 0), (1, iV .i64 a1), (2, iV .i64 a2), (7, iV .i64 (IntKind.i64.wrap (x2750 + (1 : Int)))), (8, iV .i64 x2728)], [(0, some (.row 1 3 (x2726.map (encInt .i64))))], 1⟩ [] (by kernel_rfl) trivial ?_
            exact LWp.conv (inv := [(0, 0)]) (vk := []) (e0 := []) (t := ⟨[(0, .own 0), (1, iV .i64 a1), (2, iV .i64 a2), (7, iV .i64 (IntKind.i64.wrap (x2750 + (1 : Int)))), (8, iV .i64 x2728)], [(0, some (.row 1 3 (x2726.map (encInt .i64))))], 1⟩) (by kernel_rfl) (ih _ _ H)
          · replace H := (ifF c2770).symm.trans H
            refine AWp.exit ?_
            obtain rfl := Option.some.inj H
            exact Exists.intro _ (And.intro (fun _ _ h => h.conv (inv := [(0, 0)]) (vk := []) (e0 := []) (t := ⟨[(0, .own 0), (1, iV .i64 a1), (2, iV .i64 a2), (7, iV .i64 x2750), (8, iV .i64 x2728)], [(0, some (.row 1 3 (x2726.map (encInt .i64))))], 1⟩) (by kernel_rfl)) (And.intro rfl rfl))
      · obtain ⟨x2771, rfl⟩ : ∃ z, z = o2901 := ⟨_, rfl⟩
        rintro e s ⟨rfl, rfl⟩
        refine AWp.seq ?_
        refine AWp.seq ?_
        refine reg hP hn hm [] [0, 1, 2, 7, 8, 37] [0] ⟨[(0, .own 0), (1, iV .i64 a1), (2, iV .i64 a2), (7, iV .i64 x2771), (8, iV .i64 x2728), (37, bV (x2771 == a2))], [(0, some (.row 1 3 (x2726.map (encInt .i64))))], 1⟩ [] (by kernel_rfl) trivial ?_
        refine AWp.cond (x2771 == a2) rfl (fun c2772 => ?_) (fun c2772 => ?_)
        · replace H := (ifT c2772).symm.trans H
          refine AWp.seq ?_
          refine reg hP hn hm [] [6] [0] ⟨[(6, bV true)], [(0, some (.row 1 3 (x2726.map (encInt .i64))))], 1⟩ [] (by kernel_rfl) trivial ?_
          refine AWp.conv (inv := [(0, 0)]) (vk := []) (e0 := []) (t := ⟨[(6, bV true)], [(0, some (.row 1 3 (x2726.map (encInt .i64))))], 1⟩) (by kernel_rfl) ?_
          refine AWp.ret ?_
          obtain rfl := Option.some.inj H
          exact Exists.intro _ (And.intro (fun _ _ h => h) (And.intro rfl (And.intro rfl (And.intro (by kernel_rfl) (by kernel_rfl)))))
        · replace H := (ifF c2772).symm.trans H
          refine AWp.skip ?_
          refine AWp.seq ?_
          refine AWp.seq ?_
          refine reg hP hn hm [] [0, 1, 2, 7, 8, 41] [0] ⟨[(0, .own 0), (1, iV .i64 a1), (2, iV .i64 a2), (7, iV .i64 x2771), (8, iV .i64 x2728), (41, bV (decide ((IntKind.i64.wrap (a2 - a1)) < (50 : Int))))], [(0, some (.row 1 3 (x2726.map (encInt .i64))))], 1⟩ [] (by kernel_rfl) trivial ?_
          refine AWp.cond (decide ((IntKind.i64.wrap (a2 - a1)) < (50 : Int))) rfl (fun c2773 => ?_) (fun c2773 => ?_)
          · replace H := (ifT c2773).symm.trans H
            refine AWp.seq ?_
            refine reg hP hn hm [] [6] [0] ⟨[(6, bV false)], [(0, some (.row 1 3 (x2726.map (encInt .i64))))], 1⟩ [] (by kernel_rfl) trivial ?_
            refine AWp.conv (inv := [(0, 0)]) (vk := []) (e0 := []) (t := ⟨[(6, bV false)], [(0, some (.row 1 3 (x2726.map (encInt .i64))))], 1⟩) (by kernel_rfl) ?_
            refine AWp.ret ?_
            obtain rfl := Option.some.inj H
            exact Exists.intro _ (And.intro (fun _ _ h => h) (And.intro rfl (And.intro rfl (And.intro (by kernel_rfl) (by kernel_rfl)))))
          · replace H := (ifF c2773).symm.trans H
            refine AWp.skip ?_
            refine AWp.seq ?_
            obtain ⟨b2783, p2784, q2785, H⟩ := at_of H
            obtain ⟨b2786, p2787, q2788, H⟩ := at_of H
            obtain ⟨b2789, p2790, q2791, H⟩ := at_of H
            refine reg hP hn hm [(9, .c ((encInt .i64) b2783)), (13, .c ((encInt .i64) b2786)), (15, .put ((encInt .i64) b2786) ((x2726.set (Int.toNat (x2771)) b2783).map (encInt .i64))), (17, .put ((encInt .i64) b2789) (((x2726.set (Int.toNat (x2771)) b2783).set (Int.toNat (IntKind.i64.wrap (x2771 - (1 : Int)))) b2786).map (encInt .i64)))] [0, 1, 2, 7, 8] [0] ⟨[(0, .own 0), (1, iV .i64 a1), (2, iV .i64 a2), (7, iV .i64 x2771), (8, iV .i64 x2728)], [(0, some (.row 1 3 (((x2726.set (Int.toNat (x2771)) b2783).set (Int.toNat (IntKind.i64.wrap (x2771 - (1 : Int)))) b2786).map (encInt .i64))))], 1⟩ [0 ≤ (IntKind.i64.wrap (x2771 - (1 : Int))), IntKind.i64.wrap (x2771 - (1 : Int)) < (((x2726.map (encInt .i64)).length : Nat) : Int), (x2726.map (encInt .i64))[(Int.toNat (IntKind.i64.wrap (x2771 - (1 : Int))))]? = some ((encInt .i64) b2783), 0 ≤ x2771, x2771 < (((x2726.map (encInt .i64)).length : Nat) : Int), (x2726.map (encInt .i64))[(Int.toNat (x2771))]? = some ((encInt .i64) b2786), 0 ≤ x2771, x2771 < (((x2726.map (encInt .i64)).length : Nat) : Int), (x2726.map (encInt .i64))[(Int.toNat (x2771))]? = some ((encInt .i64) b2786), (x2726.set (Int.toNat (x2771)) b2783).map (encInt .i64) = (x2726.map (encInt .i64)).set (Int.toNat (x2771)) (splice ((encInt .i64) b2786) 0 [iI .i64 b2783]), 0 ≤ (IntKind.i64.wrap (x2771 - (1 : Int))), IntKind.i64.wrap (x2771 - (1 : Int)) < ((((x2726.set (Int.toNat (x2771)) b2783).map (encInt .i64)).length : Nat) : Int), ((x2726.set (Int.toNat (x2771)) b2783).map (encInt .i64))[(Int.toNat (IntKind.i64.wrap (x2771 - (1 : Int))))]? = some ((encInt .i64) b2789), ((x2726.set (Int.toNat (x2771)) b2783).set (Int.toNat (IntKind.i64.wrap (x2771 - (1 : Int)))) b2786).map (encInt .i64) = ((x2726.set (Int.toNat (x2771)) b2783).map (encInt .i64)).set (Int.toNat (IntKind.i64.wrap (x2771 - (1 : Int)))) (splice ((encInt .i64) b2789) 0 [iI .i64 b2786])] (by kernel_rfl) ⟨by exact p2784, by exact el_lt (encInt .i64) p2784 q2785, by exact el_map (encInt .i64) q2785, by exact p2787, by exact el_lt (encInt .i64) p2787 q2788, by exact el_map (encInt .i64) q2788, by exact p2787, by exact el_lt (encInt .i64) p2787 q2788, by exact el_map (encInt .i64) q2788, by exact set1 _ _ _ _, by exact p2790, by exact el_lt (encInt .i64) p2790 q2791, by exact el_map (encInt .i64) q2791, by exact set1 _ _ _ _, trivial⟩ ?_
            refine AWp.seq ?_
            refine AWp.seq ?_
            refine reg hP hn hm [] [0, 1, 2, 7, 8, 61] [0] ⟨[(0, .own 0), (1, iV .i64 a1), (2, iV .i64 a2), (7, iV .i64 x2771), (8, iV .i64 x2728), (61, bV (decide ((IntKind.i64.wrap (x2771 - a1)) ≥ (2 : Int))))], [(0, some (.row 1 3 (((x2726.set (Int.toNat (x2771)) b2783).set (Int.toNat (IntKind.i64.wrap (x2771 - (1 : Int)))) b2786).map (encInt .i64))))], 1⟩ [] (by kernel_rfl) trivial ?_
            obtain ⟨o2905, e2906, H⟩ := bind_of H
            refine AWp.mono (Q := fun e s => (match (generalizing := false) o2905 with | x2844 => e = .normal ∧ s = ⟨[(0, .own 0), (1, iV .i64 a1), (2, iV .i64 a2), (7, iV .i64 x2771), (8, iV .i64 x2728)], [(0, some (.row 1 3 (x2844.map (encInt .i64))))], 1⟩)) (AWp.cv ?_) ?_
            · replace H := e2906; clear e2906
              refine AWp.cond (decide ((IntKind.i64.wrap (x2771 - a1)) ≥ (2 : Int))) rfl (fun c2792 => ?_) (fun c2792 => ?_)
              · replace H := (ifT c2792).symm.trans H
                refine AWp.seq ?_
                refine reg hP hn hm [] [0, 1, 2, 7, 8, 9] [0] ⟨[(0, .own 0), (1, iV .i64 a1), (2, iV .i64 a2), (7, iV .i64 x2771), (8, iV .i64 x2728), (9, iV .i64 (IntKind.i64.wrap (x2771 - (1 : Int))))], [(0, some (.row 1 3 (((x2726.set (Int.toNat (x2771)) b2783).set (Int.toNat (IntKind.i64.wrap (x2771 - (1 : Int)))) b2786).map (encInt .i64))))], 1⟩ [] (by kernel_rfl) trivial ?_
                refine AWp.block ?_
                obtain ⟨o2907, e2908, H⟩ := bind_of H
                refine AWp.loop (LWp.conv (inv := [(0, 0)]) (vk := []) (e0 := []) (t := ⟨[(0, .own 0), (1, iV .i64 a1), (2, iV .i64 a2), (7, iV .i64 x2771), (8, iV .i64 x2728), (9, iV .i64 (IntKind.i64.wrap (x2771 - (1 : Int))))], [(0, some (.row 1 3 (((x2726.set (Int.toNat (x2771)) b2783).set (Int.toNat (IntKind.i64.wrap (x2771 - (1 : Int)))) b2786).map (encInt .i64))))], 1⟩) (by kernel_rfl) ?_)
                refine LWp.mono (Q := fun e s => (match (generalizing := false) o2907 with | x2843 => e = .exit 4 ∧ s = ⟨[(0, .own 0), (1, iV .i64 a1), (2, iV .i64 a2), (7, iV .i64 x2771), (8, iV .i64 x2728)], [(0, some (.row 1 3 (x2843.map (encInt .i64))))], 1⟩)) (LWp.cv (withBody (fun body hbody => ?_))) ?_
                · refine f_slices_partialInsertionSortOrdered_int.l2.partial_correctness a1 a2 x2728 x2771 (motive := fun x2817 x2818 o2907 => LWp Γ body (fun e s => ∃ t, Cv Γ s t ∧ (match (generalizing := false) o2907 with | x2843 => e = .exit 4 ∧ t = ⟨[(0, .own 0), (1, iV .i64 a1), (2, iV .i64 a2), (7, iV .i64 x2771), (8, iV .i64 x2728)], [(0, some (.row 1 3 (x2843.map (encInt .i64))))], 1⟩)) ⟨[(0, .own 0), (1, iV .i64 a1), (2, iV .i64 a2), (7, iV .i64 x2771), (8, iV .i64 x2728), (9, iV .i64 x2818)], [(0, some (.row 1 3 (x2817.map (encInt .i64))))], 1⟩) ?_ _ _ _ e2908
                  clear H e2908 o2907; intro self ih x2817 x2818 o2907 H
                  subst hbody
                  refine LWp.round ?_
                  refine AWp.seq ?_
                  refine AWp.seq ?_
                  refine reg hP hn hm [] [0, 1, 2, 7, 8, 9, 65] [0] ⟨[(0, .own 0), (1, iV .i64 a1), (2, iV .i64 a2), (7, iV .i64 x2771), (8, iV .i64 x2728), (9, iV .i64 x2818), (65, bV (decide (x2818 ≥ (1 : Int))))], [(0, some (.row 1 3 (x2817.map (encInt .i64))))], 1⟩ [] (by kernel_rfl) trivial ?_
                  refine AWp.cond (decide (x2818 ≥ (1 : Int))) rfl (fun c2819 => ?_) (fun c2819 => ?_)
                  · replace H := (ifT c2819).symm.trans H
                    refine AWp.skip ?_
                    refine AWp.seq ?_
                    refine AWp.block ?_
                    refine AWp.seq ?_
                    refine AWp.seq ?_
                    obtain ⟨b2828, p2829, q2830, H⟩ := at_of H
                    obtain ⟨b2831, p2832, q2833, H⟩ := at_of H
                    obtain ⟨t2834, e2835, H⟩ := bind_of H
                    refine reg hP hn hm [(3, .c ((encInt .i64) b2828)), (8, .c ((encInt .i64) b2831)), (9, .call [] [] [] [] 0 (bV t2834) [])] [0, 1, 2, 7, 8, 9, 78] [0] ⟨[(0, .own 0), (1, iV .i64 a1), (2, iV .i64 a2), (7, iV .i64 x2771), (8, iV .i64 x2728), (9, iV .i64 x2818), (78, bV (!t2834))], [(0, some (.row 1 3 (x2817.map (encInt .i64))))], 1⟩ [0 ≤ x2818, x2818 < (((x2817.map (encInt .i64)).length : Nat) : Int), (x2817.map (encInt .i64))[(Int.toNat (x2818))]? = some ((encInt .i64) b2828), 0 ≤ (IntKind.i64.wrap (x2818 - (1 : Int))), IntKind.i64.wrap (x2818 - (1 : Int)) < (((x2817.map (encInt .i64)).length : Nat) : Int), (x2817.map (encInt .i64))[(Int.toNat (IntKind.i64.wrap (x2818 - (1 : Int))))]? = some ((encInt .i64) b2831), Enters Try.prog 73, Pv.Fn Try.prog 73 [iV .i64 b2828, iV .i64 b2831] [] 0 (fun r o => r = bV t2834 ∧ o = [])] (by kernel_rfl) ⟨by exact p2829, by exact el_lt (encInt .i64) p2829 q2830, by exact el_map (encInt .i64) q2830, by exact p2832, by exact el_lt (encInt .i64) p2832 q2833, by exact el_map (encInt .i64) q2833, by exact Try.call73, by exact f_cmp_Less_int.ok b2828 b2831 t2834 e2835, trivial⟩ ?_
                    refine AWp.cond (!t2834) rfl (fun c2836 => ?_) (fun c2836 => ?_)
                    · replace H := (ifT c2836).symm.trans H
                      refine AWp.exit ?_
                      obtain rfl := Option.some.inj H
                      exact Exists.intro _ (And.intro (fun _ _ h => h.conv (inv := [(0, 0)]) (vk := []) (e0 := []) (t := ⟨[(0, .own 0), (1, iV .i64 a1), (2, iV .i64 a2), (7, iV .i64 x2771), (8, iV .i64 x2728)], [(0, some (.row 1 3 (x2817.map (encInt .i64))))], 1⟩) (by kernel_rfl)) (And.intro rfl rfl))
                    · replace H := (ifF c2836).symm.trans H
                      refine AWp.skip ?_
                      obtain ⟨b2840, p2841, q2842, H⟩ := at_of H
                      refine reg hP hn hm [(9, .c ((encInt .i64) b2831)), (13, .c ((encInt .i64) b2828)), (15, .put ((encInt .i64) b2828) ((x2817.set (Int.toNat (x2818)) b2831).map (encInt .i64))), (17, .put ((encInt .i64) b2840) (((x2817.set (Int.toNat (x2818)) b2831).set (Int.toNat (IntKind.i64.wrap (x2818 - (1 : Int)))) b2828).map (encInt .i64)))] [0, 1, 2, 7, 8, 9] [0] ⟨[(0, .own 0), (1, iV .i64 a1), (2, iV .i64 a2), (7, iV .i64 x2771), (8, iV .i64 x2728), (9, iV .i64 x2818)], [(0, some (.row 1 3 (((x2817.set (Int.toNat (x2818)) b2831).set (Int.toNat (IntKind.i64.wrap (x2818 - (1 : Int)))) b2828).map (encInt .i64))))], 1⟩ [0 ≤ (IntKind.i64.wrap (x2818 - (1 : Int))), IntKind.i64.wrap (x2818 - (1 : Int)) < (((x2817.map (encInt .i64)).length : Nat) : Int), (x2817.map (encInt .i64))[(Int.toNat (IntKind.i64.wrap (x2818 - (1 : Int))))]? = some ((encInt .i64) b2831), 0 ≤ x2818, x2818 < (((x2817.map (encInt .i64)).length : Nat) : Int), (x2817.map (encInt .i64))[(Int.toNat (x2818))]? = some ((encInt .i64) b2828), 0 ≤ x2818, x2818 < (((x2817.map (encInt .i64)).length : Nat) : Int), (x2817.map (encInt .i64))[(Int.toNat (x2818))]? = some ((encInt .i64) b2828), (x2817.set (Int.toNat (x2818)) b2831).map (encInt .i64) = (x2817.map (encInt .i64)).set (Int.toNat (x2818)) (splice ((encInt .i64) b2828) 0 [iI .i64 b2831]), 0 ≤ (IntKind.i64.wrap (x2818 - (1 : Int))), IntKind.i64.wrap (x2818 - (1 : Int)) < ((((x2817.set (Int.toNat (x2818)) b2831).map (encInt .i64)).length : Nat) : Int), ((x2817.set (Int.toNat (x2818)) b2831).map (encInt .i64))[(Int.toNat (IntKind.i64.wrap (x2818 - (1 : Int))))]? = some ((encInt .i64) b2840), ((x2817.set (Int.toNat (x2818)) b2831).set (Int.toNat (IntKind.i64.wrap (x2818 - (1 : Int)))) b2828).map (encInt .i64) = ((x2817.set (Int.toNat (x2818)) b2831).map (encInt .i64)).set (Int.toNat (IntKind.i64.wrap (x2818 - (1 : Int)))) (splice ((encInt .i64) b2840) 0 [iI .i64 b2828])] (by kernel_rfl) ⟨by exact p2832, by exact el_lt (encInt .i64) p2832 q2833, by exact el_map (encInt .i64) q2833, by exact p2829, by exact el_lt (encInt .i64) p2829 q2830, by exact el_map (encInt .i64) q2830, by exact p2829, by exact el_lt (encInt .i64) p2829 q2830, by exact el_map (encInt .i64) q2830, by exact set1 _ _ _ _, by exact p2841, by exact el_lt (encInt .i64) p2841 q2842, by exact el_map (encInt .i64) q2842, by exact set1 _ _ _ _, trivial⟩ ?_
                      refine reg hP hn hm [] [0, 1, 2, 7, 8, 9] [0] ⟨[(0, .own 0), (1, iV .i64 a1), (2, iV .i64 a2), (7, iV .i64 x2771), (8, iV .i64 x2728), (9, iV .i64 (IntKind.i64.wrap (x2818 - (1 : Int))))], [(0, some (.row 1 3 (((x2817.set (Int.toNat (x2818)) b2831).set (Int.toNat (IntKind.i64.wrap (x2818 - (1 : Int)))) b2828).map (encInt .i64))))], 1⟩ [] (by kernel_rfl) trivial ?_
                      exact LWp.conv (inv := [(0, 0)]) (vk := []) (e0 := []) (t := ⟨[(0, .own 0), (1, iV .i64 a1), (2, iV .i64 a2), (7, iV .i64 x2771), (8, iV .i64 x2728), (9, iV .i64 (IntKind.i64.wrap (x2818 - (1 : Int))))], [(0, some (.row 1 3 (((x2817.set (Int.toNat (x2818)) b2831).set (Int.toNat (IntKind.i64.wrap (x2818 - (1 : Int)))) b2828).map (encInt .i64))))], 1⟩) (by kernel_rfl) (ih _ _ _ H)
                  · replace H := (ifF c2819).symm.trans H
                    refine AWp.exit ?_
                    obtain rfl := Option.some.inj H
                    exact Exists.intro _ (And.intro (fun _ _ h => h.conv (inv := [(0, 0)]) (vk := []) (e0 := []) (t := ⟨[(0, .own 0), (1, iV .i64 a1), (2, iV .i64 a2), (7, iV .i64 x2771), (8, iV .i64 x2728)], [(0, some (.row 1 3 (x2817.map (encInt .i64))))], 1⟩) (by kernel_rfl)) (And.intro rfl rfl))
                · obtain ⟨x2843, rfl⟩ : ∃ z, z = o2907 := ⟨_, rfl⟩
                  rintro e s ⟨rfl, rfl⟩
                  obtain rfl := Option.some.inj H
                  exact Exists.intro _ (And.intro (fun _ _ h => h.conv (inv := [(0, 0)]) (vk := []) (e0 := []) (t := ⟨[(0, .own 0), (1, iV .i64 a1), (2, iV .i64 a2), (7, iV .i64 x2771), (8, iV .i64 x2728)], [(0, some (.row 1 3 (x2843.map (encInt .i64))))], 1⟩) (by kernel_rfl)) (And.intro rfl rfl))
              · replace H := (ifF c2792).symm.trans H
                refine AWp.skip ?_
                obtain rfl := Option.some.inj H
                exact Exists.intro _ (And.intro (fun _ _ h => h.conv (inv := [(0, 0)]) (vk := []) (e0 := []) (t := ⟨[(0, .own 0), (1, iV .i64 a1), (2, iV .i64 a2), (7, iV .i64 x2771), (8, iV .i64 x2728)], [(0, some (.row 1 3 (((x2726.set (Int.toNat (x2771)) b2783).set (Int.toNat (IntKind.i64.wrap (x2771 - (1 : Int)))) b2786).map (encInt .i64))))], 1⟩) (by kernel_rfl)) (And.intro rfl rfl))
            · obtain ⟨x2844, rfl⟩ : ∃ z, z = o2905 := ⟨_, rfl⟩
              rintro e s ⟨rfl, rfl⟩
              refine AWp.seq ?_
              refine reg hP hn hm [] [0, 1, 2, 7, 8, 98] [0] ⟨[(0, .own 0), (1, iV .i64 a1), (2, iV .i64 a2), (7, iV .i64 x2771), (8, iV .i64 x2728), (98, bV (decide ((IntKind.i64.wrap (a2 - x2771)) ≥ (2 : Int))))], [(0, some (.row 1 3 (x2844.map (encInt .i64))))], 1⟩ [] (by kernel_rfl) trivial ?_
              obtain ⟨o2909, e2910, H⟩ := bind_of H
              refine AWp.mono (Q := fun e s => (match (generalizing := false) o2909 with | x2897 => e = .normal ∧ s = ⟨[(0, .own 0), (1, iV .i64 a1), (2, iV .i64 a2), (7, iV .i64 x2771), (8, iV .i64 x2728)], [(0, some (.row 1 3 (x2897.map (encInt .i64))))], 1⟩)) (AWp.cv ?_) ?_
              · replace H := e2910; clear e2910
                refine AWp.cond (decide ((IntKind.i64.wrap (a2 - x2771)) ≥ (2 : Int))) rfl (fun c2845 => ?_) (fun c2845 => ?_)
                · replace H := (ifT c2845).symm.trans H
                  refine AWp.seq ?_
                  refine reg hP hn hm [] [0, 1, 2, 7, 8, 10] [0] ⟨[(0, .own 0), (1, iV .i64 a1), (2, iV .i64 a2), (7, iV .i64 x2771), (8, iV .i64 x2728), (10, iV .i64 (IntKind.i64.wrap (x2771 + (1 : Int))))], [(0, some (.row 1 3 (x2844.map (encInt .i64))))], 1⟩ [] (by kernel_rfl) trivial ?_
                  refine AWp.block ?_
                  obtain ⟨o2911, e2912, H⟩ := bind_of H
                  refine AWp.loop (LWp.conv (inv := [(0, 0)]) (vk := []) (e0 := []) (t := ⟨[(0, .own 0), (1, iV .i64 a1), (2, iV .i64 a2), (7, iV .i64 x2771), (8, iV .i64 x2728), (10, iV .i64 (IntKind.i64.wrap (x2771 + (1 : Int))))], [(0, some (.row 1 3 (x2844.map (encInt .i64))))], 1⟩) (by kernel_rfl) ?_)
                  refine LWp.mono (Q := fun e s => (match (generalizing := false) o2911 with | x2896 => e = .exit 6 ∧ s = ⟨[(0, .own 0), (1, iV .i64 a1), (2, iV .i64 a2), (7, iV .i64 x2771), (8, iV .i64 x2728)], [(0, some (.row 1 3 (x2896.map (encInt .i64))))], 1⟩)) (LWp.cv (withBody (fun body hbody => ?_))) ?_
                  · refine f_slices_partialInsertionSortOrdered_int.l3.partial_correctness a1 a2 x2728 x2771 (motive := fun x2870 x2871 o2911 => LWp Γ body (fun e s => ∃ t, Cv Γ s t ∧ (match (generalizing := false) o2911 with | x2896 => e = .exit 6 ∧ t = ⟨[(0, .own 0), (1, iV .i64 a1), (2, iV .i64 a2), (7, iV .i64 x2771), (8, iV .i64 x2728)], [(0, some (.row 1 3 (x2896.map (encInt .i64))))], 1⟩)) ⟨[(0, .own 0), (1, iV .i64 a1), (2, iV .i64 a2), (7, iV .i64 x2771), (8, iV .i64 x2728), (10, iV .i64 x2871)], [(0, some (.row 1 3 (x2870.map (encInt .i64))))], 1⟩) ?_ _ _ _ e2912
                    clear H e2912 o2911; intro self ih x2870 x2871 o2911 H
                    subst hbody
                    refine LWp.round ?_
                    refine AWp.seq ?_
                    refine AWp.seq ?_
                    refine reg hP hn hm [] [0, 1, 2, 7, 8, 10, 103] [0] ⟨[(0, .own 0), (1, iV .i64 a1), (2, iV .i64 a2), (7, iV .i64 x2771), (8, iV .i64 x2728), (10, iV .i64 x2871), (103, bV (decide (x2871 < a2)))], [(0, some (.row 1 3 (x2870.map (encInt .i64))))], 1⟩ [] (by kernel_rfl) trivial ?_
                    refine AWp.cond (decide (x2871 < a2)) rfl (fun c2872 => ?_) (fun c2872 => ?_)
                    · replace H := (ifT c2872).symm.trans H
                      refine AWp.skip ?_
                      refine AWp.seq ?_
                      refine AWp.block ?_
                      refine AWp.seq ?_
                      refine AWp.seq ?_
                      obtain ⟨b2881, p2882, q2883, H⟩ := at_of H
                      obtain ⟨b2884, p2885, q2886, H⟩ := at_of H
                      obtain ⟨t2887, e2888, H⟩ := bind_of H
                      refine reg hP hn hm [(3, .c ((encInt .i64) b2881)), (8, .c ((encInt .i64) b2884)), (9, .call [] [] [] [] 0 (bV t2887) [])] [0, 1, 2, 7, 8, 10, 116] [0] ⟨[(0, .own 0), (1, iV .i64 a1), (2, iV .i64 a2), (7, iV .i64 x2771), (8, iV .i64 x2728), (10, iV .i64 x2871), (116, bV (!t2887))], [(0, some (.row 1 3 (x2870.map (encInt .i64))))], 1⟩ [0 ≤ x2871, x2871 < (((x2870.map (encInt .i64)).length : Nat) : Int), (x2870.map (encInt .i64))[(Int.toNat (x2871))]? = some ((encInt .i64) b2881), 0 ≤ (IntKind.i64.wrap (x2871 - (1 : Int))), IntKind.i64.wrap (x2871 - (1 : Int)) < (((x2870.map (encInt .i64)).length : Nat) : Int), (x2870.map (encInt .i64))[(Int.toNat (IntKind.i64.wrap (x2871 - (1 : Int))))]? = some ((encInt .i64) b2884), Enters Try.prog 73, Pv.Fn Try.prog 73 [iV .i64 b2881, iV .i64 b2884] [] 0 (fun r o => r = bV t2887 ∧ o = [])] (by kernel_rfl) ⟨by exact p2882, by exact el_lt (encInt .i64) p2882 q2883, by exact el_map (encInt .i64) q2883, by exact p2885, by exact el_lt (encInt .i64) p2885 q2886, by exact el_map (encInt .i64) q2886, by exact Try.call73, by exact f_cmp_Less_int.ok b2881 b2884 t2887 e2888, trivial⟩ ?_
                      refine AWp.cond (!t2887) rfl (fun c2889 => ?_) (fun c2889 => ?_)
                      · replace H := (ifT c2889).symm.trans H
                        refine AWp.exit ?_
                        obtain rfl := Option.some.inj H
                        exact Exists.intro _ (And.intro (fun _ _ h => h.conv (inv := [(0, 0)]) (vk := []) (e0 := []) (t := ⟨[(0, .own 0), (1, iV .i64 a1), (2, iV .i64 a2), (7, iV .i64 x2771), (8, iV .i64 x2728)], [(0, some (.row 1 3 (x2870.map (encInt .i64))))], 1⟩) (by kernel_rfl)) (And.intro rfl rfl))
                      · replace H := (ifF c2889).symm.trans H
                        refine AWp.skip ?_
                        obtain ⟨b2893, p2894, q2895, H⟩ := at_of H
                        refine reg hP hn hm [(9, .c ((encInt .i64) b2884)), (13, .c ((encInt .i64) b2881)), (15, .put ((encInt .i64) b2881) ((x2870.set (Int.toNat (x2871)) b2884).map (encInt .i64))), (17, .put ((encInt .i64) b2893) (((x2870.set (Int.toNat (x2871)) b2884).set (Int.toNat (IntKind.i64.wrap (x2871 - (1 : Int)))) b2881).map (encInt .i64)))] [0, 1, 2, 7, 8, 10] [0] ⟨[(0, .own 0), (1, iV .i64 a1), (2, iV .i64 a2), (7, iV .i64 x2771), (8, iV .i64 x2728), (10, iV .i64 x2871)], [(0, some (.row 1 3 (((x2870.set (Int.toNat (x2871)) b2884).set (Int.toNat (IntKind.i64.wrap (x2871 - (1 : Int)))) b2881).map (encInt .i64))))], 1⟩ [0 ≤ (IntKind.i64.wrap (x2871 - (1 : Int))), IntKind.i64.wrap (x2871 - (1 : Int)) < (((x2870.map (encInt .i64)).length : Nat) : Int), (x2870.map (encInt .i64))[(Int.toNat (IntKind.i64.wrap (x2871 - (1 : Int))))]? = some ((encInt .i64) b2884), 0 ≤ x2871, x2871 < (((x2870.map (encInt .i64)).length : Nat) : Int), (x2870.map (encInt .i64))[(Int.toNat (x2871))]? = some ((encInt .i64) b2881), 0 ≤ x2871, x2871 < (((x2870.map (encInt .i64)).length : Nat) : Int), (x2870.map (encInt .i64))[(Int.toNat (x2871))]? = some ((encInt .i64) b2881), (x2870.set (Int.toNat (x2871)) b2884).map (encInt .i64) = (x2870.map (encInt .i64)).set (Int.toNat (x2871)) (splice ((encInt .i64) b2881) 0 [iI .i64 b2884]), 0 ≤ (IntKind.i64.wrap (x2871 - (1 : Int))), IntKind.i64.wrap (x2871 - (1 : Int)) < ((((x2870.set (Int.toNat (x2871)) b2884).map (encInt .i64)).length : Nat) : Int), ((x2870.set (Int.toNat (x2871)) b2884).map (encInt .i64))[(Int.toNat (IntKind.i64.wrap (x2871 - (1 : Int))))]? = some ((encInt .i64) b2893), ((x2870.set (Int.toNat (x2871)) b2884).set (Int.toNat (IntKind.i64.wrap (x2871 - (1 : Int)))) b2881).map (encInt .i64) = ((x2870.set (Int.toNat (x2871)) b2884).map (encInt .i64)).set (Int.toNat (IntKind.i64.wrap (x2871 - (1 : Int)))) (splice ((encInt .i64) b2893) 0 [iI .i64 b2881])] (by kernel_rfl) ⟨by exact p2885, by exact el_lt (encInt .i64) p2885 q2886, by exact el_map (encInt .i64) q2886, by exact p2882, by exact el_lt (encInt .i64) p2882 q2883, by exact el_map (encInt .i64) q2883, by exact p2882, by exact el_lt (encInt .i64) p2882 q2883, by exact el_map (encInt .i64) q2883, by exact set1 _ _ _ _, by exact p2894, by exact el_lt (encInt .i64) p2894 q2895, by exact el_map (encInt .i64) q2895, by exact set1 _ _ _ _, trivial⟩ ?_
                        refine reg hP hn hm [] [0, 1, 2, 7, 8, 10] [0] ⟨[(0, .own 0), (1, iV .i64 a1), (2, iV .i64 a2), (7, iV .i64 x2771), (8, iV .i64 x2728), (10, iV .i64 (IntKind.i64.wrap (x2871 + (1 : Int))))], [(0, some (.row 1 3 (((x2870.set (Int.toNat (x2871)) b2884).set (Int.toNat (IntKind.i64.wrap (x2871 - (1 : Int)))) b2881).map (encInt .i64))))], 1⟩ [] (by kernel_rfl) trivial ?_
                        exact LWp.conv (inv := [(0, 0)]) (vk := []) (e0 := []) (t := ⟨[(0, .own 0), (1, iV .i64 a1), (2, iV .i64 a2), (7, iV .i64 x2771), (8, iV .i64 x2728), (10, iV .i64 (IntKind.i64.wrap (x2871 + (1 : Int))))], [(0, some (.row 1 3 (((x2870.set (Int.toNat (x2871)) b2884).set (Int.toNat (IntKind.i64.wrap (x2871 - (1 : Int)))) b2881).map (encInt .i64))))], 1⟩) (by kernel_rfl) (ih _ _ _ H)
                    · replace H := (ifF c2872).symm.trans H
                      refine AWp.exit ?_
                      obtain rfl := Option.some.inj H
                      exact Exists.intro _ (And.intro (fun _ _ h => h.conv (inv := [(0, 0)]) (vk := []) (e0 := []) (t := ⟨[(0, .own 0), (1, iV .i64 a1), (2, iV .i64 a2), (7, iV .i64 x2771), (8, iV .i64 x2728)], [(0, some (.row 1 3 (x2870.map (encInt .i64))))], 1⟩) (by kernel_rfl)) (And.intro rfl rfl))
                  · obtain ⟨x2896, rfl⟩ : ∃ z, z = o2911 := ⟨_, rfl⟩
                    rintro e s ⟨rfl, rfl⟩
                    obtain rfl := Option.some.inj H
                    exact Exists.intro _ (And.intro (fun _ _ h => h.conv (inv := [(0, 0)]) (vk := []) (e0 := []) (t := ⟨[(0, .own 0), (1, iV .i64 a1), (2, iV .i64 a2), (7, iV .i64 x2771), (8, iV .i64 x2728)], [(0, some (.row 1 3 (x2896.map (encInt .i64))))], 1⟩) (by kernel_rfl)) (And.intro rfl rfl))
                · replace H := (ifF c2845).symm.trans H
                  refine AWp.skip ?_
                  obtain rfl := Option.some.inj H
                  exact Exists.intro _ (And.intro (fun _ _ h => h.conv (inv := [(0, 0)]) (vk := []) (e0 := []) (t := ⟨[(0, .own 0), (1, iV .i64 a1), (2, iV .i64 a2), (7, iV .i64 x2771), (8, iV .i64 x2728)], [(0, some (.row 1 3 (x2844.map (encInt .i64))))], 1⟩) (by kernel_rfl)) (And.intro rfl rfl))
              · obtain ⟨x2897, rfl⟩ : ∃ z, z = o2909 := ⟨_, rfl⟩
                rintro e s ⟨rfl, rfl⟩
                refine reg hP hn hm [] [0, 1, 2, 7, 8] [0] ⟨[(0, .own 0), (1, iV .i64 a1), (2, iV .i64 a2), (7, iV .i64 x2771), (8, iV .i64 (IntKind.i64.wrap (x2728 + (1 : Int))))], [(0, some (.row 1 3 (x2897.map (encInt .i64))))], 1⟩ [] (by kernel_rfl) trivial ?_
                exact LWp.conv (inv := [(0, 0)]) (vk := []) (e0 := []) (t := ⟨[(0, .own 0), (1, iV .i64 a1), (2, iV .i64 a2), (7, iV .i64 x2771), (8, iV .i64 (IntKind.i64.wrap (x2728 + (1 : Int))))], [(0, some (.row 1 3 (x2897.map (encInt .i64))))], 1⟩) (by kernel_rfl) (ih _ _ _ _ H)
    · replace H := (ifF c2729).symm.trans H
      refine AWp.exit ?_
      obtain rfl := Option.some.inj H
      exact Exists.intro _ (And.intro (fun _ _ h => h.conv (inv := [(0, 0)]) (vk := []) (e0 := []) (t := ⟨[], [(0, some (.row 1 3 (x2726.map (encInt .i64))))], 1⟩) (by kernel_rfl)) (And.intro rfl rfl))
  · rcases o2899 with rr | x2898
    · skip
      rintro e s ⟨rfl, hfl, hres⟩
      obtain rfl := Option.some.inj H
      exact Exists.intro _ (And.intro (fun _ _ h => h) (And.intro (.inl rfl) (And.intro hfl hres)))
    · skip
      rintro e s ⟨rfl, rfl⟩
      refine AWp.seq ?_
      refine reg hP hn hm [] [6] [0] ⟨[(6, bV false)], [(0, some (.row 1 3 (x2898.map (encInt .i64))))], 1⟩ [] (by kernel_rfl) trivial ?_
      refine AWp.conv (inv := [(0, 0)]) (vk := []) (e0 := []) (t := ⟨[(6, bV false)], [(0, some (.row 1 3 (x2898.map (encInt .i64))))], 1⟩) (by kernel_rfl) ?_
      refine AWp.ret ?_
      obtain rfl := Option.some.inj H
      exact Exists.intro _ (And.intro (fun _ _ h => h) (And.intro (.inl rfl) (And.intro rfl (And.intro (by kernel_rfl) (by kernel_rfl)))))
def f_slices_partitionEqualOrdered_int.l1 (a1 : Int) (x3060 : List Int) (x3062 : Int) (x3083 : Int) : Option (Int) := ((if (decide (x3083 ≤ x3062)) = true then ((at? x3060 a1) >>= fun b3094 => (at? x3060 x3083) >>= fun b3097 => (f_cmp_Less_int.f b3094 b3097) >>= fun t3100 => some (!t3100)) else (some false)) : Option (Bool)) >>= fun x3102 => if x3102 = true then (f_slices_partitionEqualOrdered_int.l1 a1 x3060 x3062 (IntKind.i64.wrap (x3083 + (1 : Int)))) else (some x3083)
partial_fixpoint
def f_slices_partitionEqualOrdered_int.l2 (a1 : Int) (x3060 : List Int) (x3104 : Int) (x3125 : Int) : Option (Int) := ((if (decide (x3104 ≤ x3125)) = true then ((at? x3060 a1) >>= fun b3136 => (at? x3060 x3125) >>= fun b3139 => (f_cmp_Less_int.f b3136 b3139) >>= fun t3142 => some t3142) else (some false)) : Option (Bool)) >>= fun x3144 => if x3144 = true then (f_slices_partitionEqualOrdered_int.l2 a1 x3060 x3104 (IntKind.i64.wrap (x3125 - (1 : Int)))) else (some x3125)
partial_fixpoint
def f_slices_partitionEqualOrdered_int.l0 (a1 : Int) (x3060 : List Int) (x3061 : Int) (x3062 : Int) : Option (Int × (List Int)) := (f_slices_partitionEqualOrdered_int.l1 a1 x3060 x3062 x3061) >>= fun x3104 => (f_slices_partitionEqualOrdered_int.l2 a1 x3060 x3104 x3062) >>= fun x3146 => if (decide (x3104 > x3146)) = true then (some (x3104, x3060)) else ((at? x3060 x3146) >>= fun b3157 => (at? x3060 x3104) >>= fun b3160 => (at? (x3060.set (Int.toNat (x3104)) b3157) x3146) >>= fun b3163 => f_slices_partitionEqualOrdered_int.l0 a1 ((x3060.set (Int.toNat (x3104)) b3157).set (Int.toNat (x3146)) b3160) (IntKind.i64.wrap (x3104 + (1 : Int))) (IntKind.i64.wrap (x3146 - (1 : Int))))
partial_fixpoint
def f_slices_partitionEqualOrdered_int.f (a0 : List Int) (a1 : Int) (a2 : Int) (a3 : Int) : Option (Int × (List Int)) := (at? a0 a3) >>= fun b2948 => (at? a0 a1) >>= fun b2951 => (at? (a0.set (Int.toNat (a1)) b2948) a3) >>= fun b2954 => (f_slices_partitionEqualOrdered_int.l0 a1 ((a0.set (Int.toNat (a1)) b2948).set (Int.toNat (a3)) b2951) (IntKind.i64.wrap (a1 + (1 : Int))) (IntKind.i64.wrap (a2 - (1 : Int)))) >>= fun oo => match oo with | (x3166, x3167) => (some (x3166, x3167))
theorem f_slices_partitionEqualOrdered_int.ok (a0 : List Int) (a1 : Int) (a2 : Int) (a3 : Int) (r : Int × (List Int)) (H : f_slices_partitionEqualOrdered_int.f a0 a1 a2 a3 = some r) : Pv.Fn Try.prog 74 [.own 0, iV .i64 a1, iV .i64 a2, iV .i64 a3] [(0, some (.row 1 3 (a0.map (encInt .i64))))] 1 (fun x o => x = iV .i64 r.1 ∧ o = [(0, some (.row 1 3 (r.2.map (encInt .i64))))]) := by
  unfold f_slices_partitionEqualOrdered_int.f at H
  refine Fn.bodyK [0] Try.func74 rfl rfl (fun Γ hP hn => ?_)
  have hm : Try.prog.follows .mixedOrders = true := by kernel_rfl
  replace hn : Γ.n = 84 := hn
  refine AWp.seq ?_
  refine reg hP hn hm [] [0, 1, 2, 3] [0] ⟨[(0, .own 0), (1, iV .i64 a1), (2, iV .i64 a2), (3, iV .i64 a3)], [(0, some (.row 1 3 (a0.map (encInt .i64))))], 1⟩ [] (by kernel_rfl) trivial ?_
  refine AWp.seq ?_
  obtain ⟨b2948, p2949, q2950, H⟩ := at_of H
  obtain ⟨b2951, p2952, q2953, H⟩ := at_of H
  obtain ⟨b2954, p2955, q2956, H⟩ := at_of H
  refine reg hP hn hm [(7, .c ((encInt .i64) b2948)), (11, .c ((encInt .i64) b2951)), (13, .put ((encInt .i64) b2951) ((a0.set (Int.toNat (a1)) b2948).map (encInt .i64))), (15, .put ((encInt .i64) b2954) (((a0.set (Int.toNat (a1)) b2948).set (Int.toNat (a3)) b2951).map (encInt .i64)))] [0, 1, 2] [0] ⟨[(0, .own 0), (1, iV .i64 a1), (2, iV .i64 a2)], [(0, some (.row 1 3 (((a0.set (Int.toNat (a1)) b2948).set (Int.toNat (a3)) b2951).map (encInt .i64))))], 1⟩ [0 ≤ a3, a3 < (((a0.map (encInt .i64)).length : Nat) : Int), (a0.map (encInt .i64))[(Int.toNat (a3))]? = some ((encInt .i64) b2948), 0 ≤ a1, a1 < (((a0.map (encInt .i64)).length : Nat) : Int), (a0.map (encInt .i64))[(Int.toNat (a1))]? = some ((encInt .i64) b2951), 0 ≤ a1, a1 < (((a0.map (encInt .i64)).length : Nat) : Int), (a0.map (encInt .i64))[(Int.toNat (a1))]? = some ((encInt .i64) b2951), (a0.set (Int.toNat (a1)) b2948).map (encInt .i64) = (a0.map (encInt .i64)).set (Int.toNat (a1)) (splice ((encInt .i64) b2951) 0 [iI .i64 b2948]), 0 ≤ a3, a3 < ((((a0.set (Int.toNat (a1)) b2948).map (encInt .i64)).length : Nat) : Int), ((a0.set (Int.toNat (a1)) b2948).map (encInt .i64))[(Int.toNat (a3))]? = some ((encInt .i64) b2954), ((a0.set (Int.toNat (a1)) b2948).set (Int.toNat (a3)) b2951).map (encInt .i64) = ((a0.set (Int.toNat (a1)) b2948).map (encInt .i64)).set (Int.toNat (a3)) (splice ((encInt .i64) b2954) 0 [iI .i64 b2951])] (by kernel_rfl) ⟨by exact p2949, by exact el_lt (encInt .i64) p2949 q2950, by exact el_map (encInt .i64) q2950, by exact p2952, by exact el_lt (encInt .i64) p2952 q2953, by exact el_map (encInt .i64) q2953, by exact p2952, by exact el_lt (encInt .i64) p2952 q2953, by exact el_map (encInt .i64) q2953, by exact set1 _ _ _ _, by exact p2955, by exact el_lt (encInt .i64) p2955 q2956, by exact el_map (encInt .i64) q2956, by exact set1 _ _ _ _, trivial⟩ ?_
  refine AWp.seq ?_
  refine reg hP hn hm [] [0, 1, 9, 10] [0] ⟨[(0, .own 0), (1, iV .i64 a1), (9, iV .i64 (IntKind.i64.wrap (a1 + (1 : Int)))), (10, iV .i64 (IntKind.i64.wrap (a2 - (1 : Int))))], [(0, some (.row 1 3 (((a0.set (Int.toNat (a1)) b2948).set (Int.toNat (a3)) b2951).map (encInt .i64))))], 1⟩ [] (by kernel_rfl) trivial ?_
  refine AWp.seq ?_
  refine AWp.block ?_
  obtain ⟨o3168, e3169, H⟩ := bind_of H
  refine AWp.loop (LWp.conv (inv := [(0, 0)]) (vk := []) (e0 := []) (t := ⟨[(0, .own 0), (1, iV .i64 a1), (9, iV .i64 (IntKind.i64.wrap (a1 + (1 : Int)))), (10, iV .i64 (IntKind.i64.wrap (a2 - (1 : Int))))], [(0, some (.row 1 3 (((a0.set (Int.toNat (a1)) b2948).set (Int.toNat (a3)) b2951).map (encInt .i64))))], 1⟩) (by kernel_rfl) ?_)
  refine LWp.mono (Q := fun e s => (match (generalizing := false) o3168 with | (x3166, x3167) => e = .exit 0 ∧ s = ⟨[(9, iV .i64 x3166)], [(0, some (.row 1 3 (x3167.map (encInt .i64))))], 1⟩)) (LWp.cv (withBody (fun body hbody => ?_))) ?_
  · refine f_slices_partitionEqualOrdered_int.l0.partial_correctness a1 (motive := fun x3060 x3061 x3062 o3168 => LWp Γ body (fun e s => ∃ t, Cv Γ s t ∧ (match (generalizing := false) o3168 with | (x3166, x3167) => e = .exit 0 ∧ t = ⟨[(9, iV .i64 x3166)], [(0, some (.row 1 3 (x3167.map (encInt .i64))))], 1⟩)) ⟨[(0, .own 0), (1, iV .i64 a1), (9, iV .i64 x3061), (10, iV .i64 x3062)], [(0, some (.row 1 3 (x3060.map (encInt .i64))))], 1⟩) ?_ _ _ _ _ e3169
    clear H e3169 o3168; intro self ih x3060 x3061 x3062 o3168 H
    subst hbody
    refine LWp.round ?_
    refine AWp.block ?_
    refine AWp.seq ?_
    refine AWp.block ?_
    obtain ⟨o3170, e3171, H⟩ := bind_of H
    refine AWp.loop (LWp.conv (inv := [(0, 0)]) (vk := []) (e0 := []) (t := ⟨[(0, .own 0), (1, iV .i64 a1), (9, iV .i64 x3061), (10, iV .i64 x3062)], [(0, some (.row 1 3 (x3060.map (encInt .i64))))], 1⟩) (by kernel_rfl) ?_)
    refine LWp.mono (Q := fun e s => (match (generalizing := false) o3170 with | x3104 => e = .exit 2 ∧ s = ⟨[(0, .own 0), (1, iV .i64 a1), (9, iV .i64 x3104), (10, iV .i64 x3062)], [(0, some (.row 1 3 (x3060.map (encInt .i64))))], 1⟩)) (LWp.cv (withBody (fun body hbody => ?_))) ?_
    · refine f_slices_partitionEqualOrdered_int.l1.partial_correctness a1 x3060 x3062 (motive := fun x3083 o3170 => LWp Γ body (fun e s => ∃ t, Cv Γ s t ∧ (match (generalizing := false) o3170 with | x3104 => e = .exit 2 ∧ t = ⟨[(0, .own 0), (1, iV .i64 a1), (9, iV .i64 x3104), (10, iV .i64 x3062)], [(0, some (.row 1 3 (x3060.map (encInt .i64))))], 1⟩)) ⟨[(0, .own 0), (1, iV .i64 a1), (9, iV .i64 x3083), (10, iV .i64 x3062)], [(0, some (.row 1 3 (x3060.map (encInt .i64))))], 1⟩) ?_ _ _ e3171
      clear H e3171 o3170; intro self ih x3083 o3170 H
      subst hbody
      refine LWp.round ?_
      refine AWp.seq ?_
      refine AWp.seq ?_
      obtain ⟨o3172, e3173, H⟩ := bind_of H
      refine AWp.mono (Q := fun e s => (match (generalizing := false) o3172 with | x3102 => e = .normal ∧ s = ⟨[(0, .own 0), (1, iV .i64 a1), (9, iV .i64 x3083), (10, iV .i64 x3062), (43, bV x3102)], [(0, some (.row 1 3 (x3060.map (encInt .i64))))], 1⟩)) (AWp.cv ?_) ?_
      · replace H := e3173; clear e3173
        rcases Bool.eq_false_or_eq_true (decide (x3083 ≤ x3062)) with c3093 | c3093
        · replace H := (ifT c3093).symm.trans H
          obtain ⟨b3094, p3095, q3096, H⟩ := at_of H
          obtain ⟨b3097, p3098, q3099, H⟩ := at_of H
          obtain ⟨t3100, e3101, H⟩ := bind_of H
          refine reg hP hn hm [(3, .b true), (7, .c ((encInt .i64) b3094)), (11, .c ((encInt .i64) b3097)), (12, .call [] [] [] [] 0 (bV t3100) [])] [0, 1, 9, 10, 33, 34, 35, 36, 37, 38, 39, 40, 41, 42, 43] [0] ⟨[(0, .own 0), (1, iV .i64 a1), (9, iV .i64 x3083), (10, iV .i64 x3062), (33, .own 0), (34, iV .i64 a1), (35, .ptr 0 (Int.toNat (a1)) 0), (36, iV .i64 b3094), (37, .own 0), (38, iV .i64 x3083), (39, .ptr 0 (Int.toNat (x3083)) 0), (40, iV .i64 b3097), (41, bV t3100), (42, bV (!t3100)), (43, bV (!t3100))], [(0, some (.row 1 3 (x3060.map (encInt .i64))))], 1⟩ [(decide (x3083 ≤ x3062)) = true, 0 ≤ a1, a1 < (((x3060.map (encInt .i64)).length : Nat) : Int), (x3060.map (encInt .i64))[(Int.toNat (a1))]? = some ((encInt .i64) b3094), 0 ≤ x3083, x3083 < (((x3060.map (encInt .i64)).length : Nat) : Int), (x3060.map (encInt .i64))[(Int.toNat (x3083))]? = some ((encInt .i64) b3097), Enters Try.prog 73, Pv.Fn Try.prog 73 [iV .i64 b3094, iV .i64 b3097] [] 0 (fun r o => r = bV t3100 ∧ o = [])] (by kernel_rfl) ⟨by exact c3093, by exact p3095, by exact el_lt (encInt .i64) p3095 q3096, by exact el_map (encInt .i64) q3096, by exact p3098, by exact el_lt (encInt .i64) p3098 q3099, by exact el_map (encInt .i64) q3099, by exact Try.call73, by exact f_cmp_Less_int.ok b3094 b3097 t3100 e3101, trivial⟩ ?_
          obtain rfl := Option.some.inj H
          exact Exists.intro _ (And.intro (fun _ _ h => h.conv (inv := [(0, 0)]) (vk := []) (e0 := []) (t := ⟨[(0, .own 0), (1, iV .i64 a1), (9, iV .i64 x3083), (10, iV .i64 x3062), (43, bV (!t3100))], [(0, some (.row 1 3 (x3060.map (encInt .i64))))], 1⟩) (by kernel_rfl)) (And.intro rfl rfl))
        · replace H := (ifF c3093).symm.trans H
          refine reg hP hn hm [(3, .b false)] [0, 1, 9, 10, 43] [0] ⟨[(0, .own 0), (1, iV .i64 a1), (9, iV .i64 x3083), (10, iV .i64 x3062), (43, bV false)], [(0, some (.row 1 3 (x3060.map (encInt .i64))))], 1⟩ [(decide (x3083 ≤ x3062)) = false] (by kernel_rfl) ⟨by exact c3093, trivial⟩ ?_
          obtain rfl := Option.some.inj H
          exact Exists.intro _ (And.intro (fun _ _ h => h.conv (inv := [(0, 0)]) (vk := []) (e0 := []) (t := ⟨[(0, .own 0), (1, iV .i64 a1), (9, iV .i64 x3083), (10, iV .i64 x3062), (43, bV false)], [(0, some (.row 1 3 (x3060.map (encInt .i64))))], 1⟩) (by kernel_rfl)) (And.intro rfl rfl))
      · obtain ⟨x3102, rfl⟩ : ∃ z, z = o3172 := ⟨_, rfl⟩
        rintro e s ⟨rfl, rfl⟩
        refine AWp.cond x3102 rfl (fun c3103 => ?_) (fun c3103 => ?_)
        · replace H := (ifT c3103).symm.trans H
          refine AWp.skip ?_
          refine AWp.block ?_
          refine reg hP hn hm [] [0, 1, 9, 10] [0] ⟨[(0, .own 0), (1, iV .i64 a1), (9, iV .i64 (IntKind.i64.wrap (x3083 + (1 : Int)))), (10, iV .i64 x3062)], [(0, some (.row 1 3 (x3060.map (encInt .i64))))], 1⟩ [] (by kernel_rfl) trivial ?_
          exact LWp.conv (inv := [(0, 0)]) (vk := []) (e0 := []) (t := ⟨[(0, .own 0), (1, iV .i64 a1), (9, iV .i64 (IntKind.i64.wrap (x3083 + (1 : Int)))), (10, iV .i64 x3062)], [(0, some (.row 1 3 (x3060.map (encInt .i64))))], 1⟩) (by kernel_rfl) (ih _ _ H)
        · replace H := (ifF c3103).symm.trans H
          refine AWp.exit ?_
          obtain rfl := Option.some.inj H
          exact Exists.intro _ (And.intro (fun _ _ h => h.conv (inv := [(0, 0)]) (vk := []) (e0 := []) (t := ⟨[(0, .own 0), (1, iV .i64 a1), (9, iV .i64 x3083), (10, iV .i64 x3062)], [(0, some (.row 1 3 (x3060.map (encInt .i64))))], 1⟩) (by kernel_rfl)) (And.intro rfl rfl))
    · obtain ⟨x3104, rfl⟩ : ∃ z, z = o3170 := ⟨_, rfl⟩
      rintro e s ⟨rfl, rfl⟩
      refine AWp.seq ?_
      refine AWp.block ?_
      obtain ⟨o3174, e3175, H⟩ := bind_of H
      refine AWp.loop (LWp.conv (inv := [(0, 0)]) (vk := []) (e0 := []) (t := ⟨[(0, .own 0), (1, iV .i64 a1), (9, iV .i64 x3104), (10, iV .i64 x3062)], [(0, some (.row 1 3 (x3060.map (encInt .i64))))], 1⟩) (by kernel_rfl) ?_)
      refine LWp.mono (Q := fun e s => (match (generalizing := false) o3174 with | x3146 => e = .exit 4 ∧ s = ⟨[(0, .own 0), (1, iV .i64 a1), (9, iV .i64 x3104), (10, iV .i64 x3146)], [(0, some (.row 1 3 (x3060.map (encInt .i64))))], 1⟩)) (LWp.cv (withBody (fun body hbody => ?_))) ?_
      · refine f_slices_partitionEqualOrdered_int.l2.partial_correctness a1 x3060 x3104 (motive := fun x3125 o3174 => LWp Γ body (fun e s => ∃ t, Cv Γ s t ∧ (match (generalizing := false) o3174 with | x3146 => e = .exit 4 ∧ t = ⟨[(0, .own 0), (1, iV .i64 a1), (9, iV .i64 x3104), (10, iV .i64 x3146)], [(0, some (.row 1 3 (x3060.map (encInt .i64))))], 1⟩)) ⟨[(0, .own 0), (1, iV .i64 a1), (9, iV .i64 x3104), (10, iV .i64 x3125)], [(0, some (.row 1 3 (x3060.map (encInt .i64))))], 1⟩) ?_ _ _ e3175
        clear H e3175 o3174; intro self ih x3125 o3174 H
        subst hbody
        refine LWp.round ?_
        refine AWp.seq ?_
        refine AWp.seq ?_
        obtain ⟨o3176, e3177, H⟩ := bind_of H
        refine AWp.mono (Q := fun e s => (match (generalizing := false) o3176 with | x3144 => e = .normal ∧ s = ⟨[(0, .own 0), (1, iV .i64 a1), (9, iV .i64 x3104), (10, iV .i64 x3125), (59, bV x3144)], [(0, some (.row 1 3 (x3060.map (encInt .i64))))], 1⟩)) (AWp.cv ?_) ?_
        · replace H := e3177; clear e3177
          rcases Bool.eq_false_or_eq_true (decide (x3104 ≤ x3125)) with c3135 | c3135
          · replace H := (ifT c3135).symm.trans H
            obtain ⟨b3136, p3137, q3138, H⟩ := at_of H
            obtain ⟨b3139, p3140, q3141, H⟩ := at_of H
            obtain ⟨t3142, e3143, H⟩ := bind_of H
            refine reg hP hn hm [(3, .b true), (7, .c ((encInt .i64) b3136)), (11, .c ((encInt .i64) b3139)), (12, .call [] [] [] [] 0 (bV t3142) [])] [0, 1, 9, 10, 50, 51, 52, 53, 54, 55, 56, 57, 58, 59] [0] ⟨[(0, .own 0), (1, iV .i64 a1), (9, iV .i64 x3104), (10, iV .i64 x3125), (50, .own 0), (51, iV .i64 a1), (52, .ptr 0 (Int.toNat (a1)) 0), (53, iV .i64 b3136), (54, .own 0), (55, iV .i64 x3125), (56, .ptr 0 (Int.toNat (x3125)) 0), (57, iV .i64 b3139), (58, bV t3142), (59, bV t3142)], [(0, some (.row 1 3 (x3060.map (encInt .i64))))], 1⟩ [(decide (x3104 ≤ x3125)) = true, 0 ≤ a1, a1 < (((x3060.map (encInt .i64)).length : Nat) : Int), (x3060.map (encInt .i64))[(Int.toNat (a1))]? = some ((encInt .i64) b3136), 0 ≤ x3125, x3125 < (((x3060.map (encInt .i64)).length : Nat) : Int), (x3060.map (encInt .i64))[(Int.toNat (x3125))]? = some ((encInt .i64) b3139), Enters Try.prog 73, Pv.Fn Try.prog 73 [iV .i64 b3136, iV .i64 b3139] [] 0 (fun r o => r = bV t3142 ∧ o = [])] (by kernel_rfl) ⟨by exact c3135, by exact p3137, by exact el_lt (encInt .i64) p3137 q3138, by exact el_map (encInt .i64) q3138, by exact p3140, by exact el_lt (encInt .i64) p3140 q3141, by exact el_map (encInt .i64) q3141, by exact Try.call73, by exact f_cmp_Less_int.ok b3136 b3139 t3142 e3143, trivial⟩ ?_
            obtain rfl := Option.some.inj H
            exact Exists.intro _ (And.intro (fun _ _ h => h.conv (inv := [(0, 0)]) (vk := []) (e0 := []) (t := ⟨[(0, .own 0), (1, iV .i64 a1), (9, iV .i64 x3104), (10, iV .i64 x3125), (59, bV t3142)], [(0, some (.row 1 3 (x3060.map (encInt .i64))))], 1⟩) (by kernel_rfl)) (And.intro rfl rfl))
          · replace H := (ifF c3135).symm.trans H
            refine reg hP hn hm [(3, .b false)] [0, 1, 9, 10, 59] [0] ⟨[(0, .own 0), (1, iV .i64 a1), (9, iV .i64 x3104), (10, iV .i64 x3125), (59, bV false)], [(0, some (.row 1 3 (x3060.map (encInt .i64))))], 1⟩ [(decide (x3104 ≤ x3125)) = false] (by kernel_rfl) ⟨by exact c3135, trivial⟩ ?_
            obtain rfl := Option.some.inj H
            exact Exists.intro _ (And.intro (fun _ _ h => h.conv (inv := [(0, 0)]) (vk := []) (e0 := []) (t := ⟨[(0, .own 0), (1, iV .i64 a1), (9, iV .i64 x3104), (10, iV .i64 x3125), (59, bV false)], [(0, some (.row 1 3 (x3060.map (encInt .i64))))], 1⟩) (by kernel_rfl)) (And.intro rfl rfl))
        · obtain ⟨x3144, rfl⟩ : ∃ z, z = o3176 := ⟨_, rfl⟩
          rintro e s ⟨rfl, rfl⟩
          refine AWp.cond x3144 rfl (fun c3145 => ?_) (fun c3145 => ?_)
          · replace H := (ifT c3145).symm.trans H
            refine AWp.skip ?_
            refine AWp.block ?_
            refine reg hP hn hm [] [0, 1, 9, 10] [0] ⟨[(0, .own 0), (1, iV .i64 a1), (9, iV .i64 x3104), (10, iV .i64 (IntKind.i64.wrap (x3125 - (1 : Int))))], [(0, some (.row 1 3 (x3060.map (encInt .i64))))], 1⟩ [] (by kernel_rfl) trivial ?_
            exact LWp.conv (inv := [(0, 0)]) (vk := []) (e0 := []) (t := ⟨[(0, .own 0), (1, iV .i64 a1), (9, iV .i64 x3104), (10, iV .i64 (IntKind.i64.wrap (x3125 - (1 : Int))))], [(0, some (.row 1 3 (x3060.map (encInt .i64))))], 1⟩) (by kernel_rfl) (ih _ _ H)
          · replace H := (ifF c3145).symm.trans H
            refine AWp.exit ?_
            obtain rfl := Option.some.inj H
            exact Exists.intro _ (And.intro (fun _ _ h => h.conv (inv := [(0, 0)]) (vk := []) (e0 := []) (t := ⟨[(0, .own 0), (1, iV .i64 a1), (9, iV .i64 x3104), (10, iV .i64 x3125)], [(0, some (.row 1 3 (x3060.map (encInt .i64))))], 1⟩) (by kernel_rfl)) (And.intro rfl rfl))
      · obtain ⟨x3146, rfl⟩ : ∃ z, z = o3174 := ⟨_, rfl⟩
        rintro e s ⟨rfl, rfl⟩
        refine AWp.seq ?_
        refine AWp.seq ?_
        refine reg hP hn hm [] [0, 1, 9, 10, 64] [0] ⟨[(0, .own 0), (1, iV .i64 a1), (9, iV .i64 x3104), (10, iV .i64 x3146), (64, bV (decide (x3104 > x3146)))], [(0, some (.row 1 3 (x3060.map (encInt .i64))))], 1⟩ [] (by kernel_rfl) trivial ?_
        refine AWp.cond (decide (x3104 > x3146)) rfl (fun c3147 => ?_) (fun c3147 => ?_)
        · replace H := (ifT c3147).symm.trans H
          refine AWp.exit ?_
          obtain rfl := Option.some.inj H
          exact Exists.intro _ (And.intro (fun _ _ h => h.conv (inv := [(0, 0)]) (vk := []) (e0 := []) (t := ⟨[(9, iV .i64 x3104)], [(0, some (.row 1 3 (x3060.map (encInt .i64))))], 1⟩) (by kernel_rfl)) (And.intro rfl rfl))
        · replace H := (ifF c3147).symm.trans H
          refine AWp.skip ?_
          refine AWp.seq ?_
          obtain ⟨b3157, p3158, q3159, H⟩ := at_of H
          obtain ⟨b3160, p3161, q3162, H⟩ := at_of H
          obtain ⟨b3163, p3164, q3165, H⟩ := at_of H
          refine reg hP hn hm [(7, .c ((encInt .i64) b3157)), (11, .c ((encInt .i64) b3160)), (13, .put ((encInt .i64) b3160) ((x3060.set (Int.toNat (x3104)) b3157).map (encInt .i64))), (15, .put ((encInt .i64) b3163) (((x3060.set (Int.toNat (x3104)) b3157).set (Int.toNat (x3146)) b3160).map (encInt .i64)))] [0, 1, 9, 10] [0] ⟨[(0, .own 0), (1, iV .i64 a1), (9, iV .i64 x3104), (10, iV .i64 x3146)], [(0, some (.row 1 3 (((x3060.set (Int.toNat (x3104)) b3157).set (Int.toNat (x3146)) b3160).map (encInt .i64))))], 1⟩ [0 ≤ x3146, x3146 < (((x3060.map (encInt .i64)).length : Nat) : Int), (x3060.map (encInt .i64))[(Int.toNat (x3146))]? = some ((encInt .i64) b3157), 0 ≤ x3104, x3104 < (((x3060.map (encInt .i64)).length : Nat) : Int), (x3060.map (encInt .i64))[(Int.toNat (x3104))]? = some ((encInt .i64) b3160), 0 ≤ x3104, x3104 < (((x3060.map (encInt .i64)).length : Nat) : Int), (x3060.map (encInt .i64))[(Int.toNat (x3104))]? = some ((encInt .i64) b3160), (x3060.set (Int.toNat (x3104)) b3157).map (encInt .i64) = (x3060.map (encInt .i64)).set (Int.toNat (x3104)) (splice ((encInt .i64) b3160) 0 [iI .i64 b3157]), 0 ≤ x3146, x3146 < ((((x3060.set (Int.toNat (x3104)) b3157).map (encInt .i64)).length : Nat) : Int), ((x3060.set (Int.toNat (x3104)) b3157).map (encInt .i64))[(Int.toNat (x3146))]? = some ((encInt .i64) b3163), ((x3060.set (Int.toNat (x3104)) b3157).set (Int.toNat (x3146)) b3160).map (encInt .i64) = ((x3060.set (Int.toNat (x3104)) b3157).map (encInt .i64)).set (Int.toNat (x3146)) (splice ((encInt .i64) b3163) 0 [iI .i64 b3160])] (by kernel_rfl) ⟨by exact p3158, by exact el_lt (encInt .i64) p3158 q3159, by exact el_map (encInt .i64) q3159, by exact p3161, by exact el_lt (encInt .i64) p3161 q3162, by exact el_map (encInt .i64) q3162, by exact p3161, by exact el_lt (encInt .i64) p3161 q3162, by exact el_map (encInt .i64) q3162, by exact set1 _ _ _ _, by exact p3164, by exact el_lt (encInt .i64) p3164 q3165, by exact el_map (encInt .i64) q3165, by exact set1 _ _ _ _, trivial⟩ ?_
          refine AWp.seq ?_
          refine reg hP hn hm [] [0, 1, 9, 10] [0] ⟨[(0, .own 0), (1, iV .i64 a1), (9, iV .i64 (IntKind.i64.wrap (x3104 + (1 : Int)))), (10, iV .i64 x3146)], [(0, some (.row 1 3 (((x3060.set (Int.toNat (x3104)) b3157).set (Int.toNat (x3146)) b3160).map (encInt .i64))))], 1⟩ [] (by kernel_rfl) trivial ?_
          refine reg hP hn hm [] [0, 1, 9, 10] [0] ⟨[(0, .own 0), (1, iV .i64 a1), (9, iV .i64 (IntKind.i64.wrap (x3104 + (1 : Int)))), (10, iV .i64 (IntKind.i64.wrap (x3146 - (1 : Int))))], [(0, some (.row 1 3 (((x3060.set (Int.toNat (x3104)) b3157).set (Int.toNat (x3146)) b3160).map (encInt .i64))))], 1⟩ [] (by kernel_rfl) trivial ?_
          exact LWp.conv (inv := [(0, 0)]) (vk := []) (e0 := []) (t := ⟨[(0, .own 0), (1, iV .i64 a1), (9, iV .i64 (IntKind.i64.wrap (x3104 + (1 : Int)))), (10, iV .i64 (IntKind.i64.wrap (x3146 - (1 : Int))))], [(0, some (.row 1 3 (((x3060.set (Int.toNat (x3104)) b3157).set (Int.toNat (x3146)) b3160).map (encInt .i64))))], 1⟩) (by kernel_rfl) (ih _ _ _ _ H)
  · obtain ⟨x3166, x3167⟩ := o3168
    rintro e s ⟨rfl, rfl⟩
    refine AWp.seq ?_
    refine reg hP hn hm [] [8] [0] ⟨[(8, iV .i64 x3166)], [(0, some (.row 1 3 (x3167.map (encInt .i64))))], 1⟩ [] (by kernel_rfl) trivial ?_
    refine AWp.conv (inv := [(0, 0)]) (vk := []) (e0 := []) (t := ⟨[(8, iV .i64 x3166)], [(0, some (.row 1 3 (x3167.map (encInt .i64))))], 1⟩) (by kernel_rfl) ?_
    refine AWp.ret ?_
    obtain rfl := Option.some.inj H
    exact Exists.intro _ (And.intro (fun _ _ h => h) (And.intro (.inl rfl) (And.intro rfl (And.intro (by kernel_rfl) (by kernel_rfl)))))
def f_slices_partitionOrdered_int.l0 (a0 : List Int) (a1 : Int) (a2 : Int) (a3 : Int) (b3191 : Int) (b3194 : Int) (x3220 : Int) : Option (Int) := ((if (decide (x3220 ≤ (IntKind.i64.wrap (a2 - (1 : Int))))) = true then ((at? ((a0.set (Int.toNat (a1)) b3191).set (Int.toNat (a3)) b3194) x3220) >>= fun b3231 => (at? ((a0.set (Int.toNat (a1)) b3191).set (Int.toNat (a3)) b3194) a1) >>= fun b3234 => (f_cmp_Less_int.f b3231 b3234) >>= fun t3237 => some t3237) else (some false)) : Option (Bool)) >>= fun x3239 => if x3239 = true then (f_slices_partitionOrdered_int.l0 a0 a1 a2 a3 b3191 b3194 (IntKind.i64.wrap (x3220 + (1 : Int)))) else (some x3220)
partial_fixpoint
def f_slices_partitionOrdered_int.l1 (a0 : List Int) (a1 : Int) (a3 : Int) (b3191 : Int) (b3194 : Int) (x3241 : Int) (x3262 : Int) : Option (Int) := ((if (decide (x3241 ≤ x3262)) = true then ((at? ((a0.set (Int.toNat (a1)) b3191).set (Int.toNat (a3)) b3194) x3262) >>= fun b3273 => (at? ((a0.set (Int.toNat (a1)) b3191).set (Int.toNat (a3)) b3194) a1) >>= fun b3276 => (f_cmp_Less_int.f b3273 b3276) >>= fun t3279 => some (!t3279)) else (some false)) : Option (Bool)) >>= fun x3281 => if x3281 = true then (f_slices_partitionOrdered_int.l1 a0 a1 a3 b3191 b3194 x3241 (IntKind.i64.wrap (x3262 - (1 : Int)))) else (some x3262)
partial_fixpoint
def f_slices_partitionOrdered_int.l3 (a1 : Int) (x3424 : List Int) (x3426 : Int) (x3447 : Int) : Option (Int) := ((if (decide (x3447 ≤ x3426)) = true then ((at? x3424 x3447) >>= fun b3458 => (at? x3424 a1) >>= fun b3461 => (f_cmp_Less_int.f b3458 b3461) >>= fun t3464 => some t3464) else (some false)) : Option (Bool)) >>= fun x3466 => if x3466 = true then (f_slices_partitionOrdered_int.l3 a1 x3424 x3426 (IntKind.i64.wrap (x3447 + (1 : Int)))) else (some x3447)
partial_fixpoint
def f_slices_partitionOrdered_int.l4 (a1 : Int) (x3424 : List Int) (x3468 : Int) (x3489 : Int) : Option (Int) := ((if (decide (x3468 ≤ x3489)) = true then ((at? x3424 x3489) >>= fun b3500 => (at? x3424 a1) >>= fun b3503 => (f_cmp_Less_int.f b3500 b3503) >>= fun t3506 => some (!t3506)) else (some false)) : Option (Bool)) >>= fun x3508 => if x3508 = true then (f_slices_partitionOrdered_int.l4 a1 x3424 x3468 (IntKind.i64.wrap (x3489 - (1 : Int)))) else (some x3489)
partial_fixpoint
def f_slices_partitionOrdered_int.l2 (a1 : Int) (x3424 : List Int) (x3425 : Int) (x3426 : Int) : Option ((List Int) × Int) := (f_slices_partitionOrdered_int.l3 a1 x3424 x3426 x3425) >>= fun x3468 => (f_slices_partitionOrdered_int.l4 a1 x3424 x3468 x3426) >>= fun x3510 => if (decide (x3468 > x3510)) = true then (some (x3424, x3510)) else ((at? x3424 x3510) >>= fun b3521 => (at? x3424 x3468) >>= fun b3524 => (at? (x3424.set (Int.toNat (x3468)) b3521) x3510) >>= fun b3527 => f_slices_partitionOrdered_int.l2 a1 ((x3424.set (Int.toNat (x3468)) b3521).set (Int.toNat (x3510)) b3524) (IntKind.i64.wrap (x3468 + (1 : Int))) (IntKind.i64.wrap (x3510 - (1 : Int))))
partial_fixpoint
def f_slices_partitionOrdered_int.f (a0 : List Int) (a1 : Int) (a2 : Int) (a3 : Int) : Option (Int × Bool × (List Int)) := (at? a0 a3) >>= fun b3191 => (at? a0 a1) >>= fun b3194 => (at? (a0.set (Int.toNat (a1)) b3191) a3) >>= fun b3197 => (f_slices_partitionOrdered_int.l0 a0 a1 a2 a3 b3191 b3194 (IntKind.i64.wrap (a1 + (1 : Int)))) >>= fun x3241 => (f_slices_partitionOrdered_int.l1 a0 a1 a3 b3191 b3194 x3241 (IntKind.i64.wrap (a2 - (1 : Int)))) >>= fun x3283 => if (decide (x3241 > x3283)) = true then ((at? ((a0.set (Int.toNat (a1)) b3191).set (Int.toNat (a3)) b3194) a1) >>= fun b3294 => (at? ((a0.set (Int.toNat (a1)) b3191).set (Int.toNat (a3)) b3194) x3283) >>= fun b3297 => (at? (((a0.set (Int.toNat (a1)) b3191).set (Int.toNat (a3)) b3194).set (Int.toNat (x3283)) b3294) a1) >>= fun b3300 => some (x3283, true, (((a0.set (Int.toNat (a1)) b3191).set (Int.toNat (a3)) b3194).set (Int.toNat (x3283)) b3294).set (Int.toNat (a1)) b3297)) else ((at? ((a0.set (Int.toNat (a1)) b3191).set (Int.toNat (a3)) b3194) x3283) >>= fun b3312 => (at? ((a0.set (Int.toNat (a1)) b3191).set (Int.toNat (a3)) b3194) x3241) >>= fun b3315 => (at? (((a0.set (Int.toNat (a1)) b3191).set (Int.toNat (a3)) b3194).set (Int.toNat (x3241)) b3312) x3283) >>= fun b3318 => (f_slices_partitionOrdered_int.l2 a1 ((((a0.set (Int.toNat (a1)) b3191).set (Int.toNat (a3)) b3194).set (Int.toNat (x3241)) b3312).set (Int.toNat (x3283)) b3315) (IntKind.i64.wrap (x3241 + (1 : Int))) (IntKind.i64.wrap (x3283 - (1 : Int)))) >>= fun oo => match oo with | (x3530, x3531) => ((at? x3530 a1) >>= fun b3541 => (at? x3530 x3531) >>= fun b3544 => (at? (x3530.set (Int.toNat (x3531)) b3541) a1) >>= fun b3547 => some (x3531, false, (x3530.set (Int.toNat (x3531)) b3541).set (Int.toNat (a1)) b3544)))
theorem f_slices_partitionOrdered_int.ok (a0 : List Int) (a1 : Int) (a2 : Int) (a3 : Int) (r : Int × Bool × (List Int)) (H : f_slices_partitionOrdered_int.f a0 a1 a2 a3 = some r) : Pv.Fn Try.prog 75 [.own 0, iV .i64 a1, iV .i64 a2, iV .i64 a3] [(0, some (.row 1 3 (a0.map (encInt .i64))))] 1 (fun x o => x = .tup [iV .i64 r.1, bV r.2.1] ∧ o = [(0, some (.row 1 3 (r.2.2.map (encInt .i64))))]) := by
  unfold f_slices_partitionOrdered_int.f at H
  refine Fn.bodyK [0] Try.func75 rfl rfl (fun Γ hP hn => ?_)
  have hm : Try.prog.follows .mixedOrders = true := by kernel_rfl
  replace hn : Γ.n = 168 := hn
  refine AWp.seq ?_
  refine reg hP hn hm [] [0, 1, 2, 3] [0] ⟨[(0, .own 0), (1, iV .i64 a1), (2, iV .i64 a2), (3, iV .i64 a3)], [(0, some (.row 1 3 (a0.map (encInt .i64))))], 1⟩ [] (by kernel_rfl) trivial ?_
  refine AWp.seq ?_
  obtain ⟨b3191, p3192, q3193, H⟩ := at_of H
  obtain ⟨b3194, p3195, q3196, H⟩ := at_of H
  obtain ⟨b3197, p3198, q3199, H⟩ := at_of H
  refine reg hP hn hm [(7, .c ((encInt .i64) b3191)), (11, .c ((encInt .i64) b3194)), (13, .put ((encInt .i64) b3194) ((a0.set (Int.toNat (a1)) b3191).map (encInt .i64))), (15, .put ((encInt .i64) b3197) (((a0.set (Int.toNat (a1)) b3191).set (Int.toNat (a3)) b3194).map (encInt .i64)))] [0, 1, 2] [0] ⟨[(0, .own 0), (1, iV .i64 a1), (2, iV .i64 a2)], [(0, some (.row 1 3 (((a0.set (Int.toNat (a1)) b3191).set (Int.toNat (a3)) b3194).map (encInt .i64))))], 1⟩ [0 ≤ a3, a3 < (((a0.map (encInt .i64)).length : Nat) : Int), (a0.map (encInt .i64))[(Int.toNat (a3))]? = some ((encInt .i64) b3191), 0 ≤ a1, a1 < (((a0.map (encInt .i64)).length : Nat) : Int), (a0.map (encInt .i64))[(Int.toNat (a1))]? = some ((encInt .i64) b3194), 0 ≤ a1, a1 < (((a0.map (encInt .i64)).length : Nat) : Int), (a0.map (encInt .i64))[(Int.toNat (a1))]? = some ((encInt .i64) b3194), (a0.set (Int.toNat (a1)) b3191).map (encInt .i64) = (a0.map (encInt .i64)).set (Int.toNat (a1)) (splice ((encInt .i64) b3194) 0 [iI .i64 b3191]), 0 ≤ a3, a3 < ((((a0.set (Int.toNat (a1)) b3191).map (encInt .i64)).length : Nat) : Int), ((a0.set (Int.toNat (a1)) b3191).map (encInt .i64))[(Int.toNat (a3))]? = some ((encInt .i64) b3197), ((a0.set (Int.toNat (a1)) b3191).set (Int.toNat (a3)) b3194).map (encInt .i64) = ((a0.set (Int.toNat (a1)) b3191).map (encInt .i64)).set (Int.toNat (a3)) (splice ((encInt .i64) b3197) 0 [iI .i64 b3194])] (by kernel_rfl) ⟨by exact p3192, by exact el_lt (encInt .i64) p3192 q3193, by exact el_map (encInt .i64) q3193, by exact p3195, by exact el_lt (encInt .i64) p3195 q3196, by exact el_map (encInt .i64) q3196, by exact p3195, by exact el_lt (encInt .i64) p3195 q3196, by exact el_map (encInt .i64) q3196, by exact set1 _ _ _ _, by exact p3198, by exact el_lt (encInt .i64) p3198 q3199, by exact el_map (encInt .i64) q3199, by exact set1 _ _ _ _, trivial⟩ ?_
  refine AWp.seq ?_
  refine reg hP hn hm [] [0, 1, 10, 11] [0] ⟨[(0, .own 0), (1, iV .i64 a1), (10, iV .i64 (IntKind.i64.wrap (a1 + (1 : Int)))), (11, iV .i64 (IntKind.i64.wrap (a2 - (1 : Int))))], [(0, some (.row 1 3 (((a0.set (Int.toNat (a1)) b3191).set (Int.toNat (a3)) b3194).map (encInt .i64))))], 1⟩ [] (by kernel_rfl) trivial ?_
  refine AWp.seq ?_
  refine AWp.block ?_
  obtain ⟨o3550, e3551, H⟩ := bind_of H
  refine AWp.loop (LWp.conv (inv := [(0, 0)]) (vk := []) (e0 := []) (t := ⟨[(0, .own 0), (1, iV .i64 a1), (10, iV .i64 (IntKind.i64.wrap (a1 + (1 : Int)))), (11, iV .i64 (IntKind.i64.wrap (a2 - (1 : Int))))], [(0, some (.row 1 3 (((a0.set (Int.toNat (a1)) b3191).set (Int.toNat (a3)) b3194).map (encInt .i64))))], 1⟩) (by kernel_rfl) ?_)
  refine LWp.mono (Q := fun e s => (match (generalizing := false) o3550 with | x3241 => e = .exit 0 ∧ s = ⟨[(0, .own 0), (1, iV .i64 a1), (10, iV .i64 x3241), (11, iV .i64 (IntKind.i64.wrap (a2 - (1 : Int))))], [(0, some (.row 1 3 (((a0.set (Int.toNat (a1)) b3191).set (Int.toNat (a3)) b3194).map (encInt .i64))))], 1⟩)) (LWp.cv (withBody (fun body hbody => ?_))) ?_
  · refine f_slices_partitionOrdered_int.l0.partial_correctness a0 a1 a2 a3 b3191 b3194 (motive := fun x3220 o3550 => LWp Γ body (fun e s => ∃ t, Cv Γ s t ∧ (match (generalizing := false) o3550 with | x3241 => e = .exit 0 ∧ t = ⟨[(0, .own 0), (1, iV .i64 a1), (10, iV .i64 x3241), (11, iV .i64 (IntKind.i64.wrap (a2 - (1 : Int))))], [(0, some (.row 1 3 (((a0.set (Int.toNat (a1)) b3191).set (Int.toNat (a3)) b3194).map (encInt .i64))))], 1⟩)) ⟨[(0, .own 0), (1, iV .i64 a1), (10, iV .i64 x3220), (11, iV .i64 (IntKind.i64.wrap (a2 - (1 : Int))))], [(0, some (.row 1 3 (((a0.set (Int.toNat (a1)) b3191).set (Int.toNat (a3)) b3194).map (encInt .i64))))], 1⟩) ?_ _ _ e3551
    clear H e3551 o3550; intro self ih x3220 o3550 H
    subst hbody
    refine LWp.round ?_
    refine AWp.seq ?_
    refine AWp.seq ?_
    obtain ⟨o3552, e3553, H⟩ := bind_of H
    refine AWp.mono (Q := fun e s => (match (generalizing := false) o3552 with | x3239 => e = .normal ∧ s = ⟨[(0, .own 0), (1, iV .i64 a1), (10, iV .i64 x3220), (11, iV .i64 (IntKind.i64.wrap (a2 - (1 : Int)))), (43, bV x3239)], [(0, some (.row 1 3 (((a0.set (Int.toNat (a1)) b3191).set (Int.toNat (a3)) b3194).map (encInt .i64))))], 1⟩)) (AWp.cv ?_) ?_
    · replace H := e3553; clear e3553
      rcases Bool.eq_false_or_eq_true (decide (x3220 ≤ (IntKind.i64.wrap (a2 - (1 : Int))))) with c3230 | c3230
      · replace H := (ifT c3230).symm.trans H
        obtain ⟨b3231, p3232, q3233, H⟩ := at_of H
        obtain ⟨b3234, p3235, q3236, H⟩ := at_of H
        obtain ⟨t3237, e3238, H⟩ := bind_of H
        refine reg hP hn hm [(3, .b true), (7, .c ((encInt .i64) b3231)), (11, .c ((encInt .i64) b3234)), (12, .call [] [] [] [] 0 (bV t3237) [])] [0, 1, 10, 11, 34, 35, 36, 37, 38, 39, 40, 41, 42, 43] [0] ⟨[(0, .own 0), (1, iV .i64 a1), (10, iV .i64 x3220), (11, iV .i64 (IntKind.i64.wrap (a2 - (1 : Int)))), (34, .own 0), (35, iV .i64 x3220), (36, .ptr 0 (Int.toNat (x3220)) 0), (37, iV .i64 b3231), (38, .own 0), (39, iV .i64 a1), (40, .ptr 0 (Int.toNat (a1)) 0), (41, iV .i64 b3234), (42, bV t3237), (43, bV t3237)], [(0, some (.row 1 3 (((a0.set (Int.toNat (a1)) b3191).set (Int.toNat (a3)) b3194).map (encInt .i64))))], 1⟩ [(decide (x3220 ≤ (IntKind.i64.wrap (a2 - (1 : Int))))) = true, 0 ≤ x3220, x3220 < (((((a0.set (Int.toNat (a1)) b3191).set (Int.toNat (a3)) b3194).map (encInt .i64)).length : Nat) : Int), (((a0.set (Int.toNat (a1)) b3191).set (Int.toNat (a3)) b3194).map (encInt .i64))[(Int.toNat (x3220))]? = some ((encInt .i64) b3231), 0 ≤ a1, a1 < (((((a0.set (Int.toNat (a1)) b3191).set (Int.toNat (a3)) b3194).map (encInt .i64)).length : Nat) : Int), (((a0.set (Int.toNat (a1)) b3191).set (Int.toNat (a3)) b3194).map (encInt .i64))[(Int.toNat (a1))]? = some ((encInt .i64) b3234), Enters Try.prog 73, Pv.Fn Try.prog 73 [iV .i64 b3231, iV .i64 b3234] [] 0 (fun r o => r = bV t3237 ∧ o = [])] (by kernel_rfl) ⟨by exact c3230, by exact p3232, by exact el_lt (encInt .i64) p3232 q3233, by exact el_map (encInt .i64) q3233, by exact p3235, by exact el_lt (encInt .i64) p3235 q3236, by exact el_map (encInt .i64) q3236, by exact Try.call73, by exact f_cmp_Less_int.ok b3231 b3234 t3237 e3238, trivial⟩ ?_
        obtain rfl := Option.some.inj H
        exact Exists.intro _ (And.intro (fun _ _ h => h.conv (inv := [(0, 0)]) (vk := []) (e0 := []) (t := ⟨[(0, .own 0), (1, iV .i64 a1), (10, iV .i64 x3220), (11, iV .i64 (IntKind.i64.wrap (a2 - (1 : Int)))), (43, bV t3237)], [(0, some (.row 1 3 (((a0.set (Int.toNat (a1)) b3191).set (Int.toNat (a3)) b3194).map (encInt .i64))))], 1⟩) (by kernel_rfl)) (And.intro rfl rfl))
      · replace H := (ifF c3230).symm.trans H
        refine reg hP hn hm [(3, .b false)] [0, 1, 10, 11, 43] [0] ⟨[(0, .own 0), (1, iV .i64 a1), (10, iV .i64 x3220), (11, iV .i64 (IntKind.i64.wrap (a2 - (1 : Int)))), (43, bV false)], [(0, some (.row 1 3 (((a0.set (Int.toNat (a1)) b3191).set (Int.toNat (a3)) b3194).map (encInt .i64))))], 1⟩ [(decide (x3220 ≤ (IntKind.i64.wrap (a2 - (1 : Int))))) = false] (by kernel_rfl) ⟨by exact c3230, trivial⟩ ?_
        obtain rfl := Option.some.inj H
        exact Exists.intro _ (And.intro (fun _ _ h => h.conv (inv := [(0, 0)]) (vk := []) (e0 := []) (t := ⟨[(0, .own 0), (1, iV .i64 a1), (10, iV .i64 x3220), (11, iV .i64 (IntKind.i64.wrap (a2 - (1 : Int)))), (43, bV false)], [(0, some (.row 1 3 (((a0.set (Int.toNat (a1)) b3191).set (Int.toNat (a3)) b3194).map (encInt .i64))))], 1⟩) (by kernel_rfl)) (And.intro rfl rfl))
    · obtain ⟨x3239, rfl⟩ : ∃ z, z = o3552 := ⟨_, rfl⟩
      rintro e s ⟨rfl, rfl⟩
      refine AWp.cond x3239 rfl (fun c3240 => ?_) (fun c3240 => ?_)
      · replace H := (ifT c3240).symm.trans H
        refine AWp.skip ?_
        refine AWp.block ?_
        refine reg hP hn hm [] [0, 1, 10, 11] [0] ⟨[(0, .own 0), (1, iV .i64 a1), (10, iV .i64 (IntKind.i64.wrap (x3220 + (1 : Int)))), (11, iV .i64 (IntKind.i64.wrap (a2 - (1 : Int))))], [(0, some (.row 1 3 (((a0.set (Int.toNat (a1)) b3191).set (Int.toNat (a3)) b3194).map (encInt .i64))))], 1⟩ [] (by kernel_rfl) trivial ?_
        exact LWp.conv (inv := [(0, 0)]) (vk := []) (e0 := []) (t := ⟨[(0, .own 0), (1, iV .i64 a1), (10, iV .i64 (IntKind.i64.wrap (x3220 + (1 : Int)))), (11, iV .i64 (IntKind.i64.wrap (a2 - (1 : Int))))], [(0, some (.row 1 3 (((a0.set (Int.toNat (a1)) b3191).set (Int.toNat (a3)) b3194).map (encInt .i64))))], 1⟩) (by kernel_rfl) (ih _ _ H)
      · replace H := (ifF c3240).symm.trans H
        refine AWp.exit ?_
        obtain rfl := Option.some.inj H
        exact Exists.intro _ (And.intro (fun _ _ h => h.conv (inv := [(0, 0)]) (vk := []) (e0 := []) (t := ⟨[(0, .own 0), (1, iV .i64 a1), (10, iV .i64 x3220), (11, iV .i64 (IntKind.i64.wrap (a2 - (1 : Int))))], [(0, some (.row 1 3 (((a0.set (Int.toNat (a1)) b3191).set (Int.toNat (a3)) b3194).map (encInt .i64))))], 1⟩) (by kernel_rfl)) (And.intro rfl rfl))
  · obtain ⟨x3241, rfl⟩ : ∃ z, z = o3550 := ⟨_, rfl⟩
    rintro e s ⟨rfl, rfl⟩
    refine AWp.seq ?_
    refine AWp.block ?_
    obtain ⟨o3554, e3555, H⟩ := bind_of H
    refine AWp.loop (LWp.conv (inv := [(0, 0)]) (vk := []) (e0 := []) (t := ⟨[(0, .own 0), (1, iV .i64 a1), (10, iV .i64 x3241), (11, iV .i64 (IntKind.i64.wrap (a2 - (1 : Int))))], [(0, some (.row 1 3 (((a0.set (Int.toNat (a1)) b3191).set (Int.toNat (a3)) b3194).map (encInt .i64))))], 1⟩) (by kernel_rfl) ?_)
    refine LWp.mono (Q := fun e s => (match (generalizing := false) o3554 with | x3283 => e = .exit 2 ∧ s = ⟨[(0, .own 0), (1, iV .i64 a1), (10, iV .i64 x3241), (11, iV .i64 x3283)], [(0, some (.row 1 3 (((a0.set (Int.toNat (a1)) b3191).set (Int.toNat (a3)) b3194).map (encInt .i64))))], 1⟩)) (LWp.cv (withBody (fun body hbody => ?_))) ?_
    · refine f_slices_partitionOrdered_int.l1.partial_correctness a0 a1 a3 b3191 b3194 x3241 (motive := fun x3262 o3554 => LWp Γ body (fun e s => ∃ t, Cv Γ s t ∧ (match (generalizing := false) o3554 with | x3283 => e = .exit 2 ∧ t = ⟨[(0, .own 0), (1, iV .i64 a1), (10, iV .i64 x3241), (11, iV .i64 x3283)], [(0, some (.row 1 3 (((a0.set (Int.toNat (a1)) b3191).set (Int.toNat (a3)) b3194).map (encInt .i64))))], 1⟩)) ⟨[(0, .own 0), (1, iV .i64 a1), (10, iV .i64 x3241), (11, iV .i64 x3262)], [(0, some (.row 1 3 (((a0.set (Int.toNat (a1)) b3191).set (Int.toNat (a3)) b3194).map (encInt .i64))))], 1⟩) ?_ _ _ e3555
      clear H e3555 o3554; intro self ih x3262 o3554 H
      subst hbody
      refine LWp.round ?_
      refine AWp.seq ?_
      refine AWp.seq ?_
      obtain ⟨o3556, e3557, H⟩ := bind_of H
      refine AWp.mono (Q := fun e s => (match (generalizing := false) o3556 with | x3281 => e = .normal ∧ s = ⟨[(0, .own 0), (1, iV .i64 a1), (10, iV .i64 x3241), (11, iV .i64 x3262), (60, bV x3281)], [(0, some (.row 1 3 (((a0.set (Int.toNat (a1)) b3191).set (Int.toNat (a3)) b3194).map (encInt .i64))))], 1⟩)) (AWp.cv ?_) ?_
      · replace H := e3557; clear e3557
        rcases Bool.eq_false_or_eq_true (decide (x3241 ≤ x3262)) with c3272 | c3272
        · replace H := (ifT c3272).symm.trans H
          obtain ⟨b3273, p3274, q3275, H⟩ := at_of H
          obtain ⟨b3276, p3277, q3278, H⟩ := at_of H
          obtain ⟨t3279, e3280, H⟩ := bind_of H
          refine reg hP hn hm [(3, .b true), (7, .c ((encInt .i64) b3273)), (11, .c ((encInt .i64) b3276)), (12, .call [] [] [] [] 0 (bV t3279) [])] [0, 1, 10, 11, 50, 51, 52, 53, 54, 55, 56, 57, 58, 59, 60] [0] ⟨[(0, .own 0), (1, iV .i64 a1), (10, iV .i64 x3241), (11, iV .i64 x3262), (50, .own 0), (51, iV .i64 x3262), (52, .ptr 0 (Int.toNat (x3262)) 0), (53, iV .i64 b3273), (54, .own 0), (55, iV .i64 a1), (56, .ptr 0 (Int.toNat (a1)) 0), (57, iV .i64 b3276), (58, bV t3279), (59, bV (!t3279)), (60, bV (!t3279))], [(0, some (.row 1 3 (((a0.set (Int.toNat (a1)) b3191).set (Int.toNat (a3)) b3194).map (encInt .i64))))], 1⟩ [(decide (x3241 ≤ x3262)) = true, 0 ≤ x3262, x3262 < (((((a0.set (Int.toNat (a1)) b3191).set (Int.toNat (a3)) b3194).map (encInt .i64)).length : Nat) : Int), (((a0.set (Int.toNat (a1)) b3191).set (Int.toNat (a3)) b3194).map (encInt .i64))[(Int.toNat (x3262))]? = some ((encInt .i64) b3273), 0 ≤ a1, a1 < (((((a0.set (Int.toNat (a1)) b3191).set (Int.toNat (a3)) b3194).map (encInt .i64)).length : Nat) : Int), (((a0.set (Int.toNat (a1)) b3191).set (Int.toNat (a3)) b3194).map (encInt .i64))[(Int.toNat (a1))]? = some ((encInt .i64) b3276), Enters Try.prog 73, Pv.Fn Try.prog 73 [iV .i64 b3273, iV .i64 b3276] [] 0 (fun r o => r = bV t3279 ∧ o = [])] (by kernel_rfl) ⟨by exact c3272, by exact p3274, by exact el_lt (encInt .i64) p3274 q3275, by exact el_map (encInt .i64) q3275, by exact p3277, by exact el_lt (encInt .i64) p3277 q3278, by exact el_map (encInt .i64) q3278, by exact Try.call73, by exact f_cmp_Less_int.ok b3273 b3276 t3279 e3280, trivial⟩ ?_
          obtain rfl := Option.some.inj H
          exact Exists.intro _ (And.intro (fun _ _ h => h.conv (inv := [(0, 0)]) (vk := []) (e0 := []) (t := ⟨[(0, .own 0), (1, iV .i64 a1), (10, iV .i64 x3241), (11, iV .i64 x3262), (60, bV (!t3279))], [(0, some (.row 1 3 (((a0.set (Int.toNat (a1)) b3191).set (Int.toNat (a3)) b3194).map (encInt .i64))))], 1⟩) (by kernel_rfl)) (And.intro rfl rfl))
        · replace H := (ifF c3272).symm.trans H
          refine reg hP hn hm [(3, .b false)] [0, 1, 10, 11, 60] [0] ⟨[(0, .own 0), (1, iV .i64 a1), (10, iV .i64 x3241), (11, iV .i64 x3262), (60, bV false)], [(0, some (.row 1 3 (((a0.set (Int.toNat (a1)) b3191).set (Int.toNat (a3)) b3194).map (encInt .i64))))], 1⟩ [(decide (x3241 ≤ x3262)) = false] (by kernel_rfl) ⟨by exact c3272, trivial⟩ ?_
          obtain rfl := Option.some.inj H
          exact Exists.intro _ (And.intro (fun _ _ h => h.conv (inv := [(0, 0)]) (vk := []) (e0 := []) (t := ⟨[(0, .own 0), (1, iV .i64 a1), (10, iV .i64 x3241), (11, iV .i64 x3262), (60, bV false)], [(0, some (.row 1 3 (((a0.set (Int.toNat (a1)) b3191).set (Int.toNat (a3)) b3194).map (encInt .i64))))], 1⟩) (by kernel_rfl)) (And.intro rfl rfl))
      · obtain ⟨x3281, rfl⟩ : ∃ z, z = o3556 := ⟨_, rfl⟩
        rintro e s ⟨rfl, rfl⟩
        refine AWp.cond x3281 rfl (fun c3282 => ?_) (fun c3282 => ?_)
        · replace H := (ifT c3282).symm.trans H
          refine AWp.skip ?_
          refine AWp.block ?_
          refine reg hP hn hm [] [0, 1, 10, 11] [0] ⟨[(0, .own 0), (1, iV .i64 a1), (10, iV .i64 x3241), (11, iV .i64 (IntKind.i64.wrap (x3262 - (1 : Int))))], [(0, some (.row 1 3 (((a0.set (Int.toNat (a1)) b3191).set (Int.toNat (a3)) b3194).map (encInt .i64))))], 1⟩ [] (by kernel_rfl) trivial ?_
          exact LWp.conv (inv := [(0, 0)]) (vk := []) (e0 := []) (t := ⟨[(0, .own 0), (1, iV .i64 a1), (10, iV .i64 x3241), (11, iV .i64 (IntKind.i64.wrap (x3262 - (1 : Int))))], [(0, some (.row 1 3 (((a0.set (Int.toNat (a1)) b3191).set (Int.toNat (a3)) b3194).map (encInt .i64))))], 1⟩) (by kernel_rfl) (ih _ _ H)
        · replace H := (ifF c3282).symm.trans H
          refine AWp.exit ?_
          obtain rfl := Option.some.inj H
          exact Exists.intro _ (And.intro (fun _ _ h => h.conv (inv := [(0, 0)]) (vk := []) (e0 := []) (t := ⟨[(0, .own 0), (1, iV .i64 a1), (10, iV .i64 x3241), (11, iV .i64 x3262)], [(0, some (.row 1 3 (((a0.set (Int.toNat (a1)) b3191).set (Int.toNat (a3)) b3194).map (encInt .i64))))], 1⟩) (by kernel_rfl)) (And.intro rfl rfl))
    · obtain ⟨x3283, rfl⟩ : ∃ z, z = o3554 := ⟨_, rfl⟩
      rintro e s ⟨rfl, rfl⟩
      refine AWp.seq ?_
      refine AWp.seq ?_
      refine reg hP hn hm [] [0, 1, 10, 11, 65] [0] ⟨[(0, .own 0), (1, iV .i64 a1), (10, iV .i64 x3241), (11, iV .i64 x3283), (65, bV (decide (x3241 > x3283)))], [(0, some (.row 1 3 (((a0.set (Int.toNat (a1)) b3191).set (Int.toNat (a3)) b3194).map (encInt .i64))))], 1⟩ [] (by kernel_rfl) trivial ?_
      refine AWp.cond (decide (x3241 > x3283)) rfl (fun c3284 => ?_) (fun c3284 => ?_)
      · replace H := (ifT c3284).symm.trans H
        refine AWp.seq ?_
        obtain ⟨b3294, p3295, q3296, H⟩ := at_of H
        obtain ⟨b3297, p3298, q3299, H⟩ := at_of H
        obtain ⟨b3300, p3301, q3302, H⟩ := at_of H
        refine reg hP hn hm [(7, .c ((encInt .i64) b3294)), (11, .c ((encInt .i64) b3297)), (13, .put ((encInt .i64) b3297) ((((a0.set (Int.toNat (a1)) b3191).set (Int.toNat (a3)) b3194).set (Int.toNat (x3283)) b3294).map (encInt .i64))), (15, .put ((encInt .i64) b3300) (((((a0.set (Int.toNat (a1)) b3191).set (Int.toNat (a3)) b3194).set (Int.toNat (x3283)) b3294).set (Int.toNat (a1)) b3297).map (encInt .i64)))] [11] [0] ⟨[(11, iV .i64 x3283)], [(0, some (.row 1 3 (((((a0.set (Int.toNat (a1)) b3191).set (Int.toNat (a3)) b3194).set (Int.toNat (x3283)) b3294).set (Int.toNat (a1)) b3297).map (encInt .i64))))], 1⟩ [0 ≤ a1, a1 < (((((a0.set (Int.toNat (a1)) b3191).set (Int.toNat (a3)) b3194).map (encInt .i64)).length : Nat) : Int), (((a0.set (Int.toNat (a1)) b3191).set (Int.toNat (a3)) b3194).map (encInt .i64))[(Int.toNat (a1))]? = some ((encInt .i64) b3294), 0 ≤ x3283, x3283 < (((((a0.set (Int.toNat (a1)) b3191).set (Int.toNat (a3)) b3194).map (encInt .i64)).length : Nat) : Int), (((a0.set (Int.toNat (a1)) b3191).set (Int.toNat (a3)) b3194).map (encInt .i64))[(Int.toNat (x3283))]? = some ((encInt .i64) b3297), 0 ≤ x3283, x3283 < (((((a0.set (Int.toNat (a1)) b3191).set (Int.toNat (a3)) b3194).map (encInt .i64)).length : Nat) : Int), (((a0.set (Int.toNat (a1)) b3191).set (Int.toNat (a3)) b3194).map (encInt .i64))[(Int.toNat (x3283))]? = some ((encInt .i64) b3297), (((a0.set (Int.toNat (a1)) b3191).set (Int.toNat (a3)) b3194).set (Int.toNat (x3283)) b3294).map (encInt .i64) = (((a0.set (Int.toNat (a1)) b3191).set (Int.toNat (a3)) b3194).map (encInt .i64)).set (Int.toNat (x3283)) (splice ((encInt .i64) b3297) 0 [iI .i64 b3294]), 0 ≤ a1, a1 < ((((((a0.set (Int.toNat (a1)) b3191).set (Int.toNat (a3)) b3194).set (Int.toNat (x3283)) b3294).map (encInt .i64)).length : Nat) : Int), ((((a0.set (Int.toNat (a1)) b3191).set (Int.toNat (a3)) b3194).set (Int.toNat (x3283)) b3294).map (encInt .i64))[(Int.toNat (a1))]? = some ((encInt .i64) b3300), ((((a0.set (Int.toNat (a1)) b3191).set (Int.toNat (a3)) b3194).set (Int.toNat (x3283)) b3294).set (Int.toNat (a1)) b3297).map (encInt .i64) = ((((a0.set (Int.toNat (a1)) b3191).set (Int.toNat (a3)) b3194).set (Int.toNat (x3283)) b3294).map (encInt .i64)).set (Int.toNat (a1)) (splice ((encInt .i64) b3300) 0 [iI .i64 b3297])] (by kernel_rfl) ⟨by exact p3295, by exact el_lt (encInt .i64) p3295 q3296, by exact el_map (encInt .i64) q3296, by exact p3298, by exact el_lt (encInt .i64) p3298 q3299, by exact el_map (encInt .i64) q3299, by exact p3298, by exact el_lt (encInt .i64) p3298 q3299, by exact el_map (encInt .i64) q3299, by exact set1 _ _ _ _, by exact p3301, by exact el_lt (encInt .i64) p3301 q3302, by exact el_map (encInt .i64) q3302, by exact set1 _ _ _ _, trivial⟩ ?_
        refine AWp.seq ?_
        refine reg hP hn hm [] [8, 9] [0] ⟨[(8, iV .i64 x3283), (9, bV true)], [(0, some (.row 1 3 (((((a0.set (Int.toNat (a1)) b3191).set (Int.toNat (a3)) b3194).set (Int.toNat (x3283)) b3294).set (Int.toNat (a1)) b3297).map (encInt .i64))))], 1⟩ [] (by kernel_rfl) trivial ?_
        refine AWp.conv (inv := [(0, 0)]) (vk := []) (e0 := []) (t := ⟨[(8, iV .i64 x3283), (9, bV true)], [(0, some (.row 1 3 (((((a0.set (Int.toNat (a1)) b3191).set (Int.toNat (a3)) b3194).set (Int.toNat (x3283)) b3294).set (Int.toNat (a1)) b3297).map (encInt .i64))))], 1⟩) (by kernel_rfl) ?_
        refine AWp.ret ?_
        obtain rfl := Option.some.inj H
        exact Exists.intro _ (And.intro (fun _ _ h => h) (And.intro (.inl rfl) (And.intro rfl (And.intro (by kernel_rfl) (by kernel_rfl)))))
      · replace H := (ifF c3284).symm.trans H
        refine AWp.skip ?_
        refine AWp.seq ?_
        obtain ⟨b3312, p3313, q3314, H⟩ := at_of H
        obtain ⟨b3315, p3316, q3317, H⟩ := at_of H
        obtain ⟨b3318, p3319, q3320, H⟩ := at_of H
        refine reg hP hn hm [(7, .c ((encInt .i64) b3312)), (11, .c ((encInt .i64) b3315)), (13, .put ((encInt .i64) b3315) ((((a0.set (Int.toNat (a1)) b3191).set (Int.toNat (a3)) b3194).set (Int.toNat (x3241)) b3312).map (encInt .i64))), (15, .put ((encInt .i64) b3318) (((((a0.set (Int.toNat (a1)) b3191).set (Int.toNat (a3)) b3194).set (Int.toNat (x3241)) b3312).set (Int.toNat (x3283)) b3315).map (encInt .i64)))] [0, 1, 10, 11] [0] ⟨[(0, .own 0), (1, iV .i64 a1), (10, iV .i64 x3241), (11, iV .i64 x3283)], [(0, some (.row 1 3 (((((a0.set (Int.toNat (a1)) b3191).set (Int.toNat (a3)) b3194).set (Int.toNat (x3241)) b3312).set (Int.toNat (x3283)) b3315).map (encInt .i64))))], 1⟩ [0 ≤ x3283, x3283 < (((((a0.set (Int.toNat (a1)) b3191).set (Int.toNat (a3)) b3194).map (encInt .i64)).length : Nat) : Int), (((a0.set (Int.toNat (a1)) b3191).set (Int.toNat (a3)) b3194).map (encInt .i64))[(Int.toNat (x3283))]? = some ((encInt .i64) b3312), 0 ≤ x3241, x3241 < (((((a0.set (Int.toNat (a1)) b3191).set (Int.toNat (a3)) b3194).map (encInt .i64)).length : Nat) : Int), (((a0.set (Int.toNat (a1)) b3191).set (Int.toNat (a3)) b3194).map (encInt .i64))[(Int.toNat (x3241))]? = some ((encInt .i64) b3315), 0 ≤ x3241, x3241 < (((((a0.set (Int.toNat (a1)) b3191).set (Int.toNat (a3)) b3194).map (encInt .i64)).length : Nat) : Int), (((a0.set (Int.toNat (a1)) b3191).set (Int.toNat (a3)) b3194).map (encInt .i64))[(Int.toNat (x3241))]? = some ((encInt .i64) b3315), (((a0.set (Int.toNat (a1)) b3191).set (Int.toNat (a3)) b3194).set (Int.toNat (x3241)) b3312).map (encInt .i64) = (((a0.set (Int.toNat (a1)) b3191).set (Int.toNat (a3)) b3194).map (encInt .i64)).set (Int.toNat (x3241)) (splice ((encInt .i64) b3315) 0 [iI .i64 b3312]), 0 ≤ x3283, x3283 < ((((((a0.set (Int.toNat (a1)) b3191).set (Int.toNat (a3)) b3194).set (Int.toNat (x3241)) b3312).map (encInt .i64)).length : Nat) : Int), ((((a0.set (Int.toNat (a1)) b3191).set (Int.toNat (a3)) b3194).set (Int.toNat (x3241)) b3312).map (encInt .i64))[(Int.toNat (x3283))]? = some ((encInt .i64) b3318), ((((a0.set (Int.toNat (a1)) b3191).set (Int.toNat (a3)) b3194).set (Int.toNat (x3241)) b3312).set (Int.toNat (x3283)) b3315).map (encInt .i64) = ((((a0.set (Int.toNat (a1)) b3191).set (Int.toNat (a3)) b3194).set (Int.toNat (x3241)) b3312).map (encInt .i64)).set (Int.toNat (x3283)) (splice ((encInt .i64) b3318) 0 [iI .i64 b3315])] (by kernel_rfl) ⟨by exact p3313, by exact el_lt (encInt .i64) p3313 q3314, by exact el_map (encInt .i64) q3314, by exact p3316, by exact el_lt (encInt .i64) p3316 q3317, by exact el_map (encInt .i64) q3317, by exact p3316, by exact el_lt (encInt .i64) p3316 q3317, by exact el_map (encInt .i64) q3317, by exact set1 _ _ _ _, by exact p3319, by exact el_lt (encInt .i64) p3319 q3320, by exact el_map (encInt .i64) q3320, by exact set1 _ _ _ _, trivial⟩ ?_
        refine AWp.seq ?_
        refine reg hP hn hm [] [0, 1, 10, 11] [0] ⟨[(0, .own 0), (1, iV .i64 a1), (10, iV .i64 (IntKind.i64.wrap (x3241 + (1 : Int)))), (11, iV .i64 x3283)], [(0, some (.row 1 3 (((((a0.set (Int.toNat (a1)) b3191).set (Int.toNat (a3)) b3194).set (Int.toNat (x3241)) b3312).set (Int.toNat (x3283)) b3315).map (encInt .i64))))], 1⟩ [] (by kernel_rfl) trivial ?_
        refine AWp.seq ?_
        refine reg hP hn hm [] [0, 1, 10, 11] [0] ⟨[(0, .own 0), (1, iV .i64 a1), (10, iV .i64 (IntKind.i64.wrap (x3241 + (1 : Int)))), (11, iV .i64 (IntKind.i64.wrap (x3283 - (1 : Int))))], [(0, some (.row 1 3 (((((a0.set (Int.toNat (a1)) b3191).set (Int.toNat (a3)) b3194).set (Int.toNat (x3241)) b3312).set (Int.toNat (x3283)) b3315).map (encInt .i64))))], 1⟩ [] (by kernel_rfl) trivial ?_
        refine AWp.seq ?_
        refine AWp.block ?_
        obtain ⟨o3558, e3559, H⟩ := bind_of H
        refine AWp.loop (LWp.conv (inv := [(0, 0)]) (vk := []) (e0 := []) (t := ⟨[(0, .own 0), (1, iV .i64 a1), (10, iV .i64 (IntKind.i64.wrap (x3241 + (1 : Int)))), (11, iV .i64 (IntKind.i64.wrap (x3283 - (1 : Int))))], [(0, some (.row 1 3 (((((a0.set (Int.toNat (a1)) b3191).set (Int.toNat (a3)) b3194).set (Int.toNat (x3241)) b3312).set (Int.toNat (x3283)) b3315).map (encInt .i64))))], 1⟩) (by kernel_rfl) ?_)
        refine LWp.mono (Q := fun e s => (match (generalizing := false) o3558 with | (x3530, x3531) => e = .exit 4 ∧ s = ⟨[(0, .own 0), (1, iV .i64 a1), (11, iV .i64 x3531)], [(0, some (.row 1 3 (x3530.map (encInt .i64))))], 1⟩)) (LWp.cv (withBody (fun body hbody => ?_))) ?_
        · refine f_slices_partitionOrdered_int.l2.partial_correctness a1 (motive := fun x3424 x3425 x3426 o3558 => LWp Γ body (fun e s => ∃ t, Cv Γ s t ∧ (match (generalizing := false) o3558 with | (x3530, x3531) => e = .exit 4 ∧ t = ⟨[(0, .own 0), (1, iV .i64 a1), (11, iV .i64 x3531)], [(0, some (.row 1 3 (x3530.map (encInt .i64))))], 1⟩)) ⟨[(0, .own 0), (1, iV .i64 a1), (10, iV .i64 x3425), (11, iV .i64 x3426)], [(0, some (.row 1 3 (x3424.map (encInt .i64))))], 1⟩) ?_ _ _ _ _ e3559
          clear H e3559 o3558; intro self ih x3424 x3425 x3426 o3558 H
          subst hbody
          refine LWp.round ?_
          refine AWp.block ?_
          refine AWp.seq ?_
          refine AWp.block ?_
          obtain ⟨o3560, e3561, H⟩ := bind_of H
          refine AWp.loop (LWp.conv (inv := [(0, 0)]) (vk := []) (e0 := []) (t := ⟨[(0, .own 0), (1, iV .i64 a1), (10, iV .i64 x3425), (11, iV .i64 x3426)], [(0, some (.row 1 3 (x3424.map (encInt .i64))))], 1⟩) (by kernel_rfl) ?_)
          refine LWp.mono (Q := fun e s => (match (generalizing := false) o3560 with | x3468 => e = .exit 6 ∧ s = ⟨[(0, .own 0), (1, iV .i64 a1), (10, iV .i64 x3468), (11, iV .i64 x3426)], [(0, some (.row 1 3 (x3424.map (encInt .i64))))], 1⟩)) (LWp.cv (withBody (fun body hbody => ?_))) ?_
          · refine f_slices_partitionOrdered_int.l3.partial_correctness a1 x3424 x3426 (motive := fun x3447 o3560 => LWp Γ body (fun e s => ∃ t, Cv Γ s t ∧ (match (generalizing := false) o3560 with | x3468 => e = .exit 6 ∧ t = ⟨[(0, .own 0), (1, iV .i64 a1), (10, iV .i64 x3468), (11, iV .i64 x3426)], [(0, some (.row 1 3 (x3424.map (encInt .i64))))], 1⟩)) ⟨[(0, .own 0), (1, iV .i64 a1), (10, iV .i64 x3447), (11, iV .i64 x3426)], [(0, some (.row 1 3 (x3424.map (encInt .i64))))], 1⟩) ?_ _ _ e3561
            clear H e3561 o3560; intro self ih x3447 o3560 H
            subst hbody
            refine LWp.round ?_
            refine AWp.seq ?_
            refine AWp.seq ?_
            obtain ⟨o3562, e3563, H⟩ := bind_of H
            refine AWp.mono (Q := fun e s => (match (generalizing := false) o3562 with | x3466 => e = .normal ∧ s = ⟨[(0, .own 0), (1, iV .i64 a1), (10, iV .i64 x3447), (11, iV .i64 x3426), (112, bV x3466)], [(0, some (.row 1 3 (x3424.map (encInt .i64))))], 1⟩)) (AWp.cv ?_) ?_
            · replace H := e3563; clear e3563
              rcases Bool.eq_false_or_eq_true (decide (x3447 ≤ x3426)) with c3457 | c3457
              · replace H := (ifT c3457).symm.trans H
                obtain ⟨b3458, p3459, q3460, H⟩ := at_of H
                obtain ⟨b3461, p3462, q3463, H⟩ := at_of H
                obtain ⟨t3464, e3465, H⟩ := bind_of H
                refine reg hP hn hm [(3, .b true), (7, .c ((encInt .i64) b3458)), (11, .c ((encInt .i64) b3461)), (12, .call [] [] [] [] 0 (bV t3464) [])] [0, 1, 10, 11, 103, 104, 105, 106, 107, 108, 109, 110, 111, 112] [0] ⟨[(0, .own 0), (1, iV .i64 a1), (10, iV .i64 x3447), (11, iV .i64 x3426), (103, .own 0), (104, iV .i64 x3447), (105, .ptr 0 (Int.toNat (x3447)) 0), (106, iV .i64 b3458), (107, .own 0), (108, iV .i64 a1), (109, .ptr 0 (Int.toNat (a1)) 0), (110, iV .i64 b3461), (111, bV t3464), (112, bV t3464)], [(0, some (.row 1 3 (x3424.map (encInt .i64))))], 1⟩ [(decide (x3447 ≤ x3426)) = true, 0 ≤ x3447, x3447 < (((x3424.map (encInt .i64)).length : Nat) : Int), (x3424.map (encInt .i64))[(Int.toNat (x3447))]? = some ((encInt .i64) b3458), 0 ≤ a1, a1 < (((x3424.map (encInt .i64)).length : Nat) : Int), (x3424.map (encInt .i64))[(Int.toNat (a1))]? = some ((encInt .i64) b3461), Enters Try.prog 73, Pv.Fn Try.prog 73 [iV .i64 b3458, iV .i64 b3461] [] 0 (fun r o => r = bV t3464 ∧ o = [])] (by kernel_rfl) ⟨by exact c3457, by exact p3459, by exact el_lt (encInt .i64) p3459 q3460, by exact el_map (encInt .i64) q3460, by exact p3462, by exact el_lt (encInt .i64) p3462 q3463, by exact el_map (encInt .i64) q3463, by exact Try.call73, by exact f_cmp_Less_int.ok b3458 b3461 t3464 e3465, trivial⟩ ?_
                obtain rfl := Option.some.inj H
                exact Exists.intro _ (And.intro (fun _ _ h => h.conv (inv := [(0, 0)]) (vk := []) (e0 := []) (t := ⟨[(0, .own 0), (1, iV .i64 a1), (10, iV .i64 x3447), (11, iV .i64 x3426), (112, bV t3464)], [(0, some (.row 1 3 (x3424.map (encInt .i64))))], 1⟩) (by kernel_rfl)) (And.intro rfl rfl))
              · replace H := (ifF c3457).symm.trans H
                refine reg hP hn hm [(3, .b false)] [0, 1, 10, 11, 112] [0] ⟨[(0, .own 0), (1, iV .i64 a1), (10, iV .i64 x3447), (11, iV .i64 x3426), (112, bV false)], [(0, some (.row 1 3 (x3424.map (encInt .i64))))], 1⟩ [(decide (x3447 ≤ x3426)) = false] (by kernel_rfl) ⟨by exact c3457, trivial⟩ ?_
                obtain rfl := Option.some.inj H
                exact Exists.intro _ (And.intro (fun _ _ h => h.conv (inv := [(0, 0)]) (vk := []) (e0 := []) (t := ⟨[(0, .own 0), (1, iV .i64 a1), (10, iV .i64 x3447), (11, iV .i64 x3426), (112, bV false)], [(0, some (.row 1 3 (x3424.map (encInt .i64))))], 1⟩) (by kernel_rfl)) (And.intro rfl rfl))
            · obtain ⟨x3466, rfl⟩ : ∃ z, z = o3562 := ⟨_, rfl⟩
              rintro e s ⟨rfl, rfl⟩
              refine AWp.cond x3466 rfl (fun c3467 => ?_) (fun c3467 => ?_)
              · replace H := (ifT c3467).symm.trans H
                refine AWp.skip ?_
                refine AWp.block ?_
                refine reg hP hn hm [] [0, 1, 10, 11] [0] ⟨[(0, .own 0), (1, iV .i64 a1), (10, iV .i64 (IntKind.i64.wrap (x3447 + (1 : Int)))), (11, iV .i64 x3426)], [(0, some (.row 1 3 (x3424.map (encInt .i64))))], 1⟩ [] (by kernel_rfl) trivial ?_
                exact LWp.conv (inv := [(0, 0)]) (vk := []) (e0 := []) (t := ⟨[(0, .own 0), (1, iV .i64 a1), (10, iV .i64 (IntKind.i64.wrap (x3447 + (1 : Int)))), (11, iV .i64 x3426)], [(0, some (.row 1 3 (x3424.map (encInt .i64))))], 1⟩) (by kernel_rfl) (ih _ _ H)
              · replace H := (ifF c3467).symm.trans H
                refine AWp.exit ?_
                obtain rfl := Option.some.inj H
                exact Exists.intro _ (And.intro (fun _ _ h => h.conv (inv := [(0, 0)]) (vk := []) (e0 := []) (t := ⟨[(0, .own 0), (1, iV .i64 a1), (10, iV .i64 x3447), (11, iV .i64 x3426)], [(0, some (.row 1 3 (x3424.map (encInt .i64))))], 1⟩) (by kernel_rfl)) (And.intro rfl rfl))
          · obtain ⟨x3468, rfl⟩ : ∃ z, z = o3560 := ⟨_, rfl⟩
            rintro e s ⟨rfl, rfl⟩
            refine AWp.seq ?_
            refine AWp.block ?_
            obtain ⟨o3564, e3565, H⟩ := bind_of H
            refine AWp.loop (LWp.conv (inv := [(0, 0)]) (vk := []) (e0 := []) (t := ⟨[(0, .own 0), (1, iV .i64 a1), (10, iV .i64 x3468), (11, iV .i64 x3426)], [(0, some (.row 1 3 (x3424.map (encInt .i64))))], 1⟩) (by kernel_rfl) ?_)
            refine LWp.mono (Q := fun e s => (match (generalizing := false) o3564 with | x3510 => e = .exit 8 ∧ s = ⟨[(0, .own 0), (1, iV .i64 a1), (10, iV .i64 x3468), (11, iV .i64 x3510)], [(0, some (.row 1 3 (x3424.map (encInt .i64))))], 1⟩)) (LWp.cv (withBody (fun body hbody => ?_))) ?_
            · refine f_slices_partitionOrdered_int.l4.partial_correctness a1 x3424 x3468 (motive := fun x3489 o3564 => LWp Γ body (fun e s => ∃ t, Cv Γ s t ∧ (match (generalizing := false) o3564 with | x3510 => e = .exit 8 ∧ t = ⟨[(0, .own 0), (1, iV .i64 a1), (10, iV .i64 x3468), (11, iV .i64 x3510)], [(0, some (.row 1 3 (x3424.map (encInt .i64))))], 1⟩)) ⟨[(0, .own 0), (1, iV .i64 a1), (10, iV .i64 x3468), (11, iV .i64 x3489)], [(0, some (.row 1 3 (x3424.map (encInt .i64))))], 1⟩) ?_ _ _ e3565
              clear H e3565 o3564; intro self ih x3489 o3564 H
              subst hbody
              refine LWp.round ?_
              refine AWp.seq ?_
              refine AWp.seq ?_
              obtain ⟨o3566, e3567, H⟩ := bind_of H
              refine AWp.mono (Q := fun e s => (match (generalizing := false) o3566 with | x3508 => e = .normal ∧ s = ⟨[(0, .own 0), (1, iV .i64 a1), (10, iV .i64 x3468), (11, iV .i64 x3489), (129, bV x3508)], [(0, some (.row 1 3 (x3424.map (encInt .i64))))], 1⟩)) (AWp.cv ?_) ?_
              · replace H := e3567; clear e3567
                rcases Bool.eq_false_or_eq_true (decide (x3468 ≤ x3489)) with c3499 | c3499
                · replace H := (ifT c3499).symm.trans H
                  obtain ⟨b3500, p3501, q3502, H⟩ := at_of H
                  obtain ⟨b3503, p3504, q3505, H⟩ := at_of H
                  obtain ⟨t3506, e3507, H⟩ := bind_of H
                  refine reg hP hn hm [(3, .b true), (7, .c ((encInt .i64) b3500)), (11, .c ((encInt .i64) b3503)), (12, .call [] [] [] [] 0 (bV t3506) [])] [0, 1, 10, 11, 119, 120, 121, 122, 123, 124, 125, 126, 127, 128, 129] [0] ⟨[(0, .own 0), (1, iV .i64 a1), (10, iV .i64 x3468), (11, iV .i64 x3489), (119, .own 0), (120, iV .i64 x3489), (121, .ptr 0 (Int.toNat (x3489)) 0), (122, iV .i64 b3500), (123, .own 0), (124, iV .i64 a1), (125, .ptr 0 (Int.toNat (a1)) 0), (126, iV .i64 b3503), (127, bV t3506), (128, bV (!t3506)), (129, bV (!t3506))], [(0, some (.row 1 3 (x3424.map (encInt .i64))))], 1⟩ [(decide (x3468 ≤ x3489)) = true, 0 ≤ x3489, x3489 < (((x3424.map (encInt .i64)).length : Nat) : Int), (x3424.map (encInt .i64))[(Int.toNat (x3489))]? = some ((encInt .i64) b3500), 0 ≤ a1, a1 < (((x3424.map (encInt .i64)).length : Nat) : Int), (x3424.map (encInt .i64))[(Int.toNat (a1))]? = some ((encInt .i64) b3503), Enters Try.prog 73, Pv.Fn Try.prog 73 [iV .i64 b3500, iV .i64 b3503] [] 0 (fun r o => r = bV t3506 ∧ o = [])] (by kernel_rfl) ⟨by exact c3499, by exact p3501, by exact el_lt (encInt .i64) p3501 q3502, by exact el_map (encInt .i64) q3502, by exact p3504, by exact el_lt (encInt .i64) p3504 q3505, by exact el_map (encInt .i64) q3505, by exact Try.call73, by exact f_cmp_Less_int.ok b3500 b3503 t3506 e3507, trivial⟩ ?_
                  obtain rfl := Option.some.inj H
                  exact Exists.intro _ (And.intro (fun _ _ h => h.conv (inv := [(0, 0)]) (vk := []) (e0 := []) (t := ⟨[(0, .own 0), (1, iV .i64 a1), (10, iV .i64 x3468), (11, iV .i64 x3489), (129, bV (!t3506))], [(0, some (.row 1 3 (x3424.map (encInt .i64))))], 1⟩) (by kernel_rfl)) (And.intro rfl rfl))
                · replace H := (ifF c3499).symm.trans H
                  refine reg hP hn hm [(3, .b false)] [0, 1, 10, 11, 129] [0] ⟨[(0, .own 0), (1, iV .i64 a1), (10, iV .i64 x3468), (11, iV .i64 x3489), (129, bV false)], [(0, some (.row 1 3 (x3424.map (encInt .i64))))], 1⟩ [(decide (x3468 ≤ x3489)) = false] (by kernel_rfl) ⟨by exact c3499, trivial⟩ ?_
                  obtain rfl := Option.some.inj H
                  exact Exists.intro _ (And.intro (fun _ _ h => h.conv (inv := [(0, 0)]) (vk := []) (e0 := []) (t := ⟨[(0, .own 0), (1, iV .i64 a1), (10, iV .i64 x3468), (11, iV .i64 x3489), (129, bV false)], [(0, some (.row 1 3 (x3424.map (encInt .i64))))], 1⟩) (by kernel_rfl)) (And.intro rfl rfl))
              · obtain ⟨x3508, rfl⟩ : ∃ z, z = o3566 := ⟨_, rfl⟩
                rintro e s ⟨rfl, rfl⟩
                refine AWp.cond x3508 rfl (fun c3509 => ?_) (fun c3509 => ?_)
                · replace H := (ifT c3509).symm.trans H
                  refine AWp.skip ?_
                  refine AWp.block ?_
                  refine reg hP hn hm [] [0, 1, 10, 11] [0] ⟨[(0, .own 0), (1, iV .i64 a1), (10, iV .i64 x3468), (11, iV .i64 (IntKind.i64.wrap (x3489 - (1 : Int))))], [(0, some (.row 1 3 (x3424.map (encInt .i64))))], 1⟩ [] (by kernel_rfl) trivial ?_
                  exact LWp.conv (inv := [(0, 0)]) (vk := []) (e0 := []) (t := ⟨[(0, .own 0), (1, iV .i64 a1), (10, iV .i64 x3468), (11, iV .i64 (IntKind.i64.wrap (x3489 - (1 : Int))))], [(0, some (.row 1 3 (x3424.map (encInt .i64))))], 1⟩) (by kernel_rfl) (ih _ _ H)
                · replace H := (ifF c3509).symm.trans H
                  refine AWp.exit ?_
                  obtain rfl := Option.some.inj H
                  exact Exists.intro _ (And.intro (fun _ _ h => h.conv (inv := [(0, 0)]) (vk := []) (e0 := []) (t := ⟨[(0, .own 0), (1, iV .i64 a1), (10, iV .i64 x3468), (11, iV .i64 x3489)], [(0, some (.row 1 3 (x3424.map (encInt .i64))))], 1⟩) (by kernel_rfl)) (And.intro rfl rfl))
            · obtain ⟨x3510, rfl⟩ : ∃ z, z = o3564 := ⟨_, rfl⟩
              rintro e s ⟨rfl, rfl⟩
              refine AWp.seq ?_
              refine AWp.seq ?_
              refine reg hP hn hm [] [0, 1, 10, 11, 134] [0] ⟨[(0, .own 0), (1, iV .i64 a1), (10, iV .i64 x3468), (11, iV .i64 x3510), (134, bV (decide (x3468 > x3510)))], [(0, some (.row 1 3 (x3424.map (encInt .i64))))], 1⟩ [] (by kernel_rfl) trivial ?_
              refine AWp.cond (decide (x3468 > x3510)) rfl (fun c3511 => ?_) (fun c3511 => ?_)
              · replace H := (ifT c3511).symm.trans H
                refine AWp.exit ?_
                obtain rfl := Option.some.inj H
                exact Exists.intro _ (And.intro (fun _ _ h => h.conv (inv := [(0, 0)]) (vk := []) (e0 := []) (t := ⟨[(0, .own 0), (1, iV .i64 a1), (11, iV .i64 x3510)], [(0, some (.row 1 3 (x3424.map (encInt .i64))))], 1⟩) (by kernel_rfl)) (And.intro rfl rfl))
              · replace H := (ifF c3511).symm.trans H
                refine AWp.skip ?_
                refine AWp.seq ?_
                obtain ⟨b3521, p3522, q3523, H⟩ := at_of H
                obtain ⟨b3524, p3525, q3526, H⟩ := at_of H
                obtain ⟨b3527, p3528, q3529, H⟩ := at_of H
                refine reg hP hn hm [(7, .c ((encInt .i64) b3521)), (11, .c ((encInt .i64) b3524)), (13, .put ((encInt .i64) b3524) ((x3424.set (Int.toNat (x3468)) b3521).map (encInt .i64))), (15, .put ((encInt .i64) b3527) (((x3424.set (Int.toNat (x3468)) b3521).set (Int.toNat (x3510)) b3524).map (encInt .i64)))] [0, 1, 10, 11] [0] ⟨[(0, .own 0), (1, iV .i64 a1), (10, iV .i64 x3468), (11, iV .i64 x3510)], [(0, some (.row 1 3 (((x3424.set (Int.toNat (x3468)) b3521).set (Int.toNat (x3510)) b3524).map (encInt .i64))))], 1⟩ [0 ≤ x3510, x3510 < (((x3424.map (encInt .i64)).length : Nat) : Int), (x3424.map (encInt .i64))[(Int.toNat (x3510))]? = some ((encInt .i64) b3521), 0 ≤ x3468, x3468 < (((x3424.map (encInt .i64)).length : Nat) : Int), (x3424.map (encInt .i64))[(Int.toNat (x3468))]? = some ((encInt .i64) b3524), 0 ≤ x3468, x3468 < (((x3424.map (encInt .i64)).length : Nat) : Int), (x3424.map (encInt .i64))[(Int.toNat (x3468))]? = some ((encInt .i64) b3524), (x3424.set (Int.toNat (x3468)) b3521).map (encInt .i64) = (x3424.map (encInt .i64)).set (Int.toNat (x3468)) (splice ((encInt .i64) b3524) 0 [iI .i64 b3521]), 0 ≤ x3510, x3510 < ((((x3424.set (Int.toNat (x3468)) b3521).map (encInt .i64)).length : Nat) : Int), ((x3424.set (Int.toNat (x3468)) b3521).map (encInt .i64))[(Int.toNat (x3510))]? = some ((encInt .i64) b3527), ((x3424.set (Int.toNat (x3468)) b3521).set (Int.toNat (x3510)) b3524).map (encInt .i64) = ((x3424.set (Int.toNat (x3468)) b3521).map (encInt .i64)).set (Int.toNat (x3510)) (splice ((encInt .i64) b3527) 0 [iI .i64 b3524])] (by kernel_rfl) ⟨by exact p3522, by exact el_lt (encInt .i64) p3522 q3523, by exact el_map (encInt .i64) q3523, by exact p3525, by exact el_lt (encInt .i64) p3525 q3526, by exact el_map (encInt .i64) q3526, by exact p3525, by exact el_lt (encInt .i64) p3525 q3526, by exact el_map (encInt .i64) q3526, by exact set1 _ _ _ _, by exact p3528, by exact el_lt (encInt .i64) p3528 q3529, by exact el_map (encInt .i64) q3529, by exact set1 _ _ _ _, trivial⟩ ?_
                refine AWp.seq ?_
                refine reg hP hn hm [] [0, 1, 10, 11] [0] ⟨[(0, .own 0), (1, iV .i64 a1), (10, iV .i64 (IntKind.i64.wrap (x3468 + (1 : Int)))), (11, iV .i64 x3510)], [(0, some (.row 1 3 (((x3424.set (Int.toNat (x3468)) b3521).set (Int.toNat (x3510)) b3524).map (encInt .i64))))], 1⟩ [] (by kernel_rfl) trivial ?_
                refine reg hP hn hm [] [0, 1, 10, 11] [0] ⟨[(0, .own 0), (1, iV .i64 a1), (10, iV .i64 (IntKind.i64.wrap (x3468 + (1 : Int)))), (11, iV .i64 (IntKind.i64.wrap (x3510 - (1 : Int))))], [(0, some (.row 1 3 (((x3424.set (Int.toNat (x3468)) b3521).set (Int.toNat (x3510)) b3524).map (encInt .i64))))], 1⟩ [] (by kernel_rfl) trivial ?_
                exact LWp.conv (inv := [(0, 0)]) (vk := []) (e0 := []) (t := ⟨[(0, .own 0), (1, iV .i64 a1), (10, iV .i64 (IntKind.i64.wrap (x3468 + (1 : Int)))), (11, iV .i64 (IntKind.i64.wrap (x3510 - (1 : Int))))], [(0, some (.row 1 3 (((x3424.set (Int.toNat (x3468)) b3521).set (Int.toNat (x3510)) b3524).map (encInt .i64))))], 1⟩) (by kernel_rfl) (ih _ _ _ _ H)
        · obtain ⟨x3530, x3531⟩ := o3558
          rintro e s ⟨rfl, rfl⟩
          refine AWp.seq ?_
          obtain ⟨b3541, p3542, q3543, H⟩ := at_of H
          obtain ⟨b3544, p3545, q3546, H⟩ := at_of H
          obtain ⟨b3547, p3548, q3549, H⟩ := at_of H
          refine reg hP hn hm [(7, .c ((encInt .i64) b3541)), (11, .c ((encInt .i64) b3544)), (13, .put ((encInt .i64) b3544) ((x3530.set (Int.toNat (x3531)) b3541).map (encInt .i64))), (15, .put ((encInt .i64) b3547) (((x3530.set (Int.toNat (x3531)) b3541).set (Int.toNat (a1)) b3544).map (encInt .i64)))] [11] [0] ⟨[(11, iV .i64 x3531)], [(0, some (.row 1 3 (((x3530.set (Int.toNat (x3531)) b3541).set (Int.toNat (a1)) b3544).map (encInt .i64))))], 1⟩ [0 ≤ a1, a1 < (((x3530.map (encInt .i64)).length : Nat) : Int), (x3530.map (encInt .i64))[(Int.toNat (a1))]? = some ((encInt .i64) b3541), 0 ≤ x3531, x3531 < (((x3530.map (encInt .i64)).length : Nat) : Int), (x3530.map (encInt .i64))[(Int.toNat (x3531))]? = some ((encInt .i64) b3544), 0 ≤ x3531, x3531 < (((x3530.map (encInt .i64)).length : Nat) : Int), (x3530.map (encInt .i64))[(Int.toNat (x3531))]? = some ((encInt .i64) b3544), (x3530.set (Int.toNat (x3531)) b3541).map (encInt .i64) = (x3530.map (encInt .i64)).set (Int.toNat (x3531)) (splice ((encInt .i64) b3544) 0 [iI .i64 b3541]), 0 ≤ a1, a1 < ((((x3530.set (Int.toNat (x3531)) b3541).map (encInt .i64)).length : Nat) : Int), ((x3530.set (Int.toNat (x3531)) b3541).map (encInt .i64))[(Int.toNat (a1))]? = some ((encInt .i64) b3547), ((x3530.set (Int.toNat (x3531)) b3541).set (Int.toNat (a1)) b3544).map (encInt .i64) = ((x3530.set (Int.toNat (x3531)) b3541).map (encInt .i64)).set (Int.toNat (a1)) (splice ((encInt .i64) b3547) 0 [iI .i64 b3544])] (by kernel_rfl) ⟨by exact p3542, by exact el_lt (encInt .i64) p3542 q3543, by exact el_map (encInt .i64) q3543, by exact p3545, by exact el_lt (encInt .i64) p3545 q3546, by exact el_map (encInt .i64) q3546, by exact p3545, by exact el_lt (encInt .i64) p3545 q3546, by exact el_map (encInt .i64) q3546, by exact set1 _ _ _ _, by exact p3548, by exact el_lt (encInt .i64) p3548 q3549, by exact el_map (encInt .i64) q3549, by exact set1 _ _ _ _, trivial⟩ ?_
          refine AWp.seq ?_
          refine reg hP hn hm [] [8, 9] [0] ⟨[(8, iV .i64 x3531), (9, bV false)], [(0, some (.row 1 3 (((x3530.set (Int.toNat (x3531)) b3541).set (Int.toNat (a1)) b3544).map (encInt .i64))))], 1⟩ [] (by kernel_rfl) trivial ?_
          refine AWp.conv (inv := [(0, 0)]) (vk := []) (e0 := []) (t := ⟨[(8, iV .i64 x3531), (9, bV false)], [(0, some (.row 1 3 (((x3530.set (Int.toNat (x3531)) b3541).set (Int.toNat (a1)) b3544).map (encInt .i64))))], 1⟩) (by kernel_rfl) ?_
          refine AWp.ret ?_
          obtain rfl := Option.some.inj H
          exact Exists.intro _ (And.intro (fun _ _ h => h) (And.intro (.inl rfl) (And.intro rfl (And.intro (by kernel_rfl) (by kernel_rfl)))))
def f_slices_breakPatternsOrdered_int.l0 (a1 : Int) (a2 : Int) (t3611 : Int) (x3638 : List Int) (x3639 : Int) (x3640 : Int) : Option (List Int) := if (decide (x3640 ≤ (IntKind.i64.wrap ((IntKind.i64.wrap (a1 + (IntKind.i64.wrap ((IntKind.i64.wrap (Int.tdiv (IntKind.i64.wrap (a2 - a1)) (4 : Int))) * (2 : Int))))) + (1 : Int))))) = true then ((f_slices_xorshift_Next_6cb.f x3639) >>= fun t3644 => ((if (decide ((IntKind.i64.wrap (IntKind.u64.wrap (((BitVec.toNat (BitVec.ofInt 64 (IntKind.u64.wrap (((BitVec.toNat (BitVec.ofInt 64 (IntKind.u64.wrap (((BitVec.toNat (BitVec.ofInt 64 (IntKind.u64.wrap (((BitVec.toNat (BitVec.ofInt 64 x3639 ^^^ BitVec.ofInt 64 (IntKind.u64.wrap (x3639 * 8192))) : Nat) : Int))) ^^^ BitVec.ofInt 64 (Int.fdiv (IntKind.u64.wrap (((BitVec.toNat (BitVec.ofInt 64 x3639 ^^^ BitVec.ofInt 64 (IntKind.u64.wrap (x3639 * 8192))) : Nat) : Int))) 128)) : Nat) : Int))) ^^^ BitVec.ofInt 64 (IntKind.u64.wrap ((IntKind.u64.wrap (((BitVec.toNat (BitVec.ofInt 64 (IntKind.u64.wrap (((BitVec.toNat (BitVec.ofInt 64 x3639 ^^^ BitVec.ofInt 64 (IntKind.u64.wrap (x3639 * 8192))) : Nat) : Int))) ^^^ BitVec.ofInt 64 (Int.fdiv (IntKind.u64.wrap (((BitVec.toNat (BitVec.ofInt 64 x3639 ^^^ BitVec.ofInt 64 (IntKind.u64.wrap (x3639 * 8192))) : Nat) : Int))) 128)) : Nat) : Int))) * 131072))) : Nat) : Int))) &&& BitVec.ofInt 64 (IntKind.u64.wrap (t3611 - (1 : Int)))) : Nat) : Int)))) ≥ (IntKind.i64.wrap (a2 - a1)))) = true then (some (IntKind.i64.wrap ((IntKind.i64.wrap (IntKind.u64.wrap (((BitVec.toNat (BitVec.ofInt 64 (IntKind.u64.wrap (((BitVec.toNat (BitVec.ofInt 64 (IntKind.u64.wrap (((BitVec.toNat (BitVec.ofInt 64 (IntKind.u64.wrap (((BitVec.toNat (BitVec.ofInt 64 x3639 ^^^ BitVec.ofInt 64 (IntKind.u64.wrap (x3639 * 8192))) : Nat) : Int))) ^^^ BitVec.ofInt 64 (Int.fdiv (IntKind.u64.wrap (((BitVec.toNat (BitVec.ofInt 64 x3639 ^^^ BitVec.ofInt 64 (IntKind.u64.wrap (x3639 * 8192))) : Nat) : Int))) 128)) : Nat) : Int))) ^^^ BitVec.ofInt 64 (IntKind.u64.wrap ((IntKind.u64.wrap (((BitVec.toNat (BitVec.ofInt 64 (IntKind.u64.wrap (((BitVec.toNat (BitVec.ofInt 64 x3639 ^^^ BitVec.ofInt 64 (IntKind.u64.wrap (x3639 * 8192))) : Nat) : Int))) ^^^ BitVec.ofInt 64 (Int.fdiv (IntKind.u64.wrap (((BitVec.toNat (BitVec.ofInt 64 x3639 ^^^ BitVec.ofInt 64 (IntKind.u64.wrap (x3639 * 8192))) : Nat) : Int))) 128)) : Nat) : Int))) * 131072))) : Nat) : Int))) &&& BitVec.ofInt 64 (IntKind.u64.wrap (t3611 - (1 : Int)))) : Nat) : Int)))) - (IntKind.i64.wrap (a2 - a1))))) else (some (IntKind.i64.wrap (IntKind.u64.wrap (((BitVec.toNat (BitVec.ofInt 64 (IntKind.u64.wrap (((BitVec.toNat (BitVec.ofInt 64 (IntKind.u64.wrap (((BitVec.toNat (BitVec.ofInt 64 (IntKind.u64.wrap (((BitVec.toNat (BitVec.ofInt 64 x3639 ^^^ BitVec.ofInt 64 (IntKind.u64.wrap (x3639 * 8192))) : Nat) : Int))) ^^^ BitVec.ofInt 64 (Int.fdiv (IntKind.u64.wrap (((BitVec.toNat (BitVec.ofInt 64 x3639 ^^^ BitVec.ofInt 64 (IntKind.u64.wrap (x3639 * 8192))) : Nat) : Int))) 128)) : Nat) : Int))) ^^^ BitVec.ofInt 64 (IntKind.u64.wrap ((IntKind.u64.wrap (((BitVec.toNat (BitVec.ofInt 64 (IntKind.u64.wrap (((BitVec.toNat (BitVec.ofInt 64 x3639 ^^^ BitVec.ofInt 64 (IntKind.u64.wrap (x3639 * 8192))) : Nat) : Int))) ^^^ BitVec.ofInt 64 (Int.fdiv (IntKind.u64.wrap (((BitVec.toNat (BitVec.ofInt 64 x3639 ^^^ BitVec.ofInt 64 (IntKind.u64.wrap (x3639 * 8192))) : Nat) : Int))) 128)) : Nat) : Int))) * 131072))) : Nat) : Int))) &&& BitVec.ofInt 64 (IntKind.u64.wrap (t3611 - (1 : Int)))) : Nat) : Int)))))) : Option (Int)) >>= fun x3647 => (at? x3638 (IntKind.i64.wrap (a1 + x3647))) >>= fun b3657 => (at? x3638 x3640) >>= fun b3660 => (at? (x3638.set (Int.toNat (x3640)) b3657) (IntKind.i64.wrap (a1 + x3647))) >>= fun b3663 => f_slices_breakPatternsOrdered_int.l0 a1 a2 t3611 ((x3638.set (Int.toNat (x3640)) b3657).set (Int.toNat (IntKind.i64.wrap (a1 + x3647))) b3660) (IntKind.u64.wrap (((BitVec.toNat (BitVec.ofInt 64 (IntKind.u64.wrap (((BitVec.toNat (BitVec.ofInt 64 (IntKind.u64.wrap (((BitVec.toNat (BitVec.ofInt 64 x3639 ^^^ BitVec.ofInt 64 (IntKind.u64.wrap (x3639 * 8192))) : Nat) : Int))) ^^^ BitVec.ofInt 64 (Int.fdiv (IntKind.u64.wrap (((BitVec.toNat (BitVec.ofInt 64 x3639 ^^^ BitVec.ofInt 64 (IntKind.u64.wrap (x3639 * 8192))) : Nat) : Int))) 128)) : Nat) : Int))) ^^^ BitVec.ofInt 64 (IntKind.u64.wrap ((IntKind.u64.wrap (((BitVec.toNat (BitVec.ofInt 64 (IntKind.u64.wrap (((BitVec.toNat (BitVec.ofInt 64 x3639 ^^^ BitVec.ofInt 64 (IntKind.u64.wrap (x3639 * 8192))) : Nat) : Int))) ^^^ BitVec.ofInt 64 (Int.fdiv (IntKind.u64.wrap (((BitVec.toNat (BitVec.ofInt 64 x3639 ^^^ BitVec.ofInt 64 (IntKind.u64.wrap (x3639 * 8192))) : Nat) : Int))) 128)) : Nat) : Int))) * 131072))) : Nat) : Int))) (IntKind.i64.wrap (x3640 + (1 : Int)))) else (some x3638)
partial_fixpoint
def f_slices_breakPatternsOrdered_int.f (a0 : List Int) (a1 : Int) (a2 : Int) : Option (List Int) := ((if (decide ((IntKind.i64.wrap (a2 - a1)) ≥ (8 : Int))) = true then ((f_slices_nextPowerOfTwo.f (IntKind.i64.wrap (a2 - a1))) >>= fun t3611 => (f_slices_breakPatternsOrdered_int.l0 a1 a2 t3611 a0 (IntKind.u64.wrap (IntKind.i64.wrap (a2 - a1))) (IntKind.i64.wrap ((IntKind.i64.wrap (a1 + (IntKind.i64.wrap ((IntKind.i64.wrap (Int.tdiv (IntKind.i64.wrap (a2 - a1)) (4 : Int))) * (2 : Int))))) - (1 : Int)))) >>= fun x3666 => some x3666) else (some a0)) : Option (List Int)) >>= fun x3667 => some x3667
theorem f_slices_breakPatternsOrdered_int.ok (a0 : List Int) (a1 : Int) (a2 : Int) (r : List Int) (H : f_slices_breakPatternsOrdered_int.f a0 a1 a2 = some r) : Pv.Fn Try.prog 69 [.own 0, iV .i64 a1, iV .i64 a2] [(0, some (.row 1 3 (a0.map (encInt .i64))))] 1 (fun x o => x = .tup [] ∧ o = [(0, some (.row 1 3 (r.map (encInt .i64))))]) := by
  unfold f_slices_breakPatternsOrdered_int.f at H
  refine Fn.bodyK [0] Try.func69 rfl rfl (fun Γ hP hn => ?_)
  have hm : Try.prog.follows .mixedOrders = true := by kernel_rfl
  replace hn : Γ.n = 65 := hn
  refine AWp.seq ?_
  refine reg hP hn hm [] [0, 1, 6] [0] ⟨[(0, .own 0), (1, iV .i64 a1), (6, iV .i64 (IntKind.i64.wrap (a2 - a1)))], [(0, some (.row 1 3 (a0.map (encInt .i64))))], 1⟩ [] (by kernel_rfl) trivial ?_
  refine AWp.seq ?_
  refine reg hP hn hm [] [0, 1, 6, 15] [0] ⟨[(0, .own 0), (1, iV .i64 a1), (6, iV .i64 (IntKind.i64.wrap (a2 - a1))), (15, bV (decide ((IntKind.i64.wrap (a2 - a1)) ≥ (8 : Int))))], [(0, some (.row 1 3 (a0.map (encInt .i64))))], 1⟩ [] (by kernel_rfl) trivial ?_
  obtain ⟨o3668, e3669, H⟩ := bind_of H
  refine AWp.mono (Q := fun e s => (match (generalizing := false) o3668 with | x3667 => e = .normal ∧ s = ⟨[], [(0, some (.row 1 3 (x3667.map (encInt .i64))))], 1⟩)) (AWp.cv ?_) ?_
  · replace H := e3669; clear e3669
    refine AWp.cond (decide ((IntKind.i64.wrap (a2 - a1)) ≥ (8 : Int))) rfl (fun c3608 => ?_) (fun c3608 => ?_)
    · replace H := (ifT c3608).symm.trans H
      refine AWp.seq ?_
      refine reg hP hn hm [(2, .k 1)] [0, 1, 6, 7] [0, 1] ⟨[(0, .own 0), (1, iV .i64 a1), (6, iV .i64 (IntKind.i64.wrap (a2 - a1))), (7, .ptr 1 0 0)], [(0, some (.row 1 3 (a0.map (encInt .i64)))), (1, some (.box 164 [iV .u64 (IntKind.u64.wrap (IntKind.i64.wrap (a2 - a1)))]))], 1⟩ [] (by kernel_rfl) trivial ?_
      refine AWp.seq ?_
      obtain ⟨t3611, e3612, H⟩ := bind_of H
      refine reg hP hn hm [(1, .call [] [] [] [] 0 (iV .u64 t3611) [])] [0, 1, 6, 7, 8] [0, 1] ⟨[(0, .own 0), (1, iV .i64 a1), (6, iV .i64 (IntKind.i64.wrap (a2 - a1))), (7, .ptr 1 0 0), (8, iV .u64 t3611)], [(0, some (.row 1 3 (a0.map (encInt .i64)))), (1, some (.box 164 [iV .u64 (IntKind.u64.wrap (IntKind.i64.wrap (a2 - a1)))]))], 1⟩ [Enters Try.prog 100, Pv.Fn Try.prog 100 [iV .i64 (IntKind.i64.wrap (a2 - a1))] [] 0 (fun r o => r = iV .u64 t3611 ∧ o = [])] (by kernel_rfl) ⟨by exact Try.call100, by exact f_slices_nextPowerOfTwo.ok (IntKind.i64.wrap (a2 - a1)) t3611 e3612, trivial⟩ ?_
      refine AWp.seq ?_
      refine reg hP hn hm [] [0, 1, 6, 7, 8, 9] [0, 1] ⟨[(0, .own 0), (1, iV .i64 a1), (6, iV .i64 (IntKind.i64.wrap (a2 - a1))), (7, .ptr 1 0 0), (8, iV .u64 t3611), (9, iV .i64 (IntKind.i64.wrap ((IntKind.i64.wrap (a1 + (IntKind.i64.wrap ((IntKind.i64.wrap (Int.tdiv (IntKind.i64.wrap (a2 - a1)) (4 : Int))) * (2 : Int))))) - (1 : Int))))], [(0, some (.row 1 3 (a0.map (encInt .i64)))), (1, some (.box 164 [iV .u64 (IntKind.u64.wrap (IntKind.i64.wrap (a2 - a1)))]))], 1⟩ [(4 : Int) ≠ 0] (by kernel_rfl) ⟨by decide, trivial⟩ ?_
      refine AWp.block ?_
      obtain ⟨o3670, e3671, H⟩ := bind_of H
      refine AWp.loop (LWp.conv (inv := [(0, 0), (1, 3)]) (vk := []) (e0 := []) (t := ⟨[(0, .own 0), (1, iV .i64 a1), (6, iV .i64 (IntKind.i64.wrap (a2 - a1))), (7, .ptr 3 0 0), (8, iV .u64 t3611), (9, iV .i64 (IntKind.i64.wrap ((IntKind.i64.wrap (a1 + (IntKind.i64.wrap ((IntKind.i64.wrap (Int.tdiv (IntKind.i64.wrap (a2 - a1)) (4 : Int))) * (2 : Int))))) - (1 : Int))))], [(0, some (.row 1 3 (a0.map (encInt .i64)))), (3, some (.box 164 [iV .u64 (IntKind.u64.wrap (IntKind.i64.wrap (a2 - a1)))]))], 1⟩) (by kernel_rfl) ?_)
      refine LWp.mono (Q := fun e s => (match (generalizing := false) o3670 with | x3666 => e = .exit 0 ∧ s = ⟨[], [(0, some (.row 1 3 (x3666.map (encInt .i64))))], 1⟩)) (LWp.cv (withBody (fun body hbody => ?_))) ?_
      · refine f_slices_breakPatternsOrdered_int.l0.partial_correctness a1 a2 t3611 (motive := fun x3638 x3639 x3640 o3670 => LWp Γ body (fun e s => ∃ t, Cv Γ s t ∧ (match (generalizing := false) o3670 with | x3666 => e = .exit 0 ∧ t = ⟨[], [(0, some (.row 1 3 (x3666.map (encInt .i64))))], 1⟩)) ⟨[(0, .own 0), (1, iV .i64 a1), (6, iV .i64 (IntKind.i64.wrap (a2 - a1))), (7, .ptr 3 0 0), (8, iV .u64 t3611), (9, iV .i64 x3640)], [(0, some (.row 1 3 (x3638.map (encInt .i64)))), (3, some (.box 164 [iV .u64 x3639]))], 1⟩) ?_ _ _ _ _ e3671
        clear H e3671 o3670; intro self ih x3638 x3639 x3640 o3670 H
        subst hbody
        refine LWp.round ?_
        refine AWp.seq ?_
        refine AWp.seq ?_
        refine reg hP hn hm [] [0, 1, 6, 7, 8, 9, 33] [0, 3] ⟨[(0, .own 0), (1, iV .i64 a1), (6, iV .i64 (IntKind.i64.wrap (a2 - a1))), (7, .ptr 3 0 0), (8, iV .u64 t3611), (9, iV .i64 x3640), (33, bV (decide (x3640 ≤ (IntKind.i64.wrap ((IntKind.i64.wrap (a1 + (IntKind.i64.wrap ((IntKind.i64.wrap (Int.tdiv (IntKind.i64.wrap (a2 - a1)) (4 : Int))) * (2 : Int))))) + (1 : Int))))))], [(0, some (.row 1 3 (x3638.map (encInt .i64)))), (3, some (.box 164 [iV .u64 x3639]))], 1⟩ [(4 : Int) ≠ 0] (by kernel_rfl) ⟨by decide, trivial⟩ ?_
        refine AWp.cond (decide (x3640 ≤ (IntKind.i64.wrap ((IntKind.i64.wrap (a1 + (IntKind.i64.wrap ((IntKind.i64.wrap (Int.tdiv (IntKind.i64.wrap (a2 - a1)) (4 : Int))) * (2 : Int))))) + (1 : Int))))) rfl (fun c3641 => ?_) (fun c3641 => ?_)
        · replace H := (ifT c3641).symm.trans H
          refine AWp.skip ?_
          refine AWp.seq ?_
          refine AWp.block ?_
          refine AWp.seq ?_
          obtain ⟨t3644, e3645, H⟩ := bind_of H
          refine reg hP hn hm [(0, .call [(3, 0)] [(0, 3)] [] [] 1 (iV .u64 (IntKind.u64.wrap (((BitVec.toNat (BitVec.ofInt 64 (IntKind.u64.wrap (((BitVec.toNat (BitVec.ofInt 64 (IntKind.u64.wrap (((BitVec.toNat (BitVec.ofInt 64 x3639 ^^^ BitVec.ofInt 64 (IntKind.u64.wrap (x3639 * 8192))) : Nat) : Int))) ^^^ BitVec.ofInt 64 (Int.fdiv (IntKind.u64.wrap (((BitVec.toNat (BitVec.ofInt 64 x3639 ^^^ BitVec.ofInt 64 (IntKind.u64.wrap (x3639 * 8192))) : Nat) : Int))) 128)) : Nat) : Int))) ^^^ BitVec.ofInt 64 (IntKind.u64.wrap ((IntKind.u64.wrap (((BitVec.toNat (BitVec.ofInt 64 (IntKind.u64.wrap (((BitVec.toNat (BitVec.ofInt 64 x3639 ^^^ BitVec.ofInt 64 (IntKind.u64.wrap (x3639 * 8192))) : Nat) : Int))) ^^^ BitVec.ofInt 64 (Int.fdiv (IntKind.u64.wrap (((BitVec.toNat (BitVec.ofInt 64 x3639 ^^^ BitVec.ofInt 64 (IntKind.u64.wrap (x3639 * 8192))) : Nat) : Int))) 128)) : Nat) : Int))) * 131072))) : Nat) : Int)))) [(0, some (.box 164 [iV .u64 (IntKind.u64.wrap (((BitVec.toNat (BitVec.ofInt 64 (IntKind.u64.wrap (((BitVec.toNat (BitVec.ofInt 64 (IntKind.u64.wrap (((BitVec.toNat (BitVec.ofInt 64 x3639 ^^^ BitVec.ofInt 64 (IntKind.u64.wrap (x3639 * 8192))) : Nat) : Int))) ^^^ BitVec.ofInt 64 (Int.fdiv (IntKind.u64.wrap (((BitVec.toNat (BitVec.ofInt 64 x3639 ^^^ BitVec.ofInt 64 (IntKind.u64.wrap (x3639 * 8192))) : Nat) : Int))) 128)) : Nat) : Int))) ^^^ BitVec.ofInt 64 (IntKind.u64.wrap ((IntKind.u64.wrap (((BitVec.toNat (BitVec.ofInt 64 (IntKind.u64.wrap (((BitVec.toNat (BitVec.ofInt 64 x3639 ^^^ BitVec.ofInt 64 (IntKind.u64.wrap (x3639 * 8192))) : Nat) : Int))) ^^^ BitVec.ofInt 64 (Int.fdiv (IntKind.u64.wrap (((BitVec.toNat (BitVec.ofInt 64 x3639 ^^^ BitVec.ofInt 64 (IntKind.u64.wrap (x3639 * 8192))) : Nat) : Int))) 128)) : Nat) : Int))) * 131072))) : Nat) : Int)))]))])] [0, 1, 6, 7, 8, 9, 10] [0, 3] ⟨[(0, .own 0), (1, iV .i64 a1), (6, iV .i64 (IntKind.i64.wrap (a2 - a1))), (7, .ptr 3 0 0), (8, iV .u64 t3611), (9, iV .i64 x3640), (10, iV .i64 (IntKind.i64.wrap (IntKind.u64.wrap (((BitVec.toNat (BitVec.ofInt 64 (IntKind.u64.wrap (((BitVec.toNat (BitVec.ofInt 64 (IntKind.u64.wrap (((BitVec.toNat (BitVec.ofInt 64 (IntKind.u64.wrap (((BitVec.toNat (BitVec.ofInt 64 x3639 ^^^ BitVec.ofInt 64 (IntKind.u64.wrap (x3639 * 8192))) : Nat) : Int))) ^^^ BitVec.ofInt 64 (Int.fdiv (IntKind.u64.wrap (((BitVec.toNat (BitVec.ofInt 64 x3639 ^^^ BitVec.ofInt 64 (IntKind.u64.wrap (x3639 * 8192))) : Nat) : Int))) 128)) : Nat) : Int))) ^^^ BitVec.ofInt 64 (IntKind.u64.wrap ((IntKind.u64.wrap (((BitVec.toNat (BitVec.ofInt 64 (IntKind.u64.wrap (((BitVec.toNat (BitVec.ofInt 64 x3639 ^^^ BitVec.ofInt 64 (IntKind.u64.wrap (x3639 * 8192))) : Nat) : Int))) ^^^ BitVec.ofInt 64 (Int.fdiv (IntKind.u64.wrap (((BitVec.toNat (BitVec.ofInt 64 x3639 ^^^ BitVec.ofInt 64 (IntKind.u64.wrap (x3639 * 8192))) : Nat) : Int))) 128)) : Nat) : Int))) * 131072))) : Nat) : Int))) &&& BitVec.ofInt 64 (IntKind.u64.wrap (t3611 - (1 : Int)))) : Nat) : Int)))))], [(0, some (.row 1 3 (x3638.map (encInt .i64)))), (3, some (.box 164 [iV .u64 (IntKind.u64.wrap (((BitVec.toNat (BitVec.ofInt 64 (IntKind.u64.wrap (((BitVec.toNat (BitVec.ofInt 64 (IntKind.u64.wrap (((BitVec.toNat (BitVec.ofInt 64 x3639 ^^^ BitVec.ofInt 64 (IntKind.u64.wrap (x3639 * 8192))) : Nat) : Int))) ^^^ BitVec.ofInt 64 (Int.fdiv (IntKind.u64.wrap (((BitVec.toNat (BitVec.ofInt 64 x3639 ^^^ BitVec.ofInt 64 (IntKind.u64.wrap (x3639 * 8192))) : Nat) : Int))) 128)) : Nat) : Int))) ^^^ BitVec.ofInt 64 (IntKind.u64.wrap ((IntKind.u64.wrap (((BitVec.toNat (BitVec.ofInt 64 (IntKind.u64.wrap (((BitVec.toNat (BitVec.ofInt 64 x3639 ^^^ BitVec.ofInt 64 (IntKind.u64.wrap (x3639 * 8192))) : Nat) : Int))) ^^^ BitVec.ofInt 64 (Int.fdiv (IntKind.u64.wrap (((BitVec.toNat (BitVec.ofInt 64 x3639 ^^^ BitVec.ofInt 64 (IntKind.u64.wrap (x3639 * 8192))) : Nat) : Int))) 128)) : Nat) : Int))) * 131072))) : Nat) : Int)))]))], 1⟩ [Enters Try.prog 101, Pv.Fn Try.prog 101 [.ptr 0 0 0] [(0, some (.box 164 [iV .u64 x3639]))] 1 (fun r o => r = iV .u64 (IntKind.u64.wrap (((BitVec.toNat (BitVec.ofInt 64 (IntKind.u64.wrap (((BitVec.toNat (BitVec.ofInt 64 (IntKind.u64.wrap (((BitVec.toNat (BitVec.ofInt 64 x3639 ^^^ BitVec.ofInt 64 (IntKind.u64.wrap (x3639 * 8192))) : Nat) : Int))) ^^^ BitVec.ofInt 64 (Int.fdiv (IntKind.u64.wrap (((BitVec.toNat (BitVec.ofInt 64 x3639 ^^^ BitVec.ofInt 64 (IntKind.u64.wrap (x3639 * 8192))) : Nat) : Int))) 128)) : Nat) : Int))) ^^^ BitVec.ofInt 64 (IntKind.u64.wrap ((IntKind.u64.wrap (((BitVec.toNat (BitVec.ofInt 64 (IntKind.u64.wrap (((BitVec.toNat (BitVec.ofInt 64 x3639 ^^^ BitVec.ofInt 64 (IntKind.u64.wrap (x3639 * 8192))) : Nat) : Int))) ^^^ BitVec.ofInt 64 (Int.fdiv (IntKind.u64.wrap (((BitVec.toNat (BitVec.ofInt 64 x3639 ^^^ BitVec.ofInt 64 (IntKind.u64.wrap (x3639 * 8192))) : Nat) : Int))) 128)) : Nat) : Int))) * 131072))) : Nat) : Int))) ∧ o = [(0, some (.box 164 [iV .u64 (IntKind.u64.wrap (((BitVec.toNat (BitVec.ofInt 64 (IntKind.u64.wrap (((BitVec.toNat (BitVec.ofInt 64 (IntKind.u64.wrap (((BitVec.toNat (BitVec.ofInt 64 x3639 ^^^ BitVec.ofInt 64 (IntKind.u64.wrap (x3639 * 8192))) : Nat) : Int))) ^^^ BitVec.ofInt 64 (Int.fdiv (IntKind.u64.wrap (((BitVec.toNat (BitVec.ofInt 64 x3639 ^^^ BitVec.ofInt 64 (IntKind.u64.wrap (x3639 * 8192))) : Nat) : Int))) 128)) : Nat) : Int))) ^^^ BitVec.ofInt 64 (IntKind.u64.wrap ((IntKind.u64.wrap (((BitVec.toNat (BitVec.ofInt 64 (IntKind.u64.wrap (((BitVec.toNat (BitVec.ofInt 64 x3639 ^^^ BitVec.ofInt 64 (IntKind.u64.wrap (x3639 * 8192))) : Nat) : Int))) ^^^ BitVec.ofInt 64 (Int.fdiv (IntKind.u64.wrap (((BitVec.toNat (BitVec.ofInt 64 x3639 ^^^ BitVec.ofInt 64 (IntKind.u64.wrap (x3639 * 8192))) : Nat) : Int))) 128)) : Nat) : Int))) * 131072))) : Nat) : Int)))]))])] (by kernel_rfl) ⟨by exact Try.call101, by exact f_slices_xorshift_Next_6cb.ok x3639 t3644 e3645, trivial⟩ ?_
          refine AWp.seq ?_
          refine AWp.seq ?_
          refine reg hP hn hm [] [0, 1, 6, 7, 8, 9, 10, 43] [0, 3] ⟨[(0, .own 0), (1, iV .i64 a1), (6, iV .i64 (IntKind.i64.wrap (a2 - a1))), (7, .ptr 3 0 0), (8, iV .u64 t3611), (9, iV .i64 x3640), (10, iV .i64 (IntKind.i64.wrap (IntKind.u64.wrap (((BitVec.toNat (BitVec.ofInt 64 (IntKind.u64.wrap (((BitVec.toNat (BitVec.ofInt 64 (IntKind.u64.wrap (((BitVec.toNat (BitVec.ofInt 64 (IntKind.u64.wrap (((BitVec.toNat (BitVec.ofInt 64 x3639 ^^^ BitVec.ofInt 64 (IntKind.u64.wrap (x3639 * 8192))) : Nat) : Int))) ^^^ BitVec.ofInt 64 (Int.fdiv (IntKind.u64.wrap (((BitVec.toNat (BitVec.ofInt 64 x3639 ^^^ BitVec.ofInt 64 (IntKind.u64.wrap (x3639 * 8192))) : Nat) : Int))) 128)) : Nat) : Int))) ^^^ BitVec.ofInt 64 (IntKind.u64.wrap ((IntKind.u64.wrap (((BitVec.toNat (BitVec.ofInt 64 (IntKind.u64.wrap (((BitVec.toNat (BitVec.ofInt 64 x3639 ^^^ BitVec.ofInt 64 (IntKind.u64.wrap (x3639 * 8192))) : Nat) : Int))) ^^^ BitVec.ofInt 64 (Int.fdiv (IntKind.u64.wrap (((BitVec.toNat (BitVec.ofInt 64 x3639 ^^^ BitVec.ofInt 64 (IntKind.u64.wrap (x3639 * 8192))) : Nat) : Int))) 128)) : Nat) : Int))) * 131072))) : Nat) : Int))) &&& BitVec.ofInt 64 (IntKind.u64.wrap (t3611 - (1 : Int)))) : Nat) : Int))))), (43, bV (decide ((IntKind.i64.wrap (IntKind.u64.wrap (((BitVec.toNat (BitVec.ofInt 64 (IntKind.u64.wrap (((BitVec.toNat (BitVec.ofInt 64 (IntKind.u64.wrap (((BitVec.toNat (BitVec.ofInt 64 (IntKind.u64.wrap (((BitVec.toNat (BitVec.ofInt 64 x3639 ^^^ BitVec.ofInt 64 (IntKind.u64.wrap (x3639 * 8192))) : Nat) : Int))) ^^^ BitVec.ofInt 64 (Int.fdiv (IntKind.u64.wrap (((BitVec.toNat (BitVec.ofInt 64 x3639 ^^^ BitVec.ofInt 64 (IntKind.u64.wrap (x3639 * 8192))) : Nat) : Int))) 128)) : Nat) : Int))) ^^^ BitVec.ofInt 64 (IntKind.u64.wrap ((IntKind.u64.wrap (((BitVec.toNat (BitVec.ofInt 64 (IntKind.u64.wrap (((BitVec.toNat (BitVec.ofInt 64 x3639 ^^^ BitVec.ofInt 64 (IntKind.u64.wrap (x3639 * 8192))) : Nat) : Int))) ^^^ BitVec.ofInt 64 (Int.fdiv (IntKind.u64.wrap (((BitVec.toNat (BitVec.ofInt 64 x3639 ^^^ BitVec.ofInt 64 (IntKind.u64.wrap (x3639 * 8192))) : Nat) : Int))) 128)) : Nat) : Int))) * 131072))) : Nat) : Int))) &&& BitVec.ofInt 64 (IntKind.u64.wrap (t3611 - (1 : Int)))) : Nat) : Int)))) ≥ (IntKind.i64.wrap (a2 - a1)))))], [(0, some (.row 1 3 (x3638.map (encInt .i64)))), (3, some (.box 164 [iV .u64 (IntKind.u64.wrap (((BitVec.toNat (BitVec.ofInt 64 (IntKind.u64.wrap (((BitVec.toNat (BitVec.ofInt 64 (IntKind.u64.wrap (((BitVec.toNat (BitVec.ofInt 64 x3639 ^^^ BitVec.ofInt 64 (IntKind.u64.wrap (x3639 * 8192))) : Nat) : Int))) ^^^ BitVec.ofInt 64 (Int.fdiv (IntKind.u64.wrap (((BitVec.toNat (BitVec.ofInt 64 x3639 ^^^ BitVec.ofInt 64 (IntKind.u64.wrap (x3639 * 8192))) : Nat) : Int))) 128)) : Nat) : Int))) ^^^ BitVec.ofInt 64 (IntKind.u64.wrap ((IntKind.u64.wrap (((BitVec.toNat (BitVec.ofInt 64 (IntKind.u64.wrap (((BitVec.toNat (BitVec.ofInt 64 x3639 ^^^ BitVec.ofInt 64 (IntKind.u64.wrap (x3639 * 8192))) : Nat) : Int))) ^^^ BitVec.ofInt 64 (Int.fdiv (IntKind.u64.wrap (((BitVec.toNat (BitVec.ofInt 64 x3639 ^^^ BitVec.ofInt 64 (IntKind.u64.wrap (x3639 * 8192))) : Nat) : Int))) 128)) : Nat) : Int))) * 131072))) : Nat) : Int)))]))], 1⟩ [] (by kernel_rfl) trivial ?_
          obtain ⟨o3672, e3673, H⟩ := bind_of H
          refine AWp.mono (Q := fun e s => (match (generalizing := false) o3672 with | x3647 => e = .normal ∧ s = ⟨[(0, .own 0), (1, iV .i64 a1), (6, iV .i64 (IntKind.i64.wrap (a2 - a1))), (7, .ptr 4 0 0), (8, iV .u64 t3611), (9, iV .i64 x3640), (10, iV .i64 x3647)], [(0, some (.row 1 3 (x3638.map (encInt .i64)))), (4, some (.box 164 [iV .u64 (IntKind.u64.wrap (((BitVec.toNat (BitVec.ofInt 64 (IntKind.u64.wrap (((BitVec.toNat (BitVec.ofInt 64 (IntKind.u64.wrap (((BitVec.toNat (BitVec.ofInt 64 x3639 ^^^ BitVec.ofInt 64 (IntKind.u64.wrap (x3639 * 8192))) : Nat) : Int))) ^^^ BitVec.ofInt 64 (Int.fdiv (IntKind.u64.wrap (((BitVec.toNat (BitVec.ofInt 64 x3639 ^^^ BitVec.ofInt 64 (IntKind.u64.wrap (x3639 * 8192))) : Nat) : Int))) 128)) : Nat) : Int))) ^^^ BitVec.ofInt 64 (IntKind.u64.wrap ((IntKind.u64.wrap (((BitVec.toNat (BitVec.ofInt 64 (IntKind.u64.wrap (((BitVec.toNat (BitVec.ofInt 64 x3639 ^^^ BitVec.ofInt 64 (IntKind.u64.wrap (x3639 * 8192))) : Nat) : Int))) ^^^ BitVec.ofInt 64 (Int.fdiv (IntKind.u64.wrap (((BitVec.toNat (BitVec.ofInt 64 x3639 ^^^ BitVec.ofInt 64 (IntKind.u64.wrap (x3639 * 8192))) : Nat) : Int))) 128)) : Nat) : Int))) * 131072))) : Nat) : Int)))]))], 1⟩)) (AWp.cv ?_) ?_
          · replace H := e3673; clear e3673
            refine AWp.cond (decide ((IntKind.i64.wrap (IntKind.u64.wrap (((BitVec.toNat (BitVec.ofInt 64 (IntKind.u64.wrap (((BitVec.toNat (BitVec.ofInt 64 (IntKind.u64.wrap (((BitVec.toNat (BitVec.ofInt 64 (IntKind.u64.wrap (((BitVec.toNat (BitVec.ofInt 64 x3639 ^^^ BitVec.ofInt 64 (IntKind.u64.wrap (x3639 * 8192))) : Nat) : Int))) ^^^ BitVec.ofInt 64 (Int.fdiv (IntKind.u64.wrap (((BitVec.toNat (BitVec.ofInt 64 x3639 ^^^ BitVec.ofInt 64 (IntKind.u64.wrap (x3639 * 8192))) : Nat) : Int))) 128)) : Nat) : Int))) ^^^ BitVec.ofInt 64 (IntKind.u64.wrap ((IntKind.u64.wrap (((BitVec.toNat (BitVec.ofInt 64 (IntKind.u64.wrap (((BitVec.toNat (BitVec.ofInt 64 x3639 ^^^ BitVec.ofInt 64 (IntKind.u64.wrap (x3639 * 8192))) : Nat) : Int))) ^^^ BitVec.ofInt 64 (Int.fdiv (IntKind.u64.wrap (((BitVec.toNat (BitVec.ofInt 64 x3639 ^^^ BitVec.ofInt 64 (IntKind.u64.wrap (x3639 * 8192))) : Nat) : Int))) 128)) : Nat) : Int))) * 131072))) : Nat) : Int))) &&& BitVec.ofInt 64 (IntKind.u64.wrap (t3611 - (1 : Int)))) : Nat) : Int)))) ≥ (IntKind.i64.wrap (a2 - a1)))) rfl (fun c3646 => ?_) (fun c3646 => ?_)
            · replace H := (ifT c3646).symm.trans H
              refine reg hP hn hm [] [0, 1, 6, 7, 8, 9, 10] [0, 3] ⟨[(0, .own 0), (1, iV .i64 a1), (6, iV .i64 (IntKind.i64.wrap (a2 - a1))), (7, .ptr 3 0 0), (8, iV .u64 t3611), (9, iV .i64 x3640), (10, iV .i64 (IntKind.i64.wrap ((IntKind.i64.wrap (IntKind.u64.wrap (((BitVec.toNat (BitVec.ofInt 64 (IntKind.u64.wrap (((BitVec.toNat (BitVec.ofInt 64 (IntKind.u64.wrap (((BitVec.toNat (BitVec.ofInt 64 (IntKind.u64.wrap (((BitVec.toNat (BitVec.ofInt 64 x3639 ^^^ BitVec.ofInt 64 (IntKind.u64.wrap (x3639 * 8192))) : Nat) : Int))) ^^^ BitVec.ofInt 64 (Int.fdiv (IntKind.u64.wrap (((BitVec.toNat (BitVec.ofInt 64 x3639 ^^^ BitVec.ofInt 64 (IntKind.u64.wrap (x3639 * 8192))) : Nat) : Int))) 128)) : Nat) : Int))) ^^^ BitVec.ofInt 64 (IntKind.u64.wrap ((IntKind.u64.wrap (((BitVec.toNat (BitVec.ofInt 64 (IntKind.u64.wrap (((BitVec.toNat (BitVec.ofInt 64 x3639 ^^^ BitVec.ofInt 64 (IntKind.u64.wrap (x3639 * 8192))) : Nat) : Int))) ^^^ BitVec.ofInt 64 (Int.fdiv (IntKind.u64.wrap (((BitVec.toNat (BitVec.ofInt 64 x3639 ^^^ BitVec.ofInt 64 (IntKind.u64.wrap (x3639 * 8192))) : Nat) : Int))) 128)) : Nat) : Int))) * 131072))) : Nat) : Int))) &&& BitVec.ofInt 64 (IntKind.u64.wrap (t3611 - (1 : Int)))) : Nat) : Int)))) - (IntKind.i64.wrap (a2 - a1)))))], [(0, some (.row 1 3 (x3638.map (encInt .i64)))), (3, some (.box 164 [iV .u64 (IntKind.u64.wrap (((BitVec.toNat (BitVec.ofInt 64 (IntKind.u64.wrap (((BitVec.toNat (BitVec.ofInt 64 (IntKind.u64.wrap (((BitVec.toNat (BitVec.ofInt 64 x3639 ^^^ BitVec.ofInt 64 (IntKind.u64.wrap (x3639 * 8192))) : Nat) : Int))) ^^^ BitVec.ofInt 64 (Int.fdiv (IntKind.u64.wrap (((BitVec.toNat (BitVec.ofInt 64 x3639 ^^^ BitVec.ofInt 64 (IntKind.u64.wrap (x3639 * 8192))) : Nat) : Int))) 128)) : Nat) : Int))) ^^^ BitVec.ofInt 64 (IntKind.u64.wrap ((IntKind.u64.wrap (((BitVec.toNat (BitVec.ofInt 64 (IntKind.u64.wrap (((BitVec.toNat (BitVec.ofInt 64 x3639 ^^^ BitVec.ofInt 64 (IntKind.u64.wrap (x3639 * 8192))) : Nat) : Int))) ^^^ BitVec.ofInt 64 (Int.fdiv (IntKind.u64.wrap (((BitVec.toNat (BitVec.ofInt 64 x3639 ^^^ BitVec.ofInt 64 (IntKind.u64.wrap (x3639 * 8192))) : Nat) : Int))) 128)) : Nat) : Int))) * 131072))) : Nat) : Int)))]))], 1⟩ [] (by kernel_rfl) trivial ?_
              obtain rfl := Option.some.inj H
              exact Exists.intro _ (And.intro (fun _ _ h => h.conv (inv := [(0, 0), (3, 4)]) (vk := []) (e0 := []) (t := ⟨[(0, .own 0), (1, iV .i64 a1), (6, iV .i64 (IntKind.i64.wrap (a2 - a1))), (7, .ptr 4 0 0), (8, iV .u64 t3611), (9, iV .i64 x3640), (10, iV .i64 (IntKind.i64.wrap ((IntKind.i64.wrap (IntKind.u64.wrap (((BitVec.toNat (BitVec.ofInt 64 (IntKind.u64.wrap (((BitVec.toNat (BitVec.ofInt 64 (IntKind.u64.wrap (((BitVec.toNat (BitVec.ofInt 64 (IntKind.u64.wrap (((BitVec.toNat (BitVec.ofInt 64 x3639 ^^^ BitVec.ofInt 64 (IntKind.u64.wrap (x3639 * 8192))) : Nat) : Int))) ^^^ BitVec.ofInt 64 (Int.fdiv (IntKind.u64.wrap (((BitVec.toNat (BitVec.ofInt 64 x3639 ^^^ BitVec.ofInt 64 (IntKind.u64.wrap (x3639 * 8192))) : Nat) : Int))) 128)) : Nat) : Int))) ^^^ BitVec.ofInt 64 (IntKind.u64.wrap ((IntKind.u64.wrap (((BitVec.toNat (BitVec.ofInt 64 (IntKind.u64.wrap (((BitVec.toNat (BitVec.ofInt 64 x3639 ^^^ BitVec.ofInt 64 (IntKind.u64.wrap (x3639 * 8192))) : Nat) : Int))) ^^^ BitVec.ofInt 64 (Int.fdiv (IntKind.u64.wrap (((BitVec.toNat (BitVec.ofInt 64 x3639 ^^^ BitVec.ofInt 64 (IntKind.u64.wrap (x3639 * 8192))) : Nat) : Int))) 128)) : Nat) : Int))) * 131072))) : Nat) : Int))) &&& BitVec.ofInt 64 (IntKind.u64.wrap (t3611 - (1 : Int)))) : Nat) : Int)))) - (IntKind.i64.wrap (a2 - a1)))))], [(0, some (.row 1 3 (x3638.map (encInt .i64)))), (4, some (.box 164 [iV .u64 (IntKind.u64.wrap (((BitVec.toNat (BitVec.ofInt 64 (IntKind.u64.wrap (((BitVec.toNat (BitVec.ofInt 64 (IntKind.u64.wrap (((BitVec.toNat (BitVec.ofInt 64 x3639 ^^^ BitVec.ofInt 64 (IntKind.u64.wrap (x3639 * 8192))) : Nat) : Int))) ^^^ BitVec.ofInt 64 (Int.fdiv (IntKind.u64.wrap (((BitVec.toNat (BitVec.ofInt 64 x3639 ^^^ BitVec.ofInt 64 (IntKind.u64.wrap (x3639 * 8192))) : Nat) : Int))) 128)) : Nat) : Int))) ^^^ BitVec.ofInt 64 (IntKind.u64.wrap ((IntKind.u64.wrap (((BitVec.toNat (BitVec.ofInt 64 (IntKind.u64.wrap (((BitVec.toNat (BitVec.ofInt 64 x3639 ^^^ BitVec.ofInt 64 (IntKind.u64.wrap (x3639 * 8192))) : Nat) : Int))) ^^^ BitVec.ofInt 64 (Int.fdiv (IntKind.u64.wrap (((BitVec.toNat (BitVec.ofInt 64 x3639 ^^^ BitVec.ofInt 64 (IntKind.u64.wrap (x3639 * 8192))) : Nat) : Int))) 128)) : Nat) : Int))) * 131072))) : Nat) : Int)))]))], 1⟩) (by kernel_rfl)) (And.intro rfl rfl))
            · replace H := (ifF c3646).symm.trans H
              refine AWp.skip ?_
              obtain rfl := Option.some.inj H
              exact Exists.intro _ (And.intro (fun _ _ h => h.conv (inv := [(0, 0), (3, 4)]) (vk := []) (e0 := []) (t := ⟨[(0, .own 0), (1, iV .i64 a1), (6, iV .i64 (IntKind.i64.wrap (a2 - a1))), (7, .ptr 4 0 0), (8, iV .u64 t3611), (9, iV .i64 x3640), (10, iV .i64 (IntKind.i64.wrap (IntKind.u64.wrap (((BitVec.toNat (BitVec.ofInt 64 (IntKind.u64.wrap (((BitVec.toNat (BitVec.ofInt 64 (IntKind.u64.wrap (((BitVec.toNat (BitVec.ofInt 64 (IntKind.u64.wrap (((BitVec.toNat (BitVec.ofInt 64 x3639 ^^^ BitVec.ofInt 64 (IntKind.u64.wrap (x3639 * 8192))) : Nat) : Int))) ^^^ BitVec.ofInt 64 (Int.fdiv (IntKind.u64.wrap (((BitVec.toNat (BitVec.ofInt 64 x3639 ^^^ BitVec.ofInt 64 (IntKind.u64.wrap (x3639 * 8192))) : Nat) : Int))) 128)) : Nat) : Int))) ^^^ BitVec.ofInt 64 (IntKind.u64.wrap ((IntKind.u64.wrap (((BitVec.toNat (BitVec.ofInt 64 (IntKind.u64.wrap (((BitVec.toNat (BitVec.ofInt 64 x3639 ^^^ BitVec.ofInt 64 (IntKind.u64.wrap (x3639 * 8192))) : Nat) : Int))) ^^^ BitVec.ofInt 64 (Int.fdiv (IntKind.u64.wrap (((BitVec.toNat (BitVec.ofInt 64 x3639 ^^^ BitVec.ofInt 64 (IntKind.u64.wrap (x3639 * 8192))) : Nat) : Int))) 128)) : Nat) : Int))) * 131072))) : Nat) : Int))) &&& BitVec.ofInt 64 (IntKind.u64.wrap (t3611 - (1 : Int)))) : Nat) : Int)))))], [(0, some (.row 1 3 (x3638.map (encInt .i64)))), (4, some (.box 164 [iV .u64 (IntKind.u64.wrap (((BitVec.toNat (BitVec.ofInt 64 (IntKind.u64.wrap (((BitVec.toNat (BitVec.ofInt 64 (IntKind.u64.wrap (((BitVec.toNat (BitVec.ofInt 64 x3639 ^^^ BitVec.ofInt 64 (IntKind.u64.wrap (x3639 * 8192))) : Nat) : Int))) ^^^ BitVec.ofInt 64 (Int.fdiv (IntKind.u64.wrap (((BitVec.toNat (BitVec.ofInt 64 x3639 ^^^ BitVec.ofInt 64 (IntKind.u64.wrap (x3639 * 8192))) : Nat) : Int))) 128)) : Nat) : Int))) ^^^ BitVec.ofInt 64 (IntKind.u64.wrap ((IntKind.u64.wrap (((BitVec.toNat (BitVec.ofInt 64 (IntKind.u64.wrap (((BitVec.toNat (BitVec.ofInt 64 x3639 ^^^ BitVec.ofInt 64 (IntKind.u64.wrap (x3639 * 8192))) : Nat) : Int))) ^^^ BitVec.ofInt 64 (Int.fdiv (IntKind.u64.wrap (((BitVec.toNat (BitVec.ofInt 64 x3639 ^^^ BitVec.ofInt 64 (IntKind.u64.wrap (x3639 * 8192))) : Nat) : Int))) 128)) : Nat) : Int))) * 131072))) : Nat) : Int)))]))], 1⟩) (by kernel_rfl)) (And.intro rfl rfl))
          · obtain ⟨x3647, rfl⟩ : ∃ z, z = o3672 := ⟨_, rfl⟩
            rintro e s ⟨rfl, rfl⟩
            obtain ⟨b3657, p3658, q3659, H⟩ := at_of H
            obtain ⟨b3660, p3661, q3662, H⟩ := at_of H
            obtain ⟨b3663, p3664, q3665, H⟩ := at_of H
            refine reg hP hn hm [(11, .c ((encInt .i64) b3657)), (15, .c ((encInt .i64) b3660)), (17, .put ((encInt .i64) b3660) ((x3638.set (Int.toNat (x3640)) b3657).map (encInt .i64))), (19, .put ((encInt .i64) b3663) (((x3638.set (Int.toNat (x3640)) b3657).set (Int.toNat (IntKind.i64.wrap (a1 + x3647))) b3660).map (encInt .i64)))] [0, 1, 6, 7, 8, 9] [0, 4] ⟨[(0, .own 0), (1, iV .i64 a1), (6, iV .i64 (IntKind.i64.wrap (a2 - a1))), (7, .ptr 4 0 0), (8, iV .u64 t3611), (9, iV .i64 x3640)], [(0, some (.row 1 3 (((x3638.set (Int.toNat (x3640)) b3657).set (Int.toNat (IntKind.i64.wrap (a1 + x3647))) b3660).map (encInt .i64)))), (4, some (.box 164 [iV .u64 (IntKind.u64.wrap (((BitVec.toNat (BitVec.ofInt 64 (IntKind.u64.wrap (((BitVec.toNat (BitVec.ofInt 64 (IntKind.u64.wrap (((BitVec.toNat (BitVec.ofInt 64 x3639 ^^^ BitVec.ofInt 64 (IntKind.u64.wrap (x3639 * 8192))) : Nat) : Int))) ^^^ BitVec.ofInt 64 (Int.fdiv (IntKind.u64.wrap (((BitVec.toNat (BitVec.ofInt 64 x3639 ^^^ BitVec.ofInt 64 (IntKind.u64.wrap (x3639 * 8192))) : Nat) : Int))) 128)) : Nat) : Int))) ^^^ BitVec.ofInt 64 (IntKind.u64.wrap ((IntKind.u64.wrap (((BitVec.toNat (BitVec.ofInt 64 (IntKind.u64.wrap (((BitVec.toNat (BitVec.ofInt 64 x3639 ^^^ BitVec.ofInt 64 (IntKind.u64.wrap (x3639 * 8192))) : Nat) : Int))) ^^^ BitVec.ofInt 64 (Int.fdiv (IntKind.u64.wrap (((BitVec.toNat (BitVec.ofInt 64 x3639 ^^^ BitVec.ofInt 64 (IntKind.u64.wrap (x3639 * 8192))) : Nat) : Int))) 128)) : Nat) : Int))) * 131072))) : Nat) : Int)))]))], 1⟩ [0 ≤ (IntKind.i64.wrap (a1 + x3647)), IntKind.i64.wrap (a1 + x3647) < (((x3638.map (encInt .i64)).length : Nat) : Int), (x3638.map (encInt .i64))[(Int.toNat (IntKind.i64.wrap (a1 + x3647)))]? = some ((encInt .i64) b3657), 0 ≤ x3640, x3640 < (((x3638.map (encInt .i64)).length : Nat) : Int), (x3638.map (encInt .i64))[(Int.toNat (x3640))]? = some ((encInt .i64) b3660), 0 ≤ x3640, x3640 < (((x3638.map (encInt .i64)).length : Nat) : Int), (x3638.map (encInt .i64))[(Int.toNat (x3640))]? = some ((encInt .i64) b3660), (x3638.set (Int.toNat (x3640)) b3657).map (encInt .i64) = (x3638.map (encInt .i64)).set (Int.toNat (x3640)) (splice ((encInt .i64) b3660) 0 [iI .i64 b3657]), 0 ≤ (IntKind.i64.wrap (a1 + x3647)), IntKind.i64.wrap (a1 + x3647) < ((((x3638.set (Int.toNat (x3640)) b3657).map (encInt .i64)).length : Nat) : Int), ((x3638.set (Int.toNat (x3640)) b3657).map (encInt .i64))[(Int.toNat (IntKind.i64.wrap (a1 + x3647)))]? = some ((encInt .i64) b3663), ((x3638.set (Int.toNat (x3640)) b3657).set (Int.toNat (IntKind.i64.wrap (a1 + x3647))) b3660).map (encInt .i64) = ((x3638.set (Int.toNat (x3640)) b3657).map (encInt .i64)).set (Int.toNat (IntKind.i64.wrap (a1 + x3647))) (splice ((encInt .i64) b3663) 0 [iI .i64 b3660])] (by kernel_rfl) ⟨by exact p3658, by exact el_lt (encInt .i64) p3658 q3659, by exact el_map (encInt .i64) q3659, by exact p3661, by exact el_lt (encInt .i64) p3661 q3662, by exact el_map (encInt .i64) q3662, by exact p3661, by exact el_lt (encInt .i64) p3661 q3662, by exact el_map (encInt .i64) q3662, by exact set1 _ _ _ _, by exact p3664, by exact el_lt (encInt .i64) p3664 q3665, by exact el_map (encInt .i64) q3665, by exact set1 _ _ _ _, trivial⟩ ?_
            refine reg hP hn hm [] [0, 1, 6, 7, 8, 9] [0, 4] ⟨[(0, .own 0), (1, iV .i64 a1), (6, iV .i64 (IntKind.i64.wrap (a2 - a1))), (7, .ptr 4 0 0), (8, iV .u64 t3611), (9, iV .i64 (IntKind.i64.wrap (x3640 + (1 : Int))))], [(0, some (.row 1 3 (((x3638.set (Int.toNat (x3640)) b3657).set (Int.toNat (IntKind.i64.wrap (a1 + x3647))) b3660).map (encInt .i64)))), (4, some (.box 164 [iV .u64 (IntKind.u64.wrap (((BitVec.toNat (BitVec.ofInt 64 (IntKind.u64.wrap (((BitVec.toNat (BitVec.ofInt 64 (IntKind.u64.wrap (((BitVec.toNat (BitVec.ofInt 64 x3639 ^^^ BitVec.ofInt 64 (IntKind.u64.wrap (x3639 * 8192))) : Nat) : Int))) ^^^ BitVec.ofInt 64 (Int.fdiv (IntKind.u64.wrap (((BitVec.toNat (BitVec.ofInt 64 x3639 ^^^ BitVec.ofInt 64 (IntKind.u64.wrap (x3639 * 8192))) : Nat) : Int))) 128)) : Nat) : Int))) ^^^ BitVec.ofInt 64 (IntKind.u64.wrap ((IntKind.u64.wrap (((BitVec.toNat (BitVec.ofInt 64 (IntKind.u64.wrap (((BitVec.toNat (BitVec.ofInt 64 x3639 ^^^ BitVec.ofInt 64 (IntKind.u64.wrap (x3639 * 8192))) : Nat) : Int))) ^^^ BitVec.ofInt 64 (Int.fdiv (IntKind.u64.wrap (((BitVec.toNat (BitVec.ofInt 64 x3639 ^^^ BitVec.ofInt 64 (IntKind.u64.wrap (x3639 * 8192))) : Nat) : Int))) 128)) : Nat) : Int))) * 131072))) : Nat) : Int)))]))], 1⟩ [] (by kernel_rfl) trivial ?_
            exact LWp.conv (inv := [(0, 0), (4, 3)]) (vk := []) (e0 := []) (t := ⟨[(0, .own 0), (1, iV .i64 a1), (6, iV .i64 (IntKind.i64.wrap (a2 - a1))), (7, .ptr 3 0 0), (8, iV .u64 t3611), (9, iV .i64 (IntKind.i64.wrap (x3640 + (1 : Int))))], [(0, some (.row 1 3 (((x3638.set (Int.toNat (x3640)) b3657).set (Int.toNat (IntKind.i64.wrap (a1 + x3647))) b3660).map (encInt .i64)))), (3, some (.box 164 [iV .u64 (IntKind.u64.wrap (((BitVec.toNat (BitVec.ofInt 64 (IntKind.u64.wrap (((BitVec.toNat (BitVec.ofInt 64 (IntKind.u64.wrap (((BitVec.toNat (BitVec.ofInt 64 x3639 ^^^ BitVec.ofInt 64 (IntKind.u64.wrap (x3639 * 8192))) : Nat) : Int))) ^^^ BitVec.ofInt 64 (Int.fdiv (IntKind.u64.wrap (((BitVec.toNat (BitVec.ofInt 64 x3639 ^^^ BitVec.ofInt 64 (IntKind.u64.wrap (x3639 * 8192))) : Nat) : Int))) 128)) : Nat) : Int))) ^^^ BitVec.ofInt 64 (IntKind.u64.wrap ((IntKind.u64.wrap (((BitVec.toNat (BitVec.ofInt 64 (IntKind.u64.wrap (((BitVec.toNat (BitVec.ofInt 64 x3639 ^^^ BitVec.ofInt 64 (IntKind.u64.wrap (x3639 * 8192))) : Nat) : Int))) ^^^ BitVec.ofInt 64 (Int.fdiv (IntKind.u64.wrap (((BitVec.toNat (BitVec.ofInt 64 x3639 ^^^ BitVec.ofInt 64 (IntKind.u64.wrap (x3639 * 8192))) : Nat) : Int))) 128)) : Nat) : Int))) * 131072))) : Nat) : Int)))]))], 1⟩) (by kernel_rfl) (ih _ _ _ _ H)
        · replace H := (ifF c3641).symm.trans H
          refine AWp.exit ?_
          obtain rfl := Option.some.inj H
          exact Exists.intro _ (And.intro (fun _ _ h => h.conv (inv := [(0, 0)]) (vk := []) (e0 := []) (t := ⟨[], [(0, some (.row 1 3 (x3638.map (encInt .i64))))], 1⟩) (by kernel_rfl)) (And.intro rfl rfl))
      · obtain ⟨x3666, rfl⟩ : ∃ z, z = o3670 := ⟨_, rfl⟩
        rintro e s ⟨rfl, rfl⟩
        obtain rfl := Option.some.inj H
        exact Exists.intro _ (And.intro (fun _ _ h => h.conv (inv := [(0, 0)]) (vk := []) (e0 := []) (t := ⟨[], [(0, some (.row 1 3 (x3666.map (encInt .i64))))], 1⟩) (by kernel_rfl)) (And.intro rfl rfl))
    · replace H := (ifF c3608).symm.trans H
      refine AWp.skip ?_
      obtain rfl := Option.some.inj H
      exact Exists.intro _ (And.intro (fun _ _ h => h.conv (inv := [(0, 0)]) (vk := []) (e0 := []) (t := ⟨[], [(0, some (.row 1 3 (a0.map (encInt .i64))))], 1⟩) (by kernel_rfl)) (And.intro rfl rfl))
  · obtain ⟨x3667, rfl⟩ : ∃ z, z = o3668 := ⟨_, rfl⟩
    rintro e s ⟨rfl, rfl⟩
    obtain rfl := Option.some.inj H
    exact Exists.intro ⟨[], [(0, some (.row 1 3 (x3667.map (encInt .i64))))], 1⟩ (And.intro (fun _ _ h => h.conv (inv := [(0, 0)]) (vk := []) (e0 := []) (t := ⟨[], [(0, some (.row 1 3 (x3667.map (encInt .i64))))], 1⟩) (by kernel_rfl)) (And.intro (.inr rfl) (And.intro rfl (And.intro (by kernel_rfl) (by kernel_rfl)))))
def f_slices_pdqsortOrdered_int.l0 (self : (List Int) → Int → Int → Int → Option (List Int)) (x3751 : List Int) (x3752 : Int) (x3753 : Int) (x3754 : Int) (x3755 : Bool) (x3756 : Bool) : Option (List Int) := ((if (decide ((IntKind.i64.wrap (x3753 - x3752)) ≤ (12 : Int))) = true then ((f_slices_insertionSortOrdered_int.f x3751 x3752 x3753) >>= fun t3760 => some (.inl t3760)) else (if (x3754 == (0 : Int)) = true then ((f_slices_heapSortOrdered_int.f x3751 x3752 x3753) >>= fun t3765 => some (.inl t3765)) else (((if (!x3755) = true then ((f_slices_breakPatternsOrdered_int.f x3751 x3752 x3753) >>= fun t3770 => some (t3770, IntKind.i64.wrap (x3754 - (1 : Int)))) else (some (x3751, x3754))) : Option ((List Int) × Int)) >>= fun oo => match oo with | (x3772, x3773) => ((f_slices_choosePivotOrdered_int.f x3772 x3752 x3753) >>= fun t3776 => ((if (t3776.2 == (2 : Int)) = true then ((f_slices_reverseRangeOrdered_int.f x3772 x3752 x3753) >>= fun t3781 => some (t3781, IntKind.i64.wrap ((IntKind.i64.wrap (x3753 - (1 : Int))) - (IntKind.i64.wrap (t3776.1 - x3752))), 1)) else (some (x3772, t3776.1, t3776.2))) : Option ((List Int) × Int × Int)) >>= fun oo => match oo with | (x3783, x3784, x3785) => (((if x3755 = true then (if x3756 = true then (some (x3785 == (1 : Int))) else (some false)) else (some false)) : Option (Bool)) >>= fun x3790 => ((if x3790 = true then ((f_slices_partialInsertionSortOrdered_int.f x3783 x3752 x3753) >>= fun t3794 => if t3794.1 = true then (some (.inl t3794.2)) else (some (.inr t3794.2))) else (some (.inr x3783))) : Option ((List Int) ⊕ (List Int))) >>= fun oo => match oo with | .inl rr => (some (.inl rr)) | .inr x3797 => (((if (decide (x3752 > (0 : Int))) = true then ((at? x3797 (IntKind.i64.wrap (x3752 - (1 : Int)))) >>= fun b3808 => (at? x3797 x3784) >>= fun b3811 => (f_cmp_Less_int.f b3808 b3811) >>= fun t3814 => some (!t3814)) else (some false)) : Option (Bool)) >>= fun x3816 => if x3816 = true then ((f_slices_partitionEqualOrdered_int.f x3797 x3752 x3753 x3784) >>= fun t3820 => some (.inr (t3820.2, t3820.1, x3753, x3773, x3755, x3756))) else ((f_slices_partitionOrdered_int.f x3797 x3752 x3753 x3784) >>= fun t3824 => ((if (decide ((IntKind.i64.wrap (t3824.1 - x3752)) < (IntKind.i64.wrap (x3753 - t3824.1)))) = true then ((self t3824.2.2 x3752 t3824.1 x3773) >>= fun t3829 => some (t3829, IntKind.i64.wrap (t3824.1 + (1 : Int)), x3753, (decide ((IntKind.i64.wrap (t3824.1 - x3752)) ≥ (IntKind.i64.wrap (Int.tdiv (IntKind.i64.wrap (x3753 - x3752)) (8 : Int))))))) else ((self t3824.2.2 (IntKind.i64.wrap (t3824.1 + (1 : Int))) x3753 x3773) >>= fun t3833 => some (t3833, x3752, t3824.1, (decide ((IntKind.i64.wrap (x3753 - t3824.1)) ≥ (IntKind.i64.wrap (Int.tdiv (IntKind.i64.wrap (x3753 - x3752)) (8 : Int)))))))) : Option ((List Int) × Int × Int × Bool)) >>= fun oo => match oo with | (x3835, x3836, x3837, x3838) => (some (.inr (x3835, x3836, x3837, x3773, x3838, t3824.2.1)))))))))) : Option ((List Int) ⊕ ((List Int) × Int × Int × Int × Bool × Bool))) >>= fun oo => match oo with | .inl rr => (some rr) | .inr (x3839, x3840, x3841, x3842, x3843, x3844) => (f_slices_pdqsortOrdered_int.l0 self x3839 x3840 x3841 x3842 x3843 x3844)
partial_fixpoint
def f_slices_pdqsortOrdered_int.fu : Nat → (List Int) → Int → Int → Int → Option (List Int)
  | 0, _, _, _, _ => none
  | k + 1, a0, a1, a2, a3 => (f_slices_pdqsortOrdered_int.l0 (f_slices_pdqsortOrdered_int.fu k) a0 a1 a2 a3 true true) >>= fun rr => some rr
def f_slices_pdqsortOrdered_int.f (a0 : List Int) (a1 : Int) (a2 : Int) (a3 : Int) : Option (List Int) := f_slices_pdqsortOrdered_int.fu 100 a0 a1 a2 a3
theorem f_slices_pdqsortOrdered_int.oku (k : Nat) (a0 : List Int) (a1 : Int) (a2 : Int) (a3 : Int) (r : List Int) (H : f_slices_pdqsortOrdered_int.fu k a0 a1 a2 a3 = some r) : Pv.Fn Try.prog 46 [.own 0, iV .i64 a1, iV .i64 a2, iV .i64 a3] [(0, some (.row 1 3 (a0.map (encInt .i64))))] 1 (fun x o => x = .tup [] ∧ o = [(0, some (.row 1 3 (r.map (encInt .i64))))]) := by
  induction k generalizing a0 a1 a2 a3 r with
  | zero => simp [f_slices_pdqsortOrdered_int.fu] at H
  | succ k ihF =>
  rw [f_slices_pdqsortOrdered_int.fu] at H
  refine Fn.bodyK [0] Try.func46 rfl rfl (fun Γ hP hn => ?_)
  have hm : Try.prog.follows .mixedOrders = true := by kernel_rfl
  replace hn : Γ.n = 134 := hn
  refine AWp.seq ?_
  refine reg hP hn hm [] [0, 1, 2, 3, 8] [0] ⟨[(0, .own 0), (1, iV .i64 a1), (2, iV .i64 a2), (3, iV .i64 a3), (8, bV true)], [(0, some (.row 1 3 (a0.map (encInt .i64))))], 1⟩ [] (by kernel_rfl) trivial ?_
  refine AWp.seq ?_
  refine reg hP hn hm [] [0, 1, 2, 3, 8, 9] [0] ⟨[(0, .own 0), (1, iV .i64 a1), (2, iV .i64 a2), (3, iV .i64 a3), (8, bV true), (9, bV true)], [(0, some (.row 1 3 (a0.map (encInt .i64))))], 1⟩ [] (by kernel_rfl) trivial ?_
  refine AWp.block ?_
  obtain ⟨o3845, e3846, H⟩ := bind_of H
  refine AWp.loop (LWp.conv (inv := [(0, 0)]) (vk := []) (e0 := []) (t := ⟨[(0, .own 0), (1, iV .i64 a1), (2, iV .i64 a2), (3, iV .i64 a3), (8, bV true), (9, bV true)], [(0, some (.row 1 3 (a0.map (encInt .i64))))], 1⟩) (by kernel_rfl) ?_)
  refine LWp.mono (Q := fun e s => (match (generalizing := false) o3845 with | rr => e = .ret ∧ s.floor = 1 ∧ resOf Try.prog Try.f46 s = some (.tup []) ∧ ([(0, s.obj 0)] : List (Nat × Option MObj)) = [(0, some (.row 1 3 (rr.map (encInt .i64))))])) (LWp.cv (withBody (fun body hbody => ?_))) ?_
  · refine f_slices_pdqsortOrdered_int.l0.partial_correctness (f_slices_pdqsortOrdered_int.fu k) (motive := fun x3751 x3752 x3753 x3754 x3755 x3756 o3845 => LWp Γ body (fun e s => ∃ t, Cv Γ s t ∧ (match (generalizing := false) o3845 with | rr => e = .ret ∧ t.floor = 1 ∧ resOf Try.prog Try.f46 t = some (.tup []) ∧ ([(0, t.obj 0)] : List (Nat × Option MObj)) = [(0, some (.row 1 3 (rr.map (encInt .i64))))])) ⟨[(0, .own 0), (1, iV .i64 x3752), (2, iV .i64 x3753), (3, iV .i64 x3754), (8, bV x3755), (9, bV x3756)], [(0, some (.row 1 3 (x3751.map (encInt .i64))))], 1⟩) ?_ _ _ _ _ _ _ _ e3846
    clear H e3846 o3845; intro self ih x3751 x3752 x3753 x3754 x3755 x3756 o3845 H
    subst hbody
    refine LWp.round ?_
    obtain ⟨o3847, e3848, H⟩ := bind_of H
    refine AWp.mono (Q := fun e s => (match (generalizing := false) o3847 with | .inl rr => e = .ret ∧ s.floor = 1 ∧ resOf Try.prog Try.f46 s = some (.tup []) ∧ ([(0, s.obj 0)] : List (Nat × Option MObj)) = [(0, some (.row 1 3 (rr.map (encInt .i64))))] | .inr (x3839, x3840, x3841, x3842, x3843, x3844) => e = .normal ∧ s = ⟨[(0, .own 0), (1, iV .i64 x3840), (2, iV .i64 x3841), (3, iV .i64 x3842), (8, bV x3843), (9, bV x3844)], [(0, some (.row 1 3 (x3839.map (encInt .i64))))], 1⟩)) (AWp.cv ?_) ?_
    · replace H := e3848; clear e3848
      refine AWp.block ?_
      refine AWp.seq ?_
      refine reg hP hn hm [] [0, 1, 2, 3, 8, 9, 10] [0] ⟨[(0, .own 0), (1, iV .i64 x3752), (2, iV .i64 x3753), (3, iV .i64 x3754), (8, bV x3755), (9, bV x3756), (10, iV .i64 (IntKind.i64.wrap (x3753 - x3752)))], [(0, some (.row 1 3 (x3751.map (encInt .i64))))], 1⟩ [] (by kernel_rfl) trivial ?_
      refine AWp.seq ?_
      refine AWp.seq ?_
      refine reg hP hn hm [] [0, 1, 2, 3, 8, 9, 10, 23] [0] ⟨[(0, .own 0), (1, iV .i64 x3752), (2, iV .i64 x3753), (3, iV .i64 x3754), (8, bV x3755), (9, bV x3756), (10, iV .i64 (IntKind.i64.wrap (x3753 - x3752))), (23, bV (decide ((IntKind.i64.wrap (x3753 - x3752)) ≤ (12 : Int))))], [(0, some (.row 1 3 (x3751.map (encInt .i64))))], 1⟩ [] (by kernel_rfl) trivial ?_
      refine AWp.cond (decide ((IntKind.i64.wrap (x3753 - x3752)) ≤ (12 : Int))) rfl (fun c3757 => ?_) (fun c3757 => ?_)
      · replace H := (ifT c3757).symm.trans H
        refine AWp.seq ?_
        obtain ⟨t3760, e3761, H⟩ := bind_of H
        refine reg hP hn hm [(3, .call [(0, 0)] [(0, 0)] [] [] 1 (.tup []) [(0, some (.row 1 3 (t3760.map (encInt .i64))))])] [] [0] ⟨[], [(0, some (.row 1 3 (t3760.map (encInt .i64))))], 1⟩ [Enters Try.prog 67, Pv.Fn Try.prog 67 [.own 0, iV .i64 x3752, iV .i64 x3753] [(0, some (.row 1 3 (x3751.map (encInt .i64))))] 1 (fun r o => r = .tup [] ∧ o = [(0, some (.row 1 3 (t3760.map (encInt .i64))))])] (by kernel_rfl) ⟨by exact Try.call67, by exact f_slices_insertionSortOrdered_int.ok x3751 x3752 x3753 t3760 e3761, trivial⟩ ?_
        refine AWp.conv (inv := [(0, 0)]) (vk := []) (e0 := []) (t := ⟨[], [(0, some (.row 1 3 (t3760.map (encInt .i64))))], 1⟩) (by kernel_rfl) ?_
        refine AWp.ret ?_
        obtain rfl := Option.some.inj H
        exact Exists.intro _ (And.intro (fun _ _ h => h) (And.intro rfl (And.intro rfl (And.intro (by kernel_rfl) (by kernel_rfl)))))
      · replace H := (ifF c3757).symm.trans H
        refine AWp.skip ?_
        refine AWp.seq ?_
        refine AWp.seq ?_
        refine reg hP hn hm [] [0, 1, 2, 3, 8, 9, 10, 29] [0] ⟨[(0, .own 0), (1, iV .i64 x3752), (2, iV .i64 x3753), (3, iV .i64 x3754), (8, bV x3755), (9, bV x3756), (10, iV .i64 (IntKind.i64.wrap (x3753 - x3752))), (29, bV (x3754 == (0 : Int)))], [(0, some (.row 1 3 (x3751.map (encInt .i64))))], 1⟩ [] (by kernel_rfl) trivial ?_
        refine AWp.cond (x3754 == (0 : Int)) rfl (fun c3762 => ?_) (fun c3762 => ?_)
        · replace H := (ifT c3762).symm.trans H
          refine AWp.seq ?_
          obtain ⟨t3765, e3766, H⟩ := bind_of H
          refine reg hP hn hm [(3, .call [(0, 0)] [(0, 0)] [] [] 1 (.tup []) [(0, some (.row 1 3 (t3765.map (encInt .i64))))])] [] [0] ⟨[], [(0, some (.row 1 3 (t3765.map (encInt .i64))))], 1⟩ [Enters Try.prog 68, Pv.Fn Try.prog 68 [.own 0, iV .i64 x3752, iV .i64 x3753] [(0, some (.row 1 3 (x3751.map (encInt .i64))))] 1 (fun r o => r = .tup [] ∧ o = [(0, some (.row 1 3 (t3765.map (encInt .i64))))])] (by kernel_rfl) ⟨by exact Try.call68, by exact f_slices_heapSortOrdered_int.ok x3751 x3752 x3753 t3765 e3766, trivial⟩ ?_
          refine AWp.conv (inv := [(0, 0)]) (vk := []) (e0 := []) (t := ⟨[], [(0, some (.row 1 3 (t3765.map (encInt .i64))))], 1⟩) (by kernel_rfl) ?_
          refine AWp.ret ?_
          obtain rfl := Option.some.inj H
          exact Exists.intro _ (And.intro (fun _ _ h => h) (And.intro rfl (And.intro rfl (And.intro (by kernel_rfl) (by kernel_rfl)))))
        · replace H := (ifF c3762).symm.trans H
          refine AWp.skip ?_
          refine AWp.seq ?_
          refine AWp.seq ?_
          refine reg hP hn hm [] [0, 1, 2, 3, 8, 9, 10, 35] [0] ⟨[(0, .own 0), (1, iV .i64 x3752), (2, iV .i64 x3753), (3, iV .i64 x3754), (8, bV x3755), (9, bV x3756), (10, iV .i64 (IntKind.i64.wrap (x3753 - x3752))), (35, bV (!x3755))], [(0, some (.row 1 3 (x3751.map (encInt .i64))))], 1⟩ [] (by kernel_rfl) trivial ?_
          obtain ⟨o3849, e3850, H⟩ := bind_of H
          refine AWp.mono (Q := fun e s => (match (generalizing := false) o3849 with | (x3772, x3773) => e = .normal ∧ s = ⟨[(0, .own 0), (1, iV .i64 x3752), (2, iV .i64 x3753), (3, iV .i64 x3773), (8, bV x3755), (9, bV x3756), (10, iV .i64 (IntKind.i64.wrap (x3753 - x3752)))], [(0, some (.row 1 3 (x3772.map (encInt .i64))))], 1⟩)) (AWp.cv ?_) ?_
          · replace H := e3850; clear e3850
            refine AWp.cond (!x3755) rfl (fun c3767 => ?_) (fun c3767 => ?_)
            · replace H := (ifT c3767).symm.trans H
              refine AWp.seq ?_
              obtain ⟨t3770, e3771, H⟩ := bind_of H
              refine reg hP hn hm [(3, .call [(0, 0)] [(0, 0)] [] [] 1 (.tup []) [(0, some (.row 1 3 (t3770.map (encInt .i64))))])] [0, 1, 2, 3, 8, 9, 10] [0] ⟨[(0, .own 0), (1, iV .i64 x3752), (2, iV .i64 x3753), (3, iV .i64 x3754), (8, bV x3755), (9, bV x3756), (10, iV .i64 (IntKind.i64.wrap (x3753 - x3752)))], [(0, some (.row 1 3 (t3770.map (encInt .i64))))], 1⟩ [Enters Try.prog 69, Pv.Fn Try.prog 69 [.own 0, iV .i64 x3752, iV .i64 x3753] [(0, some (.row 1 3 (x3751.map (encInt .i64))))] 1 (fun r o => r = .tup [] ∧ o = [(0, some (.row 1 3 (t3770.map (encInt .i64))))])] (by kernel_rfl) ⟨by exact Try.call69, by exact f_slices_breakPatternsOrdered_int.ok x3751 x3752 x3753 t3770 e3771, trivial⟩ ?_
              refine reg hP hn hm [] [0, 1, 2, 3, 8, 9, 10] [0] ⟨[(0, .own 0), (1, iV .i64 x3752), (2, iV .i64 x3753), (3, iV .i64 (IntKind.i64.wrap (x3754 - (1 : Int)))), (8, bV x3755), (9, bV x3756), (10, iV .i64 (IntKind.i64.wrap (x3753 - x3752)))], [(0, some (.row 1 3 (t3770.map (encInt .i64))))], 1⟩ [] (by kernel_rfl) trivial ?_
              obtain rfl := Option.some.inj H
              exact Exists.intro _ (And.intro (fun _ _ h => h.conv (inv := [(0, 0)]) (vk := []) (e0 := []) (t := ⟨[(0, .own 0), (1, iV .i64 x3752), (2, iV .i64 x3753), (3, iV .i64 (IntKind.i64.wrap (x3754 - (1 : Int)))), (8, bV x3755), (9, bV x3756), (10, iV .i64 (IntKind.i64.wrap (x3753 - x3752)))], [(0, some (.row 1 3 (t3770.map (encInt .i64))))], 1⟩) (by kernel_rfl)) (And.intro rfl rfl))
            · replace H := (ifF c3767).symm.trans H
              refine AWp.skip ?_
              obtain rfl := Option.some.inj H
              exact Exists.intro _ (And.intro (fun _ _ h => h.conv (inv := [(0, 0)]) (vk := []) (e0 := []) (t := ⟨[(0, .own 0), (1, iV .i64 x3752), (2, iV .i64 x3753), (3, iV .i64 x3754), (8, bV x3755), (9, bV x3756), (10, iV .i64 (IntKind.i64.wrap (x3753 - x3752)))], [(0, some (.row 1 3 (x3751.map (encInt .i64))))], 1⟩) (by kernel_rfl)) (And.intro rfl rfl))
          · obtain ⟨x3772, x3773⟩ := o3849
            rintro e s ⟨rfl, rfl⟩
            refine AWp.seq ?_
            obtain ⟨t3776, e3777, H⟩ := bind_of H
            refine reg hP hn hm [(3, .call [(0, 0)] [(0, 0)] [] [] 1 (.tup [iV .i64 t3776.1, iV .i64 t3776.2]) [(0, some (.row 1 3 (x3772.map (encInt .i64))))])] [0, 1, 2, 3, 8, 9, 10, 11, 12] [0] ⟨[(0, .own 0), (1, iV .i64 x3752), (2, iV .i64 x3753), (3, iV .i64 x3773), (8, bV x3755), (9, bV x3756), (10, iV .i64 (IntKind.i64.wrap (x3753 - x3752))), (11, iV .i64 t3776.1), (12, iV .i64 t3776.2)], [(0, some (.row 1 3 (x3772.map (encInt .i64))))], 1⟩ [Enters Try.prog 70, Pv.Fn Try.prog 70 [.own 0, iV .i64 x3752, iV .i64 x3753] [(0, some (.row 1 3 (x3772.map (encInt .i64))))] 1 (fun r o => r = .tup [iV .i64 t3776.1, iV .i64 t3776.2] ∧ o = [(0, some (.row 1 3 (x3772.map (encInt .i64))))])] (by kernel_rfl) ⟨by exact Try.call70, by exact f_slices_choosePivotOrdered_int.ok x3772 x3752 x3753 t3776 e3777, trivial⟩ ?_
            refine AWp.seq ?_
            refine AWp.seq ?_
            refine reg hP hn hm [] [0, 1, 2, 3, 8, 9, 10, 11, 12, 50] [0] ⟨[(0, .own 0), (1, iV .i64 x3752), (2, iV .i64 x3753), (3, iV .i64 x3773), (8, bV x3755), (9, bV x3756), (10, iV .i64 (IntKind.i64.wrap (x3753 - x3752))), (11, iV .i64 t3776.1), (12, iV .i64 t3776.2), (50, bV (t3776.2 == (2 : Int)))], [(0, some (.row 1 3 (x3772.map (encInt .i64))))], 1⟩ [] (by kernel_rfl) trivial ?_
            obtain ⟨o3851, e3852, H⟩ := bind_of H
            refine AWp.mono (Q := fun e s => (match (generalizing := false) o3851 with | (x3783, x3784, x3785) => e = .normal ∧ s = ⟨[(0, .own 0), (1, iV .i64 x3752), (2, iV .i64 x3753), (3, iV .i64 x3773), (8, bV x3755), (9, bV x3756), (10, iV .i64 (IntKind.i64.wrap (x3753 - x3752))), (11, iV .i64 x3784), (12, iV .i64 x3785)], [(0, some (.row 1 3 (x3783.map (encInt .i64))))], 1⟩)) (AWp.cv ?_) ?_
            · replace H := e3852; clear e3852
              refine AWp.cond (t3776.2 == (2 : Int)) rfl (fun c3778 => ?_) (fun c3778 => ?_)
              · replace H := (ifT c3778).symm.trans H
                refine AWp.seq ?_
                obtain ⟨t3781, e3782, H⟩ := bind_of H
                refine reg hP hn hm [(3, .call [(0, 0)] [(0, 0)] [] [] 1 (.tup []) [(0, some (.row 1 3 (t3781.map (encInt .i64))))])] [0, 1, 2, 3, 8, 9, 10, 11] [0] ⟨[(0, .own 0), (1, iV .i64 x3752), (2, iV .i64 x3753), (3, iV .i64 x3773), (8, bV x3755), (9, bV x3756), (10, iV .i64 (IntKind.i64.wrap (x3753 - x3752))), (11, iV .i64 t3776.1)], [(0, some (.row 1 3 (t3781.map (encInt .i64))))], 1⟩ [Enters Try.prog 71, Pv.Fn Try.prog 71 [.own 0, iV .i64 x3752, iV .i64 x3753] [(0, some (.row 1 3 (x3772.map (encInt .i64))))] 1 (fun r o => r = .tup [] ∧ o = [(0, some (.row 1 3 (t3781.map (encInt .i64))))])] (by kernel_rfl) ⟨by exact Try.call71, by exact f_slices_reverseRangeOrdered_int.ok x3772 x3752 x3753 t3781 e3782, trivial⟩ ?_
                refine AWp.seq ?_
                refine reg hP hn hm [] [0, 1, 2, 3, 8, 9, 10, 11] [0] ⟨[(0, .own 0), (1, iV .i64 x3752), (2, iV .i64 x3753), (3, iV .i64 x3773), (8, bV x3755), (9, bV x3756), (10, iV .i64 (IntKind.i64.wrap (x3753 - x3752))), (11, iV .i64 (IntKind.i64.wrap ((IntKind.i64.wrap (x3753 - (1 : Int))) - (IntKind.i64.wrap (t3776.1 - x3752)))))], [(0, some (.row 1 3 (t3781.map (encInt .i64))))], 1⟩ [] (by kernel_rfl) trivial ?_
                refine reg hP hn hm [] [0, 1, 2, 3, 8, 9, 10, 11, 12] [0] ⟨[(0, .own 0), (1, iV .i64 x3752), (2, iV .i64 x3753), (3, iV .i64 x3773), (8, bV x3755), (9, bV x3756), (10, iV .i64 (IntKind.i64.wrap (x3753 - x3752))), (11, iV .i64 (IntKind.i64.wrap ((IntKind.i64.wrap (x3753 - (1 : Int))) - (IntKind.i64.wrap (t3776.1 - x3752))))), (12, iV .i64 1)], [(0, some (.row 1 3 (t3781.map (encInt .i64))))], 1⟩ [] (by kernel_rfl) trivial ?_
                obtain rfl := Option.some.inj H
                exact Exists.intro _ (And.intro (fun _ _ h => h.conv (inv := [(0, 0)]) (vk := []) (e0 := []) (t := ⟨[(0, .own 0), (1, iV .i64 x3752), (2, iV .i64 x3753), (3, iV .i64 x3773), (8, bV x3755), (9, bV x3756), (10, iV .i64 (IntKind.i64.wrap (x3753 - x3752))), (11, iV .i64 (IntKind.i64.wrap ((IntKind.i64.wrap (x3753 - (1 : Int))) - (IntKind.i64.wrap (t3776.1 - x3752))))), (12, iV .i64 1)], [(0, some (.row 1 3 (t3781.map (encInt .i64))))], 1⟩) (by kernel_rfl)) (And.intro rfl rfl))
              · replace H := (ifF c3778).symm.trans H
                refine AWp.skip ?_
                obtain rfl := Option.some.inj H
                exact Exists.intro _ (And.intro (fun _ _ h => h.conv (inv := [(0, 0)]) (vk := []) (e0 := []) (t := ⟨[(0, .own 0), (1, iV .i64 x3752), (2, iV .i64 x3753), (3, iV .i64 x3773), (8, bV x3755), (9, bV x3756), (10, iV .i64 (IntKind.i64.wrap (x3753 - x3752))), (11, iV .i64 t3776.1), (12, iV .i64 t3776.2)], [(0, some (.row 1 3 (x3772.map (encInt .i64))))], 1⟩) (by kernel_rfl)) (And.intro rfl rfl))
            · obtain ⟨x3783, x3784, x3785⟩ := o3851
              rintro e s ⟨rfl, rfl⟩
              refine AWp.seq ?_
              refine AWp.seq ?_
              obtain ⟨o3853, e3854, H⟩ := bind_of H
              refine AWp.mono (Q := fun e s => (match (generalizing := false) o3853 with | x3790 => e = .normal ∧ s = ⟨[(0, .own 0), (1, iV .i64 x3752), (2, iV .i64 x3753), (3, iV .i64 x3773), (8, bV x3755), (9, bV x3756), (10, iV .i64 (IntKind.i64.wrap (x3753 - x3752))), (11, iV .i64 x3784), (68, bV x3790)], [(0, some (.row 1 3 (x3783.map (encInt .i64))))], 1⟩)) (AWp.cv ?_) ?_
              · replace H := e3854; clear e3854
                rcases Bool.eq_false_or_eq_true x3755 with c3788 | c3788
                · replace H := (ifT c3788).symm.trans H
                  rcases Bool.eq_false_or_eq_true x3756 with c3789 | c3789
                  · replace H := (ifT c3789).symm.trans H
                    refine reg hP hn hm [(1, .b true), (4, .b true)] [0, 1, 2, 3, 8, 9, 10, 11, 63, 66, 67, 68] [0] ⟨[(0, .own 0), (1, iV .i64 x3752), (2, iV .i64 x3753), (3, iV .i64 x3773), (8, bV x3755), (9, bV x3756), (10, iV .i64 (IntKind.i64.wrap (x3753 - x3752))), (11, iV .i64 x3784), (63, bV x3756), (66, iV .i64 x3785), (67, bV (x3785 == (1 : Int))), (68, bV (x3785 == (1 : Int)))], [(0, some (.row 1 3 (x3783.map (encInt .i64))))], 1⟩ [x3755 = true, x3756 = true] (by kernel_rfl) ⟨by exact c3788, by exact c3789, trivial⟩ ?_
                    obtain rfl := Option.some.inj H
                    exact Exists.intro _ (And.intro (fun _ _ h => h.conv (inv := [(0, 0)]) (vk := []) (e0 := []) (t := ⟨[(0, .own 0), (1, iV .i64 x3752), (2, iV .i64 x3753), (3, iV .i64 x3773), (8, bV x3755), (9, bV x3756), (10, iV .i64 (IntKind.i64.wrap (x3753 - x3752))), (11, iV .i64 x3784), (68, bV (x3785 == (1 : Int)))], [(0, some (.row 1 3 (x3783.map (encInt .i64))))], 1⟩) (by kernel_rfl)) (And.intro rfl rfl))
                  · replace H := (ifF c3789).symm.trans H
                    refine reg hP hn hm [(1, .b true), (4, .b false)] [0, 1, 2, 3, 8, 9, 10, 11, 63, 68] [0] ⟨[(0, .own 0), (1, iV .i64 x3752), (2, iV .i64 x3753), (3, iV .i64 x3773), (8, bV x3755), (9, bV x3756), (10, iV .i64 (IntKind.i64.wrap (x3753 - x3752))), (11, iV .i64 x3784), (63, bV x3756), (68, bV false)], [(0, some (.row 1 3 (x3783.map (encInt .i64))))], 1⟩ [x3755 = true, x3756 = false] (by kernel_rfl) ⟨by exact c3788, by exact c3789, trivial⟩ ?_
                    obtain rfl := Option.some.inj H
                    exact Exists.intro _ (And.intro (fun _ _ h => h.conv (inv := [(0, 0)]) (vk := []) (e0 := []) (t := ⟨[(0, .own 0), (1, iV .i64 x3752), (2, iV .i64 x3753), (3, iV .i64 x3773), (8, bV x3755), (9, bV x3756), (10, iV .i64 (IntKind.i64.wrap (x3753 - x3752))), (11, iV .i64 x3784), (68, bV false)], [(0, some (.row 1 3 (x3783.map (encInt .i64))))], 1⟩) (by kernel_rfl)) (And.intro rfl rfl))
                · replace H := (ifF c3788).symm.trans H
                  refine reg hP hn hm [(1, .b false)] [0, 1, 2, 3, 8, 9, 10, 11, 68] [0] ⟨[(0, .own 0), (1, iV .i64 x3752), (2, iV .i64 x3753), (3, iV .i64 x3773), (8, bV x3755), (9, bV x3756), (10, iV .i64 (IntKind.i64.wrap (x3753 - x3752))), (11, iV .i64 x3784), (68, bV false)], [(0, some (.row 1 3 (x3783.map (encInt .i64))))], 1⟩ [x3755 = false] (by kernel_rfl) ⟨by exact c3788, trivial⟩ ?_
                  obtain rfl := Option.some.inj H
                  exact Exists.intro _ (And.intro (fun _ _ h => h.conv (inv := [(0, 0)]) (vk := []) (e0 := []) (t := ⟨[(0, .own 0), (1, iV .i64 x3752), (2, iV .i64 x3753), (3, iV .i64 x3773), (8, bV x3755), (9, bV x3756), (10, iV .i64 (IntKind.i64.wrap (x3753 - x3752))), (11, iV .i64 x3784), (68, bV false)], [(0, some (.row 1 3 (x3783.map (encInt .i64))))], 1⟩) (by kernel_rfl)) (And.intro rfl rfl))
              · obtain ⟨x3790, rfl⟩ : ∃ z, z = o3853 := ⟨_, rfl⟩
                rintro e s ⟨rfl, rfl⟩
                obtain ⟨o3855, e3856, H⟩ := bind_of H
                refine AWp.mono (Q := fun e s => (match (generalizing := false) o3855 with | .inl rr => e = .ret ∧ s.floor = 1 ∧ resOf Try.prog Try.f46 s = some (.tup []) ∧ ([(0, s.obj 0)] : List (Nat × Option MObj)) = [(0, some (.row 1 3 (rr.map (encInt .i64))))] | .inr x3797 => e = .normal ∧ s = ⟨[(0, .own 0), (1, iV .i64 x3752), (2, iV .i64 x3753), (3, iV .i64 x3773), (8, bV x3755), (9, bV x3756), (10, iV .i64 (IntKind.i64.wrap (x3753 - x3752))), (11, iV .i64 x3784)], [(0, some (.row 1 3 (x3797.map (encInt .i64))))], 1⟩)) (AWp.cv ?_) ?_
                · replace H := e3856; clear e3856
                  refine AWp.cond x3790 rfl (fun c3791 => ?_) (fun c3791 => ?_)
                  · replace H := (ifT c3791).symm.trans H
                    refine AWp.seq ?_
                    obtain ⟨t3794, e3795, H⟩ := bind_of H
                    refine reg hP hn hm [(3, .call [(0, 0)] [(0, 0)] [] [] 1 (bV t3794.1) [(0, some (.row 1 3 (t3794.2.map (encInt .i64))))])] [0, 1, 2, 3, 8, 9, 10, 11, 72] [0] ⟨[(0, .own 0), (1, iV .i64 x3752), (2, iV .i64 x3753), (3, iV .i64 x3773), (8, bV x3755), (9, bV x3756), (10, iV .i64 (IntKind.i64.wrap (x3753 - x3752))), (11, iV .i64 x3784), (72, bV t3794.1)], [(0, some (.row 1 3 (t3794.2.map (encInt .i64))))], 1⟩ [Enters Try.prog 72, Pv.Fn Try.prog 72 [.own 0, iV .i64 x3752, iV .i64 x3753] [(0, some (.row 1 3 (x3783.map (encInt .i64))))] 1 (fun r o => r = bV t3794.1 ∧ o = [(0, some (.row 1 3 (t3794.2.map (encInt .i64))))])] (by kernel_rfl) ⟨by exact Try.call72, by exact f_slices_partialInsertionSortOrdered_int.ok x3783 x3752 x3753 t3794 e3795, trivial⟩ ?_
                    refine AWp.cond t3794.1 rfl (fun c3796 => ?_) (fun c3796 => ?_)
                    · replace H := (ifT c3796).symm.trans H
                      refine AWp.conv (inv := [(0, 0)]) (vk := []) (e0 := []) (t := ⟨[], [(0, some (.row 1 3 (t3794.2.map (encInt .i64))))], 1⟩) (by kernel_rfl) ?_
                      refine AWp.ret ?_
                      obtain rfl := Option.some.inj H
                      exact Exists.intro _ (And.intro (fun _ _ h => h) (And.intro rfl (And.intro rfl (And.intro (by kernel_rfl) (by kernel_rfl)))))
                    · replace H := (ifF c3796).symm.trans H
                      refine AWp.skip ?_
                      obtain rfl := Option.some.inj H
                      exact Exists.intro _ (And.intro (fun _ _ h => h.conv (inv := [(0, 0)]) (vk := []) (e0 := []) (t := ⟨[(0, .own 0), (1, iV .i64 x3752), (2, iV .i64 x3753), (3, iV .i64 x3773), (8, bV x3755), (9, bV x3756), (10, iV .i64 (IntKind.i64.wrap (x3753 - x3752))), (11, iV .i64 x3784)], [(0, some (.row 1 3 (t3794.2.map (encInt .i64))))], 1⟩) (by kernel_rfl)) (And.intro rfl rfl))
                  · replace H := (ifF c3791).symm.trans H
                    refine AWp.skip ?_
                    obtain rfl := Option.some.inj H
                    exact Exists.intro _ (And.intro (fun _ _ h => h.conv (inv := [(0, 0)]) (vk := []) (e0 := []) (t := ⟨[(0, .own 0), (1, iV .i64 x3752), (2, iV .i64 x3753), (3, iV .i64 x3773), (8, bV x3755), (9, bV x3756), (10, iV .i64 (IntKind.i64.wrap (x3753 - x3752))), (11, iV .i64 x3784)], [(0, some (.row 1 3 (x3783.map (encInt .i64))))], 1⟩) (by kernel_rfl)) (And.intro rfl rfl))
                · rcases o3855 with rr | x3797
                  · skip
                    rintro e s ⟨rfl, hfl, hres⟩
                    obtain rfl := Option.some.inj H
                    exact Exists.intro _ (And.intro (fun _ _ h => h) (And.intro rfl (And.intro hfl hres)))
                  · skip
                    rintro e s ⟨rfl, rfl⟩
                    refine AWp.seq ?_
                    refine AWp.seq ?_
                    obtain ⟨o3857, e3858, H⟩ := bind_of H
                    refine AWp.mono (Q := fun e s => (match (generalizing := false) o3857 with | x3816 => e = .normal ∧ s = ⟨[(0, .own 0), (1, iV .i64 x3752), (2, iV .i64 x3753), (3, iV .i64 x3773), (8, bV x3755), (9, bV x3756), (10, iV .i64 (IntKind.i64.wrap (x3753 - x3752))), (11, iV .i64 x3784), (87, bV x3816)], [(0, some (.row 1 3 (x3797.map (encInt .i64))))], 1⟩)) (AWp.cv ?_) ?_
                    · replace H := e3858; clear e3858
                      rcases Bool.eq_false_or_eq_true (decide (x3752 > (0 : Int))) with c3807 | c3807
                      · replace H := (ifT c3807).symm.trans H
                        obtain ⟨b3808, p3809, q3810, H⟩ := at_of H
                        obtain ⟨b3811, p3812, q3813, H⟩ := at_of H
                        obtain ⟨t3814, e3815, H⟩ := bind_of H
                        refine reg hP hn hm [(2, .b true), (7, .c ((encInt .i64) b3808)), (11, .c ((encInt .i64) b3811)), (12, .call [] [] [] [] 0 (bV t3814) [])] [0, 1, 2, 3, 8, 9, 10, 11, 76, 77, 78, 79, 80, 81, 82, 83, 84, 85, 86, 87] [0] ⟨[(0, .own 0), (1, iV .i64 x3752), (2, iV .i64 x3753), (3, iV .i64 x3773), (8, bV x3755), (9, bV x3756), (10, iV .i64 (IntKind.i64.wrap (x3753 - x3752))), (11, iV .i64 x3784), (76, .own 0), (77, iV .i64 x3752), (78, iV .i64 (IntKind.i64.wrap (x3752 - (1 : Int)))), (79, .ptr 0 (Int.toNat (IntKind.i64.wrap (x3752 - (1 : Int)))) 0), (80, iV .i64 b3808), (81, .own 0), (82, iV .i64 x3784), (83, .ptr 0 (Int.toNat (x3784)) 0), (84, iV .i64 b3811), (85, bV t3814), (86, bV (!t3814)), (87, bV (!t3814))], [(0, some (.row 1 3 (x3797.map (encInt .i64))))], 1⟩ [(decide (x3752 > (0 : Int))) = true, 0 ≤ (IntKind.i64.wrap (x3752 - (1 : Int))), IntKind.i64.wrap (x3752 - (1 : Int)) < (((x3797.map (encInt .i64)).length : Nat) : Int), (x3797.map (encInt .i64))[(Int.toNat (IntKind.i64.wrap (x3752 - (1 : Int))))]? = some ((encInt .i64) b3808), 0 ≤ x3784, x3784 < (((x3797.map (encInt .i64)).length : Nat) : Int), (x3797.map (encInt .i64))[(Int.toNat (x3784))]? = some ((encInt .i64) b3811), Enters Try.prog 73, Pv.Fn Try.prog 73 [iV .i64 b3808, iV .i64 b3811] [] 0 (fun r o => r = bV t3814 ∧ o = [])] (by kernel_rfl) ⟨by exact c3807, by exact p3809, by exact el_lt (encInt .i64) p3809 q3810, by exact el_map (encInt .i64) q3810, by exact p3812, by exact el_lt (encInt .i64) p3812 q3813, by exact el_map (encInt .i64) q3813, by exact Try.call73, by exact f_cmp_Less_int.ok b3808 b3811 t3814 e3815, trivial⟩ ?_
                        obtain rfl := Option.some.inj H
                        exact Exists.intro _ (And.intro (fun _ _ h => h.conv (inv := [(0, 0)]) (vk := []) (e0 := []) (t := ⟨[(0, .own 0), (1, iV .i64 x3752), (2, iV .i64 x3753), (3, iV .i64 x3773), (8, bV x3755), (9, bV x3756), (10, iV .i64 (IntKind.i64.wrap (x3753 - x3752))), (11, iV .i64 x3784), (87, bV (!t3814))], [(0, some (.row 1 3 (x3797.map (encInt .i64))))], 1⟩) (by kernel_rfl)) (And.intro rfl rfl))
                      · replace H := (ifF c3807).symm.trans H
                        refine reg hP hn hm [(2, .b false)] [0, 1, 2, 3, 8, 9, 10, 11, 87] [0] ⟨[(0, .own 0), (1, iV .i64 x3752), (2, iV .i64 x3753), (3, iV .i64 x3773), (8, bV x3755), (9, bV x3756), (10, iV .i64 (IntKind.i64.wrap (x3753 - x3752))), (11, iV .i64 x3784), (87, bV false)], [(0, some (.row 1 3 (x3797.map (encInt .i64))))], 1⟩ [(decide (x3752 > (0 : Int))) = false] (by kernel_rfl) ⟨by exact c3807, trivial⟩ ?_
                        obtain rfl := Option.some.inj H
                        exact Exists.intro _ (And.intro (fun _ _ h => h.conv (inv := [(0, 0)]) (vk := []) (e0 := []) (t := ⟨[(0, .own 0), (1, iV .i64 x3752), (2, iV .i64 x3753), (3, iV .i64 x3773), (8, bV x3755), (9, bV x3756), (10, iV .i64 (IntKind.i64.wrap (x3753 - x3752))), (11, iV .i64 x3784), (87, bV false)], [(0, some (.row 1 3 (x3797.map (encInt .i64))))], 1⟩) (by kernel_rfl)) (And.intro rfl rfl))
                    · obtain ⟨x3816, rfl⟩ : ∃ z, z = o3857 := ⟨_, rfl⟩
                      rintro e s ⟨rfl, rfl⟩
                      refine AWp.cond x3816 rfl (fun c3817 => ?_) (fun c3817 => ?_)
                      · replace H := (ifT c3817).symm.trans H
                        refine AWp.seq ?_
                        obtain ⟨t3820, e3821, H⟩ := bind_of H
                        refine reg hP hn hm [(4, .call [(0, 0)] [(0, 0)] [] [] 1 (iV .i64 t3820.1) [(0, some (.row 1 3 (t3820.2.map (encInt .i64))))])] [0, 2, 3, 8, 9, 13] [0] ⟨[(0, .own 0), (2, iV .i64 x3753), (3, iV .i64 x3773), (8, bV x3755), (9, bV x3756), (13, iV .i64 t3820.1)], [(0, some (.row 1 3 (t3820.2.map (encInt .i64))))], 1⟩ [Enters Try.prog 74, Pv.Fn Try.prog 74 [.own 0, iV .i64 x3752, iV .i64 x3753, iV .i64 x3784] [(0, some (.row 1 3 (x3797.map (encInt .i64))))] 1 (fun r o => r = iV .i64 t3820.1 ∧ o = [(0, some (.row 1 3 (t3820.2.map (encInt .i64))))])] (by kernel_rfl) ⟨by exact Try.call74, by exact f_slices_partitionEqualOrdered_int.ok x3797 x3752 x3753 x3784 t3820 e3821, trivial⟩ ?_
                        refine AWp.seq ?_
                        refine reg hP hn hm [] [0, 1, 2, 3, 8, 9] [0] ⟨[(0, .own 0), (1, iV .i64 t3820.1), (2, iV .i64 x3753), (3, iV .i64 x3773), (8, bV x3755), (9, bV x3756)], [(0, some (.row 1 3 (t3820.2.map (encInt .i64))))], 1⟩ [] (by kernel_rfl) trivial ?_
                        refine AWp.exit ?_
                        obtain rfl := Option.some.inj H
                        exact Exists.intro _ (And.intro (fun _ _ h => h.conv (inv := [(0, 0)]) (vk := []) (e0 := []) (t := ⟨[(0, .own 0), (1, iV .i64 t3820.1), (2, iV .i64 x3753), (3, iV .i64 x3773), (8, bV x3755), (9, bV x3756)], [(0, some (.row 1 3 (t3820.2.map (encInt .i64))))], 1⟩) (by kernel_rfl)) (And.intro rfl rfl))
                      · replace H := (ifF c3817).symm.trans H
                        refine AWp.skip ?_
                        refine AWp.seq ?_
                        obtain ⟨t3824, e3825, H⟩ := bind_of H
                        refine reg hP hn hm [(4, .call [(0, 0)] [(0, 0)] [] [] 1 (.tup [iV .i64 t3824.1, bV t3824.2.1]) [(0, some (.row 1 3 (t3824.2.2.map (encInt .i64))))])] [0, 1, 2, 3, 10, 14, 15] [0] ⟨[(0, .own 0), (1, iV .i64 x3752), (2, iV .i64 x3753), (3, iV .i64 x3773), (10, iV .i64 (IntKind.i64.wrap (x3753 - x3752))), (14, iV .i64 t3824.1), (15, bV t3824.2.1)], [(0, some (.row 1 3 (t3824.2.2.map (encInt .i64))))], 1⟩ [Enters Try.prog 75, Pv.Fn Try.prog 75 [.own 0, iV .i64 x3752, iV .i64 x3753, iV .i64 x3784] [(0, some (.row 1 3 (x3797.map (encInt .i64))))] 1 (fun r o => r = .tup [iV .i64 t3824.1, bV t3824.2.1] ∧ o = [(0, some (.row 1 3 (t3824.2.2.map (encInt .i64))))])] (by kernel_rfl) ⟨by exact Try.call75, by exact f_slices_partitionOrdered_int.ok x3797 x3752 x3753 x3784 t3824 e3825, trivial⟩ ?_
                        refine AWp.seq ?_
                        refine reg hP hn hm [] [0, 1, 2, 3, 9, 10, 14] [0] ⟨[(0, .own 0), (1, iV .i64 x3752), (2, iV .i64 x3753), (3, iV .i64 x3773), (9, bV t3824.2.1), (10, iV .i64 (IntKind.i64.wrap (x3753 - x3752))), (14, iV .i64 t3824.1)], [(0, some (.row 1 3 (t3824.2.2.map (encInt .i64))))], 1⟩ [] (by kernel_rfl) trivial ?_
                        refine AWp.seq ?_
                        refine reg hP hn hm [] [0, 1, 2, 3, 9, 10, 14, 16, 17] [0] ⟨[(0, .own 0), (1, iV .i64 x3752), (2, iV .i64 x3753), (3, iV .i64 x3773), (9, bV t3824.2.1), (10, iV .i64 (IntKind.i64.wrap (x3753 - x3752))), (14, iV .i64 t3824.1), (16, iV .i64 (IntKind.i64.wrap (t3824.1 - x3752))), (17, iV .i64 (IntKind.i64.wrap (x3753 - t3824.1)))], [(0, some (.row 1 3 (t3824.2.2.map (encInt .i64))))], 1⟩ [] (by kernel_rfl) trivial ?_
                        refine AWp.seq ?_
                        refine reg hP hn hm [] [0, 1, 2, 3, 9, 14, 16, 17, 18] [0] ⟨[(0, .own 0), (1, iV .i64 x3752), (2, iV .i64 x3753), (3, iV .i64 x3773), (9, bV t3824.2.1), (14, iV .i64 t3824.1), (16, iV .i64 (IntKind.i64.wrap (t3824.1 - x3752))), (17, iV .i64 (IntKind.i64.wrap (x3753 - t3824.1))), (18, iV .i64 (IntKind.i64.wrap (Int.tdiv (IntKind.i64.wrap (x3753 - x3752)) (8 : Int))))], [(0, some (.row 1 3 (t3824.2.2.map (encInt .i64))))], 1⟩ [(8 : Int) ≠ 0] (by kernel_rfl) ⟨by decide, trivial⟩ ?_
                        refine AWp.seq ?_
                        refine reg hP hn hm [] [0, 1, 2, 3, 9, 14, 16, 17, 18, 113] [0] ⟨[(0, .own 0), (1, iV .i64 x3752), (2, iV .i64 x3753), (3, iV .i64 x3773), (9, bV t3824.2.1), (14, iV .i64 t3824.1), (16, iV .i64 (IntKind.i64.wrap (t3824.1 - x3752))), (17, iV .i64 (IntKind.i64.wrap (x3753 - t3824.1))), (18, iV .i64 (IntKind.i64.wrap (Int.tdiv (IntKind.i64.wrap (x3753 - x3752)) (8 : Int)))), (113, bV (decide ((IntKind.i64.wrap (t3824.1 - x3752)) < (IntKind.i64.wrap (x3753 - t3824.1)))))], [(0, some (.row 1 3 (t3824.2.2.map (encInt .i64))))], 1⟩ [] (by kernel_rfl) trivial ?_
                        obtain ⟨o3859, e3860, H⟩ := bind_of H
                        refine AWp.mono (Q := fun e s => (match (generalizing := false) o3859 with | (x3835, x3836, x3837, x3838) => e = .normal ∧ s = ⟨[(0, .own 0), (1, iV .i64 x3836), (2, iV .i64 x3837), (3, iV .i64 x3773), (8, bV x3838), (9, bV t3824.2.1)], [(0, some (.row 1 3 (x3835.map (encInt .i64))))], 1⟩)) (AWp.cv ?_) ?_
                        · replace H := e3860; clear e3860
                          refine AWp.cond (decide ((IntKind.i64.wrap (t3824.1 - x3752)) < (IntKind.i64.wrap (x3753 - t3824.1)))) rfl (fun c3826 => ?_) (fun c3826 => ?_)
                          · replace H := (ifT c3826).symm.trans H
                            refine AWp.seq ?_
                            refine reg hP hn hm [] [0, 1, 2, 3, 8, 9, 14] [0] ⟨[(0, .own 0), (1, iV .i64 x3752), (2, iV .i64 x3753), (3, iV .i64 x3773), (8, bV (decide ((IntKind.i64.wrap (t3824.1 - x3752)) ≥ (IntKind.i64.wrap (Int.tdiv (IntKind.i64.wrap (x3753 - x3752)) (8 : Int)))))), (9, bV t3824.2.1), (14, iV .i64 t3824.1)], [(0, some (.row 1 3 (t3824.2.2.map (encInt .i64))))], 1⟩ [] (by kernel_rfl) trivial ?_
                            refine AWp.seq ?_
                            obtain ⟨t3829, e3830, H⟩ := bind_of H
                            refine reg hP hn hm [(4, .call [(0, 0)] [(0, 0)] [] [] 1 (.tup []) [(0, some (.row 1 3 (t3829.map (encInt .i64))))])] [0, 2, 3, 8, 9, 14] [0] ⟨[(0, .own 0), (2, iV .i64 x3753), (3, iV .i64 x3773), (8, bV (decide ((IntKind.i64.wrap (t3824.1 - x3752)) ≥ (IntKind.i64.wrap (Int.tdiv (IntKind.i64.wrap (x3753 - x3752)) (8 : Int)))))), (9, bV t3824.2.1), (14, iV .i64 t3824.1)], [(0, some (.row 1 3 (t3829.map (encInt .i64))))], 1⟩ [Enters Try.prog 46, Pv.Fn Try.prog 46 [.own 0, iV .i64 x3752, iV .i64 t3824.1, iV .i64 x3773] [(0, some (.row 1 3 (t3824.2.2.map (encInt .i64))))] 1 (fun r o => r = .tup [] ∧ o = [(0, some (.row 1 3 (t3829.map (encInt .i64))))])] (by kernel_rfl) ⟨by exact Try.call46, by exact ihF t3824.2.2 x3752 t3824.1 x3773 _ e3830, trivial⟩ ?_
                            refine reg hP hn hm [] [0, 1, 2, 3, 8, 9] [0] ⟨[(0, .own 0), (1, iV .i64 (IntKind.i64.wrap (t3824.1 + (1 : Int)))), (2, iV .i64 x3753), (3, iV .i64 x3773), (8, bV (decide ((IntKind.i64.wrap (t3824.1 - x3752)) ≥ (IntKind.i64.wrap (Int.tdiv (IntKind.i64.wrap (x3753 - x3752)) (8 : Int)))))), (9, bV t3824.2.1)], [(0, some (.row 1 3 (t3829.map (encInt .i64))))], 1⟩ [] (by kernel_rfl) trivial ?_
                            obtain rfl := Option.some.inj H
                            exact Exists.intro _ (And.intro (fun _ _ h => h.conv (inv := [(0, 0)]) (vk := []) (e0 := []) (t := ⟨[(0, .own 0), (1, iV .i64 (IntKind.i64.wrap (t3824.1 + (1 : Int)))), (2, iV .i64 x3753), (3, iV .i64 x3773), (8, bV (decide ((IntKind.i64.wrap (t3824.1 - x3752)) ≥ (IntKind.i64.wrap (Int.tdiv (IntKind.i64.wrap (x3753 - x3752)) (8 : Int)))))), (9, bV t3824.2.1)], [(0, some (.row 1 3 (t3829.map (encInt .i64))))], 1⟩) (by kernel_rfl)) (And.intro rfl rfl))
                          · replace H := (ifF c3826).symm.trans H
                            refine AWp.seq ?_
                            refine reg hP hn hm [] [0, 1, 2, 3, 8, 9, 14] [0] ⟨[(0, .own 0), (1, iV .i64 x3752), (2, iV .i64 x3753), (3, iV .i64 x3773), (8, bV (decide ((IntKind.i64.wrap (x3753 - t3824.1)) ≥ (IntKind.i64.wrap (Int.tdiv (IntKind.i64.wrap (x3753 - x3752)) (8 : Int)))))), (9, bV t3824.2.1), (14, iV .i64 t3824.1)], [(0, some (.row 1 3 (t3824.2.2.map (encInt .i64))))], 1⟩ [] (by kernel_rfl) trivial ?_
                            refine AWp.seq ?_
                            obtain ⟨t3833, e3834, H⟩ := bind_of H
                            refine reg hP hn hm [(5, .call [(0, 0)] [(0, 0)] [] [] 1 (.tup []) [(0, some (.row 1 3 (t3833.map (encInt .i64))))])] [0, 1, 3, 8, 9, 14] [0] ⟨[(0, .own 0), (1, iV .i64 x3752), (3, iV .i64 x3773), (8, bV (decide ((IntKind.i64.wrap (x3753 - t3824.1)) ≥ (IntKind.i64.wrap (Int.tdiv (IntKind.i64.wrap (x3753 - x3752)) (8 : Int)))))), (9, bV t3824.2.1), (14, iV .i64 t3824.1)], [(0, some (.row 1 3 (t3833.map (encInt .i64))))], 1⟩ [Enters Try.prog 46, Pv.Fn Try.prog 46 [.own 0, iV .i64 (IntKind.i64.wrap (t3824.1 + (1 : Int))), iV .i64 x3753, iV .i64 x3773] [(0, some (.row 1 3 (t3824.2.2.map (encInt .i64))))] 1 (fun r o => r = .tup [] ∧ o = [(0, some (.row 1 3 (t3833.map (encInt .i64))))])] (by kernel_rfl) ⟨by exact Try.call46, by exact ihF t3824.2.2 (IntKind.i64.wrap (t3824.1 + (1 : Int))) x3753 x3773 _ e3834, trivial⟩ ?_
                            refine reg hP hn hm [] [0, 1, 2, 3, 8, 9] [0] ⟨[(0, .own 0), (1, iV .i64 x3752), (2, iV .i64 t3824.1), (3, iV .i64 x3773), (8, bV (decide ((IntKind.i64.wrap (x3753 - t3824.1)) ≥ (IntKind.i64.wrap (Int.tdiv (IntKind.i64.wrap (x3753 - x3752)) (8 : Int)))))), (9, bV t3824.2.1)], [(0, some (.row 1 3 (t3833.map (encInt .i64))))], 1⟩ [] (by kernel_rfl) trivial ?_
                            obtain rfl := Option.some.inj H
                            exact Exists.intro _ (And.intro (fun _ _ h => h.conv (inv := [(0, 0)]) (vk := []) (e0 := []) (t := ⟨[(0, .own 0), (1, iV .i64 x3752), (2, iV .i64 t3824.1), (3, iV .i64 x3773), (8, bV (decide ((IntKind.i64.wrap (x3753 - t3824.1)) ≥ (IntKind.i64.wrap (Int.tdiv (IntKind.i64.wrap (x3753 - x3752)) (8 : Int)))))), (9, bV t3824.2.1)], [(0, some (.row 1 3 (t3833.map (encInt .i64))))], 1⟩) (by kernel_rfl)) (And.intro rfl rfl))
                        · obtain ⟨x3835, x3836, x3837, x3838⟩ := o3859
                          rintro e s ⟨rfl, rfl⟩
                          obtain rfl := Option.some.inj H
                          exact Exists.intro _ (And.intro (fun _ _ h => h.conv (inv := [(0, 0)]) (vk := []) (e0 := []) (t := ⟨[(0, .own 0), (1, iV .i64 x3836), (2, iV .i64 x3837), (3, iV .i64 x3773), (8, bV x3838), (9, bV t3824.2.1)], [(0, some (.row 1 3 (x3835.map (encInt .i64))))], 1⟩) (by kernel_rfl)) (And.intro rfl rfl))
    · rcases o3847 with rr | ⟨x3839, x3840, x3841, x3842, x3843, x3844⟩
      · skip
        rintro e s ⟨rfl, hfl, hres⟩
        obtain rfl := Option.some.inj H
        exact Exists.intro _ (And.intro (fun _ _ h => h) (And.intro rfl (And.intro hfl hres)))
      · skip
        rintro e s ⟨rfl, rfl⟩
        exact LWp.conv (inv := [(0, 0)]) (vk := []) (e0 := []) (t := ⟨[(0, .own 0), (1, iV .i64 x3840), (2, iV .i64 x3841), (3, iV .i64 x3842), (8, bV x3843), (9, bV x3844)], [(0, some (.row 1 3 (x3839.map (encInt .i64))))], 1⟩) (by kernel_rfl) (ih _ _ _ _ _ _ _ H)
  · obtain ⟨rr, rfl⟩ : ∃ z, z = o3845 := ⟨_, rfl⟩
    rintro e s ⟨rfl, hfl, hres⟩
    obtain rfl := Option.some.inj H
    exact Exists.intro _ (And.intro (fun _ _ h => h) (And.intro (.inl rfl) (And.intro hfl hres)))
theorem f_slices_pdqsortOrdered_int.ok (a0 : List Int) (a1 : Int) (a2 : Int) (a3 : Int) (r : List Int) (H : f_slices_pdqsortOrdered_int.f a0 a1 a2 a3 = some r) : Pv.Fn Try.prog 46 [.own 0, iV .i64 a1, iV .i64 a2, iV .i64 a3] [(0, some (.row 1 3 (a0.map (encInt .i64))))] 1 (fun x o => x = .tup [] ∧ o = [(0, some (.row 1 3 (r.map (encInt .i64))))]) := f_slices_pdqsortOrdered_int.oku 100 a0 a1 a2 a3 r H
def f_slices_Sort_int.f (a0 : List Int) : Option (List Int) := (f_bits_Len.f (IntKind.u64.wrap ((a0.length : Int)))) >>= fun t3863 => (f_slices_pdqsortOrdered_int.f a0 0 (a0.length : Int) t3863) >>= fun t3865 => some t3865
theorem f_slices_Sort_int.ok (a0 : List Int) (r : List Int) (H : f_slices_Sort_int.f a0 = some r) : Pv.Fn Try.prog 34 [.own 0] [(0, some (.row 1 3 (a0.map (encInt .i64))))] 1 (fun x o => x = .tup [] ∧ o = [(0, some (.row 1 3 (r.map (encInt .i64))))]) := by
  unfold f_slices_Sort_int.f at H
  refine Fn.bodyK [0] Try.func34 rfl rfl (fun Γ hP hn => ?_)
  have hm : Try.prog.follows .mixedOrders = true := by kernel_rfl
  replace hn : Γ.n = 11 := hn
  refine AWp.seq ?_
  refine reg hP hn hm [(1, .any (iV .i64 (a0.length : Int)))] [0, 2] [0] ⟨[(0, .own 0), (2, iV .i64 (a0.length : Int))], [(0, some (.row 1 3 (a0.map (encInt .i64))))], 1⟩ [((a0.map (encInt .i64)).length : Int) = (a0.length : Int)] (by kernel_rfl) ⟨by rw [len_map], trivial⟩ ?_
  obtain ⟨t3863, e3864, H⟩ := bind_of H
  obtain ⟨t3865, e3866, H⟩ := bind_of H
  refine reg hP hn hm [(4, .call [] [] [] [] 0 (iV .i64 t3863) []), (5, .call [(0, 0)] [(0, 0)] [] [] 1 (.tup []) [(0, some (.row 1 3 (t3865.map (encInt .i64))))])] [] [0] ⟨[], [(0, some (.row 1 3 (t3865.map (encInt .i64))))], 1⟩ [Enters Try.prog 47, Pv.Fn Try.prog 47 [iV .u64 (IntKind.u64.wrap ((a0.length : Int)))] [] 0 (fun r o => r = iV .i64 t3863 ∧ o = []), Enters Try.prog 46, Pv.Fn Try.prog 46 [.own 0, iV .i64 0, iV .i64 (a0.length : Int), iV .i64 t3863] [(0, some (.row 1 3 (a0.map (encInt .i64))))] 1 (fun r o => r = .tup [] ∧ o = [(0, some (.row 1 3 (t3865.map (encInt .i64))))])] (by kernel_rfl) ⟨by exact Try.call47, by exact f_bits_Len.ok (IntKind.u64.wrap ((a0.length : Int))) t3863 e3864, by exact Try.call46, by exact f_slices_pdqsortOrdered_int.ok a0 0 (a0.length : Int) t3863 t3865 e3866, trivial⟩ ?_
  obtain rfl := Option.some.inj H
  exact Exists.intro ⟨[], [(0, some (.row 1 3 (t3865.map (encInt .i64))))], 1⟩ (And.intro (fun _ _ h => h.conv (inv := [(0, 0)]) (vk := []) (e0 := []) (t := ⟨[], [(0, some (.row 1 3 (t3865.map (encInt .i64))))], 1⟩) (by kernel_rfl)) (And.intro (.inr rfl) (And.intro rfl (And.intro (by kernel_rfl) (by kernel_rfl)))))
end Go.Proofs.Ytfkppdcfgmgllaa.PvGD2
