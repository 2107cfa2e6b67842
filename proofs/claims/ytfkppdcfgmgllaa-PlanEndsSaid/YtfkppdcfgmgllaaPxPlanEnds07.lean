import Derived.Test.YtfkppdcfgmgllaaProg
import Derived.Test.YtfkppdcfgmgllaaPxPlanEnds06
set_option linter.unusedVariables false
set_option linter.unnecessarySimpa false
set_option linter.unusedSimpArgs false
set_option maxRecDepth 10000
namespace Go.Proofs.Ytfkppdcfgmgllaa.PvGD1
open Go Go.Pv
def f_slices_choosePivotOrdered_int.f (a0 : List Int) (a1 : Int) (a2 : Int) : Option (Int × Int) := ((if (decide ((IntKind.i64.wrap (a2 - a1)) ≥ (8 : Int))) = true then (((if (decide ((IntKind.i64.wrap (a2 - a1)) ≥ (50 : Int))) = true then ((f_slices_medianAdjacentOrdered_int_7cb.f a0 (IntKind.i64.wrap (a1 + (IntKind.i64.wrap ((IntKind.i64.wrap (Int.tdiv (IntKind.i64.wrap (a2 - a1)) (4 : Int))) * (1 : Int))))) 0) >>= fun t2473 => (f_slices_medianAdjacentOrdered_int_7cb.f a0 (IntKind.i64.wrap (a1 + (IntKind.i64.wrap ((IntKind.i64.wrap (Int.tdiv (IntKind.i64.wrap (a2 - a1)) (4 : Int))) * (2 : Int))))) t2473.2) >>= fun t2477 => (f_slices_medianAdjacentOrdered_int_7cb.f a0 (IntKind.i64.wrap (a1 + (IntKind.i64.wrap ((IntKind.i64.wrap (Int.tdiv (IntKind.i64.wrap (a2 - a1)) (4 : Int))) * (3 : Int))))) t2477.2) >>= fun t2481 => some (t2481.2, t2473.1, t2477.1, t2481.1)) else (some (0, IntKind.i64.wrap (a1 + (IntKind.i64.wrap ((IntKind.i64.wrap (Int.tdiv (IntKind.i64.wrap (a2 - a1)) (4 : Int))) * (1 : Int)))), IntKind.i64.wrap (a1 + (IntKind.i64.wrap ((IntKind.i64.wrap (Int.tdiv (IntKind.i64.wrap (a2 - a1)) (4 : Int))) * (2 : Int)))), IntKind.i64.wrap (a1 + (IntKind.i64.wrap ((IntKind.i64.wrap (Int.tdiv (IntKind.i64.wrap (a2 - a1)) (4 : Int))) * (3 : Int))))))) : Option (Int × Int × Int × Int)) >>= fun oo => match oo with | (x2483, x2484, x2485, x2486) => ((f_slices_medianOrdered_int_5f3.f a0 x2484 x2485 x2486 x2483) >>= fun t2489 => some (t2489.2, t2489.1))) else (some (0, IntKind.i64.wrap (a1 + (IntKind.i64.wrap ((IntKind.i64.wrap (Int.tdiv (IntKind.i64.wrap (a2 - a1)) (4 : Int))) * (2 : Int))))))) : Option (Int × Int)) >>= fun oo => match oo with | (x2491, x2492) => (if (x2491 == (0 : Int)) = true then (some (x2492, 1)) else (if (x2491 == (12 : Int)) = true then (some (x2492, 2)) else (some (x2492, 0))))
theorem f_slices_choosePivotOrdered_int.ok (a0 : List Int) (a1 : Int) (a2 : Int) (r : Int × Int) (H : f_slices_choosePivotOrdered_int.f a0 a1 a2 = some r) : Pv.Fn Try.prog 70 [.own 0, iV .i64 a1, iV .i64 a2] [(0, some (.row 1 3 (a0.map (encInt .i64))))] 1 (fun x o => x = .tup [iV .i64 r.1, iV .i64 r.2] ∧ o = [(0, some (.row 1 3 (a0.map (encInt .i64))))]) := by
  unfold f_slices_choosePivotOrdered_int.f at H
  refine Fn.bodyK [0] Try.func70 rfl rfl (fun Γ hP hn => ?_)
  have hm : Try.prog.follows .mixedOrders = true := by kernel_rfl
  replace hn : Γ.n = 57 := hn
  refine AWp.seq ?_
  refine reg hP hn hm [] [0, 1, 2] [0] ⟨[(0, .own 0), (1, iV .i64 a1), (2, iV .i64 a2)], [(0, some (.row 1 3 (a0.map (encInt .i64))))], 1⟩ [] (by kernel_rfl) trivial ?_
  refine AWp.seq ?_
  refine reg hP hn hm [] [0, 1, 8] [0] ⟨[(0, .own 0), (1, iV .i64 a1), (8, iV .i64 (IntKind.i64.wrap (a2 - a1)))], [(0, some (.row 1 3 (a0.map (encInt .i64))))], 1⟩ [] (by kernel_rfl) trivial ?_
  refine AWp.seq ?_
  refine reg hP hn hm [(0, .k 1)] [0, 1, 8, 9] [0, 1] ⟨[(0, .own 0), (1, iV .i64 a1), (8, iV .i64 (IntKind.i64.wrap (a2 - a1))), (9, .ptr 1 0 0)], [(0, some (.row 1 3 (a0.map (encInt .i64)))), (1, some (.box 3 [iV .i64 0]))], 1⟩ [] (by kernel_rfl) trivial ?_
  refine AWp.seq ?_
  refine reg hP hn hm [] [0, 1, 8, 9, 10] [0, 1] ⟨[(0, .own 0), (1, iV .i64 a1), (8, iV .i64 (IntKind.i64.wrap (a2 - a1))), (9, .ptr 1 0 0), (10, iV .i64 (IntKind.i64.wrap (a1 + (IntKind.i64.wrap ((IntKind.i64.wrap (Int.tdiv (IntKind.i64.wrap (a2 - a1)) (4 : Int))) * (1 : Int))))))], [(0, some (.row 1 3 (a0.map (encInt .i64)))), (1, some (.box 3 [iV .i64 0]))], 1⟩ [(4 : Int) ≠ 0] (by kernel_rfl) ⟨by decide, trivial⟩ ?_
  refine AWp.seq ?_
  refine reg hP hn hm [] [0, 1, 8, 9, 10, 11] [0, 1] ⟨[(0, .own 0), (1, iV .i64 a1), (8, iV .i64 (IntKind.i64.wrap (a2 - a1))), (9, .ptr 1 0 0), (10, iV .i64 (IntKind.i64.wrap (a1 + (IntKind.i64.wrap ((IntKind.i64.wrap (Int.tdiv (IntKind.i64.wrap (a2 - a1)) (4 : Int))) * (1 : Int)))))), (11, iV .i64 (IntKind.i64.wrap (a1 + (IntKind.i64.wrap ((IntKind.i64.wrap (Int.tdiv (IntKind.i64.wrap (a2 - a1)) (4 : Int))) * (2 : Int))))))], [(0, some (.row 1 3 (a0.map (encInt .i64)))), (1, some (.box 3 [iV .i64 0]))], 1⟩ [(4 : Int) ≠ 0] (by kernel_rfl) ⟨by decide, trivial⟩ ?_
  refine AWp.seq ?_
  refine reg hP hn hm [] [0, 8, 9, 10, 11, 12] [0, 1] ⟨[(0, .own 0), (8, iV .i64 (IntKind.i64.wrap (a2 - a1))), (9, .ptr 1 0 0), (10, iV .i64 (IntKind.i64.wrap (a1 + (IntKind.i64.wrap ((IntKind.i64.wrap (Int.tdiv (IntKind.i64.wrap (a2 - a1)) (4 : Int))) * (1 : Int)))))), (11, iV .i64 (IntKind.i64.wrap (a1 + (IntKind.i64.wrap ((IntKind.i64.wrap (Int.tdiv (IntKind.i64.wrap (a2 - a1)) (4 : Int))) * (2 : Int)))))), (12, iV .i64 (IntKind.i64.wrap (a1 + (IntKind.i64.wrap ((IntKind.i64.wrap (Int.tdiv (IntKind.i64.wrap (a2 - a1)) (4 : Int))) * (3 : Int))))))], [(0, some (.row 1 3 (a0.map (encInt .i64)))), (1, some (.box 3 [iV .i64 0]))], 1⟩ [(4 : Int) ≠ 0] (by kernel_rfl) ⟨by decide, trivial⟩ ?_
  refine AWp.seq ?_
  refine AWp.seq ?_
  refine reg hP hn hm [] [0, 8, 9, 10, 11, 12, 32] [0, 1] ⟨[(0, .own 0), (8, iV .i64 (IntKind.i64.wrap (a2 - a1))), (9, .ptr 1 0 0), (10, iV .i64 (IntKind.i64.wrap (a1 + (IntKind.i64.wrap ((IntKind.i64.wrap (Int.tdiv (IntKind.i64.wrap (a2 - a1)) (4 : Int))) * (1 : Int)))))), (11, iV .i64 (IntKind.i64.wrap (a1 + (IntKind.i64.wrap ((IntKind.i64.wrap (Int.tdiv (IntKind.i64.wrap (a2 - a1)) (4 : Int))) * (2 : Int)))))), (12, iV .i64 (IntKind.i64.wrap (a1 + (IntKind.i64.wrap ((IntKind.i64.wrap (Int.tdiv (IntKind.i64.wrap (a2 - a1)) (4 : Int))) * (3 : Int)))))), (32, bV (decide ((IntKind.i64.wrap (a2 - a1)) ≥ (8 : Int))))], [(0, some (.row 1 3 (a0.map (encInt .i64)))), (1, some (.box 3 [iV .i64 0]))], 1⟩ [] (by kernel_rfl) trivial ?_
  obtain ⟨o2495, e2496, H⟩ := bind_of H
  refine AWp.mono (Q := fun e s => (match (generalizing := false) o2495 with | (x2491, x2492) => e = .normal ∧ s = ⟨[(9, .ptr 3 0 0), (11, iV .i64 x2492)], [(0, some (.row 1 3 (a0.map (encInt .i64)))), (3, some (.box 3 [iV .i64 x2491]))], 1⟩)) (AWp.cv ?_) ?_
  · replace H := e2496; clear e2496
    refine AWp.cond (decide ((IntKind.i64.wrap (a2 - a1)) ≥ (8 : Int))) rfl (fun c2436 => ?_) (fun c2436 => ?_)
    · replace H := (ifT c2436).symm.trans H
      refine AWp.seq ?_
      refine AWp.seq ?_
      refine reg hP hn hm [] [0, 9, 10, 11, 12, 34] [0, 1] ⟨[(0, .own 0), (9, .ptr 1 0 0), (10, iV .i64 (IntKind.i64.wrap (a1 + (IntKind.i64.wrap ((IntKind.i64.wrap (Int.tdiv (IntKind.i64.wrap (a2 - a1)) (4 : Int))) * (1 : Int)))))), (11, iV .i64 (IntKind.i64.wrap (a1 + (IntKind.i64.wrap ((IntKind.i64.wrap (Int.tdiv (IntKind.i64.wrap (a2 - a1)) (4 : Int))) * (2 : Int)))))), (12, iV .i64 (IntKind.i64.wrap (a1 + (IntKind.i64.wrap ((IntKind.i64.wrap (Int.tdiv (IntKind.i64.wrap (a2 - a1)) (4 : Int))) * (3 : Int)))))), (34, bV (decide ((IntKind.i64.wrap (a2 - a1)) ≥ (50 : Int))))], [(0, some (.row 1 3 (a0.map (encInt .i64)))), (1, some (.box 3 [iV .i64 0]))], 1⟩ [] (by kernel_rfl) trivial ?_
      obtain ⟨o2497, e2498, H⟩ := bind_of H
      refine AWp.mono (Q := fun e s => (match (generalizing := false) o2497 with | (x2483, x2484, x2485, x2486) => e = .normal ∧ s = ⟨[(0, .own 0), (9, .ptr 2 0 0), (10, iV .i64 x2484), (11, iV .i64 x2485), (12, iV .i64 x2486)], [(0, some (.row 1 3 (a0.map (encInt .i64)))), (2, some (.box 3 [iV .i64 x2483]))], 1⟩)) (AWp.cv ?_) ?_
      · replace H := e2498; clear e2498
        refine AWp.cond (decide ((IntKind.i64.wrap (a2 - a1)) ≥ (50 : Int))) rfl (fun c2437 => ?_) (fun c2437 => ?_)
        · replace H := (ifT c2437).symm.trans H
          refine AWp.seq ?_
          obtain ⟨t2473, e2474, H⟩ := bind_of H
          refine reg hP hn hm [(2, .call [(0, 0), (1, 1)] [(0, 0), (1, 1)] [] [] 2 (iV .i64 t2473.1) [(0, some (.row 1 3 (a0.map (encInt .i64)))), (1, some (.box 3 [iV .i64 t2473.2]))])] [0, 9, 10, 11, 12] [0, 1] ⟨[(0, .own 0), (9, .ptr 1 0 0), (10, iV .i64 t2473.1), (11, iV .i64 (IntKind.i64.wrap (a1 + (IntKind.i64.wrap ((IntKind.i64.wrap (Int.tdiv (IntKind.i64.wrap (a2 - a1)) (4 : Int))) * (2 : Int)))))), (12, iV .i64 (IntKind.i64.wrap (a1 + (IntKind.i64.wrap ((IntKind.i64.wrap (Int.tdiv (IntKind.i64.wrap (a2 - a1)) (4 : Int))) * (3 : Int))))))], [(0, some (.row 1 3 (a0.map (encInt .i64)))), (1, some (.box 3 [iV .i64 t2473.2]))], 1⟩ [Enters Try.prog 102, Pv.Fn Try.prog 102 [.own 0, iV .i64 (IntKind.i64.wrap (a1 + (IntKind.i64.wrap ((IntKind.i64.wrap (Int.tdiv (IntKind.i64.wrap (a2 - a1)) (4 : Int))) * (1 : Int))))), .ptr 1 0 0] [(0, some (.row 1 3 (a0.map (encInt .i64)))), (1, some (.box 3 [iV .i64 0]))] 2 (fun r o => r = iV .i64 t2473.1 ∧ o = [(0, some (.row 1 3 (a0.map (encInt .i64)))), (1, some (.box 3 [iV .i64 t2473.2]))])] (by kernel_rfl) ⟨by exact Try.call102, by exact f_slices_medianAdjacentOrdered_int_7cb.ok a0 (IntKind.i64.wrap (a1 + (IntKind.i64.wrap ((IntKind.i64.wrap (Int.tdiv (IntKind.i64.wrap (a2 - a1)) (4 : Int))) * (1 : Int))))) 0 t2473 e2474, trivial⟩ ?_
          refine AWp.seq ?_
          obtain ⟨t2477, e2478, H⟩ := bind_of H
          refine reg hP hn hm [(2, .call [(0, 0), (1, 1)] [(0, 0), (1, 1)] [] [] 2 (iV .i64 t2477.1) [(0, some (.row 1 3 (a0.map (encInt .i64)))), (1, some (.box 3 [iV .i64 t2477.2]))])] [0, 9, 10, 11, 12] [0, 1] ⟨[(0, .own 0), (9, .ptr 1 0 0), (10, iV .i64 t2473.1), (11, iV .i64 t2477.1), (12, iV .i64 (IntKind.i64.wrap (a1 + (IntKind.i64.wrap ((IntKind.i64.wrap (Int.tdiv (IntKind.i64.wrap (a2 - a1)) (4 : Int))) * (3 : Int))))))], [(0, some (.row 1 3 (a0.map (encInt .i64)))), (1, some (.box 3 [iV .i64 t2477.2]))], 1⟩ [Enters Try.prog 102, Pv.Fn Try.prog 102 [.own 0, iV .i64 (IntKind.i64.wrap (a1 + (IntKind.i64.wrap ((IntKind.i64.wrap (Int.tdiv (IntKind.i64.wrap (a2 - a1)) (4 : Int))) * (2 : Int))))), .ptr 1 0 0] [(0, some (.row 1 3 (a0.map (encInt .i64)))), (1, some (.box 3 [iV .i64 t2473.2]))] 2 (fun r o => r = iV .i64 t2477.1 ∧ o = [(0, some (.row 1 3 (a0.map (encInt .i64)))), (1, some (.box 3 [iV .i64 t2477.2]))])] (by kernel_rfl) ⟨by exact Try.call102, by exact f_slices_medianAdjacentOrdered_int_7cb.ok a0 (IntKind.i64.wrap (a1 + (IntKind.i64.wrap ((IntKind.i64.wrap (Int.tdiv (IntKind.i64.wrap (a2 - a1)) (4 : Int))) * (2 : Int))))) t2473.2 t2477 e2478, trivial⟩ ?_
          obtain ⟨t2481, e2482, H⟩ := bind_of H
          refine reg hP hn hm [(2, .call [(0, 0), (1, 1)] [(0, 0), (1, 1)] [] [] 2 (iV .i64 t2481.1) [(0, some (.row 1 3 (a0.map (encInt .i64)))), (1, some (.box 3 [iV .i64 t2481.2]))])] [0, 9, 10, 11, 12] [0, 1] ⟨[(0, .own 0), (9, .ptr 1 0 0), (10, iV .i64 t2473.1), (11, iV .i64 t2477.1), (12, iV .i64 t2481.1)], [(0, some (.row 1 3 (a0.map (encInt .i64)))), (1, some (.box 3 [iV .i64 t2481.2]))], 1⟩ [Enters Try.prog 102, Pv.Fn Try.prog 102 [.own 0, iV .i64 (IntKind.i64.wrap (a1 + (IntKind.i64.wrap ((IntKind.i64.wrap (Int.tdiv (IntKind.i64.wrap (a2 - a1)) (4 : Int))) * (3 : Int))))), .ptr 1 0 0] [(0, some (.row 1 3 (a0.map (encInt .i64)))), (1, some (.box 3 [iV .i64 t2477.2]))] 2 (fun r o => r = iV .i64 t2481.1 ∧ o = [(0, some (.row 1 3 (a0.map (encInt .i64)))), (1, some (.box 3 [iV .i64 t2481.2]))])] (by kernel_rfl) ⟨by exact Try.call102, by exact f_slices_medianAdjacentOrdered_int_7cb.ok a0 (IntKind.i64.wrap (a1 + (IntKind.i64.wrap ((IntKind.i64.wrap (Int.tdiv (IntKind.i64.wrap (a2 - a1)) (4 : Int))) * (3 : Int))))) t2477.2 t2481 e2482, trivial⟩ ?_
          obtain rfl := Option.some.inj H
          exact Exists.intro _ (And.intro (fun _ _ h => h.conv (inv := [(0, 0), (1, 2)]) (vk := []) (e0 := []) (t := ⟨[(0, .own 0), (9, .ptr 2 0 0), (10, iV .i64 t2473.1), (11, iV .i64 t2477.1), (12, iV .i64 t2481.1)], [(0, some (.row 1 3 (a0.map (encInt .i64)))), (2, some (.box 3 [iV .i64 t2481.2]))], 1⟩) (by kernel_rfl)) (And.intro rfl rfl))
        · replace H := (ifF c2437).symm.trans H
          refine AWp.skip ?_
          obtain rfl := Option.some.inj H
          exact Exists.intro _ (And.intro (fun _ _ h => h.conv (inv := [(0, 0), (1, 2)]) (vk := []) (e0 := []) (t := ⟨[(0, .own 0), (9, .ptr 2 0 0), (10, iV .i64 (IntKind.i64.wrap (a1 + (IntKind.i64.wrap ((IntKind.i64.wrap (Int.tdiv (IntKind.i64.wrap (a2 - a1)) (4 : Int))) * (1 : Int)))))), (11, iV .i64 (IntKind.i64.wrap (a1 + (IntKind.i64.wrap ((IntKind.i64.wrap (Int.tdiv (IntKind.i64.wrap (a2 - a1)) (4 : Int))) * (2 : Int)))))), (12, iV .i64 (IntKind.i64.wrap (a1 + (IntKind.i64.wrap ((IntKind.i64.wrap (Int.tdiv (IntKind.i64.wrap (a2 - a1)) (4 : Int))) * (3 : Int))))))], [(0, some (.row 1 3 (a0.map (encInt .i64)))), (2, some (.box 3 [iV .i64 0]))], 1⟩) (by kernel_rfl)) (And.intro rfl rfl))
      · obtain ⟨x2483, x2484, x2485, x2486⟩ := o2497
        rintro e s ⟨rfl, rfl⟩
        obtain ⟨t2489, e2490, H⟩ := bind_of H
        refine reg hP hn hm [(4, .call [(0, 0), (2, 1)] [(0, 0), (1, 2)] [] [] 2 (iV .i64 t2489.1) [(0, some (.row 1 3 (a0.map (encInt .i64)))), (1, some (.box 3 [iV .i64 t2489.2]))])] [9, 11] [0, 2] ⟨[(9, .ptr 2 0 0), (11, iV .i64 t2489.1)], [(0, some (.row 1 3 (a0.map (encInt .i64)))), (2, some (.box 3 [iV .i64 t2489.2]))], 1⟩ [Enters Try.prog 103, Pv.Fn Try.prog 103 [.own 0, iV .i64 x2484, iV .i64 x2485, iV .i64 x2486, .ptr 1 0 0] [(0, some (.row 1 3 (a0.map (encInt .i64)))), (1, some (.box 3 [iV .i64 x2483]))] 2 (fun r o => r = iV .i64 t2489.1 ∧ o = [(0, some (.row 1 3 (a0.map (encInt .i64)))), (1, some (.box 3 [iV .i64 t2489.2]))])] (by kernel_rfl) ⟨by exact Try.call103, by exact f_slices_medianOrdered_int_5f3.ok a0 x2484 x2485 x2486 x2483 t2489 e2490, trivial⟩ ?_
        obtain rfl := Option.some.inj H
        exact Exists.intro _ (And.intro (fun _ _ h => h.conv (inv := [(2, 3), (0, 0)]) (vk := []) (e0 := []) (t := ⟨[(9, .ptr 3 0 0), (11, iV .i64 t2489.1)], [(0, some (.row 1 3 (a0.map (encInt .i64)))), (3, some (.box 3 [iV .i64 t2489.2]))], 1⟩) (by kernel_rfl)) (And.intro rfl rfl))
    · replace H := (ifF c2436).symm.trans H
      refine AWp.skip ?_
      obtain rfl := Option.some.inj H
      exact Exists.intro _ (And.intro (fun _ _ h => h.conv (inv := [(1, 3), (0, 0)]) (vk := []) (e0 := []) (t := ⟨[(9, .ptr 3 0 0), (11, iV .i64 (IntKind.i64.wrap (a1 + (IntKind.i64.wrap ((IntKind.i64.wrap (Int.tdiv (IntKind.i64.wrap (a2 - a1)) (4 : Int))) * (2 : Int))))))], [(0, some (.row 1 3 (a0.map (encInt .i64)))), (3, some (.box 3 [iV .i64 0]))], 1⟩) (by kernel_rfl)) (And.intro rfl rfl))
  · obtain ⟨x2491, x2492⟩ := o2495
    rintro e s ⟨rfl, rfl⟩
    refine AWp.seq ?_
    refine reg hP hn hm [] [11, 49] [0] ⟨[(11, iV .i64 x2492), (49, iV .i64 x2491)], [(0, some (.row 1 3 (a0.map (encInt .i64))))], 1⟩ [] (by kernel_rfl) trivial ?_
    refine AWp.block ?_
    refine AWp.seq ?_
    refine reg hP hn hm [] [11, 49, 51] [0] ⟨[(11, iV .i64 x2492), (49, iV .i64 x2491), (51, bV (x2491 == (0 : Int)))], [(0, some (.row 1 3 (a0.map (encInt .i64))))], 1⟩ [] (by kernel_rfl) trivial ?_
    refine AWp.cond (x2491 == (0 : Int)) rfl (fun c2493 => ?_) (fun c2493 => ?_)
    · replace H := (ifT c2493).symm.trans H
      refine AWp.seq ?_
      refine reg hP hn hm [] [6, 7] [0] ⟨[(6, iV .i64 x2492), (7, iV .i64 1)], [(0, some (.row 1 3 (a0.map (encInt .i64))))], 1⟩ [] (by kernel_rfl) trivial ?_
      refine AWp.conv (inv := [(0, 0)]) (vk := []) (e0 := []) (t := ⟨[(6, iV .i64 x2492), (7, iV .i64 1)], [(0, some (.row 1 3 (a0.map (encInt .i64))))], 1⟩) (by kernel_rfl) ?_
      refine AWp.ret ?_
      obtain rfl := Option.some.inj H
      exact Exists.intro _ (And.intro (fun _ _ h => h) (And.intro (.inl rfl) (And.intro rfl (And.intro (by kernel_rfl) (by kernel_rfl)))))
    · replace H := (ifF c2493).symm.trans H
      refine AWp.seq ?_
      refine reg hP hn hm [] [11, 54] [0] ⟨[(11, iV .i64 x2492), (54, bV (x2491 == (12 : Int)))], [(0, some (.row 1 3 (a0.map (encInt .i64))))], 1⟩ [] (by kernel_rfl) trivial ?_
      refine AWp.cond (x2491 == (12 : Int)) rfl (fun c2494 => ?_) (fun c2494 => ?_)
      · replace H := (ifT c2494).symm.trans H
        refine AWp.seq ?_
        refine reg hP hn hm [] [6, 7] [0] ⟨[(6, iV .i64 x2492), (7, iV .i64 2)], [(0, some (.row 1 3 (a0.map (encInt .i64))))], 1⟩ [] (by kernel_rfl) trivial ?_
        refine AWp.conv (inv := [(0, 0)]) (vk := []) (e0 := []) (t := ⟨[(6, iV .i64 x2492), (7, iV .i64 2)], [(0, some (.row 1 3 (a0.map (encInt .i64))))], 1⟩) (by kernel_rfl) ?_
        refine AWp.ret ?_
        obtain rfl := Option.some.inj H
        exact Exists.intro _ (And.intro (fun _ _ h => h) (And.intro (.inl rfl) (And.intro rfl (And.intro (by kernel_rfl) (by kernel_rfl)))))
      · replace H := (ifF c2494).symm.trans H
        refine AWp.seq ?_
        refine reg hP hn hm [] [6, 7] [0] ⟨[(6, iV .i64 x2492), (7, iV .i64 0)], [(0, some (.row 1 3 (a0.map (encInt .i64))))], 1⟩ [] (by kernel_rfl) trivial ?_
        refine AWp.conv (inv := [(0, 0)]) (vk := []) (e0 := []) (t := ⟨[(6, iV .i64 x2492), (7, iV .i64 0)], [(0, some (.row 1 3 (a0.map (encInt .i64))))], 1⟩) (by kernel_rfl) ?_
        refine AWp.ret ?_
        obtain rfl := Option.some.inj H
        exact Exists.intro _ (And.intro (fun _ _ h => h) (And.intro (.inl rfl) (And.intro rfl (And.intro (by kernel_rfl) (by kernel_rfl)))))
def f_slices_reverseRangeOrdered_int.l0 (x2523 : List Int) (x2524 : Int) (x2525 : Int) : Option (List Int) := if (decide (x2524 < x2525)) = true then ((at? x2523 x2525) >>= fun b2536 => (at? x2523 x2524) >>= fun b2539 => (at? (x2523.set (Int.toNat (x2524)) b2536) x2525) >>= fun b2542 => f_slices_reverseRangeOrdered_int.l0  ((x2523.set (Int.toNat (x2524)) b2536).set (Int.toNat (x2525)) b2539) (IntKind.i64.wrap (x2524 + (1 : Int))) (IntKind.i64.wrap (x2525 - (1 : Int)))) else (some x2523)
partial_fixpoint
def f_slices_reverseRangeOrdered_int.f (a0 : List Int) (a1 : Int) (a2 : Int) : Option (List Int) := (f_slices_reverseRangeOrdered_int.l0  a0 a1 (IntKind.i64.wrap (a2 - (1 : Int)))) >>= fun x2545 => some x2545
theorem f_slices_reverseRangeOrdered_int.ok (a0 : List Int) (a1 : Int) (a2 : Int) (r : List Int) (H : f_slices_reverseRangeOrdered_int.f a0 a1 a2 = some r) : Pv.Fn Try.prog 71 [.own 0, iV .i64 a1, iV .i64 a2] [(0, some (.row 1 3 (a0.map (encInt .i64))))] 1 (fun x o => x = .tup [] ∧ o = [(0, some (.row 1 3 (r.map (encInt .i64))))]) := by
  unfold f_slices_reverseRangeOrdered_int.f at H
  refine Fn.bodyK [0] Try.func71 rfl rfl (fun Γ hP hn => ?_)
  have hm : Try.prog.follows .mixedOrders = true := by kernel_rfl
  replace hn : Γ.n = 32 := hn
  refine AWp.seq ?_
  refine reg hP hn hm [] [0, 2, 6] [0] ⟨[(0, .own 0), (2, iV .i64 a2), (6, iV .i64 a1)], [(0, some (.row 1 3 (a0.map (encInt .i64))))], 1⟩ [] (by kernel_rfl) trivial ?_
  refine AWp.seq ?_
  refine reg hP hn hm [] [0, 6, 7] [0] ⟨[(0, .own 0), (6, iV .i64 a1), (7, iV .i64 (IntKind.i64.wrap (a2 - (1 : Int))))], [(0, some (.row 1 3 (a0.map (encInt .i64))))], 1⟩ [] (by kernel_rfl) trivial ?_
  refine AWp.block ?_
  obtain ⟨o2546, e2547, H⟩ := bind_of H
  refine AWp.loop (LWp.conv (inv := [(0, 0)]) (vk := []) (e0 := []) (t := ⟨[(0, .own 0), (6, iV .i64 a1), (7, iV .i64 (IntKind.i64.wrap (a2 - (1 : Int))))], [(0, some (.row 1 3 (a0.map (encInt .i64))))], 1⟩) (by kernel_rfl) ?_)
  refine LWp.mono (Q := fun e s => (match (generalizing := false) o2546 with | x2545 => e = .exit 0 ∧ s = ⟨[], [(0, some (.row 1 3 (x2545.map (encInt .i64))))], 1⟩)) (LWp.cv (withBody (fun body hbody => ?_))) ?_
  · refine f_slices_reverseRangeOrdered_int.l0.partial_correctness  (motive := fun x2523 x2524 x2525 o2546 => LWp Γ body (fun e s => ∃ t, Cv Γ s t ∧ (match (generalizing := false) o2546 with | x2545 => e = .exit 0 ∧ t = ⟨[], [(0, some (.row 1 3 (x2545.map (encInt .i64))))], 1⟩)) ⟨[(0, .own 0), (6, iV .i64 x2524), (7, iV .i64 x2525)], [(0, some (.row 1 3 (x2523.map (encInt .i64))))], 1⟩) ?_ _ _ _ _ e2547
    clear H e2547 o2546; intro self ih x2523 x2524 x2525 o2546 H
    subst hbody
    refine LWp.round ?_
    refine AWp.seq ?_
    refine AWp.seq ?_
    refine reg hP hn hm [] [0, 6, 7, 13] [0] ⟨[(0, .own 0), (6, iV .i64 x2524), (7, iV .i64 x2525), (13, bV (decide (x2524 < x2525)))], [(0, some (.row 1 3 (x2523.map (encInt .i64))))], 1⟩ [] (by kernel_rfl) trivial ?_
    refine AWp.cond (decide (x2524 < x2525)) rfl (fun c2526 => ?_) (fun c2526 => ?_)
    · replace H := (ifT c2526).symm.trans H
      refine AWp.skip ?_
      refine AWp.block ?_
      refine AWp.seq ?_
      obtain ⟨b2536, p2537, q2538, H⟩ := at_of H
      obtain ⟨b2539, p2540, q2541, H⟩ := at_of H
      obtain ⟨b2542, p2543, q2544, H⟩ := at_of H
      refine reg hP hn hm [(7, .c ((encInt .i64) b2536)), (11, .c ((encInt .i64) b2539)), (13, .put ((encInt .i64) b2539) ((x2523.set (Int.toNat (x2524)) b2536).map (encInt .i64))), (15, .put ((encInt .i64) b2542) (((x2523.set (Int.toNat (x2524)) b2536).set (Int.toNat (x2525)) b2539).map (encInt .i64)))] [0, 6, 7] [0] ⟨[(0, .own 0), (6, iV .i64 x2524), (7, iV .i64 x2525)], [(0, some (.row 1 3 (((x2523.set (Int.toNat (x2524)) b2536).set (Int.toNat (x2525)) b2539).map (encInt .i64))))], 1⟩ [0 ≤ x2525, x2525 < (((x2523.map (encInt .i64)).length : Nat) : Int), (x2523.map (encInt .i64))[(Int.toNat (x2525))]? = some ((encInt .i64) b2536), 0 ≤ x2524, x2524 < (((x2523.map (encInt .i64)).length : Nat) : Int), (x2523.map (encInt .i64))[(Int.toNat (x2524))]? = some ((encInt .i64) b2539), 0 ≤ x2524, x2524 < (((x2523.map (encInt .i64)).length : Nat) : Int), (x2523.map (encInt .i64))[(Int.toNat (x2524))]? = some ((encInt .i64) b2539), (x2523.set (Int.toNat (x2524)) b2536).map (encInt .i64) = (x2523.map (encInt .i64)).set (Int.toNat (x2524)) (splice ((encInt .i64) b2539) 0 [iI .i64 b2536]), 0 ≤ x2525, x2525 < ((((x2523.set (Int.toNat (x2524)) b2536).map (encInt .i64)).length : Nat) : Int), ((x2523.set (Int.toNat (x2524)) b2536).map (encInt .i64))[(Int.toNat (x2525))]? = some ((encInt .i64) b2542), ((x2523.set (Int.toNat (x2524)) b2536).set (Int.toNat (x2525)) b2539).map (encInt .i64) = ((x2523.set (Int.toNat (x2524)) b2536).map (encInt .i64)).set (Int.toNat (x2525)) (splice ((encInt .i64) b2542) 0 [iI .i64 b2539])] (by kernel_rfl) ⟨by exact p2537, by exact el_lt (encInt .i64) p2537 q2538, by exact el_map (encInt .i64) q2538, by exact p2540, by exact el_lt (encInt .i64) p2540 q2541, by exact el_map (encInt .i64) q2541, by exact p2540, by exact el_lt (encInt .i64) p2540 q2541, by exact el_map (encInt .i64) q2541, by exact set1 _ _ _ _, by exact p2543, by exact el_lt (encInt .i64) p2543 q2544, by exact el_map (encInt .i64) q2544, by exact set1 _ _ _ _, trivial⟩ ?_
      refine AWp.seq ?_
      refine reg hP hn hm [] [0, 6, 7] [0] ⟨[(0, .own 0), (6, iV .i64 (IntKind.i64.wrap (x2524 + (1 : Int)))), (7, iV .i64 x2525)], [(0, some (.row 1 3 (((x2523.set (Int.toNat (x2524)) b2536).set (Int.toNat (x2525)) b2539).map (encInt .i64))))], 1⟩ [] (by kernel_rfl) trivial ?_
      refine reg hP hn hm [] [0, 6, 7] [0] ⟨[(0, .own 0), (6, iV .i64 (IntKind.i64.wrap (x2524 + (1 : Int)))), (7, iV .i64 (IntKind.i64.wrap (x2525 - (1 : Int))))], [(0, some (.row 1 3 (((x2523.set (Int.toNat (x2524)) b2536).set (Int.toNat (x2525)) b2539).map (encInt .i64))))], 1⟩ [] (by kernel_rfl) trivial ?_
      exact LWp.conv (inv := [(0, 0)]) (vk := []) (e0 := []) (t := ⟨[(0, .own 0), (6, iV .i64 (IntKind.i64.wrap (x2524 + (1 : Int)))), (7, iV .i64 (IntKind.i64.wrap (x2525 - (1 : Int))))], [(0, some (.row 1 3 (((x2523.set (Int.toNat (x2524)) b2536).set (Int.toNat (x2525)) b2539).map (encInt .i64))))], 1⟩) (by kernel_rfl) (ih _ _ _ _ H)
    · replace H := (ifF c2526).symm.trans H
      refine AWp.exit ?_
      obtain rfl := Option.some.inj H
      exact Exists.intro _ (And.intro (fun _ _ h => h.conv (inv := [(0, 0)]) (vk := []) (e0 := []) (t := ⟨[], [(0, some (.row 1 3 (x2523.map (encInt .i64))))], 1⟩) (by kernel_rfl)) (And.intro rfl rfl))
  · obtain ⟨x2545, rfl⟩ : ∃ z, z = o2546 := ⟨_, rfl⟩
    rintro e s ⟨rfl, rfl⟩
    obtain rfl := Option.some.inj H
    exact Exists.intro ⟨[], [(0, some (.row 1 3 (x2545.map (encInt .i64))))], 1⟩ (And.intro (fun _ _ h => h.conv (inv := [(0, 0)]) (vk := []) (e0 := []) (t := ⟨[], [(0, some (.row 1 3 (x2545.map (encInt .i64))))], 1⟩) (by kernel_rfl)) (And.intro (.inr rfl) (And.intro rfl (And.intro (by kernel_rfl) (by kernel_rfl)))))
def f_slices_partialInsertionSortOrdered_int.l1 (a1 : Int) (a2 : Int) (x2724 : List Int) (x2726 : Int) (x2748 : Int) : Option (Int) := ((if (decide (x2748 < a2)) = true then ((at? x2724 x2748) >>= fun b2759 => (at? x2724 (IntKind.i64.wrap (x2748 - (1 : Int)))) >>= fun b2762 => (f_cmp_Less_int.f b2759 b2762) >>= fun t2765 => some (!t2765)) else (some false)) : Option (Bool)) >>= fun x2767 => if x2767 = true then (f_slices_partialInsertionSortOrdered_int.l1 a1 a2 x2724 x2726 (IntKind.i64.wrap (x2748 + (1 : Int)))) else (some x2748)
partial_fixpoint
def f_slices_partialInsertionSortOrdered_int.l2 (a1 : Int) (a2 : Int) (x2726 : Int) (x2769 : Int) (x2815 : List Int) (x2816 : Int) : Option (List Int) := if (decide (x2816 ≥ (1 : Int))) = true then ((at? x2815 x2816) >>= fun b2826 => (at? x2815 (IntKind.i64.wrap (x2816 - (1 : Int)))) >>= fun b2829 => (f_cmp_Less_int.f b2826 b2829) >>= fun t2832 => if (!t2832) = true then (some x2815) else ((at? (x2815.set (Int.toNat (x2816)) b2829) (IntKind.i64.wrap (x2816 - (1 : Int)))) >>= fun b2838 => f_slices_partialInsertionSortOrdered_int.l2 a1 a2 x2726 x2769 ((x2815.set (Int.toNat (x2816)) b2829).set (Int.toNat (IntKind.i64.wrap (x2816 - (1 : Int)))) b2826) (IntKind.i64.wrap (x2816 - (1 : Int))))) else (some x2815)
partial_fixpoint
def f_slices_partialInsertionSortOrdered_int.l3 (a1 : Int) (a2 : Int) (x2726 : Int) (x2769 : Int) (x2868 : List Int) (x2869 : Int) : Option (List Int) := if (decide (x2869 < a2)) = true then ((at? x2868 x2869) >>= fun b2879 => (at? x2868 (IntKind.i64.wrap (x2869 - (1 : Int)))) >>= fun b2882 => (f_cmp_Less_int.f b2879 b2882) >>= fun t2885 => if (!t2885) = true then (some x2868) else ((at? (x2868.set (Int.toNat (x2869)) b2882) (IntKind.i64.wrap (x2869 - (1 : Int)))) >>= fun b2891 => f_slices_partialInsertionSortOrdered_int.l3 a1 a2 x2726 x2769 ((x2868.set (Int.toNat (x2869)) b2882).set (Int.toNat (IntKind.i64.wrap (x2869 - (1 : Int)))) b2879) (IntKind.i64.wrap (x2869 + (1 : Int))))) else (some x2868)
partial_fixpoint
def f_slices_partialInsertionSortOrdered_int.l0 (a1 : Int) (a2 : Int) (x2724 : List Int) (x2725 : Int) (x2726 : Int) : Option ((Bool × (List Int)) ⊕ (List Int)) := if (decide (x2726 < (5 : Int))) = true then ((f_slices_partialInsertionSortOrdered_int.l1 a1 a2 x2724 x2726 x2725) >>= fun x2769 => if (x2769 == a2) = true then (some (.inl (true, x2724))) else (if (decide ((IntKind.i64.wrap (a2 - a1)) < (50 : Int))) = true then (some (.inl (false, x2724))) else ((at? x2724 (IntKind.i64.wrap (x2769 - (1 : Int)))) >>= fun b2781 => (at? x2724 x2769) >>= fun b2784 => (at? (x2724.set (Int.toNat (x2769)) b2781) (IntKind.i64.wrap (x2769 - (1 : Int)))) >>= fun b2787 => ((if (decide ((IntKind.i64.wrap (x2769 - a1)) ≥ (2 : Int))) = true then ((f_slices_partialInsertionSortOrdered_int.l2 a1 a2 x2726 x2769 ((x2724.set (Int.toNat (x2769)) b2781).set (Int.toNat (IntKind.i64.wrap (x2769 - (1 : Int)))) b2784) (IntKind.i64.wrap (x2769 - (1 : Int)))) >>= fun x2841 => some x2841) else (some ((x2724.set (Int.toNat (x2769)) b2781).set (Int.toNat (IntKind.i64.wrap (x2769 - (1 : Int)))) b2784))) : Option (List Int)) >>= fun x2842 => ((if (decide ((IntKind.i64.wrap (a2 - x2769)) ≥ (2 : Int))) = true then ((f_slices_partialInsertionSortOrdered_int.l3 a1 a2 x2726 x2769 x2842 (IntKind.i64.wrap (x2769 + (1 : Int)))) >>= fun x2894 => some x2894) else (some x2842)) : Option (List Int)) >>= fun x2895 => f_slices_partialInsertionSortOrdered_int.l0 a1 a2 x2895 x2769 (IntKind.i64.wrap (x2726 + (1 : Int)))))) else (some (.inr x2724))
partial_fixpoint
def f_slices_partialInsertionSortOrdered_int.f (a0 : List Int) (a1 : Int) (a2 : Int) : Option (Bool × (List Int)) := (f_slices_partialInsertionSortOrdered_int.l0 a1 a2 a0 (IntKind.i64.wrap (a1 + (1 : Int))) 0) >>= fun oo => match oo with | .inl rr => (some rr) | .inr x2896 => (some (false, x2896))
theorem f_slices_partialInsertionSortOrdered_int.ok (a0 : List Int) (a1 : Int) (a2 : Int) (r : Bool × (List Int)) (H : f_slices_partialInsertionSortOrdered_int.f a0 a1 a2 = some r) : Pv.Fn Try.prog 72 [.own 0, iV .i64 a1, iV .i64 a2] [(0, some (.row 1 3 (a0.map (encInt .i64))))] 1 (fun x o => x = bV r.1 ∧ o = [(0, some (.row 1 3 (r.2.map (encInt .i64))))]) := by
  unfold f_slices_partialInsertionSortOrdered_int.f at H
  refine Fn.bodyK [0] Try.func72 rfl rfl (fun Γ hP hn => ?_)
  have hm : Try.prog.follows .mixedOrders = true := by kernel_rfl
  replace hn : Γ.n = 133 := hn
  refine AWp.seq ?_
  refine reg hP hn hm [] [0, 1, 2] [0] ⟨[(0, .own 0), (1, iV .i64 a1), (2, iV .i64 a2)], [(0, some (.row 1 3 (a0.map (encInt .i64))))], 1⟩ [] (by kernel_rfl) trivial ?_
  refine AWp.seq ?_
  refine reg hP hn hm [] [0, 1, 2, 7] [0] ⟨[(0, .own 0), (1, iV .i64 a1), (2, iV .i64 a2), (7, iV .i64 (IntKind.i64.wrap (a1 + (1 : Int))))], [(0, some (.row 1 3 (a0.map (encInt .i64))))], 1⟩ [] (by kernel_rfl) trivial ?_
  refine AWp.seq ?_
  refine AWp.seq ?_
  refine reg hP hn hm [] [0, 1, 2, 7, 8] [0] ⟨[(0, .own 0), (1, iV .i64 a1), (2, iV .i64 a2), (7, iV .i64 (IntKind.i64.wrap (a1 + (1 : Int)))), (8, iV .i64 0)], [(0, some (.row 1 3 (a0.map (encInt .i64))))], 1⟩ [] (by kernel_rfl) trivial ?_
  refine AWp.block ?_
  obtain ⟨o2897, e2898, H⟩ := bind_of H
  refine AWp.loop (LWp.conv (inv := [(0, 0)]) (vk := []) (e0 := []) (t := ⟨[(0, .own 0), (1, iV .i64 a1), (2, iV .i64 a2), (7, iV .i64 (IntKind.i64.wrap (a1 + (1 : Int)))), (8, iV .i64 0)], [(0, some (.row 1 3 (a0.map (encInt .i64))))], 1⟩) (by kernel_rfl) ?_)
  refine LWp.mono (Q := fun e s => (match (generalizing := false) o2897 with | .inl rr => e = .ret ∧ s.floor = 1 ∧ resOf Try.prog Try.f72 s = some (bV rr.1) ∧ ([(0, s.obj 0)] : List (Nat × Option MObj)) = [(0, some (.row 1 3 (rr.2.map (encInt .i64))))] | .inr x2896 => e = .exit 0 ∧ s = ⟨[], [(0, some (.row 1 3 (x2896.map (encInt .i64))))], 1⟩)) (LWp.cv (withBody (fun body hbody => ?_))) ?_
  · refine f_slices_partialInsertionSortOrdered_int.l0.partial_correctness a1 a2 (motive := fun x2724 x2725 x2726 o2897 => LWp Γ body (fun e s => ∃ t, Cv Γ s t ∧ (match (generalizing := false) o2897 with | .inl rr => e = .ret ∧ t.floor = 1 ∧ resOf Try.prog Try.f72 t = some (bV rr.1) ∧ ([(0, t.obj 0)] : List (Nat × Option MObj)) = [(0, some (.row 1 3 (rr.2.map (encInt .i64))))] | .inr x2896 => e = .exit 0 ∧ t = ⟨[], [(0, some (.row 1 3 (x2896.map (encInt .i64))))], 1⟩)) ⟨[(0, .own 0), (1, iV .i64 a1), (2, iV .i64 a2), (7, iV .i64 x2725), (8, iV .i64 x2726)], [(0, some (.row 1 3 (x2724.map (encInt .i64))))], 1⟩) ?_ _ _ _ _ e2898
    clear H e2898 o2897; intro self ih x2724 x2725 x2726 o2897 H
    subst hbody
    refine LWp.round ?_
    refine AWp.seq ?_
    refine AWp.seq ?_
    refine reg hP hn hm [] [0, 1, 2, 7, 8, 14] [0] ⟨[(0, .own 0), (1, iV .i64 a1), (2, iV .i64 a2), (7, iV .i64 x2725), (8, iV .i64 x2726), (14, bV (decide (x2726 < (5 : Int))))], [(0, some (.row 1 3 (x2724.map (encInt .i64))))], 1⟩ [] (by kernel_rfl) trivial ?_
    refine AWp.cond (decide (x2726 < (5 : Int))) rfl (fun c2727 => ?_) (fun c2727 => ?_)
    · replace H := (ifT c2727).symm.trans H
      refine AWp.skip ?_
      refine AWp.seq ?_
      refine AWp.block ?_
      refine AWp.seq ?_
      refine AWp.block ?_
      obtain ⟨o2899, e2900, H⟩ := bind_of H
      refine AWp.loop (LWp.conv (inv := [(0, 0)]) (vk := []) (e0 := []) (t := ⟨[(0, .own 0), (1, iV .i64 a1), (2, iV .i64 a2), (7, iV .i64 x2725), (8, iV .i64 x2726)], [(0, some (.row 1 3 (x2724.map (encInt .i64))))], 1⟩) (by kernel_rfl) ?_)
      refine LWp.mono (Q := fun e s => (match (generalizing := false) o2899 with | x2769 => e = .exit 2 ∧ s = ⟨[(0, .own 0), (1, iV .i64 a1), (2, iV .i64 a2), (7, iV .i64 x2769), (8, iV .i64 x2726)], [(0, some (.row 1 3 (x2724.map (encInt .i64))))], 1⟩)) (LWp.cv (withBody (fun body hbody => ?_))) ?_
      · refine f_slices_partialInsertionSortOrdered_int.l1.partial_correctness a1 a2 x2724 x2726 (motive := fun x2748 o2899 => LWp Γ body (fun e s => ∃ t, Cv Γ s t ∧ (match (generalizing := false) o2899 with | x2769 => e = .exit 2 ∧ t = ⟨[(0, .own 0), (1, iV .i64 a1), (2, iV .i64 a2), (7, iV .i64 x2769), (8, iV .i64 x2726)], [(0, some (.row 1 3 (x2724.map (encInt .i64))))], 1⟩)) ⟨[(0, .own 0), (1, iV .i64 a1), (2, iV .i64 a2), (7, iV .i64 x2748), (8, iV .i64 x2726)], [(0, some (.row 1 3 (x2724.map (encInt .i64))))], 1⟩) ?_ _ _ e2900
        clear H e2900 o2899; intro self ih x2748 o2899 H
        subst hbody
        refine LWp.round ?_
        refine AWp.seq ?_
        refine AWp.seq ?_
        obtain ⟨o2901, e2902, H⟩ := bind_of H
        refine AWp.mono (Q := fun e s => (match (generalizing := false) o2901 with | x2767 => e = .normal ∧ s = ⟨[(0, .own 0), (1, iV .i64 a1), (2, iV .i64 a2), (7, iV .i64 x2748), (8, iV .i64 x2726), (32, bV x2767)], [(0, some (.row 1 3 (x2724.map (encInt .i64))))], 1⟩)) (AWp.cv ?_) ?_
        · replace H := e2902; clear e2902
          rcases Bool.eq_false_or_eq_true (decide (x2748 < a2)) with c2758 | c2758
          · replace H := (ifT c2758).symm.trans H
            obtain ⟨b2759, p2760, q2761, H⟩ := at_of H
            obtain ⟨b2762, p2763, q2764, H⟩ := at_of H
            obtain ⟨t2765, e2766, H⟩ := bind_of H
            refine reg hP hn hm [(3, .b true), (7, .c ((encInt .i64) b2759)), (12, .c ((encInt .i64) b2762)), (13, .call [] [] [] [] 0 (bV t2765) [])] [0, 1, 2, 7, 8, 21, 22, 23, 24, 25, 26, 27, 28, 29, 30, 31, 32] [0] ⟨[(0, .own 0), (1, iV .i64 a1), (2, iV .i64 a2), (7, iV .i64 x2748), (8, iV .i64 x2726), (21, .own 0), (22, iV .i64 x2748), (23, .ptr 0 (Int.toNat (x2748)) 0), (24, iV .i64 b2759), (25, .own 0), (26, iV .i64 x2748), (27, iV .i64 (IntKind.i64.wrap (x2748 - (1 : Int)))), (28, .ptr 0 (Int.toNat (IntKind.i64.wrap (x2748 - (1 : Int)))) 0), (29, iV .i64 b2762), (30, bV t2765), (31, bV (!t2765)), (32, bV (!t2765))], [(0, some (.row 1 3 (x2724.map (encInt .i64))))], 1⟩ [(decide (x2748 < a2)) = true, 0 ≤ x2748, x2748 < (((x2724.map (encInt .i64)).length : Nat) : Int), (x2724.map (encInt .i64))[(Int.toNat (x2748))]? = some ((encInt .i64) b2759), 0 ≤ (IntKind.i64.wrap (x2748 - (1 : Int))), IntKind.i64.wrap (x2748 - (1 : Int)) < (((x2724.map (encInt .i64)).length : Nat) : Int), (x2724.map (encInt .i64))[(Int.toNat (IntKind.i64.wrap (x2748 - (1 : Int))))]? = some ((encInt .i64) b2762), Enters Try.prog 73, Pv.Fn Try.prog 73 [iV .i64 b2759, iV .i64 b2762] [] 0 (fun r o => r = bV t2765 ∧ o = [])] (by kernel_rfl) ⟨by exact c2758, by exact p2760, by exact el_lt (encInt .i64) p2760 q2761, by exact el_map (encInt .i64) q2761, by exact p2763, by exact el_lt (encInt .i64) p2763 q2764, by exact el_map (encInt .i64) q2764, by exact Try.call73, by exact f_cmp_Less_int.ok b2759 b2762 t2765 e2766, trivial⟩ ?_
            obtain rfl := Option.some.inj H
            exact Exists.intro _ (And.intro (fun _ _ h => h.conv (inv := [(0, 0)]) (vk := []) (e0 := []) (t := ⟨[(0, .own 0), (1, iV .i64 a1), (2, iV .i64 a2), (7, iV .i64 x2748), (8, iV .i64 x2726), (32, bV (!t2765))], [(0, some (.row 1 3 (x2724.map (encInt .i64))))], 1⟩) (by kernel_rfl)) (And.intro rfl rfl))
          · replace H := (ifF c2758).symm.trans H
            refine reg hP hn hm [(3, .b false)] [0, 1, 2, 7, 8, 32] [0] ⟨[(0, .own 0), (1, iV .i64 a1), (2, iV .i64 a2), (7, iV .i64 x2748), (8, iV .i64 x2726), (32, bV false)], [(0, some (.row 1 3 (x2724.map (encInt .i64))))], 1⟩ [(decide (x2748 < a2)) = false] (by kernel_rfl) ⟨by exact c2758, trivial⟩ ?_
            obtain rfl := Option.some.inj H
            exact Exists.intro _ (And.intro (fun _ _ h => h.conv (inv := [(0, 0)]) (vk := []) (e0 := []) (t := ⟨[(0, .own 0), (1, iV .i64 a1), (2, iV .i64 a2), (7, iV .i64 x2748), (8, iV .i64 x2726), (32, bV false)], [(0, some (.row 1 3 (x2724.map (encInt .i64))))], 1⟩) (by kernel_rfl)) (And.intro rfl rfl))
        · obtain ⟨x2767, rfl⟩ : ∃ z, z = o2901 := ⟨_, rfl⟩
          rintro e s ⟨rfl, rfl⟩
          refine AWp.cond x2767 rfl (fun c2768 => ?_) (fun c2768 => ?_)
          · replace H := (ifT c2768).symm.trans H
            refine AWp.skip ?_
            refine AWp.block ?_
            refine reg hP hn hm [] [0, 1, 2, 7, 8] [0] ⟨[(0, .own 0), (1, iV .i64 a1), (2, iV .i64 a2), (7, iV .i64 (IntKind.i64.wrap (x2748 + (1 : Int)))), (8, iV .i64 x2726)], [(0, some (.row 1 3 (x2724.map (encInt .i64))))], 1⟩ [] (by kernel_rfl) trivial ?_
            exact LWp.conv (inv := [(0, 0)]) (vk := []) (e0 := []) (t := ⟨[(0, .own 0), (1, iV .i64 a1), (2, iV .i64 a2), (7, iV .i64 (IntKind.i64.wrap (x2748 + (1 : Int)))), (8, iV .i64 x2726)], [(0, some (.row 1 3 (x2724.map (encInt .i64))))], 1⟩) (by kernel_rfl) (ih _ _ H)
          · replace H := (ifF c2768).symm.trans H
            refine AWp.exit ?_
            obtain rfl := Option.some.inj H
            exact Exists.intro _ (And.intro (fun _ _ h => h.conv (inv := [(0, 0)]) (vk := []) (e0 := []) (t := ⟨[(0, .own 0), (1, iV .i64 a1), (2, iV .i64 a2), (7, iV .i64 x2748), (8, iV .i64 x2726)], [(0, some (.row 1 3 (x2724.map (encInt .i64))))], 1⟩) (by kernel_rfl)) (And.intro rfl rfl))
      · obtain ⟨x2769, rfl⟩ : ∃ z, z = o2899 := ⟨_, rfl⟩
        rintro e s ⟨rfl, rfl⟩
        refine AWp.seq ?_
        refine AWp.seq ?_
        refine reg hP hn hm [] [0, 1, 2, 7, 8, 37] [0] ⟨[(0, .own 0), (1, iV .i64 a1), (2, iV .i64 a2), (7, iV .i64 x2769), (8, iV .i64 x2726), (37, bV (x2769 == a2))], [(0, some (.row 1 3 (x2724.map (encInt .i64))))], 1⟩ [] (by kernel_rfl) trivial ?_
        refine AWp.cond (x2769 == a2) rfl (fun c2770 => ?_) (fun c2770 => ?_)
        · replace H := (ifT c2770).symm.trans H
          refine AWp.seq ?_
          refine reg hP hn hm [] [6] [0] ⟨[(6, bV true)], [(0, some (.row 1 3 (x2724.map (encInt .i64))))], 1⟩ [] (by kernel_rfl) trivial ?_
          refine AWp.conv (inv := [(0, 0)]) (vk := []) (e0 := []) (t := ⟨[(6, bV true)], [(0, some (.row 1 3 (x2724.map (encInt .i64))))], 1⟩) (by kernel_rfl) ?_
          refine AWp.ret ?_
          obtain rfl := Option.some.inj H
          exact Exists.intro _ (And.intro (fun _ _ h => h) (And.intro rfl (And.intro rfl (And.intro (by kernel_rfl) (by kernel_rfl)))))
        · replace H := (ifF c2770).symm.trans H
          refine AWp.skip ?_
          refine AWp.seq ?_
          refine AWp.seq ?_
          refine reg hP hn hm [] [0, 1, 2, 7, 8, 41] [0] ⟨[(0, .own 0), (1, iV .i64 a1), (2, iV .i64 a2), (7, iV .i64 x2769), (8, iV .i64 x2726), (41, bV (decide ((IntKind.i64.wrap (a2 - a1)) < (50 : Int))))], [(0, some (.row 1 3 (x2724.map (encInt .i64))))], 1⟩ [] (by kernel_rfl) trivial ?_
          refine AWp.cond (decide ((IntKind.i64.wrap (a2 - a1)) < (50 : Int))) rfl (fun c2771 => ?_) (fun c2771 => ?_)
          · replace H := (ifT c2771).symm.trans H
            refine AWp.seq ?_
            refine reg hP hn hm [] [6] [0] ⟨[(6, bV false)], [(0, some (.row 1 3 (x2724.map (encInt .i64))))], 1⟩ [] (by kernel_rfl) trivial ?_
            refine AWp.conv (inv := [(0, 0)]) (vk := []) (e0 := []) (t := ⟨[(6, bV false)], [(0, some (.row 1 3 (x2724.map (encInt .i64))))], 1⟩) (by kernel_rfl) ?_
            refine AWp.ret ?_
            obtain rfl := Option.some.inj H
            exact Exists.intro _ (And.intro (fun _ _ h => h) (And.intro rfl (And.intro rfl (And.intro (by kernel_rfl) (by kernel_rfl)))))
          · replace H := (ifF c2771).symm.trans H
            refine AWp.skip ?_
            refine AWp.seq ?_
            obtain ⟨b2781, p2782, q2783, H⟩ := at_of H
            obtain ⟨b2784, p2785, q2786, H⟩ := at_of H
            obtain ⟨b2787, p2788, q2789, H⟩ := at_of H
            refine reg hP hn hm [(9, .c ((encInt .i64) b2781)), (13, .c ((encInt .i64) b2784)), (15, .put ((encInt .i64) b2784) ((x2724.set (Int.toNat (x2769)) b2781).map (encInt .i64))), (17, .put ((encInt .i64) b2787) (((x2724.set (Int.toNat (x2769)) b2781).set (Int.toNat (IntKind.i64.wrap (x2769 - (1 : Int)))) b2784).map (encInt .i64)))] [0, 1, 2, 7, 8] [0] ⟨[(0, .own 0), (1, iV .i64 a1), (2, iV .i64 a2), (7, iV .i64 x2769), (8, iV .i64 x2726)], [(0, some (.row 1 3 (((x2724.set (Int.toNat (x2769)) b2781).set (Int.toNat (IntKind.i64.wrap (x2769 - (1 : Int)))) b2784).map (encInt .i64))))], 1⟩ [0 ≤ (IntKind.i64.wrap (x2769 - (1 : Int))), IntKind.i64.wrap (x2769 - (1 : Int)) < (((x2724.map (encInt .i64)).length : Nat) : Int), (x2724.map (encInt .i64))[(Int.toNat (IntKind.i64.wrap (x2769 - (1 : Int))))]? = some ((encInt .i64) b2781), 0 ≤ x2769, x2769 < (((x2724.map (encInt .i64)).length : Nat) : Int), (x2724.map (encInt .i64))[(Int.toNat (x2769))]? = some ((encInt .i64) b2784), 0 ≤ x2769, x2769 < (((x2724.map (encInt .i64)).length : Nat) : Int), (x2724.map (encInt .i64))[(Int.toNat (x2769))]? = some ((encInt .i64) b2784), (x2724.set (Int.toNat (x2769)) b2781).map (encInt .i64) = (x2724.map (encInt .i64)).set (Int.toNat (x2769)) (splice ((encInt .i64) b2784) 0 [iI .i64 b2781]), 0 ≤ (IntKind.i64.wrap (x2769 - (1 : Int))), IntKind.i64.wrap (x2769 - (1 : Int)) < ((((x2724.set (Int.toNat (x2769)) b2781).map (encInt .i64)).length : Nat) : Int), ((x2724.set (Int.toNat (x2769)) b2781).map (encInt .i64))[(Int.toNat (IntKind.i64.wrap (x2769 - (1 : Int))))]? = some ((encInt .i64) b2787), ((x2724.set (Int.toNat (x2769)) b2781).set (Int.toNat (IntKind.i64.wrap (x2769 - (1 : Int)))) b2784).map (encInt .i64) = ((x2724.set (Int.toNat (x2769)) b2781).map (encInt .i64)).set (Int.toNat (IntKind.i64.wrap (x2769 - (1 : Int)))) (splice ((encInt .i64) b2787) 0 [iI .i64 b2784])] (by kernel_rfl) ⟨by exact p2782, by exact el_lt (encInt .i64) p2782 q2783, by exact el_map (encInt .i64) q2783, by exact p2785, by exact el_lt (encInt .i64) p2785 q2786, by exact el_map (encInt .i64) q2786, by exact p2785, by exact el_lt (encInt .i64) p2785 q2786, by exact el_map (encInt .i64) q2786, by exact set1 _ _ _ _, by exact p2788, by exact el_lt (encInt .i64) p2788 q2789, by exact el_map (encInt .i64) q2789, by exact set1 _ _ _ _, trivial⟩ ?_
            refine AWp.seq ?_
            refine AWp.seq ?_
            refine reg hP hn hm [] [0, 1, 2, 7, 8, 61] [0] ⟨[(0, .own 0), (1, iV .i64 a1), (2, iV .i64 a2), (7, iV .i64 x2769), (8, iV .i64 x2726), (61, bV (decide ((IntKind.i64.wrap (x2769 - a1)) ≥ (2 : Int))))], [(0, some (.row 1 3 (((x2724.set (Int.toNat (x2769)) b2781).set (Int.toNat (IntKind.i64.wrap (x2769 - (1 : Int)))) b2784).map (encInt .i64))))], 1⟩ [] (by kernel_rfl) trivial ?_
            obtain ⟨o2903, e2904, H⟩ := bind_of H
            refine AWp.mono (Q := fun e s => (match (generalizing := false) o2903 with | x2842 => e = .normal ∧ s = ⟨[(0, .own 0), (1, iV .i64 a1), (2, iV .i64 a2), (7, iV .i64 x2769), (8, iV .i64 x2726)], [(0, some (.row 1 3 (x2842.map (encInt .i64))))], 1⟩)) (AWp.cv ?_) ?_
            · replace H := e2904; clear e2904
              refine AWp.cond (decide ((IntKind.i64.wrap (x2769 - a1)) ≥ (2 : Int))) rfl (fun c2790 => ?_) (fun c2790 => ?_)
              · replace H := (ifT c2790).symm.trans H
                refine AWp.seq ?_
                refine reg hP hn hm [] [0, 1, 2, 7, 8, 9] [0] ⟨[(0, .own 0), (1, iV .i64 a1), (2, iV .i64 a2), (7, iV .i64 x2769), (8, iV .i64 x2726), (9, iV .i64 (IntKind.i64.wrap (x2769 - (1 : Int))))], [(0, some (.row 1 3 (((x2724.set (Int.toNat (x2769)) b2781).set (Int.toNat (IntKind.i64.wrap (x2769 - (1 : Int)))) b2784).map (encInt .i64))))], 1⟩ [] (by kernel_rfl) trivial ?_
                refine AWp.block ?_
                obtain ⟨o2905, e2906, H⟩ := bind_of H
                refine AWp.loop (LWp.conv (inv := [(0, 0)]) (vk := []) (e0 := []) (t := ⟨[(0, .own 0), (1, iV .i64 a1), (2, iV .i64 a2), (7, iV .i64 x2769), (8, iV .i64 x2726), (9, iV .i64 (IntKind.i64.wrap (x2769 - (1 : Int))))], [(0, some (.row 1 3 (((x2724.set (Int.toNat (x2769)) b2781).set (Int.toNat (IntKind.i64.wrap (x2769 - (1 : Int)))) b2784).map (encInt .i64))))], 1⟩) (by kernel_rfl) ?_)
                refine LWp.mono (Q := fun e s => (match (generalizing := false) o2905 with | x2841 => e = .exit 4 ∧ s = ⟨[(0, .own 0), (1, iV .i64 a1), (2, iV .i64 a2), (7, iV .i64 x2769), (8, iV .i64 x2726)], [(0, some (.row 1 3 (x2841.map (encInt .i64))))], 1⟩)) (LWp.cv (withBody (fun body hbody => ?_))) ?_
                · refine f_slices_partialInsertionSortOrdered_int.l2.partial_correctness a1 a2 x2726 x2769 (motive := fun x2815 x2816 o2905 => LWp Γ body (fun e s => ∃ t, Cv Γ s t ∧ (match (generalizing := false) o2905 with | x2841 => e = .exit 4 ∧ t = ⟨[(0, .own 0), (1, iV .i64 a1), (2, iV .i64 a2), (7, iV .i64 x2769), (8, iV .i64 x2726)], [(0, some (.row 1 3 (x2841.map (encInt .i64))))], 1⟩)) ⟨[(0, .own 0), (1, iV .i64 a1), (2, iV .i64 a2), (7, iV .i64 x2769), (8, iV .i64 x2726), (9, iV .i64 x2816)], [(0, some (.row 1 3 (x2815.map (encInt .i64))))], 1⟩) ?_ _ _ _ e2906
                  clear H e2906 o2905; intro self ih x2815 x2816 o2905 H
                  subst hbody
                  refine LWp.round ?_
                  refine AWp.seq ?_
                  refine AWp.seq ?_
                  refine reg hP hn hm [] [0, 1, 2, 7, 8, 9, 65] [0] ⟨[(0, .own 0), (1, iV .i64 a1), (2, iV .i64 a2), (7, iV .i64 x2769), (8, iV .i64 x2726), (9, iV .i64 x2816), (65, bV (decide (x2816 ≥ (1 : Int))))], [(0, some (.row 1 3 (x2815.map (encInt .i64))))], 1⟩ [] (by kernel_rfl) trivial ?_
                  refine AWp.cond (decide (x2816 ≥ (1 : Int))) rfl (fun c2817 => ?_) (fun c2817 => ?_)
                  · replace H := (ifT c2817).symm.trans H
                    refine AWp.skip ?_
                    refine AWp.seq ?_
                    refine AWp.block ?_
                    refine AWp.seq ?_
                    refine AWp.seq ?_
                    obtain ⟨b2826, p2827, q2828, H⟩ := at_of H
                    obtain ⟨b2829, p2830, q2831, H⟩ := at_of H
                    obtain ⟨t2832, e2833, H⟩ := bind_of H
                    refine reg hP hn hm [(3, .c ((encInt .i64) b2826)), (8, .c ((encInt .i64) b2829)), (9, .call [] [] [] [] 0 (bV t2832) [])] [0, 1, 2, 7, 8, 9, 78] [0] ⟨[(0, .own 0), (1, iV .i64 a1), (2, iV .i64 a2), (7, iV .i64 x2769), (8, iV .i64 x2726), (9, iV .i64 x2816), (78, bV (!t2832))], [(0, some (.row 1 3 (x2815.map (encInt .i64))))], 1⟩ [0 ≤ x2816, x2816 < (((x2815.map (encInt .i64)).length : Nat) : Int), (x2815.map (encInt .i64))[(Int.toNat (x2816))]? = some ((encInt .i64) b2826), 0 ≤ (IntKind.i64.wrap (x2816 - (1 : Int))), IntKind.i64.wrap (x2816 - (1 : Int)) < (((x2815.map (encInt .i64)).length : Nat) : Int), (x2815.map (encInt .i64))[(Int.toNat (IntKind.i64.wrap (x2816 - (1 : Int))))]? = some ((encInt .i64) b2829), Enters Try.prog 73, Pv.Fn Try.prog 73 [iV .i64 b2826, iV .i64 b2829] [] 0 (fun r o => r = bV t2832 ∧ o = [])] (by kernel_rfl) ⟨by exact p2827, by exact el_lt (encInt .i64) p2827 q2828, by exact el_map (encInt .i64) q2828, by exact p2830, by exact el_lt (encInt .i64) p2830 q2831, by exact el_map (encInt .i64) q2831, by exact Try.call73, by exact f_cmp_Less_int.ok b2826 b2829 t2832 e2833, trivial⟩ ?_
                    refine AWp.cond (!t2832) rfl (fun c2834 => ?_) (fun c2834 => ?_)
                    · replace H := (ifT c2834).symm.trans H
                      refine AWp.exit ?_
                      obtain rfl := Option.some.inj H
                      exact Exists.intro _ (And.intro (fun _ _ h => h.conv (inv := [(0, 0)]) (vk := []) (e0 := []) (t := ⟨[(0, .own 0), (1, iV .i64 a1), (2, iV .i64 a2), (7, iV .i64 x2769), (8, iV .i64 x2726)], [(0, some (.row 1 3 (x2815.map (encInt .i64))))], 1⟩) (by kernel_rfl)) (And.intro rfl rfl))
                    · replace H := (ifF c2834).symm.trans H
                      refine AWp.skip ?_
                      obtain ⟨b2838, p2839, q2840, H⟩ := at_of H
                      refine reg hP hn hm [(9, .c ((encInt .i64) b2829)), (13, .c ((encInt .i64) b2826)), (15, .put ((encInt .i64) b2826) ((x2815.set (Int.toNat (x2816)) b2829).map (encInt .i64))), (17, .put ((encInt .i64) b2838) (((x2815.set (Int.toNat (x2816)) b2829).set (Int.toNat (IntKind.i64.wrap (x2816 - (1 : Int)))) b2826).map (encInt .i64)))] [0, 1, 2, 7, 8, 9] [0] ⟨[(0, .own 0), (1, iV .i64 a1), (2, iV .i64 a2), (7, iV .i64 x2769), (8, iV .i64 x2726), (9, iV .i64 x2816)], [(0, some (.row 1 3 (((x2815.set (Int.toNat (x2816)) b2829).set (Int.toNat (IntKind.i64.wrap (x2816 - (1 : Int)))) b2826).map (encInt .i64))))], 1⟩ [0 ≤ (IntKind.i64.wrap (x2816 - (1 : Int))), IntKind.i64.wrap (x2816 - (1 : Int)) < (((x2815.map (encInt .i64)).length : Nat) : Int), (x2815.map (encInt .i64))[(Int.toNat (IntKind.i64.wrap (x2816 - (1 : Int))))]? = some ((encInt .i64) b2829), 0 ≤ x2816, x2816 < (((x2815.map (encInt .i64)).length : Nat) : Int), (x2815.map (encInt .i64))[(Int.toNat (x2816))]? = some ((encInt .i64) b2826), 0 ≤ x2816, x2816 < (((x2815.map (encInt .i64)).length : Nat) : Int), (x2815.map (encInt .i64))[(Int.toNat (x2816))]? = some ((encInt .i64) b2826), (x2815.set (Int.toNat (x2816)) b2829).map (encInt .i64) = (x2815.map (encInt .i64)).set (Int.toNat (x2816)) (splice ((encInt .i64) b2826) 0 [iI .i64 b2829]), 0 ≤ (IntKind.i64.wrap (x2816 - (1 : Int))), IntKind.i64.wrap (x2816 - (1 : Int)) < ((((x2815.set (Int.toNat (x2816)) b2829).map (encInt .i64)).length : Nat) : Int), ((x2815.set (Int.toNat (x2816)) b2829).map (encInt .i64))[(Int.toNat (IntKind.i64.wrap (x2816 - (1 : Int))))]? = some ((encInt .i64) b2838), ((x2815.set (Int.toNat (x2816)) b2829).set (Int.toNat (IntKind.i64.wrap (x2816 - (1 : Int)))) b2826).map (encInt .i64) = ((x2815.set (Int.toNat (x2816)) b2829).map (encInt .i64)).set (Int.toNat (IntKind.i64.wrap (x2816 - (1 : Int)))) (splice ((encInt .i64) b2838) 0 [iI .i64 b2826])] (by kernel_rfl) ⟨by exact p2830, by exact el_lt (encInt .i64) p2830 q2831, by exact el_map (encInt .i64) q2831, by exact p2827, by exact el_lt (encInt .i64) p2827 q2828, by exact el_map (encInt .i64) q2828, by exact p2827, by exact el_lt (encInt .i64) p2827 q2828, by exact el_map (encInt .i64) q2828, by exact set1 _ _ _ _, by exact p2839, by exact el_lt (encInt .i64) p2839 q2840, by exact el_map (encInt .i64) q2840, by exact set1 _ _ _ _, trivial⟩ ?_
                      refine reg hP hn hm [] [0, 1, 2, 7, 8, 9] [0] ⟨[(0, .own 0), (1, iV .i64 a1), (2, iV .i64 a2), (7, iV .i64 x2769), (8, iV .i64 x2726), (9, iV .i64 (IntKind.i64.wrap (x2816 - (1 : Int))))], [(0, some (.row 1 3 (((x2815.set (Int.toNat (x2816)) b2829).set (Int.toNat (IntKind.i64.wrap (x2816 - (1 : Int)))) b2826).map (encInt .i64))))], 1⟩ [] (by kernel_rfl) trivial ?_
                      exact LWp.conv (inv := [(0, 0)]) (vk := []) (e0 := []) (t := ⟨[(0, .own 0), (1, iV .i64 a1), (2, iV .i64 a2), (7, iV .i64 x2769), (8, iV .i64 x2726), (9, iV .i64 (IntKind.i64.wrap (x2816 - (1 : Int))))], [(0, some (.row 1 3 (((x2815.set (Int.toNat (x2816)) b2829).set (Int.toNat (IntKind.i64.wrap (x2816 - (1 : Int)))) b2826).map (encInt .i64))))], 1⟩) (by kernel_rfl) (ih _ _ _ H)
                  · replace H := (ifF c2817).symm.trans H
                    refine AWp.exit ?_
                    obtain rfl := Option.some.inj H
                    exact Exists.intro _ (And.intro (fun _ _ h => h.conv (inv := [(0, 0)]) (vk := []) (e0 := []) (t := ⟨[(0, .own 0), (1, iV .i64 a1), (2, iV .i64 a2), (7, iV .i64 x2769), (8, iV .i64 x2726)], [(0, some (.row 1 3 (x2815.map (encInt .i64))))], 1⟩) (by kernel_rfl)) (And.intro rfl rfl))
                · obtain ⟨x2841, rfl⟩ : ∃ z, z = o2905 := ⟨_, rfl⟩
                  rintro e s ⟨rfl, rfl⟩
                  obtain rfl := Option.some.inj H
                  exact Exists.intro _ (And.intro (fun _ _ h => h.conv (inv := [(0, 0)]) (vk := []) (e0 := []) (t := ⟨[(0, .own 0), (1, iV .i64 a1), (2, iV .i64 a2), (7, iV .i64 x2769), (8, iV .i64 x2726)], [(0, some (.row 1 3 (x2841.map (encInt .i64))))], 1⟩) (by kernel_rfl)) (And.intro rfl rfl))
              · replace H := (ifF c2790).symm.trans H
                refine AWp.skip ?_
                obtain rfl := Option.some.inj H
                exact Exists.intro _ (And.intro (fun _ _ h => h.conv (inv := [(0, 0)]) (vk := []) (e0 := []) (t := ⟨[(0, .own 0), (1, iV .i64 a1), (2, iV .i64 a2), (7, iV .i64 x2769), (8, iV .i64 x2726)], [(0, some (.row 1 3 (((x2724.set (Int.toNat (x2769)) b2781).set (Int.toNat (IntKind.i64.wrap (x2769 - (1 : Int)))) b2784).map (encInt .i64))))], 1⟩) (by kernel_rfl)) (And.intro rfl rfl))
            · obtain ⟨x2842, rfl⟩ : ∃ z, z = o2903 := ⟨_, rfl⟩
              rintro e s ⟨rfl, rfl⟩
              refine AWp.seq ?_
              refine reg hP hn hm [] [0, 1, 2, 7, 8, 98] [0] ⟨[(0, .own 0), (1, iV .i64 a1), (2, iV .i64 a2), (7, iV .i64 x2769), (8, iV .i64 x2726), (98, bV (decide ((IntKind.i64.wrap (a2 - x2769)) ≥ (2 : Int))))], [(0, some (.row 1 3 (x2842.map (encInt .i64))))], 1⟩ [] (by kernel_rfl) trivial ?_
              obtain ⟨o2907, e2908, H⟩ := bind_of H
              refine AWp.mono (Q := fun e s => (match (generalizing := false) o2907 with | x2895 => e = .normal ∧ s = ⟨[(0, .own 0), (1, iV .i64 a1), (2, iV .i64 a2), (7, iV .i64 x2769), (8, iV .i64 x2726)], [(0, some (.row 1 3 (x2895.map (encInt .i64))))], 1⟩)) (AWp.cv ?_) ?_
              · replace H := e2908; clear e2908
                refine AWp.cond (decide ((IntKind.i64.wrap (a2 - x2769)) ≥ (2 : Int))) rfl (fun c2843 => ?_) (fun c2843 => ?_)
                · replace H := (ifT c2843).symm.trans H
                  refine AWp.seq ?_
                  refine reg hP hn hm [] [0, 1, 2, 7, 8, 10] [0] ⟨[(0, .own 0), (1, iV .i64 a1), (2, iV .i64 a2), (7, iV .i64 x2769), (8, iV .i64 x2726), (10, iV .i64 (IntKind.i64.wrap (x2769 + (1 : Int))))], [(0, some (.row 1 3 (x2842.map (encInt .i64))))], 1⟩ [] (by kernel_rfl) trivial ?_
                  refine AWp.block ?_
                  obtain ⟨o2909, e2910, H⟩ := bind_of H
                  refine AWp.loop (LWp.conv (inv := [(0, 0)]) (vk := []) (e0 := []) (t := ⟨[(0, .own 0), (1, iV .i64 a1), (2, iV .i64 a2), (7, iV .i64 x2769), (8, iV .i64 x2726), (10, iV .i64 (IntKind.i64.wrap (x2769 + (1 : Int))))], [(0, some (.row 1 3 (x2842.map (encInt .i64))))], 1⟩) (by kernel_rfl) ?_)
                  refine LWp.mono (Q := fun e s => (match (generalizing := false) o2909 with | x2894 => e = .exit 6 ∧ s = ⟨[(0, .own 0), (1, iV .i64 a1), (2, iV .i64 a2), (7, iV .i64 x2769), (8, iV .i64 x2726)], [(0, some (.row 1 3 (x2894.map (encInt .i64))))], 1⟩)) (LWp.cv (withBody (fun body hbody => ?_))) ?_
                  · refine f_slices_partialInsertionSortOrdered_int.l3.partial_correctness a1 a2 x2726 x2769 (motive := fun x2868 x2869 o2909 => LWp Γ body (fun e s => ∃ t, Cv Γ s t ∧ (match (generalizing := false) o2909 with | x2894 => e = .exit 6 ∧ t = ⟨[(0, .own 0), (1, iV .i64 a1), (2, iV .i64 a2), (7, iV .i64 x2769), (8, iV .i64 x2726)], [(0, some (.row 1 3 (x2894.map (encInt .i64))))], 1⟩)) ⟨[(0, .own 0), (1, iV .i64 a1), (2, iV .i64 a2), (7, iV .i64 x2769), (8, iV .i64 x2726), (10, iV .i64 x2869)], [(0, some (.row 1 3 (x2868.map (encInt .i64))))], 1⟩) ?_ _ _ _ e2910
                    clear H e2910 o2909; intro self ih x2868 x2869 o2909 H
                    subst hbody
                    refine LWp.round ?_
                    refine AWp.seq ?_
                    refine AWp.seq ?_
                    refine reg hP hn hm [] [0, 1, 2, 7, 8, 10, 103] [0] ⟨[(0, .own 0), (1, iV .i64 a1), (2, iV .i64 a2), (7, iV .i64 x2769), (8, iV .i64 x2726), (10, iV .i64 x2869), (103, bV (decide (x2869 < a2)))], [(0, some (.row 1 3 (x2868.map (encInt .i64))))], 1⟩ [] (by kernel_rfl) trivial ?_
                    refine AWp.cond (decide (x2869 < a2)) rfl (fun c2870 => ?_) (fun c2870 => ?_)
                    · replace H := (ifT c2870).symm.trans H
                      refine AWp.skip ?_
                      refine AWp.seq ?_
                      refine AWp.block ?_
                      refine AWp.seq ?_
                      refine AWp.seq ?_
                      obtain ⟨b2879, p2880, q2881, H⟩ := at_of H
                      obtain ⟨b2882, p2883, q2884, H⟩ := at_of H
                      obtain ⟨t2885, e2886, H⟩ := bind_of H
                      refine reg hP hn hm [(3, .c ((encInt .i64) b2879)), (8, .c ((encInt .i64) b2882)), (9, .call [] [] [] [] 0 (bV t2885) [])] [0, 1, 2, 7, 8, 10, 116] [0] ⟨[(0, .own 0), (1, iV .i64 a1), (2, iV .i64 a2), (7, iV .i64 x2769), (8, iV .i64 x2726), (10, iV .i64 x2869), (116, bV (!t2885))], [(0, some (.row 1 3 (x2868.map (encInt .i64))))], 1⟩ [0 ≤ x2869, x2869 < (((x2868.map (encInt .i64)).length : Nat) : Int), (x2868.map (encInt .i64))[(Int.toNat (x2869))]? = some ((encInt .i64) b2879), 0 ≤ (IntKind.i64.wrap (x2869 - (1 : Int))), IntKind.i64.wrap (x2869 - (1 : Int)) < (((x2868.map (encInt .i64)).length : Nat) : Int), (x2868.map (encInt .i64))[(Int.toNat (IntKind.i64.wrap (x2869 - (1 : Int))))]? = some ((encInt .i64) b2882), Enters Try.prog 73, Pv.Fn Try.prog 73 [iV .i64 b2879, iV .i64 b2882] [] 0 (fun r o => r = bV t2885 ∧ o = [])] (by kernel_rfl) ⟨by exact p2880, by exact el_lt (encInt .i64) p2880 q2881, by exact el_map (encInt .i64) q2881, by exact p2883, by exact el_lt (encInt .i64) p2883 q2884, by exact el_map (encInt .i64) q2884, by exact Try.call73, by exact f_cmp_Less_int.ok b2879 b2882 t2885 e2886, trivial⟩ ?_
                      refine AWp.cond (!t2885) rfl (fun c2887 => ?_) (fun c2887 => ?_)
                      · replace H := (ifT c2887).symm.trans H
                        refine AWp.exit ?_
                        obtain rfl := Option.some.inj H
                        exact Exists.intro _ (And.intro (fun _ _ h => h.conv (inv := [(0, 0)]) (vk := []) (e0 := []) (t := ⟨[(0, .own 0), (1, iV .i64 a1), (2, iV .i64 a2), (7, iV .i64 x2769), (8, iV .i64 x2726)], [(0, some (.row 1 3 (x2868.map (encInt .i64))))], 1⟩) (by kernel_rfl)) (And.intro rfl rfl))
                      · replace H := (ifF c2887).symm.trans H
                        refine AWp.skip ?_
                        obtain ⟨b2891, p2892, q2893, H⟩ := at_of H
                        refine reg hP hn hm [(9, .c ((encInt .i64) b2882)), (13, .c ((encInt .i64) b2879)), (15, .put ((encInt .i64) b2879) ((x2868.set (Int.toNat (x2869)) b2882).map (encInt .i64))), (17, .put ((encInt .i64) b2891) (((x2868.set (Int.toNat (x2869)) b2882).set (Int.toNat (IntKind.i64.wrap (x2869 - (1 : Int)))) b2879).map (encInt .i64)))] [0, 1, 2, 7, 8, 10] [0] ⟨[(0, .own 0), (1, iV .i64 a1), (2, iV .i64 a2), (7, iV .i64 x2769), (8, iV .i64 x2726), (10, iV .i64 x2869)], [(0, some (.row 1 3 (((x2868.set (Int.toNat (x2869)) b2882).set (Int.toNat (IntKind.i64.wrap (x2869 - (1 : Int)))) b2879).map (encInt .i64))))], 1⟩ [0 ≤ (IntKind.i64.wrap (x2869 - (1 : Int))), IntKind.i64.wrap (x2869 - (1 : Int)) < (((x2868.map (encInt .i64)).length : Nat) : Int), (x2868.map (encInt .i64))[(Int.toNat (IntKind.i64.wrap (x2869 - (1 : Int))))]? = some ((encInt .i64) b2882), 0 ≤ x2869, x2869 < (((x2868.map (encInt .i64)).length : Nat) : Int), (x2868.map (encInt .i64))[(Int.toNat (x2869))]? = some ((encInt .i64) b2879), 0 ≤ x2869, x2869 < (((x2868.map (encInt .i64)).length : Nat) : Int), (x2868.map (encInt .i64))[(Int.toNat (x2869))]? = some ((encInt .i64) b2879), (x2868.set (Int.toNat (x2869)) b2882).map (encInt .i64) = (x2868.map (encInt .i64)).set (Int.toNat (x2869)) (splice ((encInt .i64) b2879) 0 [iI .i64 b2882]), 0 ≤ (IntKind.i64.wrap (x2869 - (1 : Int))), IntKind.i64.wrap (x2869 - (1 : Int)) < ((((x2868.set (Int.toNat (x2869)) b2882).map (encInt .i64)).length : Nat) : Int), ((x2868.set (Int.toNat (x2869)) b2882).map (encInt .i64))[(Int.toNat (IntKind.i64.wrap (x2869 - (1 : Int))))]? = some ((encInt .i64) b2891), ((x2868.set (Int.toNat (x2869)) b2882).set (Int.toNat (IntKind.i64.wrap (x2869 - (1 : Int)))) b2879).map (encInt .i64) = ((x2868.set (Int.toNat (x2869)) b2882).map (encInt .i64)).set (Int.toNat (IntKind.i64.wrap (x2869 - (1 : Int)))) (splice ((encInt .i64) b2891) 0 [iI .i64 b2879])] (by kernel_rfl) ⟨by exact p2883, by exact el_lt (encInt .i64) p2883 q2884, by exact el_map (encInt .i64) q2884, by exact p2880, by exact el_lt (encInt .i64) p2880 q2881, by exact el_map (encInt .i64) q2881, by exact p2880, by exact el_lt (encInt .i64) p2880 q2881, by exact el_map (encInt .i64) q2881, by exact set1 _ _ _ _, by exact p2892, by exact el_lt (encInt .i64) p2892 q2893, by exact el_map (encInt .i64) q2893, by exact set1 _ _ _ _, trivial⟩ ?_
                        refine reg hP hn hm [] [0, 1, 2, 7, 8, 10] [0] ⟨[(0, .own 0), (1, iV .i64 a1), (2, iV .i64 a2), (7, iV .i64 x2769), (8, iV .i64 x2726), (10, iV .i64 (IntKind.i64.wrap (x2869 + (1 : Int))))], [(0, some (.row 1 3 (((x2868.set (Int.toNat (x2869)) b2882).set (Int.toNat (IntKind.i64.wrap (x2869 - (1 : Int)))) b2879).map (encInt .i64))))], 1⟩ [] (by kernel_rfl) trivial ?_
                        exact LWp.conv (inv := [(0, 0)]) (vk := []) (e0 := []) (t := ⟨[(0, .own 0), (1, iV .i64 a1), (2, iV .i64 a2), (7, iV .i64 x2769), (8, iV .i64 x2726), (10, iV .i64 (IntKind.i64.wrap (x2869 + (1 : Int))))], [(0, some (.row 1 3 (((x2868.set (Int.toNat (x2869)) b2882).set (Int.toNat (IntKind.i64.wrap (x2869 - (1 : Int)))) b2879).map (encInt .i64))))], 1⟩) (by kernel_rfl) (ih _ _ _ H)
                    · replace H := (ifF c2870).symm.trans H
                      refine AWp.exit ?_
                      obtain rfl := Option.some.inj H
                      exact Exists.intro _ (And.intro (fun _ _ h => h.conv (inv := [(0, 0)]) (vk := []) (e0 := []) (t := ⟨[(0, .own 0), (1, iV .i64 a1), (2, iV .i64 a2), (7, iV .i64 x2769), (8, iV .i64 x2726)], [(0, some (.row 1 3 (x2868.map (encInt .i64))))], 1⟩) (by kernel_rfl)) (And.intro rfl rfl))
                  · obtain ⟨x2894, rfl⟩ : ∃ z, z = o2909 := ⟨_, rfl⟩
                    rintro e s ⟨rfl, rfl⟩
                    obtain rfl := Option.some.inj H
                    exact Exists.intro _ (And.intro (fun _ _ h => h.conv (inv := [(0, 0)]) (vk := []) (e0 := []) (t := ⟨[(0, .own 0), (1, iV .i64 a1), (2, iV .i64 a2), (7, iV .i64 x2769), (8, iV .i64 x2726)], [(0, some (.row 1 3 (x2894.map (encInt .i64))))], 1⟩) (by kernel_rfl)) (And.intro rfl rfl))
                · replace H := (ifF c2843).symm.trans H
                  refine AWp.skip ?_
                  obtain rfl := Option.some.inj H
                  exact Exists.intro _ (And.intro (fun _ _ h => h.conv (inv := [(0, 0)]) (vk := []) (e0 := []) (t := ⟨[(0, .own 0), (1, iV .i64 a1), (2, iV .i64 a2), (7, iV .i64 x2769), (8, iV .i64 x2726)], [(0, some (.row 1 3 (x2842.map (encInt .i64))))], 1⟩) (by kernel_rfl)) (And.intro rfl rfl))
              · obtain ⟨x2895, rfl⟩ : ∃ z, z = o2907 := ⟨_, rfl⟩
                rintro e s ⟨rfl, rfl⟩
                refine reg hP hn hm [] [0, 1, 2, 7, 8] [0] ⟨[(0, .own 0), (1, iV .i64 a1), (2, iV .i64 a2), (7, iV .i64 x2769), (8, iV .i64 (IntKind.i64.wrap (x2726 + (1 : Int))))], [(0, some (.row 1 3 (x2895.map (encInt .i64))))], 1⟩ [] (by kernel_rfl) trivial ?_
                exact LWp.conv (inv := [(0, 0)]) (vk := []) (e0 := []) (t := ⟨[(0, .own 0), (1, iV .i64 a1), (2, iV .i64 a2), (7, iV .i64 x2769), (8, iV .i64 (IntKind.i64.wrap (x2726 + (1 : Int))))], [(0, some (.row 1 3 (x2895.map (encInt .i64))))], 1⟩) (by kernel_rfl) (ih _ _ _ _ H)
    · replace H := (ifF c2727).symm.trans H
      refine AWp.exit ?_
      obtain rfl := Option.some.inj H
      exact Exists.intro _ (And.intro (fun _ _ h => h.conv (inv := [(0, 0)]) (vk := []) (e0 := []) (t := ⟨[], [(0, some (.row 1 3 (x2724.map (encInt .i64))))], 1⟩) (by kernel_rfl)) (And.intro rfl rfl))
  · rcases o2897 with rr | x2896
    · skip
      rintro e s ⟨rfl, hfl, hres⟩
      obtain rfl := Option.some.inj H
      exact Exists.intro _ (And.intro (fun _ _ h => h) (And.intro (.inl rfl) (And.intro hfl hres)))
    · skip
      rintro e s ⟨rfl, rfl⟩
      refine AWp.seq ?_
      refine reg hP hn hm [] [6] [0] ⟨[(6, bV false)], [(0, some (.row 1 3 (x2896.map (encInt .i64))))], 1⟩ [] (by kernel_rfl) trivial ?_
      refine AWp.conv (inv := [(0, 0)]) (vk := []) (e0 := []) (t := ⟨[(6, bV false)], [(0, some (.row 1 3 (x2896.map (encInt .i64))))], 1⟩) (by kernel_rfl) ?_
      refine AWp.ret ?_
      obtain rfl := Option.some.inj H
      exact Exists.intro _ (And.intro (fun _ _ h => h) (And.intro (.inl rfl) (And.intro rfl (And.intro (by kernel_rfl) (by kernel_rfl)))))
def f_slices_partitionEqualOrdered_int.l1 (a1 : Int) (x3058 : List Int) (x3060 : Int) (x3081 : Int) : Option (Int) := ((if (decide (x3081 ≤ x3060)) = true then ((at? x3058 a1) >>= fun b3092 => (at? x3058 x3081) >>= fun b3095 => (f_cmp_Less_int.f b3092 b3095) >>= fun t3098 => some (!t3098)) else (some false)) : Option (Bool)) >>= fun x3100 => if x3100 = true then (f_slices_partitionEqualOrdered_int.l1 a1 x3058 x3060 (IntKind.i64.wrap (x3081 + (1 : Int)))) else (some x3081)
partial_fixpoint
def f_slices_partitionEqualOrdered_int.l2 (a1 : Int) (x3058 : List Int) (x3102 : Int) (x3123 : Int) : Option (Int) := ((if (decide (x3102 ≤ x3123)) = true then ((at? x3058 a1) >>= fun b3134 => (at? x3058 x3123) >>= fun b3137 => (f_cmp_Less_int.f b3134 b3137) >>= fun t3140 => some t3140) else (some false)) : Option (Bool)) >>= fun x3142 => if x3142 = true then (f_slices_partitionEqualOrdered_int.l2 a1 x3058 x3102 (IntKind.i64.wrap (x3123 - (1 : Int)))) else (some x3123)
partial_fixpoint
def f_slices_partitionEqualOrdered_int.l0 (a1 : Int) (x3058 : List Int) (x3059 : Int) (x3060 : Int) : Option (Int × (List Int)) := (f_slices_partitionEqualOrdered_int.l1 a1 x3058 x3060 x3059) >>= fun x3102 => (f_slices_partitionEqualOrdered_int.l2 a1 x3058 x3102 x3060) >>= fun x3144 => if (decide (x3102 > x3144)) = true then (some (x3102, x3058)) else ((at? x3058 x3144) >>= fun b3155 => (at? x3058 x3102) >>= fun b3158 => (at? (x3058.set (Int.toNat (x3102)) b3155) x3144) >>= fun b3161 => f_slices_partitionEqualOrdered_int.l0 a1 ((x3058.set (Int.toNat (x3102)) b3155).set (Int.toNat (x3144)) b3158) (IntKind.i64.wrap (x3102 + (1 : Int))) (IntKind.i64.wrap (x3144 - (1 : Int))))
partial_fixpoint
def f_slices_partitionEqualOrdered_int.f (a0 : List Int) (a1 : Int) (a2 : Int) (a3 : Int) : Option (Int × (List Int)) := (at? a0 a3) >>= fun b2946 => (at? a0 a1) >>= fun b2949 => (at? (a0.set (Int.toNat (a1)) b2946) a3) >>= fun b2952 => (f_slices_partitionEqualOrdered_int.l0 a1 ((a0.set (Int.toNat (a1)) b2946).set (Int.toNat (a3)) b2949) (IntKind.i64.wrap (a1 + (1 : Int))) (IntKind.i64.wrap (a2 - (1 : Int)))) >>= fun oo => match oo with | (x3164, x3165) => (some (x3164, x3165))
theorem f_slices_partitionEqualOrdered_int.ok (a0 : List Int) (a1 : Int) (a2 : Int) (a3 : Int) (r : Int × (List Int)) (H : f_slices_partitionEqualOrdered_int.f a0 a1 a2 a3 = some r) : Pv.Fn Try.prog 74 [.own 0, iV .i64 a1, iV .i64 a2, iV .i64 a3] [(0, some (.row 1 3 (a0.map (encInt .i64))))] 1 (fun x o => x = iV .i64 r.1 ∧ o = [(0, some (.row 1 3 (r.2.map (encInt .i64))))]) := by
  unfold f_slices_partitionEqualOrdered_int.f at H
  refine Fn.bodyK [0] Try.func74 rfl rfl (fun Γ hP hn => ?_)
  have hm : Try.prog.follows .mixedOrders = true := by kernel_rfl
  replace hn : Γ.n = 84 := hn
  refine AWp.seq ?_
  refine reg hP hn hm [] [0, 1, 2, 3] [0] ⟨[(0, .own 0), (1, iV .i64 a1), (2, iV .i64 a2), (3, iV .i64 a3)], [(0, some (.row 1 3 (a0.map (encInt .i64))))], 1⟩ [] (by kernel_rfl) trivial ?_
  refine AWp.seq ?_
  obtain ⟨b2946, p2947, q2948, H⟩ := at_of H
  obtain ⟨b2949, p2950, q2951, H⟩ := at_of H
  obtain ⟨b2952, p2953, q2954, H⟩ := at_of H
  refine reg hP hn hm [(7, .c ((encInt .i64) b2946)), (11, .c ((encInt .i64) b2949)), (13, .put ((encInt .i64) b2949) ((a0.set (Int.toNat (a1)) b2946).map (encInt .i64))), (15, .put ((encInt .i64) b2952) (((a0.set (Int.toNat (a1)) b2946).set (Int.toNat (a3)) b2949).map (encInt .i64)))] [0, 1, 2] [0] ⟨[(0, .own 0), (1, iV .i64 a1), (2, iV .i64 a2)], [(0, some (.row 1 3 (((a0.set (Int.toNat (a1)) b2946).set (Int.toNat (a3)) b2949).map (encInt .i64))))], 1⟩ [0 ≤ a3, a3 < (((a0.map (encInt .i64)).length : Nat) : Int), (a0.map (encInt .i64))[(Int.toNat (a3))]? = some ((encInt .i64) b2946), 0 ≤ a1, a1 < (((a0.map (encInt .i64)).length : Nat) : Int), (a0.map (encInt .i64))[(Int.toNat (a1))]? = some ((encInt .i64) b2949), 0 ≤ a1, a1 < (((a0.map (encInt .i64)).length : Nat) : Int), (a0.map (encInt .i64))[(Int.toNat (a1))]? = some ((encInt .i64) b2949), (a0.set (Int.toNat (a1)) b2946).map (encInt .i64) = (a0.map (encInt .i64)).set (Int.toNat (a1)) (splice ((encInt .i64) b2949) 0 [iI .i64 b2946]), 0 ≤ a3, a3 < ((((a0.set (Int.toNat (a1)) b2946).map (encInt .i64)).length : Nat) : Int), ((a0.set (Int.toNat (a1)) b2946).map (encInt .i64))[(Int.toNat (a3))]? = some ((encInt .i64) b2952), ((a0.set (Int.toNat (a1)) b2946).set (Int.toNat (a3)) b2949).map (encInt .i64) = ((a0.set (Int.toNat (a1)) b2946).map (encInt .i64)).set (Int.toNat (a3)) (splice ((encInt .i64) b2952) 0 [iI .i64 b2949])] (by kernel_rfl) ⟨by exact p2947, by exact el_lt (encInt .i64) p2947 q2948, by exact el_map (encInt .i64) q2948, by exact p2950, by exact el_lt (encInt .i64) p2950 q2951, by exact el_map (encInt .i64) q2951, by exact p2950, by exact el_lt (encInt .i64) p2950 q2951, by exact el_map (encInt .i64) q2951, by exact set1 _ _ _ _, by exact p2953, by exact el_lt (encInt .i64) p2953 q2954, by exact el_map (encInt .i64) q2954, by exact set1 _ _ _ _, trivial⟩ ?_
  refine AWp.seq ?_
  refine reg hP hn hm [] [0, 1, 9, 10] [0] ⟨[(0, .own 0), (1, iV .i64 a1), (9, iV .i64 (IntKind.i64.wrap (a1 + (1 : Int)))), (10, iV .i64 (IntKind.i64.wrap (a2 - (1 : Int))))], [(0, some (.row 1 3 (((a0.set (Int.toNat (a1)) b2946).set (Int.toNat (a3)) b2949).map (encInt .i64))))], 1⟩ [] (by kernel_rfl) trivial ?_
  refine AWp.seq ?_
  refine AWp.block ?_
  obtain ⟨o3166, e3167, H⟩ := bind_of H
  refine AWp.loop (LWp.conv (inv := [(0, 0)]) (vk := []) (e0 := []) (t := ⟨[(0, .own 0), (1, iV .i64 a1), (9, iV .i64 (IntKind.i64.wrap (a1 + (1 : Int)))), (10, iV .i64 (IntKind.i64.wrap (a2 - (1 : Int))))], [(0, some (.row 1 3 (((a0.set (Int.toNat (a1)) b2946).set (Int.toNat (a3)) b2949).map (encInt .i64))))], 1⟩) (by kernel_rfl) ?_)
  refine LWp.mono (Q := fun e s => (match (generalizing := false) o3166 with | (x3164, x3165) => e = .exit 0 ∧ s = ⟨[(9, iV .i64 x3164)], [(0, some (.row 1 3 (x3165.map (encInt .i64))))], 1⟩)) (LWp.cv (withBody (fun body hbody => ?_))) ?_
  · refine f_slices_partitionEqualOrdered_int.l0.partial_correctness a1 (motive := fun x3058 x3059 x3060 o3166 => LWp Γ body (fun e s => ∃ t, Cv Γ s t ∧ (match (generalizing := false) o3166 with | (x3164, x3165) => e = .exit 0 ∧ t = ⟨[(9, iV .i64 x3164)], [(0, some (.row 1 3 (x3165.map (encInt .i64))))], 1⟩)) ⟨[(0, .own 0), (1, iV .i64 a1), (9, iV .i64 x3059), (10, iV .i64 x3060)], [(0, some (.row 1 3 (x3058.map (encInt .i64))))], 1⟩) ?_ _ _ _ _ e3167
    clear H e3167 o3166; intro self ih x3058 x3059 x3060 o3166 H
    subst hbody
    refine LWp.round ?_
    refine AWp.block ?_
    refine AWp.seq ?_
    refine AWp.block ?_
    obtain ⟨o3168, e3169, H⟩ := bind_of H
    refine AWp.loop (LWp.conv (inv := [(0, 0)]) (vk := []) (e0 := []) (t := ⟨[(0, .own 0), (1, iV .i64 a1), (9, iV .i64 x3059), (10, iV .i64 x3060)], [(0, some (.row 1 3 (x3058.map (encInt .i64))))], 1⟩) (by kernel_rfl) ?_)
    refine LWp.mono (Q := fun e s => (match (generalizing := false) o3168 with | x3102 => e = .exit 2 ∧ s = ⟨[(0, .own 0), (1, iV .i64 a1), (9, iV .i64 x3102), (10, iV .i64 x3060)], [(0, some (.row 1 3 (x3058.map (encInt .i64))))], 1⟩)) (LWp.cv (withBody (fun body hbody => ?_))) ?_
    · refine f_slices_partitionEqualOrdered_int.l1.partial_correctness a1 x3058 x3060 (motive := fun x3081 o3168 => LWp Γ body (fun e s => ∃ t, Cv Γ s t ∧ (match (generalizing := false) o3168 with | x3102 => e = .exit 2 ∧ t = ⟨[(0, .own 0), (1, iV .i64 a1), (9, iV .i64 x3102), (10, iV .i64 x3060)], [(0, some (.row 1 3 (x3058.map (encInt .i64))))], 1⟩)) ⟨[(0, .own 0), (1, iV .i64 a1), (9, iV .i64 x3081), (10, iV .i64 x3060)], [(0, some (.row 1 3 (x3058.map (encInt .i64))))], 1⟩) ?_ _ _ e3169
      clear H e3169 o3168; intro self ih x3081 o3168 H
      subst hbody
      refine LWp.round ?_
      refine AWp.seq ?_
      refine AWp.seq ?_
      obtain ⟨o3170, e3171, H⟩ := bind_of H
      refine AWp.mono (Q := fun e s => (match (generalizing := false) o3170 with | x3100 => e = .normal ∧ s = ⟨[(0, .own 0), (1, iV .i64 a1), (9, iV .i64 x3081), (10, iV .i64 x3060), (43, bV x3100)], [(0, some (.row 1 3 (x3058.map (encInt .i64))))], 1⟩)) (AWp.cv ?_) ?_
      · replace H := e3171; clear e3171
        rcases Bool.eq_false_or_eq_true (decide (x3081 ≤ x3060)) with c3091 | c3091
        · replace H := (ifT c3091).symm.trans H
          obtain ⟨b3092, p3093, q3094, H⟩ := at_of H
          obtain ⟨b3095, p3096, q3097, H⟩ := at_of H
          obtain ⟨t3098, e3099, H⟩ := bind_of H
          refine reg hP hn hm [(3, .b true), (7, .c ((encInt .i64) b3092)), (11, .c ((encInt .i64) b3095)), (12, .call [] [] [] [] 0 (bV t3098) [])] [0, 1, 9, 10, 33, 34, 35, 36, 37, 38, 39, 40, 41, 42, 43] [0] ⟨[(0, .own 0), (1, iV .i64 a1), (9, iV .i64 x3081), (10, iV .i64 x3060), (33, .own 0), (34, iV .i64 a1), (35, .ptr 0 (Int.toNat (a1)) 0), (36, iV .i64 b3092), (37, .own 0), (38, iV .i64 x3081), (39, .ptr 0 (Int.toNat (x3081)) 0), (40, iV .i64 b3095), (41, bV t3098), (42, bV (!t3098)), (43, bV (!t3098))], [(0, some (.row 1 3 (x3058.map (encInt .i64))))], 1⟩ [(decide (x3081 ≤ x3060)) = true, 0 ≤ a1, a1 < (((x3058.map (encInt .i64)).length : Nat) : Int), (x3058.map (encInt .i64))[(Int.toNat (a1))]? = some ((encInt .i64) b3092), 0 ≤ x3081, x3081 < (((x3058.map (encInt .i64)).length : Nat) : Int), (x3058.map (encInt .i64))[(Int.toNat (x3081))]? = some ((encInt .i64) b3095), Enters Try.prog 73, Pv.Fn Try.prog 73 [iV .i64 b3092, iV .i64 b3095] [] 0 (fun r o => r = bV t3098 ∧ o = [])] (by kernel_rfl) ⟨by exact c3091, by exact p3093, by exact el_lt (encInt .i64) p3093 q3094, by exact el_map (encInt .i64) q3094, by exact p3096, by exact el_lt (encInt .i64) p3096 q3097, by exact el_map (encInt .i64) q3097, by exact Try.call73, by exact f_cmp_Less_int.ok b3092 b3095 t3098 e3099, trivial⟩ ?_
          obtain rfl := Option.some.inj H
          exact Exists.intro _ (And.intro (fun _ _ h => h.conv (inv := [(0, 0)]) (vk := []) (e0 := []) (t := ⟨[(0, .own 0), (1, iV .i64 a1), (9, iV .i64 x3081), (10, iV .i64 x3060), (43, bV (!t3098))], [(0, some (.row 1 3 (x3058.map (encInt .i64))))], 1⟩) (by kernel_rfl)) (And.intro rfl rfl))
        · replace H := (ifF c3091).symm.trans H
          refine reg hP hn hm [(3, .b false)] [0, 1, 9, 10, 43] [0] ⟨[(0, .own 0), (1, iV .i64 a1), (9, iV .i64 x3081), (10, iV .i64 x3060), (43, bV false)], [(0, some (.row 1 3 (x3058.map (encInt .i64))))], 1⟩ [(decide (x3081 ≤ x3060)) = false] (by kernel_rfl) ⟨by exact c3091, trivial⟩ ?_
          obtain rfl := Option.some.inj H
          exact Exists.intro _ (And.intro (fun _ _ h => h.conv (inv := [(0, 0)]) (vk := []) (e0 := []) (t := ⟨[(0, .own 0), (1, iV .i64 a1), (9, iV .i64 x3081), (10, iV .i64 x3060), (43, bV false)], [(0, some (.row 1 3 (x3058.map (encInt .i64))))], 1⟩) (by kernel_rfl)) (And.intro rfl rfl))
      · obtain ⟨x3100, rfl⟩ : ∃ z, z = o3170 := ⟨_, rfl⟩
        rintro e s ⟨rfl, rfl⟩
        refine AWp.cond x3100 rfl (fun c3101 => ?_) (fun c3101 => ?_)
        · replace H := (ifT c3101).symm.trans H
          refine AWp.skip ?_
          refine AWp.block ?_
          refine reg hP hn hm [] [0, 1, 9, 10] [0] ⟨[(0, .own 0), (1, iV .i64 a1), (9, iV .i64 (IntKind.i64.wrap (x3081 + (1 : Int)))), (10, iV .i64 x3060)], [(0, some (.row 1 3 (x3058.map (encInt .i64))))], 1⟩ [] (by kernel_rfl) trivial ?_
          exact LWp.conv (inv := [(0, 0)]) (vk := []) (e0 := []) (t := ⟨[(0, .own 0), (1, iV .i64 a1), (9, iV .i64 (IntKind.i64.wrap (x3081 + (1 : Int)))), (10, iV .i64 x3060)], [(0, some (.row 1 3 (x3058.map (encInt .i64))))], 1⟩) (by kernel_rfl) (ih _ _ H)
        · replace H := (ifF c3101).symm.trans H
          refine AWp.exit ?_
          obtain rfl := Option.some.inj H
          exact Exists.intro _ (And.intro (fun _ _ h => h.conv (inv := [(0, 0)]) (vk := []) (e0 := []) (t := ⟨[(0, .own 0), (1, iV .i64 a1), (9, iV .i64 x3081), (10, iV .i64 x3060)], [(0, some (.row 1 3 (x3058.map (encInt .i64))))], 1⟩) (by kernel_rfl)) (And.intro rfl rfl))
    · obtain ⟨x3102, rfl⟩ : ∃ z, z = o3168 := ⟨_, rfl⟩
      rintro e s ⟨rfl, rfl⟩
      refine AWp.seq ?_
      refine AWp.block ?_
      obtain ⟨o3172, e3173, H⟩ := bind_of H
      refine AWp.loop (LWp.conv (inv := [(0, 0)]) (vk := []) (e0 := []) (t := ⟨[(0, .own 0), (1, iV .i64 a1), (9, iV .i64 x3102), (10, iV .i64 x3060)], [(0, some (.row 1 3 (x3058.map (encInt .i64))))], 1⟩) (by kernel_rfl) ?_)
      refine LWp.mono (Q := fun e s => (match (generalizing := false) o3172 with | x3144 => e = .exit 4 ∧ s = ⟨[(0, .own 0), (1, iV .i64 a1), (9, iV .i64 x3102), (10, iV .i64 x3144)], [(0, some (.row 1 3 (x3058.map (encInt .i64))))], 1⟩)) (LWp.cv (withBody (fun body hbody => ?_))) ?_
      · refine f_slices_partitionEqualOrdered_int.l2.partial_correctness a1 x3058 x3102 (motive := fun x3123 o3172 => LWp Γ body (fun e s => ∃ t, Cv Γ s t ∧ (match (generalizing := false) o3172 with | x3144 => e = .exit 4 ∧ t = ⟨[(0, .own 0), (1, iV .i64 a1), (9, iV .i64 x3102), (10, iV .i64 x3144)], [(0, some (.row 1 3 (x3058.map (encInt .i64))))], 1⟩)) ⟨[(0, .own 0), (1, iV .i64 a1), (9, iV .i64 x3102), (10, iV .i64 x3123)], [(0, some (.row 1 3 (x3058.map (encInt .i64))))], 1⟩) ?_ _ _ e3173
        clear H e3173 o3172; intro self ih x3123 o3172 H
        subst hbody
        refine LWp.round ?_
        refine AWp.seq ?_
        refine AWp.seq ?_
        obtain ⟨o3174, e3175, H⟩ := bind_of H
        refine AWp.mono (Q := fun e s => (match (generalizing := false) o3174 with | x3142 => e = .normal ∧ s = ⟨[(0, .own 0), (1, iV .i64 a1), (9, iV .i64 x3102), (10, iV .i64 x3123), (59, bV x3142)], [(0, some (.row 1 3 (x3058.map (encInt .i64))))], 1⟩)) (AWp.cv ?_) ?_
        · replace H := e3175; clear e3175
          rcases Bool.eq_false_or_eq_true (decide (x3102 ≤ x3123)) with c3133 | c3133
          · replace H := (ifT c3133).symm.trans H
            obtain ⟨b3134, p3135, q3136, H⟩ := at_of H
            obtain ⟨b3137, p3138, q3139, H⟩ := at_of H
            obtain ⟨t3140, e3141, H⟩ := bind_of H
            refine reg hP hn hm [(3, .b true), (7, .c ((encInt .i64) b3134)), (11, .c ((encInt .i64) b3137)), (12, .call [] [] [] [] 0 (bV t3140) [])] [0, 1, 9, 10, 50, 51, 52, 53, 54, 55, 56, 57, 58, 59] [0] ⟨[(0, .own 0), (1, iV .i64 a1), (9, iV .i64 x3102), (10, iV .i64 x3123), (50, .own 0), (51, iV .i64 a1), (52, .ptr 0 (Int.toNat (a1)) 0), (53, iV .i64 b3134), (54, .own 0), (55, iV .i64 x3123), (56, .ptr 0 (Int.toNat (x3123)) 0), (57, iV .i64 b3137), (58, bV t3140), (59, bV t3140)], [(0, some (.row 1 3 (x3058.map (encInt .i64))))], 1⟩ [(decide (x3102 ≤ x3123)) = true, 0 ≤ a1, a1 < (((x3058.map (encInt .i64)).length : Nat) : Int), (x3058.map (encInt .i64))[(Int.toNat (a1))]? = some ((encInt .i64) b3134), 0 ≤ x3123, x3123 < (((x3058.map (encInt .i64)).length : Nat) : Int), (x3058.map (encInt .i64))[(Int.toNat (x3123))]? = some ((encInt .i64) b3137), Enters Try.prog 73, Pv.Fn Try.prog 73 [iV .i64 b3134, iV .i64 b3137] [] 0 (fun r o => r = bV t3140 ∧ o = [])] (by kernel_rfl) ⟨by exact c3133, by exact p3135, by exact el_lt (encInt .i64) p3135 q3136, by exact el_map (encInt .i64) q3136, by exact p3138, by exact el_lt (encInt .i64) p3138 q3139, by exact el_map (encInt .i64) q3139, by exact Try.call73, by exact f_cmp_Less_int.ok b3134 b3137 t3140 e3141, trivial⟩ ?_
            obtain rfl := Option.some.inj H
            exact Exists.intro _ (And.intro (fun _ _ h => h.conv (inv := [(0, 0)]) (vk := []) (e0 := []) (t := ⟨[(0, .own 0), (1, iV .i64 a1), (9, iV .i64 x3102), (10, iV .i64 x3123), (59, bV t3140)], [(0, some (.row 1 3 (x3058.map (encInt .i64))))], 1⟩) (by kernel_rfl)) (And.intro rfl rfl))
          · replace H := (ifF c3133).symm.trans H
            refine reg hP hn hm [(3, .b false)] [0, 1, 9, 10, 59] [0] ⟨[(0, .own 0), (1, iV .i64 a1), (9, iV .i64 x3102), (10, iV .i64 x3123), (59, bV false)], [(0, some (.row 1 3 (x3058.map (encInt .i64))))], 1⟩ [(decide (x3102 ≤ x3123)) = false] (by kernel_rfl) ⟨by exact c3133, trivial⟩ ?_
            obtain rfl := Option.some.inj H
            exact Exists.intro _ (And.intro (fun _ _ h => h.conv (inv := [(0, 0)]) (vk := []) (e0 := []) (t := ⟨[(0, .own 0), (1, iV .i64 a1), (9, iV .i64 x3102), (10, iV .i64 x3123), (59, bV false)], [(0, some (.row 1 3 (x3058.map (encInt .i64))))], 1⟩) (by kernel_rfl)) (And.intro rfl rfl))
        · obtain ⟨x3142, rfl⟩ : ∃ z, z = o3174 := ⟨_, rfl⟩
          rintro e s ⟨rfl, rfl⟩
          refine AWp.cond x3142 rfl (fun c3143 => ?_) (fun c3143 => ?_)
          · replace H := (ifT c3143).symm.trans H
            refine AWp.skip ?_
            refine AWp.block ?_
            refine reg hP hn hm [] [0, 1, 9, 10] [0] ⟨[(0, .own 0), (1, iV .i64 a1), (9, iV .i64 x3102), (10, iV .i64 (IntKind.i64.wrap (x3123 - (1 : Int))))], [(0, some (.row 1 3 (x3058.map (encInt .i64))))], 1⟩ [] (by kernel_rfl) trivial ?_
            exact LWp.conv (inv := [(0, 0)]) (vk := []) (e0 := []) (t := ⟨[(0, .own 0), (1, iV .i64 a1), (9, iV .i64 x3102), (10, iV .i64 (IntKind.i64.wrap (x3123 - (1 : Int))))], [(0, some (.row 1 3 (x3058.map (encInt .i64))))], 1⟩) (by kernel_rfl) (ih _ _ H)
          · replace H := (ifF c3143).symm.trans H
            refine AWp.exit ?_
            obtain rfl := Option.some.inj H
            exact Exists.intro _ (And.intro (fun _ _ h => h.conv (inv := [(0, 0)]) (vk := []) (e0 := []) (t := ⟨[(0, .own 0), (1, iV .i64 a1), (9, iV .i64 x3102), (10, iV .i64 x3123)], [(0, some (.row 1 3 (x3058.map (encInt .i64))))], 1⟩) (by kernel_rfl)) (And.intro rfl rfl))
      · obtain ⟨x3144, rfl⟩ : ∃ z, z = o3172 := ⟨_, rfl⟩
        rintro e s ⟨rfl, rfl⟩
        refine AWp.seq ?_
        refine AWp.seq ?_
        refine reg hP hn hm [] [0, 1, 9, 10, 64] [0] ⟨[(0, .own 0), (1, iV .i64 a1), (9, iV .i64 x3102), (10, iV .i64 x3144), (64, bV (decide (x3102 > x3144)))], [(0, some (.row 1 3 (x3058.map (encInt .i64))))], 1⟩ [] (by kernel_rfl) trivial ?_
        refine AWp.cond (decide (x3102 > x3144)) rfl (fun c3145 => ?_) (fun c3145 => ?_)
        · replace H := (ifT c3145).symm.trans H
          refine AWp.exit ?_
          obtain rfl := Option.some.inj H
          exact Exists.intro _ (And.intro (fun _ _ h => h.conv (inv := [(0, 0)]) (vk := []) (e0 := []) (t := ⟨[(9, iV .i64 x3102)], [(0, some (.row 1 3 (x3058.map (encInt .i64))))], 1⟩) (by kernel_rfl)) (And.intro rfl rfl))
        · replace H := (ifF c3145).symm.trans H
          refine AWp.skip ?_
          refine AWp.seq ?_
          obtain ⟨b3155, p3156, q3157, H⟩ := at_of H
          obtain ⟨b3158, p3159, q3160, H⟩ := at_of H
          obtain ⟨b3161, p3162, q3163, H⟩ := at_of H
          refine reg hP hn hm [(7, .c ((encInt .i64) b3155)), (11, .c ((encInt .i64) b3158)), (13, .put ((encInt .i64) b3158) ((x3058.set (Int.toNat (x3102)) b3155).map (encInt .i64))), (15, .put ((encInt .i64) b3161) (((x3058.set (Int.toNat (x3102)) b3155).set (Int.toNat (x3144)) b3158).map (encInt .i64)))] [0, 1, 9, 10] [0] ⟨[(0, .own 0), (1, iV .i64 a1), (9, iV .i64 x3102), (10, iV .i64 x3144)], [(0, some (.row 1 3 (((x3058.set (Int.toNat (x3102)) b3155).set (Int.toNat (x3144)) b3158).map (encInt .i64))))], 1⟩ [0 ≤ x3144, x3144 < (((x3058.map (encInt .i64)).length : Nat) : Int), (x3058.map (encInt .i64))[(Int.toNat (x3144))]? = some ((encInt .i64) b3155), 0 ≤ x3102, x3102 < (((x3058.map (encInt .i64)).length : Nat) : Int), (x3058.map (encInt .i64))[(Int.toNat (x3102))]? = some ((encInt .i64) b3158), 0 ≤ x3102, x3102 < (((x3058.map (encInt .i64)).length : Nat) : Int), (x3058.map (encInt .i64))[(Int.toNat (x3102))]? = some ((encInt .i64) b3158), (x3058.set (Int.toNat (x3102)) b3155).map (encInt .i64) = (x3058.map (encInt .i64)).set (Int.toNat (x3102)) (splice ((encInt .i64) b3158) 0 [iI .i64 b3155]), 0 ≤ x3144, x3144 < ((((x3058.set (Int.toNat (x3102)) b3155).map (encInt .i64)).length : Nat) : Int), ((x3058.set (Int.toNat (x3102)) b3155).map (encInt .i64))[(Int.toNat (x3144))]? = some ((encInt .i64) b3161), ((x3058.set (Int.toNat (x3102)) b3155).set (Int.toNat (x3144)) b3158).map (encInt .i64) = ((x3058.set (Int.toNat (x3102)) b3155).map (encInt .i64)).set (Int.toNat (x3144)) (splice ((encInt .i64) b3161) 0 [iI .i64 b3158])] (by kernel_rfl) ⟨by exact p3156, by exact el_lt (encInt .i64) p3156 q3157, by exact el_map (encInt .i64) q3157, by exact p3159, by exact el_lt (encInt .i64) p3159 q3160, by exact el_map (encInt .i64) q3160, by exact p3159, by exact el_lt (encInt .i64) p3159 q3160, by exact el_map (encInt .i64) q3160, by exact set1 _ _ _ _, by exact p3162, by exact el_lt (encInt .i64) p3162 q3163, by exact el_map (encInt .i64) q3163, by exact set1 _ _ _ _, trivial⟩ ?_
          refine AWp.seq ?_
          refine reg hP hn hm [] [0, 1, 9, 10] [0] ⟨[(0, .own 0), (1, iV .i64 a1), (9, iV .i64 (IntKind.i64.wrap (x3102 + (1 : Int)))), (10, iV .i64 x3144)], [(0, some (.row 1 3 (((x3058.set (Int.toNat (x3102)) b3155).set (Int.toNat (x3144)) b3158).map (encInt .i64))))], 1⟩ [] (by kernel_rfl) trivial ?_
          refine reg hP hn hm [] [0, 1, 9, 10] [0] ⟨[(0, .own 0), (1, iV .i64 a1), (9, iV .i64 (IntKind.i64.wrap (x3102 + (1 : Int)))), (10, iV .i64 (IntKind.i64.wrap (x3144 - (1 : Int))))], [(0, some (.row 1 3 (((x3058.set (Int.toNat (x3102)) b3155).set (Int.toNat (x3144)) b3158).map (encInt .i64))))], 1⟩ [] (by kernel_rfl) trivial ?_
          exact LWp.conv (inv := [(0, 0)]) (vk := []) (e0 := []) (t := ⟨[(0, .own 0), (1, iV .i64 a1), (9, iV .i64 (IntKind.i64.wrap (x3102 + (1 : Int)))), (10, iV .i64 (IntKind.i64.wrap (x3144 - (1 : Int))))], [(0, some (.row 1 3 (((x3058.set (Int.toNat (x3102)) b3155).set (Int.toNat (x3144)) b3158).map (encInt .i64))))], 1⟩) (by kernel_rfl) (ih _ _ _ _ H)
  · obtain ⟨x3164, x3165⟩ := o3166
    rintro e s ⟨rfl, rfl⟩
    refine AWp.seq ?_
    refine reg hP hn hm [] [8] [0] ⟨[(8, iV .i64 x3164)], [(0, some (.row 1 3 (x3165.map (encInt .i64))))], 1⟩ [] (by kernel_rfl) trivial ?_
    refine AWp.conv (inv := [(0, 0)]) (vk := []) (e0 := []) (t := ⟨[(8, iV .i64 x3164)], [(0, some (.row 1 3 (x3165.map (encInt .i64))))], 1⟩) (by kernel_rfl) ?_
    refine AWp.ret ?_
    obtain rfl := Option.some.inj H
    exact Exists.intro _ (And.intro (fun _ _ h => h) (And.intro (.inl rfl) (And.intro rfl (And.intro (by kernel_rfl) (by kernel_rfl)))))
def f_slices_partitionOrdered_int.l0 (a0 : List Int) (a1 : Int) (a2 : Int) (a3 : Int) (b3189 : Int) (b3192 : Int) (x3218 : Int) : Option (Int) := ((if (decide (x3218 ≤ (IntKind.i64.wrap (a2 - (1 : Int))))) = true then ((at? ((a0.set (Int.toNat (a1)) b3189).set (Int.toNat (a3)) b3192) x3218) >>= fun b3229 => (at? ((a0.set (Int.toNat (a1)) b3189).set (Int.toNat (a3)) b3192) a1) >>= fun b3232 => (f_cmp_Less_int.f b3229 b3232) >>= fun t3235 => some t3235) else (some false)) : Option (Bool)) >>= fun x3237 => if x3237 = true then (f_slices_partitionOrdered_int.l0 a0 a1 a2 a3 b3189 b3192 (IntKind.i64.wrap (x3218 + (1 : Int)))) else (some x3218)
partial_fixpoint
def f_slices_partitionOrdered_int.l1 (a0 : List Int) (a1 : Int) (a3 : Int) (b3189 : Int) (b3192 : Int) (x3239 : Int) (x3260 : Int) : Option (Int) := ((if (decide (x3239 ≤ x3260)) = true then ((at? ((a0.set (Int.toNat (a1)) b3189).set (Int.toNat (a3)) b3192) x3260) >>= fun b3271 => (at? ((a0.set (Int.toNat (a1)) b3189).set (Int.toNat (a3)) b3192) a1) >>= fun b3274 => (f_cmp_Less_int.f b3271 b3274) >>= fun t3277 => some (!t3277)) else (some false)) : Option (Bool)) >>= fun x3279 => if x3279 = true then (f_slices_partitionOrdered_int.l1 a0 a1 a3 b3189 b3192 x3239 (IntKind.i64.wrap (x3260 - (1 : Int)))) else (some x3260)
partial_fixpoint
def f_slices_partitionOrdered_int.l3 (a1 : Int) (x3422 : List Int) (x3424 : Int) (x3445 : Int) : Option (Int) := ((if (decide (x3445 ≤ x3424)) = true then ((at? x3422 x3445) >>= fun b3456 => (at? x3422 a1) >>= fun b3459 => (f_cmp_Less_int.f b3456 b3459) >>= fun t3462 => some t3462) else (some false)) : Option (Bool)) >>= fun x3464 => if x3464 = true then (f_slices_partitionOrdered_int.l3 a1 x3422 x3424 (IntKind.i64.wrap (x3445 + (1 : Int)))) else (some x3445)
partial_fixpoint
def f_slices_partitionOrdered_int.l4 (a1 : Int) (x3422 : List Int) (x3466 : Int) (x3487 : Int) : Option (Int) := ((if (decide (x3466 ≤ x3487)) = true then ((at? x3422 x3487) >>= fun b3498 => (at? x3422 a1) >>= fun b3501 => (f_cmp_Less_int.f b3498 b3501) >>= fun t3504 => some (!t3504)) else (some false)) : Option (Bool)) >>= fun x3506 => if x3506 = true then (f_slices_partitionOrdered_int.l4 a1 x3422 x3466 (IntKind.i64.wrap (x3487 - (1 : Int)))) else (some x3487)
partial_fixpoint
def f_slices_partitionOrdered_int.l2 (a1 : Int) (x3422 : List Int) (x3423 : Int) (x3424 : Int) : Option ((List Int) × Int) := (f_slices_partitionOrdered_int.l3 a1 x3422 x3424 x3423) >>= fun x3466 => (f_slices_partitionOrdered_int.l4 a1 x3422 x3466 x3424) >>= fun x3508 => if (decide (x3466 > x3508)) = true then (some (x3422, x3508)) else ((at? x3422 x3508) >>= fun b3519 => (at? x3422 x3466) >>= fun b3522 => (at? (x3422.set (Int.toNat (x3466)) b3519) x3508) >>= fun b3525 => f_slices_partitionOrdered_int.l2 a1 ((x3422.set (Int.toNat (x3466)) b3519).set (Int.toNat (x3508)) b3522) (IntKind.i64.wrap (x3466 + (1 : Int))) (IntKind.i64.wrap (x3508 - (1 : Int))))
partial_fixpoint
def f_slices_partitionOrdered_int.f (a0 : List Int) (a1 : Int) (a2 : Int) (a3 : Int) : Option (Int × Bool × (List Int)) := (at? a0 a3) >>= fun b3189 => (at? a0 a1) >>= fun b3192 => (at? (a0.set (Int.toNat (a1)) b3189) a3) >>= fun b3195 => (f_slices_partitionOrdered_int.l0 a0 a1 a2 a3 b3189 b3192 (IntKind.i64.wrap (a1 + (1 : Int)))) >>= fun x3239 => (f_slices_partitionOrdered_int.l1 a0 a1 a3 b3189 b3192 x3239 (IntKind.i64.wrap (a2 - (1 : Int)))) >>= fun x3281 => if (decide (x3239 > x3281)) = true then ((at? ((a0.set (Int.toNat (a1)) b3189).set (Int.toNat (a3)) b3192) a1) >>= fun b3292 => (at? ((a0.set (Int.toNat (a1)) b3189).set (Int.toNat (a3)) b3192) x3281) >>= fun b3295 => (at? (((a0.set (Int.toNat (a1)) b3189).set (Int.toNat (a3)) b3192).set (Int.toNat (x3281)) b3292) a1) >>= fun b3298 => some (x3281, true, (((a0.set (Int.toNat (a1)) b3189).set (Int.toNat (a3)) b3192).set (Int.toNat (x3281)) b3292).set (Int.toNat (a1)) b3295)) else ((at? ((a0.set (Int.toNat (a1)) b3189).set (Int.toNat (a3)) b3192) x3281) >>= fun b3310 => (at? ((a0.set (Int.toNat (a1)) b3189).set (Int.toNat (a3)) b3192) x3239) >>= fun b3313 => (at? (((a0.set (Int.toNat (a1)) b3189).set (Int.toNat (a3)) b3192).set (Int.toNat (x3239)) b3310) x3281) >>= fun b3316 => (f_slices_partitionOrdered_int.l2 a1 ((((a0.set (Int.toNat (a1)) b3189).set (Int.toNat (a3)) b3192).set (Int.toNat (x3239)) b3310).set (Int.toNat (x3281)) b3313) (IntKind.i64.wrap (x3239 + (1 : Int))) (IntKind.i64.wrap (x3281 - (1 : Int)))) >>= fun oo => match oo with | (x3528, x3529) => ((at? x3528 a1) >>= fun b3539 => (at? x3528 x3529) >>= fun b3542 => (at? (x3528.set (Int.toNat (x3529)) b3539) a1) >>= fun b3545 => some (x3529, false, (x3528.set (Int.toNat (x3529)) b3539).set (Int.toNat (a1)) b3542)))
theorem f_slices_partitionOrdered_int.ok (a0 : List Int) (a1 : Int) (a2 : Int) (a3 : Int) (r : Int × Bool × (List Int)) (H : f_slices_partitionOrdered_int.f a0 a1 a2 a3 = some r) : Pv.Fn Try.prog 75 [.own 0, iV .i64 a1, iV .i64 a2, iV .i64 a3] [(0, some (.row 1 3 (a0.map (encInt .i64))))] 1 (fun x o => x = .tup [iV .i64 r.1, bV r.2.1] ∧ o = [(0, some (.row 1 3 (r.2.2.map (encInt .i64))))]) := by
  unfold f_slices_partitionOrdered_int.f at H
  refine Fn.bodyK [0] Try.func75 rfl rfl (fun Γ hP hn => ?_)
  have hm : Try.prog.follows .mixedOrders = true := by kernel_rfl
  replace hn : Γ.n = 168 := hn
  refine AWp.seq ?_
  refine reg hP hn hm [] [0, 1, 2, 3] [0] ⟨[(0, .own 0), (1, iV .i64 a1), (2, iV .i64 a2), (3, iV .i64 a3)], [(0, some (.row 1 3 (a0.map (encInt .i64))))], 1⟩ [] (by kernel_rfl) trivial ?_
  refine AWp.seq ?_
  obtain ⟨b3189, p3190, q3191, H⟩ := at_of H
  obtain ⟨b3192, p3193, q3194, H⟩ := at_of H
  obtain ⟨b3195, p3196, q3197, H⟩ := at_of H
  refine reg hP hn hm [(7, .c ((encInt .i64) b3189)), (11, .c ((encInt .i64) b3192)), (13, .put ((encInt .i64) b3192) ((a0.set (Int.toNat (a1)) b3189).map (encInt .i64))), (15, .put ((encInt .i64) b3195) (((a0.set (Int.toNat (a1)) b3189).set (Int.toNat (a3)) b3192).map (encInt .i64)))] [0, 1, 2] [0] ⟨[(0, .own 0), (1, iV .i64 a1), (2, iV .i64 a2)], [(0, some (.row 1 3 (((a0.set (Int.toNat (a1)) b3189).set (Int.toNat (a3)) b3192).map (encInt .i64))))], 1⟩ [0 ≤ a3, a3 < (((a0.map (encInt .i64)).length : Nat) : Int), (a0.map (encInt .i64))[(Int.toNat (a3))]? = some ((encInt .i64) b3189), 0 ≤ a1, a1 < (((a0.map (encInt .i64)).length : Nat) : Int), (a0.map (encInt .i64))[(Int.toNat (a1))]? = some ((encInt .i64) b3192), 0 ≤ a1, a1 < (((a0.map (encInt .i64)).length : Nat) : Int), (a0.map (encInt .i64))[(Int.toNat (a1))]? = some ((encInt .i64) b3192), (a0.set (Int.toNat (a1)) b3189).map (encInt .i64) = (a0.map (encInt .i64)).set (Int.toNat (a1)) (splice ((encInt .i64) b3192) 0 [iI .i64 b3189]), 0 ≤ a3, a3 < ((((a0.set (Int.toNat (a1)) b3189).map (encInt .i64)).length : Nat) : Int), ((a0.set (Int.toNat (a1)) b3189).map (encInt .i64))[(Int.toNat (a3))]? = some ((encInt .i64) b3195), ((a0.set (Int.toNat (a1)) b3189).set (Int.toNat (a3)) b3192).map (encInt .i64) = ((a0.set (Int.toNat (a1)) b3189).map (encInt .i64)).set (Int.toNat (a3)) (splice ((encInt .i64) b3195) 0 [iI .i64 b3192])] (by kernel_rfl) ⟨by exact p3190, by exact el_lt (encInt .i64) p3190 q3191, by exact el_map (encInt .i64) q3191, by exact p3193, by exact el_lt (encInt .i64) p3193 q3194, by exact el_map (encInt .i64) q3194, by exact p3193, by exact el_lt (encInt .i64) p3193 q3194, by exact el_map (encInt .i64) q3194, by exact set1 _ _ _ _, by exact p3196, by exact el_lt (encInt .i64) p3196 q3197, by exact el_map (encInt .i64) q3197, by exact set1 _ _ _ _, trivial⟩ ?_
  refine AWp.seq ?_
  refine reg hP hn hm [] [0, 1, 10, 11] [0] ⟨[(0, .own 0), (1, iV .i64 a1), (10, iV .i64 (IntKind.i64.wrap (a1 + (1 : Int)))), (11, iV .i64 (IntKind.i64.wrap (a2 - (1 : Int))))], [(0, some (.row 1 3 (((a0.set (Int.toNat (a1)) b3189).set (Int.toNat (a3)) b3192).map (encInt .i64))))], 1⟩ [] (by kernel_rfl) trivial ?_
  refine AWp.seq ?_
  refine AWp.block ?_
  obtain ⟨o3548, e3549, H⟩ := bind_of H
  refine AWp.loop (LWp.conv (inv := [(0, 0)]) (vk := []) (e0 := []) (t := ⟨[(0, .own 0), (1, iV .i64 a1), (10, iV .i64 (IntKind.i64.wrap (a1 + (1 : Int)))), (11, iV .i64 (IntKind.i64.wrap (a2 - (1 : Int))))], [(0, some (.row 1 3 (((a0.set (Int.toNat (a1)) b3189).set (Int.toNat (a3)) b3192).map (encInt .i64))))], 1⟩) (by kernel_rfl) ?_)
  refine LWp.mono (Q := fun e s => (match (generalizing := false) o3548 with | x3239 => e = .exit 0 ∧ s = ⟨[(0, .own 0), (1, iV .i64 a1), (10, iV .i64 x3239), (11, iV .i64 (IntKind.i64.wrap (a2 - (1 : Int))))], [(0, some (.row 1 3 (((a0.set (Int.toNat (a1)) b3189).set (Int.toNat (a3)) b3192).map (encInt .i64))))], 1⟩)) (LWp.cv (withBody (fun body hbody => ?_))) ?_
  · refine f_slices_partitionOrdered_int.l0.partial_correctness a0 a1 a2 a3 b3189 b3192 (motive := fun x3218 o3548 => LWp Γ body (fun e s => ∃ t, Cv Γ s t ∧ (match (generalizing := false) o3548 with | x3239 => e = .exit 0 ∧ t = ⟨[(0, .own 0), (1, iV .i64 a1), (10, iV .i64 x3239), (11, iV .i64 (IntKind.i64.wrap (a2 - (1 : Int))))], [(0, some (.row 1 3 (((a0.set (Int.toNat (a1)) b3189).set (Int.toNat (a3)) b3192).map (encInt .i64))))], 1⟩)) ⟨[(0, .own 0), (1, iV .i64 a1), (10, iV .i64 x3218), (11, iV .i64 (IntKind.i64.wrap (a2 - (1 : Int))))], [(0, some (.row 1 3 (((a0.set (Int.toNat (a1)) b3189).set (Int.toNat (a3)) b3192).map (encInt .i64))))], 1⟩) ?_ _ _ e3549
    clear H e3549 o3548; intro self ih x3218 o3548 H
    subst hbody
    refine LWp.round ?_
    refine AWp.seq ?_
    refine AWp.seq ?_
    obtain ⟨o3550, e3551, H⟩ := bind_of H
    refine AWp.mono (Q := fun e s => (match (generalizing := false) o3550 with | x3237 => e = .normal ∧ s = ⟨[(0, .own 0), (1, iV .i64 a1), (10, iV .i64 x3218), (11, iV .i64 (IntKind.i64.wrap (a2 - (1 : Int)))), (43, bV x3237)], [(0, some (.row 1 3 (((a0.set (Int.toNat (a1)) b3189).set (Int.toNat (a3)) b3192).map (encInt .i64))))], 1⟩)) (AWp.cv ?_) ?_
    · replace H := e3551; clear e3551
      rcases Bool.eq_false_or_eq_true (decide (x3218 ≤ (IntKind.i64.wrap (a2 - (1 : Int))))) with c3228 | c3228
      · replace H := (ifT c3228).symm.trans H
        obtain ⟨b3229, p3230, q3231, H⟩ := at_of H
        obtain ⟨b3232, p3233, q3234, H⟩ := at_of H
        obtain ⟨t3235, e3236, H⟩ := bind_of H
        refine reg hP hn hm [(3, .b true), (7, .c ((encInt .i64) b3229)), (11, .c ((encInt .i64) b3232)), (12, .call [] [] [] [] 0 (bV t3235) [])] [0, 1, 10, 11, 34, 35, 36, 37, 38, 39, 40, 41, 42, 43] [0] ⟨[(0, .own 0), (1, iV .i64 a1), (10, iV .i64 x3218), (11, iV .i64 (IntKind.i64.wrap (a2 - (1 : Int)))), (34, .own 0), (35, iV .i64 x3218), (36, .ptr 0 (Int.toNat (x3218)) 0), (37, iV .i64 b3229), (38, .own 0), (39, iV .i64 a1), (40, .ptr 0 (Int.toNat (a1)) 0), (41, iV .i64 b3232), (42, bV t3235), (43, bV t3235)], [(0, some (.row 1 3 (((a0.set (Int.toNat (a1)) b3189).set (Int.toNat (a3)) b3192).map (encInt .i64))))], 1⟩ [(decide (x3218 ≤ (IntKind.i64.wrap (a2 - (1 : Int))))) = true, 0 ≤ x3218, x3218 < (((((a0.set (Int.toNat (a1)) b3189).set (Int.toNat (a3)) b3192).map (encInt .i64)).length : Nat) : Int), (((a0.set (Int.toNat (a1)) b3189).set (Int.toNat (a3)) b3192).map (encInt .i64))[(Int.toNat (x3218))]? = some ((encInt .i64) b3229), 0 ≤ a1, a1 < (((((a0.set (Int.toNat (a1)) b3189).set (Int.toNat (a3)) b3192).map (encInt .i64)).length : Nat) : Int), (((a0.set (Int.toNat (a1)) b3189).set (Int.toNat (a3)) b3192).map (encInt .i64))[(Int.toNat (a1))]? = some ((encInt .i64) b3232), Enters Try.prog 73, Pv.Fn Try.prog 73 [iV .i64 b3229, iV .i64 b3232] [] 0 (fun r o => r = bV t3235 ∧ o = [])] (by kernel_rfl) ⟨by exact c3228, by exact p3230, by exact el_lt (encInt .i64) p3230 q3231, by exact el_map (encInt .i64) q3231, by exact p3233, by exact el_lt (encInt .i64) p3233 q3234, by exact el_map (encInt .i64) q3234, by exact Try.call73, by exact f_cmp_Less_int.ok b3229 b3232 t3235 e3236, trivial⟩ ?_
        obtain rfl := Option.some.inj H
        exact Exists.intro _ (And.intro (fun _ _ h => h.conv (inv := [(0, 0)]) (vk := []) (e0 := []) (t := ⟨[(0, .own 0), (1, iV .i64 a1), (10, iV .i64 x3218), (11, iV .i64 (IntKind.i64.wrap (a2 - (1 : Int)))), (43, bV t3235)], [(0, some (.row 1 3 (((a0.set (Int.toNat (a1)) b3189).set (Int.toNat (a3)) b3192).map (encInt .i64))))], 1⟩) (by kernel_rfl)) (And.intro rfl rfl))
      · replace H := (ifF c3228).symm.trans H
        refine reg hP hn hm [(3, .b false)] [0, 1, 10, 11, 43] [0] ⟨[(0, .own 0), (1, iV .i64 a1), (10, iV .i64 x3218), (11, iV .i64 (IntKind.i64.wrap (a2 - (1 : Int)))), (43, bV false)], [(0, some (.row 1 3 (((a0.set (Int.toNat (a1)) b3189).set (Int.toNat (a3)) b3192).map (encInt .i64))))], 1⟩ [(decide (x3218 ≤ (IntKind.i64.wrap (a2 - (1 : Int))))) = false] (by kernel_rfl) ⟨by exact c3228, trivial⟩ ?_
        obtain rfl := Option.some.inj H
        exact Exists.intro _ (And.intro (fun _ _ h => h.conv (inv := [(0, 0)]) (vk := []) (e0 := []) (t := ⟨[(0, .own 0), (1, iV .i64 a1), (10, iV .i64 x3218), (11, iV .i64 (IntKind.i64.wrap (a2 - (1 : Int)))), (43, bV false)], [(0, some (.row 1 3 (((a0.set (Int.toNat (a1)) b3189).set (Int.toNat (a3)) b3192).map (encInt .i64))))], 1⟩) (by kernel_rfl)) (And.intro rfl rfl))
    · obtain ⟨x3237, rfl⟩ : ∃ z, z = o3550 := ⟨_, rfl⟩
      rintro e s ⟨rfl, rfl⟩
      refine AWp.cond x3237 rfl (fun c3238 => ?_) (fun c3238 => ?_)
      · replace H := (ifT c3238).symm.trans H
        refine AWp.skip ?_
        refine AWp.block ?_
        refine reg hP hn hm [] [0, 1, 10, 11] [0] ⟨[(0, .own 0), (1, iV .i64 a1), (10, iV .i64 (IntKind.i64.wrap (x3218 + (1 : Int)))), (11, iV .i64 (IntKind.i64.wrap (a2 - (1 : Int))))], [(0, some (.row 1 3 (((a0.set (Int.toNat (a1)) b3189).set (Int.toNat (a3)) b3192).map (encInt .i64))))], 1⟩ [] (by kernel_rfl) trivial ?_
        exact LWp.conv (inv := [(0, 0)]) (vk := []) (e0 := []) (t := ⟨[(0, .own 0), (1, iV .i64 a1), (10, iV .i64 (IntKind.i64.wrap (x3218 + (1 : Int)))), (11, iV .i64 (IntKind.i64.wrap (a2 - (1 : Int))))], [(0, some (.row 1 3 (((a0.set (Int.toNat (a1)) b3189).set (Int.toNat (a3)) b3192).map (encInt .i64))))], 1⟩) (by kernel_rfl) (ih _ _ H)
      · replace H := (ifF c3238).symm.trans H
        refine AWp.exit ?_
        obtain rfl := Option.some.inj H
        exact Exists.intro _ (And.intro (fun _ _ h => h.conv (inv := [(0, 0)]) (vk := []) (e0 := []) (t := ⟨[(0, .own 0), (1, iV .i64 a1), (10, iV .i64 x3218), (11, iV .i64 (IntKind.i64.wrap (a2 - (1 : Int))))], [(0, some (.row 1 3 (((a0.set (Int.toNat (a1)) b3189).set (Int.toNat (a3)) b3192).map (encInt .i64))))], 1⟩) (by kernel_rfl)) (And.intro rfl rfl))
  · obtain ⟨x3239, rfl⟩ : ∃ z, z = o3548 := ⟨_, rfl⟩
    rintro e s ⟨rfl, rfl⟩
    refine AWp.seq ?_
    refine AWp.block ?_
    obtain ⟨o3552, e3553, H⟩ := bind_of H
    refine AWp.loop (LWp.conv (inv := [(0, 0)]) (vk := []) (e0 := []) (t := ⟨[(0, .own 0), (1, iV .i64 a1), (10, iV .i64 x3239), (11, iV .i64 (IntKind.i64.wrap (a2 - (1 : Int))))], [(0, some (.row 1 3 (((a0.set (Int.toNat (a1)) b3189).set (Int.toNat (a3)) b3192).map (encInt .i64))))], 1⟩) (by kernel_rfl) ?_)
    refine LWp.mono (Q := fun e s => (match (generalizing := false) o3552 with | x3281 => e = .exit 2 ∧ s = ⟨[(0, .own 0), (1, iV .i64 a1), (10, iV .i64 x3239), (11, iV .i64 x3281)], [(0, some (.row 1 3 (((a0.set (Int.toNat (a1)) b3189).set (Int.toNat (a3)) b3192).map (encInt .i64))))], 1⟩)) (LWp.cv (withBody (fun body hbody => ?_))) ?_
    · refine f_slices_partitionOrdered_int.l1.partial_correctness a0 a1 a3 b3189 b3192 x3239 (motive := fun x3260 o3552 => LWp Γ body (fun e s => ∃ t, Cv Γ s t ∧ (match (generalizing := false) o3552 with | x3281 => e = .exit 2 ∧ t = ⟨[(0, .own 0), (1, iV .i64 a1), (10, iV .i64 x3239), (11, iV .i64 x3281)], [(0, some (.row 1 3 (((a0.set (Int.toNat (a1)) b3189).set (Int.toNat (a3)) b3192).map (encInt .i64))))], 1⟩)) ⟨[(0, .own 0), (1, iV .i64 a1), (10, iV .i64 x3239), (11, iV .i64 x3260)], [(0, some (.row 1 3 (((a0.set (Int.toNat (a1)) b3189).set (Int.toNat (a3)) b3192).map (encInt .i64))))], 1⟩) ?_ _ _ e3553
      clear H e3553 o3552; intro self ih x3260 o3552 H
      subst hbody
      refine LWp.round ?_
      refine AWp.seq ?_
      refine AWp.seq ?_
      obtain ⟨o3554, e3555, H⟩ := bind_of H
      refine AWp.mono (Q := fun e s => (match (generalizing := false) o3554 with | x3279 => e = .normal ∧ s = ⟨[(0, .own 0), (1, iV .i64 a1), (10, iV .i64 x3239), (11, iV .i64 x3260), (60, bV x3279)], [(0, some (.row 1 3 (((a0.set (Int.toNat (a1)) b3189).set (Int.toNat (a3)) b3192).map (encInt .i64))))], 1⟩)) (AWp.cv ?_) ?_
      · replace H := e3555; clear e3555
        rcases Bool.eq_false_or_eq_true (decide (x3239 ≤ x3260)) with c3270 | c3270
        · replace H := (ifT c3270).symm.trans H
          obtain ⟨b3271, p3272, q3273, H⟩ := at_of H
          obtain ⟨b3274, p3275, q3276, H⟩ := at_of H
          obtain ⟨t3277, e3278, H⟩ := bind_of H
          refine reg hP hn hm [(3, .b true), (7, .c ((encInt .i64) b3271)), (11, .c ((encInt .i64) b3274)), (12, .call [] [] [] [] 0 (bV t3277) [])] [0, 1, 10, 11, 50, 51, 52, 53, 54, 55, 56, 57, 58, 59, 60] [0] ⟨[(0, .own 0), (1, iV .i64 a1), (10, iV .i64 x3239), (11, iV .i64 x3260), (50, .own 0), (51, iV .i64 x3260), (52, .ptr 0 (Int.toNat (x3260)) 0), (53, iV .i64 b3271), (54, .own 0), (55, iV .i64 a1), (56, .ptr 0 (Int.toNat (a1)) 0), (57, iV .i64 b3274), (58, bV t3277), (59, bV (!t3277)), (60, bV (!t3277))], [(0, some (.row 1 3 (((a0.set (Int.toNat (a1)) b3189).set (Int.toNat (a3)) b3192).map (encInt .i64))))], 1⟩ [(decide (x3239 ≤ x3260)) = true, 0 ≤ x3260, x3260 < (((((a0.set (Int.toNat (a1)) b3189).set (Int.toNat (a3)) b3192).map (encInt .i64)).length : Nat) : Int), (((a0.set (Int.toNat (a1)) b3189).set (Int.toNat (a3)) b3192).map (encInt .i64))[(Int.toNat (x3260))]? = some ((encInt .i64) b3271), 0 ≤ a1, a1 < (((((a0.set (Int.toNat (a1)) b3189).set (Int.toNat (a3)) b3192).map (encInt .i64)).length : Nat) : Int), (((a0.set (Int.toNat (a1)) b3189).set (Int.toNat (a3)) b3192).map (encInt .i64))[(Int.toNat (a1))]? = some ((encInt .i64) b3274), Enters Try.prog 73, Pv.Fn Try.prog 73 [iV .i64 b3271, iV .i64 b3274] [] 0 (fun r o => r = bV t3277 ∧ o = [])] (by kernel_rfl) ⟨by exact c3270, by exact p3272, by exact el_lt (encInt .i64) p3272 q3273, by exact el_map (encInt .i64) q3273, by exact p3275, by exact el_lt (encInt .i64) p3275 q3276, by exact el_map (encInt .i64) q3276, by exact Try.call73, by exact f_cmp_Less_int.ok b3271 b3274 t3277 e3278, trivial⟩ ?_
          obtain rfl := Option.some.inj H
          exact Exists.intro _ (And.intro (fun _ _ h => h.conv (inv := [(0, 0)]) (vk := []) (e0 := []) (t := ⟨[(0, .own 0), (1, iV .i64 a1), (10, iV .i64 x3239), (11, iV .i64 x3260), (60, bV (!t3277))], [(0, some (.row 1 3 (((a0.set (Int.toNat (a1)) b3189).set (Int.toNat (a3)) b3192).map (encInt .i64))))], 1⟩) (by kernel_rfl)) (And.intro rfl rfl))
        · replace H := (ifF c3270).symm.trans H
          refine reg hP hn hm [(3, .b false)] [0, 1, 10, 11, 60] [0] ⟨[(0, .own 0), (1, iV .i64 a1), (10, iV .i64 x3239), (11, iV .i64 x3260), (60, bV false)], [(0, some (.row 1 3 (((a0.set (Int.toNat (a1)) b3189).set (Int.toNat (a3)) b3192).map (encInt .i64))))], 1⟩ [(decide (x3239 ≤ x3260)) = false] (by kernel_rfl) ⟨by exact c3270, trivial⟩ ?_
          obtain rfl := Option.some.inj H
          exact Exists.intro _ (And.intro (fun _ _ h => h.conv (inv := [(0, 0)]) (vk := []) (e0 := []) (t := ⟨[(0, .own 0), (1, iV .i64 a1), (10, iV .i64 x3239), (11, iV .i64 x3260), (60, bV false)], [(0, some (.row 1 3 (((a0.set (Int.toNat (a1)) b3189).set (Int.toNat (a3)) b3192).map (encInt .i64))))], 1⟩) (by kernel_rfl)) (And.intro rfl rfl))
      · obtain ⟨x3279, rfl⟩ : ∃ z, z = o3554 := ⟨_, rfl⟩
        rintro e s ⟨rfl, rfl⟩
        refine AWp.cond x3279 rfl (fun c3280 => ?_) (fun c3280 => ?_)
        · replace H := (ifT c3280).symm.trans H
          refine AWp.skip ?_
          refine AWp.block ?_
          refine reg hP hn hm [] [0, 1, 10, 11] [0] ⟨[(0, .own 0), (1, iV .i64 a1), (10, iV .i64 x3239), (11, iV .i64 (IntKind.i64.wrap (x3260 - (1 : Int))))], [(0, some (.row 1 3 (((a0.set (Int.toNat (a1)) b3189).set (Int.toNat (a3)) b3192).map (encInt .i64))))], 1⟩ [] (by kernel_rfl) trivial ?_
          exact LWp.conv (inv := [(0, 0)]) (vk := []) (e0 := []) (t := ⟨[(0, .own 0), (1, iV .i64 a1), (10, iV .i64 x3239), (11, iV .i64 (IntKind.i64.wrap (x3260 - (1 : Int))))], [(0, some (.row 1 3 (((a0.set (Int.toNat (a1)) b3189).set (Int.toNat (a3)) b3192).map (encInt .i64))))], 1⟩) (by kernel_rfl) (ih _ _ H)
        · replace H := (ifF c3280).symm.trans H
          refine AWp.exit ?_
          obtain rfl := Option.some.inj H
          exact Exists.intro _ (And.intro (fun _ _ h => h.conv (inv := [(0, 0)]) (vk := []) (e0 := []) (t := ⟨[(0, .own 0), (1, iV .i64 a1), (10, iV .i64 x3239), (11, iV .i64 x3260)], [(0, some (.row 1 3 (((a0.set (Int.toNat (a1)) b3189).set (Int.toNat (a3)) b3192).map (encInt .i64))))], 1⟩) (by kernel_rfl)) (And.intro rfl rfl))
    · obtain ⟨x3281, rfl⟩ : ∃ z, z = o3552 := ⟨_, rfl⟩
      rintro e s ⟨rfl, rfl⟩
      refine AWp.seq ?_
      refine AWp.seq ?_
      refine reg hP hn hm [] [0, 1, 10, 11, 65] [0] ⟨[(0, .own 0), (1, iV .i64 a1), (10, iV .i64 x3239), (11, iV .i64 x3281), (65, bV (decide (x3239 > x3281)))], [(0, some (.row 1 3 (((a0.set (Int.toNat (a1)) b3189).set (Int.toNat (a3)) b3192).map (encInt .i64))))], 1⟩ [] (by kernel_rfl) trivial ?_
      refine AWp.cond (decide (x3239 > x3281)) rfl (fun c3282 => ?_) (fun c3282 => ?_)
      · replace H := (ifT c3282).symm.trans H
        refine AWp.seq ?_
        obtain ⟨b3292, p3293, q3294, H⟩ := at_of H
        obtain ⟨b3295, p3296, q3297, H⟩ := at_of H
        obtain ⟨b3298, p3299, q3300, H⟩ := at_of H
        refine reg hP hn hm [(7, .c ((encInt .i64) b3292)), (11, .c ((encInt .i64) b3295)), (13, .put ((encInt .i64) b3295) ((((a0.set (Int.toNat (a1)) b3189).set (Int.toNat (a3)) b3192).set (Int.toNat (x3281)) b3292).map (encInt .i64))), (15, .put ((encInt .i64) b3298) (((((a0.set (Int.toNat (a1)) b3189).set (Int.toNat (a3)) b3192).set (Int.toNat (x3281)) b3292).set (Int.toNat (a1)) b3295).map (encInt .i64)))] [11] [0] ⟨[(11, iV .i64 x3281)], [(0, some (.row 1 3 (((((a0.set (Int.toNat (a1)) b3189).set (Int.toNat (a3)) b3192).set (Int.toNat (x3281)) b3292).set (Int.toNat (a1)) b3295).map (encInt .i64))))], 1⟩ [0 ≤ a1, a1 < (((((a0.set (Int.toNat (a1)) b3189).set (Int.toNat (a3)) b3192).map (encInt .i64)).length : Nat) : Int), (((a0.set (Int.toNat (a1)) b3189).set (Int.toNat (a3)) b3192).map (encInt .i64))[(Int.toNat (a1))]? = some ((encInt .i64) b3292), 0 ≤ x3281, x3281 < (((((a0.set (Int.toNat (a1)) b3189).set (Int.toNat (a3)) b3192).map (encInt .i64)).length : Nat) : Int), (((a0.set (Int.toNat (a1)) b3189).set (Int.toNat (a3)) b3192).map (encInt .i64))[(Int.toNat (x3281))]? = some ((encInt .i64) b3295), 0 ≤ x3281, x3281 < (((((a0.set (Int.toNat (a1)) b3189).set (Int.toNat (a3)) b3192).map (encInt .i64)).length : Nat) : Int), (((a0.set (Int.toNat (a1)) b3189).set (Int.toNat (a3)) b3192).map (encInt .i64))[(Int.toNat (x3281))]? = some ((encInt .i64) b3295), (((a0.set (Int.toNat (a1)) b3189).set (Int.toNat (a3)) b3192).set (Int.toNat (x3281)) b3292).map (encInt .i64) = (((a0.set (Int.toNat (a1)) b3189).set (Int.toNat (a3)) b3192).map (encInt .i64)).set (Int.toNat (x3281)) (splice ((encInt .i64) b3295) 0 [iI .i64 b3292]), 0 ≤ a1, a1 < ((((((a0.set (Int.toNat (a1)) b3189).set (Int.toNat (a3)) b3192).set (Int.toNat (x3281)) b3292).map (encInt .i64)).length : Nat) : Int), ((((a0.set (Int.toNat (a1)) b3189).set (Int.toNat (a3)) b3192).set (Int.toNat (x3281)) b3292).map (encInt .i64))[(Int.toNat (a1))]? = some ((encInt .i64) b3298), ((((a0.set (Int.toNat (a1)) b3189).set (Int.toNat (a3)) b3192).set (Int.toNat (x3281)) b3292).set (Int.toNat (a1)) b3295).map (encInt .i64) = ((((a0.set (Int.toNat (a1)) b3189).set (Int.toNat (a3)) b3192).set (Int.toNat (x3281)) b3292).map (encInt .i64)).set (Int.toNat (a1)) (splice ((encInt .i64) b3298) 0 [iI .i64 b3295])] (by kernel_rfl) ⟨by exact p3293, by exact el_lt (encInt .i64) p3293 q3294, by exact el_map (encInt .i64) q3294, by exact p3296, by exact el_lt (encInt .i64) p3296 q3297, by exact el_map (encInt .i64) q3297, by exact p3296, by exact el_lt (encInt .i64) p3296 q3297, by exact el_map (encInt .i64) q3297, by exact set1 _ _ _ _, by exact p3299, by exact el_lt (encInt .i64) p3299 q3300, by exact el_map (encInt .i64) q3300, by exact set1 _ _ _ _, trivial⟩ ?_
        refine AWp.seq ?_
        refine reg hP hn hm [] [8, 9] [0] ⟨[(8, iV .i64 x3281), (9, bV true)], [(0, some (.row 1 3 (((((a0.set (Int.toNat (a1)) b3189).set (Int.toNat (a3)) b3192).set (Int.toNat (x3281)) b3292).set (Int.toNat (a1)) b3295).map (encInt .i64))))], 1⟩ [] (by kernel_rfl) trivial ?_
        refine AWp.conv (inv := [(0, 0)]) (vk := []) (e0 := []) (t := ⟨[(8, iV .i64 x3281), (9, bV true)], [(0, some (.row 1 3 (((((a0.set (Int.toNat (a1)) b3189).set (Int.toNat (a3)) b3192).set (Int.toNat (x3281)) b3292).set (Int.toNat (a1)) b3295).map (encInt .i64))))], 1⟩) (by kernel_rfl) ?_
        refine AWp.ret ?_
        obtain rfl := Option.some.inj H
        exact Exists.intro _ (And.intro (fun _ _ h => h) (And.intro (.inl rfl) (And.intro rfl (And.intro (by kernel_rfl) (by kernel_rfl)))))
      · replace H := (ifF c3282).symm.trans H
        refine AWp.skip ?_
        refine AWp.seq ?_
        obtain ⟨b3310, p3311, q3312, H⟩ := at_of H
        obtain ⟨b3313, p3314, q3315, H⟩ := at_of H
        obtain ⟨b3316, p3317, q3318, H⟩ := at_of H
        refine reg hP hn hm [(7, .c ((encInt .i64) b3310)), (11, .c ((encInt .i64) b3313)), (13, .put ((encInt .i64) b3313) ((((a0.set (Int.toNat (a1)) b3189).set (Int.toNat (a3)) b3192).set (Int.toNat (x3239)) b3310).map (encInt .i64))), (15, .put ((encInt .i64) b3316) (((((a0.set (Int.toNat (a1)) b3189).set (Int.toNat (a3)) b3192).set (Int.toNat (x3239)) b3310).set (Int.toNat (x3281)) b3313).map (encInt .i64)))] [0, 1, 10, 11] [0] ⟨[(0, .own 0), (1, iV .i64 a1), (10, iV .i64 x3239), (11, iV .i64 x3281)], [(0, some (.row 1 3 (((((a0.set (Int.toNat (a1)) b3189).set (Int.toNat (a3)) b3192).set (Int.toNat (x3239)) b3310).set (Int.toNat (x3281)) b3313).map (encInt .i64))))], 1⟩ [0 ≤ x3281, x3281 < (((((a0.set (Int.toNat (a1)) b3189).set (Int.toNat (a3)) b3192).map (encInt .i64)).length : Nat) : Int), (((a0.set (Int.toNat (a1)) b3189).set (Int.toNat (a3)) b3192).map (encInt .i64))[(Int.toNat (x3281))]? = some ((encInt .i64) b3310), 0 ≤ x3239, x3239 < (((((a0.set (Int.toNat (a1)) b3189).set (Int.toNat (a3)) b3192).map (encInt .i64)).length : Nat) : Int), (((a0.set (Int.toNat (a1)) b3189).set (Int.toNat (a3)) b3192).map (encInt .i64))[(Int.toNat (x3239))]? = some ((encInt .i64) b3313), 0 ≤ x3239, x3239 < (((((a0.set (Int.toNat (a1)) b3189).set (Int.toNat (a3)) b3192).map (encInt .i64)).length : Nat) : Int), (((a0.set (Int.toNat (a1)) b3189).set (Int.toNat (a3)) b3192).map (encInt .i64))[(Int.toNat (x3239))]? = some ((encInt .i64) b3313), (((a0.set (Int.toNat (a1)) b3189).set (Int.toNat (a3)) b3192).set (Int.toNat (x3239)) b3310).map (encInt .i64) = (((a0.set (Int.toNat (a1)) b3189).set (Int.toNat (a3)) b3192).map (encInt .i64)).set (Int.toNat (x3239)) (splice ((encInt .i64) b3313) 0 [iI .i64 b3310]), 0 ≤ x3281, x3281 < ((((((a0.set (Int.toNat (a1)) b3189).set (Int.toNat (a3)) b3192).set (Int.toNat (x3239)) b3310).map (encInt .i64)).length : Nat) : Int), ((((a0.set (Int.toNat (a1)) b3189).set (Int.toNat (a3)) b3192).set (Int.toNat (x3239)) b3310).map (encInt .i64))[(Int.toNat (x3281))]? = some ((encInt .i64) b3316), ((((a0.set (Int.toNat (a1)) b3189).set (Int.toNat (a3)) b3192).set (Int.toNat (x3239)) b3310).set (Int.toNat (x3281)) b3313).map (encInt .i64) = ((((a0.set (Int.toNat (a1)) b3189).set (Int.toNat (a3)) b3192).set (Int.toNat (x3239)) b3310).map (encInt .i64)).set (Int.toNat (x3281)) (splice ((encInt .i64) b3316) 0 [iI .i64 b3313])] (by kernel_rfl) ⟨by exact p3311, by exact el_lt (encInt .i64) p3311 q3312, by exact el_map (encInt .i64) q3312, by exact p3314, by exact el_lt (encInt .i64) p3314 q3315, by exact el_map (encInt .i64) q3315, by exact p3314, by exact el_lt (encInt .i64) p3314 q3315, by exact el_map (encInt .i64) q3315, by exact set1 _ _ _ _, by exact p3317, by exact el_lt (encInt .i64) p3317 q3318, by exact el_map (encInt .i64) q3318, by exact set1 _ _ _ _, trivial⟩ ?_
        refine AWp.seq ?_
        refine reg hP hn hm [] [0, 1, 10, 11] [0] ⟨[(0, .own 0), (1, iV .i64 a1), (10, iV .i64 (IntKind.i64.wrap (x3239 + (1 : Int)))), (11, iV .i64 x3281)], [(0, some (.row 1 3 (((((a0.set (Int.toNat (a1)) b3189).set (Int.toNat (a3)) b3192).set (Int.toNat (x3239)) b3310).set (Int.toNat (x3281)) b3313).map (encInt .i64))))], 1⟩ [] (by kernel_rfl) trivial ?_
        refine AWp.seq ?_
        refine reg hP hn hm [] [0, 1, 10, 11] [0] ⟨[(0, .own 0), (1, iV .i64 a1), (10, iV .i64 (IntKind.i64.wrap (x3239 + (1 : Int)))), (11, iV .i64 (IntKind.i64.wrap (x3281 - (1 : Int))))], [(0, some (.row 1 3 (((((a0.set (Int.toNat (a1)) b3189).set (Int.toNat (a3)) b3192).set (Int.toNat (x3239)) b3310).set (Int.toNat (x3281)) b3313).map (encInt .i64))))], 1⟩ [] (by kernel_rfl) trivial ?_
        refine AWp.seq ?_
        refine AWp.block ?_
        obtain ⟨o3556, e3557, H⟩ := bind_of H
        refine AWp.loop (LWp.conv (inv := [(0, 0)]) (vk := []) (e0 := []) (t := ⟨[(0, .own 0), (1, iV .i64 a1), (10, iV .i64 (IntKind.i64.wrap (x3239 + (1 : Int)))), (11, iV .i64 (IntKind.i64.wrap (x3281 - (1 : Int))))], [(0, some (.row 1 3 (((((a0.set (Int.toNat (a1)) b3189).set (Int.toNat (a3)) b3192).set (Int.toNat (x3239)) b3310).set (Int.toNat (x3281)) b3313).map (encInt .i64))))], 1⟩) (by kernel_rfl) ?_)
        refine LWp.mono (Q := fun e s => (match (generalizing := false) o3556 with | (x3528, x3529) => e = .exit 4 ∧ s = ⟨[(0, .own 0), (1, iV .i64 a1), (11, iV .i64 x3529)], [(0, some (.row 1 3 (x3528.map (encInt .i64))))], 1⟩)) (LWp.cv (withBody (fun body hbody => ?_))) ?_
        · refine f_slices_partitionOrdered_int.l2.partial_correctness a1 (motive := fun x3422 x3423 x3424 o3556 => LWp Γ body (fun e s => ∃ t, Cv Γ s t ∧ (match (generalizing := false) o3556 with | (x3528, x3529) => e = .exit 4 ∧ t = ⟨[(0, .own 0), (1, iV .i64 a1), (11, iV .i64 x3529)], [(0, some (.row 1 3 (x3528.map (encInt .i64))))], 1⟩)) ⟨[(0, .own 0), (1, iV .i64 a1), (10, iV .i64 x3423), (11, iV .i64 x3424)], [(0, some (.row 1 3 (x3422.map (encInt .i64))))], 1⟩) ?_ _ _ _ _ e3557
          clear H e3557 o3556; intro self ih x3422 x3423 x3424 o3556 H
          subst hbody
          refine LWp.round ?_
          refine AWp.block ?_
          refine AWp.seq ?_
          refine AWp.block ?_
          obtain ⟨o3558, e3559, H⟩ := bind_of H
          refine AWp.loop (LWp.conv (inv := [(0, 0)]) (vk := []) (e0 := []) (t := ⟨[(0, .own 0), (1, iV .i64 a1), (10, iV .i64 x3423), (11, iV .i64 x3424)], [(0, some (.row 1 3 (x3422.map (encInt .i64))))], 1⟩) (by kernel_rfl) ?_)
          refine LWp.mono (Q := fun e s => (match (generalizing := false) o3558 with | x3466 => e = .exit 6 ∧ s = ⟨[(0, .own 0), (1, iV .i64 a1), (10, iV .i64 x3466), (11, iV .i64 x3424)], [(0, some (.row 1 3 (x3422.map (encInt .i64))))], 1⟩)) (LWp.cv (withBody (fun body hbody => ?_))) ?_
          · refine f_slices_partitionOrdered_int.l3.partial_correctness a1 x3422 x3424 (motive := fun x3445 o3558 => LWp Γ body (fun e s => ∃ t, Cv Γ s t ∧ (match (generalizing := false) o3558 with | x3466 => e = .exit 6 ∧ t = ⟨[(0, .own 0), (1, iV .i64 a1), (10, iV .i64 x3466), (11, iV .i64 x3424)], [(0, some (.row 1 3 (x3422.map (encInt .i64))))], 1⟩)) ⟨[(0, .own 0), (1, iV .i64 a1), (10, iV .i64 x3445), (11, iV .i64 x3424)], [(0, some (.row 1 3 (x3422.map (encInt .i64))))], 1⟩) ?_ _ _ e3559
            clear H e3559 o3558; intro self ih x3445 o3558 H
            subst hbody
            refine LWp.round ?_
            refine AWp.seq ?_
            refine AWp.seq ?_
            obtain ⟨o3560, e3561, H⟩ := bind_of H
            refine AWp.mono (Q := fun e s => (match (generalizing := false) o3560 with | x3464 => e = .normal ∧ s = ⟨[(0, .own 0), (1, iV .i64 a1), (10, iV .i64 x3445), (11, iV .i64 x3424), (112, bV x3464)], [(0, some (.row 1 3 (x3422.map (encInt .i64))))], 1⟩)) (AWp.cv ?_) ?_
            · replace H := e3561; clear e3561
              rcases Bool.eq_false_or_eq_true (decide (x3445 ≤ x3424)) with c3455 | c3455
              · replace H := (ifT c3455).symm.trans H
                obtain ⟨b3456, p3457, q3458, H⟩ := at_of H
                obtain ⟨b3459, p3460, q3461, H⟩ := at_of H
                obtain ⟨t3462, e3463, H⟩ := bind_of H
                refine reg hP hn hm [(3, .b true), (7, .c ((encInt .i64) b3456)), (11, .c ((encInt .i64) b3459)), (12, .call [] [] [] [] 0 (bV t3462) [])] [0, 1, 10, 11, 103, 104, 105, 106, 107, 108, 109, 110, 111, 112] [0] ⟨[(0, .own 0), (1, iV .i64 a1), (10, iV .i64 x3445), (11, iV .i64 x3424), (103, .own 0), (104, iV .i64 x3445), (105, .ptr 0 (Int.toNat (x3445)) 0), (106, iV .i64 b3456), (107, .own 0), (108, iV .i64 a1), (109, .ptr 0 (Int.toNat (a1)) 0), (110, iV .i64 b3459), (111, bV t3462), (112, bV t3462)], [(0, some (.row 1 3 (x3422.map (encInt .i64))))], 1⟩ [(decide (x3445 ≤ x3424)) = true, 0 ≤ x3445, x3445 < (((x3422.map (encInt .i64)).length : Nat) : Int), (x3422.map (encInt .i64))[(Int.toNat (x3445))]? = some ((encInt .i64) b3456), 0 ≤ a1, a1 < (((x3422.map (encInt .i64)).length : Nat) : Int), (x3422.map (encInt .i64))[(Int.toNat (a1))]? = some ((encInt .i64) b3459), Enters Try.prog 73, Pv.Fn Try.prog 73 [iV .i64 b3456, iV .i64 b3459] [] 0 (fun r o => r = bV t3462 ∧ o = [])] (by kernel_rfl) ⟨by exact c3455, by exact p3457, by exact el_lt (encInt .i64) p3457 q3458, by exact el_map (encInt .i64) q3458, by exact p3460, by exact el_lt (encInt .i64) p3460 q3461, by exact el_map (encInt .i64) q3461, by exact Try.call73, by exact f_cmp_Less_int.ok b3456 b3459 t3462 e3463, trivial⟩ ?_
                obtain rfl := Option.some.inj H
                exact Exists.intro _ (And.intro (fun _ _ h => h.conv (inv := [(0, 0)]) (vk := []) (e0 := []) (t := ⟨[(0, .own 0), (1, iV .i64 a1), (10, iV .i64 x3445), (11, iV .i64 x3424), (112, bV t3462)], [(0, some (.row 1 3 (x3422.map (encInt .i64))))], 1⟩) (by kernel_rfl)) (And.intro rfl rfl))
              · replace H := (ifF c3455).symm.trans H
                refine reg hP hn hm [(3, .b false)] [0, 1, 10, 11, 112] [0] ⟨[(0, .own 0), (1, iV .i64 a1), (10, iV .i64 x3445), (11, iV .i64 x3424), (112, bV false)], [(0, some (.row 1 3 (x3422.map (encInt .i64))))], 1⟩ [(decide (x3445 ≤ x3424)) = false] (by kernel_rfl) ⟨by exact c3455, trivial⟩ ?_
                obtain rfl := Option.some.inj H
                exact Exists.intro _ (And.intro (fun _ _ h => h.conv (inv := [(0, 0)]) (vk := []) (e0 := []) (t := ⟨[(0, .own 0), (1, iV .i64 a1), (10, iV .i64 x3445), (11, iV .i64 x3424), (112, bV false)], [(0, some (.row 1 3 (x3422.map (encInt .i64))))], 1⟩) (by kernel_rfl)) (And.intro rfl rfl))
            · obtain ⟨x3464, rfl⟩ : ∃ z, z = o3560 := ⟨_, rfl⟩
              rintro e s ⟨rfl, rfl⟩
              refine AWp.cond x3464 rfl (fun c3465 => ?_) (fun c3465 => ?_)
              · replace H := (ifT c3465).symm.trans H
                refine AWp.skip ?_
                refine AWp.block ?_
                refine reg hP hn hm [] [0, 1, 10, 11] [0] ⟨[(0, .own 0), (1, iV .i64 a1), (10, iV .i64 (IntKind.i64.wrap (x3445 + (1 : Int)))), (11, iV .i64 x3424)], [(0, some (.row 1 3 (x3422.map (encInt .i64))))], 1⟩ [] (by kernel_rfl) trivial ?_
                exact LWp.conv (inv := [(0, 0)]) (vk := []) (e0 := []) (t := ⟨[(0, .own 0), (1, iV .i64 a1), (10, iV .i64 (IntKind.i64.wrap (x3445 + (1 : Int)))), (11, iV .i64 x3424)], [(0, some (.row 1 3 (x3422.map (encInt .i64))))], 1⟩) (by kernel_rfl) (ih _ _ H)
              · replace H := (ifF c3465).symm.trans H
                refine AWp.exit ?_
                obtain rfl := Option.some.inj H
                exact Exists.intro _ (And.intro (fun _ _ h => h.conv (inv := [(0, 0)]) (vk := []) (e0 := []) (t := ⟨[(0, .own 0), (1, iV .i64 a1), (10, iV .i64 x3445), (11, iV .i64 x3424)], [(0, some (.row 1 3 (x3422.map (encInt .i64))))], 1⟩) (by kernel_rfl)) (And.intro rfl rfl))
          · obtain ⟨x3466, rfl⟩ : ∃ z, z = o3558 := ⟨_, rfl⟩
            rintro e s ⟨rfl, rfl⟩
            refine AWp.seq ?_
            refine AWp.block ?_
            obtain ⟨o3562, e3563, H⟩ := bind_of H
            refine AWp.loop (LWp.conv (inv := [(0, 0)]) (vk := []) (e0 := []) (t := ⟨[(0, .own 0), (1, iV .i64 a1), (10, iV .i64 x3466), (11, iV .i64 x3424)], [(0, some (.row 1 3 (x3422.map (encInt .i64))))], 1⟩) (by kernel_rfl) ?_)
            refine LWp.mono (Q := fun e s => (match (generalizing := false) o3562 with | x3508 => e = .exit 8 ∧ s = ⟨[(0, .own 0), (1, iV .i64 a1), (10, iV .i64 x3466), (11, iV .i64 x3508)], [(0, some (.row 1 3 (x3422.map (encInt .i64))))], 1⟩)) (LWp.cv (withBody (fun body hbody => ?_))) ?_
            · refine f_slices_partitionOrdered_int.l4.partial_correctness a1 x3422 x3466 (motive := fun x3487 o3562 => LWp Γ body (fun e s => ∃ t, Cv Γ s t ∧ (match (generalizing := false) o3562 with | x3508 => e = .exit 8 ∧ t = ⟨[(0, .own 0), (1, iV .i64 a1), (10, iV .i64 x3466), (11, iV .i64 x3508)], [(0, some (.row 1 3 (x3422.map (encInt .i64))))], 1⟩)) ⟨[(0, .own 0), (1, iV .i64 a1), (10, iV .i64 x3466), (11, iV .i64 x3487)], [(0, some (.row 1 3 (x3422.map (encInt .i64))))], 1⟩) ?_ _ _ e3563
              clear H e3563 o3562; intro self ih x3487 o3562 H
              subst hbody
              refine LWp.round ?_
              refine AWp.seq ?_
              refine AWp.seq ?_
              obtain ⟨o3564, e3565, H⟩ := bind_of H
              refine AWp.mono (Q := fun e s => (match (generalizing := false) o3564 with | x3506 => e = .normal ∧ s = ⟨[(0, .own 0), (1, iV .i64 a1), (10, iV .i64 x3466), (11, iV .i64 x3487), (129, bV x3506)], [(0, some (.row 1 3 (x3422.map (encInt .i64))))], 1⟩)) (AWp.cv ?_) ?_
              · replace H := e3565; clear e3565
                rcases Bool.eq_false_or_eq_true (decide (x3466 ≤ x3487)) with c3497 | c3497
                · replace H := (ifT c3497).symm.trans H
                  obtain ⟨b3498, p3499, q3500, H⟩ := at_of H
                  obtain ⟨b3501, p3502, q3503, H⟩ := at_of H
                  obtain ⟨t3504, e3505, H⟩ := bind_of H
                  refine reg hP hn hm [(3, .b true), (7, .c ((encInt .i64) b3498)), (11, .c ((encInt .i64) b3501)), (12, .call [] [] [] [] 0 (bV t3504) [])] [0, 1, 10, 11, 119, 120, 121, 122, 123, 124, 125, 126, 127, 128, 129] [0] ⟨[(0, .own 0), (1, iV .i64 a1), (10, iV .i64 x3466), (11, iV .i64 x3487), (119, .own 0), (120, iV .i64 x3487), (121, .ptr 0 (Int.toNat (x3487)) 0), (122, iV .i64 b3498), (123, .own 0), (124, iV .i64 a1), (125, .ptr 0 (Int.toNat (a1)) 0), (126, iV .i64 b3501), (127, bV t3504), (128, bV (!t3504)), (129, bV (!t3504))], [(0, some (.row 1 3 (x3422.map (encInt .i64))))], 1⟩ [(decide (x3466 ≤ x3487)) = true, 0 ≤ x3487, x3487 < (((x3422.map (encInt .i64)).length : Nat) : Int), (x3422.map (encInt .i64))[(Int.toNat (x3487))]? = some ((encInt .i64) b3498), 0 ≤ a1, a1 < (((x3422.map (encInt .i64)).length : Nat) : Int), (x3422.map (encInt .i64))[(Int.toNat (a1))]? = some ((encInt .i64) b3501), Enters Try.prog 73, Pv.Fn Try.prog 73 [iV .i64 b3498, iV .i64 b3501] [] 0 (fun r o => r = bV t3504 ∧ o = [])] (by kernel_rfl) ⟨by exact c3497, by exact p3499, by exact el_lt (encInt .i64) p3499 q3500, by exact el_map (encInt .i64) q3500, by exact p3502, by exact el_lt (encInt .i64) p3502 q3503, by exact el_map (encInt .i64) q3503, by exact Try.call73, by exact f_cmp_Less_int.ok b3498 b3501 t3504 e3505, trivial⟩ ?_
                  obtain rfl := Option.some.inj H
                  exact Exists.intro _ (And.intro (fun _ _ h => h.conv (inv := [(0, 0)]) (vk := []) (e0 := []) (t := ⟨[(0, .own 0), (1, iV .i64 a1), (10, iV .i64 x3466), (11, iV .i64 x3487), (129, bV (!t3504))], [(0, some (.row 1 3 (x3422.map (encInt .i64))))], 1⟩) (by kernel_rfl)) (And.intro rfl rfl))
                · replace H := (ifF c3497).symm.trans H
                  refine reg hP hn hm [(3, .b false)] [0, 1, 10, 11, 129] [0] ⟨[(0, .own 0), (1, iV .i64 a1), (10, iV .i64 x3466), (11, iV .i64 x3487), (129, bV false)], [(0, some (.row 1 3 (x3422.map (encInt .i64))))], 1⟩ [(decide (x3466 ≤ x3487)) = false] (by kernel_rfl) ⟨by exact c3497, trivial⟩ ?_
                  obtain rfl := Option.some.inj H
                  exact Exists.intro _ (And.intro (fun _ _ h => h.conv (inv := [(0, 0)]) (vk := []) (e0 := []) (t := ⟨[(0, .own 0), (1, iV .i64 a1), (10, iV .i64 x3466), (11, iV .i64 x3487), (129, bV false)], [(0, some (.row 1 3 (x3422.map (encInt .i64))))], 1⟩) (by kernel_rfl)) (And.intro rfl rfl))
              · obtain ⟨x3506, rfl⟩ : ∃ z, z = o3564 := ⟨_, rfl⟩
                rintro e s ⟨rfl, rfl⟩
                refine AWp.cond x3506 rfl (fun c3507 => ?_) (fun c3507 => ?_)
                · replace H := (ifT c3507).symm.trans H
                  refine AWp.skip ?_
                  refine AWp.block ?_
                  refine reg hP hn hm [] [0, 1, 10, 11] [0] ⟨[(0, .own 0), (1, iV .i64 a1), (10, iV .i64 x3466), (11, iV .i64 (IntKind.i64.wrap (x3487 - (1 : Int))))], [(0, some (.row 1 3 (x3422.map (encInt .i64))))], 1⟩ [] (by kernel_rfl) trivial ?_
                  exact LWp.conv (inv := [(0, 0)]) (vk := []) (e0 := []) (t := ⟨[(0, .own 0), (1, iV .i64 a1), (10, iV .i64 x3466), (11, iV .i64 (IntKind.i64.wrap (x3487 - (1 : Int))))], [(0, some (.row 1 3 (x3422.map (encInt .i64))))], 1⟩) (by kernel_rfl) (ih _ _ H)
                · replace H := (ifF c3507).symm.trans H
                  refine AWp.exit ?_
                  obtain rfl := Option.some.inj H
                  exact Exists.intro _ (And.intro (fun _ _ h => h.conv (inv := [(0, 0)]) (vk := []) (e0 := []) (t := ⟨[(0, .own 0), (1, iV .i64 a1), (10, iV .i64 x3466), (11, iV .i64 x3487)], [(0, some (.row 1 3 (x3422.map (encInt .i64))))], 1⟩) (by kernel_rfl)) (And.intro rfl rfl))
            · obtain ⟨x3508, rfl⟩ : ∃ z, z = o3562 := ⟨_, rfl⟩
              rintro e s ⟨rfl, rfl⟩
              refine AWp.seq ?_
              refine AWp.seq ?_
              refine reg hP hn hm [] [0, 1, 10, 11, 134] [0] ⟨[(0, .own 0), (1, iV .i64 a1), (10, iV .i64 x3466), (11, iV .i64 x3508), (134, bV (decide (x3466 > x3508)))], [(0, some (.row 1 3 (x3422.map (encInt .i64))))], 1⟩ [] (by kernel_rfl) trivial ?_
              refine AWp.cond (decide (x3466 > x3508)) rfl (fun c3509 => ?_) (fun c3509 => ?_)
              · replace H := (ifT c3509).symm.trans H
                refine AWp.exit ?_
                obtain rfl := Option.some.inj H
                exact Exists.intro _ (And.intro (fun _ _ h => h.conv (inv := [(0, 0)]) (vk := []) (e0 := []) (t := ⟨[(0, .own 0), (1, iV .i64 a1), (11, iV .i64 x3508)], [(0, some (.row 1 3 (x3422.map (encInt .i64))))], 1⟩) (by kernel_rfl)) (And.intro rfl rfl))
              · replace H := (ifF c3509).symm.trans H
                refine AWp.skip ?_
                refine AWp.seq ?_
                obtain ⟨b3519, p3520, q3521, H⟩ := at_of H
                obtain ⟨b3522, p3523, q3524, H⟩ := at_of H
                obtain ⟨b3525, p3526, q3527, H⟩ := at_of H
                refine reg hP hn hm [(7, .c ((encInt .i64) b3519)), (11, .c ((encInt .i64) b3522)), (13, .put ((encInt .i64) b3522) ((x3422.set (Int.toNat (x3466)) b3519).map (encInt .i64))), (15, .put ((encInt .i64) b3525) (((x3422.set (Int.toNat (x3466)) b3519).set (Int.toNat (x3508)) b3522).map (encInt .i64)))] [0, 1, 10, 11] [0] ⟨[(0, .own 0), (1, iV .i64 a1), (10, iV .i64 x3466), (11, iV .i64 x3508)], [(0, some (.row 1 3 (((x3422.set (Int.toNat (x3466)) b3519).set (Int.toNat (x3508)) b3522).map (encInt .i64))))], 1⟩ [0 ≤ x3508, x3508 < (((x3422.map (encInt .i64)).length : Nat) : Int), (x3422.map (encInt .i64))[(Int.toNat (x3508))]? = some ((encInt .i64) b3519), 0 ≤ x3466, x3466 < (((x3422.map (encInt .i64)).length : Nat) : Int), (x3422.map (encInt .i64))[(Int.toNat (x3466))]? = some ((encInt .i64) b3522), 0 ≤ x3466, x3466 < (((x3422.map (encInt .i64)).length : Nat) : Int), (x3422.map (encInt .i64))[(Int.toNat (x3466))]? = some ((encInt .i64) b3522), (x3422.set (Int.toNat (x3466)) b3519).map (encInt .i64) = (x3422.map (encInt .i64)).set (Int.toNat (x3466)) (splice ((encInt .i64) b3522) 0 [iI .i64 b3519]), 0 ≤ x3508, x3508 < ((((x3422.set (Int.toNat (x3466)) b3519).map (encInt .i64)).length : Nat) : Int), ((x3422.set (Int.toNat (x3466)) b3519).map (encInt .i64))[(Int.toNat (x3508))]? = some ((encInt .i64) b3525), ((x3422.set (Int.toNat (x3466)) b3519).set (Int.toNat (x3508)) b3522).map (encInt .i64) = ((x3422.set (Int.toNat (x3466)) b3519).map (encInt .i64)).set (Int.toNat (x3508)) (splice ((encInt .i64) b3525) 0 [iI .i64 b3522])] (by kernel_rfl) ⟨by exact p3520, by exact el_lt (encInt .i64) p3520 q3521, by exact el_map (encInt .i64) q3521, by exact p3523, by exact el_lt (encInt .i64) p3523 q3524, by exact el_map (encInt .i64) q3524, by exact p3523, by exact el_lt (encInt .i64) p3523 q3524, by exact el_map (encInt .i64) q3524, by exact set1 _ _ _ _, by exact p3526, by exact el_lt (encInt .i64) p3526 q3527, by exact el_map (encInt .i64) q3527, by exact set1 _ _ _ _, trivial⟩ ?_
                refine AWp.seq ?_
                refine reg hP hn hm [] [0, 1, 10, 11] [0] ⟨[(0, .own 0), (1, iV .i64 a1), (10, iV .i64 (IntKind.i64.wrap (x3466 + (1 : Int)))), (11, iV .i64 x3508)], [(0, some (.row 1 3 (((x3422.set (Int.toNat (x3466)) b3519).set (Int.toNat (x3508)) b3522).map (encInt .i64))))], 1⟩ [] (by kernel_rfl) trivial ?_
                refine reg hP hn hm [] [0, 1, 10, 11] [0] ⟨[(0, .own 0), (1, iV .i64 a1), (10, iV .i64 (IntKind.i64.wrap (x3466 + (1 : Int)))), (11, iV .i64 (IntKind.i64.wrap (x3508 - (1 : Int))))], [(0, some (.row 1 3 (((x3422.set (Int.toNat (x3466)) b3519).set (Int.toNat (x3508)) b3522).map (encInt .i64))))], 1⟩ [] (by kernel_rfl) trivial ?_
                exact LWp.conv (inv := [(0, 0)]) (vk := []) (e0 := []) (t := ⟨[(0, .own 0), (1, iV .i64 a1), (10, iV .i64 (IntKind.i64.wrap (x3466 + (1 : Int)))), (11, iV .i64 (IntKind.i64.wrap (x3508 - (1 : Int))))], [(0, some (.row 1 3 (((x3422.set (Int.toNat (x3466)) b3519).set (Int.toNat (x3508)) b3522).map (encInt .i64))))], 1⟩) (by kernel_rfl) (ih _ _ _ _ H)
        · obtain ⟨x3528, x3529⟩ := o3556
          rintro e s ⟨rfl, rfl⟩
          refine AWp.seq ?_
          obtain ⟨b3539, p3540, q3541, H⟩ := at_of H
          obtain ⟨b3542, p3543, q3544, H⟩ := at_of H
          obtain ⟨b3545, p3546, q3547, H⟩ := at_of H
          refine reg hP hn hm [(7, .c ((encInt .i64) b3539)), (11, .c ((encInt .i64) b3542)), (13, .put ((encInt .i64) b3542) ((x3528.set (Int.toNat (x3529)) b3539).map (encInt .i64))), (15, .put ((encInt .i64) b3545) (((x3528.set (Int.toNat (x3529)) b3539).set (Int.toNat (a1)) b3542).map (encInt .i64)))] [11] [0] ⟨[(11, iV .i64 x3529)], [(0, some (.row 1 3 (((x3528.set (Int.toNat (x3529)) b3539).set (Int.toNat (a1)) b3542).map (encInt .i64))))], 1⟩ [0 ≤ a1, a1 < (((x3528.map (encInt .i64)).length : Nat) : Int), (x3528.map (encInt .i64))[(Int.toNat (a1))]? = some ((encInt .i64) b3539), 0 ≤ x3529, x3529 < (((x3528.map (encInt .i64)).length : Nat) : Int), (x3528.map (encInt .i64))[(Int.toNat (x3529))]? = some ((encInt .i64) b3542), 0 ≤ x3529, x3529 < (((x3528.map (encInt .i64)).length : Nat) : Int), (x3528.map (encInt .i64))[(Int.toNat (x3529))]? = some ((encInt .i64) b3542), (x3528.set (Int.toNat (x3529)) b3539).map (encInt .i64) = (x3528.map (encInt .i64)).set (Int.toNat (x3529)) (splice ((encInt .i64) b3542) 0 [iI .i64 b3539]), 0 ≤ a1, a1 < ((((x3528.set (Int.toNat (x3529)) b3539).map (encInt .i64)).length : Nat) : Int), ((x3528.set (Int.toNat (x3529)) b3539).map (encInt .i64))[(Int.toNat (a1))]? = some ((encInt .i64) b3545), ((x3528.set (Int.toNat (x3529)) b3539).set (Int.toNat (a1)) b3542).map (encInt .i64) = ((x3528.set (Int.toNat (x3529)) b3539).map (encInt .i64)).set (Int.toNat (a1)) (splice ((encInt .i64) b3545) 0 [iI .i64 b3542])] (by kernel_rfl) ⟨by exact p3540, by exact el_lt (encInt .i64) p3540 q3541, by exact el_map (encInt .i64) q3541, by exact p3543, by exact el_lt (encInt .i64) p3543 q3544, by exact el_map (encInt .i64) q3544, by exact p3543, by exact el_lt (encInt .i64) p3543 q3544, by exact el_map (encInt .i64) q3544, by exact set1 _ _ _ _, by exact p3546, by exact el_lt (encInt .i64) p3546 q3547, by exact el_map (encInt .i64) q3547, by exact set1 _ _ _ _, trivial⟩ ?_
          refine AWp.seq ?_
          refine reg hP hn hm [] [8, 9] [0] ⟨[(8, iV .i64 x3529), (9, bV false)], [(0, some (.row 1 3 (((x3528.set (Int.toNat (x3529)) b3539).set (Int.toNat (a1)) b3542).map (encInt .i64))))], 1⟩ [] (by kernel_rfl) trivial ?_
          refine AWp.conv (inv := [(0, 0)]) (vk := []) (e0 := []) (t := ⟨[(8, iV .i64 x3529), (9, bV false)], [(0, some (.row 1 3 (((x3528.set (Int.toNat (x3529)) b3539).set (Int.toNat (a1)) b3542).map (encInt .i64))))], 1⟩) (by kernel_rfl) ?_
          refine AWp.ret ?_
          obtain rfl := Option.some.inj H
          exact Exists.intro _ (And.intro (fun _ _ h => h) (And.intro (.inl rfl) (And.intro rfl (And.intro (by kernel_rfl) (by kernel_rfl)))))
def f_slices_breakPatternsOrdered_int.l0 (a1 : Int) (a2 : Int) (t3609 : Int) (x3636 : List Int) (x3637 : Int) (x3638 : Int) : Option (List Int) := if (decide (x3638 ≤ (IntKind.i64.wrap ((IntKind.i64.wrap (a1 + (IntKind.i64.wrap ((IntKind.i64.wrap (Int.tdiv (IntKind.i64.wrap (a2 - a1)) (4 : Int))) * (2 : Int))))) + (1 : Int))))) = true then ((f_slices_xorshift_Next_6cb.f x3637) >>= fun t3642 => ((if (decide ((IntKind.i64.wrap (IntKind.u64.wrap (((BitVec.toNat (BitVec.ofInt 64 (IntKind.u64.wrap (((BitVec.toNat (BitVec.ofInt 64 (IntKind.u64.wrap (((BitVec.toNat (BitVec.ofInt 64 (IntKind.u64.wrap (((BitVec.toNat (BitVec.ofInt 64 x3637 ^^^ BitVec.ofInt 64 (IntKind.u64.wrap (x3637 * 8192))) : Nat) : Int))) ^^^ BitVec.ofInt 64 (Int.fdiv (IntKind.u64.wrap (((BitVec.toNat (BitVec.ofInt 64 x3637 ^^^ BitVec.ofInt 64 (IntKind.u64.wrap (x3637 * 8192))) : Nat) : Int))) 128)) : Nat) : Int))) ^^^ BitVec.ofInt 64 (IntKind.u64.wrap ((IntKind.u64.wrap (((BitVec.toNat (BitVec.ofInt 64 (IntKind.u64.wrap (((BitVec.toNat (BitVec.ofInt 64 x3637 ^^^ BitVec.ofInt 64 (IntKind.u64.wrap (x3637 * 8192))) : Nat) : Int))) ^^^ BitVec.ofInt 64 (Int.fdiv (IntKind.u64.wrap (((BitVec.toNat (BitVec.ofInt 64 x3637 ^^^ BitVec.ofInt 64 (IntKind.u64.wrap (x3637 * 8192))) : Nat) : Int))) 128)) : Nat) : Int))) * 131072))) : Nat) : Int))) &&& BitVec.ofInt 64 (IntKind.u64.wrap (t3609 - (1 : Int)))) : Nat) : Int)))) ≥ (IntKind.i64.wrap (a2 - a1)))) = true then (some (IntKind.i64.wrap ((IntKind.i64.wrap (IntKind.u64.wrap (((BitVec.toNat (BitVec.ofInt 64 (IntKind.u64.wrap (((BitVec.toNat (BitVec.ofInt 64 (IntKind.u64.wrap (((BitVec.toNat (BitVec.ofInt 64 (IntKind.u64.wrap (((BitVec.toNat (BitVec.ofInt 64 x3637 ^^^ BitVec.ofInt 64 (IntKind.u64.wrap (x3637 * 8192))) : Nat) : Int))) ^^^ BitVec.ofInt 64 (Int.fdiv (IntKind.u64.wrap (((BitVec.toNat (BitVec.ofInt 64 x3637 ^^^ BitVec.ofInt 64 (IntKind.u64.wrap (x3637 * 8192))) : Nat) : Int))) 128)) : Nat) : Int))) ^^^ BitVec.ofInt 64 (IntKind.u64.wrap ((IntKind.u64.wrap (((BitVec.toNat (BitVec.ofInt 64 (IntKind.u64.wrap (((BitVec.toNat (BitVec.ofInt 64 x3637 ^^^ BitVec.ofInt 64 (IntKind.u64.wrap (x3637 * 8192))) : Nat) : Int))) ^^^ BitVec.ofInt 64 (Int.fdiv (IntKind.u64.wrap (((BitVec.toNat (BitVec.ofInt 64 x3637 ^^^ BitVec.ofInt 64 (IntKind.u64.wrap (x3637 * 8192))) : Nat) : Int))) 128)) : Nat) : Int))) * 131072))) : Nat) : Int))) &&& BitVec.ofInt 64 (IntKind.u64.wrap (t3609 - (1 : Int)))) : Nat) : Int)))) - (IntKind.i64.wrap (a2 - a1))))) else (some (IntKind.i64.wrap (IntKind.u64.wrap (((BitVec.toNat (BitVec.ofInt 64 (IntKind.u64.wrap (((BitVec.toNat (BitVec.ofInt 64 (IntKind.u64.wrap (((BitVec.toNat (BitVec.ofInt 64 (IntKind.u64.wrap (((BitVec.toNat (BitVec.ofInt 64 x3637 ^^^ BitVec.ofInt 64 (IntKind.u64.wrap (x3637 * 8192))) : Nat) : Int))) ^^^ BitVec.ofInt 64 (Int.fdiv (IntKind.u64.wrap (((BitVec.toNat (BitVec.ofInt 64 x3637 ^^^ BitVec.ofInt 64 (IntKind.u64.wrap (x3637 * 8192))) : Nat) : Int))) 128)) : Nat) : Int))) ^^^ BitVec.ofInt 64 (IntKind.u64.wrap ((IntKind.u64.wrap (((BitVec.toNat (BitVec.ofInt 64 (IntKind.u64.wrap (((BitVec.toNat (BitVec.ofInt 64 x3637 ^^^ BitVec.ofInt 64 (IntKind.u64.wrap (x3637 * 8192))) : Nat) : Int))) ^^^ BitVec.ofInt 64 (Int.fdiv (IntKind.u64.wrap (((BitVec.toNat (BitVec.ofInt 64 x3637 ^^^ BitVec.ofInt 64 (IntKind.u64.wrap (x3637 * 8192))) : Nat) : Int))) 128)) : Nat) : Int))) * 131072))) : Nat) : Int))) &&& BitVec.ofInt 64 (IntKind.u64.wrap (t3609 - (1 : Int)))) : Nat) : Int)))))) : Option (Int)) >>= fun x3645 => (at? x3636 (IntKind.i64.wrap (a1 + x3645))) >>= fun b3655 => (at? x3636 x3638) >>= fun b3658 => (at? (x3636.set (Int.toNat (x3638)) b3655) (IntKind.i64.wrap (a1 + x3645))) >>= fun b3661 => f_slices_breakPatternsOrdered_int.l0 a1 a2 t3609 ((x3636.set (Int.toNat (x3638)) b3655).set (Int.toNat (IntKind.i64.wrap (a1 + x3645))) b3658) (IntKind.u64.wrap (((BitVec.toNat (BitVec.ofInt 64 (IntKind.u64.wrap (((BitVec.toNat (BitVec.ofInt 64 (IntKind.u64.wrap (((BitVec.toNat (BitVec.ofInt 64 x3637 ^^^ BitVec.ofInt 64 (IntKind.u64.wrap (x3637 * 8192))) : Nat) : Int))) ^^^ BitVec.ofInt 64 (Int.fdiv (IntKind.u64.wrap (((BitVec.toNat (BitVec.ofInt 64 x3637 ^^^ BitVec.ofInt 64 (IntKind.u64.wrap (x3637 * 8192))) : Nat) : Int))) 128)) : Nat) : Int))) ^^^ BitVec.ofInt 64 (IntKind.u64.wrap ((IntKind.u64.wrap (((BitVec.toNat (BitVec.ofInt 64 (IntKind.u64.wrap (((BitVec.toNat (BitVec.ofInt 64 x3637 ^^^ BitVec.ofInt 64 (IntKind.u64.wrap (x3637 * 8192))) : Nat) : Int))) ^^^ BitVec.ofInt 64 (Int.fdiv (IntKind.u64.wrap (((BitVec.toNat (BitVec.ofInt 64 x3637 ^^^ BitVec.ofInt 64 (IntKind.u64.wrap (x3637 * 8192))) : Nat) : Int))) 128)) : Nat) : Int))) * 131072))) : Nat) : Int))) (IntKind.i64.wrap (x3638 + (1 : Int)))) else (some x3636)
partial_fixpoint
def f_slices_breakPatternsOrdered_int.f (a0 : List Int) (a1 : Int) (a2 : Int) : Option (List Int) := ((if (decide ((IntKind.i64.wrap (a2 - a1)) ≥ (8 : Int))) = true then ((f_slices_nextPowerOfTwo.f (IntKind.i64.wrap (a2 - a1))) >>= fun t3609 => (f_slices_breakPatternsOrdered_int.l0 a1 a2 t3609 a0 (IntKind.u64.wrap (IntKind.i64.wrap (a2 - a1))) (IntKind.i64.wrap ((IntKind.i64.wrap (a1 + (IntKind.i64.wrap ((IntKind.i64.wrap (Int.tdiv (IntKind.i64.wrap (a2 - a1)) (4 : Int))) * (2 : Int))))) - (1 : Int)))) >>= fun x3664 => some x3664) else (some a0)) : Option (List Int)) >>= fun x3665 => some x3665
theorem f_slices_breakPatternsOrdered_int.ok (a0 : List Int) (a1 : Int) (a2 : Int) (r : List Int) (H : f_slices_breakPatternsOrdered_int.f a0 a1 a2 = some r) : Pv.Fn Try.prog 69 [.own 0, iV .i64 a1, iV .i64 a2] [(0, some (.row 1 3 (a0.map (encInt .i64))))] 1 (fun x o => x = .tup [] ∧ o = [(0, some (.row 1 3 (r.map (encInt .i64))))]) := by
  unfold f_slices_breakPatternsOrdered_int.f at H
  refine Fn.bodyK [0] Try.func69 rfl rfl (fun Γ hP hn => ?_)
  have hm : Try.prog.follows .mixedOrders = true := by kernel_rfl
  replace hn : Γ.n = 65 := hn
  refine AWp.seq ?_
  refine reg hP hn hm [] [0, 1, 6] [0] ⟨[(0, .own 0), (1, iV .i64 a1), (6, iV .i64 (IntKind.i64.wrap (a2 - a1)))], [(0, some (.row 1 3 (a0.map (encInt .i64))))], 1⟩ [] (by kernel_rfl) trivial ?_
  refine AWp.seq ?_
  refine reg hP hn hm [] [0, 1, 6, 15] [0] ⟨[(0, .own 0), (1, iV .i64 a1), (6, iV .i64 (IntKind.i64.wrap (a2 - a1))), (15, bV (decide ((IntKind.i64.wrap (a2 - a1)) ≥ (8 : Int))))], [(0, some (.row 1 3 (a0.map (encInt .i64))))], 1⟩ [] (by kernel_rfl) trivial ?_
  obtain ⟨o3666, e3667, H⟩ := bind_of H
  refine AWp.mono (Q := fun e s => (match (generalizing := false) o3666 with | x3665 => e = .normal ∧ s = ⟨[], [(0, some (.row 1 3 (x3665.map (encInt .i64))))], 1⟩)) (AWp.cv ?_) ?_
  · replace H := e3667; clear e3667
    refine AWp.cond (decide ((IntKind.i64.wrap (a2 - a1)) ≥ (8 : Int))) rfl (fun c3606 => ?_) (fun c3606 => ?_)
    · replace H := (ifT c3606).symm.trans H
      refine AWp.seq ?_
      refine reg hP hn hm [(2, .k 1)] [0, 1, 6, 7] [0, 1] ⟨[(0, .own 0), (1, iV .i64 a1), (6, iV .i64 (IntKind.i64.wrap (a2 - a1))), (7, .ptr 1 0 0)], [(0, some (.row 1 3 (a0.map (encInt .i64)))), (1, some (.box 164 [iV .u64 (IntKind.u64.wrap (IntKind.i64.wrap (a2 - a1)))]))], 1⟩ [] (by kernel_rfl) trivial ?_
      refine AWp.seq ?_
      obtain ⟨t3609, e3610, H⟩ := bind_of H
      refine reg hP hn hm [(1, .call [] [] [] [] 0 (iV .u64 t3609) [])] [0, 1, 6, 7, 8] [0, 1] ⟨[(0, .own 0), (1, iV .i64 a1), (6, iV .i64 (IntKind.i64.wrap (a2 - a1))), (7, .ptr 1 0 0), (8, iV .u64 t3609)], [(0, some (.row 1 3 (a0.map (encInt .i64)))), (1, some (.box 164 [iV .u64 (IntKind.u64.wrap (IntKind.i64.wrap (a2 - a1)))]))], 1⟩ [Enters Try.prog 100, Pv.Fn Try.prog 100 [iV .i64 (IntKind.i64.wrap (a2 - a1))] [] 0 (fun r o => r = iV .u64 t3609 ∧ o = [])] (by kernel_rfl) ⟨by exact Try.call100, by exact f_slices_nextPowerOfTwo.ok (IntKind.i64.wrap (a2 - a1)) t3609 e3610, trivial⟩ ?_
      refine AWp.seq ?_
      refine reg hP hn hm [] [0, 1, 6, 7, 8, 9] [0, 1] ⟨[(0, .own 0), (1, iV .i64 a1), (6, iV .i64 (IntKind.i64.wrap (a2 - a1))), (7, .ptr 1 0 0), (8, iV .u64 t3609), (9, iV .i64 (IntKind.i64.wrap ((IntKind.i64.wrap (a1 + (IntKind.i64.wrap ((IntKind.i64.wrap (Int.tdiv (IntKind.i64.wrap (a2 - a1)) (4 : Int))) * (2 : Int))))) - (1 : Int))))], [(0, some (.row 1 3 (a0.map (encInt .i64)))), (1, some (.box 164 [iV .u64 (IntKind.u64.wrap (IntKind.i64.wrap (a2 - a1)))]))], 1⟩ [(4 : Int) ≠ 0] (by kernel_rfl) ⟨by decide, trivial⟩ ?_
      refine AWp.block ?_
      obtain ⟨o3668, e3669, H⟩ := bind_of H
      refine AWp.loop (LWp.conv (inv := [(0, 0), (1, 3)]) (vk := []) (e0 := []) (t := ⟨[(0, .own 0), (1, iV .i64 a1), (6, iV .i64 (IntKind.i64.wrap (a2 - a1))), (7, .ptr 3 0 0), (8, iV .u64 t3609), (9, iV .i64 (IntKind.i64.wrap ((IntKind.i64.wrap (a1 + (IntKind.i64.wrap ((IntKind.i64.wrap (Int.tdiv (IntKind.i64.wrap (a2 - a1)) (4 : Int))) * (2 : Int))))) - (1 : Int))))], [(0, some (.row 1 3 (a0.map (encInt .i64)))), (3, some (.box 164 [iV .u64 (IntKind.u64.wrap (IntKind.i64.wrap (a2 - a1)))]))], 1⟩) (by kernel_rfl) ?_)
      refine LWp.mono (Q := fun e s => (match (generalizing := false) o3668 with | x3664 => e = .exit 0 ∧ s = ⟨[], [(0, some (.row 1 3 (x3664.map (encInt .i64))))], 1⟩)) (LWp.cv (withBody (fun body hbody => ?_))) ?_
      · refine f_slices_breakPatternsOrdered_int.l0.partial_correctness a1 a2 t3609 (motive := fun x3636 x3637 x3638 o3668 => LWp Γ body (fun e s => ∃ t, Cv Γ s t ∧ (match (generalizing := false) o3668 with | x3664 => e = .exit 0 ∧ t = ⟨[], [(0, some (.row 1 3 (x3664.map (encInt .i64))))], 1⟩)) ⟨[(0, .own 0), (1, iV .i64 a1), (6, iV .i64 (IntKind.i64.wrap (a2 - a1))), (7, .ptr 3 0 0), (8, iV .u64 t3609), (9, iV .i64 x3638)], [(0, some (.row 1 3 (x3636.map (encInt .i64)))), (3, some (.box 164 [iV .u64 x3637]))], 1⟩) ?_ _ _ _ _ e3669
        clear H e3669 o3668; intro self ih x3636 x3637 x3638 o3668 H
        subst hbody
        refine LWp.round ?_
        refine AWp.seq ?_
        refine AWp.seq ?_
        refine reg hP hn hm [] [0, 1, 6, 7, 8, 9, 33] [0, 3] ⟨[(0, .own 0), (1, iV .i64 a1), (6, iV .i64 (IntKind.i64.wrap (a2 - a1))), (7, .ptr 3 0 0), (8, iV .u64 t3609), (9, iV .i64 x3638), (33, bV (decide (x3638 ≤ (IntKind.i64.wrap ((IntKind.i64.wrap (a1 + (IntKind.i64.wrap ((IntKind.i64.wrap (Int.tdiv (IntKind.i64.wrap (a2 - a1)) (4 : Int))) * (2 : Int))))) + (1 : Int))))))], [(0, some (.row 1 3 (x3636.map (encInt .i64)))), (3, some (.box 164 [iV .u64 x3637]))], 1⟩ [(4 : Int) ≠ 0] (by kernel_rfl) ⟨by decide, trivial⟩ ?_
        refine AWp.cond (decide (x3638 ≤ (IntKind.i64.wrap ((IntKind.i64.wrap (a1 + (IntKind.i64.wrap ((IntKind.i64.wrap (Int.tdiv (IntKind.i64.wrap (a2 - a1)) (4 : Int))) * (2 : Int))))) + (1 : Int))))) rfl (fun c3639 => ?_) (fun c3639 => ?_)
        · replace H := (ifT c3639).symm.trans H
          refine AWp.skip ?_
          refine AWp.seq ?_
          refine AWp.block ?_
          refine AWp.seq ?_
          obtain ⟨t3642, e3643, H⟩ := bind_of H
          refine reg hP hn hm [(0, .call [(3, 0)] [(0, 3)] [] [] 1 (iV .u64 (IntKind.u64.wrap (((BitVec.toNat (BitVec.ofInt 64 (IntKind.u64.wrap (((BitVec.toNat (BitVec.ofInt 64 (IntKind.u64.wrap (((BitVec.toNat (BitVec.ofInt 64 x3637 ^^^ BitVec.ofInt 64 (IntKind.u64.wrap (x3637 * 8192))) : Nat) : Int))) ^^^ BitVec.ofInt 64 (Int.fdiv (IntKind.u64.wrap (((BitVec.toNat (BitVec.ofInt 64 x3637 ^^^ BitVec.ofInt 64 (IntKind.u64.wrap (x3637 * 8192))) : Nat) : Int))) 128)) : Nat) : Int))) ^^^ BitVec.ofInt 64 (IntKind.u64.wrap ((IntKind.u64.wrap (((BitVec.toNat (BitVec.ofInt 64 (IntKind.u64.wrap (((BitVec.toNat (BitVec.ofInt 64 x3637 ^^^ BitVec.ofInt 64 (IntKind.u64.wrap (x3637 * 8192))) : Nat) : Int))) ^^^ BitVec.ofInt 64 (Int.fdiv (IntKind.u64.wrap (((BitVec.toNat (BitVec.ofInt 64 x3637 ^^^ BitVec.ofInt 64 (IntKind.u64.wrap (x3637 * 8192))) : Nat) : Int))) 128)) : Nat) : Int))) * 131072))) : Nat) : Int)))) [(0, some (.box 164 [iV .u64 (IntKind.u64.wrap (((BitVec.toNat (BitVec.ofInt 64 (IntKind.u64.wrap (((BitVec.toNat (BitVec.ofInt 64 (IntKind.u64.wrap (((BitVec.toNat (BitVec.ofInt 64 x3637 ^^^ BitVec.ofInt 64 (IntKind.u64.wrap (x3637 * 8192))) : Nat) : Int))) ^^^ BitVec.ofInt 64 (Int.fdiv (IntKind.u64.wrap (((BitVec.toNat (BitVec.ofInt 64 x3637 ^^^ BitVec.ofInt 64 (IntKind.u64.wrap (x3637 * 8192))) : Nat) : Int))) 128)) : Nat) : Int))) ^^^ BitVec.ofInt 64 (IntKind.u64.wrap ((IntKind.u64.wrap (((BitVec.toNat (BitVec.ofInt 64 (IntKind.u64.wrap (((BitVec.toNat (BitVec.ofInt 64 x3637 ^^^ BitVec.ofInt 64 (IntKind.u64.wrap (x3637 * 8192))) : Nat) : Int))) ^^^ BitVec.ofInt 64 (Int.fdiv (IntKind.u64.wrap (((BitVec.toNat (BitVec.ofInt 64 x3637 ^^^ BitVec.ofInt 64 (IntKind.u64.wrap (x3637 * 8192))) : Nat) : Int))) 128)) : Nat) : Int))) * 131072))) : Nat) : Int)))]))])] [0, 1, 6, 7, 8, 9, 10] [0, 3] ⟨[(0, .own 0), (1, iV .i64 a1), (6, iV .i64 (IntKind.i64.wrap (a2 - a1))), (7, .ptr 3 0 0), (8, iV .u64 t3609), (9, iV .i64 x3638), (10, iV .i64 (IntKind.i64.wrap (IntKind.u64.wrap (((BitVec.toNat (BitVec.ofInt 64 (IntKind.u64.wrap (((BitVec.toNat (BitVec.ofInt 64 (IntKind.u64.wrap (((BitVec.toNat (BitVec.ofInt 64 (IntKind.u64.wrap (((BitVec.toNat (BitVec.ofInt 64 x3637 ^^^ BitVec.ofInt 64 (IntKind.u64.wrap (x3637 * 8192))) : Nat) : Int))) ^^^ BitVec.ofInt 64 (Int.fdiv (IntKind.u64.wrap (((BitVec.toNat (BitVec.ofInt 64 x3637 ^^^ BitVec.ofInt 64 (IntKind.u64.wrap (x3637 * 8192))) : Nat) : Int))) 128)) : Nat) : Int))) ^^^ BitVec.ofInt 64 (IntKind.u64.wrap ((IntKind.u64.wrap (((BitVec.toNat (BitVec.ofInt 64 (IntKind.u64.wrap (((BitVec.toNat (BitVec.ofInt 64 x3637 ^^^ BitVec.ofInt 64 (IntKind.u64.wrap (x3637 * 8192))) : Nat) : Int))) ^^^ BitVec.ofInt 64 (Int.fdiv (IntKind.u64.wrap (((BitVec.toNat (BitVec.ofInt 64 x3637 ^^^ BitVec.ofInt 64 (IntKind.u64.wrap (x3637 * 8192))) : Nat) : Int))) 128)) : Nat) : Int))) * 131072))) : Nat) : Int))) &&& BitVec.ofInt 64 (IntKind.u64.wrap (t3609 - (1 : Int)))) : Nat) : Int)))))], [(0, some (.row 1 3 (x3636.map (encInt .i64)))), (3, some (.box 164 [iV .u64 (IntKind.u64.wrap (((BitVec.toNat (BitVec.ofInt 64 (IntKind.u64.wrap (((BitVec.toNat (BitVec.ofInt 64 (IntKind.u64.wrap (((BitVec.toNat (BitVec.ofInt 64 x3637 ^^^ BitVec.ofInt 64 (IntKind.u64.wrap (x3637 * 8192))) : Nat) : Int))) ^^^ BitVec.ofInt 64 (Int.fdiv (IntKind.u64.wrap (((BitVec.toNat (BitVec.ofInt 64 x3637 ^^^ BitVec.ofInt 64 (IntKind.u64.wrap (x3637 * 8192))) : Nat) : Int))) 128)) : Nat) : Int))) ^^^ BitVec.ofInt 64 (IntKind.u64.wrap ((IntKind.u64.wrap (((BitVec.toNat (BitVec.ofInt 64 (IntKind.u64.wrap (((BitVec.toNat (BitVec.ofInt 64 x3637 ^^^ BitVec.ofInt 64 (IntKind.u64.wrap (x3637 * 8192))) : Nat) : Int))) ^^^ BitVec.ofInt 64 (Int.fdiv (IntKind.u64.wrap (((BitVec.toNat (BitVec.ofInt 64 x3637 ^^^ BitVec.ofInt 64 (IntKind.u64.wrap (x3637 * 8192))) : Nat) : Int))) 128)) : Nat) : Int))) * 131072))) : Nat) : Int)))]))], 1⟩ [Enters Try.prog 101, Pv.Fn Try.prog 101 [.ptr 0 0 0] [(0, some (.box 164 [iV .u64 x3637]))] 1 (fun r o => r = iV .u64 (IntKind.u64.wrap (((BitVec.toNat (BitVec.ofInt 64 (IntKind.u64.wrap (((BitVec.toNat (BitVec.ofInt 64 (IntKind.u64.wrap (((BitVec.toNat (BitVec.ofInt 64 x3637 ^^^ BitVec.ofInt 64 (IntKind.u64.wrap (x3637 * 8192))) : Nat) : Int))) ^^^ BitVec.ofInt 64 (Int.fdiv (IntKind.u64.wrap (((BitVec.toNat (BitVec.ofInt 64 x3637 ^^^ BitVec.ofInt 64 (IntKind.u64.wrap (x3637 * 8192))) : Nat) : Int))) 128)) : Nat) : Int))) ^^^ BitVec.ofInt 64 (IntKind.u64.wrap ((IntKind.u64.wrap (((BitVec.toNat (BitVec.ofInt 64 (IntKind.u64.wrap (((BitVec.toNat (BitVec.ofInt 64 x3637 ^^^ BitVec.ofInt 64 (IntKind.u64.wrap (x3637 * 8192))) : Nat) : Int))) ^^^ BitVec.ofInt 64 (Int.fdiv (IntKind.u64.wrap (((BitVec.toNat (BitVec.ofInt 64 x3637 ^^^ BitVec.ofInt 64 (IntKind.u64.wrap (x3637 * 8192))) : Nat) : Int))) 128)) : Nat) : Int))) * 131072))) : Nat) : Int))) ∧ o = [(0, some (.box 164 [iV .u64 (IntKind.u64.wrap (((BitVec.toNat (BitVec.ofInt 64 (IntKind.u64.wrap (((BitVec.toNat (BitVec.ofInt 64 (IntKind.u64.wrap (((BitVec.toNat (BitVec.ofInt 64 x3637 ^^^ BitVec.ofInt 64 (IntKind.u64.wrap (x3637 * 8192))) : Nat) : Int))) ^^^ BitVec.ofInt 64 (Int.fdiv (IntKind.u64.wrap (((BitVec.toNat (BitVec.ofInt 64 x3637 ^^^ BitVec.ofInt 64 (IntKind.u64.wrap (x3637 * 8192))) : Nat) : Int))) 128)) : Nat) : Int))) ^^^ BitVec.ofInt 64 (IntKind.u64.wrap ((IntKind.u64.wrap (((BitVec.toNat (BitVec.ofInt 64 (IntKind.u64.wrap (((BitVec.toNat (BitVec.ofInt 64 x3637 ^^^ BitVec.ofInt 64 (IntKind.u64.wrap (x3637 * 8192))) : Nat) : Int))) ^^^ BitVec.ofInt 64 (Int.fdiv (IntKind.u64.wrap (((BitVec.toNat (BitVec.ofInt 64 x3637 ^^^ BitVec.ofInt 64 (IntKind.u64.wrap (x3637 * 8192))) : Nat) : Int))) 128)) : Nat) : Int))) * 131072))) : Nat) : Int)))]))])] (by kernel_rfl) ⟨by exact Try.call101, by exact f_slices_xorshift_Next_6cb.ok x3637 t3642 e3643, trivial⟩ ?_
          refine AWp.seq ?_
          refine AWp.seq ?_
          refine reg hP hn hm [] [0, 1, 6, 7, 8, 9, 10, 43] [0, 3] ⟨[(0, .own 0), (1, iV .i64 a1), (6, iV .i64 (IntKind.i64.wrap (a2 - a1))), (7, .ptr 3 0 0), (8, iV .u64 t3609), (9, iV .i64 x3638), (10, iV .i64 (IntKind.i64.wrap (IntKind.u64.wrap (((BitVec.toNat (BitVec.ofInt 64 (IntKind.u64.wrap (((BitVec.toNat (BitVec.ofInt 64 (IntKind.u64.wrap (((BitVec.toNat (BitVec.ofInt 64 (IntKind.u64.wrap (((BitVec.toNat (BitVec.ofInt 64 x3637 ^^^ BitVec.ofInt 64 (IntKind.u64.wrap (x3637 * 8192))) : Nat) : Int))) ^^^ BitVec.ofInt 64 (Int.fdiv (IntKind.u64.wrap (((BitVec.toNat (BitVec.ofInt 64 x3637 ^^^ BitVec.ofInt 64 (IntKind.u64.wrap (x3637 * 8192))) : Nat) : Int))) 128)) : Nat) : Int))) ^^^ BitVec.ofInt 64 (IntKind.u64.wrap ((IntKind.u64.wrap (((BitVec.toNat (BitVec.ofInt 64 (IntKind.u64.wrap (((BitVec.toNat (BitVec.ofInt 64 x3637 ^^^ BitVec.ofInt 64 (IntKind.u64.wrap (x3637 * 8192))) : Nat) : Int))) ^^^ BitVec.ofInt 64 (Int.fdiv (IntKind.u64.wrap (((BitVec.toNat (BitVec.ofInt 64 x3637 ^^^ BitVec.ofInt 64 (IntKind.u64.wrap (x3637 * 8192))) : Nat) : Int))) 128)) : Nat) : Int))) * 131072))) : Nat) : Int))) &&& BitVec.ofInt 64 (IntKind.u64.wrap (t3609 - (1 : Int)))) : Nat) : Int))))), (43, bV (decide ((IntKind.i64.wrap (IntKind.u64.wrap (((BitVec.toNat (BitVec.ofInt 64 (IntKind.u64.wrap (((BitVec.toNat (BitVec.ofInt 64 (IntKind.u64.wrap (((BitVec.toNat (BitVec.ofInt 64 (IntKind.u64.wrap (((BitVec.toNat (BitVec.ofInt 64 x3637 ^^^ BitVec.ofInt 64 (IntKind.u64.wrap (x3637 * 8192))) : Nat) : Int))) ^^^ BitVec.ofInt 64 (Int.fdiv (IntKind.u64.wrap (((BitVec.toNat (BitVec.ofInt 64 x3637 ^^^ BitVec.ofInt 64 (IntKind.u64.wrap (x3637 * 8192))) : Nat) : Int))) 128)) : Nat) : Int))) ^^^ BitVec.ofInt 64 (IntKind.u64.wrap ((IntKind.u64.wrap (((BitVec.toNat (BitVec.ofInt 64 (IntKind.u64.wrap (((BitVec.toNat (BitVec.ofInt 64 x3637 ^^^ BitVec.ofInt 64 (IntKind.u64.wrap (x3637 * 8192))) : Nat) : Int))) ^^^ BitVec.ofInt 64 (Int.fdiv (IntKind.u64.wrap (((BitVec.toNat (BitVec.ofInt 64 x3637 ^^^ BitVec.ofInt 64 (IntKind.u64.wrap (x3637 * 8192))) : Nat) : Int))) 128)) : Nat) : Int))) * 131072))) : Nat) : Int))) &&& BitVec.ofInt 64 (IntKind.u64.wrap (t3609 - (1 : Int)))) : Nat) : Int)))) ≥ (IntKind.i64.wrap (a2 - a1)))))], [(0, some (.row 1 3 (x3636.map (encInt .i64)))), (3, some (.box 164 [iV .u64 (IntKind.u64.wrap (((BitVec.toNat (BitVec.ofInt 64 (IntKind.u64.wrap (((BitVec.toNat (BitVec.ofInt 64 (IntKind.u64.wrap (((BitVec.toNat (BitVec.ofInt 64 x3637 ^^^ BitVec.ofInt 64 (IntKind.u64.wrap (x3637 * 8192))) : Nat) : Int))) ^^^ BitVec.ofInt 64 (Int.fdiv (IntKind.u64.wrap (((BitVec.toNat (BitVec.ofInt 64 x3637 ^^^ BitVec.ofInt 64 (IntKind.u64.wrap (x3637 * 8192))) : Nat) : Int))) 128)) : Nat) : Int))) ^^^ BitVec.ofInt 64 (IntKind.u64.wrap ((IntKind.u64.wrap (((BitVec.toNat (BitVec.ofInt 64 (IntKind.u64.wrap (((BitVec.toNat (BitVec.ofInt 64 x3637 ^^^ BitVec.ofInt 64 (IntKind.u64.wrap (x3637 * 8192))) : Nat) : Int))) ^^^ BitVec.ofInt 64 (Int.fdiv (IntKind.u64.wrap (((BitVec.toNat (BitVec.ofInt 64 x3637 ^^^ BitVec.ofInt 64 (IntKind.u64.wrap (x3637 * 8192))) : Nat) : Int))) 128)) : Nat) : Int))) * 131072))) : Nat) : Int)))]))], 1⟩ [] (by kernel_rfl) trivial ?_
          obtain ⟨o3670, e3671, H⟩ := bind_of H
          refine AWp.mono (Q := fun e s => (match (generalizing := false) o3670 with | x3645 => e = .normal ∧ s = ⟨[(0, .own 0), (1, iV .i64 a1), (6, iV .i64 (IntKind.i64.wrap (a2 - a1))), (7, .ptr 4 0 0), (8, iV .u64 t3609), (9, iV .i64 x3638), (10, iV .i64 x3645)], [(0, some (.row 1 3 (x3636.map (encInt .i64)))), (4, some (.box 164 [iV .u64 (IntKind.u64.wrap (((BitVec.toNat (BitVec.ofInt 64 (IntKind.u64.wrap (((BitVec.toNat (BitVec.ofInt 64 (IntKind.u64.wrap (((BitVec.toNat (BitVec.ofInt 64 x3637 ^^^ BitVec.ofInt 64 (IntKind.u64.wrap (x3637 * 8192))) : Nat) : Int))) ^^^ BitVec.ofInt 64 (Int.fdiv (IntKind.u64.wrap (((BitVec.toNat (BitVec.ofInt 64 x3637 ^^^ BitVec.ofInt 64 (IntKind.u64.wrap (x3637 * 8192))) : Nat) : Int))) 128)) : Nat) : Int))) ^^^ BitVec.ofInt 64 (IntKind.u64.wrap ((IntKind.u64.wrap (((BitVec.toNat (BitVec.ofInt 64 (IntKind.u64.wrap (((BitVec.toNat (BitVec.ofInt 64 x3637 ^^^ BitVec.ofInt 64 (IntKind.u64.wrap (x3637 * 8192))) : Nat) : Int))) ^^^ BitVec.ofInt 64 (Int.fdiv (IntKind.u64.wrap (((BitVec.toNat (BitVec.ofInt 64 x3637 ^^^ BitVec.ofInt 64 (IntKind.u64.wrap (x3637 * 8192))) : Nat) : Int))) 128)) : Nat) : Int))) * 131072))) : Nat) : Int)))]))], 1⟩)) (AWp.cv ?_) ?_
          · replace H := e3671; clear e3671
            refine AWp.cond (decide ((IntKind.i64.wrap (IntKind.u64.wrap (((BitVec.toNat (BitVec.ofInt 64 (IntKind.u64.wrap (((BitVec.toNat (BitVec.ofInt 64 (IntKind.u64.wrap (((BitVec.toNat (BitVec.ofInt 64 (IntKind.u64.wrap (((BitVec.toNat (BitVec.ofInt 64 x3637 ^^^ BitVec.ofInt 64 (IntKind.u64.wrap (x3637 * 8192))) : Nat) : Int))) ^^^ BitVec.ofInt 64 (Int.fdiv (IntKind.u64.wrap (((BitVec.toNat (BitVec.ofInt 64 x3637 ^^^ BitVec.ofInt 64 (IntKind.u64.wrap (x3637 * 8192))) : Nat) : Int))) 128)) : Nat) : Int))) ^^^ BitVec.ofInt 64 (IntKind.u64.wrap ((IntKind.u64.wrap (((BitVec.toNat (BitVec.ofInt 64 (IntKind.u64.wrap (((BitVec.toNat (BitVec.ofInt 64 x3637 ^^^ BitVec.ofInt 64 (IntKind.u64.wrap (x3637 * 8192))) : Nat) : Int))) ^^^ BitVec.ofInt 64 (Int.fdiv (IntKind.u64.wrap (((BitVec.toNat (BitVec.ofInt 64 x3637 ^^^ BitVec.ofInt 64 (IntKind.u64.wrap (x3637 * 8192))) : Nat) : Int))) 128)) : Nat) : Int))) * 131072))) : Nat) : Int))) &&& BitVec.ofInt 64 (IntKind.u64.wrap (t3609 - (1 : Int)))) : Nat) : Int)))) ≥ (IntKind.i64.wrap (a2 - a1)))) rfl (fun c3644 => ?_) (fun c3644 => ?_)
            · replace H := (ifT c3644).symm.trans H
              refine reg hP hn hm [] [0, 1, 6, 7, 8, 9, 10] [0, 3] ⟨[(0, .own 0), (1, iV .i64 a1), (6, iV .i64 (IntKind.i64.wrap (a2 - a1))), (7, .ptr 3 0 0), (8, iV .u64 t3609), (9, iV .i64 x3638), (10, iV .i64 (IntKind.i64.wrap ((IntKind.i64.wrap (IntKind.u64.wrap (((BitVec.toNat (BitVec.ofInt 64 (IntKind.u64.wrap (((BitVec.toNat (BitVec.ofInt 64 (IntKind.u64.wrap (((BitVec.toNat (BitVec.ofInt 64 (IntKind.u64.wrap (((BitVec.toNat (BitVec.ofInt 64 x3637 ^^^ BitVec.ofInt 64 (IntKind.u64.wrap (x3637 * 8192))) : Nat) : Int))) ^^^ BitVec.ofInt 64 (Int.fdiv (IntKind.u64.wrap (((BitVec.toNat (BitVec.ofInt 64 x3637 ^^^ BitVec.ofInt 64 (IntKind.u64.wrap (x3637 * 8192))) : Nat) : Int))) 128)) : Nat) : Int))) ^^^ BitVec.ofInt 64 (IntKind.u64.wrap ((IntKind.u64.wrap (((BitVec.toNat (BitVec.ofInt 64 (IntKind.u64.wrap (((BitVec.toNat (BitVec.ofInt 64 x3637 ^^^ BitVec.ofInt 64 (IntKind.u64.wrap (x3637 * 8192))) : Nat) : Int))) ^^^ BitVec.ofInt 64 (Int.fdiv (IntKind.u64.wrap (((BitVec.toNat (BitVec.ofInt 64 x3637 ^^^ BitVec.ofInt 64 (IntKind.u64.wrap (x3637 * 8192))) : Nat) : Int))) 128)) : Nat) : Int))) * 131072))) : Nat) : Int))) &&& BitVec.ofInt 64 (IntKind.u64.wrap (t3609 - (1 : Int)))) : Nat) : Int)))) - (IntKind.i64.wrap (a2 - a1)))))], [(0, some (.row 1 3 (x3636.map (encInt .i64)))), (3, some (.box 164 [iV .u64 (IntKind.u64.wrap (((BitVec.toNat (BitVec.ofInt 64 (IntKind.u64.wrap (((BitVec.toNat (BitVec.ofInt 64 (IntKind.u64.wrap (((BitVec.toNat (BitVec.ofInt 64 x3637 ^^^ BitVec.ofInt 64 (IntKind.u64.wrap (x3637 * 8192))) : Nat) : Int))) ^^^ BitVec.ofInt 64 (Int.fdiv (IntKind.u64.wrap (((BitVec.toNat (BitVec.ofInt 64 x3637 ^^^ BitVec.ofInt 64 (IntKind.u64.wrap (x3637 * 8192))) : Nat) : Int))) 128)) : Nat) : Int))) ^^^ BitVec.ofInt 64 (IntKind.u64.wrap ((IntKind.u64.wrap (((BitVec.toNat (BitVec.ofInt 64 (IntKind.u64.wrap (((BitVec.toNat (BitVec.ofInt 64 x3637 ^^^ BitVec.ofInt 64 (IntKind.u64.wrap (x3637 * 8192))) : Nat) : Int))) ^^^ BitVec.ofInt 64 (Int.fdiv (IntKind.u64.wrap (((BitVec.toNat (BitVec.ofInt 64 x3637 ^^^ BitVec.ofInt 64 (IntKind.u64.wrap (x3637 * 8192))) : Nat) : Int))) 128)) : Nat) : Int))) * 131072))) : Nat) : Int)))]))], 1⟩ [] (by kernel_rfl) trivial ?_
              obtain rfl := Option.some.inj H
              exact Exists.intro _ (And.intro (fun _ _ h => h.conv (inv := [(0, 0), (3, 4)]) (vk := []) (e0 := []) (t := ⟨[(0, .own 0), (1, iV .i64 a1), (6, iV .i64 (IntKind.i64.wrap (a2 - a1))), (7, .ptr 4 0 0), (8, iV .u64 t3609), (9, iV .i64 x3638), (10, iV .i64 (IntKind.i64.wrap ((IntKind.i64.wrap (IntKind.u64.wrap (((BitVec.toNat (BitVec.ofInt 64 (IntKind.u64.wrap (((BitVec.toNat (BitVec.ofInt 64 (IntKind.u64.wrap (((BitVec.toNat (BitVec.ofInt 64 (IntKind.u64.wrap (((BitVec.toNat (BitVec.ofInt 64 x3637 ^^^ BitVec.ofInt 64 (IntKind.u64.wrap (x3637 * 8192))) : Nat) : Int))) ^^^ BitVec.ofInt 64 (Int.fdiv (IntKind.u64.wrap (((BitVec.toNat (BitVec.ofInt 64 x3637 ^^^ BitVec.ofInt 64 (IntKind.u64.wrap (x3637 * 8192))) : Nat) : Int))) 128)) : Nat) : Int))) ^^^ BitVec.ofInt 64 (IntKind.u64.wrap ((IntKind.u64.wrap (((BitVec.toNat (BitVec.ofInt 64 (IntKind.u64.wrap (((BitVec.toNat (BitVec.ofInt 64 x3637 ^^^ BitVec.ofInt 64 (IntKind.u64.wrap (x3637 * 8192))) : Nat) : Int))) ^^^ BitVec.ofInt 64 (Int.fdiv (IntKind.u64.wrap (((BitVec.toNat (BitVec.ofInt 64 x3637 ^^^ BitVec.ofInt 64 (IntKind.u64.wrap (x3637 * 8192))) : Nat) : Int))) 128)) : Nat) : Int))) * 131072))) : Nat) : Int))) &&& BitVec.ofInt 64 (IntKind.u64.wrap (t3609 - (1 : Int)))) : Nat) : Int)))) - (IntKind.i64.wrap (a2 - a1)))))], [(0, some (.row 1 3 (x3636.map (encInt .i64)))), (4, some (.box 164 [iV .u64 (IntKind.u64.wrap (((BitVec.toNat (BitVec.ofInt 64 (IntKind.u64.wrap (((BitVec.toNat (BitVec.ofInt 64 (IntKind.u64.wrap (((BitVec.toNat (BitVec.ofInt 64 x3637 ^^^ BitVec.ofInt 64 (IntKind.u64.wrap (x3637 * 8192))) : Nat) : Int))) ^^^ BitVec.ofInt 64 (Int.fdiv (IntKind.u64.wrap (((BitVec.toNat (BitVec.ofInt 64 x3637 ^^^ BitVec.ofInt 64 (IntKind.u64.wrap (x3637 * 8192))) : Nat) : Int))) 128)) : Nat) : Int))) ^^^ BitVec.ofInt 64 (IntKind.u64.wrap ((IntKind.u64.wrap (((BitVec.toNat (BitVec.ofInt 64 (IntKind.u64.wrap (((BitVec.toNat (BitVec.ofInt 64 x3637 ^^^ BitVec.ofInt 64 (IntKind.u64.wrap (x3637 * 8192))) : Nat) : Int))) ^^^ BitVec.ofInt 64 (Int.fdiv (IntKind.u64.wrap (((BitVec.toNat (BitVec.ofInt 64 x3637 ^^^ BitVec.ofInt 64 (IntKind.u64.wrap (x3637 * 8192))) : Nat) : Int))) 128)) : Nat) : Int))) * 131072))) : Nat) : Int)))]))], 1⟩) (by kernel_rfl)) (And.intro rfl rfl))
            · replace H := (ifF c3644).symm.trans H
              refine AWp.skip ?_
              obtain rfl := Option.some.inj H
              exact Exists.intro _ (And.intro (fun _ _ h => h.conv (inv := [(0, 0), (3, 4)]) (vk := []) (e0 := []) (t := ⟨[(0, .own 0), (1, iV .i64 a1), (6, iV .i64 (IntKind.i64.wrap (a2 - a1))), (7, .ptr 4 0 0), (8, iV .u64 t3609), (9, iV .i64 x3638), (10, iV .i64 (IntKind.i64.wrap (IntKind.u64.wrap (((BitVec.toNat (BitVec.ofInt 64 (IntKind.u64.wrap (((BitVec.toNat (BitVec.ofInt 64 (IntKind.u64.wrap (((BitVec.toNat (BitVec.ofInt 64 (IntKind.u64.wrap (((BitVec.toNat (BitVec.ofInt 64 x3637 ^^^ BitVec.ofInt 64 (IntKind.u64.wrap (x3637 * 8192))) : Nat) : Int))) ^^^ BitVec.ofInt 64 (Int.fdiv (IntKind.u64.wrap (((BitVec.toNat (BitVec.ofInt 64 x3637 ^^^ BitVec.ofInt 64 (IntKind.u64.wrap (x3637 * 8192))) : Nat) : Int))) 128)) : Nat) : Int))) ^^^ BitVec.ofInt 64 (IntKind.u64.wrap ((IntKind.u64.wrap (((BitVec.toNat (BitVec.ofInt 64 (IntKind.u64.wrap (((BitVec.toNat (BitVec.ofInt 64 x3637 ^^^ BitVec.ofInt 64 (IntKind.u64.wrap (x3637 * 8192))) : Nat) : Int))) ^^^ BitVec.ofInt 64 (Int.fdiv (IntKind.u64.wrap (((BitVec.toNat (BitVec.ofInt 64 x3637 ^^^ BitVec.ofInt 64 (IntKind.u64.wrap (x3637 * 8192))) : Nat) : Int))) 128)) : Nat) : Int))) * 131072))) : Nat) : Int))) &&& BitVec.ofInt 64 (IntKind.u64.wrap (t3609 - (1 : Int)))) : Nat) : Int)))))], [(0, some (.row 1 3 (x3636.map (encInt .i64)))), (4, some (.box 164 [iV .u64 (IntKind.u64.wrap (((BitVec.toNat (BitVec.ofInt 64 (IntKind.u64.wrap (((BitVec.toNat (BitVec.ofInt 64 (IntKind.u64.wrap (((BitVec.toNat (BitVec.ofInt 64 x3637 ^^^ BitVec.ofInt 64 (IntKind.u64.wrap (x3637 * 8192))) : Nat) : Int))) ^^^ BitVec.ofInt 64 (Int.fdiv (IntKind.u64.wrap (((BitVec.toNat (BitVec.ofInt 64 x3637 ^^^ BitVec.ofInt 64 (IntKind.u64.wrap (x3637 * 8192))) : Nat) : Int))) 128)) : Nat) : Int))) ^^^ BitVec.ofInt 64 (IntKind.u64.wrap ((IntKind.u64.wrap (((BitVec.toNat (BitVec.ofInt 64 (IntKind.u64.wrap (((BitVec.toNat (BitVec.ofInt 64 x3637 ^^^ BitVec.ofInt 64 (IntKind.u64.wrap (x3637 * 8192))) : Nat) : Int))) ^^^ BitVec.ofInt 64 (Int.fdiv (IntKind.u64.wrap (((BitVec.toNat (BitVec.ofInt 64 x3637 ^^^ BitVec.ofInt 64 (IntKind.u64.wrap (x3637 * 8192))) : Nat) : Int))) 128)) : Nat) : Int))) * 131072))) : Nat) : Int)))]))], 1⟩) (by kernel_rfl)) (And.intro rfl rfl))
          · obtain ⟨x3645, rfl⟩ : ∃ z, z = o3670 := ⟨_, rfl⟩
            rintro e s ⟨rfl, rfl⟩
            obtain ⟨b3655, p3656, q3657, H⟩ := at_of H
            obtain ⟨b3658, p3659, q3660, H⟩ := at_of H
            obtain ⟨b3661, p3662, q3663, H⟩ := at_of H
            refine reg hP hn hm [(11, .c ((encInt .i64) b3655)), (15, .c ((encInt .i64) b3658)), (17, .put ((encInt .i64) b3658) ((x3636.set (Int.toNat (x3638)) b3655).map (encInt .i64))), (19, .put ((encInt .i64) b3661) (((x3636.set (Int.toNat (x3638)) b3655).set (Int.toNat (IntKind.i64.wrap (a1 + x3645))) b3658).map (encInt .i64)))] [0, 1, 6, 7, 8, 9] [0, 4] ⟨[(0, .own 0), (1, iV .i64 a1), (6, iV .i64 (IntKind.i64.wrap (a2 - a1))), (7, .ptr 4 0 0), (8, iV .u64 t3609), (9, iV .i64 x3638)], [(0, some (.row 1 3 (((x3636.set (Int.toNat (x3638)) b3655).set (Int.toNat (IntKind.i64.wrap (a1 + x3645))) b3658).map (encInt .i64)))), (4, some (.box 164 [iV .u64 (IntKind.u64.wrap (((BitVec.toNat (BitVec.ofInt 64 (IntKind.u64.wrap (((BitVec.toNat (BitVec.ofInt 64 (IntKind.u64.wrap (((BitVec.toNat (BitVec.ofInt 64 x3637 ^^^ BitVec.ofInt 64 (IntKind.u64.wrap (x3637 * 8192))) : Nat) : Int))) ^^^ BitVec.ofInt 64 (Int.fdiv (IntKind.u64.wrap (((BitVec.toNat (BitVec.ofInt 64 x3637 ^^^ BitVec.ofInt 64 (IntKind.u64.wrap (x3637 * 8192))) : Nat) : Int))) 128)) : Nat) : Int))) ^^^ BitVec.ofInt 64 (IntKind.u64.wrap ((IntKind.u64.wrap (((BitVec.toNat (BitVec.ofInt 64 (IntKind.u64.wrap (((BitVec.toNat (BitVec.ofInt 64 x3637 ^^^ BitVec.ofInt 64 (IntKind.u64.wrap (x3637 * 8192))) : Nat) : Int))) ^^^ BitVec.ofInt 64 (Int.fdiv (IntKind.u64.wrap (((BitVec.toNat (BitVec.ofInt 64 x3637 ^^^ BitVec.ofInt 64 (IntKind.u64.wrap (x3637 * 8192))) : Nat) : Int))) 128)) : Nat) : Int))) * 131072))) : Nat) : Int)))]))], 1⟩ [0 ≤ (IntKind.i64.wrap (a1 + x3645)), IntKind.i64.wrap (a1 + x3645) < (((x3636.map (encInt .i64)).length : Nat) : Int), (x3636.map (encInt .i64))[(Int.toNat (IntKind.i64.wrap (a1 + x3645)))]? = some ((encInt .i64) b3655), 0 ≤ x3638, x3638 < (((x3636.map (encInt .i64)).length : Nat) : Int), (x3636.map (encInt .i64))[(Int.toNat (x3638))]? = some ((encInt .i64) b3658), 0 ≤ x3638, x3638 < (((x3636.map (encInt .i64)).length : Nat) : Int), (x3636.map (encInt .i64))[(Int.toNat (x3638))]? = some ((encInt .i64) b3658), (x3636.set (Int.toNat (x3638)) b3655).map (encInt .i64) = (x3636.map (encInt .i64)).set (Int.toNat (x3638)) (splice ((encInt .i64) b3658) 0 [iI .i64 b3655]), 0 ≤ (IntKind.i64.wrap (a1 + x3645)), IntKind.i64.wrap (a1 + x3645) < ((((x3636.set (Int.toNat (x3638)) b3655).map (encInt .i64)).length : Nat) : Int), ((x3636.set (Int.toNat (x3638)) b3655).map (encInt .i64))[(Int.toNat (IntKind.i64.wrap (a1 + x3645)))]? = some ((encInt .i64) b3661), ((x3636.set (Int.toNat (x3638)) b3655).set (Int.toNat (IntKind.i64.wrap (a1 + x3645))) b3658).map (encInt .i64) = ((x3636.set (Int.toNat (x3638)) b3655).map (encInt .i64)).set (Int.toNat (IntKind.i64.wrap (a1 + x3645))) (splice ((encInt .i64) b3661) 0 [iI .i64 b3658])] (by kernel_rfl) ⟨by exact p3656, by exact el_lt (encInt .i64) p3656 q3657, by exact el_map (encInt .i64) q3657, by exact p3659, by exact el_lt (encInt .i64) p3659 q3660, by exact el_map (encInt .i64) q3660, by exact p3659, by exact el_lt (encInt .i64) p3659 q3660, by exact el_map (encInt .i64) q3660, by exact set1 _ _ _ _, by exact p3662, by exact el_lt (encInt .i64) p3662 q3663, by exact el_map (encInt .i64) q3663, by exact set1 _ _ _ _, trivial⟩ ?_
            refine reg hP hn hm [] [0, 1, 6, 7, 8, 9] [0, 4] ⟨[(0, .own 0), (1, iV .i64 a1), (6, iV .i64 (IntKind.i64.wrap (a2 - a1))), (7, .ptr 4 0 0), (8, iV .u64 t3609), (9, iV .i64 (IntKind.i64.wrap (x3638 + (1 : Int))))], [(0, some (.row 1 3 (((x3636.set (Int.toNat (x3638)) b3655).set (Int.toNat (IntKind.i64.wrap (a1 + x3645))) b3658).map (encInt .i64)))), (4, some (.box 164 [iV .u64 (IntKind.u64.wrap (((BitVec.toNat (BitVec.ofInt 64 (IntKind.u64.wrap (((BitVec.toNat (BitVec.ofInt 64 (IntKind.u64.wrap (((BitVec.toNat (BitVec.ofInt 64 x3637 ^^^ BitVec.ofInt 64 (IntKind.u64.wrap (x3637 * 8192))) : Nat) : Int))) ^^^ BitVec.ofInt 64 (Int.fdiv (IntKind.u64.wrap (((BitVec.toNat (BitVec.ofInt 64 x3637 ^^^ BitVec.ofInt 64 (IntKind.u64.wrap (x3637 * 8192))) : Nat) : Int))) 128)) : Nat) : Int))) ^^^ BitVec.ofInt 64 (IntKind.u64.wrap ((IntKind.u64.wrap (((BitVec.toNat (BitVec.ofInt 64 (IntKind.u64.wrap (((BitVec.toNat (BitVec.ofInt 64 x3637 ^^^ BitVec.ofInt 64 (IntKind.u64.wrap (x3637 * 8192))) : Nat) : Int))) ^^^ BitVec.ofInt 64 (Int.fdiv (IntKind.u64.wrap (((BitVec.toNat (BitVec.ofInt 64 x3637 ^^^ BitVec.ofInt 64 (IntKind.u64.wrap (x3637 * 8192))) : Nat) : Int))) 128)) : Nat) : Int))) * 131072))) : Nat) : Int)))]))], 1⟩ [] (by kernel_rfl) trivial ?_
            exact LWp.conv (inv := [(0, 0), (4, 3)]) (vk := []) (e0 := []) (t := ⟨[(0, .own 0), (1, iV .i64 a1), (6, iV .i64 (IntKind.i64.wrap (a2 - a1))), (7, .ptr 3 0 0), (8, iV .u64 t3609), (9, iV .i64 (IntKind.i64.wrap (x3638 + (1 : Int))))], [(0, some (.row 1 3 (((x3636.set (Int.toNat (x3638)) b3655).set (Int.toNat (IntKind.i64.wrap (a1 + x3645))) b3658).map (encInt .i64)))), (3, some (.box 164 [iV .u64 (IntKind.u64.wrap (((BitVec.toNat (BitVec.ofInt 64 (IntKind.u64.wrap (((BitVec.toNat (BitVec.ofInt 64 (IntKind.u64.wrap (((BitVec.toNat (BitVec.ofInt 64 x3637 ^^^ BitVec.ofInt 64 (IntKind.u64.wrap (x3637 * 8192))) : Nat) : Int))) ^^^ BitVec.ofInt 64 (Int.fdiv (IntKind.u64.wrap (((BitVec.toNat (BitVec.ofInt 64 x3637 ^^^ BitVec.ofInt 64 (IntKind.u64.wrap (x3637 * 8192))) : Nat) : Int))) 128)) : Nat) : Int))) ^^^ BitVec.ofInt 64 (IntKind.u64.wrap ((IntKind.u64.wrap (((BitVec.toNat (BitVec.ofInt 64 (IntKind.u64.wrap (((BitVec.toNat (BitVec.ofInt 64 x3637 ^^^ BitVec.ofInt 64 (IntKind.u64.wrap (x3637 * 8192))) : Nat) : Int))) ^^^ BitVec.ofInt 64 (Int.fdiv (IntKind.u64.wrap (((BitVec.toNat (BitVec.ofInt 64 x3637 ^^^ BitVec.ofInt 64 (IntKind.u64.wrap (x3637 * 8192))) : Nat) : Int))) 128)) : Nat) : Int))) * 131072))) : Nat) : Int)))]))], 1⟩) (by kernel_rfl) (ih _ _ _ _ H)
        · replace H := (ifF c3639).symm.trans H
          refine AWp.exit ?_
          obtain rfl := Option.some.inj H
          exact Exists.intro _ (And.intro (fun _ _ h => h.conv (inv := [(0, 0)]) (vk := []) (e0 := []) (t := ⟨[], [(0, some (.row 1 3 (x3636.map (encInt .i64))))], 1⟩) (by kernel_rfl)) (And.intro rfl rfl))
      · obtain ⟨x3664, rfl⟩ : ∃ z, z = o3668 := ⟨_, rfl⟩
        rintro e s ⟨rfl, rfl⟩
        obtain rfl := Option.some.inj H
        exact Exists.intro _ (And.intro (fun _ _ h => h.conv (inv := [(0, 0)]) (vk := []) (e0 := []) (t := ⟨[], [(0, some (.row 1 3 (x3664.map (encInt .i64))))], 1⟩) (by kernel_rfl)) (And.intro rfl rfl))
    · replace H := (ifF c3606).symm.trans H
      refine AWp.skip ?_
      obtain rfl := Option.some.inj H
      exact Exists.intro _ (And.intro (fun _ _ h => h.conv (inv := [(0, 0)]) (vk := []) (e0 := []) (t := ⟨[], [(0, some (.row 1 3 (a0.map (encInt .i64))))], 1⟩) (by kernel_rfl)) (And.intro rfl rfl))
  · obtain ⟨x3665, rfl⟩ : ∃ z, z = o3666 := ⟨_, rfl⟩
    rintro e s ⟨rfl, rfl⟩
    obtain rfl := Option.some.inj H
    exact Exists.intro ⟨[], [(0, some (.row 1 3 (x3665.map (encInt .i64))))], 1⟩ (And.intro (fun _ _ h => h.conv (inv := [(0, 0)]) (vk := []) (e0 := []) (t := ⟨[], [(0, some (.row 1 3 (x3665.map (encInt .i64))))], 1⟩) (by kernel_rfl)) (And.intro (.inr rfl) (And.intro rfl (And.intro (by kernel_rfl) (by kernel_rfl)))))
def f_slices_pdqsortOrdered_int.l0 (self : (List Int) → Int → Int → Int → Option (List Int)) (x3749 : List Int) (x3750 : Int) (x3751 : Int) (x3752 : Int) (x3753 : Bool) (x3754 : Bool) : Option (List Int) := ((if (decide ((IntKind.i64.wrap (x3751 - x3750)) ≤ (12 : Int))) = true then ((f_slices_insertionSortOrdered_int.f x3749 x3750 x3751) >>= fun t3758 => some (.inl t3758)) else (if (x3752 == (0 : Int)) = true then ((f_slices_heapSortOrdered_int.f x3749 x3750 x3751) >>= fun t3763 => some (.inl t3763)) else (((if (!x3753) = true then ((f_slices_breakPatternsOrdered_int.f x3749 x3750 x3751) >>= fun t3768 => some (t3768, IntKind.i64.wrap (x3752 - (1 : Int)))) else (some (x3749, x3752))) : Option ((List Int) × Int)) >>= fun oo => match oo with | (x3770, x3771) => ((f_slices_choosePivotOrdered_int.f x3770 x3750 x3751) >>= fun t3774 => ((if (t3774.2 == (2 : Int)) = true then ((f_slices_reverseRangeOrdered_int.f x3770 x3750 x3751) >>= fun t3779 => some (t3779, IntKind.i64.wrap ((IntKind.i64.wrap (x3751 - (1 : Int))) - (IntKind.i64.wrap (t3774.1 - x3750))), 1)) else (some (x3770, t3774.1, t3774.2))) : Option ((List Int) × Int × Int)) >>= fun oo => match oo with | (x3781, x3782, x3783) => (((if x3753 = true then (if x3754 = true then (some (x3783 == (1 : Int))) else (some false)) else (some false)) : Option (Bool)) >>= fun x3788 => ((if x3788 = true then ((f_slices_partialInsertionSortOrdered_int.f x3781 x3750 x3751) >>= fun t3792 => if t3792.1 = true then (some (.inl t3792.2)) else (some (.inr t3792.2))) else (some (.inr x3781))) : Option ((List Int) ⊕ (List Int))) >>= fun oo => match oo with | .inl rr => (some (.inl rr)) | .inr x3795 => (((if (decide (x3750 > (0 : Int))) = true then ((at? x3795 (IntKind.i64.wrap (x3750 - (1 : Int)))) >>= fun b3806 => (at? x3795 x3782) >>= fun b3809 => (f_cmp_Less_int.f b3806 b3809) >>= fun t3812 => some (!t3812)) else (some false)) : Option (Bool)) >>= fun x3814 => if x3814 = true then ((f_slices_partitionEqualOrdered_int.f x3795 x3750 x3751 x3782) >>= fun t3818 => some (.inr (t3818.2, t3818.1, x3751, x3771, x3753, x3754))) else ((f_slices_partitionOrdered_int.f x3795 x3750 x3751 x3782) >>= fun t3822 => ((if (decide ((IntKind.i64.wrap (t3822.1 - x3750)) < (IntKind.i64.wrap (x3751 - t3822.1)))) = true then ((self t3822.2.2 x3750 t3822.1 x3771) >>= fun t3827 => some (t3827, IntKind.i64.wrap (t3822.1 + (1 : Int)), x3751, (decide ((IntKind.i64.wrap (t3822.1 - x3750)) ≥ (IntKind.i64.wrap (Int.tdiv (IntKind.i64.wrap (x3751 - x3750)) (8 : Int))))))) else ((self t3822.2.2 (IntKind.i64.wrap (t3822.1 + (1 : Int))) x3751 x3771) >>= fun t3831 => some (t3831, x3750, t3822.1, (decide ((IntKind.i64.wrap (x3751 - t3822.1)) ≥ (IntKind.i64.wrap (Int.tdiv (IntKind.i64.wrap (x3751 - x3750)) (8 : Int)))))))) : Option ((List Int) × Int × Int × Bool)) >>= fun oo => match oo with | (x3833, x3834, x3835, x3836) => (some (.inr (x3833, x3834, x3835, x3771, x3836, t3822.2.1)))))))))) : Option ((List Int) ⊕ ((List Int) × Int × Int × Int × Bool × Bool))) >>= fun oo => match oo with | .inl rr => (some rr) | .inr (x3837, x3838, x3839, x3840, x3841, x3842) => (f_slices_pdqsortOrdered_int.l0 self x3837 x3838 x3839 x3840 x3841 x3842)
partial_fixpoint
def f_slices_pdqsortOrdered_int.fu : Nat → (List Int) → Int → Int → Int → Option (List Int)
  | 0, _, _, _, _ => none
  | k + 1, a0, a1, a2, a3 => (f_slices_pdqsortOrdered_int.l0 (f_slices_pdqsortOrdered_int.fu k) a0 a1 a2 a3 true true) >>= fun rr => some rr
def f_slices_pdqsortOrdered_int.f (a0 : List Int) (a1 : Int) (a2 : Int) (a3 : Int) : Option (List Int) := f_slices_pdqsortOrdered_int.fu 100 a0 a1 a2 a3
theorem f_slices_pdqsortOrdered_int.oku (k : Nat) (a0 : List Int) (a1 : Int) (a2 : Int) (a3 : Int) (r : List Int) (H : f_slices_pdqsortOrdered_int.fu k a0 a1 a2 a3 = some r) : Pv.Fn Try.prog 46 [.own 0, iV .i64 a1, iV .i64 a2, iV .i64 a3] [(0, some (.row 1 3 (a0.map (encInt .i64))))] 1 (fun x o => x = .tup [] ∧ o = [(0, some (.row 1 3 (r.map (encInt .i64))))]) := by
  induction k generalizing a0 a1 a2 a3 r with
  | zero => simp [f_slices_pdqsortOrdered_int.fu] at H
  | succ k ihF =>
  rw [f_slices_pdqsortOrdered_int.fu] at H
  refine Fn.bodyK [0] Try.func46 rfl rfl (fun Γ hP hn => ?_)
  have hm : Try.prog.follows .mixedOrders = true := by kernel_rfl
  replace hn : Γ.n = 134 := hn
  refine AWp.seq ?_
  refine reg hP hn hm [] [0, 1, 2, 3, 8] [0] ⟨[(0, .own 0), (1, iV .i64 a1), (2, iV .i64 a2), (3, iV .i64 a3), (8, bV true)], [(0, some (.row 1 3 (a0.map (encInt .i64))))], 1⟩ [] (by kernel_rfl) trivial ?_
  refine AWp.seq ?_
  refine reg hP hn hm [] [0, 1, 2, 3, 8, 9] [0] ⟨[(0, .own 0), (1, iV .i64 a1), (2, iV .i64 a2), (3, iV .i64 a3), (8, bV true), (9, bV true)], [(0, some (.row 1 3 (a0.map (encInt .i64))))], 1⟩ [] (by kernel_rfl) trivial ?_
  refine AWp.block ?_
  obtain ⟨o3843, e3844, H⟩ := bind_of H
  refine AWp.loop (LWp.conv (inv := [(0, 0)]) (vk := []) (e0 := []) (t := ⟨[(0, .own 0), (1, iV .i64 a1), (2, iV .i64 a2), (3, iV .i64 a3), (8, bV true), (9, bV true)], [(0, some (.row 1 3 (a0.map (encInt .i64))))], 1⟩) (by kernel_rfl) ?_)
  refine LWp.mono (Q := fun e s => (match (generalizing := false) o3843 with | rr => e = .ret ∧ s.floor = 1 ∧ resOf Try.prog Try.f46 s = some (.tup []) ∧ ([(0, s.obj 0)] : List (Nat × Option MObj)) = [(0, some (.row 1 3 (rr.map (encInt .i64))))])) (LWp.cv (withBody (fun body hbody => ?_))) ?_
  · refine f_slices_pdqsortOrdered_int.l0.partial_correctness (f_slices_pdqsortOrdered_int.fu k) (motive := fun x3749 x3750 x3751 x3752 x3753 x3754 o3843 => LWp Γ body (fun e s => ∃ t, Cv Γ s t ∧ (match (generalizing := false) o3843 with | rr => e = .ret ∧ t.floor = 1 ∧ resOf Try.prog Try.f46 t = some (.tup []) ∧ ([(0, t.obj 0)] : List (Nat × Option MObj)) = [(0, some (.row 1 3 (rr.map (encInt .i64))))])) ⟨[(0, .own 0), (1, iV .i64 x3750), (2, iV .i64 x3751), (3, iV .i64 x3752), (8, bV x3753), (9, bV x3754)], [(0, some (.row 1 3 (x3749.map (encInt .i64))))], 1⟩) ?_ _ _ _ _ _ _ _ e3844
    clear H e3844 o3843; intro self ih x3749 x3750 x3751 x3752 x3753 x3754 o3843 H
    subst hbody
    refine LWp.round ?_
    obtain ⟨o3845, e3846, H⟩ := bind_of H
    refine AWp.mono (Q := fun e s => (match (generalizing := false) o3845 with | .inl rr => e = .ret ∧ s.floor = 1 ∧ resOf Try.prog Try.f46 s = some (.tup []) ∧ ([(0, s.obj 0)] : List (Nat × Option MObj)) = [(0, some (.row 1 3 (rr.map (encInt .i64))))] | .inr (x3837, x3838, x3839, x3840, x3841, x3842) => e = .normal ∧ s = ⟨[(0, .own 0), (1, iV .i64 x3838), (2, iV .i64 x3839), (3, iV .i64 x3840), (8, bV x3841), (9, bV x3842)], [(0, some (.row 1 3 (x3837.map (encInt .i64))))], 1⟩)) (AWp.cv ?_) ?_
    · replace H := e3846; clear e3846
      refine AWp.block ?_
      refine AWp.seq ?_
      refine reg hP hn hm [] [0, 1, 2, 3, 8, 9, 10] [0] ⟨[(0, .own 0), (1, iV .i64 x3750), (2, iV .i64 x3751), (3, iV .i64 x3752), (8, bV x3753), (9, bV x3754), (10, iV .i64 (IntKind.i64.wrap (x3751 - x3750)))], [(0, some (.row 1 3 (x3749.map (encInt .i64))))], 1⟩ [] (by kernel_rfl) trivial ?_
      refine AWp.seq ?_
      refine AWp.seq ?_
      refine reg hP hn hm [] [0, 1, 2, 3, 8, 9, 10, 23] [0] ⟨[(0, .own 0), (1, iV .i64 x3750), (2, iV .i64 x3751), (3, iV .i64 x3752), (8, bV x3753), (9, bV x3754), (10, iV .i64 (IntKind.i64.wrap (x3751 - x3750))), (23, bV (decide ((IntKind.i64.wrap (x3751 - x3750)) ≤ (12 : Int))))], [(0, some (.row 1 3 (x3749.map (encInt .i64))))], 1⟩ [] (by kernel_rfl) trivial ?_
      refine AWp.cond (decide ((IntKind.i64.wrap (x3751 - x3750)) ≤ (12 : Int))) rfl (fun c3755 => ?_) (fun c3755 => ?_)
      · replace H := (ifT c3755).symm.trans H
        refine AWp.seq ?_
        obtain ⟨t3758, e3759, H⟩ := bind_of H
        refine reg hP hn hm [(3, .call [(0, 0)] [(0, 0)] [] [] 1 (.tup []) [(0, some (.row 1 3 (t3758.map (encInt .i64))))])] [] [0] ⟨[], [(0, some (.row 1 3 (t3758.map (encInt .i64))))], 1⟩ [Enters Try.prog 67, Pv.Fn Try.prog 67 [.own 0, iV .i64 x3750, iV .i64 x3751] [(0, some (.row 1 3 (x3749.map (encInt .i64))))] 1 (fun r o => r = .tup [] ∧ o = [(0, some (.row 1 3 (t3758.map (encInt .i64))))])] (by kernel_rfl) ⟨by exact Try.call67, by exact f_slices_insertionSortOrdered_int.ok x3749 x3750 x3751 t3758 e3759, trivial⟩ ?_
        refine AWp.conv (inv := [(0, 0)]) (vk := []) (e0 := []) (t := ⟨[], [(0, some (.row 1 3 (t3758.map (encInt .i64))))], 1⟩) (by kernel_rfl) ?_
        refine AWp.ret ?_
        obtain rfl := Option.some.inj H
        exact Exists.intro _ (And.intro (fun _ _ h => h) (And.intro rfl (And.intro rfl (And.intro (by kernel_rfl) (by kernel_rfl)))))
      · replace H := (ifF c3755).symm.trans H
        refine AWp.skip ?_
        refine AWp.seq ?_
        refine AWp.seq ?_
        refine reg hP hn hm [] [0, 1, 2, 3, 8, 9, 10, 29] [0] ⟨[(0, .own 0), (1, iV .i64 x3750), (2, iV .i64 x3751), (3, iV .i64 x3752), (8, bV x3753), (9, bV x3754), (10, iV .i64 (IntKind.i64.wrap (x3751 - x3750))), (29, bV (x3752 == (0 : Int)))], [(0, some (.row 1 3 (x3749.map (encInt .i64))))], 1⟩ [] (by kernel_rfl) trivial ?_
        refine AWp.cond (x3752 == (0 : Int)) rfl (fun c3760 => ?_) (fun c3760 => ?_)
        · replace H := (ifT c3760).symm.trans H
          refine AWp.seq ?_
          obtain ⟨t3763, e3764, H⟩ := bind_of H
          refine reg hP hn hm [(3, .call [(0, 0)] [(0, 0)] [] [] 1 (.tup []) [(0, some (.row 1 3 (t3763.map (encInt .i64))))])] [] [0] ⟨[], [(0, some (.row 1 3 (t3763.map (encInt .i64))))], 1⟩ [Enters Try.prog 68, Pv.Fn Try.prog 68 [.own 0, iV .i64 x3750, iV .i64 x3751] [(0, some (.row 1 3 (x3749.map (encInt .i64))))] 1 (fun r o => r = .tup [] ∧ o = [(0, some (.row 1 3 (t3763.map (encInt .i64))))])] (by kernel_rfl) ⟨by exact Try.call68, by exact f_slices_heapSortOrdered_int.ok x3749 x3750 x3751 t3763 e3764, trivial⟩ ?_
          refine AWp.conv (inv := [(0, 0)]) (vk := []) (e0 := []) (t := ⟨[], [(0, some (.row 1 3 (t3763.map (encInt .i64))))], 1⟩) (by kernel_rfl) ?_
          refine AWp.ret ?_
          obtain rfl := Option.some.inj H
          exact Exists.intro _ (And.intro (fun _ _ h => h) (And.intro rfl (And.intro rfl (And.intro (by kernel_rfl) (by kernel_rfl)))))
        · replace H := (ifF c3760).symm.trans H
          refine AWp.skip ?_
          refine AWp.seq ?_
          refine AWp.seq ?_
          refine reg hP hn hm [] [0, 1, 2, 3, 8, 9, 10, 35] [0] ⟨[(0, .own 0), (1, iV .i64 x3750), (2, iV .i64 x3751), (3, iV .i64 x3752), (8, bV x3753), (9, bV x3754), (10, iV .i64 (IntKind.i64.wrap (x3751 - x3750))), (35, bV (!x3753))], [(0, some (.row 1 3 (x3749.map (encInt .i64))))], 1⟩ [] (by kernel_rfl) trivial ?_
          obtain ⟨o3847, e3848, H⟩ := bind_of H
          refine AWp.mono (Q := fun e s => (match (generalizing := false) o3847 with | (x3770, x3771) => e = .normal ∧ s = ⟨[(0, .own 0), (1, iV .i64 x3750), (2, iV .i64 x3751), (3, iV .i64 x3771), (8, bV x3753), (9, bV x3754), (10, iV .i64 (IntKind.i64.wrap (x3751 - x3750)))], [(0, some (.row 1 3 (x3770.map (encInt .i64))))], 1⟩)) (AWp.cv ?_) ?_
          · replace H := e3848; clear e3848
            refine AWp.cond (!x3753) rfl (fun c3765 => ?_) (fun c3765 => ?_)
            · replace H := (ifT c3765).symm.trans H
              refine AWp.seq ?_
              obtain ⟨t3768, e3769, H⟩ := bind_of H
              refine reg hP hn hm [(3, .call [(0, 0)] [(0, 0)] [] [] 1 (.tup []) [(0, some (.row 1 3 (t3768.map (encInt .i64))))])] [0, 1, 2, 3, 8, 9, 10] [0] ⟨[(0, .own 0), (1, iV .i64 x3750), (2, iV .i64 x3751), (3, iV .i64 x3752), (8, bV x3753), (9, bV x3754), (10, iV .i64 (IntKind.i64.wrap (x3751 - x3750)))], [(0, some (.row 1 3 (t3768.map (encInt .i64))))], 1⟩ [Enters Try.prog 69, Pv.Fn Try.prog 69 [.own 0, iV .i64 x3750, iV .i64 x3751] [(0, some (.row 1 3 (x3749.map (encInt .i64))))] 1 (fun r o => r = .tup [] ∧ o = [(0, some (.row 1 3 (t3768.map (encInt .i64))))])] (by kernel_rfl) ⟨by exact Try.call69, by exact f_slices_breakPatternsOrdered_int.ok x3749 x3750 x3751 t3768 e3769, trivial⟩ ?_
              refine reg hP hn hm [] [0, 1, 2, 3, 8, 9, 10] [0] ⟨[(0, .own 0), (1, iV .i64 x3750), (2, iV .i64 x3751), (3, iV .i64 (IntKind.i64.wrap (x3752 - (1 : Int)))), (8, bV x3753), (9, bV x3754), (10, iV .i64 (IntKind.i64.wrap (x3751 - x3750)))], [(0, some (.row 1 3 (t3768.map (encInt .i64))))], 1⟩ [] (by kernel_rfl) trivial ?_
              obtain rfl := Option.some.inj H
              exact Exists.intro _ (And.intro (fun _ _ h => h.conv (inv := [(0, 0)]) (vk := []) (e0 := []) (t := ⟨[(0, .own 0), (1, iV .i64 x3750), (2, iV .i64 x3751), (3, iV .i64 (IntKind.i64.wrap (x3752 - (1 : Int)))), (8, bV x3753), (9, bV x3754), (10, iV .i64 (IntKind.i64.wrap (x3751 - x3750)))], [(0, some (.row 1 3 (t3768.map (encInt .i64))))], 1⟩) (by kernel_rfl)) (And.intro rfl rfl))
            · replace H := (ifF c3765).symm.trans H
              refine AWp.skip ?_
              obtain rfl := Option.some.inj H
              exact Exists.intro _ (And.intro (fun _ _ h => h.conv (inv := [(0, 0)]) (vk := []) (e0 := []) (t := ⟨[(0, .own 0), (1, iV .i64 x3750), (2, iV .i64 x3751), (3, iV .i64 x3752), (8, bV x3753), (9, bV x3754), (10, iV .i64 (IntKind.i64.wrap (x3751 - x3750)))], [(0, some (.row 1 3 (x3749.map (encInt .i64))))], 1⟩) (by kernel_rfl)) (And.intro rfl rfl))
          · obtain ⟨x3770, x3771⟩ := o3847
            rintro e s ⟨rfl, rfl⟩
            refine AWp.seq ?_
            obtain ⟨t3774, e3775, H⟩ := bind_of H
            refine reg hP hn hm [(3, .call [(0, 0)] [(0, 0)] [] [] 1 (.tup [iV .i64 t3774.1, iV .i64 t3774.2]) [(0, some (.row 1 3 (x3770.map (encInt .i64))))])] [0, 1, 2, 3, 8, 9, 10, 11, 12] [0] ⟨[(0, .own 0), (1, iV .i64 x3750), (2, iV .i64 x3751), (3, iV .i64 x3771), (8, bV x3753), (9, bV x3754), (10, iV .i64 (IntKind.i64.wrap (x3751 - x3750))), (11, iV .i64 t3774.1), (12, iV .i64 t3774.2)], [(0, some (.row 1 3 (x3770.map (encInt .i64))))], 1⟩ [Enters Try.prog 70, Pv.Fn Try.prog 70 [.own 0, iV .i64 x3750, iV .i64 x3751] [(0, some (.row 1 3 (x3770.map (encInt .i64))))] 1 (fun r o => r = .tup [iV .i64 t3774.1, iV .i64 t3774.2] ∧ o = [(0, some (.row 1 3 (x3770.map (encInt .i64))))])] (by kernel_rfl) ⟨by exact Try.call70, by exact f_slices_choosePivotOrdered_int.ok x3770 x3750 x3751 t3774 e3775, trivial⟩ ?_
            refine AWp.seq ?_
            refine AWp.seq ?_
            refine reg hP hn hm [] [0, 1, 2, 3, 8, 9, 10, 11, 12, 50] [0] ⟨[(0, .own 0), (1, iV .i64 x3750), (2, iV .i64 x3751), (3, iV .i64 x3771), (8, bV x3753), (9, bV x3754), (10, iV .i64 (IntKind.i64.wrap (x3751 - x3750))), (11, iV .i64 t3774.1), (12, iV .i64 t3774.2), (50, bV (t3774.2 == (2 : Int)))], [(0, some (.row 1 3 (x3770.map (encInt .i64))))], 1⟩ [] (by kernel_rfl) trivial ?_
            obtain ⟨o3849, e3850, H⟩ := bind_of H
            refine AWp.mono (Q := fun e s => (match (generalizing := false) o3849 with | (x3781, x3782, x3783) => e = .normal ∧ s = ⟨[(0, .own 0), (1, iV .i64 x3750), (2, iV .i64 x3751), (3, iV .i64 x3771), (8, bV x3753), (9, bV x3754), (10, iV .i64 (IntKind.i64.wrap (x3751 - x3750))), (11, iV .i64 x3782), (12, iV .i64 x3783)], [(0, some (.row 1 3 (x3781.map (encInt .i64))))], 1⟩)) (AWp.cv ?_) ?_
            · replace H := e3850; clear e3850
              refine AWp.cond (t3774.2 == (2 : Int)) rfl (fun c3776 => ?_) (fun c3776 => ?_)
              · replace H := (ifT c3776).symm.trans H
                refine AWp.seq ?_
                obtain ⟨t3779, e3780, H⟩ := bind_of H
                refine reg hP hn hm [(3, .call [(0, 0)] [(0, 0)] [] [] 1 (.tup []) [(0, some (.row 1 3 (t3779.map (encInt .i64))))])] [0, 1, 2, 3, 8, 9, 10, 11] [0] ⟨[(0, .own 0), (1, iV .i64 x3750), (2, iV .i64 x3751), (3, iV .i64 x3771), (8, bV x3753), (9, bV x3754), (10, iV .i64 (IntKind.i64.wrap (x3751 - x3750))), (11, iV .i64 t3774.1)], [(0, some (.row 1 3 (t3779.map (encInt .i64))))], 1⟩ [Enters Try.prog 71, Pv.Fn Try.prog 71 [.own 0, iV .i64 x3750, iV .i64 x3751] [(0, some (.row 1 3 (x3770.map (encInt .i64))))] 1 (fun r o => r = .tup [] ∧ o = [(0, some (.row 1 3 (t3779.map (encInt .i64))))])] (by kernel_rfl) ⟨by exact Try.call71, by exact f_slices_reverseRangeOrdered_int.ok x3770 x3750 x3751 t3779 e3780, trivial⟩ ?_
                refine AWp.seq ?_
                refine reg hP hn hm [] [0, 1, 2, 3, 8, 9, 10, 11] [0] ⟨[(0, .own 0), (1, iV .i64 x3750), (2, iV .i64 x3751), (3, iV .i64 x3771), (8, bV x3753), (9, bV x3754), (10, iV .i64 (IntKind.i64.wrap (x3751 - x3750))), (11, iV .i64 (IntKind.i64.wrap ((IntKind.i64.wrap (x3751 - (1 : Int))) - (IntKind.i64.wrap (t3774.1 - x3750)))))], [(0, some (.row 1 3 (t3779.map (encInt .i64))))], 1⟩ [] (by kernel_rfl) trivial ?_
                refine reg hP hn hm [] [0, 1, 2, 3, 8, 9, 10, 11, 12] [0] ⟨[(0, .own 0), (1, iV .i64 x3750), (2, iV .i64 x3751), (3, iV .i64 x3771), (8, bV x3753), (9, bV x3754), (10, iV .i64 (IntKind.i64.wrap (x3751 - x3750))), (11, iV .i64 (IntKind.i64.wrap ((IntKind.i64.wrap (x3751 - (1 : Int))) - (IntKind.i64.wrap (t3774.1 - x3750))))), (12, iV .i64 1)], [(0, some (.row 1 3 (t3779.map (encInt .i64))))], 1⟩ [] (by kernel_rfl) trivial ?_
                obtain rfl := Option.some.inj H
                exact Exists.intro _ (And.intro (fun _ _ h => h.conv (inv := [(0, 0)]) (vk := []) (e0 := []) (t := ⟨[(0, .own 0), (1, iV .i64 x3750), (2, iV .i64 x3751), (3, iV .i64 x3771), (8, bV x3753), (9, bV x3754), (10, iV .i64 (IntKind.i64.wrap (x3751 - x3750))), (11, iV .i64 (IntKind.i64.wrap ((IntKind.i64.wrap (x3751 - (1 : Int))) - (IntKind.i64.wrap (t3774.1 - x3750))))), (12, iV .i64 1)], [(0, some (.row 1 3 (t3779.map (encInt .i64))))], 1⟩) (by kernel_rfl)) (And.intro rfl rfl))
              · replace H := (ifF c3776).symm.trans H
                refine AWp.skip ?_
                obtain rfl := Option.some.inj H
                exact Exists.intro _ (And.intro (fun _ _ h => h.conv (inv := [(0, 0)]) (vk := []) (e0 := []) (t := ⟨[(0, .own 0), (1, iV .i64 x3750), (2, iV .i64 x3751), (3, iV .i64 x3771), (8, bV x3753), (9, bV x3754), (10, iV .i64 (IntKind.i64.wrap (x3751 - x3750))), (11, iV .i64 t3774.1), (12, iV .i64 t3774.2)], [(0, some (.row 1 3 (x3770.map (encInt .i64))))], 1⟩) (by kernel_rfl)) (And.intro rfl rfl))
            · obtain ⟨x3781, x3782, x3783⟩ := o3849
              rintro e s ⟨rfl, rfl⟩
              refine AWp.seq ?_
              refine AWp.seq ?_
              obtain ⟨o3851, e3852, H⟩ := bind_of H
              refine AWp.mono (Q := fun e s => (match (generalizing := false) o3851 with | x3788 => e = .normal ∧ s = ⟨[(0, .own 0), (1, iV .i64 x3750), (2, iV .i64 x3751), (3, iV .i64 x3771), (8, bV x3753), (9, bV x3754), (10, iV .i64 (IntKind.i64.wrap (x3751 - x3750))), (11, iV .i64 x3782), (68, bV x3788)], [(0, some (.row 1 3 (x3781.map (encInt .i64))))], 1⟩)) (AWp.cv ?_) ?_
              · replace H := e3852; clear e3852
                rcases Bool.eq_false_or_eq_true x3753 with c3786 | c3786
                · replace H := (ifT c3786).symm.trans H
                  rcases Bool.eq_false_or_eq_true x3754 with c3787 | c3787
                  · replace H := (ifT c3787).symm.trans H
                    refine reg hP hn hm [(1, .b true), (4, .b true)] [0, 1, 2, 3, 8, 9, 10, 11, 63, 66, 67, 68] [0] ⟨[(0, .own 0), (1, iV .i64 x3750), (2, iV .i64 x3751), (3, iV .i64 x3771), (8, bV x3753), (9, bV x3754), (10, iV .i64 (IntKind.i64.wrap (x3751 - x3750))), (11, iV .i64 x3782), (63, bV x3754), (66, iV .i64 x3783), (67, bV (x3783 == (1 : Int))), (68, bV (x3783 == (1 : Int)))], [(0, some (.row 1 3 (x3781.map (encInt .i64))))], 1⟩ [x3753 = true, x3754 = true] (by kernel_rfl) ⟨by exact c3786, by exact c3787, trivial⟩ ?_
                    obtain rfl := Option.some.inj H
                    exact Exists.intro _ (And.intro (fun _ _ h => h.conv (inv := [(0, 0)]) (vk := []) (e0 := []) (t := ⟨[(0, .own 0), (1, iV .i64 x3750), (2, iV .i64 x3751), (3, iV .i64 x3771), (8, bV x3753), (9, bV x3754), (10, iV .i64 (IntKind.i64.wrap (x3751 - x3750))), (11, iV .i64 x3782), (68, bV (x3783 == (1 : Int)))], [(0, some (.row 1 3 (x3781.map (encInt .i64))))], 1⟩) (by kernel_rfl)) (And.intro rfl rfl))
                  · replace H := (ifF c3787).symm.trans H
                    refine reg hP hn hm [(1, .b true), (4, .b false)] [0, 1, 2, 3, 8, 9, 10, 11, 63, 68] [0] ⟨[(0, .own 0), (1, iV .i64 x3750), (2, iV .i64 x3751), (3, iV .i64 x3771), (8, bV x3753), (9, bV x3754), (10, iV .i64 (IntKind.i64.wrap (x3751 - x3750))), (11, iV .i64 x3782), (63, bV x3754), (68, bV false)], [(0, some (.row 1 3 (x3781.map (encInt .i64))))], 1⟩ [x3753 = true, x3754 = false] (by kernel_rfl) ⟨by exact c3786, by exact c3787, trivial⟩ ?_
                    obtain rfl := Option.some.inj H
                    exact Exists.intro _ (And.intro (fun _ _ h => h.conv (inv := [(0, 0)]) (vk := []) (e0 := []) (t := ⟨[(0, .own 0), (1, iV .i64 x3750), (2, iV .i64 x3751), (3, iV .i64 x3771), (8, bV x3753), (9, bV x3754), (10, iV .i64 (IntKind.i64.wrap (x3751 - x3750))), (11, iV .i64 x3782), (68, bV false)], [(0, some (.row 1 3 (x3781.map (encInt .i64))))], 1⟩) (by kernel_rfl)) (And.intro rfl rfl))
                · replace H := (ifF c3786).symm.trans H
                  refine reg hP hn hm [(1, .b false)] [0, 1, 2, 3, 8, 9, 10, 11, 68] [0] ⟨[(0, .own 0), (1, iV .i64 x3750), (2, iV .i64 x3751), (3, iV .i64 x3771), (8, bV x3753), (9, bV x3754), (10, iV .i64 (IntKind.i64.wrap (x3751 - x3750))), (11, iV .i64 x3782), (68, bV false)], [(0, some (.row 1 3 (x3781.map (encInt .i64))))], 1⟩ [x3753 = false] (by kernel_rfl) ⟨by exact c3786, trivial⟩ ?_
                  obtain rfl := Option.some.inj H
                  exact Exists.intro _ (And.intro (fun _ _ h => h.conv (inv := [(0, 0)]) (vk := []) (e0 := []) (t := ⟨[(0, .own 0), (1, iV .i64 x3750), (2, iV .i64 x3751), (3, iV .i64 x3771), (8, bV x3753), (9, bV x3754), (10, iV .i64 (IntKind.i64.wrap (x3751 - x3750))), (11, iV .i64 x3782), (68, bV false)], [(0, some (.row 1 3 (x3781.map (encInt .i64))))], 1⟩) (by kernel_rfl)) (And.intro rfl rfl))
              · obtain ⟨x3788, rfl⟩ : ∃ z, z = o3851 := ⟨_, rfl⟩
                rintro e s ⟨rfl, rfl⟩
                obtain ⟨o3853, e3854, H⟩ := bind_of H
                refine AWp.mono (Q := fun e s => (match (generalizing := false) o3853 with | .inl rr => e = .ret ∧ s.floor = 1 ∧ resOf Try.prog Try.f46 s = some (.tup []) ∧ ([(0, s.obj 0)] : List (Nat × Option MObj)) = [(0, some (.row 1 3 (rr.map (encInt .i64))))] | .inr x3795 => e = .normal ∧ s = ⟨[(0, .own 0), (1, iV .i64 x3750), (2, iV .i64 x3751), (3, iV .i64 x3771), (8, bV x3753), (9, bV x3754), (10, iV .i64 (IntKind.i64.wrap (x3751 - x3750))), (11, iV .i64 x3782)], [(0, some (.row 1 3 (x3795.map (encInt .i64))))], 1⟩)) (AWp.cv ?_) ?_
                · replace H := e3854; clear e3854
                  refine AWp.cond x3788 rfl (fun c3789 => ?_) (fun c3789 => ?_)
                  · replace H := (ifT c3789).symm.trans H
                    refine AWp.seq ?_
                    obtain ⟨t3792, e3793, H⟩ := bind_of H
                    refine reg hP hn hm [(3, .call [(0, 0)] [(0, 0)] [] [] 1 (bV t3792.1) [(0, some (.row 1 3 (t3792.2.map (encInt .i64))))])] [0, 1, 2, 3, 8, 9, 10, 11, 72] [0] ⟨[(0, .own 0), (1, iV .i64 x3750), (2, iV .i64 x3751), (3, iV .i64 x3771), (8, bV x3753), (9, bV x3754), (10, iV .i64 (IntKind.i64.wrap (x3751 - x3750))), (11, iV .i64 x3782), (72, bV t3792.1)], [(0, some (.row 1 3 (t3792.2.map (encInt .i64))))], 1⟩ [Enters Try.prog 72, Pv.Fn Try.prog 72 [.own 0, iV .i64 x3750, iV .i64 x3751] [(0, some (.row 1 3 (x3781.map (encInt .i64))))] 1 (fun r o => r = bV t3792.1 ∧ o = [(0, some (.row 1 3 (t3792.2.map (encInt .i64))))])] (by kernel_rfl) ⟨by exact Try.call72, by exact f_slices_partialInsertionSortOrdered_int.ok x3781 x3750 x3751 t3792 e3793, trivial⟩ ?_
                    refine AWp.cond t3792.1 rfl (fun c3794 => ?_) (fun c3794 => ?_)
                    · replace H := (ifT c3794).symm.trans H
                      refine AWp.conv (inv := [(0, 0)]) (vk := []) (e0 := []) (t := ⟨[], [(0, some (.row 1 3 (t3792.2.map (encInt .i64))))], 1⟩) (by kernel_rfl) ?_
                      refine AWp.ret ?_
                      obtain rfl := Option.some.inj H
                      exact Exists.intro _ (And.intro (fun _ _ h => h) (And.intro rfl (And.intro rfl (And.intro (by kernel_rfl) (by kernel_rfl)))))
                    · replace H := (ifF c3794).symm.trans H
                      refine AWp.skip ?_
                      obtain rfl := Option.some.inj H
                      exact Exists.intro _ (And.intro (fun _ _ h => h.conv (inv := [(0, 0)]) (vk := []) (e0 := []) (t := ⟨[(0, .own 0), (1, iV .i64 x3750), (2, iV .i64 x3751), (3, iV .i64 x3771), (8, bV x3753), (9, bV x3754), (10, iV .i64 (IntKind.i64.wrap (x3751 - x3750))), (11, iV .i64 x3782)], [(0, some (.row 1 3 (t3792.2.map (encInt .i64))))], 1⟩) (by kernel_rfl)) (And.intro rfl rfl))
                  · replace H := (ifF c3789).symm.trans H
                    refine AWp.skip ?_
                    obtain rfl := Option.some.inj H
                    exact Exists.intro _ (And.intro (fun _ _ h => h.conv (inv := [(0, 0)]) (vk := []) (e0 := []) (t := ⟨[(0, .own 0), (1, iV .i64 x3750), (2, iV .i64 x3751), (3, iV .i64 x3771), (8, bV x3753), (9, bV x3754), (10, iV .i64 (IntKind.i64.wrap (x3751 - x3750))), (11, iV .i64 x3782)], [(0, some (.row 1 3 (x3781.map (encInt .i64))))], 1⟩) (by kernel_rfl)) (And.intro rfl rfl))
                · rcases o3853 with rr | x3795
                  · skip
                    rintro e s ⟨rfl, hfl, hres⟩
                    obtain rfl := Option.some.inj H
                    exact Exists.intro _ (And.intro (fun _ _ h => h) (And.intro rfl (And.intro hfl hres)))
                  · skip
                    rintro e s ⟨rfl, rfl⟩
                    refine AWp.seq ?_
                    refine AWp.seq ?_
                    obtain ⟨o3855, e3856, H⟩ := bind_of H
                    refine AWp.mono (Q := fun e s => (match (generalizing := false) o3855 with | x3814 => e = .normal ∧ s = ⟨[(0, .own 0), (1, iV .i64 x3750), (2, iV .i64 x3751), (3, iV .i64 x3771), (8, bV x3753), (9, bV x3754), (10, iV .i64 (IntKind.i64.wrap (x3751 - x3750))), (11, iV .i64 x3782), (87, bV x3814)], [(0, some (.row 1 3 (x3795.map (encInt .i64))))], 1⟩)) (AWp.cv ?_) ?_
                    · replace H := e3856; clear e3856
                      rcases Bool.eq_false_or_eq_true (decide (x3750 > (0 : Int))) with c3805 | c3805
                      · replace H := (ifT c3805).symm.trans H
                        obtain ⟨b3806, p3807, q3808, H⟩ := at_of H
                        obtain ⟨b3809, p3810, q3811, H⟩ := at_of H
                        obtain ⟨t3812, e3813, H⟩ := bind_of H
                        refine reg hP hn hm [(2, .b true), (7, .c ((encInt .i64) b3806)), (11, .c ((encInt .i64) b3809)), (12, .call [] [] [] [] 0 (bV t3812) [])] [0, 1, 2, 3, 8, 9, 10, 11, 76, 77, 78, 79, 80, 81, 82, 83, 84, 85, 86, 87] [0] ⟨[(0, .own 0), (1, iV .i64 x3750), (2, iV .i64 x3751), (3, iV .i64 x3771), (8, bV x3753), (9, bV x3754), (10, iV .i64 (IntKind.i64.wrap (x3751 - x3750))), (11, iV .i64 x3782), (76, .own 0), (77, iV .i64 x3750), (78, iV .i64 (IntKind.i64.wrap (x3750 - (1 : Int)))), (79, .ptr 0 (Int.toNat (IntKind.i64.wrap (x3750 - (1 : Int)))) 0), (80, iV .i64 b3806), (81, .own 0), (82, iV .i64 x3782), (83, .ptr 0 (Int.toNat (x3782)) 0), (84, iV .i64 b3809), (85, bV t3812), (86, bV (!t3812)), (87, bV (!t3812))], [(0, some (.row 1 3 (x3795.map (encInt .i64))))], 1⟩ [(decide (x3750 > (0 : Int))) = true, 0 ≤ (IntKind.i64.wrap (x3750 - (1 : Int))), IntKind.i64.wrap (x3750 - (1 : Int)) < (((x3795.map (encInt .i64)).length : Nat) : Int), (x3795.map (encInt .i64))[(Int.toNat (IntKind.i64.wrap (x3750 - (1 : Int))))]? = some ((encInt .i64) b3806), 0 ≤ x3782, x3782 < (((x3795.map (encInt .i64)).length : Nat) : Int), (x3795.map (encInt .i64))[(Int.toNat (x3782))]? = some ((encInt .i64) b3809), Enters Try.prog 73, Pv.Fn Try.prog 73 [iV .i64 b3806, iV .i64 b3809] [] 0 (fun r o => r = bV t3812 ∧ o = [])] (by kernel_rfl) ⟨by exact c3805, by exact p3807, by exact el_lt (encInt .i64) p3807 q3808, by exact el_map (encInt .i64) q3808, by exact p3810, by exact el_lt (encInt .i64) p3810 q3811, by exact el_map (encInt .i64) q3811, by exact Try.call73, by exact f_cmp_Less_int.ok b3806 b3809 t3812 e3813, trivial⟩ ?_
                        obtain rfl := Option.some.inj H
                        exact Exists.intro _ (And.intro (fun _ _ h => h.conv (inv := [(0, 0)]) (vk := []) (e0 := []) (t := ⟨[(0, .own 0), (1, iV .i64 x3750), (2, iV .i64 x3751), (3, iV .i64 x3771), (8, bV x3753), (9, bV x3754), (10, iV .i64 (IntKind.i64.wrap (x3751 - x3750))), (11, iV .i64 x3782), (87, bV (!t3812))], [(0, some (.row 1 3 (x3795.map (encInt .i64))))], 1⟩) (by kernel_rfl)) (And.intro rfl rfl))
                      · replace H := (ifF c3805).symm.trans H
                        refine reg hP hn hm [(2, .b false)] [0, 1, 2, 3, 8, 9, 10, 11, 87] [0] ⟨[(0, .own 0), (1, iV .i64 x3750), (2, iV .i64 x3751), (3, iV .i64 x3771), (8, bV x3753), (9, bV x3754), (10, iV .i64 (IntKind.i64.wrap (x3751 - x3750))), (11, iV .i64 x3782), (87, bV false)], [(0, some (.row 1 3 (x3795.map (encInt .i64))))], 1⟩ [(decide (x3750 > (0 : Int))) = false] (by kernel_rfl) ⟨by exact c3805, trivial⟩ ?_
                        obtain rfl := Option.some.inj H
                        exact Exists.intro _ (And.intro (fun _ _ h => h.conv (inv := [(0, 0)]) (vk := []) (e0 := []) (t := ⟨[(0, .own 0), (1, iV .i64 x3750), (2, iV .i64 x3751), (3, iV .i64 x3771), (8, bV x3753), (9, bV x3754), (10, iV .i64 (IntKind.i64.wrap (x3751 - x3750))), (11, iV .i64 x3782), (87, bV false)], [(0, some (.row 1 3 (x3795.map (encInt .i64))))], 1⟩) (by kernel_rfl)) (And.intro rfl rfl))
                    · obtain ⟨x3814, rfl⟩ : ∃ z, z = o3855 := ⟨_, rfl⟩
                      rintro e s ⟨rfl, rfl⟩
                      refine AWp.cond x3814 rfl (fun c3815 => ?_) (fun c3815 => ?_)
                      · replace H := (ifT c3815).symm.trans H
                        refine AWp.seq ?_
                        obtain ⟨t3818, e3819, H⟩ := bind_of H
                        refine reg hP hn hm [(4, .call [(0, 0)] [(0, 0)] [] [] 1 (iV .i64 t3818.1) [(0, some (.row 1 3 (t3818.2.map (encInt .i64))))])] [0, 2, 3, 8, 9, 13] [0] ⟨[(0, .own 0), (2, iV .i64 x3751), (3, iV .i64 x3771), (8, bV x3753), (9, bV x3754), (13, iV .i64 t3818.1)], [(0, some (.row 1 3 (t3818.2.map (encInt .i64))))], 1⟩ [Enters Try.prog 74, Pv.Fn Try.prog 74 [.own 0, iV .i64 x3750, iV .i64 x3751, iV .i64 x3782] [(0, some (.row 1 3 (x3795.map (encInt .i64))))] 1 (fun r o => r = iV .i64 t3818.1 ∧ o = [(0, some (.row 1 3 (t3818.2.map (encInt .i64))))])] (by kernel_rfl) ⟨by exact Try.call74, by exact f_slices_partitionEqualOrdered_int.ok x3795 x3750 x3751 x3782 t3818 e3819, trivial⟩ ?_
                        refine AWp.seq ?_
                        refine reg hP hn hm [] [0, 1, 2, 3, 8, 9] [0] ⟨[(0, .own 0), (1, iV .i64 t3818.1), (2, iV .i64 x3751), (3, iV .i64 x3771), (8, bV x3753), (9, bV x3754)], [(0, some (.row 1 3 (t3818.2.map (encInt .i64))))], 1⟩ [] (by kernel_rfl) trivial ?_
                        refine AWp.exit ?_
                        obtain rfl := Option.some.inj H
                        exact Exists.intro _ (And.intro (fun _ _ h => h.conv (inv := [(0, 0)]) (vk := []) (e0 := []) (t := ⟨[(0, .own 0), (1, iV .i64 t3818.1), (2, iV .i64 x3751), (3, iV .i64 x3771), (8, bV x3753), (9, bV x3754)], [(0, some (.row 1 3 (t3818.2.map (encInt .i64))))], 1⟩) (by kernel_rfl)) (And.intro rfl rfl))
                      · replace H := (ifF c3815).symm.trans H
                        refine AWp.skip ?_
                        refine AWp.seq ?_
                        obtain ⟨t3822, e3823, H⟩ := bind_of H
                        refine reg hP hn hm [(4, .call [(0, 0)] [(0, 0)] [] [] 1 (.tup [iV .i64 t3822.1, bV t3822.2.1]) [(0, some (.row 1 3 (t3822.2.2.map (encInt .i64))))])] [0, 1, 2, 3, 10, 14, 15] [0] ⟨[(0, .own 0), (1, iV .i64 x3750), (2, iV .i64 x3751), (3, iV .i64 x3771), (10, iV .i64 (IntKind.i64.wrap (x3751 - x3750))), (14, iV .i64 t3822.1), (15, bV t3822.2.1)], [(0, some (.row 1 3 (t3822.2.2.map (encInt .i64))))], 1⟩ [Enters Try.prog 75, Pv.Fn Try.prog 75 [.own 0, iV .i64 x3750, iV .i64 x3751, iV .i64 x3782] [(0, some (.row 1 3 (x3795.map (encInt .i64))))] 1 (fun r o => r = .tup [iV .i64 t3822.1, bV t3822.2.1] ∧ o = [(0, some (.row 1 3 (t3822.2.2.map (encInt .i64))))])] (by kernel_rfl) ⟨by exact Try.call75, by exact f_slices_partitionOrdered_int.ok x3795 x3750 x3751 x3782 t3822 e3823, trivial⟩ ?_
                        refine AWp.seq ?_
                        refine reg hP hn hm [] [0, 1, 2, 3, 9, 10, 14] [0] ⟨[(0, .own 0), (1, iV .i64 x3750), (2, iV .i64 x3751), (3, iV .i64 x3771), (9, bV t3822.2.1), (10, iV .i64 (IntKind.i64.wrap (x3751 - x3750))), (14, iV .i64 t3822.1)], [(0, some (.row 1 3 (t3822.2.2.map (encInt .i64))))], 1⟩ [] (by kernel_rfl) trivial ?_
                        refine AWp.seq ?_
                        refine reg hP hn hm [] [0, 1, 2, 3, 9, 10, 14, 16, 17] [0] ⟨[(0, .own 0), (1, iV .i64 x3750), (2, iV .i64 x3751), (3, iV .i64 x3771), (9, bV t3822.2.1), (10, iV .i64 (IntKind.i64.wrap (x3751 - x3750))), (14, iV .i64 t3822.1), (16, iV .i64 (IntKind.i64.wrap (t3822.1 - x3750))), (17, iV .i64 (IntKind.i64.wrap (x3751 - t3822.1)))], [(0, some (.row 1 3 (t3822.2.2.map (encInt .i64))))], 1⟩ [] (by kernel_rfl) trivial ?_
                        refine AWp.seq ?_
                        refine reg hP hn hm [] [0, 1, 2, 3, 9, 14, 16, 17, 18] [0] ⟨[(0, .own 0), (1, iV .i64 x3750), (2, iV .i64 x3751), (3, iV .i64 x3771), (9, bV t3822.2.1), (14, iV .i64 t3822.1), (16, iV .i64 (IntKind.i64.wrap (t3822.1 - x3750))), (17, iV .i64 (IntKind.i64.wrap (x3751 - t3822.1))), (18, iV .i64 (IntKind.i64.wrap (Int.tdiv (IntKind.i64.wrap (x3751 - x3750)) (8 : Int))))], [(0, some (.row 1 3 (t3822.2.2.map (encInt .i64))))], 1⟩ [(8 : Int) ≠ 0] (by kernel_rfl) ⟨by decide, trivial⟩ ?_
                        refine AWp.seq ?_
                        refine reg hP hn hm [] [0, 1, 2, 3, 9, 14, 16, 17, 18, 113] [0] ⟨[(0, .own 0), (1, iV .i64 x3750), (2, iV .i64 x3751), (3, iV .i64 x3771), (9, bV t3822.2.1), (14, iV .i64 t3822.1), (16, iV .i64 (IntKind.i64.wrap (t3822.1 - x3750))), (17, iV .i64 (IntKind.i64.wrap (x3751 - t3822.1))), (18, iV .i64 (IntKind.i64.wrap (Int.tdiv (IntKind.i64.wrap (x3751 - x3750)) (8 : Int)))), (113, bV (decide ((IntKind.i64.wrap (t3822.1 - x3750)) < (IntKind.i64.wrap (x3751 - t3822.1)))))], [(0, some (.row 1 3 (t3822.2.2.map (encInt .i64))))], 1⟩ [] (by kernel_rfl) trivial ?_
                        obtain ⟨o3857, e3858, H⟩ := bind_of H
                        refine AWp.mono (Q := fun e s => (match (generalizing := false) o3857 with | (x3833, x3834, x3835, x3836) => e = .normal ∧ s = ⟨[(0, .own 0), (1, iV .i64 x3834), (2, iV .i64 x3835), (3, iV .i64 x3771), (8, bV x3836), (9, bV t3822.2.1)], [(0, some (.row 1 3 (x3833.map (encInt .i64))))], 1⟩)) (AWp.cv ?_) ?_
                        · replace H := e3858; clear e3858
                          refine AWp.cond (decide ((IntKind.i64.wrap (t3822.1 - x3750)) < (IntKind.i64.wrap (x3751 - t3822.1)))) rfl (fun c3824 => ?_) (fun c3824 => ?_)
                          · replace H := (ifT c3824).symm.trans H
                            refine AWp.seq ?_
                            refine reg hP hn hm [] [0, 1, 2, 3, 8, 9, 14] [0] ⟨[(0, .own 0), (1, iV .i64 x3750), (2, iV .i64 x3751), (3, iV .i64 x3771), (8, bV (decide ((IntKind.i64.wrap (t3822.1 - x3750)) ≥ (IntKind.i64.wrap (Int.tdiv (IntKind.i64.wrap (x3751 - x3750)) (8 : Int)))))), (9, bV t3822.2.1), (14, iV .i64 t3822.1)], [(0, some (.row 1 3 (t3822.2.2.map (encInt .i64))))], 1⟩ [] (by kernel_rfl) trivial ?_
                            refine AWp.seq ?_
                            obtain ⟨t3827, e3828, H⟩ := bind_of H
                            refine reg hP hn hm [(4, .call [(0, 0)] [(0, 0)] [] [] 1 (.tup []) [(0, some (.row 1 3 (t3827.map (encInt .i64))))])] [0, 2, 3, 8, 9, 14] [0] ⟨[(0, .own 0), (2, iV .i64 x3751), (3, iV .i64 x3771), (8, bV (decide ((IntKind.i64.wrap (t3822.1 - x3750)) ≥ (IntKind.i64.wrap (Int.tdiv (IntKind.i64.wrap (x3751 - x3750)) (8 : Int)))))), (9, bV t3822.2.1), (14, iV .i64 t3822.1)], [(0, some (.row 1 3 (t3827.map (encInt .i64))))], 1⟩ [Enters Try.prog 46, Pv.Fn Try.prog 46 [.own 0, iV .i64 x3750, iV .i64 t3822.1, iV .i64 x3771] [(0, some (.row 1 3 (t3822.2.2.map (encInt .i64))))] 1 (fun r o => r = .tup [] ∧ o = [(0, some (.row 1 3 (t3827.map (encInt .i64))))])] (by kernel_rfl) ⟨by exact Try.call46, by exact ihF t3822.2.2 x3750 t3822.1 x3771 _ e3828, trivial⟩ ?_
                            refine reg hP hn hm [] [0, 1, 2, 3, 8, 9] [0] ⟨[(0, .own 0), (1, iV .i64 (IntKind.i64.wrap (t3822.1 + (1 : Int)))), (2, iV .i64 x3751), (3, iV .i64 x3771), (8, bV (decide ((IntKind.i64.wrap (t3822.1 - x3750)) ≥ (IntKind.i64.wrap (Int.tdiv (IntKind.i64.wrap (x3751 - x3750)) (8 : Int)))))), (9, bV t3822.2.1)], [(0, some (.row 1 3 (t3827.map (encInt .i64))))], 1⟩ [] (by kernel_rfl) trivial ?_
                            obtain rfl := Option.some.inj H
                            exact Exists.intro _ (And.intro (fun _ _ h => h.conv (inv := [(0, 0)]) (vk := []) (e0 := []) (t := ⟨[(0, .own 0), (1, iV .i64 (IntKind.i64.wrap (t3822.1 + (1 : Int)))), (2, iV .i64 x3751), (3, iV .i64 x3771), (8, bV (decide ((IntKind.i64.wrap (t3822.1 - x3750)) ≥ (IntKind.i64.wrap (Int.tdiv (IntKind.i64.wrap (x3751 - x3750)) (8 : Int)))))), (9, bV t3822.2.1)], [(0, some (.row 1 3 (t3827.map (encInt .i64))))], 1⟩) (by kernel_rfl)) (And.intro rfl rfl))
                          · replace H := (ifF c3824).symm.trans H
                            refine AWp.seq ?_
                            refine reg hP hn hm [] [0, 1, 2, 3, 8, 9, 14] [0] ⟨[(0, .own 0), (1, iV .i64 x3750), (2, iV .i64 x3751), (3, iV .i64 x3771), (8, bV (decide ((IntKind.i64.wrap (x3751 - t3822.1)) ≥ (IntKind.i64.wrap (Int.tdiv (IntKind.i64.wrap (x3751 - x3750)) (8 : Int)))))), (9, bV t3822.2.1), (14, iV .i64 t3822.1)], [(0, some (.row 1 3 (t3822.2.2.map (encInt .i64))))], 1⟩ [] (by kernel_rfl) trivial ?_
                            refine AWp.seq ?_
                            obtain ⟨t3831, e3832, H⟩ := bind_of H
                            refine reg hP hn hm [(5, .call [(0, 0)] [(0, 0)] [] [] 1 (.tup []) [(0, some (.row 1 3 (t3831.map (encInt .i64))))])] [0, 1, 3, 8, 9, 14] [0] ⟨[(0, .own 0), (1, iV .i64 x3750), (3, iV .i64 x3771), (8, bV (decide ((IntKind.i64.wrap (x3751 - t3822.1)) ≥ (IntKind.i64.wrap (Int.tdiv (IntKind.i64.wrap (x3751 - x3750)) (8 : Int)))))), (9, bV t3822.2.1), (14, iV .i64 t3822.1)], [(0, some (.row 1 3 (t3831.map (encInt .i64))))], 1⟩ [Enters Try.prog 46, Pv.Fn Try.prog 46 [.own 0, iV .i64 (IntKind.i64.wrap (t3822.1 + (1 : Int))), iV .i64 x3751, iV .i64 x3771] [(0, some (.row 1 3 (t3822.2.2.map (encInt .i64))))] 1 (fun r o => r = .tup [] ∧ o = [(0, some (.row 1 3 (t3831.map (encInt .i64))))])] (by kernel_rfl) ⟨by exact Try.call46, by exact ihF t3822.2.2 (IntKind.i64.wrap (t3822.1 + (1 : Int))) x3751 x3771 _ e3832, trivial⟩ ?_
                            refine reg hP hn hm [] [0, 1, 2, 3, 8, 9] [0] ⟨[(0, .own 0), (1, iV .i64 x3750), (2, iV .i64 t3822.1), (3, iV .i64 x3771), (8, bV (decide ((IntKind.i64.wrap (x3751 - t3822.1)) ≥ (IntKind.i64.wrap (Int.tdiv (IntKind.i64.wrap (x3751 - x3750)) (8 : Int)))))), (9, bV t3822.2.1)], [(0, some (.row 1 3 (t3831.map (encInt .i64))))], 1⟩ [] (by kernel_rfl) trivial ?_
                            obtain rfl := Option.some.inj H
                            exact Exists.intro _ (And.intro (fun _ _ h => h.conv (inv := [(0, 0)]) (vk := []) (e0 := []) (t := ⟨[(0, .own 0), (1, iV .i64 x3750), (2, iV .i64 t3822.1), (3, iV .i64 x3771), (8, bV (decide ((IntKind.i64.wrap (x3751 - t3822.1)) ≥ (IntKind.i64.wrap (Int.tdiv (IntKind.i64.wrap (x3751 - x3750)) (8 : Int)))))), (9, bV t3822.2.1)], [(0, some (.row 1 3 (t3831.map (encInt .i64))))], 1⟩) (by kernel_rfl)) (And.intro rfl rfl))
                        · obtain ⟨x3833, x3834, x3835, x3836⟩ := o3857
                          rintro e s ⟨rfl, rfl⟩
                          obtain rfl := Option.some.inj H
                          exact Exists.intro _ (And.intro (fun _ _ h => h.conv (inv := [(0, 0)]) (vk := []) (e0 := []) (t := ⟨[(0, .own 0), (1, iV .i64 x3834), (2, iV .i64 x3835), (3, iV .i64 x3771), (8, bV x3836), (9, bV t3822.2.1)], [(0, some (.row 1 3 (x3833.map (encInt .i64))))], 1⟩) (by kernel_rfl)) (And.intro rfl rfl))
    · rcases o3845 with rr | ⟨x3837, x3838, x3839, x3840, x3841, x3842⟩
      · skip
        rintro e s ⟨rfl, hfl, hres⟩
        obtain rfl := Option.some.inj H
        exact Exists.intro _ (And.intro (fun _ _ h => h) (And.intro rfl (And.intro hfl hres)))
      · skip
        rintro e s ⟨rfl, rfl⟩
        exact LWp.conv (inv := [(0, 0)]) (vk := []) (e0 := []) (t := ⟨[(0, .own 0), (1, iV .i64 x3838), (2, iV .i64 x3839), (3, iV .i64 x3840), (8, bV x3841), (9, bV x3842)], [(0, some (.row 1 3 (x3837.map (encInt .i64))))], 1⟩) (by kernel_rfl) (ih _ _ _ _ _ _ _ H)
  · obtain ⟨rr, rfl⟩ : ∃ z, z = o3843 := ⟨_, rfl⟩
    rintro e s ⟨rfl, hfl, hres⟩
    obtain rfl := Option.some.inj H
    exact Exists.intro _ (And.intro (fun _ _ h => h) (And.intro (.inl rfl) (And.intro hfl hres)))
theorem f_slices_pdqsortOrdered_int.ok (a0 : List Int) (a1 : Int) (a2 : Int) (a3 : Int) (r : List Int) (H : f_slices_pdqsortOrdered_int.f a0 a1 a2 a3 = some r) : Pv.Fn Try.prog 46 [.own 0, iV .i64 a1, iV .i64 a2, iV .i64 a3] [(0, some (.row 1 3 (a0.map (encInt .i64))))] 1 (fun x o => x = .tup [] ∧ o = [(0, some (.row 1 3 (r.map (encInt .i64))))]) := f_slices_pdqsortOrdered_int.oku 100 a0 a1 a2 a3 r H
def f_slices_Sort_int.f (a0 : List Int) : Option (List Int) := (f_bits_Len.f (IntKind.u64.wrap ((a0.length : Int)))) >>= fun t3861 => (f_slices_pdqsortOrdered_int.f a0 0 (a0.length : Int) t3861) >>= fun t3863 => some t3863
theorem f_slices_Sort_int.ok (a0 : List Int) (r : List Int) (H : f_slices_Sort_int.f a0 = some r) : Pv.Fn Try.prog 34 [.own 0] [(0, some (.row 1 3 (a0.map (encInt .i64))))] 1 (fun x o => x = .tup [] ∧ o = [(0, some (.row 1 3 (r.map (encInt .i64))))]) := by
  unfold f_slices_Sort_int.f at H
  refine Fn.bodyK [0] Try.func34 rfl rfl (fun Γ hP hn => ?_)
  have hm : Try.prog.follows .mixedOrders = true := by kernel_rfl
  replace hn : Γ.n = 11 := hn
  refine AWp.seq ?_
  refine reg hP hn hm [(1, .any (iV .i64 (a0.length : Int)))] [0, 2] [0] ⟨[(0, .own 0), (2, iV .i64 (a0.length : Int))], [(0, some (.row 1 3 (a0.map (encInt .i64))))], 1⟩ [((a0.map (encInt .i64)).length : Int) = (a0.length : Int)] (by kernel_rfl) ⟨by rw [len_map], trivial⟩ ?_
  obtain ⟨t3861, e3862, H⟩ := bind_of H
  obtain ⟨t3863, e3864, H⟩ := bind_of H
  refine reg hP hn hm [(4, .call [] [] [] [] 0 (iV .i64 t3861) []), (5, .call [(0, 0)] [(0, 0)] [] [] 1 (.tup []) [(0, some (.row 1 3 (t3863.map (encInt .i64))))])] [] [0] ⟨[], [(0, some (.row 1 3 (t3863.map (encInt .i64))))], 1⟩ [Enters Try.prog 47, Pv.Fn Try.prog 47 [iV .u64 (IntKind.u64.wrap ((a0.length : Int)))] [] 0 (fun r o => r = iV .i64 t3861 ∧ o = []), Enters Try.prog 46, Pv.Fn Try.prog 46 [.own 0, iV .i64 0, iV .i64 (a0.length : Int), iV .i64 t3861] [(0, some (.row 1 3 (a0.map (encInt .i64))))] 1 (fun r o => r = .tup [] ∧ o = [(0, some (.row 1 3 (t3863.map (encInt .i64))))])] (by kernel_rfl) ⟨by exact Try.call47, by exact f_bits_Len.ok (IntKind.u64.wrap ((a0.length : Int))) t3861 e3862, by exact Try.call46, by exact f_slices_pdqsortOrdered_int.ok a0 0 (a0.length : Int) t3861 t3863 e3864, trivial⟩ ?_
  obtain rfl := Option.some.inj H
  exact Exists.intro ⟨[], [(0, some (.row 1 3 (t3863.map (encInt .i64))))], 1⟩ (And.intro (fun _ _ h => h.conv (inv := [(0, 0)]) (vk := []) (e0 := []) (t := ⟨[], [(0, some (.row 1 3 (t3863.map (encInt .i64))))], 1⟩) (by kernel_rfl)) (And.intro (.inr rfl) (And.intro rfl (And.intro (by kernel_rfl) (by kernel_rfl)))))
end Go.Proofs.Ytfkppdcfgmgllaa.PvGD1
