import Derived.Test.YteogljahemehkaaProg
import Derived.Test.YteogljahemehkaaPxTombTurns07
set_option linter.unusedVariables false
set_option linter.unnecessarySimpa false
set_option linter.unusedSimpArgs false
set_option maxRecDepth 10000
namespace Go.Proofs.Yteogljahemehkaa.PvGC1
open Go Go.Pv
def f_slices_Grow_tomb_Range_906.f (a1 : Int) : Option (List Ttomb_Range) := if (decide (a1 < (0 : Int))) = true then (none) else (((if (decide ((IntKind.i64.wrap (a1 - (0 : Int))) > (0 : Int))) = true then ((chk ((0 : Int) = (0 : Int) ∧ (0 : Int) = (0 : Int))) >>= fun _ => (chk (0 < (IntKind.i64.wrap (a1 - (0 : Int))) ∧ Int.toNat (IntKind.i64.wrap (a1 - (0 : Int))) * 16 ≤ 140737488355328)) >>= fun _ => (chk (0 ≤ (0 : Int) ∧ (0 : Int) ≤ ((List.replicate (Int.toNat (IntKind.i64.wrap (a1 - (0 : Int)))) (⟨0, 0⟩ : Ttomb_Range)).length : Int))) >>= fun _ => some ((List.replicate (Int.toNat (IntKind.i64.wrap (a1 - (0 : Int)))) (⟨0, 0⟩ : Ttomb_Range)).take (Int.toNat ((0 : Int))))) else (some [])) : Option (List Ttomb_Range)) >>= fun x2413 => some x2413)
theorem f_slices_Grow_tomb_Range_906.ok (a1 : Int) (r : List Ttomb_Range) (H : f_slices_Grow_tomb_Range_906.f a1 = some r) : Pv.Fn Try.prog 108 [.none0, iV .i64 a1] [] 0 (fun x o => x = .own 0 ∧ o = [(0, some (.row 2 64 (r.map etomb_Range)))]) := by
  unfold f_slices_Grow_tomb_Range_906.f at H
  refine Fn.bodyK [0] Try.func108 rfl rfl (fun Γ hP hn => ?_)
  have hm : Try.prog.follows .mixedOrders = true := by kernel_rfl
  replace hn : Γ.n = 27 := hn
  refine AWp.seq ?_
  refine reg hP hn hm [] [0, 1] [] ⟨[(0, .none0), (1, iV .i64 a1)], [], 0⟩ [] (by kernel_rfl) trivial ?_
  refine AWp.seq ?_
  refine AWp.seq ?_
  refine reg hP hn hm [] [0, 1, 6] [] ⟨[(0, .none0), (1, iV .i64 a1), (6, bV (decide (a1 < (0 : Int))))], [], 0⟩ [] (by kernel_rfl) trivial ?_
  refine AWp.cond (decide (a1 < (0 : Int))) rfl (fun c2405 => ?_) (fun c2405 => ?_)
  · replace H := (ifT c2405).symm.trans H
    exact nomatch H
  · replace H := (ifF c2405).symm.trans H
    refine AWp.skip ?_
    refine AWp.seq ?_
    refine AWp.seq ?_
    refine reg hP hn hm [(2, .more xCapNil)] [0, 1] [] ⟨[(0, .none0), (1, iV .i64 (IntKind.i64.wrap (a1 - (0 : Int))))], [], 0⟩ [] (by kernel_rfl) trivial ?_
    refine AWp.seq ?_
    refine reg hP hn hm [] [0, 1, 16] [] ⟨[(0, .none0), (1, iV .i64 (IntKind.i64.wrap (a1 - (0 : Int)))), (16, bV (decide ((IntKind.i64.wrap (a1 - (0 : Int))) > (0 : Int))))], [], 0⟩ [] (by kernel_rfl) trivial ?_
    obtain ⟨o2414, e2415, H⟩ := bind_of H
    refine AWp.mono (Q := fun e s => (match (generalizing := false) o2414 with | x2413 => e = .normal ∧ s = ⟨[(0, .own 2)], [(2, some (.row 2 64 (x2413.map etomb_Range)))], 0⟩)) (AWp.cv ?_) ?_
    · replace H := e2415; clear e2415
      refine AWp.cond (decide ((IntKind.i64.wrap (a1 - (0 : Int))) > (0 : Int))) rfl (fun c2406 => ?_) (fun c2406 => ?_)
      · replace H := (ifT c2406).symm.trans H
        obtain ⟨c2410, H⟩ := chk_of H
        obtain ⟨c2411, H⟩ := chk_of H
        obtain ⟨c2412, H⟩ := chk_of H
        refine reg hP hn hm [(2, .more xCapNil), (3, .more xCutNil), (5, .more (xAppZero 0 ((List.replicate (Int.toNat (IntKind.i64.wrap (a1 - (0 : Int)))) (⟨0, 0⟩ : Ttomb_Range)).map etomb_Range))), (8, .more (xTake 1 (((List.replicate (Int.toNat (IntKind.i64.wrap (a1 - (0 : Int)))) (⟨0, 0⟩ : Ttomb_Range)).take (Int.toNat ((0 : Int)))).map etomb_Range)))] [0] [1] ⟨[(0, .own 1)], [(1, some (.row 2 64 (((List.replicate (Int.toNat (IntKind.i64.wrap (a1 - (0 : Int)))) (⟨0, 0⟩ : Ttomb_Range)).take (Int.toNat ((0 : Int)))).map etomb_Range)))], 0⟩ [(0 : Int) = 0, (0 : Int) = 0, (List.replicate (Int.toNat (IntKind.i64.wrap (a1 - (0 : Int)))) (⟨0, 0⟩ : Ttomb_Range)).map etomb_Range = List.replicate (Int.toNat (IntKind.i64.wrap (a1 - (0 : Int)))) [iI .i64 0, iI .i64 0], 0 < (IntKind.i64.wrap (a1 - (0 : Int))), Int.toNat (IntKind.i64.wrap (a1 - (0 : Int))) * 16 ≤ 140737488355328, 0 ≤ (0 : Int), (0 : Int) ≤ (((List.replicate (Int.toNat (IntKind.i64.wrap (a1 - (0 : Int)))) (⟨0, 0⟩ : Ttomb_Range)).map etomb_Range).length : Int), ((List.replicate (Int.toNat (IntKind.i64.wrap (a1 - (0 : Int)))) (⟨0, 0⟩ : Ttomb_Range)).take (Int.toNat ((0 : Int)))).map etomb_Range = ((List.replicate (Int.toNat (IntKind.i64.wrap (a1 - (0 : Int)))) (⟨0, 0⟩ : Ttomb_Range)).map etomb_Range).take (Int.toNat ((0 : Int)))] (by kernel_rfl) ⟨by exact c2410.1, by exact c2410.2, by simp, by exact c2411.1, by exact c2411.2, by exact c2412.1, by simpa using c2412.2, by simp, trivial⟩ ?_
        obtain rfl := Option.some.inj H
        exact Exists.intro _ (And.intro (fun _ _ h => h.conv (inv := [(1, 2)]) (vk := []) (e0 := []) (t := ⟨[(0, .own 2)], [(2, some (.row 2 64 (((List.replicate (Int.toNat (IntKind.i64.wrap (a1 - (0 : Int)))) (⟨0, 0⟩ : Ttomb_Range)).take (Int.toNat ((0 : Int)))).map etomb_Range)))], 0⟩) (by kernel_rfl)) (And.intro rfl rfl))
      · replace H := (ifF c2406).symm.trans H
        refine AWp.skip ?_
        obtain rfl := Option.some.inj H
        exact Exists.intro _ (And.intro (fun _ _ h => h.conv (inv := []) (vk := []) (e0 := [2]) (t := ⟨[(0, .own 2)], [(2, some (.row 2 64 ([].map etomb_Range)))], 0⟩) (by kernel_rfl)) (And.intro rfl rfl))
    · obtain ⟨x2413, rfl⟩ : ∃ z, z = o2414 := ⟨_, rfl⟩
      rintro e s ⟨rfl, rfl⟩
      refine AWp.seq ?_
      refine reg hP hn hm [] [4] [2] ⟨[(4, .own 2)], [(2, some (.row 2 64 (x2413.map etomb_Range)))], 0⟩ [] (by kernel_rfl) trivial ?_
      refine AWp.conv (inv := [(2, 0)]) (vk := []) (e0 := []) (t := ⟨[(4, .own 0)], [(0, some (.row 2 64 (x2413.map etomb_Range)))], 0⟩) (by kernel_rfl) ?_
      refine AWp.ret ?_
      obtain rfl := Option.some.inj H
      exact Exists.intro _ (And.intro (fun _ _ h => h) (And.intro (.inl rfl) (And.intro rfl (And.intro (by kernel_rfl) (by kernel_rfl)))))
def f_slices_Concat_tomb_Range.l0 (a0 : List (List Ttomb_Range)) (x2394 : Int) (x2395 : Int) : Option (Int) := if (decide (x2395 < (a0.length : Int))) = true then ((at? a0 x2395) >>= fun b2400 => if (decide ((IntKind.i64.wrap (x2394 + (b2400.length : Int))) < (0 : Int))) = true then (none) else (f_slices_Concat_tomb_Range.l0 a0 (IntKind.i64.wrap (x2394 + (b2400.length : Int))) (IntKind.i64.wrap (x2395 + (1 : Int))))) else (some x2394)
partial_fixpoint
def f_slices_Concat_tomb_Range.l1 (a0 : List (List Ttomb_Range)) (x2429 : List Ttomb_Range) (x2430 : Int) : Option (List Ttomb_Range) := if (decide (x2430 < (a0.length : Int))) = true then ((at? a0 x2430) >>= fun b2435 => (chk ((x2429.length + b2435.length) * 16 ≤ 140737488355328)) >>= fun _ => f_slices_Concat_tomb_Range.l1 a0 (x2429 ++ b2435) (IntKind.i64.wrap (x2430 + (1 : Int)))) else (some x2429)
partial_fixpoint
def f_slices_Concat_tomb_Range.f (a0 : List (List Ttomb_Range)) : Option (List Ttomb_Range) := (f_slices_Concat_tomb_Range.l0 a0 0 0) >>= fun x2404 => (f_slices_Grow_tomb_Range_906.f x2404) >>= fun t2418 => (f_slices_Concat_tomb_Range.l1 a0 t2418 0) >>= fun x2440 => some x2440
theorem f_slices_Concat_tomb_Range.ok (a0 : List (List Ttomb_Range)) (r : List Ttomb_Range) (H : f_slices_Concat_tomb_Range.f a0 = some r) : Pv.Fn Try.prog 74 [.im (.row (a0.map (encRow etomb_Range)))] [] 0 (fun x o => x = .own 0 ∧ o = [(0, some (.row 2 64 (r.map etomb_Range)))]) := by
  unfold f_slices_Concat_tomb_Range.f at H
  refine Fn.bodyK [0] Try.func74 rfl rfl (fun Γ hP hn => ?_)
  have hm : Try.prog.follows .mixedOrders = true := by kernel_rfl
  replace hn : Γ.n = 36 := hn
  refine AWp.seq ?_
  refine reg hP hn hm [] [0] [] ⟨[(0, .im (.row (a0.map (encRow etomb_Range))))], [], 0⟩ [] (by kernel_rfl) trivial ?_
  refine AWp.seq ?_
  refine reg hP hn hm [] [0, 3] [] ⟨[(0, .im (.row (a0.map (encRow etomb_Range)))), (3, iV .i64 0)], [], 0⟩ [] (by kernel_rfl) trivial ?_
  refine AWp.seq ?_
  refine AWp.seq ?_
  refine reg hP hn hm [(1, .any (iV .i64 (a0.length : Int)))] [0, 3, 9, 10, 11] [] ⟨[(0, .im (.row (a0.map (encRow etomb_Range)))), (3, iV .i64 0), (9, .im (.row (a0.map (encRow etomb_Range)))), (10, iV .i64 (a0.length : Int)), (11, iV .i64 0)], [], 0⟩ [((a0.map (encRow etomb_Range)).length : Int) = (a0.length : Int)] (by kernel_rfl) ⟨by rw [len_map], trivial⟩ ?_
  refine AWp.block ?_
  obtain ⟨o2441, e2442, H⟩ := bind_of H
  refine AWp.loop (LWp.conv (inv := []) (vk := []) (e0 := []) (t := ⟨[(0, .im (.row (a0.map (encRow etomb_Range)))), (3, iV .i64 0), (9, .im (.row (a0.map (encRow etomb_Range)))), (10, iV .i64 (a0.length : Int)), (11, iV .i64 0)], [], 0⟩) (by kernel_rfl) ?_)
  refine LWp.mono (Q := fun e s => (match (generalizing := false) o2441 with | x2404 => e = .exit 0 ∧ s = ⟨[(0, .im (.row (a0.map (encRow etomb_Range)))), (3, iV .i64 x2404)], [], 0⟩)) (LWp.cv (withBody (fun body hbody => ?_))) ?_
  · refine f_slices_Concat_tomb_Range.l0.partial_correctness a0 (motive := fun x2394 x2395 o2441 => LWp Γ body (fun e s => ∃ t, Cv Γ s t ∧ (match (generalizing := false) o2441 with | x2404 => e = .exit 0 ∧ t = ⟨[(0, .im (.row (a0.map (encRow etomb_Range)))), (3, iV .i64 x2404)], [], 0⟩)) ⟨[(0, .im (.row (a0.map (encRow etomb_Range)))), (3, iV .i64 x2394), (9, .im (.row (a0.map (encRow etomb_Range)))), (10, iV .i64 (a0.length : Int)), (11, iV .i64 x2395)], [], 0⟩) ?_ _ _ _ e2442
    clear H e2442 o2441; intro self ih x2394 x2395 o2441 H
    subst hbody
    refine LWp.round ?_
    refine AWp.seq ?_
    refine reg hP hn hm [] [0, 3, 9, 10, 11, 12] [] ⟨[(0, .im (.row (a0.map (encRow etomb_Range)))), (3, iV .i64 x2394), (9, .im (.row (a0.map (encRow etomb_Range)))), (10, iV .i64 (a0.length : Int)), (11, iV .i64 x2395), (12, bV (decide (x2395 < (a0.length : Int))))], [], 0⟩ [] (by kernel_rfl) trivial ?_
    refine AWp.seq ?_
    refine AWp.cond (decide (x2395 < (a0.length : Int))) rfl (fun c2396 => ?_) (fun c2396 => ?_)
    · replace H := (ifT c2396).symm.trans H
      refine AWp.skip ?_
      refine AWp.seq ?_
      refine AWp.block ?_
      refine AWp.seq ?_
      obtain ⟨b2400, p2401, q2402, H⟩ := at_of H
      refine reg hP hn hm [(0, .c ((encRow etomb_Range) b2400))] [0, 3, 5, 9, 10, 11] [] ⟨[(0, .im (.row (a0.map (encRow etomb_Range)))), (3, iV .i64 x2394), (5, .im (.row (b2400.map etomb_Range))), (9, .im (.row (a0.map (encRow etomb_Range)))), (10, iV .i64 (a0.length : Int)), (11, iV .i64 x2395)], [], 0⟩ [0 ≤ x2395, (a0.map (encRow etomb_Range))[(Int.toNat (x2395))]? = some ((encRow etomb_Range) b2400)] (by kernel_rfl) ⟨by exact p2401, by exact el_map (encRow etomb_Range) q2402, trivial⟩ ?_
      refine AWp.seq ?_
      refine reg hP hn hm [(2, .any (iV .i64 (b2400.length : Int)))] [0, 3, 9, 10, 11] [] ⟨[(0, .im (.row (a0.map (encRow etomb_Range)))), (3, iV .i64 (IntKind.i64.wrap (x2394 + (b2400.length : Int)))), (9, .im (.row (a0.map (encRow etomb_Range)))), (10, iV .i64 (a0.length : Int)), (11, iV .i64 x2395)], [], 0⟩ [((b2400.map etomb_Range).length : Int) = (b2400.length : Int)] (by kernel_rfl) ⟨by rw [len_map], trivial⟩ ?_
      refine AWp.seq ?_
      refine reg hP hn hm [] [0, 3, 9, 10, 11, 20] [] ⟨[(0, .im (.row (a0.map (encRow etomb_Range)))), (3, iV .i64 (IntKind.i64.wrap (x2394 + (b2400.length : Int)))), (9, .im (.row (a0.map (encRow etomb_Range)))), (10, iV .i64 (a0.length : Int)), (11, iV .i64 x2395), (20, bV (decide ((IntKind.i64.wrap (x2394 + (b2400.length : Int))) < (0 : Int))))], [], 0⟩ [] (by kernel_rfl) trivial ?_
      refine AWp.cond (decide ((IntKind.i64.wrap (x2394 + (b2400.length : Int))) < (0 : Int))) rfl (fun c2403 => ?_) (fun c2403 => ?_)
      · replace H := (ifT c2403).symm.trans H
        exact nomatch H
      · replace H := (ifF c2403).symm.trans H
        refine AWp.skip ?_
        refine reg hP hn hm [] [0, 3, 9, 10, 11] [] ⟨[(0, .im (.row (a0.map (encRow etomb_Range)))), (3, iV .i64 (IntKind.i64.wrap (x2394 + (b2400.length : Int)))), (9, .im (.row (a0.map (encRow etomb_Range)))), (10, iV .i64 (a0.length : Int)), (11, iV .i64 (IntKind.i64.wrap (x2395 + (1 : Int))))], [], 0⟩ [] (by kernel_rfl) trivial ?_
        exact LWp.conv (inv := []) (vk := []) (e0 := []) (t := ⟨[(0, .im (.row (a0.map (encRow etomb_Range)))), (3, iV .i64 (IntKind.i64.wrap (x2394 + (b2400.length : Int)))), (9, .im (.row (a0.map (encRow etomb_Range)))), (10, iV .i64 (a0.length : Int)), (11, iV .i64 (IntKind.i64.wrap (x2395 + (1 : Int))))], [], 0⟩) (by kernel_rfl) (ih _ _ _ H)
    · replace H := (ifF c2396).symm.trans H
      refine AWp.exit ?_
      obtain rfl := Option.some.inj H
      exact Exists.intro _ (And.intro (fun _ _ h => h.conv (inv := []) (vk := []) (e0 := []) (t := ⟨[(0, .im (.row (a0.map (encRow etomb_Range)))), (3, iV .i64 x2394)], [], 0⟩) (by kernel_rfl)) (And.intro rfl rfl))
  · obtain ⟨x2404, rfl⟩ : ∃ z, z = o2441 := ⟨_, rfl⟩
    rintro e s ⟨rfl, rfl⟩
    refine AWp.seq ?_
    obtain ⟨t2418, e2419, H⟩ := bind_of H
    refine reg hP hn hm [(1, .callz [] [(0, 0)] [] [0] 0 (.own 0) [(0, some (.row 2 64 (t2418.map etomb_Range)))])] [0, 6] [0] ⟨[(0, .im (.row (a0.map (encRow etomb_Range)))), (6, .own 0)], [(0, some (.row 2 64 (t2418.map etomb_Range)))], 0⟩ [Enters Try.prog 108, Pv.Fn Try.prog 108 [.none0, iV .i64 x2404] [] 0 (fun r o => r = .own 0 ∧ o = [(0, some (.row 2 64 (t2418.map etomb_Range)))])] (by kernel_rfl) ⟨by exact Try.call108, by exact f_slices_Grow_tomb_Range_906.ok x2404 t2418 e2419, trivial⟩ ?_
    refine AWp.seq ?_
    refine AWp.seq ?_
    refine reg hP hn hm [(1, .any (iV .i64 (a0.length : Int)))] [6, 25, 26, 27] [0] ⟨[(6, .own 0), (25, .im (.row (a0.map (encRow etomb_Range)))), (26, iV .i64 (a0.length : Int)), (27, iV .i64 0)], [(0, some (.row 2 64 (t2418.map etomb_Range)))], 0⟩ [((a0.map (encRow etomb_Range)).length : Int) = (a0.length : Int)] (by kernel_rfl) ⟨by rw [len_map], trivial⟩ ?_
    refine AWp.block ?_
    obtain ⟨o2443, e2444, H⟩ := bind_of H
    refine AWp.loop (LWp.conv (inv := [(0, 2)]) (vk := []) (e0 := []) (t := ⟨[(6, .own 2), (25, .im (.row (a0.map (encRow etomb_Range)))), (26, iV .i64 (a0.length : Int)), (27, iV .i64 0)], [(2, some (.row 2 64 (t2418.map etomb_Range)))], 0⟩) (by kernel_rfl) ?_)
    refine LWp.mono (Q := fun e s => (match (generalizing := false) o2443 with | x2440 => e = .exit 2 ∧ s = ⟨[(6, .own 4)], [(4, some (.row 2 64 (x2440.map etomb_Range)))], 0⟩)) (LWp.cv (withBody (fun body hbody => ?_))) ?_
    · refine f_slices_Concat_tomb_Range.l1.partial_correctness a0 (motive := fun x2429 x2430 o2443 => LWp Γ body (fun e s => ∃ t, Cv Γ s t ∧ (match (generalizing := false) o2443 with | x2440 => e = .exit 2 ∧ t = ⟨[(6, .own 4)], [(4, some (.row 2 64 (x2440.map etomb_Range)))], 0⟩)) ⟨[(6, .own 2), (25, .im (.row (a0.map (encRow etomb_Range)))), (26, iV .i64 (a0.length : Int)), (27, iV .i64 x2430)], [(2, some (.row 2 64 (x2429.map etomb_Range)))], 0⟩) ?_ _ _ _ e2444
      clear H e2444 o2443; intro self ih x2429 x2430 o2443 H
      subst hbody
      refine LWp.round ?_
      refine AWp.seq ?_
      refine reg hP hn hm [] [6, 25, 26, 27, 28] [2] ⟨[(6, .own 2), (25, .im (.row (a0.map (encRow etomb_Range)))), (26, iV .i64 (a0.length : Int)), (27, iV .i64 x2430), (28, bV (decide (x2430 < (a0.length : Int))))], [(2, some (.row 2 64 (x2429.map etomb_Range)))], 0⟩ [] (by kernel_rfl) trivial ?_
      refine AWp.seq ?_
      refine AWp.cond (decide (x2430 < (a0.length : Int))) rfl (fun c2431 => ?_) (fun c2431 => ?_)
      · replace H := (ifT c2431).symm.trans H
        refine AWp.skip ?_
        refine AWp.seq ?_
        refine AWp.block ?_
        refine AWp.seq ?_
        obtain ⟨b2435, p2436, q2437, H⟩ := at_of H
        refine reg hP hn hm [(0, .c ((encRow etomb_Range) b2435))] [6, 8, 25, 26, 27] [2] ⟨[(6, .own 2), (8, .im (.row (b2435.map etomb_Range))), (25, .im (.row (a0.map (encRow etomb_Range)))), (26, iV .i64 (a0.length : Int)), (27, iV .i64 x2430)], [(2, some (.row 2 64 (x2429.map etomb_Range)))], 0⟩ [0 ≤ x2430, (a0.map (encRow etomb_Range))[(Int.toNat (x2430))]? = some ((encRow etomb_Range) b2435)] (by kernel_rfl) ⟨by exact p2436, by exact el_map (encRow etomb_Range) q2437, trivial⟩ ?_
        obtain ⟨c2439, H⟩ := chk_of H
        refine reg hP hn hm [(2, .app 3 ((x2429 ++ b2435).map etomb_Range))] [6, 25, 26, 27] [3] ⟨[(6, .own 3), (25, .im (.row (a0.map (encRow etomb_Range)))), (26, iV .i64 (a0.length : Int)), (27, iV .i64 x2430)], [(3, some (.row 2 64 ((x2429 ++ b2435).map etomb_Range)))], 0⟩ [(x2429 ++ b2435).map etomb_Range = (x2429.map etomb_Range) ++ (b2435.map etomb_Range), ∀ c ∈ (b2435.map etomb_Range), c.length = 2, ∀ c ∈ (b2435.map etomb_Range), leaves (c.map .im) = true, ((x2429.map etomb_Range).length + (b2435.map etomb_Range).length) * 16 ≤ 140737488355328] (by kernel_rfl) ⟨by simp, by exact all_len _ _ _ (fun _ => rfl), by exact all_leaf _ _ (fun _ => rfl), by simpa using c2439, trivial⟩ ?_
        refine reg hP hn hm [] [6, 25, 26, 27] [3] ⟨[(6, .own 3), (25, .im (.row (a0.map (encRow etomb_Range)))), (26, iV .i64 (a0.length : Int)), (27, iV .i64 (IntKind.i64.wrap (x2430 + (1 : Int))))], [(3, some (.row 2 64 ((x2429 ++ b2435).map etomb_Range)))], 0⟩ [] (by kernel_rfl) trivial ?_
        exact LWp.conv (inv := [(3, 2)]) (vk := []) (e0 := []) (t := ⟨[(6, .own 2), (25, .im (.row (a0.map (encRow etomb_Range)))), (26, iV .i64 (a0.length : Int)), (27, iV .i64 (IntKind.i64.wrap (x2430 + (1 : Int))))], [(2, some (.row 2 64 ((x2429 ++ b2435).map etomb_Range)))], 0⟩) (by kernel_rfl) (ih _ _ _ H)
      · replace H := (ifF c2431).symm.trans H
        refine AWp.exit ?_
        obtain rfl := Option.some.inj H
        exact Exists.intro _ (And.intro (fun _ _ h => h.conv (inv := [(2, 4)]) (vk := []) (e0 := []) (t := ⟨[(6, .own 4)], [(4, some (.row 2 64 (x2429.map etomb_Range)))], 0⟩) (by kernel_rfl)) (And.intro rfl rfl))
    · obtain ⟨x2440, rfl⟩ : ∃ z, z = o2443 := ⟨_, rfl⟩
      rintro e s ⟨rfl, rfl⟩
      refine AWp.seq ?_
      refine reg hP hn hm [] [2] [4] ⟨[(2, .own 4)], [(4, some (.row 2 64 (x2440.map etomb_Range)))], 0⟩ [] (by kernel_rfl) trivial ?_
      refine AWp.conv (inv := [(4, 0)]) (vk := []) (e0 := []) (t := ⟨[(2, .own 0)], [(0, some (.row 2 64 (x2440.map etomb_Range)))], 0⟩) (by kernel_rfl) ?_
      refine AWp.ret ?_
      obtain rfl := Option.some.inj H
      exact Exists.intro _ (And.intro (fun _ _ h => h) (And.intro (.inl rfl) (And.intro rfl (And.intro (by kernel_rfl) (by kernel_rfl)))))
def f_tomb_Set_And.f (a0 : Ttomb_Set) (a1 : Ttomb_Set) : Option (Ttomb_Set) := (f_slices_Concat_tomb_Range.f [a0.f0, a1.f0]) >>= fun t2449 => (f_tomb_Of.f t2449) >>= fun t2451 => some (t2451)
theorem f_tomb_Set_And.ok (a0 : Ttomb_Set) (a1 : Ttomb_Set) (r : Ttomb_Set) (H : f_tomb_Set_And.f a0 a1 = some r) : Pv.Fn Try.prog 30 [.agg [.im (.row (a0.f0.map etomb_Range))], .agg [.im (.row (a1.f0.map etomb_Range))]] [] 0 (fun x o => x = .agg [.own 0] ∧ o = [(0, some (.row 2 64 (((r).f0).map etomb_Range)))]) := by
  unfold f_tomb_Set_And.f at H
  refine Fn.bodyK [0] Try.func30 rfl rfl (fun Γ hP hn => ?_)
  have hm : Try.prog.follows .mixedOrders = true := by kernel_rfl
  replace hn : Γ.n = 12 := hn
  refine AWp.seq ?_
  refine reg hP hn hm [(0, .k 0), (1, .k 1), (2, .k 2)] [2, 3, 4] [0, 1, 2] ⟨[(2, .ptr 0 0 0), (3, .ptr 1 0 0), (4, .ptr 2 0 0)], [(0, some (.box 27 [.im (.row (a0.f0.map etomb_Range))])), (1, some (.box 27 [.im (.row (a1.f0.map etomb_Range))])), (2, some (.box 27 [.none0]))], 0⟩ [] (by kernel_rfl) trivial ?_
  refine AWp.seq ?_
  obtain ⟨t2449, e2450, H⟩ := bind_of H
  obtain ⟨t2451, e2452, H⟩ := bind_of H
  refine reg hP hn hm [(4, .app 3 ([a0.f0, a1.f0].map (encRow etomb_Range))), (5, .call [] [(0, 4)] [3] [4] 0 (.own 0) [(0, some (.row 2 64 (t2449.map etomb_Range)))]), (6, .call [] [(0, 5)] [4] [5] 0 (.agg [.own 0]) [(0, some (.row 2 64 (((t2451).f0).map etomb_Range)))])] [4] [2, 5] ⟨[(4, .ptr 2 0 0)], [(2, some (.box 27 [.own 5])), (5, some (.row 2 64 (((t2451).f0).map etomb_Range)))], 0⟩ [[a0.f0, a1.f0].map (encRow etomb_Range) = [[.row (a0.f0.map etomb_Range)], [.row (a1.f0.map etomb_Range)]], Enters Try.prog 74, Pv.Fn Try.prog 74 [.im (.row ([a0.f0, a1.f0].map (encRow etomb_Range)))] [] 0 (fun r o => r = .own 0 ∧ o = [(0, some (.row 2 64 (t2449.map etomb_Range)))]), Enters Try.prog 14, Pv.Fn Try.prog 14 [.im (.row (t2449.map etomb_Range))] [] 0 (fun r o => r = .agg [.own 0] ∧ o = [(0, some (.row 2 64 (((t2451).f0).map etomb_Range)))])] (by kernel_rfl) ⟨by exact rfl, by exact Try.call74, by exact f_slices_Concat_tomb_Range.ok [a0.f0, a1.f0] t2449 e2450, by exact Try.call14, by exact f_tomb_Of.ok t2449 t2451 e2452, trivial⟩ ?_
  refine AWp.conv (inv := [(2, 1), (5, 0)]) (vk := []) (e0 := []) (t := ⟨[(4, .ptr 1 0 0)], [(0, some (.row 2 64 ((((t2451)).f0).map etomb_Range))), (1, some (.box 27 [.own 0]))], 0⟩) (by kernel_rfl) ?_
  refine AWp.ret ?_
  obtain rfl := Option.some.inj H
  exact Exists.intro _ (And.intro (fun _ _ h => h) (And.intro (.inl rfl) (And.intro rfl (And.intro (by kernel_rfl) (by kernel_rfl)))))
def f_pluviallaw14_same.l0 (t2461 : List Ttomb_Range) (t2463 : List Ttomb_Range) (x2480 : Int) : Option (Bool ⊕ Unit) := if (decide (x2480 < (t2461.length : Int))) = true then ((at? t2461 x2480) >>= fun b2488 => (at? t2463 x2480) >>= fun b2491 => if (!((b2488.f0 == b2491.f0) && ((b2488.f1 == b2491.f1) && true))) = true then (some (.inl false)) else (f_pluviallaw14_same.l0 t2461 t2463 (IntKind.i64.wrap (x2480 + (1 : Int))))) else (some (.inr ()))
partial_fixpoint
def f_pluviallaw14_same.f (a0 : Ttomb_Set) (a1 : Ttomb_Set) : Option (Bool) := (f_tomb_Set_Ranges.f a0) >>= fun t2461 => (f_tomb_Set_Ranges.f a1) >>= fun t2463 => if ((t2461.length : Int) != (t2463.length : Int)) = true then (some false) else ((f_pluviallaw14_same.l0 t2461 t2463 0) >>= fun oo => match oo with | .inl rr => (some rr) | .inr _ => (some true))
theorem f_pluviallaw14_same.ok (a0 : Ttomb_Set) (a1 : Ttomb_Set) (r : Bool) (H : f_pluviallaw14_same.f a0 a1 = some r) : Pv.Fn Try.prog 29 [.agg [.im (.row (a0.f0.map etomb_Range))], .agg [.im (.row (a1.f0.map etomb_Range))]] [] 0 (fun x o => x = bV r ∧ o = []) := by
  unfold f_pluviallaw14_same.f at H
  refine Fn.bodyK [] Try.func29 rfl rfl (fun Γ hP hn => ?_)
  have hm : Try.prog.follows .mixedOrders = true := by kernel_rfl
  replace hn : Γ.n = 32 := hn
  refine AWp.seq ?_
  refine reg hP hn hm [(0, .k 0), (1, .k 1)] [2, 3] [0, 1] ⟨[(2, .ptr 0 0 0), (3, .ptr 1 0 0)], [(0, some (.box 27 [.im (.row (a0.f0.map etomb_Range))])), (1, some (.box 27 [.im (.row (a1.f0.map etomb_Range))]))], 0⟩ [] (by kernel_rfl) trivial ?_
  refine AWp.seq ?_
  obtain ⟨t2461, e2462, H⟩ := bind_of H
  obtain ⟨t2463, e2464, H⟩ := bind_of H
  refine reg hP hn hm [(1, .call [] [(0, 2)] [] [2] 0 (.own 0) [(0, some (.row 2 64 (t2461.map etomb_Range)))]), (3, .call [] [(0, 3)] [] [3] 0 (.own 0) [(0, some (.row 2 64 (t2463.map etomb_Range)))])] [5, 6] [2, 3] ⟨[(5, .own 2), (6, .own 3)], [(2, some (.row 2 64 (t2461.map etomb_Range))), (3, some (.row 2 64 (t2463.map etomb_Range)))], 0⟩ [Enters Try.prog 31, Pv.Fn Try.prog 31 [.agg [.im (.row (a0.f0.map etomb_Range))]] [] 0 (fun r o => r = .own 0 ∧ o = [(0, some (.row 2 64 (t2461.map etomb_Range)))]), Enters Try.prog 31, Pv.Fn Try.prog 31 [.agg [.im (.row (a1.f0.map etomb_Range))]] [] 0 (fun r o => r = .own 0 ∧ o = [(0, some (.row 2 64 (t2463.map etomb_Range)))])] (by kernel_rfl) ⟨by exact Try.call31, by exact f_tomb_Set_Ranges.ok a0 t2461 e2462, by exact Try.call31, by exact f_tomb_Set_Ranges.ok a1 t2463 e2464, trivial⟩ ?_
  refine AWp.seq ?_
  refine AWp.seq ?_
  refine reg hP hn hm [(1, .any (iV .i64 (t2461.length : Int))), (3, .any (iV .i64 (t2463.length : Int)))] [5, 6, 16] [2, 3] ⟨[(5, .own 2), (6, .own 3), (16, bV ((t2461.length : Int) != (t2463.length : Int)))], [(2, some (.row 2 64 (t2461.map etomb_Range))), (3, some (.row 2 64 (t2463.map etomb_Range)))], 0⟩ [((t2461.map etomb_Range).length : Int) = (t2461.length : Int), ((t2463.map etomb_Range).length : Int) = (t2463.length : Int)] (by kernel_rfl) ⟨by rw [len_map], by rw [len_map], trivial⟩ ?_
  refine AWp.cond ((t2461.length : Int) != (t2463.length : Int)) rfl (fun c2465 => ?_) (fun c2465 => ?_)
  · replace H := (ifT c2465).symm.trans H
    refine AWp.seq ?_
    refine reg hP hn hm [] [4] [] ⟨[(4, bV false)], [], 0⟩ [] (by kernel_rfl) trivial ?_
    refine AWp.conv (inv := []) (vk := []) (e0 := []) (t := ⟨[(4, bV false)], [], 0⟩) (by kernel_rfl) ?_
    refine AWp.ret ?_
    obtain rfl := Option.some.inj H
    exact Exists.intro _ (And.intro (fun _ _ h => h) (And.intro (.inl rfl) (And.intro rfl (And.intro (by kernel_rfl) (by kernel_rfl)))))
  · replace H := (ifF c2465).symm.trans H
    refine AWp.skip ?_
    refine AWp.seq ?_
    refine AWp.seq ?_
    refine reg hP hn hm [(1, .any (iV .i64 (t2461.length : Int)))] [5, 6, 18, 19] [2, 3] ⟨[(5, .own 2), (6, .own 3), (18, iV .i64 (t2461.length : Int)), (19, iV .i64 0)], [(2, some (.row 2 64 (t2461.map etomb_Range))), (3, some (.row 2 64 (t2463.map etomb_Range)))], 0⟩ [((t2461.map etomb_Range).length : Int) = (t2461.length : Int)] (by kernel_rfl) ⟨by rw [len_map], trivial⟩ ?_
    refine AWp.block ?_
    obtain ⟨o2495, e2496, H⟩ := bind_of H
    refine AWp.loop (LWp.conv (inv := [(2, 4), (3, 5)]) (vk := []) (e0 := []) (t := ⟨[(5, .own 4), (6, .own 5), (18, iV .i64 (t2461.length : Int)), (19, iV .i64 0)], [(4, some (.row 2 64 (t2461.map etomb_Range))), (5, some (.row 2 64 (t2463.map etomb_Range)))], 0⟩) (by kernel_rfl) ?_)
    refine LWp.mono (Q := fun e s => (match (generalizing := false) o2495 with | .inl rr => e = .ret ∧ s.floor = 0 ∧ resOf Try.prog Try.f29 s = some (bV rr) ∧ ([] : List (Nat × Option MObj)) = [] | .inr _ => e = .exit 0 ∧ s = ⟨[], [], 0⟩)) (LWp.cv (withBody (fun body hbody => ?_))) ?_
    · refine f_pluviallaw14_same.l0.partial_correctness t2461 t2463 (motive := fun x2480 o2495 => LWp Γ body (fun e s => ∃ t, Cv Γ s t ∧ (match (generalizing := false) o2495 with | .inl rr => e = .ret ∧ t.floor = 0 ∧ resOf Try.prog Try.f29 t = some (bV rr) ∧ ([] : List (Nat × Option MObj)) = [] | .inr _ => e = .exit 0 ∧ t = ⟨[], [], 0⟩)) ⟨[(5, .own 4), (6, .own 5), (18, iV .i64 (t2461.length : Int)), (19, iV .i64 x2480)], [(4, some (.row 2 64 (t2461.map etomb_Range))), (5, some (.row 2 64 (t2463.map etomb_Range)))], 0⟩) ?_ _ _ e2496
      clear H e2496 o2495; intro self ih x2480 o2495 H
      subst hbody
      refine LWp.round ?_
      refine AWp.seq ?_
      refine reg hP hn hm [] [5, 6, 18, 19, 20] [4, 5] ⟨[(5, .own 4), (6, .own 5), (18, iV .i64 (t2461.length : Int)), (19, iV .i64 x2480), (20, bV (decide (x2480 < (t2461.length : Int))))], [(4, some (.row 2 64 (t2461.map etomb_Range))), (5, some (.row 2 64 (t2463.map etomb_Range)))], 0⟩ [] (by kernel_rfl) trivial ?_
      refine AWp.seq ?_
      refine AWp.cond (decide (x2480 < (t2461.length : Int))) rfl (fun c2481 => ?_) (fun c2481 => ?_)
      · replace H := (ifT c2481).symm.trans H
        refine AWp.skip ?_
        refine AWp.seq ?_
        refine AWp.block ?_
        refine AWp.seq ?_
        refine reg hP hn hm [] [5, 6, 7, 18, 19] [4, 5] ⟨[(5, .own 4), (6, .own 5), (7, iV .i64 x2480), (18, iV .i64 (t2461.length : Int)), (19, iV .i64 x2480)], [(4, some (.row 2 64 (t2461.map etomb_Range))), (5, some (.row 2 64 (t2463.map etomb_Range)))], 0⟩ [] (by kernel_rfl) trivial ?_
        refine AWp.seq ?_
        obtain ⟨b2488, p2489, q2490, H⟩ := at_of H
        obtain ⟨b2491, p2492, q2493, H⟩ := at_of H
        refine reg hP hn hm [(3, .c (etomb_Range b2488)), (7, .c (etomb_Range b2491)), (8, .more (xAgg none))] [5, 6, 18, 19, 30] [4, 5] ⟨[(5, .own 4), (6, .own 5), (18, iV .i64 (t2461.length : Int)), (19, iV .i64 x2480), (30, bV (!((b2488.f0 == b2491.f0) && ((b2488.f1 == b2491.f1) && true))))], [(4, some (.row 2 64 (t2461.map etomb_Range))), (5, some (.row 2 64 (t2463.map etomb_Range)))], 0⟩ [0 ≤ x2480, x2480 < (((t2461.map etomb_Range).length : Nat) : Int), (t2461.map etomb_Range)[(Int.toNat (x2480))]? = some (etomb_Range b2488), 0 ≤ x2480, x2480 < (((t2463.map etomb_Range).length : Nat) : Int), (t2463.map etomb_Range)[(Int.toNat (x2480))]? = some (etomb_Range b2491)] (by kernel_rfl) ⟨by exact p2489, by exact el_lt etomb_Range p2489 q2490, by exact el_map etomb_Range q2490, by exact p2492, by exact el_lt etomb_Range p2492 q2493, by exact el_map etomb_Range q2493, trivial⟩ ?_
        refine AWp.cond (!((b2488.f0 == b2491.f0) && ((b2488.f1 == b2491.f1) && true))) rfl (fun c2494 => ?_) (fun c2494 => ?_)
        · replace H := (ifT c2494).symm.trans H
          refine AWp.seq ?_
          refine reg hP hn hm [] [4] [] ⟨[(4, bV false)], [], 0⟩ [] (by kernel_rfl) trivial ?_
          refine AWp.conv (inv := []) (vk := []) (e0 := []) (t := ⟨[(4, bV false)], [], 0⟩) (by kernel_rfl) ?_
          refine AWp.ret ?_
          obtain rfl := Option.some.inj H
          exact Exists.intro _ (And.intro (fun _ _ h => h) (And.intro rfl (And.intro rfl (And.intro (by kernel_rfl) (by kernel_rfl)))))
        · replace H := (ifF c2494).symm.trans H
          refine AWp.skip ?_
          refine reg hP hn hm [] [5, 6, 18, 19] [4, 5] ⟨[(5, .own 4), (6, .own 5), (18, iV .i64 (t2461.length : Int)), (19, iV .i64 (IntKind.i64.wrap (x2480 + (1 : Int))))], [(4, some (.row 2 64 (t2461.map etomb_Range))), (5, some (.row 2 64 (t2463.map etomb_Range)))], 0⟩ [] (by kernel_rfl) trivial ?_
          exact LWp.conv (inv := [(4, 4), (5, 5)]) (vk := []) (e0 := []) (t := ⟨[(5, .own 4), (6, .own 5), (18, iV .i64 (t2461.length : Int)), (19, iV .i64 (IntKind.i64.wrap (x2480 + (1 : Int))))], [(4, some (.row 2 64 (t2461.map etomb_Range))), (5, some (.row 2 64 (t2463.map etomb_Range)))], 0⟩) (by kernel_rfl) (ih _ _ H)
      · replace H := (ifF c2481).symm.trans H
        refine AWp.exit ?_
        obtain rfl := Option.some.inj H
        exact Exists.intro _ (And.intro (fun _ _ h => h.conv (inv := []) (vk := []) (e0 := []) (t := ⟨[], [], 0⟩) (by kernel_rfl)) (And.intro rfl rfl))
    · rcases o2495 with rr | _
      · skip
        rintro e s ⟨rfl, hfl, hres⟩
        obtain rfl := Option.some.inj H
        exact Exists.intro _ (And.intro (fun _ _ h => h) (And.intro (.inl rfl) (And.intro hfl hres)))
      · skip
        rintro e s ⟨rfl, rfl⟩
        refine AWp.seq ?_
        refine reg hP hn hm [] [4] [] ⟨[(4, bV true)], [], 0⟩ [] (by kernel_rfl) trivial ?_
        refine AWp.conv (inv := []) (vk := []) (e0 := []) (t := ⟨[(4, bV true)], [], 0⟩) (by kernel_rfl) ?_
        refine AWp.ret ?_
        obtain rfl := Option.some.inj H
        exact Exists.intro _ (And.intro (fun _ _ h => h) (And.intro (.inl rfl) (And.intro rfl (And.intro (by kernel_rfl) (by kernel_rfl)))))
def f_tomb_Set_Without.l0 (a0 : Ttomb_Set) (a1 : Ttomb_Range) (x2594 : List Ttomb_Range) (x2595 : Int) : Option (List Ttomb_Range) := if (decide (x2595 < (a0.f0.length : Int))) = true then ((((at? a0.f0 x2595) >>= fun b2600 => (((f_tomb_Right.f a1) >>= fun t2607 => if (!t2607) = true then (some true) else (if (decide (b2600.f1 < a1.f0)) = true then (some true) else (some (decide (b2600.f0 > a1.f1))))) : Option (Bool)) >>= fun x2611 => if x2611 = true then ((chk ((x2594.length + [b2600].length) * 16 ≤ 140737488355328)) >>= fun _ => some (x2594 ++ [b2600])) else ((chk ((x2594.length + [(⟨b2600.f0, IntKind.i64.wrap (a1.f0 - (1 : Int))⟩ : Ttomb_Range), (⟨IntKind.i64.wrap (a1.f1 + (1 : Int)), b2600.f1⟩ : Ttomb_Range)].length) * 16 ≤ 140737488355328)) >>= fun _ => some (x2594 ++ [(⟨b2600.f0, IntKind.i64.wrap (a1.f0 - (1 : Int))⟩ : Ttomb_Range), (⟨IntKind.i64.wrap (a1.f1 + (1 : Int)), b2600.f1⟩ : Ttomb_Range)]))) : Option (List Ttomb_Range)) >>= fun x2617 => f_tomb_Set_Without.l0 a0 a1 x2617 (IntKind.i64.wrap (x2595 + (1 : Int)))) else (some x2594)
partial_fixpoint
def f_tomb_Set_Without.f (a0 : Ttomb_Set) (a1 : Ttomb_Range) : Option (Ttomb_Set) := (f_tomb_Set_Without.l0 a0 a1 [] 0) >>= fun x2618 => (f_tomb_Of.f x2618) >>= fun t2623 => some (t2623)
theorem f_tomb_Set_Without.ok (a0 : Ttomb_Set) (a1 : Ttomb_Range) (r : Ttomb_Set) (H : f_tomb_Set_Without.f a0 a1 = some r) : Pv.Fn Try.prog 33 [.agg [.im (.row (a0.f0.map etomb_Range))], .agg (atomb_Range a1)] [] 0 (fun x o => x = .agg [.own 0] ∧ o = [(0, some (.row 2 64 (((r).f0).map etomb_Range)))]) := by
  unfold f_tomb_Set_Without.f at H
  refine Fn.bodyK [0] Try.func33 rfl rfl (fun Γ hP hn => ?_)
  have hm : Try.prog.follows .mixedOrders = true := by kernel_rfl
  replace hn : Γ.n = 54 := hn
  refine AWp.seq ?_
  refine reg hP hn hm [(0, .k 0), (1, .k 1), (2, .k 2)] [2, 3, 4] [0, 1, 2] ⟨[(2, .ptr 0 0 0), (3, .ptr 1 0 0), (4, .ptr 2 0 0)], [(0, some (.box 27 [.im (.row (a0.f0.map etomb_Range))])), (1, some (.box 64 (atomb_Range a1))), (2, some (.box 27 [.none0]))], 0⟩ [] (by kernel_rfl) trivial ?_
  refine AWp.seq ?_
  refine reg hP hn hm [] [2, 3, 4, 5] [0, 1, 2] ⟨[(2, .ptr 0 0 0), (3, .ptr 1 0 0), (4, .ptr 2 0 0), (5, .none0)], [(0, some (.box 27 [.im (.row (a0.f0.map etomb_Range))])), (1, some (.box 64 (atomb_Range a1))), (2, some (.box 27 [.none0]))], 0⟩ [] (by kernel_rfl) trivial ?_
  refine AWp.seq ?_
  refine AWp.seq ?_
  refine reg hP hn hm [(2, .any (iV .i64 (a0.f0.length : Int)))] [3, 4, 5, 9, 10, 11] [1, 2] ⟨[(3, .ptr 1 0 0), (4, .ptr 2 0 0), (5, .none0), (9, .im (.row (a0.f0.map etomb_Range))), (10, iV .i64 (a0.f0.length : Int)), (11, iV .i64 0)], [(1, some (.box 64 (atomb_Range a1))), (2, some (.box 27 [.none0]))], 0⟩ [((a0.f0.map etomb_Range).length : Int) = (a0.f0.length : Int)] (by kernel_rfl) ⟨by rw [len_map], trivial⟩ ?_
  refine AWp.block ?_
  obtain ⟨o2625, e2626, H⟩ := bind_of H
  refine AWp.loop (LWp.conv (inv := [(1, 14), (2, 15)]) (vk := []) (e0 := [16]) (t := ⟨[(3, .ptr 14 0 0), (4, .ptr 15 0 0), (5, .own 16), (9, .im (.row (a0.f0.map etomb_Range))), (10, iV .i64 (a0.f0.length : Int)), (11, iV .i64 0)], [(14, some (.box 64 (atomb_Range a1))), (15, some (.box 27 [.none0])), (16, some (.row 2 64 ([].map etomb_Range)))], 0⟩) (by kernel_rfl) ?_)
  refine LWp.mono (Q := fun e s => (match (generalizing := false) o2625 with | x2618 => e = .exit 0 ∧ s = ⟨[(4, .ptr 29 0 0), (5, .own 30)], [(29, some (.box 27 [.none0])), (30, some (.row 2 64 (x2618.map etomb_Range)))], 0⟩)) (LWp.cv (withBody (fun body hbody => ?_))) ?_
  · refine f_tomb_Set_Without.l0.partial_correctness a0 a1 (motive := fun x2594 x2595 o2625 => LWp Γ body (fun e s => ∃ t, Cv Γ s t ∧ (match (generalizing := false) o2625 with | x2618 => e = .exit 0 ∧ t = ⟨[(4, .ptr 29 0 0), (5, .own 30)], [(29, some (.box 27 [.none0])), (30, some (.row 2 64 (x2618.map etomb_Range)))], 0⟩)) ⟨[(3, .ptr 14 0 0), (4, .ptr 15 0 0), (5, .own 16), (9, .im (.row (a0.f0.map etomb_Range))), (10, iV .i64 (a0.f0.length : Int)), (11, iV .i64 x2595)], [(14, some (.box 64 (atomb_Range a1))), (15, some (.box 27 [.none0])), (16, some (.row 2 64 (x2594.map etomb_Range)))], 0⟩) ?_ _ _ _ e2626
    clear H e2626 o2625; intro self ih x2594 x2595 o2625 H
    subst hbody
    refine LWp.round ?_
    refine AWp.seq ?_
    refine reg hP hn hm [] [3, 4, 5, 9, 10, 11, 12] [14, 15, 16] ⟨[(3, .ptr 14 0 0), (4, .ptr 15 0 0), (5, .own 16), (9, .im (.row (a0.f0.map etomb_Range))), (10, iV .i64 (a0.f0.length : Int)), (11, iV .i64 x2595), (12, bV (decide (x2595 < (a0.f0.length : Int))))], [(14, some (.box 64 (atomb_Range a1))), (15, some (.box 27 [.none0])), (16, some (.row 2 64 (x2594.map etomb_Range)))], 0⟩ [] (by kernel_rfl) trivial ?_
    refine AWp.seq ?_
    refine AWp.cond (decide (x2595 < (a0.f0.length : Int))) rfl (fun c2596 => ?_) (fun c2596 => ?_)
    · replace H := (ifT c2596).symm.trans H
      refine AWp.skip ?_
      refine AWp.seq ?_
      obtain ⟨o2627, e2628, H⟩ := bind_of H
      refine AWp.mono (Q := fun e s => (match (generalizing := false) o2627 with | x2617 => e = .normal ∧ s = ⟨[(3, .ptr 26 0 0), (4, .ptr 27 0 0), (5, .own 28), (9, .im (.row (a0.f0.map etomb_Range))), (10, iV .i64 (a0.f0.length : Int)), (11, iV .i64 x2595)], [(26, some (.box 64 (atomb_Range a1))), (27, some (.box 27 [.none0])), (28, some (.row 2 64 (x2617.map etomb_Range)))], 0⟩)) (AWp.cv ?_) ?_
      · replace H := e2628; clear e2628
        refine AWp.block ?_
        refine AWp.seq ?_
        obtain ⟨b2600, p2601, q2602, H⟩ := at_of H
        refine reg hP hn hm [(0, .c (etomb_Range b2600)), (2, .k 17)] [3, 4, 5, 7, 9, 10, 11] [14, 15, 16, 17] ⟨[(3, .ptr 14 0 0), (4, .ptr 15 0 0), (5, .own 16), (7, .ptr 17 0 0), (9, .im (.row (a0.f0.map etomb_Range))), (10, iV .i64 (a0.f0.length : Int)), (11, iV .i64 x2595)], [(14, some (.box 64 (atomb_Range a1))), (15, some (.box 27 [.none0])), (16, some (.row 2 64 (x2594.map etomb_Range))), (17, some (.box 64 (atomb_Range b2600)))], 0⟩ [0 ≤ x2595, (a0.f0.map etomb_Range)[(Int.toNat (x2595))]? = some (etomb_Range b2600)] (by kernel_rfl) ⟨by exact p2601, by exact el_map etomb_Range q2602, trivial⟩ ?_
        refine AWp.seq ?_
        refine AWp.seq ?_
        obtain ⟨o2629, e2630, H⟩ := bind_of H
        refine AWp.mono (Q := fun e s => (match (generalizing := false) o2629 with | x2611 => e = .normal ∧ s = ⟨[(3, .ptr 18 0 0), (4, .ptr 19 0 0), (5, .own 20), (7, .ptr 21 0 0), (9, .im (.row (a0.f0.map etomb_Range))), (10, iV .i64 (a0.f0.length : Int)), (11, iV .i64 x2595), (31, bV x2611)], [(18, some (.box 64 (atomb_Range a1))), (19, some (.box 27 [.none0])), (20, some (.row 2 64 (x2594.map etomb_Range))), (21, some (.box 64 (atomb_Range b2600)))], 0⟩)) (AWp.cv ?_) ?_
        · replace H := e2630; clear e2630
          obtain ⟨t2607, e2608, H⟩ := bind_of H
          rcases Bool.eq_false_or_eq_true (!t2607) with c2609 | c2609
          · replace H := (ifT c2609).symm.trans H
            refine reg hP hn hm [(1, .call [] [] [] [] 0 (bV t2607) []), (3, .b true)] [3, 4, 5, 7, 9, 10, 11, 31] [14, 15, 16, 17] ⟨[(3, .ptr 14 0 0), (4, .ptr 15 0 0), (5, .own 16), (7, .ptr 17 0 0), (9, .im (.row (a0.f0.map etomb_Range))), (10, iV .i64 (a0.f0.length : Int)), (11, iV .i64 x2595), (31, bV true)], [(14, some (.box 64 (atomb_Range a1))), (15, some (.box 27 [.none0])), (16, some (.row 2 64 (x2594.map etomb_Range))), (17, some (.box 64 (atomb_Range b2600)))], 0⟩ [Enters Try.prog 32, Pv.Fn Try.prog 32 [.agg (atomb_Range a1)] [] 0 (fun r o => r = bV t2607 ∧ o = []), (!t2607) = true] (by kernel_rfl) ⟨by exact Try.call32, by exact f_tomb_Right.ok a1 t2607 e2608, by exact c2609, trivial⟩ ?_
            obtain rfl := Option.some.inj H
            exact Exists.intro _ (And.intro (fun _ _ h => h.conv (inv := [(14, 18), (15, 19), (16, 20), (17, 21)]) (vk := []) (e0 := []) (t := ⟨[(3, .ptr 18 0 0), (4, .ptr 19 0 0), (5, .own 20), (7, .ptr 21 0 0), (9, .im (.row (a0.f0.map etomb_Range))), (10, iV .i64 (a0.f0.length : Int)), (11, iV .i64 x2595), (31, bV true)], [(18, some (.box 64 (atomb_Range a1))), (19, some (.box 27 [.none0])), (20, some (.row 2 64 (x2594.map etomb_Range))), (21, some (.box 64 (atomb_Range b2600)))], 0⟩) (by kernel_rfl)) (And.intro rfl rfl))
          · replace H := (ifF c2609).symm.trans H
            rcases Bool.eq_false_or_eq_true (decide (b2600.f1 < a1.f0)) with c2610 | c2610
            · replace H := (ifT c2610).symm.trans H
              refine reg hP hn hm [(1, .call [] [] [] [] 0 (bV t2607) []), (3, .b false), (10, .b true)] [3, 4, 5, 7, 9, 10, 11, 19, 20, 21, 22, 23, 31] [14, 15, 16, 17] ⟨[(3, .ptr 14 0 0), (4, .ptr 15 0 0), (5, .own 16), (7, .ptr 17 0 0), (9, .im (.row (a0.f0.map etomb_Range))), (10, iV .i64 (a0.f0.length : Int)), (11, iV .i64 x2595), (19, .ptr 17 0 1), (20, iV .i64 b2600.f1), (21, .ptr 14 0 0), (22, iV .i64 a1.f0), (23, bV (decide (b2600.f1 < a1.f0))), (31, bV true)], [(14, some (.box 64 (atomb_Range a1))), (15, some (.box 27 [.none0])), (16, some (.row 2 64 (x2594.map etomb_Range))), (17, some (.box 64 (atomb_Range b2600)))], 0⟩ [Enters Try.prog 32, Pv.Fn Try.prog 32 [.agg (atomb_Range a1)] [] 0 (fun r o => r = bV t2607 ∧ o = []), (!t2607) = false, (decide (b2600.f1 < a1.f0)) = true] (by kernel_rfl) ⟨by exact Try.call32, by exact f_tomb_Right.ok a1 t2607 e2608, by exact c2609, by exact c2610, trivial⟩ ?_
              obtain rfl := Option.some.inj H
              exact Exists.intro _ (And.intro (fun _ _ h => h.conv (inv := [(14, 18), (15, 19), (16, 20), (17, 21)]) (vk := []) (e0 := []) (t := ⟨[(3, .ptr 18 0 0), (4, .ptr 19 0 0), (5, .own 20), (7, .ptr 21 0 0), (9, .im (.row (a0.f0.map etomb_Range))), (10, iV .i64 (a0.f0.length : Int)), (11, iV .i64 x2595), (31, bV true)], [(18, some (.box 64 (atomb_Range a1))), (19, some (.box 27 [.none0])), (20, some (.row 2 64 (x2594.map etomb_Range))), (21, some (.box 64 (atomb_Range b2600)))], 0⟩) (by kernel_rfl)) (And.intro rfl rfl))
            · replace H := (ifF c2610).symm.trans H
              refine reg hP hn hm [(1, .call [] [] [] [] 0 (bV t2607) []), (3, .b false), (10, .b false)] [3, 4, 5, 7, 9, 10, 11, 19, 20, 21, 22, 23, 26, 27, 28, 29, 30, 31] [14, 15, 16, 17] ⟨[(3, .ptr 14 0 0), (4, .ptr 15 0 0), (5, .own 16), (7, .ptr 17 0 0), (9, .im (.row (a0.f0.map etomb_Range))), (10, iV .i64 (a0.f0.length : Int)), (11, iV .i64 x2595), (19, .ptr 17 0 1), (20, iV .i64 b2600.f1), (21, .ptr 14 0 0), (22, iV .i64 a1.f0), (23, bV (decide (b2600.f1 < a1.f0))), (26, .ptr 17 0 0), (27, iV .i64 b2600.f0), (28, .ptr 14 0 1), (29, iV .i64 a1.f1), (30, bV (decide (b2600.f0 > a1.f1))), (31, bV (decide (b2600.f0 > a1.f1)))], [(14, some (.box 64 (atomb_Range a1))), (15, some (.box 27 [.none0])), (16, some (.row 2 64 (x2594.map etomb_Range))), (17, some (.box 64 (atomb_Range b2600)))], 0⟩ [Enters Try.prog 32, Pv.Fn Try.prog 32 [.agg (atomb_Range a1)] [] 0 (fun r o => r = bV t2607 ∧ o = []), (!t2607) = false, (decide (b2600.f1 < a1.f0)) = false] (by kernel_rfl) ⟨by exact Try.call32, by exact f_tomb_Right.ok a1 t2607 e2608, by exact c2609, by exact c2610, trivial⟩ ?_
              obtain rfl := Option.some.inj H
              exact Exists.intro _ (And.intro (fun _ _ h => h.conv (inv := [(14, 18), (15, 19), (16, 20), (17, 21)]) (vk := []) (e0 := []) (t := ⟨[(3, .ptr 18 0 0), (4, .ptr 19 0 0), (5, .own 20), (7, .ptr 21 0 0), (9, .im (.row (a0.f0.map etomb_Range))), (10, iV .i64 (a0.f0.length : Int)), (11, iV .i64 x2595), (31, bV (decide (b2600.f0 > a1.f1)))], [(18, some (.box 64 (atomb_Range a1))), (19, some (.box 27 [.none0])), (20, some (.row 2 64 (x2594.map etomb_Range))), (21, some (.box 64 (atomb_Range b2600)))], 0⟩) (by kernel_rfl)) (And.intro rfl rfl))
        · obtain ⟨x2611, rfl⟩ : ∃ z, z = o2629 := ⟨_, rfl⟩
          rintro e s ⟨rfl, rfl⟩
          refine AWp.cond x2611 rfl (fun c2612 => ?_) (fun c2612 => ?_)
          · replace H := (ifT c2612).symm.trans H
            refine AWp.seq ?_
            obtain ⟨c2614, H⟩ := chk_of H
            refine reg hP hn hm [(2, .app 22 ([b2600].map etomb_Range)), (3, .app 23 ((x2594 ++ [b2600]).map etomb_Range))] [3, 4, 5, 9, 10, 11] [18, 19, 23] ⟨[(3, .ptr 18 0 0), (4, .ptr 19 0 0), (5, .own 23), (9, .im (.row (a0.f0.map etomb_Range))), (10, iV .i64 (a0.f0.length : Int)), (11, iV .i64 x2595)], [(18, some (.box 64 (atomb_Range a1))), (19, some (.box 27 [.none0])), (23, some (.row 2 64 ((x2594 ++ [b2600]).map etomb_Range)))], 0⟩ [[b2600].map etomb_Range = [[iI .i64 b2600.f0, iI .i64 b2600.f1]], (x2594 ++ [b2600]).map etomb_Range = (x2594.map etomb_Range) ++ ([b2600].map etomb_Range), ∀ c ∈ ([b2600].map etomb_Range), c.length = 2, ∀ c ∈ ([b2600].map etomb_Range), leaves (c.map .im) = true, ((x2594.map etomb_Range).length + ([b2600].map etomb_Range).length) * 16 ≤ 140737488355328] (by kernel_rfl) ⟨by exact rfl, by simp, by exact all_len _ _ _ (fun _ => rfl), by exact all_leaf _ _ (fun _ => rfl), by simpa using c2614, trivial⟩ ?_
            refine AWp.exit ?_
            obtain rfl := Option.some.inj H
            exact Exists.intro _ (And.intro (fun _ _ h => h.conv (inv := [(18, 26), (19, 27), (23, 28)]) (vk := []) (e0 := []) (t := ⟨[(3, .ptr 26 0 0), (4, .ptr 27 0 0), (5, .own 28), (9, .im (.row (a0.f0.map etomb_Range))), (10, iV .i64 (a0.f0.length : Int)), (11, iV .i64 x2595)], [(26, some (.box 64 (atomb_Range a1))), (27, some (.box 27 [.none0])), (28, some (.row 2 64 ((x2594 ++ [b2600]).map etomb_Range)))], 0⟩) (by kernel_rfl)) (And.intro rfl rfl))
          · replace H := (ifF c2612).symm.trans H
            refine AWp.skip ?_
            obtain ⟨c2616, H⟩ := chk_of H
            refine reg hP hn hm [(13, .app 24 ([(⟨b2600.f0, IntKind.i64.wrap (a1.f0 - (1 : Int))⟩ : Ttomb_Range), (⟨IntKind.i64.wrap (a1.f1 + (1 : Int)), b2600.f1⟩ : Ttomb_Range)].map etomb_Range)), (14, .app 25 ((x2594 ++ [(⟨b2600.f0, IntKind.i64.wrap (a1.f0 - (1 : Int))⟩ : Ttomb_Range), (⟨IntKind.i64.wrap (a1.f1 + (1 : Int)), b2600.f1⟩ : Ttomb_Range)]).map etomb_Range))] [3, 4, 5, 9, 10, 11] [18, 19, 25] ⟨[(3, .ptr 18 0 0), (4, .ptr 19 0 0), (5, .own 25), (9, .im (.row (a0.f0.map etomb_Range))), (10, iV .i64 (a0.f0.length : Int)), (11, iV .i64 x2595)], [(18, some (.box 64 (atomb_Range a1))), (19, some (.box 27 [.none0])), (25, some (.row 2 64 ((x2594 ++ [(⟨b2600.f0, IntKind.i64.wrap (a1.f0 - (1 : Int))⟩ : Ttomb_Range), (⟨IntKind.i64.wrap (a1.f1 + (1 : Int)), b2600.f1⟩ : Ttomb_Range)]).map etomb_Range)))], 0⟩ [[(⟨b2600.f0, IntKind.i64.wrap (a1.f0 - (1 : Int))⟩ : Ttomb_Range), (⟨IntKind.i64.wrap (a1.f1 + (1 : Int)), b2600.f1⟩ : Ttomb_Range)].map etomb_Range = [[iI .i64 b2600.f0, iI .i64 (IntKind.i64.wrap (a1.f0 - (1 : Int)))], [iI .i64 (IntKind.i64.wrap (a1.f1 + (1 : Int))), iI .i64 b2600.f1]], (x2594 ++ [(⟨b2600.f0, IntKind.i64.wrap (a1.f0 - (1 : Int))⟩ : Ttomb_Range), (⟨IntKind.i64.wrap (a1.f1 + (1 : Int)), b2600.f1⟩ : Ttomb_Range)]).map etomb_Range = (x2594.map etomb_Range) ++ ([(⟨b2600.f0, IntKind.i64.wrap (a1.f0 - (1 : Int))⟩ : Ttomb_Range), (⟨IntKind.i64.wrap (a1.f1 + (1 : Int)), b2600.f1⟩ : Ttomb_Range)].map etomb_Range), ∀ c ∈ ([(⟨b2600.f0, IntKind.i64.wrap (a1.f0 - (1 : Int))⟩ : Ttomb_Range), (⟨IntKind.i64.wrap (a1.f1 + (1 : Int)), b2600.f1⟩ : Ttomb_Range)].map etomb_Range), c.length = 2, ∀ c ∈ ([(⟨b2600.f0, IntKind.i64.wrap (a1.f0 - (1 : Int))⟩ : Ttomb_Range), (⟨IntKind.i64.wrap (a1.f1 + (1 : Int)), b2600.f1⟩ : Ttomb_Range)].map etomb_Range), leaves (c.map .im) = true, ((x2594.map etomb_Range).length + ([(⟨b2600.f0, IntKind.i64.wrap (a1.f0 - (1 : Int))⟩ : Ttomb_Range), (⟨IntKind.i64.wrap (a1.f1 + (1 : Int)), b2600.f1⟩ : Ttomb_Range)].map etomb_Range).length) * 16 ≤ 140737488355328] (by kernel_rfl) ⟨by exact rfl, by simp, by exact all_len _ _ _ (fun _ => rfl), by exact all_leaf _ _ (fun _ => rfl), by simpa using c2616, trivial⟩ ?_
            obtain rfl := Option.some.inj H
            exact Exists.intro _ (And.intro (fun _ _ h => h.conv (inv := [(18, 26), (19, 27), (25, 28)]) (vk := []) (e0 := []) (t := ⟨[(3, .ptr 26 0 0), (4, .ptr 27 0 0), (5, .own 28), (9, .im (.row (a0.f0.map etomb_Range))), (10, iV .i64 (a0.f0.length : Int)), (11, iV .i64 x2595)], [(26, some (.box 64 (atomb_Range a1))), (27, some (.box 27 [.none0])), (28, some (.row 2 64 ((x2594 ++ [(⟨b2600.f0, IntKind.i64.wrap (a1.f0 - (1 : Int))⟩ : Ttomb_Range), (⟨IntKind.i64.wrap (a1.f1 + (1 : Int)), b2600.f1⟩ : Ttomb_Range)]).map etomb_Range)))], 0⟩) (by kernel_rfl)) (And.intro rfl rfl))
      · obtain ⟨x2617, rfl⟩ : ∃ z, z = o2627 := ⟨_, rfl⟩
        rintro e s ⟨rfl, rfl⟩
        refine reg hP hn hm [] [3, 4, 5, 9, 10, 11] [26, 27, 28] ⟨[(3, .ptr 26 0 0), (4, .ptr 27 0 0), (5, .own 28), (9, .im (.row (a0.f0.map etomb_Range))), (10, iV .i64 (a0.f0.length : Int)), (11, iV .i64 (IntKind.i64.wrap (x2595 + (1 : Int))))], [(26, some (.box 64 (atomb_Range a1))), (27, some (.box 27 [.none0])), (28, some (.row 2 64 (x2617.map etomb_Range)))], 0⟩ [] (by kernel_rfl) trivial ?_
        exact LWp.conv (inv := [(26, 14), (27, 15), (28, 16)]) (vk := []) (e0 := []) (t := ⟨[(3, .ptr 14 0 0), (4, .ptr 15 0 0), (5, .own 16), (9, .im (.row (a0.f0.map etomb_Range))), (10, iV .i64 (a0.f0.length : Int)), (11, iV .i64 (IntKind.i64.wrap (x2595 + (1 : Int))))], [(14, some (.box 64 (atomb_Range a1))), (15, some (.box 27 [.none0])), (16, some (.row 2 64 (x2617.map etomb_Range)))], 0⟩) (by kernel_rfl) (ih _ _ _ H)
    · replace H := (ifF c2596).symm.trans H
      refine AWp.exit ?_
      obtain rfl := Option.some.inj H
      exact Exists.intro _ (And.intro (fun _ _ h => h.conv (inv := [(15, 29), (16, 30)]) (vk := []) (e0 := []) (t := ⟨[(4, .ptr 29 0 0), (5, .own 30)], [(29, some (.box 27 [.none0])), (30, some (.row 2 64 (x2594.map etomb_Range)))], 0⟩) (by kernel_rfl)) (And.intro rfl rfl))
  · obtain ⟨x2618, rfl⟩ : ∃ z, z = o2625 := ⟨_, rfl⟩
    rintro e s ⟨rfl, rfl⟩
    refine AWp.seq ?_
    refine AWp.conv (inv := [(29, 29)]) (vk := [30]) (e0 := []) (t := ⟨[(4, .ptr 29 0 0), (5, .im (.row (x2618.map etomb_Range)))], [(29, some (.box 27 [.none0]))], 0⟩) (by kernel_rfl) ?_
    obtain ⟨t2623, e2624, H⟩ := bind_of H
    refine reg hP hn hm [(1, .call [] [(0, 31)] [] [31] 0 (.agg [.own 0]) [(0, some (.row 2 64 (((t2623).f0).map etomb_Range)))])] [4] [29, 31] ⟨[(4, .ptr 29 0 0)], [(29, some (.box 27 [.own 31])), (31, some (.row 2 64 (((t2623).f0).map etomb_Range)))], 0⟩ [Enters Try.prog 14, Pv.Fn Try.prog 14 [.im (.row (x2618.map etomb_Range))] [] 0 (fun r o => r = .agg [.own 0] ∧ o = [(0, some (.row 2 64 (((t2623).f0).map etomb_Range)))])] (by kernel_rfl) ⟨by exact Try.call14, by exact f_tomb_Of.ok x2618 t2623 e2624, trivial⟩ ?_
    refine AWp.conv (inv := [(29, 1), (31, 0)]) (vk := []) (e0 := []) (t := ⟨[(4, .ptr 1 0 0)], [(0, some (.row 2 64 ((((t2623)).f0).map etomb_Range))), (1, some (.box 27 [.own 0]))], 0⟩) (by kernel_rfl) ?_
    refine AWp.ret ?_
    obtain rfl := Option.some.inj H
    exact Exists.intro _ (And.intro (fun _ _ h => h) (And.intro (.inl rfl) (And.intro rfl (And.intro (by kernel_rfl) (by kernel_rfl)))))
def f_pluviallaw14_TombTurns.f (a0 : List Ttomb_Range) (a1 : List Ttomb_Range) (a2 : Ttomb_Range) : Option (Bool) := ((if (decide ((a0.length : Int) > (60 : Int))) = true then (some true) else (some (decide ((a1.length : Int) > (60 : Int))))) : Option (Bool)) >>= fun x2364 => if x2364 = true then ((f_pluviallaw14_awake.f) >>= fun t2368 => some t2368) else ((f_pluviallaw14_To.f a0) >>= fun t2378 => (f_tomb_Of.f t2378) >>= fun t2380 => (f_pluviallaw14_To.f a1) >>= fun t2382 => (f_tomb_Of.f t2382) >>= fun t2384 => (((f_tomb_Set_And.f (t2380) (t2384)) >>= fun t2539 => (f_tomb_Set_And.f (t2384) (t2380)) >>= fun t2541 => (f_pluviallaw14_same.f (t2539) (t2541)) >>= fun t2543 => if (!t2543) = true then (some true) else ((f_tomb_Set_And.f (t2380) (t2380)) >>= fun t2546 => (f_pluviallaw14_same.f (t2546) (t2380)) >>= fun t2548 => if (!t2548) = true then (some true) else ((f_tomb_Set_Ranges.f (t2380)) >>= fun t2551 => (f_tomb_Of.f t2551) >>= fun t2553 => (f_pluviallaw14_same.f (t2553) (t2380)) >>= fun t2555 => if (!t2555) = true then (some true) else ((f_tomb_Set_And.f (t2380) (⟨[]⟩ : Ttomb_Set)) >>= fun t2558 => (f_pluviallaw14_same.f (t2558) (t2380)) >>= fun t2560 => some (!t2560))))) : Option (Bool)) >>= fun x2562 => if x2562 = true then (some false) else ((f_tomb_Right.f a2) >>= fun t2566 => if (!t2566) = true then ((((f_pluviallaw14_awake.f) >>= fun t2635 => if t2635 = true then ((f_tomb_Set_Without.f (t2380) a2) >>= fun t2638 => (f_pluviallaw14_same.f (t2638) (t2380)) >>= fun t2640 => some t2640) else (some false)) : Option (Bool)) >>= fun x2642 => some x2642) else ((((f_pluviallaw14_awake.f) >>= fun t2674 => if t2674 = true then ((f_tomb_Set_Without.f (t2380) a2) >>= fun t2677 => (f_tomb_Of.f [a2]) >>= fun t2679 => (f_tomb_Set_And.f (t2677) (t2679)) >>= fun t2681 => (f_tomb_Of.f [a2]) >>= fun t2683 => (f_tomb_Set_And.f (t2380) (t2683)) >>= fun t2685 => (f_pluviallaw14_same.f (t2681) (t2685)) >>= fun t2687 => if t2687 = true then ((f_tomb_Of.f [a2]) >>= fun t2690 => (f_tomb_Set_And.f (t2380) (t2690)) >>= fun t2692 => (f_tomb_Set_Without.f (t2692) a2) >>= fun t2694 => (f_tomb_Set_Without.f (t2380) a2) >>= fun t2696 => (f_pluviallaw14_same.f (t2694) (t2696)) >>= fun t2698 => if t2698 = true then ((f_tomb_Set_Without.f (t2380) (⟨0, 1099511627776⟩ : Ttomb_Range)) >>= fun t2701 => (f_tomb_Set_Ranges.f (t2701)) >>= fun t2703 => some ((t2703.length : Int) == (0 : Int))) else (some false)) else (some false)) else (some false)) : Option (Bool)) >>= fun x2705 => some x2705)))
theorem f_pluviallaw14_TombTurns.ok (a0 : List Ttomb_Range) (a1 : List Ttomb_Range) (a2 : Ttomb_Range) (r : Bool) (H : f_pluviallaw14_TombTurns.f a0 a1 a2 = some r) : Pv.Fn Try.prog 6 [.im (.row (a0.map etomb_Range)), .im (.row (a1.map etomb_Range)), .agg (atomb_Range a2)] [] 0 (fun x o => x = bV r ∧ o = []) := by
  unfold f_pluviallaw14_TombTurns.f at H
  refine Fn.bodyK [] Try.func6 rfl rfl (fun Γ hP hn => ?_)
  have hm : Try.prog.follows .mixedOrders = true := by kernel_rfl
  replace hn : Γ.n = 106 := hn
  refine AWp.seq ?_
  refine reg hP hn hm [(0, .k 0)] [0, 1, 5] [0] ⟨[(0, .im (.row (a0.map etomb_Range))), (1, .im (.row (a1.map etomb_Range))), (5, .ptr 0 0 0)], [(0, some (.box 63 (atomb_Range a2)))], 0⟩ [] (by kernel_rfl) trivial ?_
  refine AWp.seq ?_
  refine AWp.seq ?_
  obtain ⟨o2706, e2707, H⟩ := bind_of H
  refine AWp.mono (Q := fun e s => (match (generalizing := false) o2706 with | x2364 => e = .normal ∧ s = ⟨[(0, .im (.row (a0.map etomb_Range))), (1, .im (.row (a1.map etomb_Range))), (5, .ptr 1 0 0), (17, bV x2364)], [(1, some (.box 63 (atomb_Range a2)))], 0⟩)) (AWp.cv ?_) ?_
  · replace H := e2707; clear e2707
    rcases Bool.eq_false_or_eq_true (decide ((a0.length : Int) > (60 : Int))) with c2363 | c2363
    · replace H := (ifT c2363).symm.trans H
      refine reg hP hn hm [(1, .any (iV .i64 (a0.length : Int))), (3, .b true)] [0, 1, 5, 17] [0] ⟨[(0, .im (.row (a0.map etomb_Range))), (1, .im (.row (a1.map etomb_Range))), (5, .ptr 0 0 0), (17, bV true)], [(0, some (.box 63 (atomb_Range a2)))], 0⟩ [((a0.map etomb_Range).length : Int) = (a0.length : Int), (decide ((a0.length : Int) > (60 : Int))) = true] (by kernel_rfl) ⟨by rw [len_map], by exact c2363, trivial⟩ ?_
      obtain rfl := Option.some.inj H
      exact Exists.intro _ (And.intro (fun _ _ h => h.conv (inv := [(0, 1)]) (vk := []) (e0 := []) (t := ⟨[(0, .im (.row (a0.map etomb_Range))), (1, .im (.row (a1.map etomb_Range))), (5, .ptr 1 0 0), (17, bV true)], [(1, some (.box 63 (atomb_Range a2)))], 0⟩) (by kernel_rfl)) (And.intro rfl rfl))
    · replace H := (ifF c2363).symm.trans H
      refine reg hP hn hm [(1, .any (iV .i64 (a0.length : Int))), (3, .b false), (5, .any (iV .i64 (a1.length : Int)))] [0, 1, 5, 17] [0] ⟨[(0, .im (.row (a0.map etomb_Range))), (1, .im (.row (a1.map etomb_Range))), (5, .ptr 0 0 0), (17, bV (decide ((a1.length : Int) > (60 : Int))))], [(0, some (.box 63 (atomb_Range a2)))], 0⟩ [((a0.map etomb_Range).length : Int) = (a0.length : Int), (decide ((a0.length : Int) > (60 : Int))) = false, ((a1.map etomb_Range).length : Int) = (a1.length : Int)] (by kernel_rfl) ⟨by rw [len_map], by exact c2363, by rw [len_map], trivial⟩ ?_
      obtain rfl := Option.some.inj H
      exact Exists.intro _ (And.intro (fun _ _ h => h.conv (inv := [(0, 1)]) (vk := []) (e0 := []) (t := ⟨[(0, .im (.row (a0.map etomb_Range))), (1, .im (.row (a1.map etomb_Range))), (5, .ptr 1 0 0), (17, bV (decide ((a1.length : Int) > (60 : Int))))], [(1, some (.box 63 (atomb_Range a2)))], 0⟩) (by kernel_rfl)) (And.intro rfl rfl))
  · obtain ⟨x2364, rfl⟩ : ∃ z, z = o2706 := ⟨_, rfl⟩
    rintro e s ⟨rfl, rfl⟩
    refine AWp.cond x2364 rfl (fun c2365 => ?_) (fun c2365 => ?_)
    · replace H := (ifT c2365).symm.trans H
      refine AWp.seq ?_
      obtain ⟨t2368, e2369, H⟩ := bind_of H
      refine reg hP hn hm [(0, .call [] [] [] [] 0 (bV t2368) [])] [6] [] ⟨[(6, bV t2368)], [], 0⟩ [Enters Try.prog 13, Pv.Fn Try.prog 13 [] [] 0 (fun r o => r = bV t2368 ∧ o = [])] (by kernel_rfl) ⟨by exact Try.call13, by exact f_pluviallaw14_awake.ok  t2368 e2369, trivial⟩ ?_
      refine AWp.conv (inv := []) (vk := []) (e0 := []) (t := ⟨[(6, bV t2368)], [], 0⟩) (by kernel_rfl) ?_
      refine AWp.ret ?_
      obtain rfl := Option.some.inj H
      exact Exists.intro _ (And.intro (fun _ _ h => h) (And.intro (.inl rfl) (And.intro rfl (And.intro (by kernel_rfl) (by kernel_rfl)))))
    · replace H := (ifF c2365).symm.trans H
      refine AWp.skip ?_
      refine AWp.seq ?_
      obtain ⟨t2378, e2379, H⟩ := bind_of H
      obtain ⟨t2380, e2381, H⟩ := bind_of H
      obtain ⟨t2382, e2383, H⟩ := bind_of H
      obtain ⟨t2384, e2385, H⟩ := bind_of H
      refine reg hP hn hm [(1, .call [] [(0, 2)] [] [2] 0 (.own 0) [(0, some (.row 2 64 (t2378.map etomb_Range)))]), (2, .call [] [(0, 3)] [2] [3] 0 (.agg [.own 0]) [(0, some (.row 2 64 (((t2380).f0).map etomb_Range)))]), (4, .call [] [(0, 4)] [] [4] 0 (.own 0) [(0, some (.row 2 64 (t2382.map etomb_Range)))]), (5, .call [] [(0, 5)] [4] [5] 0 (.agg [.own 0]) [(0, some (.row 2 64 (((t2384).f0).map etomb_Range)))]), (6, .k 6), (7, .k 7)] [5, 7, 8] [1, 3, 5, 6, 7] ⟨[(5, .ptr 1 0 0), (7, .ptr 6 0 0), (8, .ptr 7 0 0)], [(1, some (.box 63 (atomb_Range a2))), (3, some (.row 2 64 (((t2380).f0).map etomb_Range))), (5, some (.row 2 64 (((t2384).f0).map etomb_Range))), (6, some (.box 27 [.own 3])), (7, some (.box 27 [.own 5]))], 0⟩ [Enters Try.prog 15, Pv.Fn Try.prog 15 [.im (.row (a0.map etomb_Range))] [] 0 (fun r o => r = .own 0 ∧ o = [(0, some (.row 2 64 (t2378.map etomb_Range)))]), Enters Try.prog 14, Pv.Fn Try.prog 14 [.im (.row (t2378.map etomb_Range))] [] 0 (fun r o => r = .agg [.own 0] ∧ o = [(0, some (.row 2 64 (((t2380).f0).map etomb_Range)))]), Enters Try.prog 15, Pv.Fn Try.prog 15 [.im (.row (a1.map etomb_Range))] [] 0 (fun r o => r = .own 0 ∧ o = [(0, some (.row 2 64 (t2382.map etomb_Range)))]), Enters Try.prog 14, Pv.Fn Try.prog 14 [.im (.row (t2382.map etomb_Range))] [] 0 (fun r o => r = .agg [.own 0] ∧ o = [(0, some (.row 2 64 (((t2384).f0).map etomb_Range)))])] (by kernel_rfl) ⟨by exact Try.call15, by exact f_pluviallaw14_To.ok a0 t2378 e2379, by exact Try.call14, by exact f_tomb_Of.ok t2378 t2380 e2381, by exact Try.call15, by exact f_pluviallaw14_To.ok a1 t2382 e2383, by exact Try.call14, by exact f_tomb_Of.ok t2382 t2384 e2385, trivial⟩ ?_
      refine AWp.seq ?_
      refine reg hP hn hm [(1, .k 8)] [7, 8, 9] [3, 5, 6, 7, 8] ⟨[(7, .ptr 6 0 0), (8, .ptr 7 0 0), (9, .ptr 8 0 0)], [(3, some (.row 2 64 (((t2380).f0).map etomb_Range))), (5, some (.row 2 64 (((t2384).f0).map etomb_Range))), (6, some (.box 27 [.own 3])), (7, some (.box 27 [.own 5])), (8, some (.box 64 (atomb_Range a2)))], 0⟩ [] (by kernel_rfl) trivial ?_
      refine AWp.seq ?_
      refine AWp.seq ?_
      refine AWp.conv (inv := [(6, 6), (7, 7), (8, 8)]) (vk := [3, 5]) (e0 := []) (t := ⟨[(7, .ptr 6 0 0), (8, .ptr 7 0 0), (9, .ptr 8 0 0)], [(6, some (.box 27 [.im (.row (((t2380).f0).map etomb_Range))])), (7, some (.box 27 [.im (.row (((t2384).f0).map etomb_Range))])), (8, some (.box 64 (atomb_Range a2)))], 0⟩) (by kernel_rfl) ?_
      obtain ⟨o2708, e2709, H⟩ := bind_of H
      refine AWp.mono (Q := fun e s => (match (generalizing := false) o2708 with | x2562 => e = .normal ∧ s = ⟨[(7, .ptr 15 0 0), (9, .ptr 16 0 0), (57, bV x2562)], [(15, some (.box 27 [.im (.row (((t2380).f0).map etomb_Range))])), (16, some (.box 64 (atomb_Range a2)))], 0⟩)) (AWp.cv ?_) ?_
      · replace H := e2709; clear e2709
        obtain ⟨t2539, e2540, H⟩ := bind_of H
        obtain ⟨t2541, e2542, H⟩ := bind_of H
        obtain ⟨t2543, e2544, H⟩ := bind_of H
        rcases Bool.eq_false_or_eq_true (!t2543) with c2545 | c2545
        · replace H := (ifT c2545).symm.trans H
          refine reg hP hn hm [(2, .call [] [(0, 9)] [] [9] 0 (.agg [.own 0]) [(0, some (.row 2 64 (((t2539).f0).map etomb_Range)))]), (5, .call [] [(0, 10)] [] [10] 0 (.agg [.own 0]) [(0, some (.row 2 64 (((t2541).f0).map etomb_Range)))]), (6, .call [] [] [9, 10] [] 0 (bV t2543) []), (8, .b true)] [7, 9, 57] [6, 8] ⟨[(7, .ptr 6 0 0), (9, .ptr 8 0 0), (57, bV true)], [(6, some (.box 27 [.im (.row (((t2380).f0).map etomb_Range))])), (8, some (.box 64 (atomb_Range a2)))], 0⟩ [Enters Try.prog 30, Pv.Fn Try.prog 30 [.agg [.im (.row (((t2380).f0).map etomb_Range))], .agg [.im (.row (((t2384).f0).map etomb_Range))]] [] 0 (fun r o => r = .agg [.own 0] ∧ o = [(0, some (.row 2 64 (((t2539).f0).map etomb_Range)))]), Enters Try.prog 30, Pv.Fn Try.prog 30 [.agg [.im (.row (((t2384).f0).map etomb_Range))], .agg [.im (.row (((t2380).f0).map etomb_Range))]] [] 0 (fun r o => r = .agg [.own 0] ∧ o = [(0, some (.row 2 64 (((t2541).f0).map etomb_Range)))]), Enters Try.prog 29, Pv.Fn Try.prog 29 [.agg [.im (.row (((t2539).f0).map etomb_Range))], .agg [.im (.row (((t2541).f0).map etomb_Range))]] [] 0 (fun r o => r = bV t2543 ∧ o = []), (!t2543) = true] (by kernel_rfl) ⟨by exact Try.call30, by exact f_tomb_Set_And.ok (t2380) (t2384) t2539 e2540, by exact Try.call30, by exact f_tomb_Set_And.ok (t2384) (t2380) t2541 e2542, by exact Try.call29, by exact f_pluviallaw14_same.ok (t2539) (t2541) t2543 e2544, by exact c2545, trivial⟩ ?_
          obtain rfl := Option.some.inj H
          exact Exists.intro _ (And.intro (fun _ _ h => h.conv (inv := [(6, 15), (8, 16)]) (vk := []) (e0 := []) (t := ⟨[(7, .ptr 15 0 0), (9, .ptr 16 0 0), (57, bV true)], [(15, some (.box 27 [.im (.row (((t2380).f0).map etomb_Range))])), (16, some (.box 64 (atomb_Range a2)))], 0⟩) (by kernel_rfl)) (And.intro rfl rfl))
        · replace H := (ifF c2545).symm.trans H
          obtain ⟨t2546, e2547, H⟩ := bind_of H
          obtain ⟨t2548, e2549, H⟩ := bind_of H
          rcases Bool.eq_false_or_eq_true (!t2548) with c2550 | c2550
          · replace H := (ifT c2550).symm.trans H
            refine reg hP hn hm [(2, .call [] [(0, 9)] [] [9] 0 (.agg [.own 0]) [(0, some (.row 2 64 (((t2539).f0).map etomb_Range)))]), (5, .call [] [(0, 10)] [] [10] 0 (.agg [.own 0]) [(0, some (.row 2 64 (((t2541).f0).map etomb_Range)))]), (6, .call [] [] [9, 10] [] 0 (bV t2543) []), (8, .b false), (11, .call [] [(0, 11)] [] [11] 0 (.agg [.own 0]) [(0, some (.row 2 64 (((t2546).f0).map etomb_Range)))]), (13, .call [] [] [11] [] 0 (bV t2548) []), (16, .b true)] [7, 9, 57] [6, 8] ⟨[(7, .ptr 6 0 0), (9, .ptr 8 0 0), (57, bV true)], [(6, some (.box 27 [.im (.row (((t2380).f0).map etomb_Range))])), (8, some (.box 64 (atomb_Range a2)))], 0⟩ [Enters Try.prog 30, Pv.Fn Try.prog 30 [.agg [.im (.row (((t2380).f0).map etomb_Range))], .agg [.im (.row (((t2384).f0).map etomb_Range))]] [] 0 (fun r o => r = .agg [.own 0] ∧ o = [(0, some (.row 2 64 (((t2539).f0).map etomb_Range)))]), Enters Try.prog 30, Pv.Fn Try.prog 30 [.agg [.im (.row (((t2384).f0).map etomb_Range))], .agg [.im (.row (((t2380).f0).map etomb_Range))]] [] 0 (fun r o => r = .agg [.own 0] ∧ o = [(0, some (.row 2 64 (((t2541).f0).map etomb_Range)))]), Enters Try.prog 29, Pv.Fn Try.prog 29 [.agg [.im (.row (((t2539).f0).map etomb_Range))], .agg [.im (.row (((t2541).f0).map etomb_Range))]] [] 0 (fun r o => r = bV t2543 ∧ o = []), (!t2543) = false, Enters Try.prog 30, Pv.Fn Try.prog 30 [.agg [.im (.row (((t2380).f0).map etomb_Range))], .agg [.im (.row (((t2380).f0).map etomb_Range))]] [] 0 (fun r o => r = .agg [.own 0] ∧ o = [(0, some (.row 2 64 (((t2546).f0).map etomb_Range)))]), Enters Try.prog 29, Pv.Fn Try.prog 29 [.agg [.im (.row (((t2546).f0).map etomb_Range))], .agg [.im (.row (((t2380).f0).map etomb_Range))]] [] 0 (fun r o => r = bV t2548 ∧ o = []), (!t2548) = true] (by kernel_rfl) ⟨by exact Try.call30, by exact f_tomb_Set_And.ok (t2380) (t2384) t2539 e2540, by exact Try.call30, by exact f_tomb_Set_And.ok (t2384) (t2380) t2541 e2542, by exact Try.call29, by exact f_pluviallaw14_same.ok (t2539) (t2541) t2543 e2544, by exact c2545, by exact Try.call30, by exact f_tomb_Set_And.ok (t2380) (t2380) t2546 e2547, by exact Try.call29, by exact f_pluviallaw14_same.ok (t2546) (t2380) t2548 e2549, by exact c2550, trivial⟩ ?_
            obtain rfl := Option.some.inj H
            exact Exists.intro _ (And.intro (fun _ _ h => h.conv (inv := [(6, 15), (8, 16)]) (vk := []) (e0 := []) (t := ⟨[(7, .ptr 15 0 0), (9, .ptr 16 0 0), (57, bV true)], [(15, some (.box 27 [.im (.row (((t2380).f0).map etomb_Range))])), (16, some (.box 64 (atomb_Range a2)))], 0⟩) (by kernel_rfl)) (And.intro rfl rfl))
          · replace H := (ifF c2550).symm.trans H
            obtain ⟨t2551, e2552, H⟩ := bind_of H
            obtain ⟨t2553, e2554, H⟩ := bind_of H
            obtain ⟨t2555, e2556, H⟩ := bind_of H
            rcases Bool.eq_false_or_eq_true (!t2555) with c2557 | c2557
            · replace H := (ifT c2557).symm.trans H
              refine reg hP hn hm [(2, .call [] [(0, 9)] [] [9] 0 (.agg [.own 0]) [(0, some (.row 2 64 (((t2539).f0).map etomb_Range)))]), (5, .call [] [(0, 10)] [] [10] 0 (.agg [.own 0]) [(0, some (.row 2 64 (((t2541).f0).map etomb_Range)))]), (6, .call [] [] [9, 10] [] 0 (bV t2543) []), (8, .b false), (11, .call [] [(0, 11)] [] [11] 0 (.agg [.own 0]) [(0, some (.row 2 64 (((t2546).f0).map etomb_Range)))]), (13, .call [] [] [11] [] 0 (bV t2548) []), (16, .b false), (18, .call [] [(0, 12)] [] [12] 0 (.own 0) [(0, some (.row 2 64 (t2551.map etomb_Range)))]), (19, .call [] [(0, 13)] [12] [13] 0 (.agg [.own 0]) [(0, some (.row 2 64 (((t2553).f0).map etomb_Range)))]), (21, .call [] [] [13] [] 0 (bV t2555) []), (24, .b true)] [7, 9, 57] [6, 8] ⟨[(7, .ptr 6 0 0), (9, .ptr 8 0 0), (57, bV true)], [(6, some (.box 27 [.im (.row (((t2380).f0).map etomb_Range))])), (8, some (.box 64 (atomb_Range a2)))], 0⟩ [Enters Try.prog 30, Pv.Fn Try.prog 30 [.agg [.im (.row (((t2380).f0).map etomb_Range))], .agg [.im (.row (((t2384).f0).map etomb_Range))]] [] 0 (fun r o => r = .agg [.own 0] ∧ o = [(0, some (.row 2 64 (((t2539).f0).map etomb_Range)))]), Enters Try.prog 30, Pv.Fn Try.prog 30 [.agg [.im (.row (((t2384).f0).map etomb_Range))], .agg [.im (.row (((t2380).f0).map etomb_Range))]] [] 0 (fun r o => r = .agg [.own 0] ∧ o = [(0, some (.row 2 64 (((t2541).f0).map etomb_Range)))]), Enters Try.prog 29, Pv.Fn Try.prog 29 [.agg [.im (.row (((t2539).f0).map etomb_Range))], .agg [.im (.row (((t2541).f0).map etomb_Range))]] [] 0 (fun r o => r = bV t2543 ∧ o = []), (!t2543) = false, Enters Try.prog 30, Pv.Fn Try.prog 30 [.agg [.im (.row (((t2380).f0).map etomb_Range))], .agg [.im (.row (((t2380).f0).map etomb_Range))]] [] 0 (fun r o => r = .agg [.own 0] ∧ o = [(0, some (.row 2 64 (((t2546).f0).map etomb_Range)))]), Enters Try.prog 29, Pv.Fn Try.prog 29 [.agg [.im (.row (((t2546).f0).map etomb_Range))], .agg [.im (.row (((t2380).f0).map etomb_Range))]] [] 0 (fun r o => r = bV t2548 ∧ o = []), (!t2548) = false, Enters Try.prog 31, Pv.Fn Try.prog 31 [.agg [.im (.row (((t2380).f0).map etomb_Range))]] [] 0 (fun r o => r = .own 0 ∧ o = [(0, some (.row 2 64 (t2551.map etomb_Range)))]), Enters Try.prog 14, Pv.Fn Try.prog 14 [.im (.row (t2551.map etomb_Range))] [] 0 (fun r o => r = .agg [.own 0] ∧ o = [(0, some (.row 2 64 (((t2553).f0).map etomb_Range)))]), Enters Try.prog 29, Pv.Fn Try.prog 29 [.agg [.im (.row (((t2553).f0).map etomb_Range))], .agg [.im (.row (((t2380).f0).map etomb_Range))]] [] 0 (fun r o => r = bV t2555 ∧ o = []), (!t2555) = true] (by kernel_rfl) ⟨by exact Try.call30, by exact f_tomb_Set_And.ok (t2380) (t2384) t2539 e2540, by exact Try.call30, by exact f_tomb_Set_And.ok (t2384) (t2380) t2541 e2542, by exact Try.call29, by exact f_pluviallaw14_same.ok (t2539) (t2541) t2543 e2544, by exact c2545, by exact Try.call30, by exact f_tomb_Set_And.ok (t2380) (t2380) t2546 e2547, by exact Try.call29, by exact f_pluviallaw14_same.ok (t2546) (t2380) t2548 e2549, by exact c2550, by exact Try.call31, by exact f_tomb_Set_Ranges.ok (t2380) t2551 e2552, by exact Try.call14, by exact f_tomb_Of.ok t2551 t2553 e2554, by exact Try.call29, by exact f_pluviallaw14_same.ok (t2553) (t2380) t2555 e2556, by exact c2557, trivial⟩ ?_
              obtain rfl := Option.some.inj H
              exact Exists.intro _ (And.intro (fun _ _ h => h.conv (inv := [(6, 15), (8, 16)]) (vk := []) (e0 := []) (t := ⟨[(7, .ptr 15 0 0), (9, .ptr 16 0 0), (57, bV true)], [(15, some (.box 27 [.im (.row (((t2380).f0).map etomb_Range))])), (16, some (.box 64 (atomb_Range a2)))], 0⟩) (by kernel_rfl)) (And.intro rfl rfl))
            · replace H := (ifF c2557).symm.trans H
              obtain ⟨t2558, e2559, H⟩ := bind_of H
              obtain ⟨t2560, e2561, H⟩ := bind_of H
              refine reg hP hn hm [(2, .call [] [(0, 9)] [] [9] 0 (.agg [.own 0]) [(0, some (.row 2 64 (((t2539).f0).map etomb_Range)))]), (5, .call [] [(0, 10)] [] [10] 0 (.agg [.own 0]) [(0, some (.row 2 64 (((t2541).f0).map etomb_Range)))]), (6, .call [] [] [9, 10] [] 0 (bV t2543) []), (8, .b false), (11, .call [] [(0, 11)] [] [11] 0 (.agg [.own 0]) [(0, some (.row 2 64 (((t2546).f0).map etomb_Range)))]), (13, .call [] [] [11] [] 0 (bV t2548) []), (16, .b false), (18, .call [] [(0, 12)] [] [12] 0 (.own 0) [(0, some (.row 2 64 (t2551.map etomb_Range)))]), (19, .call [] [(0, 13)] [12] [13] 0 (.agg [.own 0]) [(0, some (.row 2 64 (((t2553).f0).map etomb_Range)))]), (21, .call [] [] [13] [] 0 (bV t2555) []), (24, .b false), (27, .call [] [(0, 14)] [] [14] 0 (.agg [.own 0]) [(0, some (.row 2 64 (((t2558).f0).map etomb_Range)))]), (29, .call [] [] [14] [] 0 (bV t2560) [])] [7, 9, 57] [6, 8] ⟨[(7, .ptr 6 0 0), (9, .ptr 8 0 0), (57, bV (!t2560))], [(6, some (.box 27 [.im (.row (((t2380).f0).map etomb_Range))])), (8, some (.box 64 (atomb_Range a2)))], 0⟩ [Enters Try.prog 30, Pv.Fn Try.prog 30 [.agg [.im (.row (((t2380).f0).map etomb_Range))], .agg [.im (.row (((t2384).f0).map etomb_Range))]] [] 0 (fun r o => r = .agg [.own 0] ∧ o = [(0, some (.row 2 64 (((t2539).f0).map etomb_Range)))]), Enters Try.prog 30, Pv.Fn Try.prog 30 [.agg [.im (.row (((t2384).f0).map etomb_Range))], .agg [.im (.row (((t2380).f0).map etomb_Range))]] [] 0 (fun r o => r = .agg [.own 0] ∧ o = [(0, some (.row 2 64 (((t2541).f0).map etomb_Range)))]), Enters Try.prog 29, Pv.Fn Try.prog 29 [.agg [.im (.row (((t2539).f0).map etomb_Range))], .agg [.im (.row (((t2541).f0).map etomb_Range))]] [] 0 (fun r o => r = bV t2543 ∧ o = []), (!t2543) = false, Enters Try.prog 30, Pv.Fn Try.prog 30 [.agg [.im (.row (((t2380).f0).map etomb_Range))], .agg [.im (.row (((t2380).f0).map etomb_Range))]] [] 0 (fun r o => r = .agg [.own 0] ∧ o = [(0, some (.row 2 64 (((t2546).f0).map etomb_Range)))]), Enters Try.prog 29, Pv.Fn Try.prog 29 [.agg [.im (.row (((t2546).f0).map etomb_Range))], .agg [.im (.row (((t2380).f0).map etomb_Range))]] [] 0 (fun r o => r = bV t2548 ∧ o = []), (!t2548) = false, Enters Try.prog 31, Pv.Fn Try.prog 31 [.agg [.im (.row (((t2380).f0).map etomb_Range))]] [] 0 (fun r o => r = .own 0 ∧ o = [(0, some (.row 2 64 (t2551.map etomb_Range)))]), Enters Try.prog 14, Pv.Fn Try.prog 14 [.im (.row (t2551.map etomb_Range))] [] 0 (fun r o => r = .agg [.own 0] ∧ o = [(0, some (.row 2 64 (((t2553).f0).map etomb_Range)))]), Enters Try.prog 29, Pv.Fn Try.prog 29 [.agg [.im (.row (((t2553).f0).map etomb_Range))], .agg [.im (.row (((t2380).f0).map etomb_Range))]] [] 0 (fun r o => r = bV t2555 ∧ o = []), (!t2555) = false, Enters Try.prog 30, Pv.Fn Try.prog 30 [.agg [.im (.row (((t2380).f0).map etomb_Range))], .agg [.im (.row (((⟨[]⟩ : Ttomb_Set).f0).map etomb_Range))]] [] 0 (fun r o => r = .agg [.own 0] ∧ o = [(0, some (.row 2 64 (((t2558).f0).map etomb_Range)))]), Enters Try.prog 29, Pv.Fn Try.prog 29 [.agg [.im (.row (((t2558).f0).map etomb_Range))], .agg [.im (.row (((t2380).f0).map etomb_Range))]] [] 0 (fun r o => r = bV t2560 ∧ o = [])] (by kernel_rfl) ⟨by exact Try.call30, by exact f_tomb_Set_And.ok (t2380) (t2384) t2539 e2540, by exact Try.call30, by exact f_tomb_Set_And.ok (t2384) (t2380) t2541 e2542, by exact Try.call29, by exact f_pluviallaw14_same.ok (t2539) (t2541) t2543 e2544, by exact c2545, by exact Try.call30, by exact f_tomb_Set_And.ok (t2380) (t2380) t2546 e2547, by exact Try.call29, by exact f_pluviallaw14_same.ok (t2546) (t2380) t2548 e2549, by exact c2550, by exact Try.call31, by exact f_tomb_Set_Ranges.ok (t2380) t2551 e2552, by exact Try.call14, by exact f_tomb_Of.ok t2551 t2553 e2554, by exact Try.call29, by exact f_pluviallaw14_same.ok (t2553) (t2380) t2555 e2556, by exact c2557, by exact Try.call30, by exact f_tomb_Set_And.ok (t2380) (⟨[]⟩ : Ttomb_Set) t2558 e2559, by exact Try.call29, by exact f_pluviallaw14_same.ok (t2558) (t2380) t2560 e2561, trivial⟩ ?_
              obtain rfl := Option.some.inj H
              exact Exists.intro _ (And.intro (fun _ _ h => h.conv (inv := [(6, 15), (8, 16)]) (vk := []) (e0 := []) (t := ⟨[(7, .ptr 15 0 0), (9, .ptr 16 0 0), (57, bV (!t2560))], [(15, some (.box 27 [.im (.row (((t2380).f0).map etomb_Range))])), (16, some (.box 64 (atomb_Range a2)))], 0⟩) (by kernel_rfl)) (And.intro rfl rfl))
      · obtain ⟨x2562, rfl⟩ : ∃ z, z = o2708 := ⟨_, rfl⟩
        rintro e s ⟨rfl, rfl⟩
        refine AWp.cond x2562 rfl (fun c2563 => ?_) (fun c2563 => ?_)
        · replace H := (ifT c2563).symm.trans H
          refine AWp.seq ?_
          refine reg hP hn hm [] [6] [] ⟨[(6, bV false)], [], 0⟩ [] (by kernel_rfl) trivial ?_
          refine AWp.conv (inv := []) (vk := []) (e0 := []) (t := ⟨[(6, bV false)], [], 0⟩) (by kernel_rfl) ?_
          refine AWp.ret ?_
          obtain rfl := Option.some.inj H
          exact Exists.intro _ (And.intro (fun _ _ h => h) (And.intro (.inl rfl) (And.intro rfl (And.intro (by kernel_rfl) (by kernel_rfl)))))
        · replace H := (ifF c2563).symm.trans H
          refine AWp.skip ?_
          refine AWp.seq ?_
          refine AWp.seq ?_
          obtain ⟨t2566, e2567, H⟩ := bind_of H
          refine reg hP hn hm [(1, .call [] [] [] [] 0 (bV t2566) [])] [7, 9, 60] [15, 16] ⟨[(7, .ptr 15 0 0), (9, .ptr 16 0 0), (60, bV (!t2566))], [(15, some (.box 27 [.im (.row (((t2380).f0).map etomb_Range))])), (16, some (.box 64 (atomb_Range a2)))], 0⟩ [Enters Try.prog 32, Pv.Fn Try.prog 32 [.agg (atomb_Range a2)] [] 0 (fun r o => r = bV t2566 ∧ o = [])] (by kernel_rfl) ⟨by exact Try.call32, by exact f_tomb_Right.ok a2 t2566 e2567, trivial⟩ ?_
          refine AWp.cond (!t2566) rfl (fun c2568 => ?_) (fun c2568 => ?_)
          · replace H := (ifT c2568).symm.trans H
            refine AWp.seq ?_
            obtain ⟨o2710, e2711, H⟩ := bind_of H
            refine AWp.mono (Q := fun e s => (match (generalizing := false) o2710 with | x2642 => e = .normal ∧ s = ⟨[(6, bV x2642)], [], 0⟩)) (AWp.cv ?_) ?_
            · replace H := e2711; clear e2711
              obtain ⟨t2635, e2636, H⟩ := bind_of H
              rcases Bool.eq_false_or_eq_true t2635 with c2637 | c2637
              · replace H := (ifT c2637).symm.trans H
                obtain ⟨t2638, e2639, H⟩ := bind_of H
                obtain ⟨t2640, e2641, H⟩ := bind_of H
                refine reg hP hn hm [(0, .call [] [] [] [] 0 (bV t2635) []), (1, .b true), (4, .call [] [(0, 17)] [] [17] 0 (.agg [.own 0]) [(0, some (.row 2 64 (((t2638).f0).map etomb_Range)))]), (6, .call [] [] [17] [] 0 (bV t2640) [])] [6] [] ⟨[(6, bV t2640)], [], 0⟩ [Enters Try.prog 13, Pv.Fn Try.prog 13 [] [] 0 (fun r o => r = bV t2635 ∧ o = []), t2635 = true, Enters Try.prog 33, Pv.Fn Try.prog 33 [.agg [.im (.row (((t2380).f0).map etomb_Range))], .agg (atomb_Range a2)] [] 0 (fun r o => r = .agg [.own 0] ∧ o = [(0, some (.row 2 64 (((t2638).f0).map etomb_Range)))]), Enters Try.prog 29, Pv.Fn Try.prog 29 [.agg [.im (.row (((t2638).f0).map etomb_Range))], .agg [.im (.row (((t2380).f0).map etomb_Range))]] [] 0 (fun r o => r = bV t2640 ∧ o = [])] (by kernel_rfl) ⟨by exact Try.call13, by exact f_pluviallaw14_awake.ok  t2635 e2636, by exact c2637, by exact Try.call33, by exact f_tomb_Set_Without.ok (t2380) a2 t2638 e2639, by exact Try.call29, by exact f_pluviallaw14_same.ok (t2638) (t2380) t2640 e2641, trivial⟩ ?_
                obtain rfl := Option.some.inj H
                exact Exists.intro _ (And.intro (fun _ _ h => h.conv (inv := []) (vk := []) (e0 := []) (t := ⟨[(6, bV t2640)], [], 0⟩) (by kernel_rfl)) (And.intro rfl rfl))
              · replace H := (ifF c2637).symm.trans H
                refine reg hP hn hm [(0, .call [] [] [] [] 0 (bV t2635) []), (1, .b false)] [6] [] ⟨[(6, bV false)], [], 0⟩ [Enters Try.prog 13, Pv.Fn Try.prog 13 [] [] 0 (fun r o => r = bV t2635 ∧ o = []), t2635 = false] (by kernel_rfl) ⟨by exact Try.call13, by exact f_pluviallaw14_awake.ok  t2635 e2636, by exact c2637, trivial⟩ ?_
                obtain rfl := Option.some.inj H
                exact Exists.intro _ (And.intro (fun _ _ h => h.conv (inv := []) (vk := []) (e0 := []) (t := ⟨[(6, bV false)], [], 0⟩) (by kernel_rfl)) (And.intro rfl rfl))
            · obtain ⟨x2642, rfl⟩ : ∃ z, z = o2710 := ⟨_, rfl⟩
              rintro e s ⟨rfl, rfl⟩
              refine AWp.conv (inv := []) (vk := []) (e0 := []) (t := ⟨[(6, bV x2642)], [], 0⟩) (by kernel_rfl) ?_
              refine AWp.ret ?_
              obtain rfl := Option.some.inj H
              exact Exists.intro _ (And.intro (fun _ _ h => h) (And.intro (.inl rfl) (And.intro rfl (And.intro (by kernel_rfl) (by kernel_rfl)))))
          · replace H := (ifF c2568).symm.trans H
            refine AWp.skip ?_
            refine AWp.seq ?_
            obtain ⟨o2712, e2713, H⟩ := bind_of H
            refine AWp.mono (Q := fun e s => (match (generalizing := false) o2712 with | x2705 => e = .normal ∧ s = ⟨[(6, bV x2705)], [], 0⟩)) (AWp.cv ?_) ?_
            · replace H := e2713; clear e2713
              obtain ⟨t2674, e2675, H⟩ := bind_of H
              rcases Bool.eq_false_or_eq_true t2674 with c2676 | c2676
              · replace H := (ifT c2676).symm.trans H
                obtain ⟨t2677, e2678, H⟩ := bind_of H
                obtain ⟨t2679, e2680, H⟩ := bind_of H
                obtain ⟨t2681, e2682, H⟩ := bind_of H
                obtain ⟨t2683, e2684, H⟩ := bind_of H
                obtain ⟨t2685, e2686, H⟩ := bind_of H
                obtain ⟨t2687, e2688, H⟩ := bind_of H
                rcases Bool.eq_false_or_eq_true t2687 with c2689 | c2689
                · replace H := (ifT c2689).symm.trans H
                  obtain ⟨t2690, e2691, H⟩ := bind_of H
                  obtain ⟨t2692, e2693, H⟩ := bind_of H
                  obtain ⟨t2694, e2695, H⟩ := bind_of H
                  obtain ⟨t2696, e2697, H⟩ := bind_of H
                  obtain ⟨t2698, e2699, H⟩ := bind_of H
                  rcases Bool.eq_false_or_eq_true t2698 with c2700 | c2700
                  · replace H := (ifT c2700).symm.trans H
                    obtain ⟨t2701, e2702, H⟩ := bind_of H
                    obtain ⟨t2703, e2704, H⟩ := bind_of H
                    refine reg hP hn hm [(0, .call [] [] [] [] 0 (bV t2674) []), (1, .b true), (4, .call [] [(0, 18)] [] [18] 0 (.agg [.own 0]) [(0, some (.row 2 64 (((t2677).f0).map etomb_Range)))]), (6, .app 19 ([a2].map etomb_Range)), (7, .call [] [(0, 20)] [19] [20] 0 (.agg [.own 0]) [(0, some (.row 2 64 (((t2679).f0).map etomb_Range)))]), (8, .call [] [(0, 21)] [18, 20] [21] 0 (.agg [.own 0]) [(0, some (.row 2 64 (((t2681).f0).map etomb_Range)))]), (11, .app 22 ([a2].map etomb_Range)), (12, .call [] [(0, 23)] [22] [23] 0 (.agg [.own 0]) [(0, some (.row 2 64 (((t2683).f0).map etomb_Range)))]), (13, .call [] [(0, 24)] [23] [24] 0 (.agg [.own 0]) [(0, some (.row 2 64 (((t2685).f0).map etomb_Range)))]), (14, .call [] [] [21, 24] [] 0 (bV t2687) []), (16, .b true), (19, .app 25 ([a2].map etomb_Range)), (20, .call [] [(0, 26)] [25] [26] 0 (.agg [.own 0]) [(0, some (.row 2 64 (((t2690).f0).map etomb_Range)))]), (21, .call [] [(0, 27)] [26] [27] 0 (.agg [.own 0]) [(0, some (.row 2 64 (((t2692).f0).map etomb_Range)))]), (23, .call [] [(0, 28)] [27] [28] 0 (.agg [.own 0]) [(0, some (.row 2 64 (((t2694).f0).map etomb_Range)))]), (26, .call [] [(0, 29)] [] [29] 0 (.agg [.own 0]) [(0, some (.row 2 64 (((t2696).f0).map etomb_Range)))]), (27, .call [] [] [28, 29] [] 0 (bV t2698) []), (29, .b true), (32, .call [] [(0, 30)] [] [30] 0 (.agg [.own 0]) [(0, some (.row 2 64 (((t2701).f0).map etomb_Range)))]), (33, .call [] [(0, 31)] [30] [31] 0 (.own 0) [(0, some (.row 2 64 (t2703.map etomb_Range)))]), (34, .any (iV .i64 (t2703.length : Int)))] [6] [] ⟨[(6, bV ((t2703.length : Int) == (0 : Int)))], [], 0⟩ [Enters Try.prog 13, Pv.Fn Try.prog 13 [] [] 0 (fun r o => r = bV t2674 ∧ o = []), t2674 = true, Enters Try.prog 33, Pv.Fn Try.prog 33 [.agg [.im (.row (((t2380).f0).map etomb_Range))], .agg (atomb_Range a2)] [] 0 (fun r o => r = .agg [.own 0] ∧ o = [(0, some (.row 2 64 (((t2677).f0).map etomb_Range)))]), [a2].map etomb_Range = [[iI .i64 a2.f0, iI .i64 a2.f1]], Enters Try.prog 14, Pv.Fn Try.prog 14 [.im (.row ([a2].map etomb_Range))] [] 0 (fun r o => r = .agg [.own 0] ∧ o = [(0, some (.row 2 64 (((t2679).f0).map etomb_Range)))]), Enters Try.prog 30, Pv.Fn Try.prog 30 [.agg [.im (.row (((t2677).f0).map etomb_Range))], .agg [.im (.row (((t2679).f0).map etomb_Range))]] [] 0 (fun r o => r = .agg [.own 0] ∧ o = [(0, some (.row 2 64 (((t2681).f0).map etomb_Range)))]), [a2].map etomb_Range = [[iI .i64 a2.f0, iI .i64 a2.f1]], Enters Try.prog 14, Pv.Fn Try.prog 14 [.im (.row ([a2].map etomb_Range))] [] 0 (fun r o => r = .agg [.own 0] ∧ o = [(0, some (.row 2 64 (((t2683).f0).map etomb_Range)))]), Enters Try.prog 30, Pv.Fn Try.prog 30 [.agg [.im (.row (((t2380).f0).map etomb_Range))], .agg [.im (.row (((t2683).f0).map etomb_Range))]] [] 0 (fun r o => r = .agg [.own 0] ∧ o = [(0, some (.row 2 64 (((t2685).f0).map etomb_Range)))]), Enters Try.prog 29, Pv.Fn Try.prog 29 [.agg [.im (.row (((t2681).f0).map etomb_Range))], .agg [.im (.row (((t2685).f0).map etomb_Range))]] [] 0 (fun r o => r = bV t2687 ∧ o = []), t2687 = true, [a2].map etomb_Range = [[iI .i64 a2.f0, iI .i64 a2.f1]], Enters Try.prog 14, Pv.Fn Try.prog 14 [.im (.row ([a2].map etomb_Range))] [] 0 (fun r o => r = .agg [.own 0] ∧ o = [(0, some (.row 2 64 (((t2690).f0).map etomb_Range)))]), Enters Try.prog 30, Pv.Fn Try.prog 30 [.agg [.im (.row (((t2380).f0).map etomb_Range))], .agg [.im (.row (((t2690).f0).map etomb_Range))]] [] 0 (fun r o => r = .agg [.own 0] ∧ o = [(0, some (.row 2 64 (((t2692).f0).map etomb_Range)))]), Enters Try.prog 33, Pv.Fn Try.prog 33 [.agg [.im (.row (((t2692).f0).map etomb_Range))], .agg (atomb_Range a2)] [] 0 (fun r o => r = .agg [.own 0] ∧ o = [(0, some (.row 2 64 (((t2694).f0).map etomb_Range)))]), Enters Try.prog 33, Pv.Fn Try.prog 33 [.agg [.im (.row (((t2380).f0).map etomb_Range))], .agg (atomb_Range a2)] [] 0 (fun r o => r = .agg [.own 0] ∧ o = [(0, some (.row 2 64 (((t2696).f0).map etomb_Range)))]), Enters Try.prog 29, Pv.Fn Try.prog 29 [.agg [.im (.row (((t2694).f0).map etomb_Range))], .agg [.im (.row (((t2696).f0).map etomb_Range))]] [] 0 (fun r o => r = bV t2698 ∧ o = []), t2698 = true, Enters Try.prog 33, Pv.Fn Try.prog 33 [.agg [.im (.row (((t2380).f0).map etomb_Range))], .agg (atomb_Range ⟨0, 1099511627776⟩)] [] 0 (fun r o => r = .agg [.own 0] ∧ o = [(0, some (.row 2 64 (((t2701).f0).map etomb_Range)))]), Enters Try.prog 31, Pv.Fn Try.prog 31 [.agg [.im (.row (((t2701).f0).map etomb_Range))]] [] 0 (fun r o => r = .own 0 ∧ o = [(0, some (.row 2 64 (t2703.map etomb_Range)))]), ((t2703.map etomb_Range).length : Int) = (t2703.length : Int)] (by kernel_rfl) ⟨by exact Try.call13, by exact f_pluviallaw14_awake.ok  t2674 e2675, by exact c2676, by exact Try.call33, by exact f_tomb_Set_Without.ok (t2380) a2 t2677 e2678, by exact rfl, by exact Try.call14, by exact f_tomb_Of.ok [a2] t2679 e2680, by exact Try.call30, by exact f_tomb_Set_And.ok (t2677) (t2679) t2681 e2682, by exact rfl, by exact Try.call14, by exact f_tomb_Of.ok [a2] t2683 e2684, by exact Try.call30, by exact f_tomb_Set_And.ok (t2380) (t2683) t2685 e2686, by exact Try.call29, by exact f_pluviallaw14_same.ok (t2681) (t2685) t2687 e2688, by exact c2689, by exact rfl, by exact Try.call14, by exact f_tomb_Of.ok [a2] t2690 e2691, by exact Try.call30, by exact f_tomb_Set_And.ok (t2380) (t2690) t2692 e2693, by exact Try.call33, by exact f_tomb_Set_Without.ok (t2692) a2 t2694 e2695, by exact Try.call33, by exact f_tomb_Set_Without.ok (t2380) a2 t2696 e2697, by exact Try.call29, by exact f_pluviallaw14_same.ok (t2694) (t2696) t2698 e2699, by exact c2700, by exact Try.call33, by exact f_tomb_Set_Without.ok (t2380) (⟨0, 1099511627776⟩ : Ttomb_Range) t2701 e2702, by exact Try.call31, by exact f_tomb_Set_Ranges.ok (t2701) t2703 e2704, by rw [len_map], trivial⟩ ?_
                    obtain rfl := Option.some.inj H
                    exact Exists.intro _ (And.intro (fun _ _ h => h.conv (inv := []) (vk := []) (e0 := []) (t := ⟨[(6, bV ((t2703.length : Int) == (0 : Int)))], [], 0⟩) (by kernel_rfl)) (And.intro rfl rfl))
                  · replace H := (ifF c2700).symm.trans H
                    refine reg hP hn hm [(0, .call [] [] [] [] 0 (bV t2674) []), (1, .b true), (4, .call [] [(0, 18)] [] [18] 0 (.agg [.own 0]) [(0, some (.row 2 64 (((t2677).f0).map etomb_Range)))]), (6, .app 19 ([a2].map etomb_Range)), (7, .call [] [(0, 20)] [19] [20] 0 (.agg [.own 0]) [(0, some (.row 2 64 (((t2679).f0).map etomb_Range)))]), (8, .call [] [(0, 21)] [18, 20] [21] 0 (.agg [.own 0]) [(0, some (.row 2 64 (((t2681).f0).map etomb_Range)))]), (11, .app 22 ([a2].map etomb_Range)), (12, .call [] [(0, 23)] [22] [23] 0 (.agg [.own 0]) [(0, some (.row 2 64 (((t2683).f0).map etomb_Range)))]), (13, .call [] [(0, 24)] [23] [24] 0 (.agg [.own 0]) [(0, some (.row 2 64 (((t2685).f0).map etomb_Range)))]), (14, .call [] [] [21, 24] [] 0 (bV t2687) []), (16, .b true), (19, .app 25 ([a2].map etomb_Range)), (20, .call [] [(0, 26)] [25] [26] 0 (.agg [.own 0]) [(0, some (.row 2 64 (((t2690).f0).map etomb_Range)))]), (21, .call [] [(0, 27)] [26] [27] 0 (.agg [.own 0]) [(0, some (.row 2 64 (((t2692).f0).map etomb_Range)))]), (23, .call [] [(0, 28)] [27] [28] 0 (.agg [.own 0]) [(0, some (.row 2 64 (((t2694).f0).map etomb_Range)))]), (26, .call [] [(0, 29)] [] [29] 0 (.agg [.own 0]) [(0, some (.row 2 64 (((t2696).f0).map etomb_Range)))]), (27, .call [] [] [28, 29] [] 0 (bV t2698) []), (29, .b false)] [6] [] ⟨[(6, bV false)], [], 0⟩ [Enters Try.prog 13, Pv.Fn Try.prog 13 [] [] 0 (fun r o => r = bV t2674 ∧ o = []), t2674 = true, Enters Try.prog 33, Pv.Fn Try.prog 33 [.agg [.im (.row (((t2380).f0).map etomb_Range))], .agg (atomb_Range a2)] [] 0 (fun r o => r = .agg [.own 0] ∧ o = [(0, some (.row 2 64 (((t2677).f0).map etomb_Range)))]), [a2].map etomb_Range = [[iI .i64 a2.f0, iI .i64 a2.f1]], Enters Try.prog 14, Pv.Fn Try.prog 14 [.im (.row ([a2].map etomb_Range))] [] 0 (fun r o => r = .agg [.own 0] ∧ o = [(0, some (.row 2 64 (((t2679).f0).map etomb_Range)))]), Enters Try.prog 30, Pv.Fn Try.prog 30 [.agg [.im (.row (((t2677).f0).map etomb_Range))], .agg [.im (.row (((t2679).f0).map etomb_Range))]] [] 0 (fun r o => r = .agg [.own 0] ∧ o = [(0, some (.row 2 64 (((t2681).f0).map etomb_Range)))]), [a2].map etomb_Range = [[iI .i64 a2.f0, iI .i64 a2.f1]], Enters Try.prog 14, Pv.Fn Try.prog 14 [.im (.row ([a2].map etomb_Range))] [] 0 (fun r o => r = .agg [.own 0] ∧ o = [(0, some (.row 2 64 (((t2683).f0).map etomb_Range)))]), Enters Try.prog 30, Pv.Fn Try.prog 30 [.agg [.im (.row (((t2380).f0).map etomb_Range))], .agg [.im (.row (((t2683).f0).map etomb_Range))]] [] 0 (fun r o => r = .agg [.own 0] ∧ o = [(0, some (.row 2 64 (((t2685).f0).map etomb_Range)))]), Enters Try.prog 29, Pv.Fn Try.prog 29 [.agg [.im (.row (((t2681).f0).map etomb_Range))], .agg [.im (.row (((t2685).f0).map etomb_Range))]] [] 0 (fun r o => r = bV t2687 ∧ o = []), t2687 = true, [a2].map etomb_Range = [[iI .i64 a2.f0, iI .i64 a2.f1]], Enters Try.prog 14, Pv.Fn Try.prog 14 [.im (.row ([a2].map etomb_Range))] [] 0 (fun r o => r = .agg [.own 0] ∧ o = [(0, some (.row 2 64 (((t2690).f0).map etomb_Range)))]), Enters Try.prog 30, Pv.Fn Try.prog 30 [.agg [.im (.row (((t2380).f0).map etomb_Range))], .agg [.im (.row (((t2690).f0).map etomb_Range))]] [] 0 (fun r o => r = .agg [.own 0] ∧ o = [(0, some (.row 2 64 (((t2692).f0).map etomb_Range)))]), Enters Try.prog 33, Pv.Fn Try.prog 33 [.agg [.im (.row (((t2692).f0).map etomb_Range))], .agg (atomb_Range a2)] [] 0 (fun r o => r = .agg [.own 0] ∧ o = [(0, some (.row 2 64 (((t2694).f0).map etomb_Range)))]), Enters Try.prog 33, Pv.Fn Try.prog 33 [.agg [.im (.row (((t2380).f0).map etomb_Range))], .agg (atomb_Range a2)] [] 0 (fun r o => r = .agg [.own 0] ∧ o = [(0, some (.row 2 64 (((t2696).f0).map etomb_Range)))]), Enters Try.prog 29, Pv.Fn Try.prog 29 [.agg [.im (.row (((t2694).f0).map etomb_Range))], .agg [.im (.row (((t2696).f0).map etomb_Range))]] [] 0 (fun r o => r = bV t2698 ∧ o = []), t2698 = false] (by kernel_rfl) ⟨by exact Try.call13, by exact f_pluviallaw14_awake.ok  t2674 e2675, by exact c2676, by exact Try.call33, by exact f_tomb_Set_Without.ok (t2380) a2 t2677 e2678, by exact rfl, by exact Try.call14, by exact f_tomb_Of.ok [a2] t2679 e2680, by exact Try.call30, by exact f_tomb_Set_And.ok (t2677) (t2679) t2681 e2682, by exact rfl, by exact Try.call14, by exact f_tomb_Of.ok [a2] t2683 e2684, by exact Try.call30, by exact f_tomb_Set_And.ok (t2380) (t2683) t2685 e2686, by exact Try.call29, by exact f_pluviallaw14_same.ok (t2681) (t2685) t2687 e2688, by exact c2689, by exact rfl, by exact Try.call14, by exact f_tomb_Of.ok [a2] t2690 e2691, by exact Try.call30, by exact f_tomb_Set_And.ok (t2380) (t2690) t2692 e2693, by exact Try.call33, by exact f_tomb_Set_Without.ok (t2692) a2 t2694 e2695, by exact Try.call33, by exact f_tomb_Set_Without.ok (t2380) a2 t2696 e2697, by exact Try.call29, by exact f_pluviallaw14_same.ok (t2694) (t2696) t2698 e2699, by exact c2700, trivial⟩ ?_
                    obtain rfl := Option.some.inj H
                    exact Exists.intro _ (And.intro (fun _ _ h => h.conv (inv := []) (vk := []) (e0 := []) (t := ⟨[(6, bV false)], [], 0⟩) (by kernel_rfl)) (And.intro rfl rfl))
                · replace H := (ifF c2689).symm.trans H
                  refine reg hP hn hm [(0, .call [] [] [] [] 0 (bV t2674) []), (1, .b true), (4, .call [] [(0, 18)] [] [18] 0 (.agg [.own 0]) [(0, some (.row 2 64 (((t2677).f0).map etomb_Range)))]), (6, .app 19 ([a2].map etomb_Range)), (7, .call [] [(0, 20)] [19] [20] 0 (.agg [.own 0]) [(0, some (.row 2 64 (((t2679).f0).map etomb_Range)))]), (8, .call [] [(0, 21)] [18, 20] [21] 0 (.agg [.own 0]) [(0, some (.row 2 64 (((t2681).f0).map etomb_Range)))]), (11, .app 22 ([a2].map etomb_Range)), (12, .call [] [(0, 23)] [22] [23] 0 (.agg [.own 0]) [(0, some (.row 2 64 (((t2683).f0).map etomb_Range)))]), (13, .call [] [(0, 24)] [23] [24] 0 (.agg [.own 0]) [(0, some (.row 2 64 (((t2685).f0).map etomb_Range)))]), (14, .call [] [] [21, 24] [] 0 (bV t2687) []), (16, .b false)] [6] [] ⟨[(6, bV false)], [], 0⟩ [Enters Try.prog 13, Pv.Fn Try.prog 13 [] [] 0 (fun r o => r = bV t2674 ∧ o = []), t2674 = true, Enters Try.prog 33, Pv.Fn Try.prog 33 [.agg [.im (.row (((t2380).f0).map etomb_Range))], .agg (atomb_Range a2)] [] 0 (fun r o => r = .agg [.own 0] ∧ o = [(0, some (.row 2 64 (((t2677).f0).map etomb_Range)))]), [a2].map etomb_Range = [[iI .i64 a2.f0, iI .i64 a2.f1]], Enters Try.prog 14, Pv.Fn Try.prog 14 [.im (.row ([a2].map etomb_Range))] [] 0 (fun r o => r = .agg [.own 0] ∧ o = [(0, some (.row 2 64 (((t2679).f0).map etomb_Range)))]), Enters Try.prog 30, Pv.Fn Try.prog 30 [.agg [.im (.row (((t2677).f0).map etomb_Range))], .agg [.im (.row (((t2679).f0).map etomb_Range))]] [] 0 (fun r o => r = .agg [.own 0] ∧ o = [(0, some (.row 2 64 (((t2681).f0).map etomb_Range)))]), [a2].map etomb_Range = [[iI .i64 a2.f0, iI .i64 a2.f1]], Enters Try.prog 14, Pv.Fn Try.prog 14 [.im (.row ([a2].map etomb_Range))] [] 0 (fun r o => r = .agg [.own 0] ∧ o = [(0, some (.row 2 64 (((t2683).f0).map etomb_Range)))]), Enters Try.prog 30, Pv.Fn Try.prog 30 [.agg [.im (.row (((t2380).f0).map etomb_Range))], .agg [.im (.row (((t2683).f0).map etomb_Range))]] [] 0 (fun r o => r = .agg [.own 0] ∧ o = [(0, some (.row 2 64 (((t2685).f0).map etomb_Range)))]), Enters Try.prog 29, Pv.Fn Try.prog 29 [.agg [.im (.row (((t2681).f0).map etomb_Range))], .agg [.im (.row (((t2685).f0).map etomb_Range))]] [] 0 (fun r o => r = bV t2687 ∧ o = []), t2687 = false] (by kernel_rfl) ⟨by exact Try.call13, by exact f_pluviallaw14_awake.ok  t2674 e2675, by exact c2676, by exact Try.call33, by exact f_tomb_Set_Without.ok (t2380) a2 t2677 e2678, by exact rfl, by exact Try.call14, by exact f_tomb_Of.ok [a2] t2679 e2680, by exact Try.call30, by exact f_tomb_Set_And.ok (t2677) (t2679) t2681 e2682, by exact rfl, by exact Try.call14, by exact f_tomb_Of.ok [a2] t2683 e2684, by exact Try.call30, by exact f_tomb_Set_And.ok (t2380) (t2683) t2685 e2686, by exact Try.call29, by exact f_pluviallaw14_same.ok (t2681) (t2685) t2687 e2688, by exact c2689, trivial⟩ ?_
                  obtain rfl := Option.some.inj H
                  exact Exists.intro _ (And.intro (fun _ _ h => h.conv (inv := []) (vk := []) (e0 := []) (t := ⟨[(6, bV false)], [], 0⟩) (by kernel_rfl)) (And.intro rfl rfl))
              · replace H := (ifF c2676).symm.trans H
                refine reg hP hn hm [(0, .call [] [] [] [] 0 (bV t2674) []), (1, .b false)] [6] [] ⟨[(6, bV false)], [], 0⟩ [Enters Try.prog 13, Pv.Fn Try.prog 13 [] [] 0 (fun r o => r = bV t2674 ∧ o = []), t2674 = false] (by kernel_rfl) ⟨by exact Try.call13, by exact f_pluviallaw14_awake.ok  t2674 e2675, by exact c2676, trivial⟩ ?_
                obtain rfl := Option.some.inj H
                exact Exists.intro _ (And.intro (fun _ _ h => h.conv (inv := []) (vk := []) (e0 := []) (t := ⟨[(6, bV false)], [], 0⟩) (by kernel_rfl)) (And.intro rfl rfl))
            · obtain ⟨x2705, rfl⟩ : ∃ z, z = o2712 := ⟨_, rfl⟩
              rintro e s ⟨rfl, rfl⟩
              refine AWp.conv (inv := []) (vk := []) (e0 := []) (t := ⟨[(6, bV x2705)], [], 0⟩) (by kernel_rfl) ?_
              refine AWp.ret ?_
              obtain rfl := Option.some.inj H
              exact Exists.intro _ (And.intro (fun _ _ h => h) (And.intro (.inl rfl) (And.intro rfl (And.intro (by kernel_rfl) (by kernel_rfl)))))
end Go.Proofs.Yteogljahemehkaa.PvGC1
