import Derived.Test.YtfkppdcfgmgllaaProg
import Derived.Test.YtfkppdcfgmgllaaPxPlanDoes07
set_option linter.unusedVariables false
set_option linter.unnecessarySimpa false
set_option linter.unusedSimpArgs false
set_option maxRecDepth 10000
namespace Go.Proofs.Ytfkppdcfgmgllaa.PvGD1
open Go Go.Pv
def f_plan_Within.l0 (a0 : List Tplan_Item) (a1 : Int) (a2 : Int) (x2054 : List Int) (x2055 : Int) : Option (List Int) := if (decide (x2055 < (a0.length : Int))) = true then ((at? a0 x2055) >>= fun b2060 => ((if (decide (b2060.f1.f0 ≥ a2)) = true then ((f_block_Width.f a1) >>= fun t2067 => some (decide (b2060.f1.f1 ≤ (IntKind.i64.wrap (a2 + (IntKind.i64.wrap ((64 : Int) * 2 ^ (min (Int.toNat (IntKind.u64.wrap ((2 : Int) * (IntKind.u64.wrap ((if (if (4 : Int) < a1 then (4 : Int) else a1) > (0 : Int) then (if (4 : Int) < a1 then (4 : Int) else a1) else (0 : Int))))))) 64)))))))) else (some false)) : Option (Bool)) >>= fun x2069 => ((if x2069 = true then ((chk ((x2054.length + [b2060.f0].length) * 8 ≤ 140737488355328)) >>= fun _ => some (x2054 ++ [b2060.f0])) else (some x2054)) : Option (List Int)) >>= fun x2073 => f_plan_Within.l0 a0 a1 a2 x2073 (IntKind.i64.wrap (x2055 + (1 : Int)))) else (some x2054)
partial_fixpoint
def f_plan_Within.f (a0 : List Tplan_Item) (a1 : Int) (a2 : Int) : Option (List Int) := (f_plan_Within.l0 a0 a1 a2 [] 0) >>= fun x2074 => (f_slices_Sort_int.f x2074) >>= fun t3867 => some t3867
theorem f_plan_Within.ok (a0 : List Tplan_Item) (a1 : Int) (a2 : Int) (r : List Int) (H : f_plan_Within.f a0 a1 a2 = some r) : Pv.Fn Try.prog 22 [.im (.row (a0.map eplan_Item)), iV .i64 a1, iV .i64 a2] [] 0 (fun x o => x = .own 0 ∧ o = [(0, some (.row 1 3 (r.map (encInt .i64))))]) := by
  unfold f_plan_Within.f at H
  refine Fn.bodyK [0] Try.func22 rfl rfl (fun Γ hP hn => ?_)
  have hm : Try.prog.follows .mixedOrders = true := by kernel_rfl
  replace hn : Γ.n = 40 := hn
  refine AWp.seq ?_
  refine reg hP hn hm [] [0, 1, 2] [] ⟨[(0, .im (.row (a0.map eplan_Item))), (1, iV .i64 a1), (2, iV .i64 a2)], [], 0⟩ [] (by kernel_rfl) trivial ?_
  refine AWp.seq ?_
  refine reg hP hn hm [] [0, 1, 2, 7] [] ⟨[(0, .im (.row (a0.map eplan_Item))), (1, iV .i64 a1), (2, iV .i64 a2), (7, .none0)], [], 0⟩ [] (by kernel_rfl) trivial ?_
  refine AWp.seq ?_
  refine AWp.seq ?_
  refine reg hP hn hm [(1, .any (iV .i64 (a0.length : Int)))] [1, 2, 7, 10, 11, 12] [] ⟨[(1, iV .i64 a1), (2, iV .i64 a2), (7, .none0), (10, .im (.row (a0.map eplan_Item))), (11, iV .i64 (a0.length : Int)), (12, iV .i64 0)], [], 0⟩ [((a0.map eplan_Item).length : Int) = (a0.length : Int)] (by kernel_rfl) ⟨by rw [len_map], trivial⟩ ?_
  refine AWp.block ?_
  obtain ⟨o3869, e3870, H⟩ := bind_of H
  refine AWp.loop (LWp.conv (inv := []) (vk := []) (e0 := [5]) (t := ⟨[(1, iV .i64 a1), (2, iV .i64 a2), (7, .own 5), (10, .im (.row (a0.map eplan_Item))), (11, iV .i64 (a0.length : Int)), (12, iV .i64 0)], [(5, some (.row 1 3 ([].map (encInt .i64))))], 0⟩) (by kernel_rfl) ?_)
  refine LWp.mono (Q := fun e s => (match (generalizing := false) o3869 with | x2074 => e = .exit 0 ∧ s = ⟨[(7, .own 12)], [(12, some (.row 1 3 (x2074.map (encInt .i64))))], 0⟩)) (LWp.cv (withBody (fun body hbody => ?_))) ?_
  · refine f_plan_Within.l0.partial_correctness a0 a1 a2 (motive := fun x2054 x2055 o3869 => LWp Γ body (fun e s => ∃ t, Cv Γ s t ∧ (match (generalizing := false) o3869 with | x2074 => e = .exit 0 ∧ t = ⟨[(7, .own 12)], [(12, some (.row 1 3 (x2074.map (encInt .i64))))], 0⟩)) ⟨[(1, iV .i64 a1), (2, iV .i64 a2), (7, .own 5), (10, .im (.row (a0.map eplan_Item))), (11, iV .i64 (a0.length : Int)), (12, iV .i64 x2055)], [(5, some (.row 1 3 (x2054.map (encInt .i64))))], 0⟩) ?_ _ _ _ e3870
    clear H e3870 o3869; intro self ih x2054 x2055 o3869 H
    subst hbody
    refine LWp.round ?_
    refine AWp.seq ?_
    refine reg hP hn hm [] [1, 2, 7, 10, 11, 12, 13] [5] ⟨[(1, iV .i64 a1), (2, iV .i64 a2), (7, .own 5), (10, .im (.row (a0.map eplan_Item))), (11, iV .i64 (a0.length : Int)), (12, iV .i64 x2055), (13, bV (decide (x2055 < (a0.length : Int))))], [(5, some (.row 1 3 (x2054.map (encInt .i64))))], 0⟩ [] (by kernel_rfl) trivial ?_
    refine AWp.seq ?_
    refine AWp.cond (decide (x2055 < (a0.length : Int))) rfl (fun c2056 => ?_) (fun c2056 => ?_)
    · replace H := (ifT c2056).symm.trans H
      refine AWp.skip ?_
      refine AWp.seq ?_
      refine AWp.block ?_
      refine AWp.seq ?_
      obtain ⟨b2060, p2061, q2062, H⟩ := at_of H
      refine reg hP hn hm [(0, .c (eplan_Item b2060)), (2, .k 6)] [1, 2, 7, 9, 10, 11, 12] [5, 6] ⟨[(1, iV .i64 a1), (2, iV .i64 a2), (7, .own 5), (9, .ptr 6 0 0), (10, .im (.row (a0.map eplan_Item))), (11, iV .i64 (a0.length : Int)), (12, iV .i64 x2055)], [(5, some (.row 1 3 (x2054.map (encInt .i64)))), (6, some (.box 89 [iV .i64 b2060.f0, iV .i64 b2060.f1.f0, iV .i64 b2060.f1.f1, iV .i64 b2060.f1.f2]))], 0⟩ [0 ≤ x2055, (a0.map eplan_Item)[(Int.toNat (x2055))]? = some (eplan_Item b2060)] (by kernel_rfl) ⟨by exact p2061, by exact el_map eplan_Item q2062, trivial⟩ ?_
      refine AWp.seq ?_
      obtain ⟨o3871, e3872, H⟩ := bind_of H
      refine AWp.mono (Q := fun e s => (match (generalizing := false) o3871 with | x2069 => e = .normal ∧ s = ⟨[(1, iV .i64 a1), (2, iV .i64 a2), (7, .own 7), (9, .ptr 8 0 0), (10, .im (.row (a0.map eplan_Item))), (11, iV .i64 (a0.length : Int)), (12, iV .i64 x2055), (30, bV x2069)], [(7, some (.row 1 3 (x2054.map (encInt .i64)))), (8, some (.box 89 [iV .i64 b2060.f0, iV .i64 b2060.f1.f0, iV .i64 b2060.f1.f1, iV .i64 b2060.f1.f2]))], 0⟩)) (AWp.cv ?_) ?_
      · replace H := e3872; clear e3872
        rcases Bool.eq_false_or_eq_true (decide (b2060.f1.f0 ≥ a2)) with c2066 | c2066
        · replace H := (ifT c2066).symm.trans H
          obtain ⟨t2067, e2068, H⟩ := bind_of H
          refine reg hP hn hm [(5, .b true), (11, .call [] [] [] [] 0 (iV .i64 (IntKind.i64.wrap ((64 : Int) * 2 ^ (min (Int.toNat (IntKind.u64.wrap ((2 : Int) * (IntKind.u64.wrap ((if (if (4 : Int) < a1 then (4 : Int) else a1) > (0 : Int) then (if (4 : Int) < a1 then (4 : Int) else a1) else (0 : Int))))))) 64)))) [])] [1, 2, 7, 9, 10, 11, 12, 22, 23, 24, 25, 26, 27, 28, 29, 30] [5, 6] ⟨[(1, iV .i64 a1), (2, iV .i64 a2), (7, .own 5), (9, .ptr 6 0 0), (10, .im (.row (a0.map eplan_Item))), (11, iV .i64 (a0.length : Int)), (12, iV .i64 x2055), (22, .ptr 6 0 1), (23, .ptr 6 0 2), (24, iV .i64 b2060.f1.f1), (25, iV .i64 a2), (26, iV .i64 a1), (27, iV .i64 (IntKind.i64.wrap ((64 : Int) * 2 ^ (min (Int.toNat (IntKind.u64.wrap ((2 : Int) * (IntKind.u64.wrap ((if (if (4 : Int) < a1 then (4 : Int) else a1) > (0 : Int) then (if (4 : Int) < a1 then (4 : Int) else a1) else (0 : Int))))))) 64)))), (28, iV .i64 (IntKind.i64.wrap (a2 + (IntKind.i64.wrap ((64 : Int) * 2 ^ (min (Int.toNat (IntKind.u64.wrap ((2 : Int) * (IntKind.u64.wrap ((if (if (4 : Int) < a1 then (4 : Int) else a1) > (0 : Int) then (if (4 : Int) < a1 then (4 : Int) else a1) else (0 : Int))))))) 64)))))), (29, bV (decide (b2060.f1.f1 ≤ (IntKind.i64.wrap (a2 + (IntKind.i64.wrap ((64 : Int) * 2 ^ (min (Int.toNat (IntKind.u64.wrap ((2 : Int) * (IntKind.u64.wrap ((if (if (4 : Int) < a1 then (4 : Int) else a1) > (0 : Int) then (if (4 : Int) < a1 then (4 : Int) else a1) else (0 : Int))))))) 64)))))))), (30, bV (decide (b2060.f1.f1 ≤ (IntKind.i64.wrap (a2 + (IntKind.i64.wrap ((64 : Int) * 2 ^ (min (Int.toNat (IntKind.u64.wrap ((2 : Int) * (IntKind.u64.wrap ((if (if (4 : Int) < a1 then (4 : Int) else a1) > (0 : Int) then (if (4 : Int) < a1 then (4 : Int) else a1) else (0 : Int))))))) 64))))))))], [(5, some (.row 1 3 (x2054.map (encInt .i64)))), (6, some (.box 89 [iV .i64 b2060.f0, iV .i64 b2060.f1.f0, iV .i64 b2060.f1.f1, iV .i64 b2060.f1.f2]))], 0⟩ [(decide (b2060.f1.f0 ≥ a2)) = true, Enters Try.prog 37, Pv.Fn Try.prog 37 [iV .i64 a1] [] 0 (fun r o => r = iV .i64 (IntKind.i64.wrap ((64 : Int) * 2 ^ (min (Int.toNat (IntKind.u64.wrap ((2 : Int) * (IntKind.u64.wrap ((if (if (4 : Int) < a1 then (4 : Int) else a1) > (0 : Int) then (if (4 : Int) < a1 then (4 : Int) else a1) else (0 : Int))))))) 64))) ∧ o = [])] (by kernel_rfl) ⟨by exact c2066, by exact Try.call37, by exact f_block_Width.ok a1 t2067 e2068, trivial⟩ ?_
          obtain rfl := Option.some.inj H
          exact Exists.intro _ (And.intro (fun _ _ h => h.conv (inv := [(5, 7), (6, 8)]) (vk := []) (e0 := []) (t := ⟨[(1, iV .i64 a1), (2, iV .i64 a2), (7, .own 7), (9, .ptr 8 0 0), (10, .im (.row (a0.map eplan_Item))), (11, iV .i64 (a0.length : Int)), (12, iV .i64 x2055), (30, bV (decide (b2060.f1.f1 ≤ (IntKind.i64.wrap (a2 + (IntKind.i64.wrap ((64 : Int) * 2 ^ (min (Int.toNat (IntKind.u64.wrap ((2 : Int) * (IntKind.u64.wrap ((if (if (4 : Int) < a1 then (4 : Int) else a1) > (0 : Int) then (if (4 : Int) < a1 then (4 : Int) else a1) else (0 : Int))))))) 64))))))))], [(7, some (.row 1 3 (x2054.map (encInt .i64)))), (8, some (.box 89 [iV .i64 b2060.f0, iV .i64 b2060.f1.f0, iV .i64 b2060.f1.f1, iV .i64 b2060.f1.f2]))], 0⟩) (by kernel_rfl)) (And.intro rfl rfl))
        · replace H := (ifF c2066).symm.trans H
          refine reg hP hn hm [(5, .b false)] [1, 2, 7, 9, 10, 11, 12, 30] [5, 6] ⟨[(1, iV .i64 a1), (2, iV .i64 a2), (7, .own 5), (9, .ptr 6 0 0), (10, .im (.row (a0.map eplan_Item))), (11, iV .i64 (a0.length : Int)), (12, iV .i64 x2055), (30, bV false)], [(5, some (.row 1 3 (x2054.map (encInt .i64)))), (6, some (.box 89 [iV .i64 b2060.f0, iV .i64 b2060.f1.f0, iV .i64 b2060.f1.f1, iV .i64 b2060.f1.f2]))], 0⟩ [(decide (b2060.f1.f0 ≥ a2)) = false] (by kernel_rfl) ⟨by exact c2066, trivial⟩ ?_
          obtain rfl := Option.some.inj H
          exact Exists.intro _ (And.intro (fun _ _ h => h.conv (inv := [(5, 7), (6, 8)]) (vk := []) (e0 := []) (t := ⟨[(1, iV .i64 a1), (2, iV .i64 a2), (7, .own 7), (9, .ptr 8 0 0), (10, .im (.row (a0.map eplan_Item))), (11, iV .i64 (a0.length : Int)), (12, iV .i64 x2055), (30, bV false)], [(7, some (.row 1 3 (x2054.map (encInt .i64)))), (8, some (.box 89 [iV .i64 b2060.f0, iV .i64 b2060.f1.f0, iV .i64 b2060.f1.f1, iV .i64 b2060.f1.f2]))], 0⟩) (by kernel_rfl)) (And.intro rfl rfl))
      · obtain ⟨x2069, rfl⟩ : ∃ z, z = o3871 := ⟨_, rfl⟩
        rintro e s ⟨rfl, rfl⟩
        obtain ⟨o3873, e3874, H⟩ := bind_of H
        refine AWp.mono (Q := fun e s => (match (generalizing := false) o3873 with | x2073 => e = .normal ∧ s = ⟨[(1, iV .i64 a1), (2, iV .i64 a2), (7, .own 11), (10, .im (.row (a0.map eplan_Item))), (11, iV .i64 (a0.length : Int)), (12, iV .i64 x2055)], [(11, some (.row 1 3 (x2073.map (encInt .i64))))], 0⟩)) (AWp.cv ?_) ?_
        · replace H := e3874; clear e3874
          refine AWp.cond x2069 rfl (fun c2070 => ?_) (fun c2070 => ?_)
          · replace H := (ifT c2070).symm.trans H
            obtain ⟨c2072, H⟩ := chk_of H
            refine reg hP hn hm [(3, .app 9 ([b2060.f0].map (encInt .i64))), (4, .app 10 ((x2054 ++ [b2060.f0]).map (encInt .i64)))] [1, 2, 7, 10, 11, 12] [10] ⟨[(1, iV .i64 a1), (2, iV .i64 a2), (7, .own 10), (10, .im (.row (a0.map eplan_Item))), (11, iV .i64 (a0.length : Int)), (12, iV .i64 x2055)], [(10, some (.row 1 3 ((x2054 ++ [b2060.f0]).map (encInt .i64))))], 0⟩ [[b2060.f0].map (encInt .i64) = [[iI .i64 b2060.f0]], (x2054 ++ [b2060.f0]).map (encInt .i64) = (x2054.map (encInt .i64)) ++ ([b2060.f0].map (encInt .i64)), ∀ c ∈ ([b2060.f0].map (encInt .i64)), c.length = 1, ∀ c ∈ ([b2060.f0].map (encInt .i64)), leaves (c.map .im) = true, ((x2054.map (encInt .i64)).length + ([b2060.f0].map (encInt .i64)).length) * 8 ≤ 140737488355328] (by kernel_rfl) ⟨by exact rfl, by simp, by exact all_len _ _ _ (fun _ => rfl), by exact all_leaf _ _ (fun _ => rfl), by simpa using c2072, trivial⟩ ?_
            obtain rfl := Option.some.inj H
            exact Exists.intro _ (And.intro (fun _ _ h => h.conv (inv := [(10, 11)]) (vk := []) (e0 := []) (t := ⟨[(1, iV .i64 a1), (2, iV .i64 a2), (7, .own 11), (10, .im (.row (a0.map eplan_Item))), (11, iV .i64 (a0.length : Int)), (12, iV .i64 x2055)], [(11, some (.row 1 3 ((x2054 ++ [b2060.f0]).map (encInt .i64))))], 0⟩) (by kernel_rfl)) (And.intro rfl rfl))
          · replace H := (ifF c2070).symm.trans H
            refine AWp.skip ?_
            obtain rfl := Option.some.inj H
            exact Exists.intro _ (And.intro (fun _ _ h => h.conv (inv := [(7, 11)]) (vk := []) (e0 := []) (t := ⟨[(1, iV .i64 a1), (2, iV .i64 a2), (7, .own 11), (10, .im (.row (a0.map eplan_Item))), (11, iV .i64 (a0.length : Int)), (12, iV .i64 x2055)], [(11, some (.row 1 3 (x2054.map (encInt .i64))))], 0⟩) (by kernel_rfl)) (And.intro rfl rfl))
        · obtain ⟨x2073, rfl⟩ : ∃ z, z = o3873 := ⟨_, rfl⟩
          rintro e s ⟨rfl, rfl⟩
          refine reg hP hn hm [] [1, 2, 7, 10, 11, 12] [11] ⟨[(1, iV .i64 a1), (2, iV .i64 a2), (7, .own 11), (10, .im (.row (a0.map eplan_Item))), (11, iV .i64 (a0.length : Int)), (12, iV .i64 (IntKind.i64.wrap (x2055 + (1 : Int))))], [(11, some (.row 1 3 (x2073.map (encInt .i64))))], 0⟩ [] (by kernel_rfl) trivial ?_
          exact LWp.conv (inv := [(11, 5)]) (vk := []) (e0 := []) (t := ⟨[(1, iV .i64 a1), (2, iV .i64 a2), (7, .own 5), (10, .im (.row (a0.map eplan_Item))), (11, iV .i64 (a0.length : Int)), (12, iV .i64 (IntKind.i64.wrap (x2055 + (1 : Int))))], [(5, some (.row 1 3 (x2073.map (encInt .i64))))], 0⟩) (by kernel_rfl) (ih _ _ _ H)
    · replace H := (ifF c2056).symm.trans H
      refine AWp.exit ?_
      obtain rfl := Option.some.inj H
      exact Exists.intro _ (And.intro (fun _ _ h => h.conv (inv := [(5, 12)]) (vk := []) (e0 := []) (t := ⟨[(7, .own 12)], [(12, some (.row 1 3 (x2054.map (encInt .i64))))], 0⟩) (by kernel_rfl)) (And.intro rfl rfl))
  · obtain ⟨x2074, rfl⟩ : ∃ z, z = o3869 := ⟨_, rfl⟩
    rintro e s ⟨rfl, rfl⟩
    refine AWp.seq ?_
    obtain ⟨t3867, e3868, H⟩ := bind_of H
    refine reg hP hn hm [(1, .call [(12, 0)] [(0, 12)] [] [] 1 (.tup []) [(0, some (.row 1 3 (t3867.map (encInt .i64))))])] [7] [12] ⟨[(7, .own 12)], [(12, some (.row 1 3 (t3867.map (encInt .i64))))], 0⟩ [Enters Try.prog 34, Pv.Fn Try.prog 34 [.own 0] [(0, some (.row 1 3 (x2074.map (encInt .i64))))] 1 (fun r o => r = .tup [] ∧ o = [(0, some (.row 1 3 (t3867.map (encInt .i64))))])] (by kernel_rfl) ⟨by exact Try.call34, by exact f_slices_Sort_int.ok x2074 t3867 e3868, trivial⟩ ?_
    refine AWp.seq ?_
    refine reg hP hn hm [] [6] [12] ⟨[(6, .own 12)], [(12, some (.row 1 3 (t3867.map (encInt .i64))))], 0⟩ [] (by kernel_rfl) trivial ?_
    refine AWp.conv (inv := [(12, 0)]) (vk := []) (e0 := []) (t := ⟨[(6, .own 0)], [(0, some (.row 1 3 (t3867.map (encInt .i64))))], 0⟩) (by kernel_rfl) ?_
    refine AWp.ret ?_
    obtain rfl := Option.some.inj H
    exact Exists.intro _ (And.intro (fun _ _ h => h) (And.intro (.inl rfl) (And.intro rfl (And.intro (by kernel_rfl) (by kernel_rfl)))))
def f_plan_Next.l1 (t2015 : List Tplan_Item) (x4027 : Int) (x4048 : Int) : Option ((Tplan_Step × Bool) ⊕ Unit) := if (decide (x4048 < (t2015.length : Int))) = true then ((at? t2015 x4048) >>= fun b4053 => (f_block_Low.f x4027 (if (0 : Int) > b4053.f1.f0 then (0 : Int) else b4053.f1.f0)) >>= fun t4058 => (f_plan_Within.f t2015 x4027 (IntKind.i64.wrap ((if (0 : Int) > b4053.f1.f0 then (0 : Int) else b4053.f1.f0) - (Int.tmod (if (0 : Int) > b4053.f1.f0 then (0 : Int) else b4053.f1.f0) (IntKind.i64.wrap ((64 : Int) * 2 ^ (min (Int.toNat (IntKind.u64.wrap ((2 : Int) * (IntKind.u64.wrap ((if (if (4 : Int) < x4027 then (4 : Int) else x4027) > (0 : Int) then (if (4 : Int) < x4027 then (4 : Int) else x4027) else (0 : Int))))))) 64))))))) >>= fun t4062 => ((if (decide (b4053.f1.f2 ≤ x4027)) = true then (some (decide ((t4062.length : Int) > (1 : Int)))) else (some false)) : Option (Bool)) >>= fun x4066 => if x4066 = true then (some (.inl ((⟨t4062, x4027⟩ : Tplan_Step), true))) else (f_plan_Next.l1 t2015 x4027 (IntKind.i64.wrap (x4048 + (1 : Int))))) else (some (.inr ()))
partial_fixpoint
def f_plan_Next.l0 (t2015 : List Tplan_Item) (x4027 : Int) : Option ((Tplan_Step × Bool) ⊕ Unit) := if (decide (x4027 ≤ (4 : Int))) = true then ((f_plan_Next.l1 t2015 x4027 0) >>= fun oo => match oo with | .inl rr => (some (.inl rr)) | .inr _ => (f_plan_Next.l0 t2015 (IntKind.i64.wrap (x4027 + (1 : Int))))) else (some (.inr ()))
partial_fixpoint
def f_plan_Next.f (a0 : List Tplan_Item) : Option (Tplan_Step × Bool) := (f_plan_sorted.f a0) >>= fun t2015 => (f_plan_Next.l0 t2015 0) >>= fun oo => match oo with | .inl rr => (some rr) | .inr _ => (some ((⟨[], 0⟩ : Tplan_Step), false))
theorem f_plan_Next.ok (a0 : List Tplan_Item) (r : Tplan_Step × Bool) (H : f_plan_Next.f a0 = some r) : Pv.Fn Try.prog 16 [.im (.row (a0.map eplan_Item))] [] 0 (fun x o => x = .tup [.agg [.own 0, iV .i64 ((r.1).f1)], bV r.2] ∧ o = [(0, some (.row 1 3 (((r.1).f0).map (encInt .i64))))]) := by
  unfold f_plan_Next.f at H
  refine Fn.bodyK [0] Try.func16 rfl rfl (fun Γ hP hn => ?_)
  have hm : Try.prog.follows .mixedOrders = true := by kernel_rfl
  replace hn : Γ.n = 46 := hn
  refine AWp.seq ?_
  refine reg hP hn hm [(0, .k 0)] [0, 2] [0] ⟨[(0, .im (.row (a0.map eplan_Item))), (2, .ptr 0 0 0)], [(0, some (.box 33 [.none0, iV .i64 0]))], 0⟩ [] (by kernel_rfl) trivial ?_
  refine AWp.seq ?_
  obtain ⟨t2015, e2016, H⟩ := bind_of H
  refine reg hP hn hm [(1, .call [] [(0, 1)] [] [1] 0 (.own 0) [(0, some (.row 4 89 (t2015.map eplan_Item)))])] [0, 2] [0, 1] ⟨[(0, .own 1), (2, .ptr 0 0 0)], [(0, some (.box 33 [.none0, iV .i64 0])), (1, some (.row 4 89 (t2015.map eplan_Item)))], 0⟩ [Enters Try.prog 35, Pv.Fn Try.prog 35 [.im (.row (a0.map eplan_Item))] [] 0 (fun r o => r = .own 0 ∧ o = [(0, some (.row 4 89 (t2015.map eplan_Item)))])] (by kernel_rfl) ⟨by exact Try.call35, by exact f_plan_sorted.ok a0 t2015 e2016, trivial⟩ ?_
  refine AWp.seq ?_
  refine AWp.seq ?_
  refine reg hP hn hm [] [0, 2, 4] [0, 1] ⟨[(0, .own 1), (2, .ptr 0 0 0), (4, iV .i64 0)], [(0, some (.box 33 [.none0, iV .i64 0])), (1, some (.row 4 89 (t2015.map eplan_Item)))], 0⟩ [] (by kernel_rfl) trivial ?_
  refine AWp.block ?_
  obtain ⟨o4068, e4069, H⟩ := bind_of H
  refine AWp.loop (LWp.conv (inv := [(0, 42)]) (vk := [1]) (e0 := []) (t := ⟨[(0, .im (.row (t2015.map eplan_Item))), (2, .ptr 42 0 0), (4, iV .i64 0)], [(42, some (.box 33 [.none0, iV .i64 0]))], 0⟩) (by kernel_rfl) ?_)
  refine LWp.mono (Q := fun e s => (match (generalizing := false) o4068 with | .inl rr => e = .ret ∧ s.floor = 0 ∧ resOf Try.prog Try.f16 s = some (.tup [.agg [.own 0, iV .i64 ((rr.1).f1)], bV rr.2]) ∧ ([(0, s.obj 0)] : List (Nat × Option MObj)) = [(0, some (.row 1 3 (((rr.1).f0).map (encInt .i64))))] | .inr _ => e = .exit 0 ∧ s = ⟨[(2, .ptr 53 0 0)], [(53, some (.box 33 [.none0, iV .i64 0]))], 0⟩)) (LWp.cv (withBody (fun body hbody => ?_))) ?_
  · refine f_plan_Next.l0.partial_correctness t2015 (motive := fun x4027 o4068 => LWp Γ body (fun e s => ∃ t, Cv Γ s t ∧ (match (generalizing := false) o4068 with | .inl rr => e = .ret ∧ t.floor = 0 ∧ resOf Try.prog Try.f16 t = some (.tup [.agg [.own 0, iV .i64 ((rr.1).f1)], bV rr.2]) ∧ ([(0, t.obj 0)] : List (Nat × Option MObj)) = [(0, some (.row 1 3 (((rr.1).f0).map (encInt .i64))))] | .inr _ => e = .exit 0 ∧ t = ⟨[(2, .ptr 53 0 0)], [(53, some (.box 33 [.none0, iV .i64 0]))], 0⟩)) ⟨[(0, .im (.row (t2015.map eplan_Item))), (2, .ptr 42 0 0), (4, iV .i64 x4027)], [(42, some (.box 33 [.none0, iV .i64 0]))], 0⟩) ?_ _ _ e4069
    clear H e4069 o4068; intro self ih x4027 o4068 H
    subst hbody
    refine LWp.round ?_
    refine AWp.seq ?_
    refine AWp.seq ?_
    refine reg hP hn hm [] [0, 2, 4, 12] [42] ⟨[(0, .im (.row (t2015.map eplan_Item))), (2, .ptr 42 0 0), (4, iV .i64 x4027), (12, bV (decide (x4027 ≤ (4 : Int))))], [(42, some (.box 33 [.none0, iV .i64 0]))], 0⟩ [] (by kernel_rfl) trivial ?_
    refine AWp.cond (decide (x4027 ≤ (4 : Int))) rfl (fun c4028 => ?_) (fun c4028 => ?_)
    · replace H := (ifT c4028).symm.trans H
      refine AWp.skip ?_
      refine AWp.seq ?_
      refine AWp.block ?_
      refine AWp.seq ?_
      refine reg hP hn hm [(1, .any (iV .i64 (t2015.length : Int)))] [0, 2, 4, 15, 16, 17] [42] ⟨[(0, .im (.row (t2015.map eplan_Item))), (2, .ptr 42 0 0), (4, iV .i64 x4027), (15, .im (.row (t2015.map eplan_Item))), (16, iV .i64 (t2015.length : Int)), (17, iV .i64 0)], [(42, some (.box 33 [.none0, iV .i64 0]))], 0⟩ [((t2015.map eplan_Item).length : Int) = (t2015.length : Int)] (by kernel_rfl) ⟨by rw [len_map], trivial⟩ ?_
      refine AWp.block ?_
      obtain ⟨o4070, e4071, H⟩ := bind_of H
      refine AWp.loop (LWp.conv (inv := [(42, 47)]) (vk := []) (e0 := []) (t := ⟨[(0, .im (.row (t2015.map eplan_Item))), (2, .ptr 47 0 0), (4, iV .i64 x4027), (15, .im (.row (t2015.map eplan_Item))), (16, iV .i64 (t2015.length : Int)), (17, iV .i64 0)], [(47, some (.box 33 [.none0, iV .i64 0]))], 0⟩) (by kernel_rfl) ?_)
      refine LWp.mono (Q := fun e s => (match (generalizing := false) o4070 with | .inl rr => e = .ret ∧ s.floor = 0 ∧ resOf Try.prog Try.f16 s = some (.tup [.agg [.own 0, iV .i64 ((rr.1).f1)], bV rr.2]) ∧ ([(0, s.obj 0)] : List (Nat × Option MObj)) = [(0, some (.row 1 3 (((rr.1).f0).map (encInt .i64))))] | .inr _ => e = .exit 2 ∧ s = ⟨[(0, .im (.row (t2015.map eplan_Item))), (2, .ptr 52 0 0), (4, iV .i64 x4027)], [(52, some (.box 33 [.none0, iV .i64 0]))], 0⟩)) (LWp.cv (withBody (fun body hbody => ?_))) ?_
      · refine f_plan_Next.l1.partial_correctness t2015 x4027 (motive := fun x4048 o4070 => LWp Γ body (fun e s => ∃ t, Cv Γ s t ∧ (match (generalizing := false) o4070 with | .inl rr => e = .ret ∧ t.floor = 0 ∧ resOf Try.prog Try.f16 t = some (.tup [.agg [.own 0, iV .i64 ((rr.1).f1)], bV rr.2]) ∧ ([(0, t.obj 0)] : List (Nat × Option MObj)) = [(0, some (.row 1 3 (((rr.1).f0).map (encInt .i64))))] | .inr _ => e = .exit 2 ∧ t = ⟨[(0, .im (.row (t2015.map eplan_Item))), (2, .ptr 52 0 0), (4, iV .i64 x4027)], [(52, some (.box 33 [.none0, iV .i64 0]))], 0⟩)) ⟨[(0, .im (.row (t2015.map eplan_Item))), (2, .ptr 47 0 0), (4, iV .i64 x4027), (15, .im (.row (t2015.map eplan_Item))), (16, iV .i64 (t2015.length : Int)), (17, iV .i64 x4048)], [(47, some (.box 33 [.none0, iV .i64 0]))], 0⟩) ?_ _ _ e4071
        clear H e4071 o4070; intro self ih x4048 o4070 H
        subst hbody
        refine LWp.round ?_
        refine AWp.seq ?_
        refine reg hP hn hm [] [0, 2, 4, 15, 16, 17, 18] [47] ⟨[(0, .im (.row (t2015.map eplan_Item))), (2, .ptr 47 0 0), (4, iV .i64 x4027), (15, .im (.row (t2015.map eplan_Item))), (16, iV .i64 (t2015.length : Int)), (17, iV .i64 x4048), (18, bV (decide (x4048 < (t2015.length : Int))))], [(47, some (.box 33 [.none0, iV .i64 0]))], 0⟩ [] (by kernel_rfl) trivial ?_
        refine AWp.seq ?_
        refine AWp.cond (decide (x4048 < (t2015.length : Int))) rfl (fun c4049 => ?_) (fun c4049 => ?_)
        · replace H := (ifT c4049).symm.trans H
          refine AWp.skip ?_
          refine AWp.seq ?_
          refine AWp.block ?_
          refine AWp.seq ?_
          obtain ⟨b4053, p4054, q4055, H⟩ := at_of H
          refine reg hP hn hm [(0, .c (eplan_Item b4053)), (2, .k 48)] [0, 2, 4, 6, 15, 16, 17] [47, 48] ⟨[(0, .im (.row (t2015.map eplan_Item))), (2, .ptr 47 0 0), (4, iV .i64 x4027), (6, .ptr 48 0 0), (15, .im (.row (t2015.map eplan_Item))), (16, iV .i64 (t2015.length : Int)), (17, iV .i64 x4048)], [(47, some (.box 33 [.none0, iV .i64 0])), (48, some (.box 89 [iV .i64 b4053.f0, iV .i64 b4053.f1.f0, iV .i64 b4053.f1.f1, iV .i64 b4053.f1.f2]))], 0⟩ [0 ≤ x4048, (t2015.map eplan_Item)[(Int.toNat (x4048))]? = some (eplan_Item b4053)] (by kernel_rfl) ⟨by exact p4054, by exact el_map eplan_Item q4055, trivial⟩ ?_
          refine AWp.seq ?_
          obtain ⟨t4058, e4059, H⟩ := bind_of H
          refine reg hP hn hm [(4, .more xMax), (5, .call [] [] [] [] 0 (iV .i64 (IntKind.i64.wrap ((if (0 : Int) > b4053.f1.f0 then (0 : Int) else b4053.f1.f0) - (Int.tmod (if (0 : Int) > b4053.f1.f0 then (0 : Int) else b4053.f1.f0) (IntKind.i64.wrap ((64 : Int) * 2 ^ (min (Int.toNat (IntKind.u64.wrap ((2 : Int) * (IntKind.u64.wrap ((if (if (4 : Int) < x4027 then (4 : Int) else x4027) > (0 : Int) then (if (4 : Int) < x4027 then (4 : Int) else x4027) else (0 : Int))))))) 64))))))) [])] [0, 2, 4, 6, 7, 15, 16, 17] [47, 48] ⟨[(0, .im (.row (t2015.map eplan_Item))), (2, .ptr 47 0 0), (4, iV .i64 x4027), (6, .ptr 48 0 0), (7, iV .i64 (IntKind.i64.wrap ((if (0 : Int) > b4053.f1.f0 then (0 : Int) else b4053.f1.f0) - (Int.tmod (if (0 : Int) > b4053.f1.f0 then (0 : Int) else b4053.f1.f0) (IntKind.i64.wrap ((64 : Int) * 2 ^ (min (Int.toNat (IntKind.u64.wrap ((2 : Int) * (IntKind.u64.wrap ((if (if (4 : Int) < x4027 then (4 : Int) else x4027) > (0 : Int) then (if (4 : Int) < x4027 then (4 : Int) else x4027) else (0 : Int))))))) 64))))))), (15, .im (.row (t2015.map eplan_Item))), (16, iV .i64 (t2015.length : Int)), (17, iV .i64 x4048)], [(47, some (.box 33 [.none0, iV .i64 0])), (48, some (.box 89 [iV .i64 b4053.f0, iV .i64 b4053.f1.f0, iV .i64 b4053.f1.f1, iV .i64 b4053.f1.f2]))], 0⟩ [Enters Try.prog 36, Pv.Fn Try.prog 36 [iV .i64 x4027, iV .i64 (if (0 : Int) > b4053.f1.f0 then (0 : Int) else b4053.f1.f0)] [] 0 (fun r o => r = iV .i64 (IntKind.i64.wrap ((if (0 : Int) > b4053.f1.f0 then (0 : Int) else b4053.f1.f0) - (Int.tmod (if (0 : Int) > b4053.f1.f0 then (0 : Int) else b4053.f1.f0) (IntKind.i64.wrap ((64 : Int) * 2 ^ (min (Int.toNat (IntKind.u64.wrap ((2 : Int) * (IntKind.u64.wrap ((if (if (4 : Int) < x4027 then (4 : Int) else x4027) > (0 : Int) then (if (4 : Int) < x4027 then (4 : Int) else x4027) else (0 : Int))))))) 64)))))) ∧ o = [])] (by kernel_rfl) ⟨by exact Try.call36, by exact f_block_Low.ok x4027 (if (0 : Int) > b4053.f1.f0 then (0 : Int) else b4053.f1.f0) t4058 e4059, trivial⟩ ?_
          refine AWp.seq ?_
          obtain ⟨t4062, e4063, H⟩ := bind_of H
          refine reg hP hn hm [(3, .call [] [(0, 49)] [] [49] 0 (.own 0) [(0, some (.row 1 3 (t4062.map (encInt .i64))))])] [0, 2, 4, 6, 8, 15, 16, 17] [47, 48, 49] ⟨[(0, .im (.row (t2015.map eplan_Item))), (2, .ptr 47 0 0), (4, iV .i64 x4027), (6, .ptr 48 0 0), (8, .own 49), (15, .im (.row (t2015.map eplan_Item))), (16, iV .i64 (t2015.length : Int)), (17, iV .i64 x4048)], [(47, some (.box 33 [.none0, iV .i64 0])), (48, some (.box 89 [iV .i64 b4053.f0, iV .i64 b4053.f1.f0, iV .i64 b4053.f1.f1, iV .i64 b4053.f1.f2])), (49, some (.row 1 3 (t4062.map (encInt .i64))))], 0⟩ [Enters Try.prog 22, Pv.Fn Try.prog 22 [.im (.row (t2015.map eplan_Item)), iV .i64 x4027, iV .i64 (IntKind.i64.wrap ((if (0 : Int) > b4053.f1.f0 then (0 : Int) else b4053.f1.f0) - (Int.tmod (if (0 : Int) > b4053.f1.f0 then (0 : Int) else b4053.f1.f0) (IntKind.i64.wrap ((64 : Int) * 2 ^ (min (Int.toNat (IntKind.u64.wrap ((2 : Int) * (IntKind.u64.wrap ((if (if (4 : Int) < x4027 then (4 : Int) else x4027) > (0 : Int) then (if (4 : Int) < x4027 then (4 : Int) else x4027) else (0 : Int))))))) 64))))))] [] 0 (fun r o => r = .own 0 ∧ o = [(0, some (.row 1 3 (t4062.map (encInt .i64))))])] (by kernel_rfl) ⟨by exact Try.call22, by exact f_plan_Within.ok t2015 x4027 (IntKind.i64.wrap ((if (0 : Int) > b4053.f1.f0 then (0 : Int) else b4053.f1.f0) - (Int.tmod (if (0 : Int) > b4053.f1.f0 then (0 : Int) else b4053.f1.f0) (IntKind.i64.wrap ((64 : Int) * 2 ^ (min (Int.toNat (IntKind.u64.wrap ((2 : Int) * (IntKind.u64.wrap ((if (if (4 : Int) < x4027 then (4 : Int) else x4027) > (0 : Int) then (if (4 : Int) < x4027 then (4 : Int) else x4027) else (0 : Int))))))) 64)))))) t4062 e4063, trivial⟩ ?_
          refine AWp.seq ?_
          obtain ⟨o4072, e4073, H⟩ := bind_of H
          refine AWp.mono (Q := fun e s => (match (generalizing := false) o4072 with | x4066 => e = .normal ∧ s = ⟨[(0, .im (.row (t2015.map eplan_Item))), (2, .ptr 50 0 0), (4, iV .i64 x4027), (8, .own 51), (15, .im (.row (t2015.map eplan_Item))), (16, iV .i64 (t2015.length : Int)), (17, iV .i64 x4048), (40, bV x4066)], [(50, some (.box 33 [.none0, iV .i64 0])), (51, some (.row 1 3 (t4062.map (encInt .i64))))], 0⟩)) (AWp.cv ?_) ?_
          · replace H := e4073; clear e4073
            rcases Bool.eq_false_or_eq_true (decide (b4053.f1.f2 ≤ x4027)) with c4065 | c4065
            · replace H := (ifT c4065).symm.trans H
              refine reg hP hn hm [(5, .b true), (7, .any (iV .i64 (t4062.length : Int)))] [0, 2, 4, 8, 15, 16, 17, 37, 38, 39, 40] [47, 49] ⟨[(0, .im (.row (t2015.map eplan_Item))), (2, .ptr 47 0 0), (4, iV .i64 x4027), (8, .own 49), (15, .im (.row (t2015.map eplan_Item))), (16, iV .i64 (t2015.length : Int)), (17, iV .i64 x4048), (37, .own 49), (38, iV .i64 (t4062.length : Int)), (39, bV (decide ((t4062.length : Int) > (1 : Int)))), (40, bV (decide ((t4062.length : Int) > (1 : Int))))], [(47, some (.box 33 [.none0, iV .i64 0])), (49, some (.row 1 3 (t4062.map (encInt .i64))))], 0⟩ [(decide (b4053.f1.f2 ≤ x4027)) = true, ((t4062.map (encInt .i64)).length : Int) = (t4062.length : Int)] (by kernel_rfl) ⟨by exact c4065, by rw [len_map], trivial⟩ ?_
              obtain rfl := Option.some.inj H
              exact Exists.intro _ (And.intro (fun _ _ h => h.conv (inv := [(47, 50), (49, 51)]) (vk := []) (e0 := []) (t := ⟨[(0, .im (.row (t2015.map eplan_Item))), (2, .ptr 50 0 0), (4, iV .i64 x4027), (8, .own 51), (15, .im (.row (t2015.map eplan_Item))), (16, iV .i64 (t2015.length : Int)), (17, iV .i64 x4048), (40, bV (decide ((t4062.length : Int) > (1 : Int))))], [(50, some (.box 33 [.none0, iV .i64 0])), (51, some (.row 1 3 (t4062.map (encInt .i64))))], 0⟩) (by kernel_rfl)) (And.intro rfl rfl))
            · replace H := (ifF c4065).symm.trans H
              refine reg hP hn hm [(5, .b false)] [0, 2, 4, 8, 15, 16, 17, 40] [47, 49] ⟨[(0, .im (.row (t2015.map eplan_Item))), (2, .ptr 47 0 0), (4, iV .i64 x4027), (8, .own 49), (15, .im (.row (t2015.map eplan_Item))), (16, iV .i64 (t2015.length : Int)), (17, iV .i64 x4048), (40, bV false)], [(47, some (.box 33 [.none0, iV .i64 0])), (49, some (.row 1 3 (t4062.map (encInt .i64))))], 0⟩ [(decide (b4053.f1.f2 ≤ x4027)) = false] (by kernel_rfl) ⟨by exact c4065, trivial⟩ ?_
              obtain rfl := Option.some.inj H
              exact Exists.intro _ (And.intro (fun _ _ h => h.conv (inv := [(47, 50), (49, 51)]) (vk := []) (e0 := []) (t := ⟨[(0, .im (.row (t2015.map eplan_Item))), (2, .ptr 50 0 0), (4, iV .i64 x4027), (8, .own 51), (15, .im (.row (t2015.map eplan_Item))), (16, iV .i64 (t2015.length : Int)), (17, iV .i64 x4048), (40, bV false)], [(50, some (.box 33 [.none0, iV .i64 0])), (51, some (.row 1 3 (t4062.map (encInt .i64))))], 0⟩) (by kernel_rfl)) (And.intro rfl rfl))
          · obtain ⟨x4066, rfl⟩ : ∃ z, z = o4072 := ⟨_, rfl⟩
            rintro e s ⟨rfl, rfl⟩
            refine AWp.cond x4066 rfl (fun c4067 => ?_) (fun c4067 => ?_)
            · replace H := (ifT c4067).symm.trans H
              refine AWp.seq ?_
              refine reg hP hn hm [] [2, 3] [50, 51] ⟨[(2, .ptr 50 0 0), (3, bV true)], [(50, some (.box 33 [.own 51, iV .i64 x4027])), (51, some (.row 1 3 (t4062.map (encInt .i64))))], 0⟩ [] (by kernel_rfl) trivial ?_
              refine AWp.conv (inv := [(50, 1), (51, 0)]) (vk := []) (e0 := []) (t := ⟨[(2, .ptr 1 0 0), (3, bV true)], [(0, some (.row 1 3 ((((⟨t4062, x4027⟩ : Tplan_Step)).f0).map (encInt .i64)))), (1, some (.box 33 [.own 0, iV .i64 (((⟨t4062, x4027⟩ : Tplan_Step)).f1)]))], 0⟩) (by kernel_rfl) ?_
              refine AWp.ret ?_
              obtain rfl := Option.some.inj H
              exact Exists.intro _ (And.intro (fun _ _ h => h) (And.intro rfl (And.intro rfl (And.intro (by kernel_rfl) (by kernel_rfl)))))
            · replace H := (ifF c4067).symm.trans H
              refine AWp.skip ?_
              refine reg hP hn hm [] [0, 2, 4, 15, 16, 17] [50] ⟨[(0, .im (.row (t2015.map eplan_Item))), (2, .ptr 50 0 0), (4, iV .i64 x4027), (15, .im (.row (t2015.map eplan_Item))), (16, iV .i64 (t2015.length : Int)), (17, iV .i64 (IntKind.i64.wrap (x4048 + (1 : Int))))], [(50, some (.box 33 [.none0, iV .i64 0]))], 0⟩ [] (by kernel_rfl) trivial ?_
              exact LWp.conv (inv := [(50, 47)]) (vk := []) (e0 := []) (t := ⟨[(0, .im (.row (t2015.map eplan_Item))), (2, .ptr 47 0 0), (4, iV .i64 x4027), (15, .im (.row (t2015.map eplan_Item))), (16, iV .i64 (t2015.length : Int)), (17, iV .i64 (IntKind.i64.wrap (x4048 + (1 : Int))))], [(47, some (.box 33 [.none0, iV .i64 0]))], 0⟩) (by kernel_rfl) (ih _ _ H)
        · replace H := (ifF c4049).symm.trans H
          refine AWp.exit ?_
          obtain rfl := Option.some.inj H
          exact Exists.intro _ (And.intro (fun _ _ h => h.conv (inv := [(47, 52)]) (vk := []) (e0 := []) (t := ⟨[(0, .im (.row (t2015.map eplan_Item))), (2, .ptr 52 0 0), (4, iV .i64 x4027)], [(52, some (.box 33 [.none0, iV .i64 0]))], 0⟩) (by kernel_rfl)) (And.intro rfl rfl))
      · rcases o4070 with rr | _
        · skip
          rintro e s ⟨rfl, hfl, hres⟩
          obtain rfl := Option.some.inj H
          exact Exists.intro _ (And.intro (fun _ _ h => h) (And.intro rfl (And.intro hfl hres)))
        · skip
          rintro e s ⟨rfl, rfl⟩
          refine reg hP hn hm [] [0, 2, 4] [52] ⟨[(0, .im (.row (t2015.map eplan_Item))), (2, .ptr 52 0 0), (4, iV .i64 (IntKind.i64.wrap (x4027 + (1 : Int))))], [(52, some (.box 33 [.none0, iV .i64 0]))], 0⟩ [] (by kernel_rfl) trivial ?_
          exact LWp.conv (inv := [(52, 42)]) (vk := []) (e0 := []) (t := ⟨[(0, .im (.row (t2015.map eplan_Item))), (2, .ptr 42 0 0), (4, iV .i64 (IntKind.i64.wrap (x4027 + (1 : Int))))], [(42, some (.box 33 [.none0, iV .i64 0]))], 0⟩) (by kernel_rfl) (ih _ _ H)
    · replace H := (ifF c4028).symm.trans H
      refine AWp.exit ?_
      obtain rfl := Option.some.inj H
      exact Exists.intro _ (And.intro (fun _ _ h => h.conv (inv := [(42, 53)]) (vk := []) (e0 := []) (t := ⟨[(2, .ptr 53 0 0)], [(53, some (.box 33 [.none0, iV .i64 0]))], 0⟩) (by kernel_rfl)) (And.intro rfl rfl))
  · rcases o4068 with rr | _
    · skip
      rintro e s ⟨rfl, hfl, hres⟩
      obtain rfl := Option.some.inj H
      exact Exists.intro _ (And.intro (fun _ _ h => h) (And.intro (.inl rfl) (And.intro hfl hres)))
    · skip
      rintro e s ⟨rfl, rfl⟩
      refine AWp.seq ?_
      refine reg hP hn hm [] [2, 3] [53] ⟨[(2, .ptr 53 0 0), (3, bV false)], [(53, some (.box 33 [.none0, iV .i64 0]))], 0⟩ [] (by kernel_rfl) trivial ?_
      refine AWp.conv (inv := [(53, 1)]) (vk := []) (e0 := [0]) (t := ⟨[(2, .ptr 1 0 0), (3, bV false)], [(0, some (.row 1 3 ((((⟨[], 0⟩ : Tplan_Step)).f0).map (encInt .i64)))), (1, some (.box 33 [.own 0, iV .i64 (((⟨[], 0⟩ : Tplan_Step)).f1)]))], 0⟩) (by kernel_rfl) ?_
      refine AWp.ret ?_
      obtain rfl := Option.some.inj H
      exact Exists.intro _ (And.intro (fun _ _ h => h) (And.intro (.inl rfl) (And.intro rfl (And.intro (by kernel_rfl) (by kernel_rfl)))))
def f_pluviallaw17_ints.l0 (a0 : List Int) (a1 : List Int) (x4097 : Int) : Option (Bool ⊕ Unit) := if (decide (x4097 < (a0.length : Int))) = true then ((at? a0 x4097) >>= fun b4105 => (at? a1 x4097) >>= fun b4108 => if (b4105 != b4108) = true then (some (.inl false)) else (f_pluviallaw17_ints.l0 a0 a1 (IntKind.i64.wrap (x4097 + (1 : Int))))) else (some (.inr ()))
partial_fixpoint
def f_pluviallaw17_ints.f (a0 : List Int) (a1 : List Int) : Option (Bool) := if ((a0.length : Int) != (a1.length : Int)) = true then (some false) else ((f_pluviallaw17_ints.l0 a0 a1 0) >>= fun oo => match oo with | .inl rr => (some rr) | .inr _ => (some true))
theorem f_pluviallaw17_ints.ok (a0 : List Int) (a1 : List Int) (r : Bool) (H : f_pluviallaw17_ints.f a0 a1 = some r) : Pv.Fn Try.prog 17 [.im (.row (a0.map (encInt .i64))), .im (.row (a1.map (encInt .i64)))] [] 0 (fun x o => x = bV r ∧ o = []) := by
  unfold f_pluviallaw17_ints.f at H
  refine Fn.bodyK [] Try.func17 rfl rfl (fun Γ hP hn => ?_)
  have hm : Try.prog.follows .mixedOrders = true := by kernel_rfl
  replace hn : Γ.n = 26 := hn
  refine AWp.seq ?_
  refine reg hP hn hm [] [0, 1] [] ⟨[(0, .im (.row (a0.map (encInt .i64)))), (1, .im (.row (a1.map (encInt .i64))))], [], 0⟩ [] (by kernel_rfl) trivial ?_
  refine AWp.seq ?_
  refine AWp.seq ?_
  refine reg hP hn hm [(1, .any (iV .i64 (a0.length : Int))), (3, .any (iV .i64 (a1.length : Int)))] [0, 1, 10] [] ⟨[(0, .im (.row (a0.map (encInt .i64)))), (1, .im (.row (a1.map (encInt .i64)))), (10, bV ((a0.length : Int) != (a1.length : Int)))], [], 0⟩ [((a0.map (encInt .i64)).length : Int) = (a0.length : Int), ((a1.map (encInt .i64)).length : Int) = (a1.length : Int)] (by kernel_rfl) ⟨by rw [len_map], by rw [len_map], trivial⟩ ?_
  refine AWp.cond ((a0.length : Int) != (a1.length : Int)) rfl (fun c4082 => ?_) (fun c4082 => ?_)
  · replace H := (ifT c4082).symm.trans H
    refine AWp.seq ?_
    refine reg hP hn hm [] [4] [] ⟨[(4, bV false)], [], 0⟩ [] (by kernel_rfl) trivial ?_
    refine AWp.conv (inv := []) (vk := []) (e0 := []) (t := ⟨[(4, bV false)], [], 0⟩) (by kernel_rfl) ?_
    refine AWp.ret ?_
    obtain rfl := Option.some.inj H
    exact Exists.intro _ (And.intro (fun _ _ h => h) (And.intro (.inl rfl) (And.intro rfl (And.intro (by kernel_rfl) (by kernel_rfl)))))
  · replace H := (ifF c4082).symm.trans H
    refine AWp.skip ?_
    refine AWp.seq ?_
    refine AWp.seq ?_
    refine reg hP hn hm [(1, .any (iV .i64 (a0.length : Int)))] [0, 1, 12, 13] [] ⟨[(0, .im (.row (a0.map (encInt .i64)))), (1, .im (.row (a1.map (encInt .i64)))), (12, iV .i64 (a0.length : Int)), (13, iV .i64 0)], [], 0⟩ [((a0.map (encInt .i64)).length : Int) = (a0.length : Int)] (by kernel_rfl) ⟨by rw [len_map], trivial⟩ ?_
    refine AWp.block ?_
    obtain ⟨o4112, e4113, H⟩ := bind_of H
    refine AWp.loop (LWp.conv (inv := []) (vk := []) (e0 := []) (t := ⟨[(0, .im (.row (a0.map (encInt .i64)))), (1, .im (.row (a1.map (encInt .i64)))), (12, iV .i64 (a0.length : Int)), (13, iV .i64 0)], [], 0⟩) (by kernel_rfl) ?_)
    refine LWp.mono (Q := fun e s => (match (generalizing := false) o4112 with | .inl rr => e = .ret ∧ s.floor = 0 ∧ resOf Try.prog Try.f17 s = some (bV rr) ∧ ([] : List (Nat × Option MObj)) = [] | .inr _ => e = .exit 0 ∧ s = ⟨[], [], 0⟩)) (LWp.cv (withBody (fun body hbody => ?_))) ?_
    · refine f_pluviallaw17_ints.l0.partial_correctness a0 a1 (motive := fun x4097 o4112 => LWp Γ body (fun e s => ∃ t, Cv Γ s t ∧ (match (generalizing := false) o4112 with | .inl rr => e = .ret ∧ t.floor = 0 ∧ resOf Try.prog Try.f17 t = some (bV rr) ∧ ([] : List (Nat × Option MObj)) = [] | .inr _ => e = .exit 0 ∧ t = ⟨[], [], 0⟩)) ⟨[(0, .im (.row (a0.map (encInt .i64)))), (1, .im (.row (a1.map (encInt .i64)))), (12, iV .i64 (a0.length : Int)), (13, iV .i64 x4097)], [], 0⟩) ?_ _ _ e4113
      clear H e4113 o4112; intro self ih x4097 o4112 H
      subst hbody
      refine LWp.round ?_
      refine AWp.seq ?_
      refine reg hP hn hm [] [0, 1, 12, 13, 14] [] ⟨[(0, .im (.row (a0.map (encInt .i64)))), (1, .im (.row (a1.map (encInt .i64)))), (12, iV .i64 (a0.length : Int)), (13, iV .i64 x4097), (14, bV (decide (x4097 < (a0.length : Int))))], [], 0⟩ [] (by kernel_rfl) trivial ?_
      refine AWp.seq ?_
      refine AWp.cond (decide (x4097 < (a0.length : Int))) rfl (fun c4098 => ?_) (fun c4098 => ?_)
      · replace H := (ifT c4098).symm.trans H
        refine AWp.skip ?_
        refine AWp.seq ?_
        refine AWp.block ?_
        refine AWp.seq ?_
        refine reg hP hn hm [] [0, 1, 5, 12, 13] [] ⟨[(0, .im (.row (a0.map (encInt .i64)))), (1, .im (.row (a1.map (encInt .i64)))), (5, iV .i64 x4097), (12, iV .i64 (a0.length : Int)), (13, iV .i64 x4097)], [], 0⟩ [] (by kernel_rfl) trivial ?_
        refine AWp.seq ?_
        obtain ⟨b4105, p4106, q4107, H⟩ := at_of H
        obtain ⟨b4108, p4109, q4110, H⟩ := at_of H
        refine reg hP hn hm [(2, .c ((encInt .i64) b4105)), (6, .c ((encInt .i64) b4108))] [0, 1, 12, 13, 24] [] ⟨[(0, .im (.row (a0.map (encInt .i64)))), (1, .im (.row (a1.map (encInt .i64)))), (12, iV .i64 (a0.length : Int)), (13, iV .i64 x4097), (24, bV (b4105 != b4108))], [], 0⟩ [0 ≤ x4097, (a0.map (encInt .i64))[(Int.toNat (x4097))]? = some ((encInt .i64) b4105), 0 ≤ x4097, (a1.map (encInt .i64))[(Int.toNat (x4097))]? = some ((encInt .i64) b4108)] (by kernel_rfl) ⟨by exact p4106, by exact el_map (encInt .i64) q4107, by exact p4109, by exact el_map (encInt .i64) q4110, trivial⟩ ?_
        refine AWp.cond (b4105 != b4108) rfl (fun c4111 => ?_) (fun c4111 => ?_)
        · replace H := (ifT c4111).symm.trans H
          refine AWp.seq ?_
          refine reg hP hn hm [] [4] [] ⟨[(4, bV false)], [], 0⟩ [] (by kernel_rfl) trivial ?_
          refine AWp.conv (inv := []) (vk := []) (e0 := []) (t := ⟨[(4, bV false)], [], 0⟩) (by kernel_rfl) ?_
          refine AWp.ret ?_
          obtain rfl := Option.some.inj H
          exact Exists.intro _ (And.intro (fun _ _ h => h) (And.intro rfl (And.intro rfl (And.intro (by kernel_rfl) (by kernel_rfl)))))
        · replace H := (ifF c4111).symm.trans H
          refine AWp.skip ?_
          refine reg hP hn hm [] [0, 1, 12, 13] [] ⟨[(0, .im (.row (a0.map (encInt .i64)))), (1, .im (.row (a1.map (encInt .i64)))), (12, iV .i64 (a0.length : Int)), (13, iV .i64 (IntKind.i64.wrap (x4097 + (1 : Int))))], [], 0⟩ [] (by kernel_rfl) trivial ?_
          exact LWp.conv (inv := []) (vk := []) (e0 := []) (t := ⟨[(0, .im (.row (a0.map (encInt .i64)))), (1, .im (.row (a1.map (encInt .i64)))), (12, iV .i64 (a0.length : Int)), (13, iV .i64 (IntKind.i64.wrap (x4097 + (1 : Int))))], [], 0⟩) (by kernel_rfl) (ih _ _ H)
      · replace H := (ifF c4098).symm.trans H
        refine AWp.exit ?_
        obtain rfl := Option.some.inj H
        exact Exists.intro _ (And.intro (fun _ _ h => h.conv (inv := []) (vk := []) (e0 := []) (t := ⟨[], [], 0⟩) (by kernel_rfl)) (And.intro rfl rfl))
    · rcases o4112 with rr | _
      · skip
        rintro e s ⟨rfl, hfl, hres⟩
        obtain rfl := Option.some.inj H
        exact Exists.intro _ (And.intro (fun _ _ h => h) (And.intro (.inl rfl) (And.intro hfl hres)))
      · skip
        rintro e s ⟨rfl, rfl⟩
        refine AWp.seq ?_
        refine reg hP hn hm [] [4] [] ⟨[(4, bV true)], [], 0⟩ [] (by kernel_rfl) trivial ?_
        refine AWp.conv (inv := []) (vk := []) (e0 := []) (t := ⟨[(4, bV true)], [], 0⟩) (by kernel_rfl) ?_
        refine AWp.ret ?_
        obtain rfl := Option.some.inj H
        exact Exists.intro _ (And.intro (fun _ _ h => h) (And.intro (.inl rfl) (And.intro rfl (And.intro (by kernel_rfl) (by kernel_rfl)))))
def f_pluviallaw17_awake.f  : Option (Bool) := (f_pluviallaw17_To.f [(⟨1, 0, 0, 64⟩ : Tpluvialref17_Item), (⟨2, 0, 64, 128⟩ : Tpluvialref17_Item)]) >>= fun t4076 => (f_plan_Next.f t4076) >>= fun t4078 => ((if t4078.2 = true then (if (((t4078.1).f1) == (1 : Int)) = true then ((f_pluviallaw17_ints.f ((t4078.1).f0) [1, 2]) >>= fun t4118 => some t4118) else (some false)) else (some false)) : Option (Bool)) >>= fun x4120 => some x4120
theorem f_pluviallaw17_awake.ok  (r : Bool) (H : f_pluviallaw17_awake.f  = some r) : Pv.Fn Try.prog 13 [] [] 0 (fun x o => x = bV r ∧ o = []) := by
  unfold f_pluviallaw17_awake.f at H
  refine Fn.bodyK [] Try.func13 rfl rfl (fun Γ hP hn => ?_)
  have hm : Try.prog.follows .mixedOrders = true := by kernel_rfl
  replace hn : Γ.n = 23 := hn
  refine AWp.seq ?_
  refine reg hP hn hm [] [] [] ⟨[], [], 0⟩ [] (by kernel_rfl) trivial ?_
  refine AWp.seq ?_
  obtain ⟨t4076, e4077, H⟩ := bind_of H
  obtain ⟨t4078, e4079, H⟩ := bind_of H
  refine reg hP hn hm [(2, .app 0 ([(⟨1, 0, 0, 64⟩ : Tpluvialref17_Item), (⟨2, 0, 64, 128⟩ : Tpluvialref17_Item)].map epluvialref17_Item)), (3, .call [] [(0, 1)] [0] [1] 0 (.own 0) [(0, some (.row 4 89 (t4076.map eplan_Item)))]), (4, .call [] [(0, 2)] [1] [2] 0 (.tup [.agg [.own 0, iV .i64 ((t4078.1).f1)], bV t4078.2]) [(0, some (.row 1 3 (((t4078.1).f0).map (encInt .i64))))]), (8, .k 3)] [1, 2] [2, 3] ⟨[(1, .ptr 3 0 0), (2, bV t4078.2)], [(2, some (.row 1 3 (((t4078.1).f0).map (encInt .i64)))), (3, some (.box 33 [.own 2, iV .i64 ((t4078.1).f1)]))], 0⟩ [[(⟨1, 0, 0, 64⟩ : Tpluvialref17_Item), (⟨2, 0, 64, 128⟩ : Tpluvialref17_Item)].map epluvialref17_Item = [[iI .i64 1, iI .i64 0, iI .i64 0, iI .i64 64], [iI .i64 2, iI .i64 0, iI .i64 64, iI .i64 128]], Enters Try.prog 15, Pv.Fn Try.prog 15 [.im (.row ([(⟨1, 0, 0, 64⟩ : Tpluvialref17_Item), (⟨2, 0, 64, 128⟩ : Tpluvialref17_Item)].map epluvialref17_Item))] [] 0 (fun r o => r = .own 0 ∧ o = [(0, some (.row 4 89 (t4076.map eplan_Item)))]), Enters Try.prog 16, Pv.Fn Try.prog 16 [.im (.row (t4076.map eplan_Item))] [] 0 (fun r o => r = .tup [.agg [.own 0, iV .i64 ((t4078.1).f1)], bV t4078.2] ∧ o = [(0, some (.row 1 3 (((t4078.1).f0).map (encInt .i64))))])] (by kernel_rfl) ⟨by exact rfl, by exact Try.call15, by exact f_pluviallaw17_To.ok [(⟨1, 0, 0, 64⟩ : Tpluvialref17_Item), (⟨2, 0, 64, 128⟩ : Tpluvialref17_Item)] t4076 e4077, by exact Try.call16, by exact f_plan_Next.ok t4076 t4078 e4079, trivial⟩ ?_
  refine AWp.seq ?_
  obtain ⟨o4121, e4122, H⟩ := bind_of H
  refine AWp.mono (Q := fun e s => (match (generalizing := false) o4121 with | x4120 => e = .normal ∧ s = ⟨[(0, bV x4120)], [], 0⟩)) (AWp.cv ?_) ?_
  · replace H := e4122; clear e4122
    rcases Bool.eq_false_or_eq_true t4078.2 with c4116 | c4116
    · replace H := (ifT c4116).symm.trans H
      rcases Bool.eq_false_or_eq_true (((t4078.1).f1) == (1 : Int)) with c4117 | c4117
      · replace H := (ifT c4117).symm.trans H
        obtain ⟨t4118, e4119, H⟩ := bind_of H
        refine reg hP hn hm [(1, .b true), (6, .b true), (9, .app 4 ([1, 2].map (encInt .i64))), (10, .call [] [] [2, 4] [] 0 (bV t4118) [])] [0] [] ⟨[(0, bV t4118)], [], 0⟩ [t4078.2 = true, (((t4078.1).f1) == (1 : Int)) = true, [1, 2].map (encInt .i64) = [[iI .i64 1], [iI .i64 2]], Enters Try.prog 17, Pv.Fn Try.prog 17 [.im (.row (((t4078.1).f0).map (encInt .i64))), .im (.row ([1, 2].map (encInt .i64)))] [] 0 (fun r o => r = bV t4118 ∧ o = [])] (by kernel_rfl) ⟨by exact c4116, by exact c4117, by exact rfl, by exact Try.call17, by exact f_pluviallaw17_ints.ok ((t4078.1).f0) [1, 2] t4118 e4119, trivial⟩ ?_
        obtain rfl := Option.some.inj H
        exact Exists.intro _ (And.intro (fun _ _ h => h.conv (inv := []) (vk := []) (e0 := []) (t := ⟨[(0, bV t4118)], [], 0⟩) (by kernel_rfl)) (And.intro rfl rfl))
      · replace H := (ifF c4117).symm.trans H
        refine reg hP hn hm [(1, .b true), (6, .b false)] [0] [] ⟨[(0, bV false)], [], 0⟩ [t4078.2 = true, (((t4078.1).f1) == (1 : Int)) = false] (by kernel_rfl) ⟨by exact c4116, by exact c4117, trivial⟩ ?_
        obtain rfl := Option.some.inj H
        exact Exists.intro _ (And.intro (fun _ _ h => h.conv (inv := []) (vk := []) (e0 := []) (t := ⟨[(0, bV false)], [], 0⟩) (by kernel_rfl)) (And.intro rfl rfl))
    · replace H := (ifF c4116).symm.trans H
      refine reg hP hn hm [(1, .b false)] [0] [] ⟨[(0, bV false)], [], 0⟩ [t4078.2 = false] (by kernel_rfl) ⟨by exact c4116, trivial⟩ ?_
      obtain rfl := Option.some.inj H
      exact Exists.intro _ (And.intro (fun _ _ h => h.conv (inv := []) (vk := []) (e0 := []) (t := ⟨[(0, bV false)], [], 0⟩) (by kernel_rfl)) (And.intro rfl rfl))
  · obtain ⟨x4120, rfl⟩ : ∃ z, z = o4121 := ⟨_, rfl⟩
    rintro e s ⟨rfl, rfl⟩
    refine AWp.conv (inv := []) (vk := []) (e0 := []) (t := ⟨[(0, bV x4120)], [], 0⟩) (by kernel_rfl) ?_
    refine AWp.ret ?_
    obtain rfl := Option.some.inj H
    exact Exists.intro _ (And.intro (fun _ _ h => h) (And.intro (.inl rfl) (And.intro rfl (And.intro (by kernel_rfl) (by kernel_rfl)))))
def f_slices_Index_int.l0 (a0 : List Int) (a1 : Int) (x4395 : Int) : Option (Int ⊕ Unit) := if (decide (x4395 < (a0.length : Int))) = true then ((at? a0 x4395) >>= fun b4400 => if (a1 == b4400) = true then (some (.inl x4395)) else (f_slices_Index_int.l0 a0 a1 (IntKind.i64.wrap (x4395 + (1 : Int))))) else (some (.inr ()))
partial_fixpoint
def f_slices_Index_int.f (a0 : List Int) (a1 : Int) : Option (Int) := (f_slices_Index_int.l0 a0 a1 0) >>= fun oo => match oo with | .inl rr => (some rr) | .inr _ => (some (-1))
theorem f_slices_Index_int.ok (a0 : List Int) (a1 : Int) (r : Int) (H : f_slices_Index_int.f a0 a1 = some r) : Pv.Fn Try.prog 54 [.im (.row (a0.map (encInt .i64))), iV .i64 a1] [] 0 (fun x o => x = iV .i64 r ∧ o = []) := by
  unfold f_slices_Index_int.f at H
  refine Fn.bodyK [] Try.func54 rfl rfl (fun Γ hP hn => ?_)
  have hm : Try.prog.follows .mixedOrders = true := by kernel_rfl
  replace hn : Γ.n = 19 := hn
  refine AWp.seq ?_
  refine reg hP hn hm [] [0, 1] [] ⟨[(0, .im (.row (a0.map (encInt .i64)))), (1, iV .i64 a1)], [], 0⟩ [] (by kernel_rfl) trivial ?_
  refine AWp.seq ?_
  refine AWp.seq ?_
  refine reg hP hn hm [(1, .any (iV .i64 (a0.length : Int)))] [0, 1, 7, 8] [] ⟨[(0, .im (.row (a0.map (encInt .i64)))), (1, iV .i64 a1), (7, iV .i64 (a0.length : Int)), (8, iV .i64 0)], [], 0⟩ [((a0.map (encInt .i64)).length : Int) = (a0.length : Int)] (by kernel_rfl) ⟨by rw [len_map], trivial⟩ ?_
  refine AWp.block ?_
  obtain ⟨o4404, e4405, H⟩ := bind_of H
  refine AWp.loop (LWp.conv (inv := []) (vk := []) (e0 := []) (t := ⟨[(0, .im (.row (a0.map (encInt .i64)))), (1, iV .i64 a1), (7, iV .i64 (a0.length : Int)), (8, iV .i64 0)], [], 0⟩) (by kernel_rfl) ?_)
  refine LWp.mono (Q := fun e s => (match (generalizing := false) o4404 with | .inl rr => e = .ret ∧ s.floor = 0 ∧ resOf Try.prog Try.f54 s = some (iV .i64 rr) ∧ ([] : List (Nat × Option MObj)) = [] | .inr _ => e = .exit 0 ∧ s = ⟨[], [], 0⟩)) (LWp.cv (withBody (fun body hbody => ?_))) ?_
  · refine f_slices_Index_int.l0.partial_correctness a0 a1 (motive := fun x4395 o4404 => LWp Γ body (fun e s => ∃ t, Cv Γ s t ∧ (match (generalizing := false) o4404 with | .inl rr => e = .ret ∧ t.floor = 0 ∧ resOf Try.prog Try.f54 t = some (iV .i64 rr) ∧ ([] : List (Nat × Option MObj)) = [] | .inr _ => e = .exit 0 ∧ t = ⟨[], [], 0⟩)) ⟨[(0, .im (.row (a0.map (encInt .i64)))), (1, iV .i64 a1), (7, iV .i64 (a0.length : Int)), (8, iV .i64 x4395)], [], 0⟩) ?_ _ _ e4405
    clear H e4405 o4404; intro self ih x4395 o4404 H
    subst hbody
    refine LWp.round ?_
    refine AWp.seq ?_
    refine reg hP hn hm [] [0, 1, 7, 8, 9] [] ⟨[(0, .im (.row (a0.map (encInt .i64)))), (1, iV .i64 a1), (7, iV .i64 (a0.length : Int)), (8, iV .i64 x4395), (9, bV (decide (x4395 < (a0.length : Int))))], [], 0⟩ [] (by kernel_rfl) trivial ?_
    refine AWp.seq ?_
    refine AWp.cond (decide (x4395 < (a0.length : Int))) rfl (fun c4396 => ?_) (fun c4396 => ?_)
    · replace H := (ifT c4396).symm.trans H
      refine AWp.skip ?_
      refine AWp.seq ?_
      refine AWp.block ?_
      refine AWp.seq ?_
      refine reg hP hn hm [] [0, 1, 5, 7, 8] [] ⟨[(0, .im (.row (a0.map (encInt .i64)))), (1, iV .i64 a1), (5, iV .i64 x4395), (7, iV .i64 (a0.length : Int)), (8, iV .i64 x4395)], [], 0⟩ [] (by kernel_rfl) trivial ?_
      refine AWp.seq ?_
      obtain ⟨b4400, p4401, q4402, H⟩ := at_of H
      refine reg hP hn hm [(3, .c ((encInt .i64) b4400))] [0, 1, 5, 7, 8, 16] [] ⟨[(0, .im (.row (a0.map (encInt .i64)))), (1, iV .i64 a1), (5, iV .i64 x4395), (7, iV .i64 (a0.length : Int)), (8, iV .i64 x4395), (16, bV (a1 == b4400))], [], 0⟩ [0 ≤ x4395, (a0.map (encInt .i64))[(Int.toNat (x4395))]? = some ((encInt .i64) b4400)] (by kernel_rfl) ⟨by exact p4401, by exact el_map (encInt .i64) q4402, trivial⟩ ?_
      refine AWp.cond (a1 == b4400) rfl (fun c4403 => ?_) (fun c4403 => ?_)
      · replace H := (ifT c4403).symm.trans H
        refine AWp.seq ?_
        refine reg hP hn hm [] [4] [] ⟨[(4, iV .i64 x4395)], [], 0⟩ [] (by kernel_rfl) trivial ?_
        refine AWp.conv (inv := []) (vk := []) (e0 := []) (t := ⟨[(4, iV .i64 x4395)], [], 0⟩) (by kernel_rfl) ?_
        refine AWp.ret ?_
        obtain rfl := Option.some.inj H
        exact Exists.intro _ (And.intro (fun _ _ h => h) (And.intro rfl (And.intro rfl (And.intro (by kernel_rfl) (by kernel_rfl)))))
      · replace H := (ifF c4403).symm.trans H
        refine AWp.skip ?_
        refine reg hP hn hm [] [0, 1, 7, 8] [] ⟨[(0, .im (.row (a0.map (encInt .i64)))), (1, iV .i64 a1), (7, iV .i64 (a0.length : Int)), (8, iV .i64 (IntKind.i64.wrap (x4395 + (1 : Int))))], [], 0⟩ [] (by kernel_rfl) trivial ?_
        exact LWp.conv (inv := []) (vk := []) (e0 := []) (t := ⟨[(0, .im (.row (a0.map (encInt .i64)))), (1, iV .i64 a1), (7, iV .i64 (a0.length : Int)), (8, iV .i64 (IntKind.i64.wrap (x4395 + (1 : Int))))], [], 0⟩) (by kernel_rfl) (ih _ _ H)
    · replace H := (ifF c4396).symm.trans H
      refine AWp.exit ?_
      obtain rfl := Option.some.inj H
      exact Exists.intro _ (And.intro (fun _ _ h => h.conv (inv := []) (vk := []) (e0 := []) (t := ⟨[], [], 0⟩) (by kernel_rfl)) (And.intro rfl rfl))
  · rcases o4404 with rr | _
    · skip
      rintro e s ⟨rfl, hfl, hres⟩
      obtain rfl := Option.some.inj H
      exact Exists.intro _ (And.intro (fun _ _ h => h) (And.intro (.inl rfl) (And.intro hfl hres)))
    · skip
      rintro e s ⟨rfl, rfl⟩
      refine AWp.seq ?_
      refine reg hP hn hm [] [4] [] ⟨[(4, iV .i64 (-1))], [], 0⟩ [] (by kernel_rfl) trivial ?_
      refine AWp.conv (inv := []) (vk := []) (e0 := []) (t := ⟨[(4, iV .i64 (-1))], [], 0⟩) (by kernel_rfl) ?_
      refine AWp.ret ?_
      obtain rfl := Option.some.inj H
      exact Exists.intro _ (And.intro (fun _ _ h => h) (And.intro (.inl rfl) (And.intro rfl (And.intro (by kernel_rfl) (by kernel_rfl)))))
def f_slices_Contains_int.f (a0 : List Int) (a1 : Int) : Option (Bool) := (f_slices_Index_int.f a0 a1) >>= fun t4408 => some (decide (t4408 ≥ (0 : Int)))
theorem f_slices_Contains_int.ok (a0 : List Int) (a1 : Int) (r : Bool) (H : f_slices_Contains_int.f a0 a1 = some r) : Pv.Fn Try.prog 38 [.im (.row (a0.map (encInt .i64))), iV .i64 a1] [] 0 (fun x o => x = bV r ∧ o = []) := by
  unfold f_slices_Contains_int.f at H
  refine Fn.bodyK [] Try.func38 rfl rfl (fun Γ hP hn => ?_)
  have hm : Try.prog.follows .mixedOrders = true := by kernel_rfl
  replace hn : Γ.n = 9 := hn
  refine AWp.seq ?_
  refine reg hP hn hm [] [0, 1] [] ⟨[(0, .im (.row (a0.map (encInt .i64)))), (1, iV .i64 a1)], [], 0⟩ [] (by kernel_rfl) trivial ?_
  refine AWp.seq ?_
  obtain ⟨t4408, e4409, H⟩ := bind_of H
  refine reg hP hn hm [(2, .call [] [] [] [] 0 (iV .i64 t4408) [])] [4] [] ⟨[(4, bV (decide (t4408 ≥ (0 : Int))))], [], 0⟩ [Enters Try.prog 54, Pv.Fn Try.prog 54 [.im (.row (a0.map (encInt .i64))), iV .i64 a1] [] 0 (fun r o => r = iV .i64 t4408 ∧ o = [])] (by kernel_rfl) ⟨by exact Try.call54, by exact f_slices_Index_int.ok a0 a1 t4408 e4409, trivial⟩ ?_
  refine AWp.conv (inv := []) (vk := []) (e0 := []) (t := ⟨[(4, bV (decide (t4408 ≥ (0 : Int))))], [], 0⟩) (by kernel_rfl) ?_
  refine AWp.ret ?_
  obtain rfl := Option.some.inj H
  exact Exists.intro _ (And.intro (fun _ _ h => h) (And.intro (.inl rfl) (And.intro rfl (And.intro (by kernel_rfl) (by kernel_rfl)))))
def f_plan_Do.l0 (a0 : List Tplan_Item) (a1 : Tplan_Step) (a2 : Int) (x4423 : List Tplan_Item) (x4424 : Int) (x4425 : Int) : Option ((List Tplan_Item) × Int) := if (decide (x4425 < (a0.length : Int))) = true then ((((at? a0 x4425) >>= fun b4430 => (f_slices_Contains_int.f a1.f0 b4430.f0) >>= fun t4435 => if (!t4435) = true then ((chk ((x4423.length + [b4430].length) * 32 ≤ 140737488355328)) >>= fun _ => some (x4423 ++ [b4430], x4424)) else ((f_block_Low.f a1.f1 (if (0 : Int) > b4430.f1.f0 then (0 : Int) else b4430.f1.f0)) >>= fun t4442 => ((if (decide (x4424 < (0 : Int))) = true then (some true) else (some (decide ((IntKind.i64.wrap ((if (0 : Int) > b4430.f1.f0 then (0 : Int) else b4430.f1.f0) - (Int.tmod (if (0 : Int) > b4430.f1.f0 then (0 : Int) else b4430.f1.f0) (IntKind.i64.wrap ((64 : Int) * 2 ^ (min (Int.toNat (IntKind.u64.wrap ((2 : Int) * (IntKind.u64.wrap ((if (if (4 : Int) < a1.f1 then (4 : Int) else a1.f1) > (0 : Int) then (if (4 : Int) < a1.f1 then (4 : Int) else a1.f1) else (0 : Int))))))) 64)))))) < x4424)))) : Option (Bool)) >>= fun x4446 => ((if x4446 = true then (some (IntKind.i64.wrap ((if (0 : Int) > b4430.f1.f0 then (0 : Int) else b4430.f1.f0) - (Int.tmod (if (0 : Int) > b4430.f1.f0 then (0 : Int) else b4430.f1.f0) (IntKind.i64.wrap ((64 : Int) * 2 ^ (min (Int.toNat (IntKind.u64.wrap ((2 : Int) * (IntKind.u64.wrap ((if (if (4 : Int) < a1.f1 then (4 : Int) else a1.f1) > (0 : Int) then (if (4 : Int) < a1.f1 then (4 : Int) else a1.f1) else (0 : Int))))))) 64))))))) else (some x4424)) : Option (Int)) >>= fun x4448 => some (x4423, x4448))) : Option ((List Tplan_Item) × Int)) >>= fun oo => match oo with | (x4449, x4450) => (f_plan_Do.l0 a0 a1 a2 x4449 x4450 (IntKind.i64.wrap (x4425 + (1 : Int))))) else (some (x4423, x4424))
partial_fixpoint
def f_plan_Do.f (a0 : List Tplan_Item) (a1 : Tplan_Step) (a2 : Int) : Option (List Tplan_Item) := (f_plan_Do.l0 a0 a1 a2 [] (-1) 0) >>= fun oo => match oo with | (x4451, x4452) => (if (decide (x4452 < (0 : Int))) = true then (some x4451) else ((f_block_Width.f a1.f1) >>= fun t4457 => (chk ((x4451.length + [(⟨a2, (⟨x4452, IntKind.i64.wrap (x4452 + (IntKind.i64.wrap ((64 : Int) * 2 ^ (min (Int.toNat (IntKind.u64.wrap ((2 : Int) * (IntKind.u64.wrap ((if (if (4 : Int) < a1.f1 then (4 : Int) else a1.f1) > (0 : Int) then (if (4 : Int) < a1.f1 then (4 : Int) else a1.f1) else (0 : Int))))))) 64)))), a1.f1⟩ : Tblock_Meta)⟩ : Tplan_Item)].length) * 32 ≤ 140737488355328)) >>= fun _ => some (x4451 ++ [(⟨a2, (⟨x4452, IntKind.i64.wrap (x4452 + (IntKind.i64.wrap ((64 : Int) * 2 ^ (min (Int.toNat (IntKind.u64.wrap ((2 : Int) * (IntKind.u64.wrap ((if (if (4 : Int) < a1.f1 then (4 : Int) else a1.f1) > (0 : Int) then (if (4 : Int) < a1.f1 then (4 : Int) else a1.f1) else (0 : Int))))))) 64)))), a1.f1⟩ : Tblock_Meta)⟩ : Tplan_Item)])))
theorem f_plan_Do.ok (a0 : List Tplan_Item) (a1 : Tplan_Step) (a2 : Int) (r : List Tplan_Item) (H : f_plan_Do.f a0 a1 a2 = some r) : Pv.Fn Try.prog 25 [.im (.row (a0.map eplan_Item)), .agg (aplan_Step a1), iV .i64 a2] [] 0 (fun x o => x = .own 0 ∧ o = [(0, some (.row 4 89 (r.map eplan_Item)))]) := by
  unfold f_plan_Do.f at H
  refine Fn.bodyK [0] Try.func25 rfl rfl (fun Γ hP hn => ?_)
  have hm : Try.prog.follows .mixedOrders = true := by kernel_rfl
  replace hn : Γ.n = 61 := hn
  refine AWp.seq ?_
  refine reg hP hn hm [(0, .k 0)] [0, 2, 4] [0] ⟨[(0, .im (.row (a0.map eplan_Item))), (2, iV .i64 a2), (4, .ptr 0 0 0)], [(0, some (.box 33 (aplan_Step a1)))], 0⟩ [] (by kernel_rfl) trivial ?_
  refine AWp.seq ?_
  refine reg hP hn hm [] [0, 2, 4, 7] [0] ⟨[(0, .im (.row (a0.map eplan_Item))), (2, iV .i64 a2), (4, .ptr 0 0 0), (7, .none0)], [(0, some (.box 33 (aplan_Step a1)))], 0⟩ [] (by kernel_rfl) trivial ?_
  refine AWp.seq ?_
  refine reg hP hn hm [] [0, 2, 4, 7, 8] [0] ⟨[(0, .im (.row (a0.map eplan_Item))), (2, iV .i64 a2), (4, .ptr 0 0 0), (7, .none0), (8, iV .i64 (-1))], [(0, some (.box 33 (aplan_Step a1)))], 0⟩ [] (by kernel_rfl) trivial ?_
  refine AWp.seq ?_
  refine AWp.seq ?_
  refine reg hP hn hm [(1, .any (iV .i64 (a0.length : Int)))] [2, 4, 7, 8, 12, 13, 14] [0] ⟨[(2, iV .i64 a2), (4, .ptr 0 0 0), (7, .none0), (8, iV .i64 (-1)), (12, .im (.row (a0.map eplan_Item))), (13, iV .i64 (a0.length : Int)), (14, iV .i64 0)], [(0, some (.box 33 (aplan_Step a1)))], 0⟩ [((a0.map eplan_Item).length : Int) = (a0.length : Int)] (by kernel_rfl) ⟨by rw [len_map], trivial⟩ ?_
  refine AWp.block ?_
  obtain ⟨o4460, e4461, H⟩ := bind_of H
  refine AWp.loop (LWp.conv (inv := [(0, 6)]) (vk := []) (e0 := [7]) (t := ⟨[(2, iV .i64 a2), (4, .ptr 6 0 0), (7, .own 7), (8, iV .i64 (-1)), (12, .im (.row (a0.map eplan_Item))), (13, iV .i64 (a0.length : Int)), (14, iV .i64 0)], [(6, some (.box 33 (aplan_Step a1))), (7, some (.row 4 89 ([].map eplan_Item)))], 0⟩) (by kernel_rfl) ?_)
  refine LWp.mono (Q := fun e s => (match (generalizing := false) o4460 with | (x4451, x4452) => e = .exit 0 ∧ s = ⟨[(2, iV .i64 a2), (4, .ptr 17 0 0), (7, .own 18), (8, iV .i64 x4452)], [(17, some (.box 33 (aplan_Step a1))), (18, some (.row 4 89 (x4451.map eplan_Item)))], 0⟩)) (LWp.cv (withBody (fun body hbody => ?_))) ?_
  · refine f_plan_Do.l0.partial_correctness a0 a1 a2 (motive := fun x4423 x4424 x4425 o4460 => LWp Γ body (fun e s => ∃ t, Cv Γ s t ∧ (match (generalizing := false) o4460 with | (x4451, x4452) => e = .exit 0 ∧ t = ⟨[(2, iV .i64 a2), (4, .ptr 17 0 0), (7, .own 18), (8, iV .i64 x4452)], [(17, some (.box 33 (aplan_Step a1))), (18, some (.row 4 89 (x4451.map eplan_Item)))], 0⟩)) ⟨[(2, iV .i64 a2), (4, .ptr 6 0 0), (7, .own 7), (8, iV .i64 x4424), (12, .im (.row (a0.map eplan_Item))), (13, iV .i64 (a0.length : Int)), (14, iV .i64 x4425)], [(6, some (.box 33 (aplan_Step a1))), (7, some (.row 4 89 (x4423.map eplan_Item)))], 0⟩) ?_ _ _ _ _ e4461
    clear H e4461 o4460; intro self ih x4423 x4424 x4425 o4460 H
    subst hbody
    refine LWp.round ?_
    refine AWp.seq ?_
    refine reg hP hn hm [] [2, 4, 7, 8, 12, 13, 14, 15] [6, 7] ⟨[(2, iV .i64 a2), (4, .ptr 6 0 0), (7, .own 7), (8, iV .i64 x4424), (12, .im (.row (a0.map eplan_Item))), (13, iV .i64 (a0.length : Int)), (14, iV .i64 x4425), (15, bV (decide (x4425 < (a0.length : Int))))], [(6, some (.box 33 (aplan_Step a1))), (7, some (.row 4 89 (x4423.map eplan_Item)))], 0⟩ [] (by kernel_rfl) trivial ?_
    refine AWp.seq ?_
    refine AWp.cond (decide (x4425 < (a0.length : Int))) rfl (fun c4426 => ?_) (fun c4426 => ?_)
    · replace H := (ifT c4426).symm.trans H
      refine AWp.skip ?_
      refine AWp.seq ?_
      obtain ⟨o4462, e4463, H⟩ := bind_of H
      refine AWp.mono (Q := fun e s => (match (generalizing := false) o4462 with | (x4449, x4450) => e = .normal ∧ s = ⟨[(2, iV .i64 a2), (4, .ptr 15 0 0), (7, .own 16), (8, iV .i64 x4450), (12, .im (.row (a0.map eplan_Item))), (13, iV .i64 (a0.length : Int)), (14, iV .i64 x4425)], [(15, some (.box 33 (aplan_Step a1))), (16, some (.row 4 89 (x4449.map eplan_Item)))], 0⟩)) (AWp.cv ?_) ?_
      · replace H := e4463; clear e4463
        refine AWp.block ?_
        refine AWp.seq ?_
        obtain ⟨b4430, p4431, q4432, H⟩ := at_of H
        refine reg hP hn hm [(0, .c (eplan_Item b4430)), (2, .k 8)] [2, 4, 7, 8, 10, 12, 13, 14] [6, 7, 8] ⟨[(2, iV .i64 a2), (4, .ptr 6 0 0), (7, .own 7), (8, iV .i64 x4424), (10, .ptr 8 0 0), (12, .im (.row (a0.map eplan_Item))), (13, iV .i64 (a0.length : Int)), (14, iV .i64 x4425)], [(6, some (.box 33 (aplan_Step a1))), (7, some (.row 4 89 (x4423.map eplan_Item))), (8, some (.box 89 [iV .i64 b4430.f0, iV .i64 b4430.f1.f0, iV .i64 b4430.f1.f1, iV .i64 b4430.f1.f2]))], 0⟩ [0 ≤ x4425, (a0.map eplan_Item)[(Int.toNat (x4425))]? = some (eplan_Item b4430)] (by kernel_rfl) ⟨by exact p4431, by exact el_map eplan_Item q4432, trivial⟩ ?_
        refine AWp.seq ?_
        refine AWp.seq ?_
        obtain ⟨t4435, e4436, H⟩ := bind_of H
        refine reg hP hn hm [(4, .call [] [] [] [] 0 (bV t4435) [])] [2, 4, 7, 8, 10, 12, 13, 14, 23] [6, 7, 8] ⟨[(2, iV .i64 a2), (4, .ptr 6 0 0), (7, .own 7), (8, iV .i64 x4424), (10, .ptr 8 0 0), (12, .im (.row (a0.map eplan_Item))), (13, iV .i64 (a0.length : Int)), (14, iV .i64 x4425), (23, bV (!t4435))], [(6, some (.box 33 (aplan_Step a1))), (7, some (.row 4 89 (x4423.map eplan_Item))), (8, some (.box 89 [iV .i64 b4430.f0, iV .i64 b4430.f1.f0, iV .i64 b4430.f1.f1, iV .i64 b4430.f1.f2]))], 0⟩ [Enters Try.prog 38, Pv.Fn Try.prog 38 [.im (.row (a1.f0.map (encInt .i64))), iV .i64 b4430.f0] [] 0 (fun r o => r = bV t4435 ∧ o = [])] (by kernel_rfl) ⟨by exact Try.call38, by exact f_slices_Contains_int.ok a1.f0 b4430.f0 t4435 e4436, trivial⟩ ?_
        refine AWp.cond (!t4435) rfl (fun c4437 => ?_) (fun c4437 => ?_)
        · replace H := (ifT c4437).symm.trans H
          refine AWp.seq ?_
          obtain ⟨c4439, H⟩ := chk_of H
          refine reg hP hn hm [(2, .app 9 ([b4430].map eplan_Item)), (3, .app 10 ((x4423 ++ [b4430]).map eplan_Item))] [2, 4, 7, 8, 12, 13, 14] [6, 10] ⟨[(2, iV .i64 a2), (4, .ptr 6 0 0), (7, .own 10), (8, iV .i64 x4424), (12, .im (.row (a0.map eplan_Item))), (13, iV .i64 (a0.length : Int)), (14, iV .i64 x4425)], [(6, some (.box 33 (aplan_Step a1))), (10, some (.row 4 89 ((x4423 ++ [b4430]).map eplan_Item)))], 0⟩ [[b4430].map eplan_Item = [[iI .i64 b4430.f0, iI .i64 b4430.f1.f0, iI .i64 b4430.f1.f1, iI .i64 b4430.f1.f2]], (x4423 ++ [b4430]).map eplan_Item = (x4423.map eplan_Item) ++ ([b4430].map eplan_Item), ∀ c ∈ ([b4430].map eplan_Item), c.length = 4, ∀ c ∈ ([b4430].map eplan_Item), leaves (c.map .im) = true, ((x4423.map eplan_Item).length + ([b4430].map eplan_Item).length) * 32 ≤ 140737488355328] (by kernel_rfl) ⟨by exact rfl, by simp, by exact all_len _ _ _ (fun _ => rfl), by exact all_leaf _ _ (fun _ => rfl), by simpa using c4439, trivial⟩ ?_
          refine AWp.exit ?_
          obtain rfl := Option.some.inj H
          exact Exists.intro _ (And.intro (fun _ _ h => h.conv (inv := [(6, 15), (10, 16)]) (vk := []) (e0 := []) (t := ⟨[(2, iV .i64 a2), (4, .ptr 15 0 0), (7, .own 16), (8, iV .i64 x4424), (12, .im (.row (a0.map eplan_Item))), (13, iV .i64 (a0.length : Int)), (14, iV .i64 x4425)], [(15, some (.box 33 (aplan_Step a1))), (16, some (.row 4 89 ((x4423 ++ [b4430]).map eplan_Item)))], 0⟩) (by kernel_rfl)) (And.intro rfl rfl))
        · replace H := (ifF c4437).symm.trans H
          refine AWp.skip ?_
          refine AWp.seq ?_
          obtain ⟨t4442, e4443, H⟩ := bind_of H
          refine reg hP hn hm [(5, .more xMax), (6, .call [] [] [] [] 0 (iV .i64 (IntKind.i64.wrap ((if (0 : Int) > b4430.f1.f0 then (0 : Int) else b4430.f1.f0) - (Int.tmod (if (0 : Int) > b4430.f1.f0 then (0 : Int) else b4430.f1.f0) (IntKind.i64.wrap ((64 : Int) * 2 ^ (min (Int.toNat (IntKind.u64.wrap ((2 : Int) * (IntKind.u64.wrap ((if (if (4 : Int) < a1.f1 then (4 : Int) else a1.f1) > (0 : Int) then (if (4 : Int) < a1.f1 then (4 : Int) else a1.f1) else (0 : Int))))))) 64))))))) [])] [2, 4, 7, 8, 11, 12, 13, 14] [6, 7] ⟨[(2, iV .i64 a2), (4, .ptr 6 0 0), (7, .own 7), (8, iV .i64 x4424), (11, iV .i64 (IntKind.i64.wrap ((if (0 : Int) > b4430.f1.f0 then (0 : Int) else b4430.f1.f0) - (Int.tmod (if (0 : Int) > b4430.f1.f0 then (0 : Int) else b4430.f1.f0) (IntKind.i64.wrap ((64 : Int) * 2 ^ (min (Int.toNat (IntKind.u64.wrap ((2 : Int) * (IntKind.u64.wrap ((if (if (4 : Int) < a1.f1 then (4 : Int) else a1.f1) > (0 : Int) then (if (4 : Int) < a1.f1 then (4 : Int) else a1.f1) else (0 : Int))))))) 64))))))), (12, .im (.row (a0.map eplan_Item))), (13, iV .i64 (a0.length : Int)), (14, iV .i64 x4425)], [(6, some (.box 33 (aplan_Step a1))), (7, some (.row 4 89 (x4423.map eplan_Item)))], 0⟩ [Enters Try.prog 36, Pv.Fn Try.prog 36 [iV .i64 a1.f1, iV .i64 (if (0 : Int) > b4430.f1.f0 then (0 : Int) else b4430.f1.f0)] [] 0 (fun r o => r = iV .i64 (IntKind.i64.wrap ((if (0 : Int) > b4430.f1.f0 then (0 : Int) else b4430.f1.f0) - (Int.tmod (if (0 : Int) > b4430.f1.f0 then (0 : Int) else b4430.f1.f0) (IntKind.i64.wrap ((64 : Int) * 2 ^ (min (Int.toNat (IntKind.u64.wrap ((2 : Int) * (IntKind.u64.wrap ((if (if (4 : Int) < a1.f1 then (4 : Int) else a1.f1) > (0 : Int) then (if (4 : Int) < a1.f1 then (4 : Int) else a1.f1) else (0 : Int))))))) 64)))))) ∧ o = [])] (by kernel_rfl) ⟨by exact Try.call36, by exact f_block_Low.ok a1.f1 (if (0 : Int) > b4430.f1.f0 then (0 : Int) else b4430.f1.f0) t4442 e4443, trivial⟩ ?_
          refine AWp.seq ?_
          obtain ⟨o4464, e4465, H⟩ := bind_of H
          refine AWp.mono (Q := fun e s => (match (generalizing := false) o4464 with | x4446 => e = .normal ∧ s = ⟨[(2, iV .i64 a2), (4, .ptr 11 0 0), (7, .own 12), (8, iV .i64 x4424), (11, iV .i64 (IntKind.i64.wrap ((if (0 : Int) > b4430.f1.f0 then (0 : Int) else b4430.f1.f0) - (Int.tmod (if (0 : Int) > b4430.f1.f0 then (0 : Int) else b4430.f1.f0) (IntKind.i64.wrap ((64 : Int) * 2 ^ (min (Int.toNat (IntKind.u64.wrap ((2 : Int) * (IntKind.u64.wrap ((if (if (4 : Int) < a1.f1 then (4 : Int) else a1.f1) > (0 : Int) then (if (4 : Int) < a1.f1 then (4 : Int) else a1.f1) else (0 : Int))))))) 64))))))), (12, .im (.row (a0.map eplan_Item))), (13, iV .i64 (a0.length : Int)), (14, iV .i64 x4425), (41, bV x4446)], [(11, some (.box 33 (aplan_Step a1))), (12, some (.row 4 89 (x4423.map eplan_Item)))], 0⟩)) (AWp.cv ?_) ?_
          · replace H := e4465; clear e4465
            rcases Bool.eq_false_or_eq_true (decide (x4424 < (0 : Int))) with c4445 | c4445
            · replace H := (ifT c4445).symm.trans H
              refine reg hP hn hm [(2, .b true)] [2, 4, 7, 8, 11, 12, 13, 14, 41] [6, 7] ⟨[(2, iV .i64 a2), (4, .ptr 6 0 0), (7, .own 7), (8, iV .i64 x4424), (11, iV .i64 (IntKind.i64.wrap ((if (0 : Int) > b4430.f1.f0 then (0 : Int) else b4430.f1.f0) - (Int.tmod (if (0 : Int) > b4430.f1.f0 then (0 : Int) else b4430.f1.f0) (IntKind.i64.wrap ((64 : Int) * 2 ^ (min (Int.toNat (IntKind.u64.wrap ((2 : Int) * (IntKind.u64.wrap ((if (if (4 : Int) < a1.f1 then (4 : Int) else a1.f1) > (0 : Int) then (if (4 : Int) < a1.f1 then (4 : Int) else a1.f1) else (0 : Int))))))) 64))))))), (12, .im (.row (a0.map eplan_Item))), (13, iV .i64 (a0.length : Int)), (14, iV .i64 x4425), (41, bV true)], [(6, some (.box 33 (aplan_Step a1))), (7, some (.row 4 89 (x4423.map eplan_Item)))], 0⟩ [(decide (x4424 < (0 : Int))) = true] (by kernel_rfl) ⟨by exact c4445, trivial⟩ ?_
              obtain rfl := Option.some.inj H
              exact Exists.intro _ (And.intro (fun _ _ h => h.conv (inv := [(6, 11), (7, 12)]) (vk := []) (e0 := []) (t := ⟨[(2, iV .i64 a2), (4, .ptr 11 0 0), (7, .own 12), (8, iV .i64 x4424), (11, iV .i64 (IntKind.i64.wrap ((if (0 : Int) > b4430.f1.f0 then (0 : Int) else b4430.f1.f0) - (Int.tmod (if (0 : Int) > b4430.f1.f0 then (0 : Int) else b4430.f1.f0) (IntKind.i64.wrap ((64 : Int) * 2 ^ (min (Int.toNat (IntKind.u64.wrap ((2 : Int) * (IntKind.u64.wrap ((if (if (4 : Int) < a1.f1 then (4 : Int) else a1.f1) > (0 : Int) then (if (4 : Int) < a1.f1 then (4 : Int) else a1.f1) else (0 : Int))))))) 64))))))), (12, .im (.row (a0.map eplan_Item))), (13, iV .i64 (a0.length : Int)), (14, iV .i64 x4425), (41, bV true)], [(11, some (.box 33 (aplan_Step a1))), (12, some (.row 4 89 (x4423.map eplan_Item)))], 0⟩) (by kernel_rfl)) (And.intro rfl rfl))
            · replace H := (ifF c4445).symm.trans H
              refine reg hP hn hm [(2, .b false)] [2, 4, 7, 8, 11, 12, 13, 14, 38, 39, 40, 41] [6, 7] ⟨[(2, iV .i64 a2), (4, .ptr 6 0 0), (7, .own 7), (8, iV .i64 x4424), (11, iV .i64 (IntKind.i64.wrap ((if (0 : Int) > b4430.f1.f0 then (0 : Int) else b4430.f1.f0) - (Int.tmod (if (0 : Int) > b4430.f1.f0 then (0 : Int) else b4430.f1.f0) (IntKind.i64.wrap ((64 : Int) * 2 ^ (min (Int.toNat (IntKind.u64.wrap ((2 : Int) * (IntKind.u64.wrap ((if (if (4 : Int) < a1.f1 then (4 : Int) else a1.f1) > (0 : Int) then (if (4 : Int) < a1.f1 then (4 : Int) else a1.f1) else (0 : Int))))))) 64))))))), (12, .im (.row (a0.map eplan_Item))), (13, iV .i64 (a0.length : Int)), (14, iV .i64 x4425), (38, iV .i64 (IntKind.i64.wrap ((if (0 : Int) > b4430.f1.f0 then (0 : Int) else b4430.f1.f0) - (Int.tmod (if (0 : Int) > b4430.f1.f0 then (0 : Int) else b4430.f1.f0) (IntKind.i64.wrap ((64 : Int) * 2 ^ (min (Int.toNat (IntKind.u64.wrap ((2 : Int) * (IntKind.u64.wrap ((if (if (4 : Int) < a1.f1 then (4 : Int) else a1.f1) > (0 : Int) then (if (4 : Int) < a1.f1 then (4 : Int) else a1.f1) else (0 : Int))))))) 64))))))), (39, iV .i64 x4424), (40, bV (decide ((IntKind.i64.wrap ((if (0 : Int) > b4430.f1.f0 then (0 : Int) else b4430.f1.f0) - (Int.tmod (if (0 : Int) > b4430.f1.f0 then (0 : Int) else b4430.f1.f0) (IntKind.i64.wrap ((64 : Int) * 2 ^ (min (Int.toNat (IntKind.u64.wrap ((2 : Int) * (IntKind.u64.wrap ((if (if (4 : Int) < a1.f1 then (4 : Int) else a1.f1) > (0 : Int) then (if (4 : Int) < a1.f1 then (4 : Int) else a1.f1) else (0 : Int))))))) 64)))))) < x4424))), (41, bV (decide ((IntKind.i64.wrap ((if (0 : Int) > b4430.f1.f0 then (0 : Int) else b4430.f1.f0) - (Int.tmod (if (0 : Int) > b4430.f1.f0 then (0 : Int) else b4430.f1.f0) (IntKind.i64.wrap ((64 : Int) * 2 ^ (min (Int.toNat (IntKind.u64.wrap ((2 : Int) * (IntKind.u64.wrap ((if (if (4 : Int) < a1.f1 then (4 : Int) else a1.f1) > (0 : Int) then (if (4 : Int) < a1.f1 then (4 : Int) else a1.f1) else (0 : Int))))))) 64)))))) < x4424)))], [(6, some (.box 33 (aplan_Step a1))), (7, some (.row 4 89 (x4423.map eplan_Item)))], 0⟩ [(decide (x4424 < (0 : Int))) = false] (by kernel_rfl) ⟨by exact c4445, trivial⟩ ?_
              obtain rfl := Option.some.inj H
              exact Exists.intro _ (And.intro (fun _ _ h => h.conv (inv := [(6, 11), (7, 12)]) (vk := []) (e0 := []) (t := ⟨[(2, iV .i64 a2), (4, .ptr 11 0 0), (7, .own 12), (8, iV .i64 x4424), (11, iV .i64 (IntKind.i64.wrap ((if (0 : Int) > b4430.f1.f0 then (0 : Int) else b4430.f1.f0) - (Int.tmod (if (0 : Int) > b4430.f1.f0 then (0 : Int) else b4430.f1.f0) (IntKind.i64.wrap ((64 : Int) * 2 ^ (min (Int.toNat (IntKind.u64.wrap ((2 : Int) * (IntKind.u64.wrap ((if (if (4 : Int) < a1.f1 then (4 : Int) else a1.f1) > (0 : Int) then (if (4 : Int) < a1.f1 then (4 : Int) else a1.f1) else (0 : Int))))))) 64))))))), (12, .im (.row (a0.map eplan_Item))), (13, iV .i64 (a0.length : Int)), (14, iV .i64 x4425), (41, bV (decide ((IntKind.i64.wrap ((if (0 : Int) > b4430.f1.f0 then (0 : Int) else b4430.f1.f0) - (Int.tmod (if (0 : Int) > b4430.f1.f0 then (0 : Int) else b4430.f1.f0) (IntKind.i64.wrap ((64 : Int) * 2 ^ (min (Int.toNat (IntKind.u64.wrap ((2 : Int) * (IntKind.u64.wrap ((if (if (4 : Int) < a1.f1 then (4 : Int) else a1.f1) > (0 : Int) then (if (4 : Int) < a1.f1 then (4 : Int) else a1.f1) else (0 : Int))))))) 64)))))) < x4424)))], [(11, some (.box 33 (aplan_Step a1))), (12, some (.row 4 89 (x4423.map eplan_Item)))], 0⟩) (by kernel_rfl)) (And.intro rfl rfl))
          · obtain ⟨x4446, rfl⟩ : ∃ z, z = o4464 := ⟨_, rfl⟩
            rintro e s ⟨rfl, rfl⟩
            obtain ⟨o4466, e4467, H⟩ := bind_of H
            refine AWp.mono (Q := fun e s => (match (generalizing := false) o4466 with | x4448 => e = .normal ∧ s = ⟨[(2, iV .i64 a2), (4, .ptr 13 0 0), (7, .own 14), (8, iV .i64 x4448), (12, .im (.row (a0.map eplan_Item))), (13, iV .i64 (a0.length : Int)), (14, iV .i64 x4425)], [(13, some (.box 33 (aplan_Step a1))), (14, some (.row 4 89 (x4423.map eplan_Item)))], 0⟩)) (AWp.cv ?_) ?_
            · replace H := e4467; clear e4467
              refine AWp.cond x4446 rfl (fun c4447 => ?_) (fun c4447 => ?_)
              · replace H := (ifT c4447).symm.trans H
                refine reg hP hn hm [] [2, 4, 7, 8, 12, 13, 14] [11, 12] ⟨[(2, iV .i64 a2), (4, .ptr 11 0 0), (7, .own 12), (8, iV .i64 (IntKind.i64.wrap ((if (0 : Int) > b4430.f1.f0 then (0 : Int) else b4430.f1.f0) - (Int.tmod (if (0 : Int) > b4430.f1.f0 then (0 : Int) else b4430.f1.f0) (IntKind.i64.wrap ((64 : Int) * 2 ^ (min (Int.toNat (IntKind.u64.wrap ((2 : Int) * (IntKind.u64.wrap ((if (if (4 : Int) < a1.f1 then (4 : Int) else a1.f1) > (0 : Int) then (if (4 : Int) < a1.f1 then (4 : Int) else a1.f1) else (0 : Int))))))) 64))))))), (12, .im (.row (a0.map eplan_Item))), (13, iV .i64 (a0.length : Int)), (14, iV .i64 x4425)], [(11, some (.box 33 (aplan_Step a1))), (12, some (.row 4 89 (x4423.map eplan_Item)))], 0⟩ [] (by kernel_rfl) trivial ?_
                obtain rfl := Option.some.inj H
                exact Exists.intro _ (And.intro (fun _ _ h => h.conv (inv := [(11, 13), (12, 14)]) (vk := []) (e0 := []) (t := ⟨[(2, iV .i64 a2), (4, .ptr 13 0 0), (7, .own 14), (8, iV .i64 (IntKind.i64.wrap ((if (0 : Int) > b4430.f1.f0 then (0 : Int) else b4430.f1.f0) - (Int.tmod (if (0 : Int) > b4430.f1.f0 then (0 : Int) else b4430.f1.f0) (IntKind.i64.wrap ((64 : Int) * 2 ^ (min (Int.toNat (IntKind.u64.wrap ((2 : Int) * (IntKind.u64.wrap ((if (if (4 : Int) < a1.f1 then (4 : Int) else a1.f1) > (0 : Int) then (if (4 : Int) < a1.f1 then (4 : Int) else a1.f1) else (0 : Int))))))) 64))))))), (12, .im (.row (a0.map eplan_Item))), (13, iV .i64 (a0.length : Int)), (14, iV .i64 x4425)], [(13, some (.box 33 (aplan_Step a1))), (14, some (.row 4 89 (x4423.map eplan_Item)))], 0⟩) (by kernel_rfl)) (And.intro rfl rfl))
              · replace H := (ifF c4447).symm.trans H
                refine AWp.skip ?_
                obtain rfl := Option.some.inj H
                exact Exists.intro _ (And.intro (fun _ _ h => h.conv (inv := [(11, 13), (12, 14)]) (vk := []) (e0 := []) (t := ⟨[(2, iV .i64 a2), (4, .ptr 13 0 0), (7, .own 14), (8, iV .i64 x4424), (12, .im (.row (a0.map eplan_Item))), (13, iV .i64 (a0.length : Int)), (14, iV .i64 x4425)], [(13, some (.box 33 (aplan_Step a1))), (14, some (.row 4 89 (x4423.map eplan_Item)))], 0⟩) (by kernel_rfl)) (And.intro rfl rfl))
            · obtain ⟨x4448, rfl⟩ : ∃ z, z = o4466 := ⟨_, rfl⟩
              rintro e s ⟨rfl, rfl⟩
              obtain rfl := Option.some.inj H
              exact Exists.intro _ (And.intro (fun _ _ h => h.conv (inv := [(13, 15), (14, 16)]) (vk := []) (e0 := []) (t := ⟨[(2, iV .i64 a2), (4, .ptr 15 0 0), (7, .own 16), (8, iV .i64 x4448), (12, .im (.row (a0.map eplan_Item))), (13, iV .i64 (a0.length : Int)), (14, iV .i64 x4425)], [(15, some (.box 33 (aplan_Step a1))), (16, some (.row 4 89 (x4423.map eplan_Item)))], 0⟩) (by kernel_rfl)) (And.intro rfl rfl))
      · obtain ⟨x4449, x4450⟩ := o4462
        rintro e s ⟨rfl, rfl⟩
        refine reg hP hn hm [] [2, 4, 7, 8, 12, 13, 14] [15, 16] ⟨[(2, iV .i64 a2), (4, .ptr 15 0 0), (7, .own 16), (8, iV .i64 x4450), (12, .im (.row (a0.map eplan_Item))), (13, iV .i64 (a0.length : Int)), (14, iV .i64 (IntKind.i64.wrap (x4425 + (1 : Int))))], [(15, some (.box 33 (aplan_Step a1))), (16, some (.row 4 89 (x4449.map eplan_Item)))], 0⟩ [] (by kernel_rfl) trivial ?_
        exact LWp.conv (inv := [(15, 6), (16, 7)]) (vk := []) (e0 := []) (t := ⟨[(2, iV .i64 a2), (4, .ptr 6 0 0), (7, .own 7), (8, iV .i64 x4450), (12, .im (.row (a0.map eplan_Item))), (13, iV .i64 (a0.length : Int)), (14, iV .i64 (IntKind.i64.wrap (x4425 + (1 : Int))))], [(6, some (.box 33 (aplan_Step a1))), (7, some (.row 4 89 (x4449.map eplan_Item)))], 0⟩) (by kernel_rfl) (ih _ _ _ _ H)
    · replace H := (ifF c4426).symm.trans H
      refine AWp.exit ?_
      obtain rfl := Option.some.inj H
      exact Exists.intro _ (And.intro (fun _ _ h => h.conv (inv := [(6, 17), (7, 18)]) (vk := []) (e0 := []) (t := ⟨[(2, iV .i64 a2), (4, .ptr 17 0 0), (7, .own 18), (8, iV .i64 x4424)], [(17, some (.box 33 (aplan_Step a1))), (18, some (.row 4 89 (x4423.map eplan_Item)))], 0⟩) (by kernel_rfl)) (And.intro rfl rfl))
  · obtain ⟨x4451, x4452⟩ := o4460
    rintro e s ⟨rfl, rfl⟩
    refine AWp.seq ?_
    refine AWp.seq ?_
    refine reg hP hn hm [] [2, 4, 7, 8, 45] [17, 18] ⟨[(2, iV .i64 a2), (4, .ptr 17 0 0), (7, .own 18), (8, iV .i64 x4452), (45, bV (decide (x4452 < (0 : Int))))], [(17, some (.box 33 (aplan_Step a1))), (18, some (.row 4 89 (x4451.map eplan_Item)))], 0⟩ [] (by kernel_rfl) trivial ?_
    refine AWp.cond (decide (x4452 < (0 : Int))) rfl (fun c4453 => ?_) (fun c4453 => ?_)
    · replace H := (ifT c4453).symm.trans H
      refine AWp.seq ?_
      refine reg hP hn hm [] [6] [18] ⟨[(6, .own 18)], [(18, some (.row 4 89 (x4451.map eplan_Item)))], 0⟩ [] (by kernel_rfl) trivial ?_
      refine AWp.conv (inv := [(18, 0)]) (vk := []) (e0 := []) (t := ⟨[(6, .own 0)], [(0, some (.row 4 89 (x4451.map eplan_Item)))], 0⟩) (by kernel_rfl) ?_
      refine AWp.ret ?_
      obtain rfl := Option.some.inj H
      exact Exists.intro _ (And.intro (fun _ _ h => h) (And.intro (.inl rfl) (And.intro rfl (And.intro (by kernel_rfl) (by kernel_rfl)))))
    · replace H := (ifF c4453).symm.trans H
      refine AWp.skip ?_
      refine AWp.seq ?_
      obtain ⟨t4457, e4458, H⟩ := bind_of H
      obtain ⟨c4459, H⟩ := chk_of H
      refine reg hP hn hm [(6, .call [] [] [] [] 0 (iV .i64 (IntKind.i64.wrap ((64 : Int) * 2 ^ (min (Int.toNat (IntKind.u64.wrap ((2 : Int) * (IntKind.u64.wrap ((if (if (4 : Int) < a1.f1 then (4 : Int) else a1.f1) > (0 : Int) then (if (4 : Int) < a1.f1 then (4 : Int) else a1.f1) else (0 : Int))))))) 64)))) []), (12, .app 19 ([(⟨a2, (⟨x4452, IntKind.i64.wrap (x4452 + (IntKind.i64.wrap ((64 : Int) * 2 ^ (min (Int.toNat (IntKind.u64.wrap ((2 : Int) * (IntKind.u64.wrap ((if (if (4 : Int) < a1.f1 then (4 : Int) else a1.f1) > (0 : Int) then (if (4 : Int) < a1.f1 then (4 : Int) else a1.f1) else (0 : Int))))))) 64)))), a1.f1⟩ : Tblock_Meta)⟩ : Tplan_Item)].map eplan_Item)), (13, .app 20 ((x4451 ++ [(⟨a2, (⟨x4452, IntKind.i64.wrap (x4452 + (IntKind.i64.wrap ((64 : Int) * 2 ^ (min (Int.toNat (IntKind.u64.wrap ((2 : Int) * (IntKind.u64.wrap ((if (if (4 : Int) < a1.f1 then (4 : Int) else a1.f1) > (0 : Int) then (if (4 : Int) < a1.f1 then (4 : Int) else a1.f1) else (0 : Int))))))) 64)))), a1.f1⟩ : Tblock_Meta)⟩ : Tplan_Item)]).map eplan_Item))] [6] [20] ⟨[(6, .own 20)], [(20, some (.row 4 89 ((x4451 ++ [(⟨a2, (⟨x4452, IntKind.i64.wrap (x4452 + (IntKind.i64.wrap ((64 : Int) * 2 ^ (min (Int.toNat (IntKind.u64.wrap ((2 : Int) * (IntKind.u64.wrap ((if (if (4 : Int) < a1.f1 then (4 : Int) else a1.f1) > (0 : Int) then (if (4 : Int) < a1.f1 then (4 : Int) else a1.f1) else (0 : Int))))))) 64)))), a1.f1⟩ : Tblock_Meta)⟩ : Tplan_Item)]).map eplan_Item)))], 0⟩ [Enters Try.prog 37, Pv.Fn Try.prog 37 [iV .i64 a1.f1] [] 0 (fun r o => r = iV .i64 (IntKind.i64.wrap ((64 : Int) * 2 ^ (min (Int.toNat (IntKind.u64.wrap ((2 : Int) * (IntKind.u64.wrap ((if (if (4 : Int) < a1.f1 then (4 : Int) else a1.f1) > (0 : Int) then (if (4 : Int) < a1.f1 then (4 : Int) else a1.f1) else (0 : Int))))))) 64))) ∧ o = []), [(⟨a2, (⟨x4452, IntKind.i64.wrap (x4452 + (IntKind.i64.wrap ((64 : Int) * 2 ^ (min (Int.toNat (IntKind.u64.wrap ((2 : Int) * (IntKind.u64.wrap ((if (if (4 : Int) < a1.f1 then (4 : Int) else a1.f1) > (0 : Int) then (if (4 : Int) < a1.f1 then (4 : Int) else a1.f1) else (0 : Int))))))) 64)))), a1.f1⟩ : Tblock_Meta)⟩ : Tplan_Item)].map eplan_Item = [[iI .i64 a2, iI .i64 x4452, iI .i64 (IntKind.i64.wrap (x4452 + (IntKind.i64.wrap ((64 : Int) * 2 ^ (min (Int.toNat (IntKind.u64.wrap ((2 : Int) * (IntKind.u64.wrap ((if (if (4 : Int) < a1.f1 then (4 : Int) else a1.f1) > (0 : Int) then (if (4 : Int) < a1.f1 then (4 : Int) else a1.f1) else (0 : Int))))))) 64))))), iI .i64 a1.f1]], (x4451 ++ [(⟨a2, (⟨x4452, IntKind.i64.wrap (x4452 + (IntKind.i64.wrap ((64 : Int) * 2 ^ (min (Int.toNat (IntKind.u64.wrap ((2 : Int) * (IntKind.u64.wrap ((if (if (4 : Int) < a1.f1 then (4 : Int) else a1.f1) > (0 : Int) then (if (4 : Int) < a1.f1 then (4 : Int) else a1.f1) else (0 : Int))))))) 64)))), a1.f1⟩ : Tblock_Meta)⟩ : Tplan_Item)]).map eplan_Item = (x4451.map eplan_Item) ++ ([(⟨a2, (⟨x4452, IntKind.i64.wrap (x4452 + (IntKind.i64.wrap ((64 : Int) * 2 ^ (min (Int.toNat (IntKind.u64.wrap ((2 : Int) * (IntKind.u64.wrap ((if (if (4 : Int) < a1.f1 then (4 : Int) else a1.f1) > (0 : Int) then (if (4 : Int) < a1.f1 then (4 : Int) else a1.f1) else (0 : Int))))))) 64)))), a1.f1⟩ : Tblock_Meta)⟩ : Tplan_Item)].map eplan_Item), ∀ c ∈ ([(⟨a2, (⟨x4452, IntKind.i64.wrap (x4452 + (IntKind.i64.wrap ((64 : Int) * 2 ^ (min (Int.toNat (IntKind.u64.wrap ((2 : Int) * (IntKind.u64.wrap ((if (if (4 : Int) < a1.f1 then (4 : Int) else a1.f1) > (0 : Int) then (if (4 : Int) < a1.f1 then (4 : Int) else a1.f1) else (0 : Int))))))) 64)))), a1.f1⟩ : Tblock_Meta)⟩ : Tplan_Item)].map eplan_Item), c.length = 4, ∀ c ∈ ([(⟨a2, (⟨x4452, IntKind.i64.wrap (x4452 + (IntKind.i64.wrap ((64 : Int) * 2 ^ (min (Int.toNat (IntKind.u64.wrap ((2 : Int) * (IntKind.u64.wrap ((if (if (4 : Int) < a1.f1 then (4 : Int) else a1.f1) > (0 : Int) then (if (4 : Int) < a1.f1 then (4 : Int) else a1.f1) else (0 : Int))))))) 64)))), a1.f1⟩ : Tblock_Meta)⟩ : Tplan_Item)].map eplan_Item), leaves (c.map .im) = true, ((x4451.map eplan_Item).length + ([(⟨a2, (⟨x4452, IntKind.i64.wrap (x4452 + (IntKind.i64.wrap ((64 : Int) * 2 ^ (min (Int.toNat (IntKind.u64.wrap ((2 : Int) * (IntKind.u64.wrap ((if (if (4 : Int) < a1.f1 then (4 : Int) else a1.f1) > (0 : Int) then (if (4 : Int) < a1.f1 then (4 : Int) else a1.f1) else (0 : Int))))))) 64)))), a1.f1⟩ : Tblock_Meta)⟩ : Tplan_Item)].map eplan_Item).length) * 32 ≤ 140737488355328] (by kernel_rfl) ⟨by exact Try.call37, by exact f_block_Width.ok a1.f1 t4457 e4458, by exact rfl, by simp, by exact all_len _ _ _ (fun _ => rfl), by exact all_leaf _ _ (fun _ => rfl), by simpa using c4459, trivial⟩ ?_
      refine AWp.conv (inv := [(20, 0)]) (vk := []) (e0 := []) (t := ⟨[(6, .own 0)], [(0, some (.row 4 89 ((x4451 ++ [(⟨a2, (⟨x4452, IntKind.i64.wrap (x4452 + (IntKind.i64.wrap ((64 : Int) * 2 ^ (min (Int.toNat (IntKind.u64.wrap ((2 : Int) * (IntKind.u64.wrap ((if (if (4 : Int) < a1.f1 then (4 : Int) else a1.f1) > (0 : Int) then (if (4 : Int) < a1.f1 then (4 : Int) else a1.f1) else (0 : Int))))))) 64)))), a1.f1⟩ : Tblock_Meta)⟩ : Tplan_Item)]).map eplan_Item)))], 0⟩) (by kernel_rfl) ?_
      refine AWp.ret ?_
      obtain rfl := Option.some.inj H
      exact Exists.intro _ (And.intro (fun _ _ h => h) (And.intro (.inl rfl) (And.intro rfl (And.intro (by kernel_rfl) (by kernel_rfl)))))
def f_pluviallaw17_From.l0 (a0 : List Tplan_Item) (x4479 : List Tpluvialref17_Item) (x4480 : Int) : Option (List Tpluvialref17_Item) := if (decide (x4480 < (a0.length : Int))) = true then ((at? a0 x4480) >>= fun b4485 => (chk ((x4479.length + [(⟨b4485.f0, b4485.f1.f2, b4485.f1.f0, b4485.f1.f1⟩ : Tpluvialref17_Item)].length) * 32 ≤ 140737488355328)) >>= fun _ => f_pluviallaw17_From.l0 a0 (x4479 ++ [(⟨b4485.f0, b4485.f1.f2, b4485.f1.f0, b4485.f1.f1⟩ : Tpluvialref17_Item)]) (IntKind.i64.wrap (x4480 + (1 : Int)))) else (some x4479)
partial_fixpoint
def f_pluviallaw17_From.f (a0 : List Tplan_Item) : Option (List Tpluvialref17_Item) := (f_pluviallaw17_From.l0 a0 [] 0) >>= fun x4490 => some x4490
theorem f_pluviallaw17_From.ok (a0 : List Tplan_Item) (r : List Tpluvialref17_Item) (H : f_pluviallaw17_From.f a0 = some r) : Pv.Fn Try.prog 24 [.im (.row (a0.map eplan_Item))] [] 0 (fun x o => x = .own 0 ∧ o = [(0, some (.row 4 31 (r.map epluvialref17_Item)))]) := by
  unfold f_pluviallaw17_From.f at H
  refine Fn.bodyK [0] Try.func24 rfl rfl (fun Γ hP hn => ?_)
  have hm : Try.prog.follows .mixedOrders = true := by kernel_rfl
  replace hn : Γ.n = 29 := hn
  refine AWp.seq ?_
  refine reg hP hn hm [] [0] [] ⟨[(0, .im (.row (a0.map eplan_Item)))], [], 0⟩ [] (by kernel_rfl) trivial ?_
  refine AWp.seq ?_
  refine reg hP hn hm [] [0, 3] [] ⟨[(0, .im (.row (a0.map eplan_Item))), (3, .none0)], [], 0⟩ [] (by kernel_rfl) trivial ?_
  refine AWp.seq ?_
  refine AWp.seq ?_
  refine reg hP hn hm [(1, .any (iV .i64 (a0.length : Int)))] [3, 6, 7, 8] [] ⟨[(3, .none0), (6, .im (.row (a0.map eplan_Item))), (7, iV .i64 (a0.length : Int)), (8, iV .i64 0)], [], 0⟩ [((a0.map eplan_Item).length : Int) = (a0.length : Int)] (by kernel_rfl) ⟨by rw [len_map], trivial⟩ ?_
  refine AWp.block ?_
  obtain ⟨o4491, e4492, H⟩ := bind_of H
  refine AWp.loop (LWp.conv (inv := []) (vk := []) (e0 := [3]) (t := ⟨[(3, .own 3), (6, .im (.row (a0.map eplan_Item))), (7, iV .i64 (a0.length : Int)), (8, iV .i64 0)], [(3, some (.row 4 31 ([].map epluvialref17_Item)))], 0⟩) (by kernel_rfl) ?_)
  refine LWp.mono (Q := fun e s => (match (generalizing := false) o4491 with | x4490 => e = .exit 0 ∧ s = ⟨[(3, .own 7)], [(7, some (.row 4 31 (x4490.map epluvialref17_Item)))], 0⟩)) (LWp.cv (withBody (fun body hbody => ?_))) ?_
  · refine f_pluviallaw17_From.l0.partial_correctness a0 (motive := fun x4479 x4480 o4491 => LWp Γ body (fun e s => ∃ t, Cv Γ s t ∧ (match (generalizing := false) o4491 with | x4490 => e = .exit 0 ∧ t = ⟨[(3, .own 7)], [(7, some (.row 4 31 (x4490.map epluvialref17_Item)))], 0⟩)) ⟨[(3, .own 3), (6, .im (.row (a0.map eplan_Item))), (7, iV .i64 (a0.length : Int)), (8, iV .i64 x4480)], [(3, some (.row 4 31 (x4479.map epluvialref17_Item)))], 0⟩) ?_ _ _ _ e4492
    clear H e4492 o4491; intro self ih x4479 x4480 o4491 H
    subst hbody
    refine LWp.round ?_
    refine AWp.seq ?_
    refine reg hP hn hm [] [3, 6, 7, 8, 9] [3] ⟨[(3, .own 3), (6, .im (.row (a0.map eplan_Item))), (7, iV .i64 (a0.length : Int)), (8, iV .i64 x4480), (9, bV (decide (x4480 < (a0.length : Int))))], [(3, some (.row 4 31 (x4479.map epluvialref17_Item)))], 0⟩ [] (by kernel_rfl) trivial ?_
    refine AWp.seq ?_
    refine AWp.cond (decide (x4480 < (a0.length : Int))) rfl (fun c4481 => ?_) (fun c4481 => ?_)
    · replace H := (ifT c4481).symm.trans H
      refine AWp.skip ?_
      refine AWp.seq ?_
      refine AWp.block ?_
      refine AWp.seq ?_
      obtain ⟨b4485, p4486, q4487, H⟩ := at_of H
      refine reg hP hn hm [(0, .c (eplan_Item b4485)), (2, .k 4)] [3, 5, 6, 7, 8] [3, 4] ⟨[(3, .own 3), (5, .ptr 4 0 0), (6, .im (.row (a0.map eplan_Item))), (7, iV .i64 (a0.length : Int)), (8, iV .i64 x4480)], [(3, some (.row 4 31 (x4479.map epluvialref17_Item))), (4, some (.box 89 [iV .i64 b4485.f0, iV .i64 b4485.f1.f0, iV .i64 b4485.f1.f1, iV .i64 b4485.f1.f2]))], 0⟩ [0 ≤ x4480, (a0.map eplan_Item)[(Int.toNat (x4480))]? = some (eplan_Item b4485)] (by kernel_rfl) ⟨by exact p4486, by exact el_map eplan_Item q4487, trivial⟩ ?_
      obtain ⟨c4489, H⟩ := chk_of H
      refine reg hP hn hm [(13, .app 5 ([(⟨b4485.f0, b4485.f1.f2, b4485.f1.f0, b4485.f1.f1⟩ : Tpluvialref17_Item)].map epluvialref17_Item)), (14, .app 6 ((x4479 ++ [(⟨b4485.f0, b4485.f1.f2, b4485.f1.f0, b4485.f1.f1⟩ : Tpluvialref17_Item)]).map epluvialref17_Item))] [3, 6, 7, 8] [6] ⟨[(3, .own 6), (6, .im (.row (a0.map eplan_Item))), (7, iV .i64 (a0.length : Int)), (8, iV .i64 x4480)], [(6, some (.row 4 31 ((x4479 ++ [(⟨b4485.f0, b4485.f1.f2, b4485.f1.f0, b4485.f1.f1⟩ : Tpluvialref17_Item)]).map epluvialref17_Item)))], 0⟩ [[(⟨b4485.f0, b4485.f1.f2, b4485.f1.f0, b4485.f1.f1⟩ : Tpluvialref17_Item)].map epluvialref17_Item = [[iI .i64 b4485.f0, iI .i64 b4485.f1.f2, iI .i64 b4485.f1.f0, iI .i64 b4485.f1.f1]], (x4479 ++ [(⟨b4485.f0, b4485.f1.f2, b4485.f1.f0, b4485.f1.f1⟩ : Tpluvialref17_Item)]).map epluvialref17_Item = (x4479.map epluvialref17_Item) ++ ([(⟨b4485.f0, b4485.f1.f2, b4485.f1.f0, b4485.f1.f1⟩ : Tpluvialref17_Item)].map epluvialref17_Item), ∀ c ∈ ([(⟨b4485.f0, b4485.f1.f2, b4485.f1.f0, b4485.f1.f1⟩ : Tpluvialref17_Item)].map epluvialref17_Item), c.length = 4, ∀ c ∈ ([(⟨b4485.f0, b4485.f1.f2, b4485.f1.f0, b4485.f1.f1⟩ : Tpluvialref17_Item)].map epluvialref17_Item), leaves (c.map .im) = true, ((x4479.map epluvialref17_Item).length + ([(⟨b4485.f0, b4485.f1.f2, b4485.f1.f0, b4485.f1.f1⟩ : Tpluvialref17_Item)].map epluvialref17_Item).length) * 32 ≤ 140737488355328] (by kernel_rfl) ⟨by exact rfl, by simp, by exact all_len _ _ _ (fun _ => rfl), by exact all_leaf _ _ (fun _ => rfl), by simpa using c4489, trivial⟩ ?_
      refine reg hP hn hm [] [3, 6, 7, 8] [6] ⟨[(3, .own 6), (6, .im (.row (a0.map eplan_Item))), (7, iV .i64 (a0.length : Int)), (8, iV .i64 (IntKind.i64.wrap (x4480 + (1 : Int))))], [(6, some (.row 4 31 ((x4479 ++ [(⟨b4485.f0, b4485.f1.f2, b4485.f1.f0, b4485.f1.f1⟩ : Tpluvialref17_Item)]).map epluvialref17_Item)))], 0⟩ [] (by kernel_rfl) trivial ?_
      exact LWp.conv (inv := [(6, 3)]) (vk := []) (e0 := []) (t := ⟨[(3, .own 3), (6, .im (.row (a0.map eplan_Item))), (7, iV .i64 (a0.length : Int)), (8, iV .i64 (IntKind.i64.wrap (x4480 + (1 : Int))))], [(3, some (.row 4 31 ((x4479 ++ [(⟨b4485.f0, b4485.f1.f2, b4485.f1.f0, b4485.f1.f1⟩ : Tpluvialref17_Item)]).map epluvialref17_Item)))], 0⟩) (by kernel_rfl) (ih _ _ _ H)
    · replace H := (ifF c4481).symm.trans H
      refine AWp.exit ?_
      obtain rfl := Option.some.inj H
      exact Exists.intro _ (And.intro (fun _ _ h => h.conv (inv := [(3, 7)]) (vk := []) (e0 := []) (t := ⟨[(3, .own 7)], [(7, some (.row 4 31 (x4479.map epluvialref17_Item)))], 0⟩) (by kernel_rfl)) (And.intro rfl rfl))
  · obtain ⟨x4490, rfl⟩ : ∃ z, z = o4491 := ⟨_, rfl⟩
    rintro e s ⟨rfl, rfl⟩
    refine AWp.seq ?_
    refine reg hP hn hm [] [2] [7] ⟨[(2, .own 7)], [(7, some (.row 4 31 (x4490.map epluvialref17_Item)))], 0⟩ [] (by kernel_rfl) trivial ?_
    refine AWp.conv (inv := [(7, 0)]) (vk := []) (e0 := []) (t := ⟨[(2, .own 0)], [(0, some (.row 4 31 (x4490.map epluvialref17_Item)))], 0⟩) (by kernel_rfl) ?_
    refine AWp.ret ?_
    obtain rfl := Option.some.inj H
    exact Exists.intro _ (And.intro (fun _ _ h => h) (And.intro (.inl rfl) (And.intro rfl (And.intro (by kernel_rfl) (by kernel_rfl)))))
def f_pluviallaw17_PlanDoes.l1 (a0 : List Tpluvialref17_Item) (a1 : List Int) (a2 : Int) (a3 : Int) (b4558 : Tpluvialref17_Item) (t4499 : List Tpluvialref17_Item) (x4551 : Int) (x4552 : Int) (x4553 : Int) (x4568 : Bool) (x4569 : Int) : Option (Bool) := if (decide (x4569 < (a1.length : Int))) = true then ((at? a1 x4569) >>= fun b4574 => ((if x4568 = true then (some true) else (some (b4574 == b4558.f0))) : Option (Bool)) >>= fun x4579 => f_pluviallaw17_PlanDoes.l1 a0 a1 a2 a3 b4558 t4499 x4551 x4552 x4553 x4579 (IntKind.i64.wrap (x4569 + (1 : Int)))) else (some x4568)
partial_fixpoint
def f_pluviallaw17_PlanDoes.l0 (a0 : List Tpluvialref17_Item) (a1 : List Int) (a2 : Int) (a3 : Int) (t4499 : List Tpluvialref17_Item) (x4551 : Int) (x4552 : Int) (x4553 : Int) : Option (Bool ⊕ (Int × Int)) := if (decide (x4553 < (a0.length : Int))) = true then ((((at? a0 x4553) >>= fun b4558 => (f_pluviallaw17_PlanDoes.l1 a0 a1 a2 a3 b4558 t4499 x4551 x4552 x4553 false 0) >>= fun x4580 => if x4580 = true then ((f_pluvialref16_Width.f (IntKind.i64.wrap (Int.tmod a2 (5 : Int)))) >>= fun t4587 => (chk (t4587 ≠ 0)) >>= fun _ => (f_pluvialref16_Width.f (IntKind.i64.wrap (Int.tmod a2 (5 : Int)))) >>= fun t4590 => ((if (decide (x4552 < (0 : Int))) = true then (some true) else (some (decide ((IntKind.i64.wrap ((IntKind.i64.wrap (Int.tdiv b4558.f2 t4587)) * t4590)) < x4552)))) : Option (Bool)) >>= fun x4594 => ((if x4594 = true then (some (IntKind.i64.wrap ((IntKind.i64.wrap (Int.tdiv b4558.f2 t4587)) * t4590))) else (some x4552)) : Option (Int)) >>= fun x4596 => some (.inr (x4551, x4596))) else (((if (decide (x4551 ≥ (t4499.length : Int))) = true then (some true) else ((at? t4499 x4551) >>= fun b4602 => some (!((b4602.f0 == b4558.f0) && ((b4602.f1 == b4558.f1) && ((b4602.f2 == b4558.f2) && ((b4602.f3 == b4558.f3) && true))))))) : Option (Bool)) >>= fun x4605 => if x4605 = true then (some (.inl false)) else (some (.inr (IntKind.i64.wrap (x4551 + (1 : Int)), x4552))))) : Option (Bool ⊕ (Int × Int))) >>= fun oo => match oo with | .inl rr => (some (.inl rr)) | .inr (x4607, x4608) => (f_pluviallaw17_PlanDoes.l0 a0 a1 a2 a3 t4499 x4607 x4608 (IntKind.i64.wrap (x4553 + (1 : Int))))) else (some (.inr (x4551, x4552)))
partial_fixpoint
def f_pluviallaw17_PlanDoes.f (a0 : List Tpluvialref17_Item) (a1 : List Int) (a2 : Int) (a3 : Int) : Option (Bool) := ((if (decide ((a0.length : Int) > (60 : Int))) = true then (some true) else (if (decide ((a1.length : Int) > (60 : Int))) = true then (some true) else ((f_pluvialref17_Right.f a0) >>= fun t4370 => some (!t4370)))) : Option (Bool)) >>= fun x4372 => if x4372 = true then ((f_pluviallaw17_awake.f) >>= fun t4376 => some t4376) else ((f_pluviallaw17_To.f a0) >>= fun t4495 => (f_plan_Do.f t4495 (⟨a1, IntKind.i64.wrap (Int.tmod a2 (5 : Int))⟩ : Tplan_Step) a3) >>= fun t4497 => (f_pluviallaw17_From.f t4497) >>= fun t4499 => (f_pluviallaw17_PlanDoes.l0 a0 a1 a2 a3 t4499 0 (-1) 0) >>= fun oo => match oo with | .inl rr => (some rr) | .inr (x4609, x4610) => (if (decide (x4610 < (0 : Int))) = true then ((((f_pluviallaw17_awake.f) >>= fun t4615 => if t4615 = true then (some ((t4499.length : Int) == x4609)) else (some false)) : Option (Bool)) >>= fun x4618 => some x4618) else ((((f_pluviallaw17_awake.f) >>= fun t4628 => if t4628 = true then (if ((t4499.length : Int) == (IntKind.i64.wrap (x4609 + (1 : Int)))) = true then ((at? t4499 x4609) >>= fun b4632 => (f_pluvialref16_Width.f (IntKind.i64.wrap (Int.tmod a2 (5 : Int)))) >>= fun t4635 => some ((b4632.f0 == a3) && ((b4632.f1 == (IntKind.i64.wrap (Int.tmod a2 (5 : Int)))) && ((b4632.f2 == x4610) && ((b4632.f3 == (IntKind.i64.wrap (x4610 + t4635))) && true))))) else (some false)) else (some false)) : Option (Bool)) >>= fun x4637 => some x4637)))
theorem f_pluviallaw17_PlanDoes.ok (a0 : List Tpluvialref17_Item) (a1 : List Int) (a2 : Int) (a3 : Int) (r : Bool) (H : f_pluviallaw17_PlanDoes.f a0 a1 a2 a3 = some r) : Pv.Fn Try.prog 6 [.im (.row (a0.map epluvialref17_Item)), .im (.row (a1.map (encInt .i64))), iV .u8 a2, iV .i64 a3] [] 0 (fun x o => x = bV r ∧ o = []) := by
  unfold f_pluviallaw17_PlanDoes.f at H
  refine Fn.bodyK [] Try.func6 rfl rfl (fun Γ hP hn => ?_)
  have hm : Try.prog.follows .mixedOrders = true := by kernel_rfl
  replace hn : Γ.n = 128 := hn
  refine AWp.seq ?_
  refine reg hP hn hm [] [0, 1, 2, 3] [] ⟨[(0, .im (.row (a0.map epluvialref17_Item))), (1, .im (.row (a1.map (encInt .i64)))), (2, iV .u8 a2), (3, iV .i64 a3)], [], 0⟩ [] (by kernel_rfl) trivial ?_
  refine AWp.seq ?_
  refine AWp.seq ?_
  obtain ⟨o4638, e4639, H⟩ := bind_of H
  refine AWp.mono (Q := fun e s => (match (generalizing := false) o4638 with | x4372 => e = .normal ∧ s = ⟨[(0, .im (.row (a0.map epluvialref17_Item))), (1, .im (.row (a1.map (encInt .i64)))), (2, iV .u8 a2), (3, iV .i64 a3), (31, bV x4372)], [], 0⟩)) (AWp.cv ?_) ?_
  · replace H := e4639; clear e4639
    rcases Bool.eq_false_or_eq_true (decide ((a0.length : Int) > (60 : Int))) with c4368 | c4368
    · replace H := (ifT c4368).symm.trans H
      refine reg hP hn hm [(1, .any (iV .i64 (a0.length : Int))), (3, .b true)] [0, 1, 2, 3, 31] [] ⟨[(0, .im (.row (a0.map epluvialref17_Item))), (1, .im (.row (a1.map (encInt .i64)))), (2, iV .u8 a2), (3, iV .i64 a3), (31, bV true)], [], 0⟩ [((a0.map epluvialref17_Item).length : Int) = (a0.length : Int), (decide ((a0.length : Int) > (60 : Int))) = true] (by kernel_rfl) ⟨by rw [len_map], by exact c4368, trivial⟩ ?_
      obtain rfl := Option.some.inj H
      exact Exists.intro _ (And.intro (fun _ _ h => h.conv (inv := []) (vk := []) (e0 := []) (t := ⟨[(0, .im (.row (a0.map epluvialref17_Item))), (1, .im (.row (a1.map (encInt .i64)))), (2, iV .u8 a2), (3, iV .i64 a3), (31, bV true)], [], 0⟩) (by kernel_rfl)) (And.intro rfl rfl))
    · replace H := (ifF c4368).symm.trans H
      rcases Bool.eq_false_or_eq_true (decide ((a1.length : Int) > (60 : Int))) with c4369 | c4369
      · replace H := (ifT c4369).symm.trans H
        refine reg hP hn hm [(1, .any (iV .i64 (a0.length : Int))), (3, .b false), (5, .any (iV .i64 (a1.length : Int))), (8, .b true)] [0, 1, 2, 3, 31] [] ⟨[(0, .im (.row (a0.map epluvialref17_Item))), (1, .im (.row (a1.map (encInt .i64)))), (2, iV .u8 a2), (3, iV .i64 a3), (31, bV true)], [], 0⟩ [((a0.map epluvialref17_Item).length : Int) = (a0.length : Int), (decide ((a0.length : Int) > (60 : Int))) = false, ((a1.map (encInt .i64)).length : Int) = (a1.length : Int), (decide ((a1.length : Int) > (60 : Int))) = true] (by kernel_rfl) ⟨by rw [len_map], by exact c4368, by rw [len_map], by exact c4369, trivial⟩ ?_
        obtain rfl := Option.some.inj H
        exact Exists.intro _ (And.intro (fun _ _ h => h.conv (inv := []) (vk := []) (e0 := []) (t := ⟨[(0, .im (.row (a0.map epluvialref17_Item))), (1, .im (.row (a1.map (encInt .i64)))), (2, iV .u8 a2), (3, iV .i64 a3), (31, bV true)], [], 0⟩) (by kernel_rfl)) (And.intro rfl rfl))
      · replace H := (ifF c4369).symm.trans H
        obtain ⟨t4370, e4371, H⟩ := bind_of H
        refine reg hP hn hm [(1, .any (iV .i64 (a0.length : Int))), (3, .b false), (5, .any (iV .i64 (a1.length : Int))), (8, .b false), (10, .call [] [] [] [] 0 (bV t4370) [])] [0, 1, 2, 3, 31] [] ⟨[(0, .im (.row (a0.map epluvialref17_Item))), (1, .im (.row (a1.map (encInt .i64)))), (2, iV .u8 a2), (3, iV .i64 a3), (31, bV (!t4370))], [], 0⟩ [((a0.map epluvialref17_Item).length : Int) = (a0.length : Int), (decide ((a0.length : Int) > (60 : Int))) = false, ((a1.map (encInt .i64)).length : Int) = (a1.length : Int), (decide ((a1.length : Int) > (60 : Int))) = false, Enters Try.prog 12, Pv.Fn Try.prog 12 [.im (.row (a0.map epluvialref17_Item))] [] 0 (fun r o => r = bV t4370 ∧ o = [])] (by kernel_rfl) ⟨by rw [len_map], by exact c4368, by rw [len_map], by exact c4369, by exact Try.call12, by exact f_pluvialref17_Right.ok a0 t4370 e4371, trivial⟩ ?_
        obtain rfl := Option.some.inj H
        exact Exists.intro _ (And.intro (fun _ _ h => h.conv (inv := []) (vk := []) (e0 := []) (t := ⟨[(0, .im (.row (a0.map epluvialref17_Item))), (1, .im (.row (a1.map (encInt .i64)))), (2, iV .u8 a2), (3, iV .i64 a3), (31, bV (!t4370))], [], 0⟩) (by kernel_rfl)) (And.intro rfl rfl))
  · obtain ⟨x4372, rfl⟩ : ∃ z, z = o4638 := ⟨_, rfl⟩
    rintro e s ⟨rfl, rfl⟩
    refine AWp.cond x4372 rfl (fun c4373 => ?_) (fun c4373 => ?_)
    · replace H := (ifT c4373).symm.trans H
      refine AWp.seq ?_
      obtain ⟨t4376, e4377, H⟩ := bind_of H
      refine reg hP hn hm [(0, .call [] [] [] [] 0 (bV t4376) [])] [8] [] ⟨[(8, bV t4376)], [], 0⟩ [Enters Try.prog 13, Pv.Fn Try.prog 13 [] [] 0 (fun r o => r = bV t4376 ∧ o = [])] (by kernel_rfl) ⟨by exact Try.call13, by exact f_pluviallaw17_awake.ok  t4376 e4377, trivial⟩ ?_
      refine AWp.conv (inv := []) (vk := []) (e0 := []) (t := ⟨[(8, bV t4376)], [], 0⟩) (by kernel_rfl) ?_
      refine AWp.ret ?_
      obtain rfl := Option.some.inj H
      exact Exists.intro _ (And.intro (fun _ _ h => h) (And.intro (.inl rfl) (And.intro rfl (And.intro (by kernel_rfl) (by kernel_rfl)))))
    · replace H := (ifF c4373).symm.trans H
      refine AWp.skip ?_
      refine AWp.seq ?_
      refine reg hP hn hm [] [0, 1, 3, 9] [] ⟨[(0, .im (.row (a0.map epluvialref17_Item))), (1, .im (.row (a1.map (encInt .i64)))), (3, iV .i64 a3), (9, iV .i64 (IntKind.i64.wrap (Int.tmod a2 (5 : Int))))], [], 0⟩ [(5 : Int) ≠ 0] (by kernel_rfl) ⟨by decide, trivial⟩ ?_
      refine AWp.seq ?_
      obtain ⟨t4495, e4496, H⟩ := bind_of H
      obtain ⟨t4497, e4498, H⟩ := bind_of H
      obtain ⟨t4499, e4500, H⟩ := bind_of H
      refine reg hP hn hm [(1, .call [] [(0, 0)] [] [0] 0 (.own 0) [(0, some (.row 4 89 (t4495.map eplan_Item)))]), (6, .call [] [(0, 1)] [0] [1] 0 (.own 0) [(0, some (.row 4 89 (t4497.map eplan_Item)))]), (7, .call [] [(0, 2)] [1] [2] 0 (.own 0) [(0, some (.row 4 31 (t4499.map epluvialref17_Item)))])] [0, 1, 3, 9, 10] [2] ⟨[(0, .im (.row (a0.map epluvialref17_Item))), (1, .im (.row (a1.map (encInt .i64)))), (3, iV .i64 a3), (9, iV .i64 (IntKind.i64.wrap (Int.tmod a2 (5 : Int)))), (10, .own 2)], [(2, some (.row 4 31 (t4499.map epluvialref17_Item)))], 0⟩ [Enters Try.prog 15, Pv.Fn Try.prog 15 [.im (.row (a0.map epluvialref17_Item))] [] 0 (fun r o => r = .own 0 ∧ o = [(0, some (.row 4 89 (t4495.map eplan_Item)))]), Enters Try.prog 25, Pv.Fn Try.prog 25 [.im (.row (t4495.map eplan_Item)), .agg (aplan_Step ⟨a1, IntKind.i64.wrap (Int.tmod a2 (5 : Int))⟩), iV .i64 a3] [] 0 (fun r o => r = .own 0 ∧ o = [(0, some (.row 4 89 (t4497.map eplan_Item)))]), Enters Try.prog 24, Pv.Fn Try.prog 24 [.im (.row (t4497.map eplan_Item))] [] 0 (fun r o => r = .own 0 ∧ o = [(0, some (.row 4 31 (t4499.map epluvialref17_Item)))])] (by kernel_rfl) ⟨by exact Try.call15, by exact f_pluviallaw17_To.ok a0 t4495 e4496, by exact Try.call25, by exact f_plan_Do.ok t4495 (⟨a1, IntKind.i64.wrap (Int.tmod a2 (5 : Int))⟩ : Tplan_Step) a3 t4497 e4498, by exact Try.call24, by exact f_pluviallaw17_From.ok t4497 t4499 e4500, trivial⟩ ?_
      refine AWp.seq ?_
      refine reg hP hn hm [] [0, 1, 3, 9, 10, 11] [2] ⟨[(0, .im (.row (a0.map epluvialref17_Item))), (1, .im (.row (a1.map (encInt .i64)))), (3, iV .i64 a3), (9, iV .i64 (IntKind.i64.wrap (Int.tmod a2 (5 : Int)))), (10, .own 2), (11, iV .i64 0)], [(2, some (.row 4 31 (t4499.map epluvialref17_Item)))], 0⟩ [] (by kernel_rfl) trivial ?_
      refine AWp.seq ?_
      refine reg hP hn hm [] [0, 1, 3, 9, 10, 11, 12] [2] ⟨[(0, .im (.row (a0.map epluvialref17_Item))), (1, .im (.row (a1.map (encInt .i64)))), (3, iV .i64 a3), (9, iV .i64 (IntKind.i64.wrap (Int.tmod a2 (5 : Int)))), (10, .own 2), (11, iV .i64 0), (12, iV .i64 (-1))], [(2, some (.row 4 31 (t4499.map epluvialref17_Item)))], 0⟩ [] (by kernel_rfl) trivial ?_
      refine AWp.seq ?_
      refine AWp.seq ?_
      refine reg hP hn hm [(1, .any (iV .i64 (a0.length : Int)))] [1, 3, 9, 10, 11, 12, 44, 45, 46] [2] ⟨[(1, .im (.row (a1.map (encInt .i64)))), (3, iV .i64 a3), (9, iV .i64 (IntKind.i64.wrap (Int.tmod a2 (5 : Int)))), (10, .own 2), (11, iV .i64 0), (12, iV .i64 (-1)), (44, .im (.row (a0.map epluvialref17_Item))), (45, iV .i64 (a0.length : Int)), (46, iV .i64 0)], [(2, some (.row 4 31 (t4499.map epluvialref17_Item)))], 0⟩ [((a0.map epluvialref17_Item).length : Int) = (a0.length : Int)] (by kernel_rfl) ⟨by rw [len_map], trivial⟩ ?_
      refine AWp.block ?_
      obtain ⟨o4640, e4641, H⟩ := bind_of H
      refine AWp.loop (LWp.conv (inv := [(2, 12)]) (vk := []) (e0 := []) (t := ⟨[(1, .im (.row (a1.map (encInt .i64)))), (3, iV .i64 a3), (9, iV .i64 (IntKind.i64.wrap (Int.tmod a2 (5 : Int)))), (10, .own 12), (11, iV .i64 0), (12, iV .i64 (-1)), (44, .im (.row (a0.map epluvialref17_Item))), (45, iV .i64 (a0.length : Int)), (46, iV .i64 0)], [(12, some (.row 4 31 (t4499.map epluvialref17_Item)))], 0⟩) (by kernel_rfl) ?_)
      refine LWp.mono (Q := fun e s => (match (generalizing := false) o4640 with | .inl rr => e = .ret ∧ s.floor = 0 ∧ resOf Try.prog Try.f6 s = some (bV rr) ∧ ([] : List (Nat × Option MObj)) = [] | .inr (x4609, x4610) => e = .exit 0 ∧ s = ⟨[(3, iV .i64 a3), (9, iV .i64 (IntKind.i64.wrap (Int.tmod a2 (5 : Int)))), (10, .own 24), (11, iV .i64 x4609), (12, iV .i64 x4610)], [(24, some (.row 4 31 (t4499.map epluvialref17_Item)))], 0⟩)) (LWp.cv (withBody (fun body hbody => ?_))) ?_
      · refine f_pluviallaw17_PlanDoes.l0.partial_correctness a0 a1 a2 a3 t4499 (motive := fun x4551 x4552 x4553 o4640 => LWp Γ body (fun e s => ∃ t, Cv Γ s t ∧ (match (generalizing := false) o4640 with | .inl rr => e = .ret ∧ t.floor = 0 ∧ resOf Try.prog Try.f6 t = some (bV rr) ∧ ([] : List (Nat × Option MObj)) = [] | .inr (x4609, x4610) => e = .exit 0 ∧ t = ⟨[(3, iV .i64 a3), (9, iV .i64 (IntKind.i64.wrap (Int.tmod a2 (5 : Int)))), (10, .own 24), (11, iV .i64 x4609), (12, iV .i64 x4610)], [(24, some (.row 4 31 (t4499.map epluvialref17_Item)))], 0⟩)) ⟨[(1, .im (.row (a1.map (encInt .i64)))), (3, iV .i64 a3), (9, iV .i64 (IntKind.i64.wrap (Int.tmod a2 (5 : Int)))), (10, .own 12), (11, iV .i64 x4551), (12, iV .i64 x4552), (44, .im (.row (a0.map epluvialref17_Item))), (45, iV .i64 (a0.length : Int)), (46, iV .i64 x4553)], [(12, some (.row 4 31 (t4499.map epluvialref17_Item)))], 0⟩) ?_ _ _ _ _ e4641
        clear H e4641 o4640; intro self ih x4551 x4552 x4553 o4640 H
        subst hbody
        refine LWp.round ?_
        refine AWp.seq ?_
        refine reg hP hn hm [] [1, 3, 9, 10, 11, 12, 44, 45, 46, 47] [12] ⟨[(1, .im (.row (a1.map (encInt .i64)))), (3, iV .i64 a3), (9, iV .i64 (IntKind.i64.wrap (Int.tmod a2 (5 : Int)))), (10, .own 12), (11, iV .i64 x4551), (12, iV .i64 x4552), (44, .im (.row (a0.map epluvialref17_Item))), (45, iV .i64 (a0.length : Int)), (46, iV .i64 x4553), (47, bV (decide (x4553 < (a0.length : Int))))], [(12, some (.row 4 31 (t4499.map epluvialref17_Item)))], 0⟩ [] (by kernel_rfl) trivial ?_
        refine AWp.seq ?_
        refine AWp.cond (decide (x4553 < (a0.length : Int))) rfl (fun c4554 => ?_) (fun c4554 => ?_)
        · replace H := (ifT c4554).symm.trans H
          refine AWp.skip ?_
          refine AWp.seq ?_
          obtain ⟨o4642, e4643, H⟩ := bind_of H
          refine AWp.mono (Q := fun e s => (match (generalizing := false) o4642 with | .inl rr => e = .ret ∧ s.floor = 0 ∧ resOf Try.prog Try.f6 s = some (bV rr) ∧ ([] : List (Nat × Option MObj)) = [] | .inr (x4607, x4608) => e = .normal ∧ s = ⟨[(1, .im (.row (a1.map (encInt .i64)))), (3, iV .i64 a3), (9, iV .i64 (IntKind.i64.wrap (Int.tmod a2 (5 : Int)))), (10, .own 23), (11, iV .i64 x4607), (12, iV .i64 x4608), (44, .im (.row (a0.map epluvialref17_Item))), (45, iV .i64 (a0.length : Int)), (46, iV .i64 x4553)], [(23, some (.row 4 31 (t4499.map epluvialref17_Item)))], 0⟩)) (AWp.cv ?_) ?_
          · replace H := e4643; clear e4643
            refine AWp.block ?_
            refine AWp.seq ?_
            obtain ⟨b4558, p4559, q4560, H⟩ := at_of H
            refine reg hP hn hm [(0, .c (epluvialref17_Item b4558)), (2, .k 13)] [1, 3, 9, 10, 11, 12, 14, 44, 45, 46] [12, 13] ⟨[(1, .im (.row (a1.map (encInt .i64)))), (3, iV .i64 a3), (9, iV .i64 (IntKind.i64.wrap (Int.tmod a2 (5 : Int)))), (10, .own 12), (11, iV .i64 x4551), (12, iV .i64 x4552), (14, .ptr 13 0 0), (44, .im (.row (a0.map epluvialref17_Item))), (45, iV .i64 (a0.length : Int)), (46, iV .i64 x4553)], [(12, some (.row 4 31 (t4499.map epluvialref17_Item))), (13, some (.box 31 (apluvialref17_Item b4558)))], 0⟩ [0 ≤ x4553, (a0.map epluvialref17_Item)[(Int.toNat (x4553))]? = some (epluvialref17_Item b4558)] (by kernel_rfl) ⟨by exact p4559, by exact el_map epluvialref17_Item q4560, trivial⟩ ?_
            refine AWp.seq ?_
            refine reg hP hn hm [] [1, 3, 9, 10, 11, 12, 14, 15, 44, 45, 46] [12, 13] ⟨[(1, .im (.row (a1.map (encInt .i64)))), (3, iV .i64 a3), (9, iV .i64 (IntKind.i64.wrap (Int.tmod a2 (5 : Int)))), (10, .own 12), (11, iV .i64 x4551), (12, iV .i64 x4552), (14, .ptr 13 0 0), (15, bV false), (44, .im (.row (a0.map epluvialref17_Item))), (45, iV .i64 (a0.length : Int)), (46, iV .i64 x4553)], [(12, some (.row 4 31 (t4499.map epluvialref17_Item))), (13, some (.box 31 (apluvialref17_Item b4558)))], 0⟩ [] (by kernel_rfl) trivial ?_
            refine AWp.seq ?_
            refine AWp.seq ?_
            refine reg hP hn hm [(1, .any (iV .i64 (a1.length : Int)))] [1, 3, 9, 10, 11, 12, 14, 15, 44, 45, 46, 50, 51, 52] [12, 13] ⟨[(1, .im (.row (a1.map (encInt .i64)))), (3, iV .i64 a3), (9, iV .i64 (IntKind.i64.wrap (Int.tmod a2 (5 : Int)))), (10, .own 12), (11, iV .i64 x4551), (12, iV .i64 x4552), (14, .ptr 13 0 0), (15, bV false), (44, .im (.row (a0.map epluvialref17_Item))), (45, iV .i64 (a0.length : Int)), (46, iV .i64 x4553), (50, .im (.row (a1.map (encInt .i64)))), (51, iV .i64 (a1.length : Int)), (52, iV .i64 0)], [(12, some (.row 4 31 (t4499.map epluvialref17_Item))), (13, some (.box 31 (apluvialref17_Item b4558)))], 0⟩ [((a1.map (encInt .i64)).length : Int) = (a1.length : Int)] (by kernel_rfl) ⟨by rw [len_map], trivial⟩ ?_
            refine AWp.block ?_
            obtain ⟨o4644, e4645, H⟩ := bind_of H
            refine AWp.loop (LWp.conv (inv := [(12, 14), (13, 15)]) (vk := []) (e0 := []) (t := ⟨[(1, .im (.row (a1.map (encInt .i64)))), (3, iV .i64 a3), (9, iV .i64 (IntKind.i64.wrap (Int.tmod a2 (5 : Int)))), (10, .own 14), (11, iV .i64 x4551), (12, iV .i64 x4552), (14, .ptr 15 0 0), (15, bV false), (44, .im (.row (a0.map epluvialref17_Item))), (45, iV .i64 (a0.length : Int)), (46, iV .i64 x4553), (50, .im (.row (a1.map (encInt .i64)))), (51, iV .i64 (a1.length : Int)), (52, iV .i64 0)], [(14, some (.row 4 31 (t4499.map epluvialref17_Item))), (15, some (.box 31 (apluvialref17_Item b4558)))], 0⟩) (by kernel_rfl) ?_)
            refine LWp.mono (Q := fun e s => (match (generalizing := false) o4644 with | x4580 => e = .exit 2 ∧ s = ⟨[(1, .im (.row (a1.map (encInt .i64)))), (3, iV .i64 a3), (9, iV .i64 (IntKind.i64.wrap (Int.tmod a2 (5 : Int)))), (10, .own 18), (11, iV .i64 x4551), (12, iV .i64 x4552), (14, .ptr 19 0 0), (15, bV x4580), (44, .im (.row (a0.map epluvialref17_Item))), (45, iV .i64 (a0.length : Int)), (46, iV .i64 x4553)], [(18, some (.row 4 31 (t4499.map epluvialref17_Item))), (19, some (.box 31 (apluvialref17_Item b4558)))], 0⟩)) (LWp.cv (withBody (fun body hbody => ?_))) ?_
            · refine f_pluviallaw17_PlanDoes.l1.partial_correctness a0 a1 a2 a3 b4558 t4499 x4551 x4552 x4553 (motive := fun x4568 x4569 o4644 => LWp Γ body (fun e s => ∃ t, Cv Γ s t ∧ (match (generalizing := false) o4644 with | x4580 => e = .exit 2 ∧ t = ⟨[(1, .im (.row (a1.map (encInt .i64)))), (3, iV .i64 a3), (9, iV .i64 (IntKind.i64.wrap (Int.tmod a2 (5 : Int)))), (10, .own 18), (11, iV .i64 x4551), (12, iV .i64 x4552), (14, .ptr 19 0 0), (15, bV x4580), (44, .im (.row (a0.map epluvialref17_Item))), (45, iV .i64 (a0.length : Int)), (46, iV .i64 x4553)], [(18, some (.row 4 31 (t4499.map epluvialref17_Item))), (19, some (.box 31 (apluvialref17_Item b4558)))], 0⟩)) ⟨[(1, .im (.row (a1.map (encInt .i64)))), (3, iV .i64 a3), (9, iV .i64 (IntKind.i64.wrap (Int.tmod a2 (5 : Int)))), (10, .own 14), (11, iV .i64 x4551), (12, iV .i64 x4552), (14, .ptr 15 0 0), (15, bV x4568), (44, .im (.row (a0.map epluvialref17_Item))), (45, iV .i64 (a0.length : Int)), (46, iV .i64 x4553), (50, .im (.row (a1.map (encInt .i64)))), (51, iV .i64 (a1.length : Int)), (52, iV .i64 x4569)], [(14, some (.row 4 31 (t4499.map epluvialref17_Item))), (15, some (.box 31 (apluvialref17_Item b4558)))], 0⟩) ?_ _ _ _ e4645
              clear H e4645 o4644; intro self ih x4568 x4569 o4644 H
              subst hbody
              refine LWp.round ?_
              refine AWp.seq ?_
              refine reg hP hn hm [] [1, 3, 9, 10, 11, 12, 14, 15, 44, 45, 46, 50, 51, 52, 53] [14, 15] ⟨[(1, .im (.row (a1.map (encInt .i64)))), (3, iV .i64 a3), (9, iV .i64 (IntKind.i64.wrap (Int.tmod a2 (5 : Int)))), (10, .own 14), (11, iV .i64 x4551), (12, iV .i64 x4552), (14, .ptr 15 0 0), (15, bV x4568), (44, .im (.row (a0.map epluvialref17_Item))), (45, iV .i64 (a0.length : Int)), (46, iV .i64 x4553), (50, .im (.row (a1.map (encInt .i64)))), (51, iV .i64 (a1.length : Int)), (52, iV .i64 x4569), (53, bV (decide (x4569 < (a1.length : Int))))], [(14, some (.row 4 31 (t4499.map epluvialref17_Item))), (15, some (.box 31 (apluvialref17_Item b4558)))], 0⟩ [] (by kernel_rfl) trivial ?_
              refine AWp.seq ?_
              refine AWp.cond (decide (x4569 < (a1.length : Int))) rfl (fun c4570 => ?_) (fun c4570 => ?_)
              · replace H := (ifT c4570).symm.trans H
                refine AWp.skip ?_
                refine AWp.seq ?_
                refine AWp.block ?_
                refine AWp.seq ?_
                obtain ⟨b4574, p4575, q4576, H⟩ := at_of H
                refine reg hP hn hm [(0, .c ((encInt .i64) b4574))] [1, 3, 9, 10, 11, 12, 14, 15, 17, 44, 45, 46, 50, 51, 52] [14, 15] ⟨[(1, .im (.row (a1.map (encInt .i64)))), (3, iV .i64 a3), (9, iV .i64 (IntKind.i64.wrap (Int.tmod a2 (5 : Int)))), (10, .own 14), (11, iV .i64 x4551), (12, iV .i64 x4552), (14, .ptr 15 0 0), (15, bV x4568), (17, iV .i64 b4574), (44, .im (.row (a0.map epluvialref17_Item))), (45, iV .i64 (a0.length : Int)), (46, iV .i64 x4553), (50, .im (.row (a1.map (encInt .i64)))), (51, iV .i64 (a1.length : Int)), (52, iV .i64 x4569)], [(14, some (.row 4 31 (t4499.map epluvialref17_Item))), (15, some (.box 31 (apluvialref17_Item b4558)))], 0⟩ [0 ≤ x4569, (a1.map (encInt .i64))[(Int.toNat (x4569))]? = some ((encInt .i64) b4574)] (by kernel_rfl) ⟨by exact p4575, by exact el_map (encInt .i64) q4576, trivial⟩ ?_
                obtain ⟨o4646, e4647, H⟩ := bind_of H
                refine AWp.mono (Q := fun e s => (match (generalizing := false) o4646 with | x4579 => e = .normal ∧ s = ⟨[(1, .im (.row (a1.map (encInt .i64)))), (3, iV .i64 a3), (9, iV .i64 (IntKind.i64.wrap (Int.tmod a2 (5 : Int)))), (10, .own 16), (11, iV .i64 x4551), (12, iV .i64 x4552), (14, .ptr 17 0 0), (15, bV x4579), (44, .im (.row (a0.map epluvialref17_Item))), (45, iV .i64 (a0.length : Int)), (46, iV .i64 x4553), (50, .im (.row (a1.map (encInt .i64)))), (51, iV .i64 (a1.length : Int)), (52, iV .i64 x4569)], [(16, some (.row 4 31 (t4499.map epluvialref17_Item))), (17, some (.box 31 (apluvialref17_Item b4558)))], 0⟩)) (AWp.cv ?_) ?_
                · replace H := e4647; clear e4647
                  rcases Bool.eq_false_or_eq_true x4568 with c4578 | c4578
                  · replace H := (ifT c4578).symm.trans H
                    refine reg hP hn hm [(1, .b true)] [1, 3, 9, 10, 11, 12, 14, 15, 44, 45, 46, 50, 51, 52] [14, 15] ⟨[(1, .im (.row (a1.map (encInt .i64)))), (3, iV .i64 a3), (9, iV .i64 (IntKind.i64.wrap (Int.tmod a2 (5 : Int)))), (10, .own 14), (11, iV .i64 x4551), (12, iV .i64 x4552), (14, .ptr 15 0 0), (15, bV true), (44, .im (.row (a0.map epluvialref17_Item))), (45, iV .i64 (a0.length : Int)), (46, iV .i64 x4553), (50, .im (.row (a1.map (encInt .i64)))), (51, iV .i64 (a1.length : Int)), (52, iV .i64 x4569)], [(14, some (.row 4 31 (t4499.map epluvialref17_Item))), (15, some (.box 31 (apluvialref17_Item b4558)))], 0⟩ [x4568 = true] (by kernel_rfl) ⟨by exact c4578, trivial⟩ ?_
                    obtain rfl := Option.some.inj H
                    exact Exists.intro _ (And.intro (fun _ _ h => h.conv (inv := [(14, 16), (15, 17)]) (vk := []) (e0 := []) (t := ⟨[(1, .im (.row (a1.map (encInt .i64)))), (3, iV .i64 a3), (9, iV .i64 (IntKind.i64.wrap (Int.tmod a2 (5 : Int)))), (10, .own 16), (11, iV .i64 x4551), (12, iV .i64 x4552), (14, .ptr 17 0 0), (15, bV true), (44, .im (.row (a0.map epluvialref17_Item))), (45, iV .i64 (a0.length : Int)), (46, iV .i64 x4553), (50, .im (.row (a1.map (encInt .i64)))), (51, iV .i64 (a1.length : Int)), (52, iV .i64 x4569)], [(16, some (.row 4 31 (t4499.map epluvialref17_Item))), (17, some (.box 31 (apluvialref17_Item b4558)))], 0⟩) (by kernel_rfl)) (And.intro rfl rfl))
                  · replace H := (ifF c4578).symm.trans H
                    refine reg hP hn hm [(1, .b false)] [1, 3, 9, 10, 11, 12, 14, 15, 44, 45, 46, 50, 51, 52, 58, 59, 60, 61] [14, 15] ⟨[(1, .im (.row (a1.map (encInt .i64)))), (3, iV .i64 a3), (9, iV .i64 (IntKind.i64.wrap (Int.tmod a2 (5 : Int)))), (10, .own 14), (11, iV .i64 x4551), (12, iV .i64 x4552), (14, .ptr 15 0 0), (15, bV (b4574 == b4558.f0)), (44, .im (.row (a0.map epluvialref17_Item))), (45, iV .i64 (a0.length : Int)), (46, iV .i64 x4553), (50, .im (.row (a1.map (encInt .i64)))), (51, iV .i64 (a1.length : Int)), (52, iV .i64 x4569), (58, iV .i64 b4574), (59, .ptr 15 0 0), (60, iV .i64 b4558.f0), (61, bV (b4574 == b4558.f0))], [(14, some (.row 4 31 (t4499.map epluvialref17_Item))), (15, some (.box 31 (apluvialref17_Item b4558)))], 0⟩ [x4568 = false] (by kernel_rfl) ⟨by exact c4578, trivial⟩ ?_
                    obtain rfl := Option.some.inj H
                    exact Exists.intro _ (And.intro (fun _ _ h => h.conv (inv := [(14, 16), (15, 17)]) (vk := []) (e0 := []) (t := ⟨[(1, .im (.row (a1.map (encInt .i64)))), (3, iV .i64 a3), (9, iV .i64 (IntKind.i64.wrap (Int.tmod a2 (5 : Int)))), (10, .own 16), (11, iV .i64 x4551), (12, iV .i64 x4552), (14, .ptr 17 0 0), (15, bV (b4574 == b4558.f0)), (44, .im (.row (a0.map epluvialref17_Item))), (45, iV .i64 (a0.length : Int)), (46, iV .i64 x4553), (50, .im (.row (a1.map (encInt .i64)))), (51, iV .i64 (a1.length : Int)), (52, iV .i64 x4569)], [(16, some (.row 4 31 (t4499.map epluvialref17_Item))), (17, some (.box 31 (apluvialref17_Item b4558)))], 0⟩) (by kernel_rfl)) (And.intro rfl rfl))
                · obtain ⟨x4579, rfl⟩ : ∃ z, z = o4646 := ⟨_, rfl⟩
                  rintro e s ⟨rfl, rfl⟩
                  refine reg hP hn hm [] [1, 3, 9, 10, 11, 12, 14, 15, 44, 45, 46, 50, 51, 52] [16, 17] ⟨[(1, .im (.row (a1.map (encInt .i64)))), (3, iV .i64 a3), (9, iV .i64 (IntKind.i64.wrap (Int.tmod a2 (5 : Int)))), (10, .own 16), (11, iV .i64 x4551), (12, iV .i64 x4552), (14, .ptr 17 0 0), (15, bV x4579), (44, .im (.row (a0.map epluvialref17_Item))), (45, iV .i64 (a0.length : Int)), (46, iV .i64 x4553), (50, .im (.row (a1.map (encInt .i64)))), (51, iV .i64 (a1.length : Int)), (52, iV .i64 (IntKind.i64.wrap (x4569 + (1 : Int))))], [(16, some (.row 4 31 (t4499.map epluvialref17_Item))), (17, some (.box 31 (apluvialref17_Item b4558)))], 0⟩ [] (by kernel_rfl) trivial ?_
                  exact LWp.conv (inv := [(16, 14), (17, 15)]) (vk := []) (e0 := []) (t := ⟨[(1, .im (.row (a1.map (encInt .i64)))), (3, iV .i64 a3), (9, iV .i64 (IntKind.i64.wrap (Int.tmod a2 (5 : Int)))), (10, .own 14), (11, iV .i64 x4551), (12, iV .i64 x4552), (14, .ptr 15 0 0), (15, bV x4579), (44, .im (.row (a0.map epluvialref17_Item))), (45, iV .i64 (a0.length : Int)), (46, iV .i64 x4553), (50, .im (.row (a1.map (encInt .i64)))), (51, iV .i64 (a1.length : Int)), (52, iV .i64 (IntKind.i64.wrap (x4569 + (1 : Int))))], [(14, some (.row 4 31 (t4499.map epluvialref17_Item))), (15, some (.box 31 (apluvialref17_Item b4558)))], 0⟩) (by kernel_rfl) (ih _ _ _ H)
              · replace H := (ifF c4570).symm.trans H
                refine AWp.exit ?_
                obtain rfl := Option.some.inj H
                exact Exists.intro _ (And.intro (fun _ _ h => h.conv (inv := [(14, 18), (15, 19)]) (vk := []) (e0 := []) (t := ⟨[(1, .im (.row (a1.map (encInt .i64)))), (3, iV .i64 a3), (9, iV .i64 (IntKind.i64.wrap (Int.tmod a2 (5 : Int)))), (10, .own 18), (11, iV .i64 x4551), (12, iV .i64 x4552), (14, .ptr 19 0 0), (15, bV x4568), (44, .im (.row (a0.map epluvialref17_Item))), (45, iV .i64 (a0.length : Int)), (46, iV .i64 x4553)], [(18, some (.row 4 31 (t4499.map epluvialref17_Item))), (19, some (.box 31 (apluvialref17_Item b4558)))], 0⟩) (by kernel_rfl)) (And.intro rfl rfl))
            · obtain ⟨x4580, rfl⟩ : ∃ z, z = o4644 := ⟨_, rfl⟩
              rintro e s ⟨rfl, rfl⟩
              refine AWp.seq ?_
              refine AWp.seq ?_
              refine reg hP hn hm [] [1, 3, 9, 10, 11, 12, 14, 44, 45, 46, 64] [18, 19] ⟨[(1, .im (.row (a1.map (encInt .i64)))), (3, iV .i64 a3), (9, iV .i64 (IntKind.i64.wrap (Int.tmod a2 (5 : Int)))), (10, .own 18), (11, iV .i64 x4551), (12, iV .i64 x4552), (14, .ptr 19 0 0), (44, .im (.row (a0.map epluvialref17_Item))), (45, iV .i64 (a0.length : Int)), (46, iV .i64 x4553), (64, bV x4580)], [(18, some (.row 4 31 (t4499.map epluvialref17_Item))), (19, some (.box 31 (apluvialref17_Item b4558)))], 0⟩ [] (by kernel_rfl) trivial ?_
              refine AWp.cond x4580 rfl (fun c4581 => ?_) (fun c4581 => ?_)
              · replace H := (ifT c4581).symm.trans H
                refine AWp.seq ?_
                refine AWp.seq ?_
                obtain ⟨t4587, e4588, H⟩ := bind_of H
                obtain ⟨c4589, H⟩ := chk_of H
                obtain ⟨t4590, e4591, H⟩ := bind_of H
                refine reg hP hn hm [(3, .call [] [] [] [] 0 (iV .i64 t4587) []), (6, .call [] [] [] [] 0 (iV .i64 t4590) [])] [1, 3, 9, 10, 11, 12, 18, 44, 45, 46] [18] ⟨[(1, .im (.row (a1.map (encInt .i64)))), (3, iV .i64 a3), (9, iV .i64 (IntKind.i64.wrap (Int.tmod a2 (5 : Int)))), (10, .own 18), (11, iV .i64 x4551), (12, iV .i64 x4552), (18, iV .i64 (IntKind.i64.wrap ((IntKind.i64.wrap (Int.tdiv b4558.f2 t4587)) * t4590))), (44, .im (.row (a0.map epluvialref17_Item))), (45, iV .i64 (a0.length : Int)), (46, iV .i64 x4553)], [(18, some (.row 4 31 (t4499.map epluvialref17_Item)))], 0⟩ [Enters Try.prog 19, Pv.Fn Try.prog 19 [iV .i64 (IntKind.i64.wrap (Int.tmod a2 (5 : Int)))] [] 0 (fun r o => r = iV .i64 t4587 ∧ o = []), t4587 ≠ 0, Enters Try.prog 19, Pv.Fn Try.prog 19 [iV .i64 (IntKind.i64.wrap (Int.tmod a2 (5 : Int)))] [] 0 (fun r o => r = iV .i64 t4590 ∧ o = [])] (by kernel_rfl) ⟨by exact Try.call19, by exact f_pluvialref16_Width.ok (IntKind.i64.wrap (Int.tmod a2 (5 : Int))) t4587 e4588, by exact c4589, by exact Try.call19, by exact f_pluvialref16_Width.ok (IntKind.i64.wrap (Int.tmod a2 (5 : Int))) t4590 e4591, trivial⟩ ?_
                refine AWp.seq ?_
                obtain ⟨o4648, e4649, H⟩ := bind_of H
                refine AWp.mono (Q := fun e s => (match (generalizing := false) o4648 with | x4594 => e = .normal ∧ s = ⟨[(1, .im (.row (a1.map (encInt .i64)))), (3, iV .i64 a3), (9, iV .i64 (IntKind.i64.wrap (Int.tmod a2 (5 : Int)))), (10, .own 20), (11, iV .i64 x4551), (12, iV .i64 x4552), (18, iV .i64 (IntKind.i64.wrap ((IntKind.i64.wrap (Int.tdiv b4558.f2 t4587)) * t4590))), (44, .im (.row (a0.map epluvialref17_Item))), (45, iV .i64 (a0.length : Int)), (46, iV .i64 x4553), (79, bV x4594)], [(20, some (.row 4 31 (t4499.map epluvialref17_Item)))], 0⟩)) (AWp.cv ?_) ?_
                · replace H := e4649; clear e4649
                  rcases Bool.eq_false_or_eq_true (decide (x4552 < (0 : Int))) with c4593 | c4593
                  · replace H := (ifT c4593).symm.trans H
                    refine reg hP hn hm [(2, .b true)] [1, 3, 9, 10, 11, 12, 18, 44, 45, 46, 79] [18] ⟨[(1, .im (.row (a1.map (encInt .i64)))), (3, iV .i64 a3), (9, iV .i64 (IntKind.i64.wrap (Int.tmod a2 (5 : Int)))), (10, .own 18), (11, iV .i64 x4551), (12, iV .i64 x4552), (18, iV .i64 (IntKind.i64.wrap ((IntKind.i64.wrap (Int.tdiv b4558.f2 t4587)) * t4590))), (44, .im (.row (a0.map epluvialref17_Item))), (45, iV .i64 (a0.length : Int)), (46, iV .i64 x4553), (79, bV true)], [(18, some (.row 4 31 (t4499.map epluvialref17_Item)))], 0⟩ [(decide (x4552 < (0 : Int))) = true] (by kernel_rfl) ⟨by exact c4593, trivial⟩ ?_
                    obtain rfl := Option.some.inj H
                    exact Exists.intro _ (And.intro (fun _ _ h => h.conv (inv := [(18, 20)]) (vk := []) (e0 := []) (t := ⟨[(1, .im (.row (a1.map (encInt .i64)))), (3, iV .i64 a3), (9, iV .i64 (IntKind.i64.wrap (Int.tmod a2 (5 : Int)))), (10, .own 20), (11, iV .i64 x4551), (12, iV .i64 x4552), (18, iV .i64 (IntKind.i64.wrap ((IntKind.i64.wrap (Int.tdiv b4558.f2 t4587)) * t4590))), (44, .im (.row (a0.map epluvialref17_Item))), (45, iV .i64 (a0.length : Int)), (46, iV .i64 x4553), (79, bV true)], [(20, some (.row 4 31 (t4499.map epluvialref17_Item)))], 0⟩) (by kernel_rfl)) (And.intro rfl rfl))
                  · replace H := (ifF c4593).symm.trans H
                    refine reg hP hn hm [(2, .b false)] [1, 3, 9, 10, 11, 12, 18, 44, 45, 46, 76, 77, 78, 79] [18] ⟨[(1, .im (.row (a1.map (encInt .i64)))), (3, iV .i64 a3), (9, iV .i64 (IntKind.i64.wrap (Int.tmod a2 (5 : Int)))), (10, .own 18), (11, iV .i64 x4551), (12, iV .i64 x4552), (18, iV .i64 (IntKind.i64.wrap ((IntKind.i64.wrap (Int.tdiv b4558.f2 t4587)) * t4590))), (44, .im (.row (a0.map epluvialref17_Item))), (45, iV .i64 (a0.length : Int)), (46, iV .i64 x4553), (76, iV .i64 (IntKind.i64.wrap ((IntKind.i64.wrap (Int.tdiv b4558.f2 t4587)) * t4590))), (77, iV .i64 x4552), (78, bV (decide ((IntKind.i64.wrap ((IntKind.i64.wrap (Int.tdiv b4558.f2 t4587)) * t4590)) < x4552))), (79, bV (decide ((IntKind.i64.wrap ((IntKind.i64.wrap (Int.tdiv b4558.f2 t4587)) * t4590)) < x4552)))], [(18, some (.row 4 31 (t4499.map epluvialref17_Item)))], 0⟩ [(decide (x4552 < (0 : Int))) = false] (by kernel_rfl) ⟨by exact c4593, trivial⟩ ?_
                    obtain rfl := Option.some.inj H
                    exact Exists.intro _ (And.intro (fun _ _ h => h.conv (inv := [(18, 20)]) (vk := []) (e0 := []) (t := ⟨[(1, .im (.row (a1.map (encInt .i64)))), (3, iV .i64 a3), (9, iV .i64 (IntKind.i64.wrap (Int.tmod a2 (5 : Int)))), (10, .own 20), (11, iV .i64 x4551), (12, iV .i64 x4552), (18, iV .i64 (IntKind.i64.wrap ((IntKind.i64.wrap (Int.tdiv b4558.f2 t4587)) * t4590))), (44, .im (.row (a0.map epluvialref17_Item))), (45, iV .i64 (a0.length : Int)), (46, iV .i64 x4553), (79, bV (decide ((IntKind.i64.wrap ((IntKind.i64.wrap (Int.tdiv b4558.f2 t4587)) * t4590)) < x4552)))], [(20, some (.row 4 31 (t4499.map epluvialref17_Item)))], 0⟩) (by kernel_rfl)) (And.intro rfl rfl))
                · obtain ⟨x4594, rfl⟩ : ∃ z, z = o4648 := ⟨_, rfl⟩
                  rintro e s ⟨rfl, rfl⟩
                  obtain ⟨o4650, e4651, H⟩ := bind_of H
                  refine AWp.mono (Q := fun e s => (match (generalizing := false) o4650 with | x4596 => e = .normal ∧ s = ⟨[(1, .im (.row (a1.map (encInt .i64)))), (3, iV .i64 a3), (9, iV .i64 (IntKind.i64.wrap (Int.tmod a2 (5 : Int)))), (10, .own 21), (11, iV .i64 x4551), (12, iV .i64 x4596), (44, .im (.row (a0.map epluvialref17_Item))), (45, iV .i64 (a0.length : Int)), (46, iV .i64 x4553)], [(21, some (.row 4 31 (t4499.map epluvialref17_Item)))], 0⟩)) (AWp.cv ?_) ?_
                  · replace H := e4651; clear e4651
                    refine AWp.cond x4594 rfl (fun c4595 => ?_) (fun c4595 => ?_)
                    · replace H := (ifT c4595).symm.trans H
                      refine reg hP hn hm [] [1, 3, 9, 10, 11, 12, 44, 45, 46] [20] ⟨[(1, .im (.row (a1.map (encInt .i64)))), (3, iV .i64 a3), (9, iV .i64 (IntKind.i64.wrap (Int.tmod a2 (5 : Int)))), (10, .own 20), (11, iV .i64 x4551), (12, iV .i64 (IntKind.i64.wrap ((IntKind.i64.wrap (Int.tdiv b4558.f2 t4587)) * t4590))), (44, .im (.row (a0.map epluvialref17_Item))), (45, iV .i64 (a0.length : Int)), (46, iV .i64 x4553)], [(20, some (.row 4 31 (t4499.map epluvialref17_Item)))], 0⟩ [] (by kernel_rfl) trivial ?_
                      obtain rfl := Option.some.inj H
                      exact Exists.intro _ (And.intro (fun _ _ h => h.conv (inv := [(20, 21)]) (vk := []) (e0 := []) (t := ⟨[(1, .im (.row (a1.map (encInt .i64)))), (3, iV .i64 a3), (9, iV .i64 (IntKind.i64.wrap (Int.tmod a2 (5 : Int)))), (10, .own 21), (11, iV .i64 x4551), (12, iV .i64 (IntKind.i64.wrap ((IntKind.i64.wrap (Int.tdiv b4558.f2 t4587)) * t4590))), (44, .im (.row (a0.map epluvialref17_Item))), (45, iV .i64 (a0.length : Int)), (46, iV .i64 x4553)], [(21, some (.row 4 31 (t4499.map epluvialref17_Item)))], 0⟩) (by kernel_rfl)) (And.intro rfl rfl))
                    · replace H := (ifF c4595).symm.trans H
                      refine AWp.skip ?_
                      obtain rfl := Option.some.inj H
                      exact Exists.intro _ (And.intro (fun _ _ h => h.conv (inv := [(20, 21)]) (vk := []) (e0 := []) (t := ⟨[(1, .im (.row (a1.map (encInt .i64)))), (3, iV .i64 a3), (9, iV .i64 (IntKind.i64.wrap (Int.tmod a2 (5 : Int)))), (10, .own 21), (11, iV .i64 x4551), (12, iV .i64 x4552), (44, .im (.row (a0.map epluvialref17_Item))), (45, iV .i64 (a0.length : Int)), (46, iV .i64 x4553)], [(21, some (.row 4 31 (t4499.map epluvialref17_Item)))], 0⟩) (by kernel_rfl)) (And.intro rfl rfl))
                  · obtain ⟨x4596, rfl⟩ : ∃ z, z = o4650 := ⟨_, rfl⟩
                    rintro e s ⟨rfl, rfl⟩
                    refine AWp.exit ?_
                    obtain rfl := Option.some.inj H
                    exact Exists.intro _ (And.intro (fun _ _ h => h.conv (inv := [(21, 23)]) (vk := []) (e0 := []) (t := ⟨[(1, .im (.row (a1.map (encInt .i64)))), (3, iV .i64 a3), (9, iV .i64 (IntKind.i64.wrap (Int.tmod a2 (5 : Int)))), (10, .own 23), (11, iV .i64 x4551), (12, iV .i64 x4596), (44, .im (.row (a0.map epluvialref17_Item))), (45, iV .i64 (a0.length : Int)), (46, iV .i64 x4553)], [(23, some (.row 4 31 (t4499.map epluvialref17_Item)))], 0⟩) (by kernel_rfl)) (And.intro rfl rfl))
              · replace H := (ifF c4581).symm.trans H
                refine AWp.skip ?_
                refine AWp.seq ?_
                refine AWp.seq ?_
                obtain ⟨o4652, e4653, H⟩ := bind_of H
                refine AWp.mono (Q := fun e s => (match (generalizing := false) o4652 with | x4605 => e = .normal ∧ s = ⟨[(1, .im (.row (a1.map (encInt .i64)))), (3, iV .i64 a3), (9, iV .i64 (IntKind.i64.wrap (Int.tmod a2 (5 : Int)))), (10, .own 22), (11, iV .i64 x4551), (12, iV .i64 x4552), (44, .im (.row (a0.map epluvialref17_Item))), (45, iV .i64 (a0.length : Int)), (46, iV .i64 x4553), (92, bV x4605)], [(22, some (.row 4 31 (t4499.map epluvialref17_Item)))], 0⟩)) (AWp.cv ?_) ?_
                · replace H := e4653; clear e4653
                  rcases Bool.eq_false_or_eq_true (decide (x4551 ≥ (t4499.length : Int))) with c4601 | c4601
                  · replace H := (ifT c4601).symm.trans H
                    refine reg hP hn hm [(2, .any (iV .i64 (t4499.length : Int))), (4, .b true)] [1, 3, 9, 10, 11, 12, 44, 45, 46, 92] [18] ⟨[(1, .im (.row (a1.map (encInt .i64)))), (3, iV .i64 a3), (9, iV .i64 (IntKind.i64.wrap (Int.tmod a2 (5 : Int)))), (10, .own 18), (11, iV .i64 x4551), (12, iV .i64 x4552), (44, .im (.row (a0.map epluvialref17_Item))), (45, iV .i64 (a0.length : Int)), (46, iV .i64 x4553), (92, bV true)], [(18, some (.row 4 31 (t4499.map epluvialref17_Item)))], 0⟩ [((t4499.map epluvialref17_Item).length : Int) = (t4499.length : Int), (decide (x4551 ≥ (t4499.length : Int))) = true] (by kernel_rfl) ⟨by rw [len_map], by exact c4601, trivial⟩ ?_
                    obtain rfl := Option.some.inj H
                    exact Exists.intro _ (And.intro (fun _ _ h => h.conv (inv := [(18, 22)]) (vk := []) (e0 := []) (t := ⟨[(1, .im (.row (a1.map (encInt .i64)))), (3, iV .i64 a3), (9, iV .i64 (IntKind.i64.wrap (Int.tmod a2 (5 : Int)))), (10, .own 22), (11, iV .i64 x4551), (12, iV .i64 x4552), (44, .im (.row (a0.map epluvialref17_Item))), (45, iV .i64 (a0.length : Int)), (46, iV .i64 x4553), (92, bV true)], [(22, some (.row 4 31 (t4499.map epluvialref17_Item)))], 0⟩) (by kernel_rfl)) (And.intro rfl rfl))
                  · replace H := (ifF c4601).symm.trans H
                    obtain ⟨b4602, p4603, q4604, H⟩ := at_of H
                    refine reg hP hn hm [(2, .any (iV .i64 (t4499.length : Int))), (4, .b false), (8, .c (epluvialref17_Item b4602)), (10, .more (xAgg none))] [1, 3, 9, 10, 11, 12, 44, 45, 46, 86, 87, 88, 89, 90, 91, 92] [18] ⟨[(1, .im (.row (a1.map (encInt .i64)))), (3, iV .i64 a3), (9, iV .i64 (IntKind.i64.wrap (Int.tmod a2 (5 : Int)))), (10, .own 18), (11, iV .i64 x4551), (12, iV .i64 x4552), (44, .im (.row (a0.map epluvialref17_Item))), (45, iV .i64 (a0.length : Int)), (46, iV .i64 x4553), (86, .own 18), (87, iV .i64 x4551), (88, .ptr 18 (Int.toNat (x4551)) 0), (89, .agg (apluvialref17_Item b4602)), (90, .agg (apluvialref17_Item b4558)), (91, bV (!((b4602.f0 == b4558.f0) && ((b4602.f1 == b4558.f1) && ((b4602.f2 == b4558.f2) && ((b4602.f3 == b4558.f3) && true)))))), (92, bV (!((b4602.f0 == b4558.f0) && ((b4602.f1 == b4558.f1) && ((b4602.f2 == b4558.f2) && ((b4602.f3 == b4558.f3) && true))))))], [(18, some (.row 4 31 (t4499.map epluvialref17_Item)))], 0⟩ [((t4499.map epluvialref17_Item).length : Int) = (t4499.length : Int), (decide (x4551 ≥ (t4499.length : Int))) = false, 0 ≤ x4551, x4551 < (((t4499.map epluvialref17_Item).length : Nat) : Int), (t4499.map epluvialref17_Item)[(Int.toNat (x4551))]? = some (epluvialref17_Item b4602)] (by kernel_rfl) ⟨by rw [len_map], by exact c4601, by exact p4603, by exact el_lt epluvialref17_Item p4603 q4604, by exact el_map epluvialref17_Item q4604, trivial⟩ ?_
                    obtain rfl := Option.some.inj H
                    exact Exists.intro _ (And.intro (fun _ _ h => h.conv (inv := [(18, 22)]) (vk := []) (e0 := []) (t := ⟨[(1, .im (.row (a1.map (encInt .i64)))), (3, iV .i64 a3), (9, iV .i64 (IntKind.i64.wrap (Int.tmod a2 (5 : Int)))), (10, .own 22), (11, iV .i64 x4551), (12, iV .i64 x4552), (44, .im (.row (a0.map epluvialref17_Item))), (45, iV .i64 (a0.length : Int)), (46, iV .i64 x4553), (92, bV (!((b4602.f0 == b4558.f0) && ((b4602.f1 == b4558.f1) && ((b4602.f2 == b4558.f2) && ((b4602.f3 == b4558.f3) && true))))))], [(22, some (.row 4 31 (t4499.map epluvialref17_Item)))], 0⟩) (by kernel_rfl)) (And.intro rfl rfl))
                · obtain ⟨x4605, rfl⟩ : ∃ z, z = o4652 := ⟨_, rfl⟩
                  rintro e s ⟨rfl, rfl⟩
                  refine AWp.cond x4605 rfl (fun c4606 => ?_) (fun c4606 => ?_)
                  · replace H := (ifT c4606).symm.trans H
                    refine AWp.seq ?_
                    refine reg hP hn hm [] [8] [] ⟨[(8, bV false)], [], 0⟩ [] (by kernel_rfl) trivial ?_
                    refine AWp.conv (inv := []) (vk := []) (e0 := []) (t := ⟨[(8, bV false)], [], 0⟩) (by kernel_rfl) ?_
                    refine AWp.ret ?_
                    obtain rfl := Option.some.inj H
                    exact Exists.intro _ (And.intro (fun _ _ h => h) (And.intro rfl (And.intro rfl (And.intro (by kernel_rfl) (by kernel_rfl)))))
                  · replace H := (ifF c4606).symm.trans H
                    refine AWp.skip ?_
                    refine reg hP hn hm [] [1, 3, 9, 10, 11, 12, 44, 45, 46] [22] ⟨[(1, .im (.row (a1.map (encInt .i64)))), (3, iV .i64 a3), (9, iV .i64 (IntKind.i64.wrap (Int.tmod a2 (5 : Int)))), (10, .own 22), (11, iV .i64 (IntKind.i64.wrap (x4551 + (1 : Int)))), (12, iV .i64 x4552), (44, .im (.row (a0.map epluvialref17_Item))), (45, iV .i64 (a0.length : Int)), (46, iV .i64 x4553)], [(22, some (.row 4 31 (t4499.map epluvialref17_Item)))], 0⟩ [] (by kernel_rfl) trivial ?_
                    obtain rfl := Option.some.inj H
                    exact Exists.intro _ (And.intro (fun _ _ h => h.conv (inv := [(22, 23)]) (vk := []) (e0 := []) (t := ⟨[(1, .im (.row (a1.map (encInt .i64)))), (3, iV .i64 a3), (9, iV .i64 (IntKind.i64.wrap (Int.tmod a2 (5 : Int)))), (10, .own 23), (11, iV .i64 (IntKind.i64.wrap (x4551 + (1 : Int)))), (12, iV .i64 x4552), (44, .im (.row (a0.map epluvialref17_Item))), (45, iV .i64 (a0.length : Int)), (46, iV .i64 x4553)], [(23, some (.row 4 31 (t4499.map epluvialref17_Item)))], 0⟩) (by kernel_rfl)) (And.intro rfl rfl))
          · rcases o4642 with rr | ⟨x4607, x4608⟩
            · skip
              rintro e s ⟨rfl, hfl, hres⟩
              obtain rfl := Option.some.inj H
              exact Exists.intro _ (And.intro (fun _ _ h => h) (And.intro rfl (And.intro hfl hres)))
            · skip
              rintro e s ⟨rfl, rfl⟩
              refine reg hP hn hm [] [1, 3, 9, 10, 11, 12, 44, 45, 46] [23] ⟨[(1, .im (.row (a1.map (encInt .i64)))), (3, iV .i64 a3), (9, iV .i64 (IntKind.i64.wrap (Int.tmod a2 (5 : Int)))), (10, .own 23), (11, iV .i64 x4607), (12, iV .i64 x4608), (44, .im (.row (a0.map epluvialref17_Item))), (45, iV .i64 (a0.length : Int)), (46, iV .i64 (IntKind.i64.wrap (x4553 + (1 : Int))))], [(23, some (.row 4 31 (t4499.map epluvialref17_Item)))], 0⟩ [] (by kernel_rfl) trivial ?_
              exact LWp.conv (inv := [(23, 12)]) (vk := []) (e0 := []) (t := ⟨[(1, .im (.row (a1.map (encInt .i64)))), (3, iV .i64 a3), (9, iV .i64 (IntKind.i64.wrap (Int.tmod a2 (5 : Int)))), (10, .own 12), (11, iV .i64 x4607), (12, iV .i64 x4608), (44, .im (.row (a0.map epluvialref17_Item))), (45, iV .i64 (a0.length : Int)), (46, iV .i64 (IntKind.i64.wrap (x4553 + (1 : Int))))], [(12, some (.row 4 31 (t4499.map epluvialref17_Item)))], 0⟩) (by kernel_rfl) (ih _ _ _ _ H)
        · replace H := (ifF c4554).symm.trans H
          refine AWp.exit ?_
          obtain rfl := Option.some.inj H
          exact Exists.intro _ (And.intro (fun _ _ h => h.conv (inv := [(12, 24)]) (vk := []) (e0 := []) (t := ⟨[(3, iV .i64 a3), (9, iV .i64 (IntKind.i64.wrap (Int.tmod a2 (5 : Int)))), (10, .own 24), (11, iV .i64 x4551), (12, iV .i64 x4552)], [(24, some (.row 4 31 (t4499.map epluvialref17_Item)))], 0⟩) (by kernel_rfl)) (And.intro rfl rfl))
      · rcases o4640 with rr | ⟨x4609, x4610⟩
        · skip
          rintro e s ⟨rfl, hfl, hres⟩
          obtain rfl := Option.some.inj H
          exact Exists.intro _ (And.intro (fun _ _ h => h) (And.intro (.inl rfl) (And.intro hfl hres)))
        · skip
          rintro e s ⟨rfl, rfl⟩
          refine AWp.seq ?_
          refine AWp.seq ?_
          refine reg hP hn hm [] [3, 9, 10, 11, 12, 97] [24] ⟨[(3, iV .i64 a3), (9, iV .i64 (IntKind.i64.wrap (Int.tmod a2 (5 : Int)))), (10, .own 24), (11, iV .i64 x4609), (12, iV .i64 x4610), (97, bV (decide (x4610 < (0 : Int))))], [(24, some (.row 4 31 (t4499.map epluvialref17_Item)))], 0⟩ [] (by kernel_rfl) trivial ?_
          refine AWp.cond (decide (x4610 < (0 : Int))) rfl (fun c4611 => ?_) (fun c4611 => ?_)
          · replace H := (ifT c4611).symm.trans H
            refine AWp.seq ?_
            obtain ⟨o4654, e4655, H⟩ := bind_of H
            refine AWp.mono (Q := fun e s => (match (generalizing := false) o4654 with | x4618 => e = .normal ∧ s = ⟨[(8, bV x4618)], [], 0⟩)) (AWp.cv ?_) ?_
            · replace H := e4655; clear e4655
              obtain ⟨t4615, e4616, H⟩ := bind_of H
              rcases Bool.eq_false_or_eq_true t4615 with c4617 | c4617
              · replace H := (ifT c4617).symm.trans H
                refine reg hP hn hm [(0, .call [] [] [] [] 0 (bV t4615) []), (1, .b true), (3, .any (iV .i64 (t4499.length : Int)))] [8] [] ⟨[(8, bV ((t4499.length : Int) == x4609))], [], 0⟩ [Enters Try.prog 13, Pv.Fn Try.prog 13 [] [] 0 (fun r o => r = bV t4615 ∧ o = []), t4615 = true, ((t4499.map epluvialref17_Item).length : Int) = (t4499.length : Int)] (by kernel_rfl) ⟨by exact Try.call13, by exact f_pluviallaw17_awake.ok  t4615 e4616, by exact c4617, by rw [len_map], trivial⟩ ?_
                obtain rfl := Option.some.inj H
                exact Exists.intro _ (And.intro (fun _ _ h => h.conv (inv := []) (vk := []) (e0 := []) (t := ⟨[(8, bV ((t4499.length : Int) == x4609))], [], 0⟩) (by kernel_rfl)) (And.intro rfl rfl))
              · replace H := (ifF c4617).symm.trans H
                refine reg hP hn hm [(0, .call [] [] [] [] 0 (bV t4615) []), (1, .b false)] [8] [] ⟨[(8, bV false)], [], 0⟩ [Enters Try.prog 13, Pv.Fn Try.prog 13 [] [] 0 (fun r o => r = bV t4615 ∧ o = []), t4615 = false] (by kernel_rfl) ⟨by exact Try.call13, by exact f_pluviallaw17_awake.ok  t4615 e4616, by exact c4617, trivial⟩ ?_
                obtain rfl := Option.some.inj H
                exact Exists.intro _ (And.intro (fun _ _ h => h.conv (inv := []) (vk := []) (e0 := []) (t := ⟨[(8, bV false)], [], 0⟩) (by kernel_rfl)) (And.intro rfl rfl))
            · obtain ⟨x4618, rfl⟩ : ∃ z, z = o4654 := ⟨_, rfl⟩
              rintro e s ⟨rfl, rfl⟩
              refine AWp.conv (inv := []) (vk := []) (e0 := []) (t := ⟨[(8, bV x4618)], [], 0⟩) (by kernel_rfl) ?_
              refine AWp.ret ?_
              obtain rfl := Option.some.inj H
              exact Exists.intro _ (And.intro (fun _ _ h => h) (And.intro (.inl rfl) (And.intro rfl (And.intro (by kernel_rfl) (by kernel_rfl)))))
          · replace H := (ifF c4611).symm.trans H
            refine AWp.skip ?_
            refine AWp.seq ?_
            obtain ⟨o4656, e4657, H⟩ := bind_of H
            refine AWp.mono (Q := fun e s => (match (generalizing := false) o4656 with | x4637 => e = .normal ∧ s = ⟨[(8, bV x4637)], [], 0⟩)) (AWp.cv ?_) ?_
            · replace H := e4657; clear e4657
              obtain ⟨t4628, e4629, H⟩ := bind_of H
              rcases Bool.eq_false_or_eq_true t4628 with c4630 | c4630
              · replace H := (ifT c4630).symm.trans H
                rcases Bool.eq_false_or_eq_true ((t4499.length : Int) == (IntKind.i64.wrap (x4609 + (1 : Int)))) with c4631 | c4631
                · replace H := (ifT c4631).symm.trans H
                  obtain ⟨b4632, p4633, q4634, H⟩ := at_of H
                  obtain ⟨t4635, e4636, H⟩ := bind_of H
                  refine reg hP hn hm [(0, .call [] [] [] [] 0 (bV t4628) []), (1, .b true), (3, .any (iV .i64 (t4499.length : Int))), (8, .b true), (12, .c (epluvialref17_Item b4632)), (18, .call [] [] [] [] 0 (iV .i64 t4635) []), (21, .more (xAgg none))] [8] [] ⟨[(8, bV ((b4632.f0 == a3) && ((b4632.f1 == (IntKind.i64.wrap (Int.tmod a2 (5 : Int)))) && ((b4632.f2 == x4610) && ((b4632.f3 == (IntKind.i64.wrap (x4610 + t4635))) && true)))))], [], 0⟩ [Enters Try.prog 13, Pv.Fn Try.prog 13 [] [] 0 (fun r o => r = bV t4628 ∧ o = []), t4628 = true, ((t4499.map epluvialref17_Item).length : Int) = (t4499.length : Int), ((t4499.length : Int) == (IntKind.i64.wrap (x4609 + (1 : Int)))) = true, 0 ≤ x4609, x4609 < (((t4499.map epluvialref17_Item).length : Nat) : Int), (t4499.map epluvialref17_Item)[(Int.toNat (x4609))]? = some (epluvialref17_Item b4632), Enters Try.prog 19, Pv.Fn Try.prog 19 [iV .i64 (IntKind.i64.wrap (Int.tmod a2 (5 : Int)))] [] 0 (fun r o => r = iV .i64 t4635 ∧ o = [])] (by kernel_rfl) ⟨by exact Try.call13, by exact f_pluviallaw17_awake.ok  t4628 e4629, by exact c4630, by rw [len_map], by exact c4631, by exact p4633, by exact el_lt epluvialref17_Item p4633 q4634, by exact el_map epluvialref17_Item q4634, by exact Try.call19, by exact f_pluvialref16_Width.ok (IntKind.i64.wrap (Int.tmod a2 (5 : Int))) t4635 e4636, trivial⟩ ?_
                  obtain rfl := Option.some.inj H
                  exact Exists.intro _ (And.intro (fun _ _ h => h.conv (inv := []) (vk := []) (e0 := []) (t := ⟨[(8, bV ((b4632.f0 == a3) && ((b4632.f1 == (IntKind.i64.wrap (Int.tmod a2 (5 : Int)))) && ((b4632.f2 == x4610) && ((b4632.f3 == (IntKind.i64.wrap (x4610 + t4635))) && true)))))], [], 0⟩) (by kernel_rfl)) (And.intro rfl rfl))
                · replace H := (ifF c4631).symm.trans H
                  refine reg hP hn hm [(0, .call [] [] [] [] 0 (bV t4628) []), (1, .b true), (3, .any (iV .i64 (t4499.length : Int))), (8, .b false)] [8] [] ⟨[(8, bV false)], [], 0⟩ [Enters Try.prog 13, Pv.Fn Try.prog 13 [] [] 0 (fun r o => r = bV t4628 ∧ o = []), t4628 = true, ((t4499.map epluvialref17_Item).length : Int) = (t4499.length : Int), ((t4499.length : Int) == (IntKind.i64.wrap (x4609 + (1 : Int)))) = false] (by kernel_rfl) ⟨by exact Try.call13, by exact f_pluviallaw17_awake.ok  t4628 e4629, by exact c4630, by rw [len_map], by exact c4631, trivial⟩ ?_
                  obtain rfl := Option.some.inj H
                  exact Exists.intro _ (And.intro (fun _ _ h => h.conv (inv := []) (vk := []) (e0 := []) (t := ⟨[(8, bV false)], [], 0⟩) (by kernel_rfl)) (And.intro rfl rfl))
              · replace H := (ifF c4630).symm.trans H
                refine reg hP hn hm [(0, .call [] [] [] [] 0 (bV t4628) []), (1, .b false)] [8] [] ⟨[(8, bV false)], [], 0⟩ [Enters Try.prog 13, Pv.Fn Try.prog 13 [] [] 0 (fun r o => r = bV t4628 ∧ o = []), t4628 = false] (by kernel_rfl) ⟨by exact Try.call13, by exact f_pluviallaw17_awake.ok  t4628 e4629, by exact c4630, trivial⟩ ?_
                obtain rfl := Option.some.inj H
                exact Exists.intro _ (And.intro (fun _ _ h => h.conv (inv := []) (vk := []) (e0 := []) (t := ⟨[(8, bV false)], [], 0⟩) (by kernel_rfl)) (And.intro rfl rfl))
            · obtain ⟨x4637, rfl⟩ : ∃ z, z = o4656 := ⟨_, rfl⟩
              rintro e s ⟨rfl, rfl⟩
              refine AWp.conv (inv := []) (vk := []) (e0 := []) (t := ⟨[(8, bV x4637)], [], 0⟩) (by kernel_rfl) ?_
              refine AWp.ret ?_
              obtain rfl := Option.some.inj H
              exact Exists.intro _ (And.intro (fun _ _ h => h) (And.intro (.inl rfl) (And.intro rfl (And.intro (by kernel_rfl) (by kernel_rfl)))))
end Go.Proofs.Ytfkppdcfgmgllaa.PvGD1
