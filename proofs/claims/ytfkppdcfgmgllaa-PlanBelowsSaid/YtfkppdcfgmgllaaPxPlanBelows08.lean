import Derived.Test.YtfkppdcfgmgllaaProg
import Derived.Test.YtfkppdcfgmgllaaPxPlanBelows07
set_option linter.unusedVariables false
set_option linter.unnecessarySimpa false
set_option linter.unusedSimpArgs false
set_option maxRecDepth 10000
namespace Go.Proofs.Ytfkppdcfgmgllaa.PvGD4
open Go Go.Pv
def f_plan_Within.l0 (a0 : List Tplan_Item) (a1 : Int) (a2 : Int) (x2060 : List Int) (x2061 : Int) : Option (List Int) := if (decide (x2061 < (a0.length : Int))) = true then ((at? a0 x2061) >>= fun b2066 => ((if (decide (b2066.f1.f0 ≥ a2)) = true then ((f_block_Width.f a1) >>= fun t2073 => some (decide (b2066.f1.f1 ≤ (IntKind.i64.wrap (a2 + (IntKind.i64.wrap ((64 : Int) * 2 ^ (min (Int.toNat (IntKind.u64.wrap ((2 : Int) * (IntKind.u64.wrap ((if (if (4 : Int) < a1 then (4 : Int) else a1) > (0 : Int) then (if (4 : Int) < a1 then (4 : Int) else a1) else (0 : Int))))))) 64)))))))) else (some false)) : Option (Bool)) >>= fun x2075 => ((if x2075 = true then ((chk ((x2060.length + [b2066.f0].length) * 8 ≤ 140737488355328)) >>= fun _ => some (x2060 ++ [b2066.f0])) else (some x2060)) : Option (List Int)) >>= fun x2079 => f_plan_Within.l0 a0 a1 a2 x2079 (IntKind.i64.wrap (x2061 + (1 : Int)))) else (some x2060)
partial_fixpoint
def f_plan_Within.f (a0 : List Tplan_Item) (a1 : Int) (a2 : Int) : Option (List Int) := (f_plan_Within.l0 a0 a1 a2 [] 0) >>= fun x2080 => (f_slices_Sort_int.f x2080) >>= fun t3873 => some t3873
theorem f_plan_Within.ok (a0 : List Tplan_Item) (a1 : Int) (a2 : Int) (r : List Int) (H : f_plan_Within.f a0 a1 a2 = some r) : Pv.Fn Try.prog 22 [.im (.row (a0.map eplan_Item)), iV .i64 a1, iV .i64 a2] [] 0 (fun x o => x = .own 0 ∧ o = [(0, some (.row 1 3 (r.map (encInt .i64))))]) := by
  unfold f_plan_Within.f at H
  refine Fn.bodyK [0] Try.func22 rfl rfl (fun Γ hP hn => ?_)
  have hm : Try.prog.follows .mixedOrders = true := by kernel_rfl
  replace hn : Γ.n = 40 := hn
  refine AWp.seq ?_
  refine reg hP hn hm [] [0, 1, 2] [] ⟨[(0, .im (.row (a0.map eplan_Item))), (1, iV .i64 a1), (2, iV .i64 a2)], [], 0⟩ [] (by kernel_rfl) trivial ?_
  refine AWp.seq ?_
  refine reg hP hn hm [] [0, 1, 2, 7] [] ⟨[(0, .im (.row (a0.map eplan_Item))), (1, iV .i64 a1), (2, iV .i64 a2), (7, .none0)], [], 0⟩ [] (by kernel_rfl) trivial ?_
  refine AWp.seq ?_
  refine AWp.seq ?_
  refine reg hP hn hm [(1, .any (iV .i64 (a0.length : Int)))] [1, 2, 7, 10, 11, 12] [] ⟨[(1, iV .i64 a1), (2, iV .i64 a2), (7, .none0), (10, .im (.row (a0.map eplan_Item))), (11, iV .i64 (a0.length : Int)), (12, iV .i64 0)], [], 0⟩ [((a0.map eplan_Item).length : Int) = (a0.length : Int)] (by kernel_rfl) ⟨by rw [len_map], trivial⟩ ?_
  refine AWp.block ?_
  obtain ⟨o3875, e3876, H⟩ := bind_of H
  refine AWp.loop (LWp.conv (inv := []) (vk := []) (e0 := [5]) (t := ⟨[(1, iV .i64 a1), (2, iV .i64 a2), (7, .own 5), (10, .im (.row (a0.map eplan_Item))), (11, iV .i64 (a0.length : Int)), (12, iV .i64 0)], [(5, some (.row 1 3 ([].map (encInt .i64))))], 0⟩) (by kernel_rfl) ?_)
  refine LWp.mono (Q := fun e s => (match (generalizing := false) o3875 with | x2080 => e = .exit 0 ∧ s = ⟨[(7, .own 12)], [(12, some (.row 1 3 (x2080.map (encInt .i64))))], 0⟩)) (LWp.cv (withBody (fun body hbody => ?_))) ?_
  · refine f_plan_Within.l0.partial_correctness a0 a1 a2 (motive := fun x2060 x2061 o3875 => LWp Γ body (fun e s => ∃ t, Cv Γ s t ∧ (match (generalizing := false) o3875 with | x2080 => e = .exit 0 ∧ t = ⟨[(7, .own 12)], [(12, some (.row 1 3 (x2080.map (encInt .i64))))], 0⟩)) ⟨[(1, iV .i64 a1), (2, iV .i64 a2), (7, .own 5), (10, .im (.row (a0.map eplan_Item))), (11, iV .i64 (a0.length : Int)), (12, iV .i64 x2061)], [(5, some (.row 1 3 (x2060.map (encInt .i64))))], 0⟩) ?_ _ _ _ e3876
    clear H e3876 o3875; intro self ih x2060 x2061 o3875 H
    subst hbody
    refine LWp.round ?_
    refine AWp.seq ?_
    refine reg hP hn hm [] [1, 2, 7, 10, 11, 12, 13] [5] ⟨[(1, iV .i64 a1), (2, iV .i64 a2), (7, .own 5), (10, .im (.row (a0.map eplan_Item))), (11, iV .i64 (a0.length : Int)), (12, iV .i64 x2061), (13, bV (decide (x2061 < (a0.length : Int))))], [(5, some (.row 1 3 (x2060.map (encInt .i64))))], 0⟩ [] (by kernel_rfl) trivial ?_
    refine AWp.seq ?_
    refine AWp.cond (decide (x2061 < (a0.length : Int))) rfl (fun c2062 => ?_) (fun c2062 => ?_)
    · replace H := (ifT c2062).symm.trans H
      refine AWp.skip ?_
      refine AWp.seq ?_
      refine AWp.block ?_
      refine AWp.seq ?_
      obtain ⟨b2066, p2067, q2068, H⟩ := at_of H
      refine reg hP hn hm [(0, .c (eplan_Item b2066)), (2, .k 6)] [1, 2, 7, 9, 10, 11, 12] [5, 6] ⟨[(1, iV .i64 a1), (2, iV .i64 a2), (7, .own 5), (9, .ptr 6 0 0), (10, .im (.row (a0.map eplan_Item))), (11, iV .i64 (a0.length : Int)), (12, iV .i64 x2061)], [(5, some (.row 1 3 (x2060.map (encInt .i64)))), (6, some (.box 89 [iV .i64 b2066.f0, iV .i64 b2066.f1.f0, iV .i64 b2066.f1.f1, iV .i64 b2066.f1.f2]))], 0⟩ [0 ≤ x2061, (a0.map eplan_Item)[(Int.toNat (x2061))]? = some (eplan_Item b2066)] (by kernel_rfl) ⟨by exact p2067, by exact el_map eplan_Item q2068, trivial⟩ ?_
      refine AWp.seq ?_
      obtain ⟨o3877, e3878, H⟩ := bind_of H
      refine AWp.mono (Q := fun e s => (match (generalizing := false) o3877 with | x2075 => e = .normal ∧ s = ⟨[(1, iV .i64 a1), (2, iV .i64 a2), (7, .own 7), (9, .ptr 8 0 0), (10, .im (.row (a0.map eplan_Item))), (11, iV .i64 (a0.length : Int)), (12, iV .i64 x2061), (30, bV x2075)], [(7, some (.row 1 3 (x2060.map (encInt .i64)))), (8, some (.box 89 [iV .i64 b2066.f0, iV .i64 b2066.f1.f0, iV .i64 b2066.f1.f1, iV .i64 b2066.f1.f2]))], 0⟩)) (AWp.cv ?_) ?_
      · replace H := e3878; clear e3878
        rcases Bool.eq_false_or_eq_true (decide (b2066.f1.f0 ≥ a2)) with c2072 | c2072
        · replace H := (ifT c2072).symm.trans H
          obtain ⟨t2073, e2074, H⟩ := bind_of H
          refine reg hP hn hm [(5, .b true), (11, .call [] [] [] [] 0 (iV .i64 (IntKind.i64.wrap ((64 : Int) * 2 ^ (min (Int.toNat (IntKind.u64.wrap ((2 : Int) * (IntKind.u64.wrap ((if (if (4 : Int) < a1 then (4 : Int) else a1) > (0 : Int) then (if (4 : Int) < a1 then (4 : Int) else a1) else (0 : Int))))))) 64)))) [])] [1, 2, 7, 9, 10, 11, 12, 22, 23, 24, 25, 26, 27, 28, 29, 30] [5, 6] ⟨[(1, iV .i64 a1), (2, iV .i64 a2), (7, .own 5), (9, .ptr 6 0 0), (10, .im (.row (a0.map eplan_Item))), (11, iV .i64 (a0.length : Int)), (12, iV .i64 x2061), (22, .ptr 6 0 1), (23, .ptr 6 0 2), (24, iV .i64 b2066.f1.f1), (25, iV .i64 a2), (26, iV .i64 a1), (27, iV .i64 (IntKind.i64.wrap ((64 : Int) * 2 ^ (min (Int.toNat (IntKind.u64.wrap ((2 : Int) * (IntKind.u64.wrap ((if (if (4 : Int) < a1 then (4 : Int) else a1) > (0 : Int) then (if (4 : Int) < a1 then (4 : Int) else a1) else (0 : Int))))))) 64)))), (28, iV .i64 (IntKind.i64.wrap (a2 + (IntKind.i64.wrap ((64 : Int) * 2 ^ (min (Int.toNat (IntKind.u64.wrap ((2 : Int) * (IntKind.u64.wrap ((if (if (4 : Int) < a1 then (4 : Int) else a1) > (0 : Int) then (if (4 : Int) < a1 then (4 : Int) else a1) else (0 : Int))))))) 64)))))), (29, bV (decide (b2066.f1.f1 ≤ (IntKind.i64.wrap (a2 + (IntKind.i64.wrap ((64 : Int) * 2 ^ (min (Int.toNat (IntKind.u64.wrap ((2 : Int) * (IntKind.u64.wrap ((if (if (4 : Int) < a1 then (4 : Int) else a1) > (0 : Int) then (if (4 : Int) < a1 then (4 : Int) else a1) else (0 : Int))))))) 64)))))))), (30, bV (decide (b2066.f1.f1 ≤ (IntKind.i64.wrap (a2 + (IntKind.i64.wrap ((64 : Int) * 2 ^ (min (Int.toNat (IntKind.u64.wrap ((2 : Int) * (IntKind.u64.wrap ((if (if (4 : Int) < a1 then (4 : Int) else a1) > (0 : Int) then (if (4 : Int) < a1 then (4 : Int) else a1) else (0 : Int))))))) 64))))))))], [(5, some (.row 1 3 (x2060.map (encInt .i64)))), (6, some (.box 89 [iV .i64 b2066.f0, iV .i64 b2066.f1.f0, iV .i64 b2066.f1.f1, iV .i64 b2066.f1.f2]))], 0⟩ [(decide (b2066.f1.f0 ≥ a2)) = true, Enters Try.prog 37, Pv.Fn Try.prog 37 [iV .i64 a1] [] 0 (fun r o => r = iV .i64 (IntKind.i64.wrap ((64 : Int) * 2 ^ (min (Int.toNat (IntKind.u64.wrap ((2 : Int) * (IntKind.u64.wrap ((if (if (4 : Int) < a1 then (4 : Int) else a1) > (0 : Int) then (if (4 : Int) < a1 then (4 : Int) else a1) else (0 : Int))))))) 64))) ∧ o = [])] (by kernel_rfl) ⟨by exact c2072, by exact Try.call37, by exact f_block_Width.ok a1 t2073 e2074, trivial⟩ ?_
          obtain rfl := Option.some.inj H
          exact Exists.intro _ (And.intro (fun _ _ h => h.conv (inv := [(5, 7), (6, 8)]) (vk := []) (e0 := []) (t := ⟨[(1, iV .i64 a1), (2, iV .i64 a2), (7, .own 7), (9, .ptr 8 0 0), (10, .im (.row (a0.map eplan_Item))), (11, iV .i64 (a0.length : Int)), (12, iV .i64 x2061), (30, bV (decide (b2066.f1.f1 ≤ (IntKind.i64.wrap (a2 + (IntKind.i64.wrap ((64 : Int) * 2 ^ (min (Int.toNat (IntKind.u64.wrap ((2 : Int) * (IntKind.u64.wrap ((if (if (4 : Int) < a1 then (4 : Int) else a1) > (0 : Int) then (if (4 : Int) < a1 then (4 : Int) else a1) else (0 : Int))))))) 64))))))))], [(7, some (.row 1 3 (x2060.map (encInt .i64)))), (8, some (.box 89 [iV .i64 b2066.f0, iV .i64 b2066.f1.f0, iV .i64 b2066.f1.f1, iV .i64 b2066.f1.f2]))], 0⟩) (by kernel_rfl)) (And.intro rfl rfl))
        · replace H := (ifF c2072).symm.trans H
          refine reg hP hn hm [(5, .b false)] [1, 2, 7, 9, 10, 11, 12, 30] [5, 6] ⟨[(1, iV .i64 a1), (2, iV .i64 a2), (7, .own 5), (9, .ptr 6 0 0), (10, .im (.row (a0.map eplan_Item))), (11, iV .i64 (a0.length : Int)), (12, iV .i64 x2061), (30, bV false)], [(5, some (.row 1 3 (x2060.map (encInt .i64)))), (6, some (.box 89 [iV .i64 b2066.f0, iV .i64 b2066.f1.f0, iV .i64 b2066.f1.f1, iV .i64 b2066.f1.f2]))], 0⟩ [(decide (b2066.f1.f0 ≥ a2)) = false] (by kernel_rfl) ⟨by exact c2072, trivial⟩ ?_
          obtain rfl := Option.some.inj H
          exact Exists.intro _ (And.intro (fun _ _ h => h.conv (inv := [(5, 7), (6, 8)]) (vk := []) (e0 := []) (t := ⟨[(1, iV .i64 a1), (2, iV .i64 a2), (7, .own 7), (9, .ptr 8 0 0), (10, .im (.row (a0.map eplan_Item))), (11, iV .i64 (a0.length : Int)), (12, iV .i64 x2061), (30, bV false)], [(7, some (.row 1 3 (x2060.map (encInt .i64)))), (8, some (.box 89 [iV .i64 b2066.f0, iV .i64 b2066.f1.f0, iV .i64 b2066.f1.f1, iV .i64 b2066.f1.f2]))], 0⟩) (by kernel_rfl)) (And.intro rfl rfl))
      · obtain ⟨x2075, rfl⟩ : ∃ z, z = o3877 := ⟨_, rfl⟩
        rintro e s ⟨rfl, rfl⟩
        obtain ⟨o3879, e3880, H⟩ := bind_of H
        refine AWp.mono (Q := fun e s => (match (generalizing := false) o3879 with | x2079 => e = .normal ∧ s = ⟨[(1, iV .i64 a1), (2, iV .i64 a2), (7, .own 11), (10, .im (.row (a0.map eplan_Item))), (11, iV .i64 (a0.length : Int)), (12, iV .i64 x2061)], [(11, some (.row 1 3 (x2079.map (encInt .i64))))], 0⟩)) (AWp.cv ?_) ?_
        · replace H := e3880; clear e3880
          refine AWp.cond x2075 rfl (fun c2076 => ?_) (fun c2076 => ?_)
          · replace H := (ifT c2076).symm.trans H
            obtain ⟨c2078, H⟩ := chk_of H
            refine reg hP hn hm [(3, .app 9 ([b2066.f0].map (encInt .i64))), (4, .app 10 ((x2060 ++ [b2066.f0]).map (encInt .i64)))] [1, 2, 7, 10, 11, 12] [10] ⟨[(1, iV .i64 a1), (2, iV .i64 a2), (7, .own 10), (10, .im (.row (a0.map eplan_Item))), (11, iV .i64 (a0.length : Int)), (12, iV .i64 x2061)], [(10, some (.row 1 3 ((x2060 ++ [b2066.f0]).map (encInt .i64))))], 0⟩ [[b2066.f0].map (encInt .i64) = [[iI .i64 b2066.f0]], (x2060 ++ [b2066.f0]).map (encInt .i64) = (x2060.map (encInt .i64)) ++ ([b2066.f0].map (encInt .i64)), ∀ c ∈ ([b2066.f0].map (encInt .i64)), c.length = 1, ∀ c ∈ ([b2066.f0].map (encInt .i64)), leaves (c.map .im) = true, ((x2060.map (encInt .i64)).length + ([b2066.f0].map (encInt .i64)).length) * 8 ≤ 140737488355328] (by kernel_rfl) ⟨by exact rfl, by simp, by exact all_len _ _ _ (fun _ => rfl), by exact all_leaf _ _ (fun _ => rfl), by simpa using c2078, trivial⟩ ?_
            obtain rfl := Option.some.inj H
            exact Exists.intro _ (And.intro (fun _ _ h => h.conv (inv := [(10, 11)]) (vk := []) (e0 := []) (t := ⟨[(1, iV .i64 a1), (2, iV .i64 a2), (7, .own 11), (10, .im (.row (a0.map eplan_Item))), (11, iV .i64 (a0.length : Int)), (12, iV .i64 x2061)], [(11, some (.row 1 3 ((x2060 ++ [b2066.f0]).map (encInt .i64))))], 0⟩) (by kernel_rfl)) (And.intro rfl rfl))
          · replace H := (ifF c2076).symm.trans H
            refine AWp.skip ?_
            obtain rfl := Option.some.inj H
            exact Exists.intro _ (And.intro (fun _ _ h => h.conv (inv := [(7, 11)]) (vk := []) (e0 := []) (t := ⟨[(1, iV .i64 a1), (2, iV .i64 a2), (7, .own 11), (10, .im (.row (a0.map eplan_Item))), (11, iV .i64 (a0.length : Int)), (12, iV .i64 x2061)], [(11, some (.row 1 3 (x2060.map (encInt .i64))))], 0⟩) (by kernel_rfl)) (And.intro rfl rfl))
        · obtain ⟨x2079, rfl⟩ : ∃ z, z = o3879 := ⟨_, rfl⟩
          rintro e s ⟨rfl, rfl⟩
          refine reg hP hn hm [] [1, 2, 7, 10, 11, 12] [11] ⟨[(1, iV .i64 a1), (2, iV .i64 a2), (7, .own 11), (10, .im (.row (a0.map eplan_Item))), (11, iV .i64 (a0.length : Int)), (12, iV .i64 (IntKind.i64.wrap (x2061 + (1 : Int))))], [(11, some (.row 1 3 (x2079.map (encInt .i64))))], 0⟩ [] (by kernel_rfl) trivial ?_
          exact LWp.conv (inv := [(11, 5)]) (vk := []) (e0 := []) (t := ⟨[(1, iV .i64 a1), (2, iV .i64 a2), (7, .own 5), (10, .im (.row (a0.map eplan_Item))), (11, iV .i64 (a0.length : Int)), (12, iV .i64 (IntKind.i64.wrap (x2061 + (1 : Int))))], [(5, some (.row 1 3 (x2079.map (encInt .i64))))], 0⟩) (by kernel_rfl) (ih _ _ _ H)
    · replace H := (ifF c2062).symm.trans H
      refine AWp.exit ?_
      obtain rfl := Option.some.inj H
      exact Exists.intro _ (And.intro (fun _ _ h => h.conv (inv := [(5, 12)]) (vk := []) (e0 := []) (t := ⟨[(7, .own 12)], [(12, some (.row 1 3 (x2060.map (encInt .i64))))], 0⟩) (by kernel_rfl)) (And.intro rfl rfl))
  · obtain ⟨x2080, rfl⟩ : ∃ z, z = o3875 := ⟨_, rfl⟩
    rintro e s ⟨rfl, rfl⟩
    refine AWp.seq ?_
    obtain ⟨t3873, e3874, H⟩ := bind_of H
    refine reg hP hn hm [(1, .call [(12, 0)] [(0, 12)] [] [] 1 (.tup []) [(0, some (.row 1 3 (t3873.map (encInt .i64))))])] [7] [12] ⟨[(7, .own 12)], [(12, some (.row 1 3 (t3873.map (encInt .i64))))], 0⟩ [Enters Try.prog 34, Pv.Fn Try.prog 34 [.own 0] [(0, some (.row 1 3 (x2080.map (encInt .i64))))] 1 (fun r o => r = .tup [] ∧ o = [(0, some (.row 1 3 (t3873.map (encInt .i64))))])] (by kernel_rfl) ⟨by exact Try.call34, by exact f_slices_Sort_int.ok x2080 t3873 e3874, trivial⟩ ?_
    refine AWp.seq ?_
    refine reg hP hn hm [] [6] [12] ⟨[(6, .own 12)], [(12, some (.row 1 3 (t3873.map (encInt .i64))))], 0⟩ [] (by kernel_rfl) trivial ?_
    refine AWp.conv (inv := [(12, 0)]) (vk := []) (e0 := []) (t := ⟨[(6, .own 0)], [(0, some (.row 1 3 (t3873.map (encInt .i64))))], 0⟩) (by kernel_rfl) ?_
    refine AWp.ret ?_
    obtain rfl := Option.some.inj H
    exact Exists.intro _ (And.intro (fun _ _ h => h) (And.intro (.inl rfl) (And.intro rfl (And.intro (by kernel_rfl) (by kernel_rfl)))))
def f_plan_Next.l1 (t2021 : List Tplan_Item) (x4033 : Int) (x4054 : Int) : Option ((Tplan_Step × Bool) ⊕ Unit) := if (decide (x4054 < (t2021.length : Int))) = true then ((at? t2021 x4054) >>= fun b4059 => (f_block_Low.f x4033 (if (0 : Int) > b4059.f1.f0 then (0 : Int) else b4059.f1.f0)) >>= fun t4064 => (f_plan_Within.f t2021 x4033 (IntKind.i64.wrap ((if (0 : Int) > b4059.f1.f0 then (0 : Int) else b4059.f1.f0) - (Int.tmod (if (0 : Int) > b4059.f1.f0 then (0 : Int) else b4059.f1.f0) (IntKind.i64.wrap ((64 : Int) * 2 ^ (min (Int.toNat (IntKind.u64.wrap ((2 : Int) * (IntKind.u64.wrap ((if (if (4 : Int) < x4033 then (4 : Int) else x4033) > (0 : Int) then (if (4 : Int) < x4033 then (4 : Int) else x4033) else (0 : Int))))))) 64))))))) >>= fun t4068 => ((if (decide (b4059.f1.f2 ≤ x4033)) = true then (some (decide ((t4068.length : Int) > (1 : Int)))) else (some false)) : Option (Bool)) >>= fun x4072 => if x4072 = true then (some (.inl ((⟨t4068, x4033⟩ : Tplan_Step), true))) else (f_plan_Next.l1 t2021 x4033 (IntKind.i64.wrap (x4054 + (1 : Int))))) else (some (.inr ()))
partial_fixpoint
def f_plan_Next.l0 (t2021 : List Tplan_Item) (x4033 : Int) : Option ((Tplan_Step × Bool) ⊕ Unit) := if (decide (x4033 ≤ (4 : Int))) = true then ((f_plan_Next.l1 t2021 x4033 0) >>= fun oo => match oo with | .inl rr => (some (.inl rr)) | .inr _ => (f_plan_Next.l0 t2021 (IntKind.i64.wrap (x4033 + (1 : Int))))) else (some (.inr ()))
partial_fixpoint
def f_plan_Next.f (a0 : List Tplan_Item) : Option (Tplan_Step × Bool) := (f_plan_sorted.f a0) >>= fun t2021 => (f_plan_Next.l0 t2021 0) >>= fun oo => match oo with | .inl rr => (some rr) | .inr _ => (some ((⟨[], 0⟩ : Tplan_Step), false))
theorem f_plan_Next.ok (a0 : List Tplan_Item) (r : Tplan_Step × Bool) (H : f_plan_Next.f a0 = some r) : Pv.Fn Try.prog 16 [.im (.row (a0.map eplan_Item))] [] 0 (fun x o => x = .tup [.agg [.own 0, iV .i64 ((r.1).f1)], bV r.2] ∧ o = [(0, some (.row 1 3 (((r.1).f0).map (encInt .i64))))]) := by
  unfold f_plan_Next.f at H
  refine Fn.bodyK [0] Try.func16 rfl rfl (fun Γ hP hn => ?_)
  have hm : Try.prog.follows .mixedOrders = true := by kernel_rfl
  replace hn : Γ.n = 46 := hn
  refine AWp.seq ?_
  refine reg hP hn hm [(0, .k 0)] [0, 2] [0] ⟨[(0, .im (.row (a0.map eplan_Item))), (2, .ptr 0 0 0)], [(0, some (.box 33 [.none0, iV .i64 0]))], 0⟩ [] (by kernel_rfl) trivial ?_
  refine AWp.seq ?_
  obtain ⟨t2021, e2022, H⟩ := bind_of H
  refine reg hP hn hm [(1, .call [] [(0, 1)] [] [1] 0 (.own 0) [(0, some (.row 4 89 (t2021.map eplan_Item)))])] [0, 2] [0, 1] ⟨[(0, .own 1), (2, .ptr 0 0 0)], [(0, some (.box 33 [.none0, iV .i64 0])), (1, some (.row 4 89 (t2021.map eplan_Item)))], 0⟩ [Enters Try.prog 35, Pv.Fn Try.prog 35 [.im (.row (a0.map eplan_Item))] [] 0 (fun r o => r = .own 0 ∧ o = [(0, some (.row 4 89 (t2021.map eplan_Item)))])] (by kernel_rfl) ⟨by exact Try.call35, by exact f_plan_sorted.ok a0 t2021 e2022, trivial⟩ ?_
  refine AWp.seq ?_
  refine AWp.seq ?_
  refine reg hP hn hm [] [0, 2, 4] [0, 1] ⟨[(0, .own 1), (2, .ptr 0 0 0), (4, iV .i64 0)], [(0, some (.box 33 [.none0, iV .i64 0])), (1, some (.row 4 89 (t2021.map eplan_Item)))], 0⟩ [] (by kernel_rfl) trivial ?_
  refine AWp.block ?_
  obtain ⟨o4074, e4075, H⟩ := bind_of H
  refine AWp.loop (LWp.conv (inv := [(0, 42)]) (vk := [1]) (e0 := []) (t := ⟨[(0, .im (.row (t2021.map eplan_Item))), (2, .ptr 42 0 0), (4, iV .i64 0)], [(42, some (.box 33 [.none0, iV .i64 0]))], 0⟩) (by kernel_rfl) ?_)
  refine LWp.mono (Q := fun e s => (match (generalizing := false) o4074 with | .inl rr => e = .ret ∧ s.floor = 0 ∧ resOf Try.prog Try.f16 s = some (.tup [.agg [.own 0, iV .i64 ((rr.1).f1)], bV rr.2]) ∧ ([(0, s.obj 0)] : List (Nat × Option MObj)) = [(0, some (.row 1 3 (((rr.1).f0).map (encInt .i64))))] | .inr _ => e = .exit 0 ∧ s = ⟨[(2, .ptr 53 0 0)], [(53, some (.box 33 [.none0, iV .i64 0]))], 0⟩)) (LWp.cv (withBody (fun body hbody => ?_))) ?_
  · refine f_plan_Next.l0.partial_correctness t2021 (motive := fun x4033 o4074 => LWp Γ body (fun e s => ∃ t, Cv Γ s t ∧ (match (generalizing := false) o4074 with | .inl rr => e = .ret ∧ t.floor = 0 ∧ resOf Try.prog Try.f16 t = some (.tup [.agg [.own 0, iV .i64 ((rr.1).f1)], bV rr.2]) ∧ ([(0, t.obj 0)] : List (Nat × Option MObj)) = [(0, some (.row 1 3 (((rr.1).f0).map (encInt .i64))))] | .inr _ => e = .exit 0 ∧ t = ⟨[(2, .ptr 53 0 0)], [(53, some (.box 33 [.none0, iV .i64 0]))], 0⟩)) ⟨[(0, .im (.row (t2021.map eplan_Item))), (2, .ptr 42 0 0), (4, iV .i64 x4033)], [(42, some (.box 33 [.none0, iV .i64 0]))], 0⟩) ?_ _ _ e4075
    clear H e4075 o4074; intro self ih x4033 o4074 H
    subst hbody
    refine LWp.round ?_
    refine AWp.seq ?_
    refine AWp.seq ?_
    refine reg hP hn hm [] [0, 2, 4, 12] [42] ⟨[(0, .im (.row (t2021.map eplan_Item))), (2, .ptr 42 0 0), (4, iV .i64 x4033), (12, bV (decide (x4033 ≤ (4 : Int))))], [(42, some (.box 33 [.none0, iV .i64 0]))], 0⟩ [] (by kernel_rfl) trivial ?_
    refine AWp.cond (decide (x4033 ≤ (4 : Int))) rfl (fun c4034 => ?_) (fun c4034 => ?_)
    · replace H := (ifT c4034).symm.trans H
      refine AWp.skip ?_
      refine AWp.seq ?_
      refine AWp.block ?_
      refine AWp.seq ?_
      refine reg hP hn hm [(1, .any (iV .i64 (t2021.length : Int)))] [0, 2, 4, 15, 16, 17] [42] ⟨[(0, .im (.row (t2021.map eplan_Item))), (2, .ptr 42 0 0), (4, iV .i64 x4033), (15, .im (.row (t2021.map eplan_Item))), (16, iV .i64 (t2021.length : Int)), (17, iV .i64 0)], [(42, some (.box 33 [.none0, iV .i64 0]))], 0⟩ [((t2021.map eplan_Item).length : Int) = (t2021.length : Int)] (by kernel_rfl) ⟨by rw [len_map], trivial⟩ ?_
      refine AWp.block ?_
      obtain ⟨o4076, e4077, H⟩ := bind_of H
      refine AWp.loop (LWp.conv (inv := [(42, 47)]) (vk := []) (e0 := []) (t := ⟨[(0, .im (.row (t2021.map eplan_Item))), (2, .ptr 47 0 0), (4, iV .i64 x4033), (15, .im (.row (t2021.map eplan_Item))), (16, iV .i64 (t2021.length : Int)), (17, iV .i64 0)], [(47, some (.box 33 [.none0, iV .i64 0]))], 0⟩) (by kernel_rfl) ?_)
      refine LWp.mono (Q := fun e s => (match (generalizing := false) o4076 with | .inl rr => e = .ret ∧ s.floor = 0 ∧ resOf Try.prog Try.f16 s = some (.tup [.agg [.own 0, iV .i64 ((rr.1).f1)], bV rr.2]) ∧ ([(0, s.obj 0)] : List (Nat × Option MObj)) = [(0, some (.row 1 3 (((rr.1).f0).map (encInt .i64))))] | .inr _ => e = .exit 2 ∧ s = ⟨[(0, .im (.row (t2021.map eplan_Item))), (2, .ptr 52 0 0), (4, iV .i64 x4033)], [(52, some (.box 33 [.none0, iV .i64 0]))], 0⟩)) (LWp.cv (withBody (fun body hbody => ?_))) ?_
      · refine f_plan_Next.l1.partial_correctness t2021 x4033 (motive := fun x4054 o4076 => LWp Γ body (fun e s => ∃ t, Cv Γ s t ∧ (match (generalizing := false) o4076 with | .inl rr => e = .ret ∧ t.floor = 0 ∧ resOf Try.prog Try.f16 t = some (.tup [.agg [.own 0, iV .i64 ((rr.1).f1)], bV rr.2]) ∧ ([(0, t.obj 0)] : List (Nat × Option MObj)) = [(0, some (.row 1 3 (((rr.1).f0).map (encInt .i64))))] | .inr _ => e = .exit 2 ∧ t = ⟨[(0, .im (.row (t2021.map eplan_Item))), (2, .ptr 52 0 0), (4, iV .i64 x4033)], [(52, some (.box 33 [.none0, iV .i64 0]))], 0⟩)) ⟨[(0, .im (.row (t2021.map eplan_Item))), (2, .ptr 47 0 0), (4, iV .i64 x4033), (15, .im (.row (t2021.map eplan_Item))), (16, iV .i64 (t2021.length : Int)), (17, iV .i64 x4054)], [(47, some (.box 33 [.none0, iV .i64 0]))], 0⟩) ?_ _ _ e4077
        clear H e4077 o4076; intro self ih x4054 o4076 H
        subst hbody
        refine LWp.round ?_
        refine AWp.seq ?_
        refine reg hP hn hm [] [0, 2, 4, 15, 16, 17, 18] [47] ⟨[(0, .im (.row (t2021.map eplan_Item))), (2, .ptr 47 0 0), (4, iV .i64 x4033), (15, .im (.row (t2021.map eplan_Item))), (16, iV .i64 (t2021.length : Int)), (17, iV .i64 x4054), (18, bV (decide (x4054 < (t2021.length : Int))))], [(47, some (.box 33 [.none0, iV .i64 0]))], 0⟩ [] (by kernel_rfl) trivial ?_
        refine AWp.seq ?_
        refine AWp.cond (decide (x4054 < (t2021.length : Int))) rfl (fun c4055 => ?_) (fun c4055 => ?_)
        · replace H := (ifT c4055).symm.trans H
          refine AWp.skip ?_
          refine AWp.seq ?_
          refine AWp.block ?_
          refine AWp.seq ?_
          obtain ⟨b4059, p4060, q4061, H⟩ := at_of H
          refine reg hP hn hm [(0, .c (eplan_Item b4059)), (2, .k 48)] [0, 2, 4, 6, 15, 16, 17] [47, 48] ⟨[(0, .im (.row (t2021.map eplan_Item))), (2, .ptr 47 0 0), (4, iV .i64 x4033), (6, .ptr 48 0 0), (15, .im (.row (t2021.map eplan_Item))), (16, iV .i64 (t2021.length : Int)), (17, iV .i64 x4054)], [(47, some (.box 33 [.none0, iV .i64 0])), (48, some (.box 89 [iV .i64 b4059.f0, iV .i64 b4059.f1.f0, iV .i64 b4059.f1.f1, iV .i64 b4059.f1.f2]))], 0⟩ [0 ≤ x4054, (t2021.map eplan_Item)[(Int.toNat (x4054))]? = some (eplan_Item b4059)] (by kernel_rfl) ⟨by exact p4060, by exact el_map eplan_Item q4061, trivial⟩ ?_
          refine AWp.seq ?_
          obtain ⟨t4064, e4065, H⟩ := bind_of H
          refine reg hP hn hm [(4, .more xMax), (5, .call [] [] [] [] 0 (iV .i64 (IntKind.i64.wrap ((if (0 : Int) > b4059.f1.f0 then (0 : Int) else b4059.f1.f0) - (Int.tmod (if (0 : Int) > b4059.f1.f0 then (0 : Int) else b4059.f1.f0) (IntKind.i64.wrap ((64 : Int) * 2 ^ (min (Int.toNat (IntKind.u64.wrap ((2 : Int) * (IntKind.u64.wrap ((if (if (4 : Int) < x4033 then (4 : Int) else x4033) > (0 : Int) then (if (4 : Int) < x4033 then (4 : Int) else x4033) else (0 : Int))))))) 64))))))) [])] [0, 2, 4, 6, 7, 15, 16, 17] [47, 48] ⟨[(0, .im (.row (t2021.map eplan_Item))), (2, .ptr 47 0 0), (4, iV .i64 x4033), (6, .ptr 48 0 0), (7, iV .i64 (IntKind.i64.wrap ((if (0 : Int) > b4059.f1.f0 then (0 : Int) else b4059.f1.f0) - (Int.tmod (if (0 : Int) > b4059.f1.f0 then (0 : Int) else b4059.f1.f0) (IntKind.i64.wrap ((64 : Int) * 2 ^ (min (Int.toNat (IntKind.u64.wrap ((2 : Int) * (IntKind.u64.wrap ((if (if (4 : Int) < x4033 then (4 : Int) else x4033) > (0 : Int) then (if (4 : Int) < x4033 then (4 : Int) else x4033) else (0 : Int))))))) 64))))))), (15, .im (.row (t2021.map eplan_Item))), (16, iV .i64 (t2021.length : Int)), (17, iV .i64 x4054)], [(47, some (.box 33 [.none0, iV .i64 0])), (48, some (.box 89 [iV .i64 b4059.f0, iV .i64 b4059.f1.f0, iV .i64 b4059.f1.f1, iV .i64 b4059.f1.f2]))], 0⟩ [Enters Try.prog 36, Pv.Fn Try.prog 36 [iV .i64 x4033, iV .i64 (if (0 : Int) > b4059.f1.f0 then (0 : Int) else b4059.f1.f0)] [] 0 (fun r o => r = iV .i64 (IntKind.i64.wrap ((if (0 : Int) > b4059.f1.f0 then (0 : Int) else b4059.f1.f0) - (Int.tmod (if (0 : Int) > b4059.f1.f0 then (0 : Int) else b4059.f1.f0) (IntKind.i64.wrap ((64 : Int) * 2 ^ (min (Int.toNat (IntKind.u64.wrap ((2 : Int) * (IntKind.u64.wrap ((if (if (4 : Int) < x4033 then (4 : Int) else x4033) > (0 : Int) then (if (4 : Int) < x4033 then (4 : Int) else x4033) else (0 : Int))))))) 64)))))) ∧ o = [])] (by kernel_rfl) ⟨by exact Try.call36, by exact f_block_Low.ok x4033 (if (0 : Int) > b4059.f1.f0 then (0 : Int) else b4059.f1.f0) t4064 e4065, trivial⟩ ?_
          refine AWp.seq ?_
          obtain ⟨t4068, e4069, H⟩ := bind_of H
          refine reg hP hn hm [(3, .call [] [(0, 49)] [] [49] 0 (.own 0) [(0, some (.row 1 3 (t4068.map (encInt .i64))))])] [0, 2, 4, 6, 8, 15, 16, 17] [47, 48, 49] ⟨[(0, .im (.row (t2021.map eplan_Item))), (2, .ptr 47 0 0), (4, iV .i64 x4033), (6, .ptr 48 0 0), (8, .own 49), (15, .im (.row (t2021.map eplan_Item))), (16, iV .i64 (t2021.length : Int)), (17, iV .i64 x4054)], [(47, some (.box 33 [.none0, iV .i64 0])), (48, some (.box 89 [iV .i64 b4059.f0, iV .i64 b4059.f1.f0, iV .i64 b4059.f1.f1, iV .i64 b4059.f1.f2])), (49, some (.row 1 3 (t4068.map (encInt .i64))))], 0⟩ [Enters Try.prog 22, Pv.Fn Try.prog 22 [.im (.row (t2021.map eplan_Item)), iV .i64 x4033, iV .i64 (IntKind.i64.wrap ((if (0 : Int) > b4059.f1.f0 then (0 : Int) else b4059.f1.f0) - (Int.tmod (if (0 : Int) > b4059.f1.f0 then (0 : Int) else b4059.f1.f0) (IntKind.i64.wrap ((64 : Int) * 2 ^ (min (Int.toNat (IntKind.u64.wrap ((2 : Int) * (IntKind.u64.wrap ((if (if (4 : Int) < x4033 then (4 : Int) else x4033) > (0 : Int) then (if (4 : Int) < x4033 then (4 : Int) else x4033) else (0 : Int))))))) 64))))))] [] 0 (fun r o => r = .own 0 ∧ o = [(0, some (.row 1 3 (t4068.map (encInt .i64))))])] (by kernel_rfl) ⟨by exact Try.call22, by exact f_plan_Within.ok t2021 x4033 (IntKind.i64.wrap ((if (0 : Int) > b4059.f1.f0 then (0 : Int) else b4059.f1.f0) - (Int.tmod (if (0 : Int) > b4059.f1.f0 then (0 : Int) else b4059.f1.f0) (IntKind.i64.wrap ((64 : Int) * 2 ^ (min (Int.toNat (IntKind.u64.wrap ((2 : Int) * (IntKind.u64.wrap ((if (if (4 : Int) < x4033 then (4 : Int) else x4033) > (0 : Int) then (if (4 : Int) < x4033 then (4 : Int) else x4033) else (0 : Int))))))) 64)))))) t4068 e4069, trivial⟩ ?_
          refine AWp.seq ?_
          obtain ⟨o4078, e4079, H⟩ := bind_of H
          refine AWp.mono (Q := fun e s => (match (generalizing := false) o4078 with | x4072 => e = .normal ∧ s = ⟨[(0, .im (.row (t2021.map eplan_Item))), (2, .ptr 50 0 0), (4, iV .i64 x4033), (8, .own 51), (15, .im (.row (t2021.map eplan_Item))), (16, iV .i64 (t2021.length : Int)), (17, iV .i64 x4054), (40, bV x4072)], [(50, some (.box 33 [.none0, iV .i64 0])), (51, some (.row 1 3 (t4068.map (encInt .i64))))], 0⟩)) (AWp.cv ?_) ?_
          · replace H := e4079; clear e4079
            rcases Bool.eq_false_or_eq_true (decide (b4059.f1.f2 ≤ x4033)) with c4071 | c4071
            · replace H := (ifT c4071).symm.trans H
              refine reg hP hn hm [(5, .b true), (7, .any (iV .i64 (t4068.length : Int)))] [0, 2, 4, 8, 15, 16, 17, 37, 38, 39, 40] [47, 49] ⟨[(0, .im (.row (t2021.map eplan_Item))), (2, .ptr 47 0 0), (4, iV .i64 x4033), (8, .own 49), (15, .im (.row (t2021.map eplan_Item))), (16, iV .i64 (t2021.length : Int)), (17, iV .i64 x4054), (37, .own 49), (38, iV .i64 (t4068.length : Int)), (39, bV (decide ((t4068.length : Int) > (1 : Int)))), (40, bV (decide ((t4068.length : Int) > (1 : Int))))], [(47, some (.box 33 [.none0, iV .i64 0])), (49, some (.row 1 3 (t4068.map (encInt .i64))))], 0⟩ [(decide (b4059.f1.f2 ≤ x4033)) = true, ((t4068.map (encInt .i64)).length : Int) = (t4068.length : Int)] (by kernel_rfl) ⟨by exact c4071, by rw [len_map], trivial⟩ ?_
              obtain rfl := Option.some.inj H
              exact Exists.intro _ (And.intro (fun _ _ h => h.conv (inv := [(47, 50), (49, 51)]) (vk := []) (e0 := []) (t := ⟨[(0, .im (.row (t2021.map eplan_Item))), (2, .ptr 50 0 0), (4, iV .i64 x4033), (8, .own 51), (15, .im (.row (t2021.map eplan_Item))), (16, iV .i64 (t2021.length : Int)), (17, iV .i64 x4054), (40, bV (decide ((t4068.length : Int) > (1 : Int))))], [(50, some (.box 33 [.none0, iV .i64 0])), (51, some (.row 1 3 (t4068.map (encInt .i64))))], 0⟩) (by kernel_rfl)) (And.intro rfl rfl))
            · replace H := (ifF c4071).symm.trans H
              refine reg hP hn hm [(5, .b false)] [0, 2, 4, 8, 15, 16, 17, 40] [47, 49] ⟨[(0, .im (.row (t2021.map eplan_Item))), (2, .ptr 47 0 0), (4, iV .i64 x4033), (8, .own 49), (15, .im (.row (t2021.map eplan_Item))), (16, iV .i64 (t2021.length : Int)), (17, iV .i64 x4054), (40, bV false)], [(47, some (.box 33 [.none0, iV .i64 0])), (49, some (.row 1 3 (t4068.map (encInt .i64))))], 0⟩ [(decide (b4059.f1.f2 ≤ x4033)) = false] (by kernel_rfl) ⟨by exact c4071, trivial⟩ ?_
              obtain rfl := Option.some.inj H
              exact Exists.intro _ (And.intro (fun _ _ h => h.conv (inv := [(47, 50), (49, 51)]) (vk := []) (e0 := []) (t := ⟨[(0, .im (.row (t2021.map eplan_Item))), (2, .ptr 50 0 0), (4, iV .i64 x4033), (8, .own 51), (15, .im (.row (t2021.map eplan_Item))), (16, iV .i64 (t2021.length : Int)), (17, iV .i64 x4054), (40, bV false)], [(50, some (.box 33 [.none0, iV .i64 0])), (51, some (.row 1 3 (t4068.map (encInt .i64))))], 0⟩) (by kernel_rfl)) (And.intro rfl rfl))
          · obtain ⟨x4072, rfl⟩ : ∃ z, z = o4078 := ⟨_, rfl⟩
            rintro e s ⟨rfl, rfl⟩
            refine AWp.cond x4072 rfl (fun c4073 => ?_) (fun c4073 => ?_)
            · replace H := (ifT c4073).symm.trans H
              refine AWp.seq ?_
              refine reg hP hn hm [] [2, 3] [50, 51] ⟨[(2, .ptr 50 0 0), (3, bV true)], [(50, some (.box 33 [.own 51, iV .i64 x4033])), (51, some (.row 1 3 (t4068.map (encInt .i64))))], 0⟩ [] (by kernel_rfl) trivial ?_
              refine AWp.conv (inv := [(50, 1), (51, 0)]) (vk := []) (e0 := []) (t := ⟨[(2, .ptr 1 0 0), (3, bV true)], [(0, some (.row 1 3 ((((⟨t4068, x4033⟩ : Tplan_Step)).f0).map (encInt .i64)))), (1, some (.box 33 [.own 0, iV .i64 (((⟨t4068, x4033⟩ : Tplan_Step)).f1)]))], 0⟩) (by kernel_rfl) ?_
              refine AWp.ret ?_
              obtain rfl := Option.some.inj H
              exact Exists.intro _ (And.intro (fun _ _ h => h) (And.intro rfl (And.intro rfl (And.intro (by kernel_rfl) (by kernel_rfl)))))
            · replace H := (ifF c4073).symm.trans H
              refine AWp.skip ?_
              refine reg hP hn hm [] [0, 2, 4, 15, 16, 17] [50] ⟨[(0, .im (.row (t2021.map eplan_Item))), (2, .ptr 50 0 0), (4, iV .i64 x4033), (15, .im (.row (t2021.map eplan_Item))), (16, iV .i64 (t2021.length : Int)), (17, iV .i64 (IntKind.i64.wrap (x4054 + (1 : Int))))], [(50, some (.box 33 [.none0, iV .i64 0]))], 0⟩ [] (by kernel_rfl) trivial ?_
              exact LWp.conv (inv := [(50, 47)]) (vk := []) (e0 := []) (t := ⟨[(0, .im (.row (t2021.map eplan_Item))), (2, .ptr 47 0 0), (4, iV .i64 x4033), (15, .im (.row (t2021.map eplan_Item))), (16, iV .i64 (t2021.length : Int)), (17, iV .i64 (IntKind.i64.wrap (x4054 + (1 : Int))))], [(47, some (.box 33 [.none0, iV .i64 0]))], 0⟩) (by kernel_rfl) (ih _ _ H)
        · replace H := (ifF c4055).symm.trans H
          refine AWp.exit ?_
          obtain rfl := Option.some.inj H
          exact Exists.intro _ (And.intro (fun _ _ h => h.conv (inv := [(47, 52)]) (vk := []) (e0 := []) (t := ⟨[(0, .im (.row (t2021.map eplan_Item))), (2, .ptr 52 0 0), (4, iV .i64 x4033)], [(52, some (.box 33 [.none0, iV .i64 0]))], 0⟩) (by kernel_rfl)) (And.intro rfl rfl))
      · rcases o4076 with rr | _
        · skip
          rintro e s ⟨rfl, hfl, hres⟩
          obtain rfl := Option.some.inj H
          exact Exists.intro _ (And.intro (fun _ _ h => h) (And.intro rfl (And.intro hfl hres)))
        · skip
          rintro e s ⟨rfl, rfl⟩
          refine reg hP hn hm [] [0, 2, 4] [52] ⟨[(0, .im (.row (t2021.map eplan_Item))), (2, .ptr 52 0 0), (4, iV .i64 (IntKind.i64.wrap (x4033 + (1 : Int))))], [(52, some (.box 33 [.none0, iV .i64 0]))], 0⟩ [] (by kernel_rfl) trivial ?_
          exact LWp.conv (inv := [(52, 42)]) (vk := []) (e0 := []) (t := ⟨[(0, .im (.row (t2021.map eplan_Item))), (2, .ptr 42 0 0), (4, iV .i64 (IntKind.i64.wrap (x4033 + (1 : Int))))], [(42, some (.box 33 [.none0, iV .i64 0]))], 0⟩) (by kernel_rfl) (ih _ _ H)
    · replace H := (ifF c4034).symm.trans H
      refine AWp.exit ?_
      obtain rfl := Option.some.inj H
      exact Exists.intro _ (And.intro (fun _ _ h => h.conv (inv := [(42, 53)]) (vk := []) (e0 := []) (t := ⟨[(2, .ptr 53 0 0)], [(53, some (.box 33 [.none0, iV .i64 0]))], 0⟩) (by kernel_rfl)) (And.intro rfl rfl))
  · rcases o4074 with rr | _
    · skip
      rintro e s ⟨rfl, hfl, hres⟩
      obtain rfl := Option.some.inj H
      exact Exists.intro _ (And.intro (fun _ _ h => h) (And.intro (.inl rfl) (And.intro hfl hres)))
    · skip
      rintro e s ⟨rfl, rfl⟩
      refine AWp.seq ?_
      refine reg hP hn hm [] [2, 3] [53] ⟨[(2, .ptr 53 0 0), (3, bV false)], [(53, some (.box 33 [.none0, iV .i64 0]))], 0⟩ [] (by kernel_rfl) trivial ?_
      refine AWp.conv (inv := [(53, 1)]) (vk := []) (e0 := [0]) (t := ⟨[(2, .ptr 1 0 0), (3, bV false)], [(0, some (.row 1 3 ((((⟨[], 0⟩ : Tplan_Step)).f0).map (encInt .i64)))), (1, some (.box 33 [.own 0, iV .i64 (((⟨[], 0⟩ : Tplan_Step)).f1)]))], 0⟩) (by kernel_rfl) ?_
      refine AWp.ret ?_
      obtain rfl := Option.some.inj H
      exact Exists.intro _ (And.intro (fun _ _ h => h) (And.intro (.inl rfl) (And.intro rfl (And.intro (by kernel_rfl) (by kernel_rfl)))))
def f_pluviallaw17_ints.l0 (a0 : List Int) (a1 : List Int) (x4103 : Int) : Option (Bool ⊕ Unit) := if (decide (x4103 < (a0.length : Int))) = true then ((at? a0 x4103) >>= fun b4111 => (at? a1 x4103) >>= fun b4114 => if (b4111 != b4114) = true then (some (.inl false)) else (f_pluviallaw17_ints.l0 a0 a1 (IntKind.i64.wrap (x4103 + (1 : Int))))) else (some (.inr ()))
partial_fixpoint
def f_pluviallaw17_ints.f (a0 : List Int) (a1 : List Int) : Option (Bool) := if ((a0.length : Int) != (a1.length : Int)) = true then (some false) else ((f_pluviallaw17_ints.l0 a0 a1 0) >>= fun oo => match oo with | .inl rr => (some rr) | .inr _ => (some true))
theorem f_pluviallaw17_ints.ok (a0 : List Int) (a1 : List Int) (r : Bool) (H : f_pluviallaw17_ints.f a0 a1 = some r) : Pv.Fn Try.prog 17 [.im (.row (a0.map (encInt .i64))), .im (.row (a1.map (encInt .i64)))] [] 0 (fun x o => x = bV r ∧ o = []) := by
  unfold f_pluviallaw17_ints.f at H
  refine Fn.bodyK [] Try.func17 rfl rfl (fun Γ hP hn => ?_)
  have hm : Try.prog.follows .mixedOrders = true := by kernel_rfl
  replace hn : Γ.n = 26 := hn
  refine AWp.seq ?_
  refine reg hP hn hm [] [0, 1] [] ⟨[(0, .im (.row (a0.map (encInt .i64)))), (1, .im (.row (a1.map (encInt .i64))))], [], 0⟩ [] (by kernel_rfl) trivial ?_
  refine AWp.seq ?_
  refine AWp.seq ?_
  refine reg hP hn hm [(1, .any (iV .i64 (a0.length : Int))), (3, .any (iV .i64 (a1.length : Int)))] [0, 1, 10] [] ⟨[(0, .im (.row (a0.map (encInt .i64)))), (1, .im (.row (a1.map (encInt .i64)))), (10, bV ((a0.length : Int) != (a1.length : Int)))], [], 0⟩ [((a0.map (encInt .i64)).length : Int) = (a0.length : Int), ((a1.map (encInt .i64)).length : Int) = (a1.length : Int)] (by kernel_rfl) ⟨by rw [len_map], by rw [len_map], trivial⟩ ?_
  refine AWp.cond ((a0.length : Int) != (a1.length : Int)) rfl (fun c4088 => ?_) (fun c4088 => ?_)
  · replace H := (ifT c4088).symm.trans H
    refine AWp.seq ?_
    refine reg hP hn hm [] [4] [] ⟨[(4, bV false)], [], 0⟩ [] (by kernel_rfl) trivial ?_
    refine AWp.conv (inv := []) (vk := []) (e0 := []) (t := ⟨[(4, bV false)], [], 0⟩) (by kernel_rfl) ?_
    refine AWp.ret ?_
    obtain rfl := Option.some.inj H
    exact Exists.intro _ (And.intro (fun _ _ h => h) (And.intro (.inl rfl) (And.intro rfl (And.intro (by kernel_rfl) (by kernel_rfl)))))
  · replace H := (ifF c4088).symm.trans H
    refine AWp.skip ?_
    refine AWp.seq ?_
    refine AWp.seq ?_
    refine reg hP hn hm [(1, .any (iV .i64 (a0.length : Int)))] [0, 1, 12, 13] [] ⟨[(0, .im (.row (a0.map (encInt .i64)))), (1, .im (.row (a1.map (encInt .i64)))), (12, iV .i64 (a0.length : Int)), (13, iV .i64 0)], [], 0⟩ [((a0.map (encInt .i64)).length : Int) = (a0.length : Int)] (by kernel_rfl) ⟨by rw [len_map], trivial⟩ ?_
    refine AWp.block ?_
    obtain ⟨o4118, e4119, H⟩ := bind_of H
    refine AWp.loop (LWp.conv (inv := []) (vk := []) (e0 := []) (t := ⟨[(0, .im (.row (a0.map (encInt .i64)))), (1, .im (.row (a1.map (encInt .i64)))), (12, iV .i64 (a0.length : Int)), (13, iV .i64 0)], [], 0⟩) (by kernel_rfl) ?_)
    refine LWp.mono (Q := fun e s => (match (generalizing := false) o4118 with | .inl rr => e = .ret ∧ s.floor = 0 ∧ resOf Try.prog Try.f17 s = some (bV rr) ∧ ([] : List (Nat × Option MObj)) = [] | .inr _ => e = .exit 0 ∧ s = ⟨[], [], 0⟩)) (LWp.cv (withBody (fun body hbody => ?_))) ?_
    · refine f_pluviallaw17_ints.l0.partial_correctness a0 a1 (motive := fun x4103 o4118 => LWp Γ body (fun e s => ∃ t, Cv Γ s t ∧ (match (generalizing := false) o4118 with | .inl rr => e = .ret ∧ t.floor = 0 ∧ resOf Try.prog Try.f17 t = some (bV rr) ∧ ([] : List (Nat × Option MObj)) = [] | .inr _ => e = .exit 0 ∧ t = ⟨[], [], 0⟩)) ⟨[(0, .im (.row (a0.map (encInt .i64)))), (1, .im (.row (a1.map (encInt .i64)))), (12, iV .i64 (a0.length : Int)), (13, iV .i64 x4103)], [], 0⟩) ?_ _ _ e4119
      clear H e4119 o4118; intro self ih x4103 o4118 H
      subst hbody
      refine LWp.round ?_
      refine AWp.seq ?_
      refine reg hP hn hm [] [0, 1, 12, 13, 14] [] ⟨[(0, .im (.row (a0.map (encInt .i64)))), (1, .im (.row (a1.map (encInt .i64)))), (12, iV .i64 (a0.length : Int)), (13, iV .i64 x4103), (14, bV (decide (x4103 < (a0.length : Int))))], [], 0⟩ [] (by kernel_rfl) trivial ?_
      refine AWp.seq ?_
      refine AWp.cond (decide (x4103 < (a0.length : Int))) rfl (fun c4104 => ?_) (fun c4104 => ?_)
      · replace H := (ifT c4104).symm.trans H
        refine AWp.skip ?_
        refine AWp.seq ?_
        refine AWp.block ?_
        refine AWp.seq ?_
        refine reg hP hn hm [] [0, 1, 5, 12, 13] [] ⟨[(0, .im (.row (a0.map (encInt .i64)))), (1, .im (.row (a1.map (encInt .i64)))), (5, iV .i64 x4103), (12, iV .i64 (a0.length : Int)), (13, iV .i64 x4103)], [], 0⟩ [] (by kernel_rfl) trivial ?_
        refine AWp.seq ?_
        obtain ⟨b4111, p4112, q4113, H⟩ := at_of H
        obtain ⟨b4114, p4115, q4116, H⟩ := at_of H
        refine reg hP hn hm [(2, .c ((encInt .i64) b4111)), (6, .c ((encInt .i64) b4114))] [0, 1, 12, 13, 24] [] ⟨[(0, .im (.row (a0.map (encInt .i64)))), (1, .im (.row (a1.map (encInt .i64)))), (12, iV .i64 (a0.length : Int)), (13, iV .i64 x4103), (24, bV (b4111 != b4114))], [], 0⟩ [0 ≤ x4103, (a0.map (encInt .i64))[(Int.toNat (x4103))]? = some ((encInt .i64) b4111), 0 ≤ x4103, (a1.map (encInt .i64))[(Int.toNat (x4103))]? = some ((encInt .i64) b4114)] (by kernel_rfl) ⟨by exact p4112, by exact el_map (encInt .i64) q4113, by exact p4115, by exact el_map (encInt .i64) q4116, trivial⟩ ?_
        refine AWp.cond (b4111 != b4114) rfl (fun c4117 => ?_) (fun c4117 => ?_)
        · replace H := (ifT c4117).symm.trans H
          refine AWp.seq ?_
          refine reg hP hn hm [] [4] [] ⟨[(4, bV false)], [], 0⟩ [] (by kernel_rfl) trivial ?_
          refine AWp.conv (inv := []) (vk := []) (e0 := []) (t := ⟨[(4, bV false)], [], 0⟩) (by kernel_rfl) ?_
          refine AWp.ret ?_
          obtain rfl := Option.some.inj H
          exact Exists.intro _ (And.intro (fun _ _ h => h) (And.intro rfl (And.intro rfl (And.intro (by kernel_rfl) (by kernel_rfl)))))
        · replace H := (ifF c4117).symm.trans H
          refine AWp.skip ?_
          refine reg hP hn hm [] [0, 1, 12, 13] [] ⟨[(0, .im (.row (a0.map (encInt .i64)))), (1, .im (.row (a1.map (encInt .i64)))), (12, iV .i64 (a0.length : Int)), (13, iV .i64 (IntKind.i64.wrap (x4103 + (1 : Int))))], [], 0⟩ [] (by kernel_rfl) trivial ?_
          exact LWp.conv (inv := []) (vk := []) (e0 := []) (t := ⟨[(0, .im (.row (a0.map (encInt .i64)))), (1, .im (.row (a1.map (encInt .i64)))), (12, iV .i64 (a0.length : Int)), (13, iV .i64 (IntKind.i64.wrap (x4103 + (1 : Int))))], [], 0⟩) (by kernel_rfl) (ih _ _ H)
      · replace H := (ifF c4104).symm.trans H
        refine AWp.exit ?_
        obtain rfl := Option.some.inj H
        exact Exists.intro _ (And.intro (fun _ _ h => h.conv (inv := []) (vk := []) (e0 := []) (t := ⟨[], [], 0⟩) (by kernel_rfl)) (And.intro rfl rfl))
    · rcases o4118 with rr | _
      · skip
        rintro e s ⟨rfl, hfl, hres⟩
        obtain rfl := Option.some.inj H
        exact Exists.intro _ (And.intro (fun _ _ h => h) (And.intro (.inl rfl) (And.intro hfl hres)))
      · skip
        rintro e s ⟨rfl, rfl⟩
        refine AWp.seq ?_
        refine reg hP hn hm [] [4] [] ⟨[(4, bV true)], [], 0⟩ [] (by kernel_rfl) trivial ?_
        refine AWp.conv (inv := []) (vk := []) (e0 := []) (t := ⟨[(4, bV true)], [], 0⟩) (by kernel_rfl) ?_
        refine AWp.ret ?_
        obtain rfl := Option.some.inj H
        exact Exists.intro _ (And.intro (fun _ _ h => h) (And.intro (.inl rfl) (And.intro rfl (And.intro (by kernel_rfl) (by kernel_rfl)))))
def f_pluviallaw17_awake.f  : Option (Bool) := (f_pluviallaw17_To.f [(⟨1, 0, 0, 64⟩ : Tpluvialref17_Item), (⟨2, 0, 64, 128⟩ : Tpluvialref17_Item)]) >>= fun t4082 => (f_plan_Next.f t4082) >>= fun t4084 => ((if t4084.2 = true then (if (((t4084.1).f1) == (1 : Int)) = true then ((f_pluviallaw17_ints.f ((t4084.1).f0) [1, 2]) >>= fun t4124 => some t4124) else (some false)) else (some false)) : Option (Bool)) >>= fun x4126 => some x4126
theorem f_pluviallaw17_awake.ok  (r : Bool) (H : f_pluviallaw17_awake.f  = some r) : Pv.Fn Try.prog 13 [] [] 0 (fun x o => x = bV r ∧ o = []) := by
  unfold f_pluviallaw17_awake.f at H
  refine Fn.bodyK [] Try.func13 rfl rfl (fun Γ hP hn => ?_)
  have hm : Try.prog.follows .mixedOrders = true := by kernel_rfl
  replace hn : Γ.n = 23 := hn
  refine AWp.seq ?_
  refine reg hP hn hm [] [] [] ⟨[], [], 0⟩ [] (by kernel_rfl) trivial ?_
  refine AWp.seq ?_
  obtain ⟨t4082, e4083, H⟩ := bind_of H
  obtain ⟨t4084, e4085, H⟩ := bind_of H
  refine reg hP hn hm [(2, .app 0 ([(⟨1, 0, 0, 64⟩ : Tpluvialref17_Item), (⟨2, 0, 64, 128⟩ : Tpluvialref17_Item)].map epluvialref17_Item)), (3, .call [] [(0, 1)] [0] [1] 0 (.own 0) [(0, some (.row 4 89 (t4082.map eplan_Item)))]), (4, .call [] [(0, 2)] [1] [2] 0 (.tup [.agg [.own 0, iV .i64 ((t4084.1).f1)], bV t4084.2]) [(0, some (.row 1 3 (((t4084.1).f0).map (encInt .i64))))]), (8, .k 3)] [1, 2] [2, 3] ⟨[(1, .ptr 3 0 0), (2, bV t4084.2)], [(2, some (.row 1 3 (((t4084.1).f0).map (encInt .i64)))), (3, some (.box 33 [.own 2, iV .i64 ((t4084.1).f1)]))], 0⟩ [[(⟨1, 0, 0, 64⟩ : Tpluvialref17_Item), (⟨2, 0, 64, 128⟩ : Tpluvialref17_Item)].map epluvialref17_Item = [[iI .i64 1, iI .i64 0, iI .i64 0, iI .i64 64], [iI .i64 2, iI .i64 0, iI .i64 64, iI .i64 128]], Enters Try.prog 15, Pv.Fn Try.prog 15 [.im (.row ([(⟨1, 0, 0, 64⟩ : Tpluvialref17_Item), (⟨2, 0, 64, 128⟩ : Tpluvialref17_Item)].map epluvialref17_Item))] [] 0 (fun r o => r = .own 0 ∧ o = [(0, some (.row 4 89 (t4082.map eplan_Item)))]), Enters Try.prog 16, Pv.Fn Try.prog 16 [.im (.row (t4082.map eplan_Item))] [] 0 (fun r o => r = .tup [.agg [.own 0, iV .i64 ((t4084.1).f1)], bV t4084.2] ∧ o = [(0, some (.row 1 3 (((t4084.1).f0).map (encInt .i64))))])] (by kernel_rfl) ⟨by exact rfl, by exact Try.call15, by exact f_pluviallaw17_To.ok [(⟨1, 0, 0, 64⟩ : Tpluvialref17_Item), (⟨2, 0, 64, 128⟩ : Tpluvialref17_Item)] t4082 e4083, by exact Try.call16, by exact f_plan_Next.ok t4082 t4084 e4085, trivial⟩ ?_
  refine AWp.seq ?_
  obtain ⟨o4127, e4128, H⟩ := bind_of H
  refine AWp.mono (Q := fun e s => (match (generalizing := false) o4127 with | x4126 => e = .normal ∧ s = ⟨[(0, bV x4126)], [], 0⟩)) (AWp.cv ?_) ?_
  · replace H := e4128; clear e4128
    rcases Bool.eq_false_or_eq_true t4084.2 with c4122 | c4122
    · replace H := (ifT c4122).symm.trans H
      rcases Bool.eq_false_or_eq_true (((t4084.1).f1) == (1 : Int)) with c4123 | c4123
      · replace H := (ifT c4123).symm.trans H
        obtain ⟨t4124, e4125, H⟩ := bind_of H
        refine reg hP hn hm [(1, .b true), (6, .b true), (9, .app 4 ([1, 2].map (encInt .i64))), (10, .call [] [] [2, 4] [] 0 (bV t4124) [])] [0] [] ⟨[(0, bV t4124)], [], 0⟩ [t4084.2 = true, (((t4084.1).f1) == (1 : Int)) = true, [1, 2].map (encInt .i64) = [[iI .i64 1], [iI .i64 2]], Enters Try.prog 17, Pv.Fn Try.prog 17 [.im (.row (((t4084.1).f0).map (encInt .i64))), .im (.row ([1, 2].map (encInt .i64)))] [] 0 (fun r o => r = bV t4124 ∧ o = [])] (by kernel_rfl) ⟨by exact c4122, by exact c4123, by exact rfl, by exact Try.call17, by exact f_pluviallaw17_ints.ok ((t4084.1).f0) [1, 2] t4124 e4125, trivial⟩ ?_
        obtain rfl := Option.some.inj H
        exact Exists.intro _ (And.intro (fun _ _ h => h.conv (inv := []) (vk := []) (e0 := []) (t := ⟨[(0, bV t4124)], [], 0⟩) (by kernel_rfl)) (And.intro rfl rfl))
      · replace H := (ifF c4123).symm.trans H
        refine reg hP hn hm [(1, .b true), (6, .b false)] [0] [] ⟨[(0, bV false)], [], 0⟩ [t4084.2 = true, (((t4084.1).f1) == (1 : Int)) = false] (by kernel_rfl) ⟨by exact c4122, by exact c4123, trivial⟩ ?_
        obtain rfl := Option.some.inj H
        exact Exists.intro _ (And.intro (fun _ _ h => h.conv (inv := []) (vk := []) (e0 := []) (t := ⟨[(0, bV false)], [], 0⟩) (by kernel_rfl)) (And.intro rfl rfl))
    · replace H := (ifF c4122).symm.trans H
      refine reg hP hn hm [(1, .b false)] [0] [] ⟨[(0, bV false)], [], 0⟩ [t4084.2 = false] (by kernel_rfl) ⟨by exact c4122, trivial⟩ ?_
      obtain rfl := Option.some.inj H
      exact Exists.intro _ (And.intro (fun _ _ h => h.conv (inv := []) (vk := []) (e0 := []) (t := ⟨[(0, bV false)], [], 0⟩) (by kernel_rfl)) (And.intro rfl rfl))
  · obtain ⟨x4126, rfl⟩ : ∃ z, z = o4127 := ⟨_, rfl⟩
    rintro e s ⟨rfl, rfl⟩
    refine AWp.conv (inv := []) (vk := []) (e0 := []) (t := ⟨[(0, bV x4126)], [], 0⟩) (by kernel_rfl) ?_
    refine AWp.ret ?_
    obtain rfl := Option.some.inj H
    exact Exists.intro _ (And.intro (fun _ _ h => h) (And.intro (.inl rfl) (And.intro rfl (And.intro (by kernel_rfl) (by kernel_rfl)))))
def f_plan_Below.l0 (a0 : List Tplan_Item) (a1 : Int) (x4146 : List Int) (x4147 : Int) : Option (List Int) := if (decide (x4147 < (a0.length : Int))) = true then ((at? a0 x4147) >>= fun b4152 => ((if (decide (b4152.f1.f1 ≤ a1)) = true then ((chk ((x4146.length + [b4152.f0].length) * 8 ≤ 140737488355328)) >>= fun _ => some (x4146 ++ [b4152.f0])) else (some x4146)) : Option (List Int)) >>= fun x4158 => f_plan_Below.l0 a0 a1 x4158 (IntKind.i64.wrap (x4147 + (1 : Int)))) else (some x4146)
partial_fixpoint
def f_plan_Below.f (a0 : List Tplan_Item) (a1 : Int) : Option (List Int) := (f_plan_Below.l0 a0 a1 [] 0) >>= fun x4159 => (f_slices_Sort_int.f x4159) >>= fun t4162 => some t4162
theorem f_plan_Below.ok (a0 : List Tplan_Item) (a1 : Int) (r : List Int) (H : f_plan_Below.f a0 a1 = some r) : Pv.Fn Try.prog 14 [.im (.row (a0.map eplan_Item)), iV .i64 a1] [] 0 (fun x o => x = .own 0 ∧ o = [(0, some (.row 1 3 (r.map (encInt .i64))))]) := by
  unfold f_plan_Below.f at H
  refine Fn.bodyK [0] Try.func14 rfl rfl (fun Γ hP hn => ?_)
  have hm : Try.prog.follows .mixedOrders = true := by kernel_rfl
  replace hn : Γ.n = 28 := hn
  refine AWp.seq ?_
  refine reg hP hn hm [] [0, 1] [] ⟨[(0, .im (.row (a0.map eplan_Item))), (1, iV .i64 a1)], [], 0⟩ [] (by kernel_rfl) trivial ?_
  refine AWp.seq ?_
  refine reg hP hn hm [] [0, 1, 5] [] ⟨[(0, .im (.row (a0.map eplan_Item))), (1, iV .i64 a1), (5, .none0)], [], 0⟩ [] (by kernel_rfl) trivial ?_
  refine AWp.seq ?_
  refine AWp.seq ?_
  refine reg hP hn hm [(1, .any (iV .i64 (a0.length : Int)))] [1, 5, 8, 9, 10] [] ⟨[(1, iV .i64 a1), (5, .none0), (8, .im (.row (a0.map eplan_Item))), (9, iV .i64 (a0.length : Int)), (10, iV .i64 0)], [], 0⟩ [((a0.map eplan_Item).length : Int) = (a0.length : Int)] (by kernel_rfl) ⟨by rw [len_map], trivial⟩ ?_
  refine AWp.block ?_
  obtain ⟨o4164, e4165, H⟩ := bind_of H
  refine AWp.loop (LWp.conv (inv := []) (vk := []) (e0 := [4]) (t := ⟨[(1, iV .i64 a1), (5, .own 4), (8, .im (.row (a0.map eplan_Item))), (9, iV .i64 (a0.length : Int)), (10, iV .i64 0)], [(4, some (.row 1 3 ([].map (encInt .i64))))], 0⟩) (by kernel_rfl) ?_)
  refine LWp.mono (Q := fun e s => (match (generalizing := false) o4164 with | x4159 => e = .exit 0 ∧ s = ⟨[(5, .own 9)], [(9, some (.row 1 3 (x4159.map (encInt .i64))))], 0⟩)) (LWp.cv (withBody (fun body hbody => ?_))) ?_
  · refine f_plan_Below.l0.partial_correctness a0 a1 (motive := fun x4146 x4147 o4164 => LWp Γ body (fun e s => ∃ t, Cv Γ s t ∧ (match (generalizing := false) o4164 with | x4159 => e = .exit 0 ∧ t = ⟨[(5, .own 9)], [(9, some (.row 1 3 (x4159.map (encInt .i64))))], 0⟩)) ⟨[(1, iV .i64 a1), (5, .own 4), (8, .im (.row (a0.map eplan_Item))), (9, iV .i64 (a0.length : Int)), (10, iV .i64 x4147)], [(4, some (.row 1 3 (x4146.map (encInt .i64))))], 0⟩) ?_ _ _ _ e4165
    clear H e4165 o4164; intro self ih x4146 x4147 o4164 H
    subst hbody
    refine LWp.round ?_
    refine AWp.seq ?_
    refine reg hP hn hm [] [1, 5, 8, 9, 10, 11] [4] ⟨[(1, iV .i64 a1), (5, .own 4), (8, .im (.row (a0.map eplan_Item))), (9, iV .i64 (a0.length : Int)), (10, iV .i64 x4147), (11, bV (decide (x4147 < (a0.length : Int))))], [(4, some (.row 1 3 (x4146.map (encInt .i64))))], 0⟩ [] (by kernel_rfl) trivial ?_
    refine AWp.seq ?_
    refine AWp.cond (decide (x4147 < (a0.length : Int))) rfl (fun c4148 => ?_) (fun c4148 => ?_)
    · replace H := (ifT c4148).symm.trans H
      refine AWp.skip ?_
      refine AWp.seq ?_
      refine AWp.block ?_
      refine AWp.seq ?_
      obtain ⟨b4152, p4153, q4154, H⟩ := at_of H
      refine reg hP hn hm [(0, .c (eplan_Item b4152)), (2, .k 5)] [1, 5, 7, 8, 9, 10] [4, 5] ⟨[(1, iV .i64 a1), (5, .own 4), (7, .ptr 5 0 0), (8, .im (.row (a0.map eplan_Item))), (9, iV .i64 (a0.length : Int)), (10, iV .i64 x4147)], [(4, some (.row 1 3 (x4146.map (encInt .i64)))), (5, some (.box 89 [iV .i64 b4152.f0, iV .i64 b4152.f1.f0, iV .i64 b4152.f1.f1, iV .i64 b4152.f1.f2]))], 0⟩ [0 ≤ x4147, (a0.map eplan_Item)[(Int.toNat (x4147))]? = some (eplan_Item b4152)] (by kernel_rfl) ⟨by exact p4153, by exact el_map eplan_Item q4154, trivial⟩ ?_
      refine AWp.seq ?_
      refine reg hP hn hm [] [1, 5, 7, 8, 9, 10, 18] [4, 5] ⟨[(1, iV .i64 a1), (5, .own 4), (7, .ptr 5 0 0), (8, .im (.row (a0.map eplan_Item))), (9, iV .i64 (a0.length : Int)), (10, iV .i64 x4147), (18, bV (decide (b4152.f1.f1 ≤ a1)))], [(4, some (.row 1 3 (x4146.map (encInt .i64)))), (5, some (.box 89 [iV .i64 b4152.f0, iV .i64 b4152.f1.f0, iV .i64 b4152.f1.f1, iV .i64 b4152.f1.f2]))], 0⟩ [] (by kernel_rfl) trivial ?_
      obtain ⟨o4166, e4167, H⟩ := bind_of H
      refine AWp.mono (Q := fun e s => (match (generalizing := false) o4166 with | x4158 => e = .normal ∧ s = ⟨[(1, iV .i64 a1), (5, .own 8), (8, .im (.row (a0.map eplan_Item))), (9, iV .i64 (a0.length : Int)), (10, iV .i64 x4147)], [(8, some (.row 1 3 (x4158.map (encInt .i64))))], 0⟩)) (AWp.cv ?_) ?_
      · replace H := e4167; clear e4167
        refine AWp.cond (decide (b4152.f1.f1 ≤ a1)) rfl (fun c4155 => ?_) (fun c4155 => ?_)
        · replace H := (ifT c4155).symm.trans H
          obtain ⟨c4157, H⟩ := chk_of H
          refine reg hP hn hm [(3, .app 6 ([b4152.f0].map (encInt .i64))), (4, .app 7 ((x4146 ++ [b4152.f0]).map (encInt .i64)))] [1, 5, 8, 9, 10] [7] ⟨[(1, iV .i64 a1), (5, .own 7), (8, .im (.row (a0.map eplan_Item))), (9, iV .i64 (a0.length : Int)), (10, iV .i64 x4147)], [(7, some (.row 1 3 ((x4146 ++ [b4152.f0]).map (encInt .i64))))], 0⟩ [[b4152.f0].map (encInt .i64) = [[iI .i64 b4152.f0]], (x4146 ++ [b4152.f0]).map (encInt .i64) = (x4146.map (encInt .i64)) ++ ([b4152.f0].map (encInt .i64)), ∀ c ∈ ([b4152.f0].map (encInt .i64)), c.length = 1, ∀ c ∈ ([b4152.f0].map (encInt .i64)), leaves (c.map .im) = true, ((x4146.map (encInt .i64)).length + ([b4152.f0].map (encInt .i64)).length) * 8 ≤ 140737488355328] (by kernel_rfl) ⟨by exact rfl, by simp, by exact all_len _ _ _ (fun _ => rfl), by exact all_leaf _ _ (fun _ => rfl), by simpa using c4157, trivial⟩ ?_
          obtain rfl := Option.some.inj H
          exact Exists.intro _ (And.intro (fun _ _ h => h.conv (inv := [(7, 8)]) (vk := []) (e0 := []) (t := ⟨[(1, iV .i64 a1), (5, .own 8), (8, .im (.row (a0.map eplan_Item))), (9, iV .i64 (a0.length : Int)), (10, iV .i64 x4147)], [(8, some (.row 1 3 ((x4146 ++ [b4152.f0]).map (encInt .i64))))], 0⟩) (by kernel_rfl)) (And.intro rfl rfl))
        · replace H := (ifF c4155).symm.trans H
          refine AWp.skip ?_
          obtain rfl := Option.some.inj H
          exact Exists.intro _ (And.intro (fun _ _ h => h.conv (inv := [(4, 8)]) (vk := []) (e0 := []) (t := ⟨[(1, iV .i64 a1), (5, .own 8), (8, .im (.row (a0.map eplan_Item))), (9, iV .i64 (a0.length : Int)), (10, iV .i64 x4147)], [(8, some (.row 1 3 (x4146.map (encInt .i64))))], 0⟩) (by kernel_rfl)) (And.intro rfl rfl))
      · obtain ⟨x4158, rfl⟩ : ∃ z, z = o4166 := ⟨_, rfl⟩
        rintro e s ⟨rfl, rfl⟩
        refine reg hP hn hm [] [1, 5, 8, 9, 10] [8] ⟨[(1, iV .i64 a1), (5, .own 8), (8, .im (.row (a0.map eplan_Item))), (9, iV .i64 (a0.length : Int)), (10, iV .i64 (IntKind.i64.wrap (x4147 + (1 : Int))))], [(8, some (.row 1 3 (x4158.map (encInt .i64))))], 0⟩ [] (by kernel_rfl) trivial ?_
        exact LWp.conv (inv := [(8, 4)]) (vk := []) (e0 := []) (t := ⟨[(1, iV .i64 a1), (5, .own 4), (8, .im (.row (a0.map eplan_Item))), (9, iV .i64 (a0.length : Int)), (10, iV .i64 (IntKind.i64.wrap (x4147 + (1 : Int))))], [(4, some (.row 1 3 (x4158.map (encInt .i64))))], 0⟩) (by kernel_rfl) (ih _ _ _ H)
    · replace H := (ifF c4148).symm.trans H
      refine AWp.exit ?_
      obtain rfl := Option.some.inj H
      exact Exists.intro _ (And.intro (fun _ _ h => h.conv (inv := [(4, 9)]) (vk := []) (e0 := []) (t := ⟨[(5, .own 9)], [(9, some (.row 1 3 (x4146.map (encInt .i64))))], 0⟩) (by kernel_rfl)) (And.intro rfl rfl))
  · obtain ⟨x4159, rfl⟩ : ∃ z, z = o4164 := ⟨_, rfl⟩
    rintro e s ⟨rfl, rfl⟩
    refine AWp.seq ?_
    obtain ⟨t4162, e4163, H⟩ := bind_of H
    refine reg hP hn hm [(1, .call [(9, 0)] [(0, 9)] [] [] 1 (.tup []) [(0, some (.row 1 3 (t4162.map (encInt .i64))))])] [5] [9] ⟨[(5, .own 9)], [(9, some (.row 1 3 (t4162.map (encInt .i64))))], 0⟩ [Enters Try.prog 34, Pv.Fn Try.prog 34 [.own 0] [(0, some (.row 1 3 (x4159.map (encInt .i64))))] 1 (fun r o => r = .tup [] ∧ o = [(0, some (.row 1 3 (t4162.map (encInt .i64))))])] (by kernel_rfl) ⟨by exact Try.call34, by exact f_slices_Sort_int.ok x4159 t4162 e4163, trivial⟩ ?_
    refine AWp.seq ?_
    refine reg hP hn hm [] [4] [9] ⟨[(4, .own 9)], [(9, some (.row 1 3 (t4162.map (encInt .i64))))], 0⟩ [] (by kernel_rfl) trivial ?_
    refine AWp.conv (inv := [(9, 0)]) (vk := []) (e0 := []) (t := ⟨[(4, .own 0)], [(0, some (.row 1 3 (t4162.map (encInt .i64))))], 0⟩) (by kernel_rfl) ?_
    refine AWp.ret ?_
    obtain rfl := Option.some.inj H
    exact Exists.intro _ (And.intro (fun _ _ h => h) (And.intro (.inl rfl) (And.intro rfl (And.intro (by kernel_rfl) (by kernel_rfl)))))
def f_pluviallaw17_PlanBelows.l0 (a0 : List Tpluvialref17_Item) (t4176 : List Int) (t4180 : List Int) (x4189 : List (Int × Bool)) (x4190 : Int) : Option (List (Int × Bool)) := if (decide (x4190 < (t4176.length : Int))) = true then ((at? t4176 x4190) >>= fun b4195 => f_pluviallaw17_PlanBelows.l0 a0 t4176 t4180 (mput x4189 b4195 true) (IntKind.i64.wrap (x4190 + (1 : Int)))) else (some x4189)
partial_fixpoint
def f_pluviallaw17_PlanBelows.l1 (a0 : List Tpluvialref17_Item) (t4176 : List Int) (t4180 : List Int) (x4198 : List (Int × Bool)) (x4208 : Int) (x4209 : Int) : Option (Int) := if (decide (x4209 < (t4180.length : Int))) = true then ((at? t4180 x4209) >>= fun b4214 => ((if ((mget x4198 b4214).getD false) = true then (some (IntKind.i64.wrap (x4208 + (1 : Int)))) else (some x4208)) : Option (Int)) >>= fun x4218 => f_pluviallaw17_PlanBelows.l1 a0 t4176 t4180 x4198 x4218 (IntKind.i64.wrap (x4209 + (1 : Int)))) else (some x4208)
partial_fixpoint
def f_pluviallaw17_PlanBelows.l2 (a0 : List Tpluvialref17_Item) (t4176 : List Int) (x4198 : List (Int × Bool)) (x4219 : Int) (x4231 : List Tpluvialref17_Item) (x4232 : Int) : Option (List Tpluvialref17_Item) := if (decide (x4232 < (a0.length : Int))) = true then ((at? a0 x4232) >>= fun b4237 => ((if (!((mget x4198 b4237.f0).getD false)) = true then ((chk ((x4231.length + [b4237].length) * 32 ≤ 140737488355328)) >>= fun _ => some (x4231 ++ [b4237])) else (some x4231)) : Option (List Tpluvialref17_Item)) >>= fun x4243 => f_pluviallaw17_PlanBelows.l2 a0 t4176 x4198 x4219 x4243 (IntKind.i64.wrap (x4232 + (1 : Int)))) else (some x4231)
partial_fixpoint
def f_pluviallaw17_PlanBelows.l3 (a0 : List Tpluvialref17_Item) (t4176 : List Int) (t4255 : Tplan_Step × Bool) (x4198 : List (Int × Bool)) (x4219 : Int) (x4244 : List Tpluvialref17_Item) (x4265 : Int) : Option (Bool ⊕ Unit) := if (decide (x4265 < (((t4255.1).f0).length : Int))) = true then ((at? ((t4255.1).f0) x4265) >>= fun b4270 => if ((mget x4198 b4270).getD false) = true then (some (.inl false)) else (f_pluviallaw17_PlanBelows.l3 a0 t4176 t4255 x4198 x4219 x4244 (IntKind.i64.wrap (x4265 + (1 : Int))))) else (some (.inr ()))
partial_fixpoint
def f_pluviallaw17_PlanBelows.f (a0 : List Tpluvialref17_Item) (a1 : Int) (a2 : Int) : Option (Bool) := ((if (decide ((a0.length : Int) > (40 : Int))) = true then (some true) else ((f_pluvialref17_Right.f a0) >>= fun t119 => if (!t119) = true then (some true) else (if (decide (a2 < (0 : Int))) = true then (some true) else (if (decide (a2 > (1099511627776 : Int))) = true then (some true) else (if (decide (a1 > (2199023255552 : Int))) = true then (some true) else (some (decide (a1 < (-2199023255552))))))))) : Option (Bool)) >>= fun x125 => if x125 = true then ((f_pluviallaw17_awake.f) >>= fun t4131 => some t4131) else ((f_pluviallaw17_To.f a0) >>= fun t4174 => (f_plan_Below.f t4174 a1) >>= fun t4176 => (f_pluviallaw17_To.f a0) >>= fun t4178 => (f_plan_Below.f t4178 (IntKind.i64.wrap (a1 + a2))) >>= fun t4180 => (f_pluviallaw17_PlanBelows.l0 a0 t4176 t4180 ([] : List (Int × Bool)) 0) >>= fun x4198 => (f_pluviallaw17_PlanBelows.l1 a0 t4176 t4180 x4198 0 0) >>= fun x4219 => (f_pluviallaw17_PlanBelows.l2 a0 t4176 x4198 x4219 [] 0) >>= fun x4244 => (f_pluviallaw17_To.f x4244) >>= fun t4253 => (f_plan_Next.f t4253) >>= fun t4255 => (f_pluviallaw17_PlanBelows.l3 a0 t4176 t4255 x4198 x4219 x4244 0) >>= fun oo => match oo with | .inl rr => (some rr) | .inr _ => ((((f_pluviallaw17_awake.f) >>= fun t4278 => if t4278 = true then (if (x4219 == (t4176.length : Int)) = true then (some ((IntKind.i64.wrap ((x4244.length : Int) + (t4176.length : Int))) == (a0.length : Int))) else (some false)) else (some false)) : Option (Bool)) >>= fun x4282 => some x4282))
theorem f_pluviallaw17_PlanBelows.ok (a0 : List Tpluvialref17_Item) (a1 : Int) (a2 : Int) (r : Bool) (H : f_pluviallaw17_PlanBelows.f a0 a1 a2 = some r) : Pv.Fn Try.prog 3 [.im (.row (a0.map epluvialref17_Item)), iV .i64 a1, iV .i64 a2] [] 0 (fun x o => x = bV r ∧ o = []) := by
  unfold f_pluviallaw17_PlanBelows.f at H
  refine Fn.bodyK [] Try.func3 rfl rfl (fun Γ hP hn => ?_)
  have hm : Try.prog.follows .mixedOrders = true := by kernel_rfl
  replace hn : Γ.n = 129 := hn
  refine AWp.seq ?_
  refine reg hP hn hm [] [0, 1, 2] [] ⟨[(0, .im (.row (a0.map epluvialref17_Item))), (1, iV .i64 a1), (2, iV .i64 a2)], [], 0⟩ [] (by kernel_rfl) trivial ?_
  refine AWp.seq ?_
  refine AWp.seq ?_
  obtain ⟨o4283, e4284, H⟩ := bind_of H
  refine AWp.mono (Q := fun e s => (match (generalizing := false) o4283 with | x125 => e = .normal ∧ s = ⟨[(0, .im (.row (a0.map epluvialref17_Item))), (1, iV .i64 a1), (2, iV .i64 a2), (45, bV x125)], [], 0⟩)) (AWp.cv ?_) ?_
  · replace H := e4284; clear e4284
    rcases Bool.eq_false_or_eq_true (decide ((a0.length : Int) > (40 : Int))) with c118 | c118
    · replace H := (ifT c118).symm.trans H
      refine reg hP hn hm [(1, .any (iV .i64 (a0.length : Int))), (3, .b true)] [0, 1, 2, 45] [] ⟨[(0, .im (.row (a0.map epluvialref17_Item))), (1, iV .i64 a1), (2, iV .i64 a2), (45, bV true)], [], 0⟩ [((a0.map epluvialref17_Item).length : Int) = (a0.length : Int), (decide ((a0.length : Int) > (40 : Int))) = true] (by kernel_rfl) ⟨by rw [len_map], by exact c118, trivial⟩ ?_
      obtain rfl := Option.some.inj H
      exact Exists.intro _ (And.intro (fun _ _ h => h.conv (inv := []) (vk := []) (e0 := []) (t := ⟨[(0, .im (.row (a0.map epluvialref17_Item))), (1, iV .i64 a1), (2, iV .i64 a2), (45, bV true)], [], 0⟩) (by kernel_rfl)) (And.intro rfl rfl))
    · replace H := (ifF c118).symm.trans H
      obtain ⟨t119, e120, H⟩ := bind_of H
      rcases Bool.eq_false_or_eq_true (!t119) with c121 | c121
      · replace H := (ifT c121).symm.trans H
        refine reg hP hn hm [(1, .any (iV .i64 (a0.length : Int))), (3, .b false), (5, .call [] [] [] [] 0 (bV t119) []), (8, .b true)] [0, 1, 2, 45] [] ⟨[(0, .im (.row (a0.map epluvialref17_Item))), (1, iV .i64 a1), (2, iV .i64 a2), (45, bV true)], [], 0⟩ [((a0.map epluvialref17_Item).length : Int) = (a0.length : Int), (decide ((a0.length : Int) > (40 : Int))) = false, Enters Try.prog 12, Pv.Fn Try.prog 12 [.im (.row (a0.map epluvialref17_Item))] [] 0 (fun r o => r = bV t119 ∧ o = []), (!t119) = true] (by kernel_rfl) ⟨by rw [len_map], by exact c118, by exact Try.call12, by exact f_pluvialref17_Right.ok a0 t119 e120, by exact c121, trivial⟩ ?_
        obtain rfl := Option.some.inj H
        exact Exists.intro _ (And.intro (fun _ _ h => h.conv (inv := []) (vk := []) (e0 := []) (t := ⟨[(0, .im (.row (a0.map epluvialref17_Item))), (1, iV .i64 a1), (2, iV .i64 a2), (45, bV true)], [], 0⟩) (by kernel_rfl)) (And.intro rfl rfl))
      · replace H := (ifF c121).symm.trans H
        rcases Bool.eq_false_or_eq_true (decide (a2 < (0 : Int))) with c122 | c122
        · replace H := (ifT c122).symm.trans H
          refine reg hP hn hm [(1, .any (iV .i64 (a0.length : Int))), (3, .b false), (5, .call [] [] [] [] 0 (bV t119) []), (8, .b false), (12, .b true)] [0, 1, 2, 45] [] ⟨[(0, .im (.row (a0.map epluvialref17_Item))), (1, iV .i64 a1), (2, iV .i64 a2), (45, bV true)], [], 0⟩ [((a0.map epluvialref17_Item).length : Int) = (a0.length : Int), (decide ((a0.length : Int) > (40 : Int))) = false, Enters Try.prog 12, Pv.Fn Try.prog 12 [.im (.row (a0.map epluvialref17_Item))] [] 0 (fun r o => r = bV t119 ∧ o = []), (!t119) = false, (decide (a2 < (0 : Int))) = true] (by kernel_rfl) ⟨by rw [len_map], by exact c118, by exact Try.call12, by exact f_pluvialref17_Right.ok a0 t119 e120, by exact c121, by exact c122, trivial⟩ ?_
          obtain rfl := Option.some.inj H
          exact Exists.intro _ (And.intro (fun _ _ h => h.conv (inv := []) (vk := []) (e0 := []) (t := ⟨[(0, .im (.row (a0.map epluvialref17_Item))), (1, iV .i64 a1), (2, iV .i64 a2), (45, bV true)], [], 0⟩) (by kernel_rfl)) (And.intro rfl rfl))
        · replace H := (ifF c122).symm.trans H
          rcases Bool.eq_false_or_eq_true (decide (a2 > (1099511627776 : Int))) with c123 | c123
          · replace H := (ifT c123).symm.trans H
            refine reg hP hn hm [(1, .any (iV .i64 (a0.length : Int))), (3, .b false), (5, .call [] [] [] [] 0 (bV t119) []), (8, .b false), (12, .b false), (16, .b true)] [0, 1, 2, 45] [] ⟨[(0, .im (.row (a0.map epluvialref17_Item))), (1, iV .i64 a1), (2, iV .i64 a2), (45, bV true)], [], 0⟩ [((a0.map epluvialref17_Item).length : Int) = (a0.length : Int), (decide ((a0.length : Int) > (40 : Int))) = false, Enters Try.prog 12, Pv.Fn Try.prog 12 [.im (.row (a0.map epluvialref17_Item))] [] 0 (fun r o => r = bV t119 ∧ o = []), (!t119) = false, (decide (a2 < (0 : Int))) = false, (decide (a2 > (1099511627776 : Int))) = true] (by kernel_rfl) ⟨by rw [len_map], by exact c118, by exact Try.call12, by exact f_pluvialref17_Right.ok a0 t119 e120, by exact c121, by exact c122, by exact c123, trivial⟩ ?_
            obtain rfl := Option.some.inj H
            exact Exists.intro _ (And.intro (fun _ _ h => h.conv (inv := []) (vk := []) (e0 := []) (t := ⟨[(0, .im (.row (a0.map epluvialref17_Item))), (1, iV .i64 a1), (2, iV .i64 a2), (45, bV true)], [], 0⟩) (by kernel_rfl)) (And.intro rfl rfl))
          · replace H := (ifF c123).symm.trans H
            rcases Bool.eq_false_or_eq_true (decide (a1 > (2199023255552 : Int))) with c124 | c124
            · replace H := (ifT c124).symm.trans H
              refine reg hP hn hm [(1, .any (iV .i64 (a0.length : Int))), (3, .b false), (5, .call [] [] [] [] 0 (bV t119) []), (8, .b false), (12, .b false), (16, .b false), (20, .b true)] [0, 1, 2, 45] [] ⟨[(0, .im (.row (a0.map epluvialref17_Item))), (1, iV .i64 a1), (2, iV .i64 a2), (45, bV true)], [], 0⟩ [((a0.map epluvialref17_Item).length : Int) = (a0.length : Int), (decide ((a0.length : Int) > (40 : Int))) = false, Enters Try.prog 12, Pv.Fn Try.prog 12 [.im (.row (a0.map epluvialref17_Item))] [] 0 (fun r o => r = bV t119 ∧ o = []), (!t119) = false, (decide (a2 < (0 : Int))) = false, (decide (a2 > (1099511627776 : Int))) = false, (decide (a1 > (2199023255552 : Int))) = true] (by kernel_rfl) ⟨by rw [len_map], by exact c118, by exact Try.call12, by exact f_pluvialref17_Right.ok a0 t119 e120, by exact c121, by exact c122, by exact c123, by exact c124, trivial⟩ ?_
              obtain rfl := Option.some.inj H
              exact Exists.intro _ (And.intro (fun _ _ h => h.conv (inv := []) (vk := []) (e0 := []) (t := ⟨[(0, .im (.row (a0.map epluvialref17_Item))), (1, iV .i64 a1), (2, iV .i64 a2), (45, bV true)], [], 0⟩) (by kernel_rfl)) (And.intro rfl rfl))
            · replace H := (ifF c124).symm.trans H
              refine reg hP hn hm [(1, .any (iV .i64 (a0.length : Int))), (3, .b false), (5, .call [] [] [] [] 0 (bV t119) []), (8, .b false), (12, .b false), (16, .b false), (20, .b false)] [0, 1, 2, 45] [] ⟨[(0, .im (.row (a0.map epluvialref17_Item))), (1, iV .i64 a1), (2, iV .i64 a2), (45, bV (decide (a1 < (-2199023255552))))], [], 0⟩ [((a0.map epluvialref17_Item).length : Int) = (a0.length : Int), (decide ((a0.length : Int) > (40 : Int))) = false, Enters Try.prog 12, Pv.Fn Try.prog 12 [.im (.row (a0.map epluvialref17_Item))] [] 0 (fun r o => r = bV t119 ∧ o = []), (!t119) = false, (decide (a2 < (0 : Int))) = false, (decide (a2 > (1099511627776 : Int))) = false, (decide (a1 > (2199023255552 : Int))) = false] (by kernel_rfl) ⟨by rw [len_map], by exact c118, by exact Try.call12, by exact f_pluvialref17_Right.ok a0 t119 e120, by exact c121, by exact c122, by exact c123, by exact c124, trivial⟩ ?_
              obtain rfl := Option.some.inj H
              exact Exists.intro _ (And.intro (fun _ _ h => h.conv (inv := []) (vk := []) (e0 := []) (t := ⟨[(0, .im (.row (a0.map epluvialref17_Item))), (1, iV .i64 a1), (2, iV .i64 a2), (45, bV (decide (a1 < (-2199023255552))))], [], 0⟩) (by kernel_rfl)) (And.intro rfl rfl))
  · obtain ⟨x125, rfl⟩ : ∃ z, z = o4283 := ⟨_, rfl⟩
    rintro e s ⟨rfl, rfl⟩
    refine AWp.cond x125 rfl (fun c126 => ?_) (fun c126 => ?_)
    · replace H := (ifT c126).symm.trans H
      refine AWp.seq ?_
      obtain ⟨t4131, e4132, H⟩ := bind_of H
      refine reg hP hn hm [(0, .call [] [] [] [] 0 (bV t4131) [])] [6] [] ⟨[(6, bV t4131)], [], 0⟩ [Enters Try.prog 13, Pv.Fn Try.prog 13 [] [] 0 (fun r o => r = bV t4131 ∧ o = [])] (by kernel_rfl) ⟨by exact Try.call13, by exact f_pluviallaw17_awake.ok  t4131 e4132, trivial⟩ ?_
      refine AWp.conv (inv := []) (vk := []) (e0 := []) (t := ⟨[(6, bV t4131)], [], 0⟩) (by kernel_rfl) ?_
      refine AWp.ret ?_
      obtain rfl := Option.some.inj H
      exact Exists.intro _ (And.intro (fun _ _ h => h) (And.intro (.inl rfl) (And.intro rfl (And.intro (by kernel_rfl) (by kernel_rfl)))))
    · replace H := (ifF c126).symm.trans H
      refine AWp.skip ?_
      refine AWp.seq ?_
      obtain ⟨t4174, e4175, H⟩ := bind_of H
      obtain ⟨t4176, e4177, H⟩ := bind_of H
      obtain ⟨t4178, e4179, H⟩ := bind_of H
      obtain ⟨t4180, e4181, H⟩ := bind_of H
      refine reg hP hn hm [(1, .call [] [(0, 0)] [] [0] 0 (.own 0) [(0, some (.row 4 89 (t4174.map eplan_Item)))]), (3, .call [] [(0, 1)] [0] [1] 0 (.own 0) [(0, some (.row 1 3 (t4176.map (encInt .i64))))]), (5, .call [] [(0, 2)] [] [2] 0 (.own 0) [(0, some (.row 4 89 (t4178.map eplan_Item)))]), (9, .call [] [(0, 3)] [2] [3] 0 (.own 0) [(0, some (.row 1 3 (t4180.map (encInt .i64))))])] [0, 7, 8] [1, 3] ⟨[(0, .im (.row (a0.map epluvialref17_Item))), (7, .own 1), (8, .own 3)], [(1, some (.row 1 3 (t4176.map (encInt .i64)))), (3, some (.row 1 3 (t4180.map (encInt .i64))))], 0⟩ [Enters Try.prog 15, Pv.Fn Try.prog 15 [.im (.row (a0.map epluvialref17_Item))] [] 0 (fun r o => r = .own 0 ∧ o = [(0, some (.row 4 89 (t4174.map eplan_Item)))]), Enters Try.prog 14, Pv.Fn Try.prog 14 [.im (.row (t4174.map eplan_Item)), iV .i64 a1] [] 0 (fun r o => r = .own 0 ∧ o = [(0, some (.row 1 3 (t4176.map (encInt .i64))))]), Enters Try.prog 15, Pv.Fn Try.prog 15 [.im (.row (a0.map epluvialref17_Item))] [] 0 (fun r o => r = .own 0 ∧ o = [(0, some (.row 4 89 (t4178.map eplan_Item)))]), Enters Try.prog 14, Pv.Fn Try.prog 14 [.im (.row (t4178.map eplan_Item)), iV .i64 (IntKind.i64.wrap (a1 + a2))] [] 0 (fun r o => r = .own 0 ∧ o = [(0, some (.row 1 3 (t4180.map (encInt .i64))))])] (by kernel_rfl) ⟨by exact Try.call15, by exact f_pluviallaw17_To.ok a0 t4174 e4175, by exact Try.call14, by exact f_plan_Below.ok t4174 a1 t4176 e4177, by exact Try.call15, by exact f_pluviallaw17_To.ok a0 t4178 e4179, by exact Try.call14, by exact f_plan_Below.ok t4178 (IntKind.i64.wrap (a1 + a2)) t4180 e4181, trivial⟩ ?_
      refine AWp.seq ?_
      refine reg hP hn hm [(0, .more (xMk 4))] [0, 7, 8, 9] [1, 3, 4] ⟨[(0, .im (.row (a0.map epluvialref17_Item))), (7, .own 1), (8, .own 3), (9, .mown 4)], [(1, some (.row 1 3 (t4176.map (encInt .i64)))), (3, some (.row 1 3 (t4180.map (encInt .i64)))), (4, some (.map (mE (vkI .i64) bI ([] : List (Int × Bool)))))], 0⟩ [] (by kernel_rfl) trivial ?_
      refine AWp.seq ?_
      refine AWp.seq ?_
      refine reg hP hn hm [(1, .any (iV .i64 (t4176.length : Int)))] [0, 7, 8, 9, 58, 59, 60] [1, 3, 4] ⟨[(0, .im (.row (a0.map epluvialref17_Item))), (7, .own 1), (8, .own 3), (9, .mown 4), (58, .own 1), (59, iV .i64 (t4176.length : Int)), (60, iV .i64 0)], [(1, some (.row 1 3 (t4176.map (encInt .i64)))), (3, some (.row 1 3 (t4180.map (encInt .i64)))), (4, some (.map (mE (vkI .i64) bI ([] : List (Int × Bool)))))], 0⟩ [((t4176.map (encInt .i64)).length : Int) = (t4176.length : Int)] (by kernel_rfl) ⟨by rw [len_map], trivial⟩ ?_
      refine AWp.block ?_
      obtain ⟨o4285, e4286, H⟩ := bind_of H
      refine AWp.loop (LWp.conv (inv := [(1, 5), (3, 6), (4, 7)]) (vk := []) (e0 := []) (t := ⟨[(0, .im (.row (a0.map epluvialref17_Item))), (7, .own 5), (8, .own 6), (9, .mown 7), (58, .own 5), (59, iV .i64 (t4176.length : Int)), (60, iV .i64 0)], [(5, some (.row 1 3 (t4176.map (encInt .i64)))), (6, some (.row 1 3 (t4180.map (encInt .i64)))), (7, some (.map (mE (vkI .i64) bI ([] : List (Int × Bool)))))], 0⟩) (by kernel_rfl) ?_)
      refine LWp.mono (Q := fun e s => (match (generalizing := false) o4285 with | x4198 => e = .exit 0 ∧ s = ⟨[(0, .im (.row (a0.map epluvialref17_Item))), (7, .own 8), (8, .own 9), (9, .mown 10)], [(8, some (.row 1 3 (t4176.map (encInt .i64)))), (9, some (.row 1 3 (t4180.map (encInt .i64)))), (10, some (.map (mE (vkI .i64) bI x4198)))], 0⟩)) (LWp.cv (withBody (fun body hbody => ?_))) ?_
      · refine f_pluviallaw17_PlanBelows.l0.partial_correctness a0 t4176 t4180 (motive := fun x4189 x4190 o4285 => LWp Γ body (fun e s => ∃ t, Cv Γ s t ∧ (match (generalizing := false) o4285 with | x4198 => e = .exit 0 ∧ t = ⟨[(0, .im (.row (a0.map epluvialref17_Item))), (7, .own 8), (8, .own 9), (9, .mown 10)], [(8, some (.row 1 3 (t4176.map (encInt .i64)))), (9, some (.row 1 3 (t4180.map (encInt .i64)))), (10, some (.map (mE (vkI .i64) bI x4198)))], 0⟩)) ⟨[(0, .im (.row (a0.map epluvialref17_Item))), (7, .own 5), (8, .own 6), (9, .mown 7), (58, .own 5), (59, iV .i64 (t4176.length : Int)), (60, iV .i64 x4190)], [(5, some (.row 1 3 (t4176.map (encInt .i64)))), (6, some (.row 1 3 (t4180.map (encInt .i64)))), (7, some (.map (mE (vkI .i64) bI x4189)))], 0⟩) ?_ _ _ _ e4286
        clear H e4286 o4285; intro self ih x4189 x4190 o4285 H
        subst hbody
        refine LWp.round ?_
        refine AWp.seq ?_
        refine reg hP hn hm [] [0, 7, 8, 9, 58, 59, 60, 61] [5, 6, 7] ⟨[(0, .im (.row (a0.map epluvialref17_Item))), (7, .own 5), (8, .own 6), (9, .mown 7), (58, .own 5), (59, iV .i64 (t4176.length : Int)), (60, iV .i64 x4190), (61, bV (decide (x4190 < (t4176.length : Int))))], [(5, some (.row 1 3 (t4176.map (encInt .i64)))), (6, some (.row 1 3 (t4180.map (encInt .i64)))), (7, some (.map (mE (vkI .i64) bI x4189)))], 0⟩ [] (by kernel_rfl) trivial ?_
        refine AWp.seq ?_
        refine AWp.cond (decide (x4190 < (t4176.length : Int))) rfl (fun c4191 => ?_) (fun c4191 => ?_)
        · replace H := (ifT c4191).symm.trans H
          refine AWp.skip ?_
          refine AWp.seq ?_
          refine AWp.block ?_
          refine AWp.seq ?_
          obtain ⟨b4195, p4196, q4197, H⟩ := at_of H
          refine reg hP hn hm [(1, .c ((encInt .i64) b4195))] [0, 7, 8, 9, 11, 58, 59, 60] [5, 6, 7] ⟨[(0, .im (.row (a0.map epluvialref17_Item))), (7, .own 5), (8, .own 6), (9, .mown 7), (11, iV .i64 b4195), (58, .own 5), (59, iV .i64 (t4176.length : Int)), (60, iV .i64 x4190)], [(5, some (.row 1 3 (t4176.map (encInt .i64)))), (6, some (.row 1 3 (t4180.map (encInt .i64)))), (7, some (.map (mE (vkI .i64) bI x4189)))], 0⟩ [0 ≤ x4190, x4190 < (((t4176.map (encInt .i64)).length : Nat) : Int), (t4176.map (encInt .i64))[(Int.toNat (x4190))]? = some ((encInt .i64) b4195)] (by kernel_rfl) ⟨by exact p4196, by exact el_lt (encInt .i64) p4196 q4197, by exact el_map (encInt .i64) q4197, trivial⟩ ?_
          refine reg hP hn hm [(2, .more (xPut (vkI .i64) bI x4189 b4195 true))] [0, 7, 8, 9, 58, 59, 60] [5, 6, 7] ⟨[(0, .im (.row (a0.map epluvialref17_Item))), (7, .own 5), (8, .own 6), (9, .mown 7), (58, .own 5), (59, iV .i64 (t4176.length : Int)), (60, iV .i64 x4190)], [(5, some (.row 1 3 (t4176.map (encInt .i64)))), (6, some (.row 1 3 (t4180.map (encInt .i64)))), (7, some (.map (mE (vkI .i64) bI (mput x4189 b4195 true))))], 0⟩ [KeyOK Try.prog 3 (vkI .i64), mE (vkI .i64) bI x4189 = mE (vkI .i64) bI x4189, valA (iV .i64 b4195) = some ((vkI .i64) b4195), bI true = bI true] (by kernel_rfl) ⟨by exact (key_int (by kernel_rfl)), by exact rfl, by exact rfl, by exact rfl, trivial⟩ ?_
          refine reg hP hn hm [] [0, 7, 8, 9, 58, 59, 60] [5, 6, 7] ⟨[(0, .im (.row (a0.map epluvialref17_Item))), (7, .own 5), (8, .own 6), (9, .mown 7), (58, .own 5), (59, iV .i64 (t4176.length : Int)), (60, iV .i64 (IntKind.i64.wrap (x4190 + (1 : Int))))], [(5, some (.row 1 3 (t4176.map (encInt .i64)))), (6, some (.row 1 3 (t4180.map (encInt .i64)))), (7, some (.map (mE (vkI .i64) bI (mput x4189 b4195 true))))], 0⟩ [] (by kernel_rfl) trivial ?_
          exact LWp.conv (inv := [(5, 5), (6, 6), (7, 7)]) (vk := []) (e0 := []) (t := ⟨[(0, .im (.row (a0.map epluvialref17_Item))), (7, .own 5), (8, .own 6), (9, .mown 7), (58, .own 5), (59, iV .i64 (t4176.length : Int)), (60, iV .i64 (IntKind.i64.wrap (x4190 + (1 : Int))))], [(5, some (.row 1 3 (t4176.map (encInt .i64)))), (6, some (.row 1 3 (t4180.map (encInt .i64)))), (7, some (.map (mE (vkI .i64) bI (mput x4189 b4195 true))))], 0⟩) (by kernel_rfl) (ih _ _ _ H)
        · replace H := (ifF c4191).symm.trans H
          refine AWp.exit ?_
          obtain rfl := Option.some.inj H
          exact Exists.intro _ (And.intro (fun _ _ h => h.conv (inv := [(5, 8), (6, 9), (7, 10)]) (vk := []) (e0 := []) (t := ⟨[(0, .im (.row (a0.map epluvialref17_Item))), (7, .own 8), (8, .own 9), (9, .mown 10)], [(8, some (.row 1 3 (t4176.map (encInt .i64)))), (9, some (.row 1 3 (t4180.map (encInt .i64)))), (10, some (.map (mE (vkI .i64) bI x4189)))], 0⟩) (by kernel_rfl)) (And.intro rfl rfl))
      · obtain ⟨x4198, rfl⟩ : ∃ z, z = o4285 := ⟨_, rfl⟩
        rintro e s ⟨rfl, rfl⟩
        refine AWp.seq ?_
        refine reg hP hn hm [] [0, 7, 8, 9, 12] [8, 9, 10] ⟨[(0, .im (.row (a0.map epluvialref17_Item))), (7, .own 8), (8, .own 9), (9, .mown 10), (12, iV .i64 0)], [(8, some (.row 1 3 (t4176.map (encInt .i64)))), (9, some (.row 1 3 (t4180.map (encInt .i64)))), (10, some (.map (mE (vkI .i64) bI x4198)))], 0⟩ [] (by kernel_rfl) trivial ?_
        refine AWp.seq ?_
        refine AWp.seq ?_
        refine reg hP hn hm [(1, .any (iV .i64 (t4180.length : Int)))] [0, 7, 9, 12, 67, 68, 69] [8, 9, 10] ⟨[(0, .im (.row (a0.map epluvialref17_Item))), (7, .own 8), (9, .mown 10), (12, iV .i64 0), (67, .own 9), (68, iV .i64 (t4180.length : Int)), (69, iV .i64 0)], [(8, some (.row 1 3 (t4176.map (encInt .i64)))), (9, some (.row 1 3 (t4180.map (encInt .i64)))), (10, some (.map (mE (vkI .i64) bI x4198)))], 0⟩ [((t4180.map (encInt .i64)).length : Int) = (t4180.length : Int)] (by kernel_rfl) ⟨by rw [len_map], trivial⟩ ?_
        refine AWp.block ?_
        obtain ⟨o4287, e4288, H⟩ := bind_of H
        refine AWp.loop (LWp.conv (inv := [(8, 14), (9, 16), (10, 15)]) (vk := []) (e0 := []) (t := ⟨[(0, .im (.row (a0.map epluvialref17_Item))), (7, .own 14), (9, .mown 15), (12, iV .i64 0), (67, .own 16), (68, iV .i64 (t4180.length : Int)), (69, iV .i64 0)], [(14, some (.row 1 3 (t4176.map (encInt .i64)))), (15, some (.map (mE (vkI .i64) bI x4198))), (16, some (.row 1 3 (t4180.map (encInt .i64))))], 0⟩) (by kernel_rfl) ?_)
        refine LWp.mono (Q := fun e s => (match (generalizing := false) o4287 with | x4219 => e = .exit 2 ∧ s = ⟨[(0, .im (.row (a0.map epluvialref17_Item))), (7, .own 20), (9, .mown 21), (12, iV .i64 x4219)], [(20, some (.row 1 3 (t4176.map (encInt .i64)))), (21, some (.map (mE (vkI .i64) bI x4198)))], 0⟩)) (LWp.cv (withBody (fun body hbody => ?_))) ?_
        · refine f_pluviallaw17_PlanBelows.l1.partial_correctness a0 t4176 t4180 x4198 (motive := fun x4208 x4209 o4287 => LWp Γ body (fun e s => ∃ t, Cv Γ s t ∧ (match (generalizing := false) o4287 with | x4219 => e = .exit 2 ∧ t = ⟨[(0, .im (.row (a0.map epluvialref17_Item))), (7, .own 20), (9, .mown 21), (12, iV .i64 x4219)], [(20, some (.row 1 3 (t4176.map (encInt .i64)))), (21, some (.map (mE (vkI .i64) bI x4198)))], 0⟩)) ⟨[(0, .im (.row (a0.map epluvialref17_Item))), (7, .own 14), (9, .mown 15), (12, iV .i64 x4208), (67, .own 16), (68, iV .i64 (t4180.length : Int)), (69, iV .i64 x4209)], [(14, some (.row 1 3 (t4176.map (encInt .i64)))), (15, some (.map (mE (vkI .i64) bI x4198))), (16, some (.row 1 3 (t4180.map (encInt .i64))))], 0⟩) ?_ _ _ _ e4288
          clear H e4288 o4287; intro self ih x4208 x4209 o4287 H
          subst hbody
          refine LWp.round ?_
          refine AWp.seq ?_
          refine reg hP hn hm [] [0, 7, 9, 12, 67, 68, 69, 70] [14, 15, 16] ⟨[(0, .im (.row (a0.map epluvialref17_Item))), (7, .own 14), (9, .mown 15), (12, iV .i64 x4208), (67, .own 16), (68, iV .i64 (t4180.length : Int)), (69, iV .i64 x4209), (70, bV (decide (x4209 < (t4180.length : Int))))], [(14, some (.row 1 3 (t4176.map (encInt .i64)))), (15, some (.map (mE (vkI .i64) bI x4198))), (16, some (.row 1 3 (t4180.map (encInt .i64))))], 0⟩ [] (by kernel_rfl) trivial ?_
          refine AWp.seq ?_
          refine AWp.cond (decide (x4209 < (t4180.length : Int))) rfl (fun c4210 => ?_) (fun c4210 => ?_)
          · replace H := (ifT c4210).symm.trans H
            refine AWp.skip ?_
            refine AWp.seq ?_
            refine AWp.block ?_
            refine AWp.seq ?_
            obtain ⟨b4214, p4215, q4216, H⟩ := at_of H
            refine reg hP hn hm [(1, .c ((encInt .i64) b4214))] [0, 7, 9, 12, 14, 67, 68, 69] [14, 15, 16] ⟨[(0, .im (.row (a0.map epluvialref17_Item))), (7, .own 14), (9, .mown 15), (12, iV .i64 x4208), (14, iV .i64 b4214), (67, .own 16), (68, iV .i64 (t4180.length : Int)), (69, iV .i64 x4209)], [(14, some (.row 1 3 (t4176.map (encInt .i64)))), (15, some (.map (mE (vkI .i64) bI x4198))), (16, some (.row 1 3 (t4180.map (encInt .i64))))], 0⟩ [0 ≤ x4209, x4209 < (((t4180.map (encInt .i64)).length : Nat) : Int), (t4180.map (encInt .i64))[(Int.toNat (x4209))]? = some ((encInt .i64) b4214)] (by kernel_rfl) ⟨by exact p4215, by exact el_lt (encInt .i64) p4215 q4216, by exact el_map (encInt .i64) q4216, trivial⟩ ?_
            refine AWp.seq ?_
            refine reg hP hn hm [(2, .more (xLook (vkI .i64) bI x4198 b4214 false))] [0, 7, 9, 12, 67, 68, 69, 75] [14, 15, 16] ⟨[(0, .im (.row (a0.map epluvialref17_Item))), (7, .own 14), (9, .mown 15), (12, iV .i64 x4208), (67, .own 16), (68, iV .i64 (t4180.length : Int)), (69, iV .i64 x4209), (75, bV ((mget x4198 b4214).getD false))], [(14, some (.row 1 3 (t4176.map (encInt .i64)))), (15, some (.map (mE (vkI .i64) bI x4198))), (16, some (.row 1 3 (t4180.map (encInt .i64))))], 0⟩ [KeyOK Try.prog 3 (vkI .i64), mE (vkI .i64) bI x4198 = mE (vkI .i64) bI x4198, valA (iV .i64 b4214) = some ((vkI .i64) b4214), bI false = bI false] (by kernel_rfl) ⟨by exact (key_int (by kernel_rfl)), by exact rfl, by exact rfl, by exact rfl, trivial⟩ ?_
            obtain ⟨o4289, e4290, H⟩ := bind_of H
            refine AWp.mono (Q := fun e s => (match (generalizing := false) o4289 with | x4218 => e = .normal ∧ s = ⟨[(0, .im (.row (a0.map epluvialref17_Item))), (7, .own 17), (9, .mown 18), (12, iV .i64 x4218), (67, .own 19), (68, iV .i64 (t4180.length : Int)), (69, iV .i64 x4209)], [(17, some (.row 1 3 (t4176.map (encInt .i64)))), (18, some (.map (mE (vkI .i64) bI x4198))), (19, some (.row 1 3 (t4180.map (encInt .i64))))], 0⟩)) (AWp.cv ?_) ?_
            · replace H := e4290; clear e4290
              refine AWp.cond ((mget x4198 b4214).getD false) rfl (fun c4217 => ?_) (fun c4217 => ?_)
              · replace H := (ifT c4217).symm.trans H
                refine reg hP hn hm [] [0, 7, 9, 12, 67, 68, 69] [14, 15, 16] ⟨[(0, .im (.row (a0.map epluvialref17_Item))), (7, .own 14), (9, .mown 15), (12, iV .i64 (IntKind.i64.wrap (x4208 + (1 : Int)))), (67, .own 16), (68, iV .i64 (t4180.length : Int)), (69, iV .i64 x4209)], [(14, some (.row 1 3 (t4176.map (encInt .i64)))), (15, some (.map (mE (vkI .i64) bI x4198))), (16, some (.row 1 3 (t4180.map (encInt .i64))))], 0⟩ [] (by kernel_rfl) trivial ?_
                obtain rfl := Option.some.inj H
                exact Exists.intro _ (And.intro (fun _ _ h => h.conv (inv := [(14, 17), (15, 18), (16, 19)]) (vk := []) (e0 := []) (t := ⟨[(0, .im (.row (a0.map epluvialref17_Item))), (7, .own 17), (9, .mown 18), (12, iV .i64 (IntKind.i64.wrap (x4208 + (1 : Int)))), (67, .own 19), (68, iV .i64 (t4180.length : Int)), (69, iV .i64 x4209)], [(17, some (.row 1 3 (t4176.map (encInt .i64)))), (18, some (.map (mE (vkI .i64) bI x4198))), (19, some (.row 1 3 (t4180.map (encInt .i64))))], 0⟩) (by kernel_rfl)) (And.intro rfl rfl))
              · replace H := (ifF c4217).symm.trans H
                refine AWp.skip ?_
                obtain rfl := Option.some.inj H
                exact Exists.intro _ (And.intro (fun _ _ h => h.conv (inv := [(14, 17), (15, 18), (16, 19)]) (vk := []) (e0 := []) (t := ⟨[(0, .im (.row (a0.map epluvialref17_Item))), (7, .own 17), (9, .mown 18), (12, iV .i64 x4208), (67, .own 19), (68, iV .i64 (t4180.length : Int)), (69, iV .i64 x4209)], [(17, some (.row 1 3 (t4176.map (encInt .i64)))), (18, some (.map (mE (vkI .i64) bI x4198))), (19, some (.row 1 3 (t4180.map (encInt .i64))))], 0⟩) (by kernel_rfl)) (And.intro rfl rfl))
            · obtain ⟨x4218, rfl⟩ : ∃ z, z = o4289 := ⟨_, rfl⟩
              rintro e s ⟨rfl, rfl⟩
              refine reg hP hn hm [] [0, 7, 9, 12, 67, 68, 69] [17, 18, 19] ⟨[(0, .im (.row (a0.map epluvialref17_Item))), (7, .own 17), (9, .mown 18), (12, iV .i64 x4218), (67, .own 19), (68, iV .i64 (t4180.length : Int)), (69, iV .i64 (IntKind.i64.wrap (x4209 + (1 : Int))))], [(17, some (.row 1 3 (t4176.map (encInt .i64)))), (18, some (.map (mE (vkI .i64) bI x4198))), (19, some (.row 1 3 (t4180.map (encInt .i64))))], 0⟩ [] (by kernel_rfl) trivial ?_
              exact LWp.conv (inv := [(17, 14), (18, 15), (19, 16)]) (vk := []) (e0 := []) (t := ⟨[(0, .im (.row (a0.map epluvialref17_Item))), (7, .own 14), (9, .mown 15), (12, iV .i64 x4218), (67, .own 16), (68, iV .i64 (t4180.length : Int)), (69, iV .i64 (IntKind.i64.wrap (x4209 + (1 : Int))))], [(14, some (.row 1 3 (t4176.map (encInt .i64)))), (15, some (.map (mE (vkI .i64) bI x4198))), (16, some (.row 1 3 (t4180.map (encInt .i64))))], 0⟩) (by kernel_rfl) (ih _ _ _ H)
          · replace H := (ifF c4210).symm.trans H
            refine AWp.exit ?_
            obtain rfl := Option.some.inj H
            exact Exists.intro _ (And.intro (fun _ _ h => h.conv (inv := [(14, 20), (15, 21)]) (vk := []) (e0 := []) (t := ⟨[(0, .im (.row (a0.map epluvialref17_Item))), (7, .own 20), (9, .mown 21), (12, iV .i64 x4208)], [(20, some (.row 1 3 (t4176.map (encInt .i64)))), (21, some (.map (mE (vkI .i64) bI x4198)))], 0⟩) (by kernel_rfl)) (And.intro rfl rfl))
        · obtain ⟨x4219, rfl⟩ : ∃ z, z = o4287 := ⟨_, rfl⟩
          rintro e s ⟨rfl, rfl⟩
          refine AWp.seq ?_
          refine reg hP hn hm [] [0, 7, 9, 12, 15] [20, 21] ⟨[(0, .im (.row (a0.map epluvialref17_Item))), (7, .own 20), (9, .mown 21), (12, iV .i64 x4219), (15, .none0)], [(20, some (.row 1 3 (t4176.map (encInt .i64)))), (21, some (.map (mE (vkI .i64) bI x4198)))], 0⟩ [] (by kernel_rfl) trivial ?_
          refine AWp.seq ?_
          refine AWp.seq ?_
          refine reg hP hn hm [(1, .any (iV .i64 (a0.length : Int)))] [0, 7, 9, 12, 15, 79, 80, 81] [20, 21] ⟨[(0, .im (.row (a0.map epluvialref17_Item))), (7, .own 20), (9, .mown 21), (12, iV .i64 x4219), (15, .none0), (79, .im (.row (a0.map epluvialref17_Item))), (80, iV .i64 (a0.length : Int)), (81, iV .i64 0)], [(20, some (.row 1 3 (t4176.map (encInt .i64)))), (21, some (.map (mE (vkI .i64) bI x4198)))], 0⟩ [((a0.map epluvialref17_Item).length : Int) = (a0.length : Int)] (by kernel_rfl) ⟨by rw [len_map], trivial⟩ ?_
          refine AWp.block ?_
          obtain ⟨o4291, e4292, H⟩ := bind_of H
          refine AWp.loop (LWp.conv (inv := [(20, 28), (21, 29)]) (vk := []) (e0 := [30]) (t := ⟨[(0, .im (.row (a0.map epluvialref17_Item))), (7, .own 28), (9, .mown 29), (12, iV .i64 x4219), (15, .own 30), (79, .im (.row (a0.map epluvialref17_Item))), (80, iV .i64 (a0.length : Int)), (81, iV .i64 0)], [(28, some (.row 1 3 (t4176.map (encInt .i64)))), (29, some (.map (mE (vkI .i64) bI x4198))), (30, some (.row 4 31 ([].map epluvialref17_Item)))], 0⟩) (by kernel_rfl) ?_)
          refine LWp.mono (Q := fun e s => (match (generalizing := false) o4291 with | x4244 => e = .exit 4 ∧ s = ⟨[(0, .im (.row (a0.map epluvialref17_Item))), (7, .own 37), (9, .mown 38), (12, iV .i64 x4219), (15, .own 39)], [(37, some (.row 1 3 (t4176.map (encInt .i64)))), (38, some (.map (mE (vkI .i64) bI x4198))), (39, some (.row 4 31 (x4244.map epluvialref17_Item)))], 0⟩)) (LWp.cv (withBody (fun body hbody => ?_))) ?_
          · refine f_pluviallaw17_PlanBelows.l2.partial_correctness a0 t4176 x4198 x4219 (motive := fun x4231 x4232 o4291 => LWp Γ body (fun e s => ∃ t, Cv Γ s t ∧ (match (generalizing := false) o4291 with | x4244 => e = .exit 4 ∧ t = ⟨[(0, .im (.row (a0.map epluvialref17_Item))), (7, .own 37), (9, .mown 38), (12, iV .i64 x4219), (15, .own 39)], [(37, some (.row 1 3 (t4176.map (encInt .i64)))), (38, some (.map (mE (vkI .i64) bI x4198))), (39, some (.row 4 31 (x4244.map epluvialref17_Item)))], 0⟩)) ⟨[(0, .im (.row (a0.map epluvialref17_Item))), (7, .own 28), (9, .mown 29), (12, iV .i64 x4219), (15, .own 30), (79, .im (.row (a0.map epluvialref17_Item))), (80, iV .i64 (a0.length : Int)), (81, iV .i64 x4232)], [(28, some (.row 1 3 (t4176.map (encInt .i64)))), (29, some (.map (mE (vkI .i64) bI x4198))), (30, some (.row 4 31 (x4231.map epluvialref17_Item)))], 0⟩) ?_ _ _ _ e4292
            clear H e4292 o4291; intro self ih x4231 x4232 o4291 H
            subst hbody
            refine LWp.round ?_
            refine AWp.seq ?_
            refine reg hP hn hm [] [0, 7, 9, 12, 15, 79, 80, 81, 82] [28, 29, 30] ⟨[(0, .im (.row (a0.map epluvialref17_Item))), (7, .own 28), (9, .mown 29), (12, iV .i64 x4219), (15, .own 30), (79, .im (.row (a0.map epluvialref17_Item))), (80, iV .i64 (a0.length : Int)), (81, iV .i64 x4232), (82, bV (decide (x4232 < (a0.length : Int))))], [(28, some (.row 1 3 (t4176.map (encInt .i64)))), (29, some (.map (mE (vkI .i64) bI x4198))), (30, some (.row 4 31 (x4231.map epluvialref17_Item)))], 0⟩ [] (by kernel_rfl) trivial ?_
            refine AWp.seq ?_
            refine AWp.cond (decide (x4232 < (a0.length : Int))) rfl (fun c4233 => ?_) (fun c4233 => ?_)
            · replace H := (ifT c4233).symm.trans H
              refine AWp.skip ?_
              refine AWp.seq ?_
              refine AWp.block ?_
              refine AWp.seq ?_
              obtain ⟨b4237, p4238, q4239, H⟩ := at_of H
              refine reg hP hn hm [(0, .c (epluvialref17_Item b4237)), (2, .k 31)] [0, 7, 9, 12, 15, 17, 79, 80, 81] [28, 29, 30, 31] ⟨[(0, .im (.row (a0.map epluvialref17_Item))), (7, .own 28), (9, .mown 29), (12, iV .i64 x4219), (15, .own 30), (17, .ptr 31 0 0), (79, .im (.row (a0.map epluvialref17_Item))), (80, iV .i64 (a0.length : Int)), (81, iV .i64 x4232)], [(28, some (.row 1 3 (t4176.map (encInt .i64)))), (29, some (.map (mE (vkI .i64) bI x4198))), (30, some (.row 4 31 (x4231.map epluvialref17_Item))), (31, some (.box 31 (apluvialref17_Item b4237)))], 0⟩ [0 ≤ x4232, (a0.map epluvialref17_Item)[(Int.toNat (x4232))]? = some (epluvialref17_Item b4237)] (by kernel_rfl) ⟨by exact p4238, by exact el_map epluvialref17_Item q4239, trivial⟩ ?_
              refine AWp.seq ?_
              refine reg hP hn hm [(3, .more (xLook (vkI .i64) bI x4198 b4237.f0 false))] [0, 7, 9, 12, 15, 17, 79, 80, 81, 89] [28, 29, 30, 31] ⟨[(0, .im (.row (a0.map epluvialref17_Item))), (7, .own 28), (9, .mown 29), (12, iV .i64 x4219), (15, .own 30), (17, .ptr 31 0 0), (79, .im (.row (a0.map epluvialref17_Item))), (80, iV .i64 (a0.length : Int)), (81, iV .i64 x4232), (89, bV (!((mget x4198 b4237.f0).getD false)))], [(28, some (.row 1 3 (t4176.map (encInt .i64)))), (29, some (.map (mE (vkI .i64) bI x4198))), (30, some (.row 4 31 (x4231.map epluvialref17_Item))), (31, some (.box 31 (apluvialref17_Item b4237)))], 0⟩ [KeyOK Try.prog 3 (vkI .i64), mE (vkI .i64) bI x4198 = mE (vkI .i64) bI x4198, valA (iV .i64 b4237.f0) = some ((vkI .i64) b4237.f0), bI false = bI false] (by kernel_rfl) ⟨by exact (key_int (by kernel_rfl)), by exact rfl, by exact rfl, by exact rfl, trivial⟩ ?_
              obtain ⟨o4293, e4294, H⟩ := bind_of H
              refine AWp.mono (Q := fun e s => (match (generalizing := false) o4293 with | x4243 => e = .normal ∧ s = ⟨[(0, .im (.row (a0.map epluvialref17_Item))), (7, .own 34), (9, .mown 35), (12, iV .i64 x4219), (15, .own 36), (79, .im (.row (a0.map epluvialref17_Item))), (80, iV .i64 (a0.length : Int)), (81, iV .i64 x4232)], [(34, some (.row 1 3 (t4176.map (encInt .i64)))), (35, some (.map (mE (vkI .i64) bI x4198))), (36, some (.row 4 31 (x4243.map epluvialref17_Item)))], 0⟩)) (AWp.cv ?_) ?_
              · replace H := e4294; clear e4294
                refine AWp.cond (!((mget x4198 b4237.f0).getD false)) rfl (fun c4240 => ?_) (fun c4240 => ?_)
                · replace H := (ifT c4240).symm.trans H
                  obtain ⟨c4242, H⟩ := chk_of H
                  refine reg hP hn hm [(2, .app 32 ([b4237].map epluvialref17_Item)), (3, .app 33 ((x4231 ++ [b4237]).map epluvialref17_Item))] [0, 7, 9, 12, 15, 79, 80, 81] [28, 29, 33] ⟨[(0, .im (.row (a0.map epluvialref17_Item))), (7, .own 28), (9, .mown 29), (12, iV .i64 x4219), (15, .own 33), (79, .im (.row (a0.map epluvialref17_Item))), (80, iV .i64 (a0.length : Int)), (81, iV .i64 x4232)], [(28, some (.row 1 3 (t4176.map (encInt .i64)))), (29, some (.map (mE (vkI .i64) bI x4198))), (33, some (.row 4 31 ((x4231 ++ [b4237]).map epluvialref17_Item)))], 0⟩ [[b4237].map epluvialref17_Item = [[iI .i64 b4237.f0, iI .i64 b4237.f1, iI .i64 b4237.f2, iI .i64 b4237.f3]], (x4231 ++ [b4237]).map epluvialref17_Item = (x4231.map epluvialref17_Item) ++ ([b4237].map epluvialref17_Item), ∀ c ∈ ([b4237].map epluvialref17_Item), c.length = 4, ∀ c ∈ ([b4237].map epluvialref17_Item), leaves (c.map .im) = true, ((x4231.map epluvialref17_Item).length + ([b4237].map epluvialref17_Item).length) * 32 ≤ 140737488355328] (by kernel_rfl) ⟨by exact rfl, by simp, by exact all_len _ _ _ (fun _ => rfl), by exact all_leaf _ _ (fun _ => rfl), by simpa using c4242, trivial⟩ ?_
                  obtain rfl := Option.some.inj H
                  exact Exists.intro _ (And.intro (fun _ _ h => h.conv (inv := [(28, 34), (29, 35), (33, 36)]) (vk := []) (e0 := []) (t := ⟨[(0, .im (.row (a0.map epluvialref17_Item))), (7, .own 34), (9, .mown 35), (12, iV .i64 x4219), (15, .own 36), (79, .im (.row (a0.map epluvialref17_Item))), (80, iV .i64 (a0.length : Int)), (81, iV .i64 x4232)], [(34, some (.row 1 3 (t4176.map (encInt .i64)))), (35, some (.map (mE (vkI .i64) bI x4198))), (36, some (.row 4 31 ((x4231 ++ [b4237]).map epluvialref17_Item)))], 0⟩) (by kernel_rfl)) (And.intro rfl rfl))
                · replace H := (ifF c4240).symm.trans H
                  refine AWp.skip ?_
                  obtain rfl := Option.some.inj H
                  exact Exists.intro _ (And.intro (fun _ _ h => h.conv (inv := [(28, 34), (29, 35), (30, 36)]) (vk := []) (e0 := []) (t := ⟨[(0, .im (.row (a0.map epluvialref17_Item))), (7, .own 34), (9, .mown 35), (12, iV .i64 x4219), (15, .own 36), (79, .im (.row (a0.map epluvialref17_Item))), (80, iV .i64 (a0.length : Int)), (81, iV .i64 x4232)], [(34, some (.row 1 3 (t4176.map (encInt .i64)))), (35, some (.map (mE (vkI .i64) bI x4198))), (36, some (.row 4 31 (x4231.map epluvialref17_Item)))], 0⟩) (by kernel_rfl)) (And.intro rfl rfl))
              · obtain ⟨x4243, rfl⟩ : ∃ z, z = o4293 := ⟨_, rfl⟩
                rintro e s ⟨rfl, rfl⟩
                refine reg hP hn hm [] [0, 7, 9, 12, 15, 79, 80, 81] [34, 35, 36] ⟨[(0, .im (.row (a0.map epluvialref17_Item))), (7, .own 34), (9, .mown 35), (12, iV .i64 x4219), (15, .own 36), (79, .im (.row (a0.map epluvialref17_Item))), (80, iV .i64 (a0.length : Int)), (81, iV .i64 (IntKind.i64.wrap (x4232 + (1 : Int))))], [(34, some (.row 1 3 (t4176.map (encInt .i64)))), (35, some (.map (mE (vkI .i64) bI x4198))), (36, some (.row 4 31 (x4243.map epluvialref17_Item)))], 0⟩ [] (by kernel_rfl) trivial ?_
                exact LWp.conv (inv := [(34, 28), (35, 29), (36, 30)]) (vk := []) (e0 := []) (t := ⟨[(0, .im (.row (a0.map epluvialref17_Item))), (7, .own 28), (9, .mown 29), (12, iV .i64 x4219), (15, .own 30), (79, .im (.row (a0.map epluvialref17_Item))), (80, iV .i64 (a0.length : Int)), (81, iV .i64 (IntKind.i64.wrap (x4232 + (1 : Int))))], [(28, some (.row 1 3 (t4176.map (encInt .i64)))), (29, some (.map (mE (vkI .i64) bI x4198))), (30, some (.row 4 31 (x4243.map epluvialref17_Item)))], 0⟩) (by kernel_rfl) (ih _ _ _ H)
            · replace H := (ifF c4233).symm.trans H
              refine AWp.exit ?_
              obtain rfl := Option.some.inj H
              exact Exists.intro _ (And.intro (fun _ _ h => h.conv (inv := [(28, 37), (29, 38), (30, 39)]) (vk := []) (e0 := []) (t := ⟨[(0, .im (.row (a0.map epluvialref17_Item))), (7, .own 37), (9, .mown 38), (12, iV .i64 x4219), (15, .own 39)], [(37, some (.row 1 3 (t4176.map (encInt .i64)))), (38, some (.map (mE (vkI .i64) bI x4198))), (39, some (.row 4 31 (x4231.map epluvialref17_Item)))], 0⟩) (by kernel_rfl)) (And.intro rfl rfl))
          · obtain ⟨x4244, rfl⟩ : ∃ z, z = o4291 := ⟨_, rfl⟩
            rintro e s ⟨rfl, rfl⟩
            refine AWp.seq ?_
            refine AWp.conv (inv := [(37, 37), (38, 38)]) (vk := [39]) (e0 := []) (t := ⟨[(0, .im (.row (a0.map epluvialref17_Item))), (7, .own 37), (9, .mown 38), (12, iV .i64 x4219), (15, .im (.row (x4244.map epluvialref17_Item)))], [(37, some (.row 1 3 (t4176.map (encInt .i64)))), (38, some (.map (mE (vkI .i64) bI x4198)))], 0⟩) (by kernel_rfl) ?_
            obtain ⟨t4253, e4254, H⟩ := bind_of H
            obtain ⟨t4255, e4256, H⟩ := bind_of H
            refine reg hP hn hm [(1, .call [] [(0, 40)] [] [40] 0 (.own 0) [(0, some (.row 4 89 (t4253.map eplan_Item)))]), (2, .call [] [(0, 41)] [40] [41] 0 (.tup [.agg [.own 0, iV .i64 ((t4255.1).f1)], bV t4255.2]) [(0, some (.row 1 3 (((t4255.1).f0).map (encInt .i64))))]), (6, .k 42)] [0, 7, 9, 12, 15, 18] [37, 38, 41, 42] ⟨[(0, .im (.row (a0.map epluvialref17_Item))), (7, .own 37), (9, .mown 38), (12, iV .i64 x4219), (15, .im (.row (x4244.map epluvialref17_Item))), (18, .ptr 42 0 0)], [(37, some (.row 1 3 (t4176.map (encInt .i64)))), (38, some (.map (mE (vkI .i64) bI x4198))), (41, some (.row 1 3 (((t4255.1).f0).map (encInt .i64)))), (42, some (.box 33 [.own 41, iV .i64 ((t4255.1).f1)]))], 0⟩ [Enters Try.prog 15, Pv.Fn Try.prog 15 [.im (.row (x4244.map epluvialref17_Item))] [] 0 (fun r o => r = .own 0 ∧ o = [(0, some (.row 4 89 (t4253.map eplan_Item)))]), Enters Try.prog 16, Pv.Fn Try.prog 16 [.im (.row (t4253.map eplan_Item))] [] 0 (fun r o => r = .tup [.agg [.own 0, iV .i64 ((t4255.1).f1)], bV t4255.2] ∧ o = [(0, some (.row 1 3 (((t4255.1).f0).map (encInt .i64))))])] (by kernel_rfl) ⟨by exact Try.call15, by exact f_pluviallaw17_To.ok x4244 t4253 e4254, by exact Try.call16, by exact f_plan_Next.ok t4253 t4255 e4256, trivial⟩ ?_
            refine AWp.seq ?_
            refine AWp.seq ?_
            refine reg hP hn hm [(2, .any (iV .i64 (((t4255.1).f0).length : Int)))] [0, 7, 9, 12, 15, 102, 103, 104] [37, 38, 41] ⟨[(0, .im (.row (a0.map epluvialref17_Item))), (7, .own 37), (9, .mown 38), (12, iV .i64 x4219), (15, .im (.row (x4244.map epluvialref17_Item))), (102, .own 41), (103, iV .i64 (((t4255.1).f0).length : Int)), (104, iV .i64 0)], [(37, some (.row 1 3 (t4176.map (encInt .i64)))), (38, some (.map (mE (vkI .i64) bI x4198))), (41, some (.row 1 3 (((t4255.1).f0).map (encInt .i64))))], 0⟩ [((((t4255.1).f0).map (encInt .i64)).length : Int) = (((t4255.1).f0).length : Int)] (by kernel_rfl) ⟨by rw [len_map], trivial⟩ ?_
            refine AWp.block ?_
            obtain ⟨o4295, e4296, H⟩ := bind_of H
            refine AWp.loop (LWp.conv (inv := [(37, 43), (38, 44), (41, 45)]) (vk := []) (e0 := []) (t := ⟨[(0, .im (.row (a0.map epluvialref17_Item))), (7, .own 43), (9, .mown 44), (12, iV .i64 x4219), (15, .im (.row (x4244.map epluvialref17_Item))), (102, .own 45), (103, iV .i64 (((t4255.1).f0).length : Int)), (104, iV .i64 0)], [(43, some (.row 1 3 (t4176.map (encInt .i64)))), (44, some (.map (mE (vkI .i64) bI x4198))), (45, some (.row 1 3 (((t4255.1).f0).map (encInt .i64))))], 0⟩) (by kernel_rfl) ?_)
            refine LWp.mono (Q := fun e s => (match (generalizing := false) o4295 with | .inl rr => e = .ret ∧ s.floor = 0 ∧ resOf Try.prog Try.f3 s = some (bV rr) ∧ ([] : List (Nat × Option MObj)) = [] | .inr _ => e = .exit 6 ∧ s = ⟨[(0, .im (.row (a0.map epluvialref17_Item))), (7, .own 46), (12, iV .i64 x4219), (15, .im (.row (x4244.map epluvialref17_Item)))], [(46, some (.row 1 3 (t4176.map (encInt .i64))))], 0⟩)) (LWp.cv (withBody (fun body hbody => ?_))) ?_
            · refine f_pluviallaw17_PlanBelows.l3.partial_correctness a0 t4176 t4255 x4198 x4219 x4244 (motive := fun x4265 o4295 => LWp Γ body (fun e s => ∃ t, Cv Γ s t ∧ (match (generalizing := false) o4295 with | .inl rr => e = .ret ∧ t.floor = 0 ∧ resOf Try.prog Try.f3 t = some (bV rr) ∧ ([] : List (Nat × Option MObj)) = [] | .inr _ => e = .exit 6 ∧ t = ⟨[(0, .im (.row (a0.map epluvialref17_Item))), (7, .own 46), (12, iV .i64 x4219), (15, .im (.row (x4244.map epluvialref17_Item)))], [(46, some (.row 1 3 (t4176.map (encInt .i64))))], 0⟩)) ⟨[(0, .im (.row (a0.map epluvialref17_Item))), (7, .own 43), (9, .mown 44), (12, iV .i64 x4219), (15, .im (.row (x4244.map epluvialref17_Item))), (102, .own 45), (103, iV .i64 (((t4255.1).f0).length : Int)), (104, iV .i64 x4265)], [(43, some (.row 1 3 (t4176.map (encInt .i64)))), (44, some (.map (mE (vkI .i64) bI x4198))), (45, some (.row 1 3 (((t4255.1).f0).map (encInt .i64))))], 0⟩) ?_ _ _ e4296
              clear H e4296 o4295; intro self ih x4265 o4295 H
              subst hbody
              refine LWp.round ?_
              refine AWp.seq ?_
              refine reg hP hn hm [] [0, 7, 9, 12, 15, 102, 103, 104, 105] [43, 44, 45] ⟨[(0, .im (.row (a0.map epluvialref17_Item))), (7, .own 43), (9, .mown 44), (12, iV .i64 x4219), (15, .im (.row (x4244.map epluvialref17_Item))), (102, .own 45), (103, iV .i64 (((t4255.1).f0).length : Int)), (104, iV .i64 x4265), (105, bV (decide (x4265 < (((t4255.1).f0).length : Int))))], [(43, some (.row 1 3 (t4176.map (encInt .i64)))), (44, some (.map (mE (vkI .i64) bI x4198))), (45, some (.row 1 3 (((t4255.1).f0).map (encInt .i64))))], 0⟩ [] (by kernel_rfl) trivial ?_
              refine AWp.seq ?_
              refine AWp.cond (decide (x4265 < (((t4255.1).f0).length : Int))) rfl (fun c4266 => ?_) (fun c4266 => ?_)
              · replace H := (ifT c4266).symm.trans H
                refine AWp.skip ?_
                refine AWp.seq ?_
                refine AWp.block ?_
                refine AWp.seq ?_
                obtain ⟨b4270, p4271, q4272, H⟩ := at_of H
                refine reg hP hn hm [(1, .c ((encInt .i64) b4270))] [0, 7, 9, 12, 15, 21, 102, 103, 104] [43, 44, 45] ⟨[(0, .im (.row (a0.map epluvialref17_Item))), (7, .own 43), (9, .mown 44), (12, iV .i64 x4219), (15, .im (.row (x4244.map epluvialref17_Item))), (21, iV .i64 b4270), (102, .own 45), (103, iV .i64 (((t4255.1).f0).length : Int)), (104, iV .i64 x4265)], [(43, some (.row 1 3 (t4176.map (encInt .i64)))), (44, some (.map (mE (vkI .i64) bI x4198))), (45, some (.row 1 3 (((t4255.1).f0).map (encInt .i64))))], 0⟩ [0 ≤ x4265, x4265 < (((((t4255.1).f0).map (encInt .i64)).length : Nat) : Int), (((t4255.1).f0).map (encInt .i64))[(Int.toNat (x4265))]? = some ((encInt .i64) b4270)] (by kernel_rfl) ⟨by exact p4271, by exact el_lt (encInt .i64) p4271 q4272, by exact el_map (encInt .i64) q4272, trivial⟩ ?_
                refine AWp.seq ?_
                refine reg hP hn hm [(2, .more (xLook (vkI .i64) bI x4198 b4270 false))] [0, 7, 9, 12, 15, 102, 103, 104, 110] [43, 44, 45] ⟨[(0, .im (.row (a0.map epluvialref17_Item))), (7, .own 43), (9, .mown 44), (12, iV .i64 x4219), (15, .im (.row (x4244.map epluvialref17_Item))), (102, .own 45), (103, iV .i64 (((t4255.1).f0).length : Int)), (104, iV .i64 x4265), (110, bV ((mget x4198 b4270).getD false))], [(43, some (.row 1 3 (t4176.map (encInt .i64)))), (44, some (.map (mE (vkI .i64) bI x4198))), (45, some (.row 1 3 (((t4255.1).f0).map (encInt .i64))))], 0⟩ [KeyOK Try.prog 3 (vkI .i64), mE (vkI .i64) bI x4198 = mE (vkI .i64) bI x4198, valA (iV .i64 b4270) = some ((vkI .i64) b4270), bI false = bI false] (by kernel_rfl) ⟨by exact (key_int (by kernel_rfl)), by exact rfl, by exact rfl, by exact rfl, trivial⟩ ?_
                refine AWp.cond ((mget x4198 b4270).getD false) rfl (fun c4273 => ?_) (fun c4273 => ?_)
                · replace H := (ifT c4273).symm.trans H
                  refine AWp.seq ?_
                  refine reg hP hn hm [] [6] [] ⟨[(6, bV false)], [], 0⟩ [] (by kernel_rfl) trivial ?_
                  refine AWp.conv (inv := []) (vk := []) (e0 := []) (t := ⟨[(6, bV false)], [], 0⟩) (by kernel_rfl) ?_
                  refine AWp.ret ?_
                  obtain rfl := Option.some.inj H
                  exact Exists.intro _ (And.intro (fun _ _ h => h) (And.intro rfl (And.intro rfl (And.intro (by kernel_rfl) (by kernel_rfl)))))
                · replace H := (ifF c4273).symm.trans H
                  refine AWp.skip ?_
                  refine reg hP hn hm [] [0, 7, 9, 12, 15, 102, 103, 104] [43, 44, 45] ⟨[(0, .im (.row (a0.map epluvialref17_Item))), (7, .own 43), (9, .mown 44), (12, iV .i64 x4219), (15, .im (.row (x4244.map epluvialref17_Item))), (102, .own 45), (103, iV .i64 (((t4255.1).f0).length : Int)), (104, iV .i64 (IntKind.i64.wrap (x4265 + (1 : Int))))], [(43, some (.row 1 3 (t4176.map (encInt .i64)))), (44, some (.map (mE (vkI .i64) bI x4198))), (45, some (.row 1 3 (((t4255.1).f0).map (encInt .i64))))], 0⟩ [] (by kernel_rfl) trivial ?_
                  exact LWp.conv (inv := [(43, 43), (44, 44), (45, 45)]) (vk := []) (e0 := []) (t := ⟨[(0, .im (.row (a0.map epluvialref17_Item))), (7, .own 43), (9, .mown 44), (12, iV .i64 x4219), (15, .im (.row (x4244.map epluvialref17_Item))), (102, .own 45), (103, iV .i64 (((t4255.1).f0).length : Int)), (104, iV .i64 (IntKind.i64.wrap (x4265 + (1 : Int))))], [(43, some (.row 1 3 (t4176.map (encInt .i64)))), (44, some (.map (mE (vkI .i64) bI x4198))), (45, some (.row 1 3 (((t4255.1).f0).map (encInt .i64))))], 0⟩) (by kernel_rfl) (ih _ _ H)
              · replace H := (ifF c4266).symm.trans H
                refine AWp.exit ?_
                obtain rfl := Option.some.inj H
                exact Exists.intro _ (And.intro (fun _ _ h => h.conv (inv := [(43, 46)]) (vk := []) (e0 := []) (t := ⟨[(0, .im (.row (a0.map epluvialref17_Item))), (7, .own 46), (12, iV .i64 x4219), (15, .im (.row (x4244.map epluvialref17_Item)))], [(46, some (.row 1 3 (t4176.map (encInt .i64))))], 0⟩) (by kernel_rfl)) (And.intro rfl rfl))
            · rcases o4295 with rr | _
              · skip
                rintro e s ⟨rfl, hfl, hres⟩
                obtain rfl := Option.some.inj H
                exact Exists.intro _ (And.intro (fun _ _ h => h) (And.intro (.inl rfl) (And.intro hfl hres)))
              · skip
                rintro e s ⟨rfl, rfl⟩
                refine AWp.seq ?_
                obtain ⟨o4297, e4298, H⟩ := bind_of H
                refine AWp.mono (Q := fun e s => (match (generalizing := false) o4297 with | x4282 => e = .normal ∧ s = ⟨[(6, bV x4282)], [], 0⟩)) (AWp.cv ?_) ?_
                · replace H := e4298; clear e4298
                  obtain ⟨t4278, e4279, H⟩ := bind_of H
                  rcases Bool.eq_false_or_eq_true t4278 with c4280 | c4280
                  · replace H := (ifT c4280).symm.trans H
                    rcases Bool.eq_false_or_eq_true (x4219 == (t4176.length : Int)) with c4281 | c4281
                    · replace H := (ifT c4281).symm.trans H
                      refine reg hP hn hm [(0, .call [] [] [] [] 0 (bV t4278) []), (1, .b true), (4, .any (iV .i64 (t4176.length : Int))), (7, .b true), (9, .any (iV .i64 (x4244.length : Int))), (11, .any (iV .i64 (t4176.length : Int))), (14, .any (iV .i64 (a0.length : Int)))] [6] [] ⟨[(6, bV ((IntKind.i64.wrap ((x4244.length : Int) + (t4176.length : Int))) == (a0.length : Int)))], [], 0⟩ [Enters Try.prog 13, Pv.Fn Try.prog 13 [] [] 0 (fun r o => r = bV t4278 ∧ o = []), t4278 = true, ((t4176.map (encInt .i64)).length : Int) = (t4176.length : Int), (x4219 == (t4176.length : Int)) = true, ((x4244.map epluvialref17_Item).length : Int) = (x4244.length : Int), ((t4176.map (encInt .i64)).length : Int) = (t4176.length : Int), ((a0.map epluvialref17_Item).length : Int) = (a0.length : Int)] (by kernel_rfl) ⟨by exact Try.call13, by exact f_pluviallaw17_awake.ok  t4278 e4279, by exact c4280, by rw [len_map], by exact c4281, by rw [len_map], by rw [len_map], by rw [len_map], trivial⟩ ?_
                      obtain rfl := Option.some.inj H
                      exact Exists.intro _ (And.intro (fun _ _ h => h.conv (inv := []) (vk := []) (e0 := []) (t := ⟨[(6, bV ((IntKind.i64.wrap ((x4244.length : Int) + (t4176.length : Int))) == (a0.length : Int)))], [], 0⟩) (by kernel_rfl)) (And.intro rfl rfl))
                    · replace H := (ifF c4281).symm.trans H
                      refine reg hP hn hm [(0, .call [] [] [] [] 0 (bV t4278) []), (1, .b true), (4, .any (iV .i64 (t4176.length : Int))), (7, .b false)] [6] [] ⟨[(6, bV false)], [], 0⟩ [Enters Try.prog 13, Pv.Fn Try.prog 13 [] [] 0 (fun r o => r = bV t4278 ∧ o = []), t4278 = true, ((t4176.map (encInt .i64)).length : Int) = (t4176.length : Int), (x4219 == (t4176.length : Int)) = false] (by kernel_rfl) ⟨by exact Try.call13, by exact f_pluviallaw17_awake.ok  t4278 e4279, by exact c4280, by rw [len_map], by exact c4281, trivial⟩ ?_
                      obtain rfl := Option.some.inj H
                      exact Exists.intro _ (And.intro (fun _ _ h => h.conv (inv := []) (vk := []) (e0 := []) (t := ⟨[(6, bV false)], [], 0⟩) (by kernel_rfl)) (And.intro rfl rfl))
                  · replace H := (ifF c4280).symm.trans H
                    refine reg hP hn hm [(0, .call [] [] [] [] 0 (bV t4278) []), (1, .b false)] [6] [] ⟨[(6, bV false)], [], 0⟩ [Enters Try.prog 13, Pv.Fn Try.prog 13 [] [] 0 (fun r o => r = bV t4278 ∧ o = []), t4278 = false] (by kernel_rfl) ⟨by exact Try.call13, by exact f_pluviallaw17_awake.ok  t4278 e4279, by exact c4280, trivial⟩ ?_
                    obtain rfl := Option.some.inj H
                    exact Exists.intro _ (And.intro (fun _ _ h => h.conv (inv := []) (vk := []) (e0 := []) (t := ⟨[(6, bV false)], [], 0⟩) (by kernel_rfl)) (And.intro rfl rfl))
                · obtain ⟨x4282, rfl⟩ : ∃ z, z = o4297 := ⟨_, rfl⟩
                  rintro e s ⟨rfl, rfl⟩
                  refine AWp.conv (inv := []) (vk := []) (e0 := []) (t := ⟨[(6, bV x4282)], [], 0⟩) (by kernel_rfl) ?_
                  refine AWp.ret ?_
                  obtain rfl := Option.some.inj H
                  exact Exists.intro _ (And.intro (fun _ _ h => h) (And.intro (.inl rfl) (And.intro rfl (And.intro (by kernel_rfl) (by kernel_rfl)))))
end Go.Proofs.Ytfkppdcfgmgllaa.PvGD4
