import Derived.Test.YteogljahemehkaaProg
import Derived.Test.YteogljahemehkaaPxRankBelow06
set_option linter.unusedVariables false
set_option linter.unnecessarySimpa false
set_option linter.unusedSimpArgs false
set_option maxRecDepth 10000
namespace Go.Proofs.Yteogljahemehkaa.PvGC
open Go Go.Pv
def f_rank_Order.l0 (a0 : THist) (x1316 : List Trank_Cell) (x1317 : Int) : Option (List Trank_Cell) := if (decide (x1317 ≥ (0 : Int))) = true then ((at? a0.f7 x1317) >>= fun b1323 => (chk ((x1316.length + [(⟨(⟨(-1), a0.f1, b1323.f0⟩ : Tbound_Key), b1323.f1⟩ : Trank_Cell)].length) * 32 ≤ 140737488355328)) >>= fun _ => f_rank_Order.l0 a0 (x1316 ++ [(⟨(⟨(-1), a0.f1, b1323.f0⟩ : Tbound_Key), b1323.f1⟩ : Trank_Cell)]) (IntKind.i64.wrap (x1317 - (1 : Int)))) else (some x1316)
partial_fixpoint
def f_rank_Order.l1 (a0 : THist) (x1341 : List Trank_Cell) (x1342 : Int) : Option (List Trank_Cell) := if (decide (x1342 < (a0.f6.length : Int))) = true then ((at? a0.f6 x1342) >>= fun b1347 => (chk ((x1341.length + [(⟨(⟨1, a0.f1, b1347.f0⟩ : Tbound_Key), b1347.f1⟩ : Trank_Cell)].length) * 32 ≤ 140737488355328)) >>= fun _ => f_rank_Order.l1 a0 (x1341 ++ [(⟨(⟨1, a0.f1, b1347.f0⟩ : Tbound_Key), b1347.f1⟩ : Trank_Cell)]) (IntKind.i64.wrap (x1342 + (1 : Int)))) else (some x1341)
partial_fixpoint
def f_rank_Order.f (a0 : THist) : Option (List Trank_Cell) := (f_rank_Order.l0 a0 [] (IntKind.i64.wrap ((a0.f7.length : Int) - (1 : Int)))) >>= fun x1327 => ((if (decide (a0.f3 > (0 : Int))) = true then ((chk ((x1327.length + [(⟨(⟨0, 0, 0⟩ : Tbound_Key), a0.f3⟩ : Trank_Cell)].length) * 32 ≤ 140737488355328)) >>= fun _ => some (x1327 ++ [(⟨(⟨0, 0, 0⟩ : Tbound_Key), a0.f3⟩ : Trank_Cell)])) else (some x1327)) : Option (List Trank_Cell)) >>= fun x1331 => (f_rank_Order.l1 a0 x1331 0) >>= fun x1352 => some x1352
theorem f_rank_Order.ok (a0 : THist) (r : List Trank_Cell) (H : f_rank_Order.f a0 = some r) : Pv.Fn Try.prog 21 [.agg (aHist a0)] [] 0 (fun x o => x = .own 0 ∧ o = [(0, some (.row 4 47 (r.map erank_Cell)))]) := by
  unfold f_rank_Order.f at H
  refine Fn.bodyK [0] Try.func21 rfl rfl (fun Γ hP hn => ?_)
  have hm : Try.prog.follows .mixedOrders = true := by kernel_rfl
  replace hn : Γ.n = 64 := hn
  refine AWp.seq ?_
  refine reg hP hn hm [(0, .k 0)] [1] [0] ⟨[(1, .ptr 0 0 0)], [(0, some (.box 35 (aHist a0)))], 0⟩ [] (by kernel_rfl) trivial ?_
  refine AWp.seq ?_
  refine reg hP hn hm [] [1, 3] [0] ⟨[(1, .ptr 0 0 0), (3, .none0)], [(0, some (.box 35 (aHist a0)))], 0⟩ [] (by kernel_rfl) trivial ?_
  refine AWp.seq ?_
  refine AWp.seq ?_
  refine reg hP hn hm [(2, .any (iV .i64 (a0.f7.length : Int)))] [1, 3, 4] [0] ⟨[(1, .ptr 0 0 0), (3, .none0), (4, iV .i64 (IntKind.i64.wrap ((a0.f7.length : Int) - (1 : Int))))], [(0, some (.box 35 (aHist a0)))], 0⟩ [((a0.f7.map eBucket).length : Int) = (a0.f7.length : Int)] (by kernel_rfl) ⟨by rw [len_map], trivial⟩ ?_
  refine AWp.block ?_
  obtain ⟨o1353, e1354, H⟩ := bind_of H
  refine AWp.loop (LWp.conv (inv := [(0, 3)]) (vk := []) (e0 := [4]) (t := ⟨[(1, .ptr 3 0 0), (3, .own 4), (4, iV .i64 (IntKind.i64.wrap ((a0.f7.length : Int) - (1 : Int))))], [(3, some (.box 35 (aHist a0))), (4, some (.row 4 47 ([].map erank_Cell)))], 0⟩) (by kernel_rfl) ?_)
  refine LWp.mono (Q := fun e s => (match (generalizing := false) o1353 with | x1327 => e = .exit 0 ∧ s = ⟨[(1, .ptr 7 0 0), (3, .own 8)], [(7, some (.box 35 (aHist a0))), (8, some (.row 4 47 (x1327.map erank_Cell)))], 0⟩)) (LWp.cv (withBody (fun body hbody => ?_))) ?_
  · refine f_rank_Order.l0.partial_correctness a0 (motive := fun x1316 x1317 o1353 => LWp Γ body (fun e s => ∃ t, Cv Γ s t ∧ (match (generalizing := false) o1353 with | x1327 => e = .exit 0 ∧ t = ⟨[(1, .ptr 7 0 0), (3, .own 8)], [(7, some (.box 35 (aHist a0))), (8, some (.row 4 47 (x1327.map erank_Cell)))], 0⟩)) ⟨[(1, .ptr 3 0 0), (3, .own 4), (4, iV .i64 x1317)], [(3, some (.box 35 (aHist a0))), (4, some (.row 4 47 (x1316.map erank_Cell)))], 0⟩) ?_ _ _ _ e1354
    clear H e1354 o1353; intro self ih x1316 x1317 o1353 H
    subst hbody
    refine LWp.round ?_
    refine AWp.seq ?_
    refine AWp.seq ?_
    refine reg hP hn hm [] [1, 3, 4, 12] [3, 4] ⟨[(1, .ptr 3 0 0), (3, .own 4), (4, iV .i64 x1317), (12, bV (decide (x1317 ≥ (0 : Int))))], [(3, some (.box 35 (aHist a0))), (4, some (.row 4 47 (x1316.map erank_Cell)))], 0⟩ [] (by kernel_rfl) trivial ?_
    refine AWp.cond (decide (x1317 ≥ (0 : Int))) rfl (fun c1318 => ?_) (fun c1318 => ?_)
    · replace H := (ifT c1318).symm.trans H
      refine AWp.skip ?_
      refine AWp.seq ?_
      refine AWp.block ?_
      obtain ⟨b1323, p1324, q1325, H⟩ := at_of H
      obtain ⟨c1326, H⟩ := chk_of H
      refine reg hP hn hm [(6, .c (eBucket b1323)), (13, .c (eBucket b1323)), (17, .app 5 ([(⟨(⟨(-1), a0.f1, b1323.f0⟩ : Tbound_Key), b1323.f1⟩ : Trank_Cell)].map erank_Cell)), (18, .app 6 ((x1316 ++ [(⟨(⟨(-1), a0.f1, b1323.f0⟩ : Tbound_Key), b1323.f1⟩ : Trank_Cell)]).map erank_Cell))] [1, 3, 4] [3, 6] ⟨[(1, .ptr 3 0 0), (3, .own 6), (4, iV .i64 x1317)], [(3, some (.box 35 (aHist a0))), (6, some (.row 4 47 ((x1316 ++ [(⟨(⟨(-1), a0.f1, b1323.f0⟩ : Tbound_Key), b1323.f1⟩ : Trank_Cell)]).map erank_Cell)))], 0⟩ [0 ≤ x1317, (a0.f7.map eBucket)[(Int.toNat (x1317))]? = some (eBucket b1323), 0 ≤ x1317, (a0.f7.map eBucket)[(Int.toNat (x1317))]? = some (eBucket b1323), [(⟨(⟨(-1), a0.f1, b1323.f0⟩ : Tbound_Key), b1323.f1⟩ : Trank_Cell)].map erank_Cell = [[iI .i64 (-1), iI .i64 a0.f1, iI .i64 b1323.f0, iI .u64 b1323.f1]], (x1316 ++ [(⟨(⟨(-1), a0.f1, b1323.f0⟩ : Tbound_Key), b1323.f1⟩ : Trank_Cell)]).map erank_Cell = (x1316.map erank_Cell) ++ ([(⟨(⟨(-1), a0.f1, b1323.f0⟩ : Tbound_Key), b1323.f1⟩ : Trank_Cell)].map erank_Cell), ∀ c ∈ ([(⟨(⟨(-1), a0.f1, b1323.f0⟩ : Tbound_Key), b1323.f1⟩ : Trank_Cell)].map erank_Cell), c.length = 4, ∀ c ∈ ([(⟨(⟨(-1), a0.f1, b1323.f0⟩ : Tbound_Key), b1323.f1⟩ : Trank_Cell)].map erank_Cell), leaves (c.map .im) = true, ((x1316.map erank_Cell).length + ([(⟨(⟨(-1), a0.f1, b1323.f0⟩ : Tbound_Key), b1323.f1⟩ : Trank_Cell)].map erank_Cell).length) * 32 ≤ 140737488355328] (by kernel_rfl) ⟨by exact p1324, by exact el_map eBucket q1325, by exact p1324, by exact el_map eBucket q1325, by exact rfl, by simp, by exact all_len _ _ _ (fun _ => rfl), by exact all_leaf _ _ (fun _ => rfl), by simpa using c1326, trivial⟩ ?_
      refine reg hP hn hm [] [1, 3, 4] [3, 6] ⟨[(1, .ptr 3 0 0), (3, .own 6), (4, iV .i64 (IntKind.i64.wrap (x1317 - (1 : Int))))], [(3, some (.box 35 (aHist a0))), (6, some (.row 4 47 ((x1316 ++ [(⟨(⟨(-1), a0.f1, b1323.f0⟩ : Tbound_Key), b1323.f1⟩ : Trank_Cell)]).map erank_Cell)))], 0⟩ [] (by kernel_rfl) trivial ?_
      exact LWp.conv (inv := [(3, 3), (6, 4)]) (vk := []) (e0 := []) (t := ⟨[(1, .ptr 3 0 0), (3, .own 4), (4, iV .i64 (IntKind.i64.wrap (x1317 - (1 : Int))))], [(3, some (.box 35 (aHist a0))), (4, some (.row 4 47 ((x1316 ++ [(⟨(⟨(-1), a0.f1, b1323.f0⟩ : Tbound_Key), b1323.f1⟩ : Trank_Cell)]).map erank_Cell)))], 0⟩) (by kernel_rfl) (ih _ _ _ H)
    · replace H := (ifF c1318).symm.trans H
      refine AWp.exit ?_
      obtain rfl := Option.some.inj H
      exact Exists.intro _ (And.intro (fun _ _ h => h.conv (inv := [(3, 7), (4, 8)]) (vk := []) (e0 := []) (t := ⟨[(1, .ptr 7 0 0), (3, .own 8)], [(7, some (.box 35 (aHist a0))), (8, some (.row 4 47 (x1316.map erank_Cell)))], 0⟩) (by kernel_rfl)) (And.intro rfl rfl))
  · obtain ⟨x1327, rfl⟩ : ∃ z, z = o1353 := ⟨_, rfl⟩
    rintro e s ⟨rfl, rfl⟩
    refine AWp.seq ?_
    refine AWp.seq ?_
    refine reg hP hn hm [] [1, 3, 36] [7, 8] ⟨[(1, .ptr 7 0 0), (3, .own 8), (36, bV (decide (a0.f3 > (0 : Int))))], [(7, some (.box 35 (aHist a0))), (8, some (.row 4 47 (x1327.map erank_Cell)))], 0⟩ [] (by kernel_rfl) trivial ?_
    obtain ⟨o1355, e1356, H⟩ := bind_of H
    refine AWp.mono (Q := fun e s => (match (generalizing := false) o1355 with | x1331 => e = .normal ∧ s = ⟨[(1, .ptr 11 0 0), (3, .own 12)], [(11, some (.box 35 (aHist a0))), (12, some (.row 4 47 (x1331.map erank_Cell)))], 0⟩)) (AWp.cv ?_) ?_
    · replace H := e1356; clear e1356
      refine AWp.cond (decide (a0.f3 > (0 : Int))) rfl (fun c1328 => ?_) (fun c1328 => ?_)
      · replace H := (ifT c1328).symm.trans H
        obtain ⟨c1330, H⟩ := chk_of H
        refine reg hP hn hm [(5, .app 9 ([(⟨(⟨0, 0, 0⟩ : Tbound_Key), a0.f3⟩ : Trank_Cell)].map erank_Cell)), (6, .app 10 ((x1327 ++ [(⟨(⟨0, 0, 0⟩ : Tbound_Key), a0.f3⟩ : Trank_Cell)]).map erank_Cell))] [1, 3] [7, 10] ⟨[(1, .ptr 7 0 0), (3, .own 10)], [(7, some (.box 35 (aHist a0))), (10, some (.row 4 47 ((x1327 ++ [(⟨(⟨0, 0, 0⟩ : Tbound_Key), a0.f3⟩ : Trank_Cell)]).map erank_Cell)))], 0⟩ [[(⟨(⟨0, 0, 0⟩ : Tbound_Key), a0.f3⟩ : Trank_Cell)].map erank_Cell = [[iI .i64 0, iI .i64 0, iI .i64 0, iI .u64 a0.f3]], (x1327 ++ [(⟨(⟨0, 0, 0⟩ : Tbound_Key), a0.f3⟩ : Trank_Cell)]).map erank_Cell = (x1327.map erank_Cell) ++ ([(⟨(⟨0, 0, 0⟩ : Tbound_Key), a0.f3⟩ : Trank_Cell)].map erank_Cell), ∀ c ∈ ([(⟨(⟨0, 0, 0⟩ : Tbound_Key), a0.f3⟩ : Trank_Cell)].map erank_Cell), c.length = 4, ∀ c ∈ ([(⟨(⟨0, 0, 0⟩ : Tbound_Key), a0.f3⟩ : Trank_Cell)].map erank_Cell), leaves (c.map .im) = true, ((x1327.map erank_Cell).length + ([(⟨(⟨0, 0, 0⟩ : Tbound_Key), a0.f3⟩ : Trank_Cell)].map erank_Cell).length) * 32 ≤ 140737488355328] (by kernel_rfl) ⟨by exact rfl, by simp, by exact all_len _ _ _ (fun _ => rfl), by exact all_leaf _ _ (fun _ => rfl), by simpa using c1330, trivial⟩ ?_
        obtain rfl := Option.some.inj H
        exact Exists.intro _ (And.intro (fun _ _ h => h.conv (inv := [(7, 11), (10, 12)]) (vk := []) (e0 := []) (t := ⟨[(1, .ptr 11 0 0), (3, .own 12)], [(11, some (.box 35 (aHist a0))), (12, some (.row 4 47 ((x1327 ++ [(⟨(⟨0, 0, 0⟩ : Tbound_Key), a0.f3⟩ : Trank_Cell)]).map erank_Cell)))], 0⟩) (by kernel_rfl)) (And.intro rfl rfl))
      · replace H := (ifF c1328).symm.trans H
        refine AWp.skip ?_
        obtain rfl := Option.some.inj H
        exact Exists.intro _ (And.intro (fun _ _ h => h.conv (inv := [(7, 11), (8, 12)]) (vk := []) (e0 := []) (t := ⟨[(1, .ptr 11 0 0), (3, .own 12)], [(11, some (.box 35 (aHist a0))), (12, some (.row 4 47 (x1327.map erank_Cell)))], 0⟩) (by kernel_rfl)) (And.intro rfl rfl))
    · obtain ⟨x1331, rfl⟩ : ∃ z, z = o1355 := ⟨_, rfl⟩
      rintro e s ⟨rfl, rfl⟩
      refine AWp.seq ?_
      refine AWp.seq ?_
      refine reg hP hn hm [(2, .any (iV .i64 (a0.f6.length : Int)))] [1, 3, 45, 46, 47] [11, 12] ⟨[(1, .ptr 11 0 0), (3, .own 12), (45, .im (.row (a0.f6.map eBucket))), (46, iV .i64 (a0.f6.length : Int)), (47, iV .i64 0)], [(11, some (.box 35 (aHist a0))), (12, some (.row 4 47 (x1331.map erank_Cell)))], 0⟩ [((a0.f6.map eBucket).length : Int) = (a0.f6.length : Int)] (by kernel_rfl) ⟨by rw [len_map], trivial⟩ ?_
      refine AWp.block ?_
      obtain ⟨o1357, e1358, H⟩ := bind_of H
      refine AWp.loop (LWp.conv (inv := [(11, 16), (12, 17)]) (vk := []) (e0 := []) (t := ⟨[(1, .ptr 16 0 0), (3, .own 17), (45, .im (.row (a0.f6.map eBucket))), (46, iV .i64 (a0.f6.length : Int)), (47, iV .i64 0)], [(16, some (.box 35 (aHist a0))), (17, some (.row 4 47 (x1331.map erank_Cell)))], 0⟩) (by kernel_rfl) ?_)
      refine LWp.mono (Q := fun e s => (match (generalizing := false) o1357 with | x1352 => e = .exit 2 ∧ s = ⟨[(3, .own 21)], [(21, some (.row 4 47 (x1352.map erank_Cell)))], 0⟩)) (LWp.cv (withBody (fun body hbody => ?_))) ?_
      · refine f_rank_Order.l1.partial_correctness a0 (motive := fun x1341 x1342 o1357 => LWp Γ body (fun e s => ∃ t, Cv Γ s t ∧ (match (generalizing := false) o1357 with | x1352 => e = .exit 2 ∧ t = ⟨[(3, .own 21)], [(21, some (.row 4 47 (x1352.map erank_Cell)))], 0⟩)) ⟨[(1, .ptr 16 0 0), (3, .own 17), (45, .im (.row (a0.f6.map eBucket))), (46, iV .i64 (a0.f6.length : Int)), (47, iV .i64 x1342)], [(16, some (.box 35 (aHist a0))), (17, some (.row 4 47 (x1341.map erank_Cell)))], 0⟩) ?_ _ _ _ e1358
        clear H e1358 o1357; intro self ih x1341 x1342 o1357 H
        subst hbody
        refine LWp.round ?_
        refine AWp.seq ?_
        refine reg hP hn hm [] [1, 3, 45, 46, 47, 48] [16, 17] ⟨[(1, .ptr 16 0 0), (3, .own 17), (45, .im (.row (a0.f6.map eBucket))), (46, iV .i64 (a0.f6.length : Int)), (47, iV .i64 x1342), (48, bV (decide (x1342 < (a0.f6.length : Int))))], [(16, some (.box 35 (aHist a0))), (17, some (.row 4 47 (x1341.map erank_Cell)))], 0⟩ [] (by kernel_rfl) trivial ?_
        refine AWp.seq ?_
        refine AWp.cond (decide (x1342 < (a0.f6.length : Int))) rfl (fun c1343 => ?_) (fun c1343 => ?_)
        · replace H := (ifT c1343).symm.trans H
          refine AWp.skip ?_
          refine AWp.seq ?_
          refine AWp.block ?_
          refine AWp.seq ?_
          obtain ⟨b1347, p1348, q1349, H⟩ := at_of H
          refine reg hP hn hm [(0, .c (eBucket b1347)), (2, .k 18)] [1, 3, 6, 45, 46, 47] [16, 17, 18] ⟨[(1, .ptr 16 0 0), (3, .own 17), (6, .ptr 18 0 0), (45, .im (.row (a0.f6.map eBucket))), (46, iV .i64 (a0.f6.length : Int)), (47, iV .i64 x1342)], [(16, some (.box 35 (aHist a0))), (17, some (.row 4 47 (x1341.map erank_Cell))), (18, some (.box 127 (aBucket b1347)))], 0⟩ [0 ≤ x1342, (a0.f6.map eBucket)[(Int.toNat (x1342))]? = some (eBucket b1347)] (by kernel_rfl) ⟨by exact p1348, by exact el_map eBucket q1349, trivial⟩ ?_
          obtain ⟨c1351, H⟩ := chk_of H
          refine reg hP hn hm [(9, .app 19 ([(⟨(⟨1, a0.f1, b1347.f0⟩ : Tbound_Key), b1347.f1⟩ : Trank_Cell)].map erank_Cell)), (10, .app 20 ((x1341 ++ [(⟨(⟨1, a0.f1, b1347.f0⟩ : Tbound_Key), b1347.f1⟩ : Trank_Cell)]).map erank_Cell))] [1, 3, 45, 46, 47] [16, 20] ⟨[(1, .ptr 16 0 0), (3, .own 20), (45, .im (.row (a0.f6.map eBucket))), (46, iV .i64 (a0.f6.length : Int)), (47, iV .i64 x1342)], [(16, some (.box 35 (aHist a0))), (20, some (.row 4 47 ((x1341 ++ [(⟨(⟨1, a0.f1, b1347.f0⟩ : Tbound_Key), b1347.f1⟩ : Trank_Cell)]).map erank_Cell)))], 0⟩ [[(⟨(⟨1, a0.f1, b1347.f0⟩ : Tbound_Key), b1347.f1⟩ : Trank_Cell)].map erank_Cell = [[iI .i64 1, iI .i64 a0.f1, iI .i64 b1347.f0, iI .u64 b1347.f1]], (x1341 ++ [(⟨(⟨1, a0.f1, b1347.f0⟩ : Tbound_Key), b1347.f1⟩ : Trank_Cell)]).map erank_Cell = (x1341.map erank_Cell) ++ ([(⟨(⟨1, a0.f1, b1347.f0⟩ : Tbound_Key), b1347.f1⟩ : Trank_Cell)].map erank_Cell), ∀ c ∈ ([(⟨(⟨1, a0.f1, b1347.f0⟩ : Tbound_Key), b1347.f1⟩ : Trank_Cell)].map erank_Cell), c.length = 4, ∀ c ∈ ([(⟨(⟨1, a0.f1, b1347.f0⟩ : Tbound_Key), b1347.f1⟩ : Trank_Cell)].map erank_Cell), leaves (c.map .im) = true, ((x1341.map erank_Cell).length + ([(⟨(⟨1, a0.f1, b1347.f0⟩ : Tbound_Key), b1347.f1⟩ : Trank_Cell)].map erank_Cell).length) * 32 ≤ 140737488355328] (by kernel_rfl) ⟨by exact rfl, by simp, by exact all_len _ _ _ (fun _ => rfl), by exact all_leaf _ _ (fun _ => rfl), by simpa using c1351, trivial⟩ ?_
          refine reg hP hn hm [] [1, 3, 45, 46, 47] [16, 20] ⟨[(1, .ptr 16 0 0), (3, .own 20), (45, .im (.row (a0.f6.map eBucket))), (46, iV .i64 (a0.f6.length : Int)), (47, iV .i64 (IntKind.i64.wrap (x1342 + (1 : Int))))], [(16, some (.box 35 (aHist a0))), (20, some (.row 4 47 ((x1341 ++ [(⟨(⟨1, a0.f1, b1347.f0⟩ : Tbound_Key), b1347.f1⟩ : Trank_Cell)]).map erank_Cell)))], 0⟩ [] (by kernel_rfl) trivial ?_
          exact LWp.conv (inv := [(16, 16), (20, 17)]) (vk := []) (e0 := []) (t := ⟨[(1, .ptr 16 0 0), (3, .own 17), (45, .im (.row (a0.f6.map eBucket))), (46, iV .i64 (a0.f6.length : Int)), (47, iV .i64 (IntKind.i64.wrap (x1342 + (1 : Int))))], [(16, some (.box 35 (aHist a0))), (17, some (.row 4 47 ((x1341 ++ [(⟨(⟨1, a0.f1, b1347.f0⟩ : Tbound_Key), b1347.f1⟩ : Trank_Cell)]).map erank_Cell)))], 0⟩) (by kernel_rfl) (ih _ _ _ H)
        · replace H := (ifF c1343).symm.trans H
          refine AWp.exit ?_
          obtain rfl := Option.some.inj H
          exact Exists.intro _ (And.intro (fun _ _ h => h.conv (inv := [(17, 21)]) (vk := []) (e0 := []) (t := ⟨[(3, .own 21)], [(21, some (.row 4 47 (x1341.map erank_Cell)))], 0⟩) (by kernel_rfl)) (And.intro rfl rfl))
      · obtain ⟨x1352, rfl⟩ : ∃ z, z = o1357 := ⟨_, rfl⟩
        rintro e s ⟨rfl, rfl⟩
        refine AWp.seq ?_
        refine reg hP hn hm [] [2] [21] ⟨[(2, .own 21)], [(21, some (.row 4 47 (x1352.map erank_Cell)))], 0⟩ [] (by kernel_rfl) trivial ?_
        refine AWp.conv (inv := [(21, 0)]) (vk := []) (e0 := []) (t := ⟨[(2, .own 0)], [(0, some (.row 4 47 (x1352.map erank_Cell)))], 0⟩) (by kernel_rfl) ?_
        refine AWp.ret ?_
        obtain rfl := Option.some.inj H
        exact Exists.intro _ (And.intro (fun _ _ h => h) (And.intro (.inl rfl) (And.intro rfl (And.intro (by kernel_rfl) (by kernel_rfl)))))
def f_rank_At.l0 (t1361 : List Trank_Cell) (x1371 : Int) (x1372 : Int) : Option ((Tbound_Key × Int) ⊕ Unit) := if (decide (x1372 < (t1361.length : Int))) = true then ((at? t1361 x1372) >>= fun b1377 => if (decide (x1371 ≤ b1377.f1)) = true then (some (.inl (b1377.f0, 0))) else (f_rank_At.l0 t1361 (IntKind.u64.wrap (x1371 - b1377.f1)) (IntKind.i64.wrap (x1372 + (1 : Int))))) else (some (.inr ()))
partial_fixpoint
def f_rank_At.f (a0 : THist) (a1 : Int) : Option (Tbound_Key × Int) := if (a0.f4 == (0 : Int)) = true then (some ((⟨0, 0, 0⟩ : Tbound_Key), 30)) else (((if (decide (a1 < (1 : Int))) = true then (some true) else (some (decide (a1 > a0.f4)))) : Option (Bool)) >>= fun x1305 => if x1305 = true then (some ((⟨0, 0, 0⟩ : Tbound_Key), 4)) else ((f_rank_Order.f a0) >>= fun t1361 => (f_rank_At.l0 t1361 a1 0) >>= fun oo => match oo with | .inl rr => (some rr) | .inr _ => (some ((⟨0, 0, 0⟩ : Tbound_Key), 4))))
theorem f_rank_At.ok (a0 : THist) (a1 : Int) (r : Tbound_Key × Int) (H : f_rank_At.f a0 a1 = some r) : Pv.Fn Try.prog 22 [.agg (aHist a0), iV .u64 a1] [] 0 (fun x o => x = .tup [.agg (abound_Key (r.1)), iV .i64 r.2] ∧ o = []) := by
  unfold f_rank_At.f at H
  refine Fn.bodyK [] Try.func22 rfl rfl (fun Γ hP hn => ?_)
  have hm : Try.prog.follows .mixedOrders = true := by kernel_rfl
  replace hn : Γ.n = 42 := hn
  refine AWp.seq ?_
  refine reg hP hn hm [(0, .k 0), (1, .k 1)] [1, 2, 4] [0, 1] ⟨[(1, iV .u64 a1), (2, .ptr 0 0 0), (4, .ptr 1 0 0)], [(0, some (.box 35 (aHist a0))), (1, some (.box 45 (abound_Key ⟨0, 0, 0⟩)))], 0⟩ [] (by kernel_rfl) trivial ?_
  refine AWp.seq ?_
  refine AWp.block ?_
  refine AWp.seq ?_
  refine reg hP hn hm [] [1, 2, 4, 8] [0, 1] ⟨[(1, iV .u64 a1), (2, .ptr 0 0 0), (4, .ptr 1 0 0), (8, bV (a0.f4 == (0 : Int)))], [(0, some (.box 35 (aHist a0))), (1, some (.box 45 (abound_Key ⟨0, 0, 0⟩)))], 0⟩ [] (by kernel_rfl) trivial ?_
  refine AWp.cond (a0.f4 == (0 : Int)) rfl (fun c1302 => ?_) (fun c1302 => ?_)
  · replace H := (ifT c1302).symm.trans H
    refine AWp.seq ?_
    refine reg hP hn hm [] [4, 5] [1] ⟨[(4, .ptr 1 0 0), (5, iV .i64 30)], [(1, some (.box 45 (abound_Key ⟨0, 0, 0⟩)))], 0⟩ [] (by kernel_rfl) trivial ?_
    refine AWp.conv (inv := [(1, 0)]) (vk := []) (e0 := []) (t := ⟨[(4, .ptr 0 0 0), (5, iV .i64 30)], [(0, some (.box 45 (abound_Key ((⟨0, 0, 0⟩ : Tbound_Key)))))], 0⟩) (by kernel_rfl) ?_
    refine AWp.ret ?_
    obtain rfl := Option.some.inj H
    exact Exists.intro _ (And.intro (fun _ _ h => h) (And.intro (.inl rfl) (And.intro rfl (And.intro (by kernel_rfl) (by kernel_rfl)))))
  · replace H := (ifF c1302).symm.trans H
    refine AWp.seq ?_
    obtain ⟨o1381, e1382, H⟩ := bind_of H
    refine AWp.mono (Q := fun e s => (match (generalizing := false) o1381 with | x1305 => e = .normal ∧ s = ⟨[(1, iV .u64 a1), (2, .ptr 2 0 0), (4, .ptr 3 0 0), (13, bV x1305)], [(2, some (.box 35 (aHist a0))), (3, some (.box 45 (abound_Key ⟨0, 0, 0⟩)))], 0⟩)) (AWp.cv ?_) ?_
    · replace H := e1382; clear e1382
      rcases Bool.eq_false_or_eq_true (decide (a1 < (1 : Int))) with c1304 | c1304
      · replace H := (ifT c1304).symm.trans H
        refine reg hP hn hm [(2, .b true)] [1, 2, 4, 13] [0, 1] ⟨[(1, iV .u64 a1), (2, .ptr 0 0 0), (4, .ptr 1 0 0), (13, bV true)], [(0, some (.box 35 (aHist a0))), (1, some (.box 45 (abound_Key ⟨0, 0, 0⟩)))], 0⟩ [(decide (a1 < (1 : Int))) = true] (by kernel_rfl) ⟨by exact c1304, trivial⟩ ?_
        obtain rfl := Option.some.inj H
        exact Exists.intro _ (And.intro (fun _ _ h => h.conv (inv := [(0, 2), (1, 3)]) (vk := []) (e0 := []) (t := ⟨[(1, iV .u64 a1), (2, .ptr 2 0 0), (4, .ptr 3 0 0), (13, bV true)], [(2, some (.box 35 (aHist a0))), (3, some (.box 45 (abound_Key ⟨0, 0, 0⟩)))], 0⟩) (by kernel_rfl)) (And.intro rfl rfl))
      · replace H := (ifF c1304).symm.trans H
        refine reg hP hn hm [(2, .b false)] [1, 2, 4, 13] [0, 1] ⟨[(1, iV .u64 a1), (2, .ptr 0 0 0), (4, .ptr 1 0 0), (13, bV (decide (a1 > a0.f4)))], [(0, some (.box 35 (aHist a0))), (1, some (.box 45 (abound_Key ⟨0, 0, 0⟩)))], 0⟩ [(decide (a1 < (1 : Int))) = false] (by kernel_rfl) ⟨by exact c1304, trivial⟩ ?_
        obtain rfl := Option.some.inj H
        exact Exists.intro _ (And.intro (fun _ _ h => h.conv (inv := [(0, 2), (1, 3)]) (vk := []) (e0 := []) (t := ⟨[(1, iV .u64 a1), (2, .ptr 2 0 0), (4, .ptr 3 0 0), (13, bV (decide (a1 > a0.f4)))], [(2, some (.box 35 (aHist a0))), (3, some (.box 45 (abound_Key ⟨0, 0, 0⟩)))], 0⟩) (by kernel_rfl)) (And.intro rfl rfl))
    · obtain ⟨x1305, rfl⟩ : ∃ z, z = o1381 := ⟨_, rfl⟩
      rintro e s ⟨rfl, rfl⟩
      refine AWp.cond x1305 rfl (fun c1306 => ?_) (fun c1306 => ?_)
      · replace H := (ifT c1306).symm.trans H
        refine AWp.seq ?_
        refine reg hP hn hm [] [4, 5] [3] ⟨[(4, .ptr 3 0 0), (5, iV .i64 4)], [(3, some (.box 45 (abound_Key ⟨0, 0, 0⟩)))], 0⟩ [] (by kernel_rfl) trivial ?_
        refine AWp.conv (inv := [(3, 0)]) (vk := []) (e0 := []) (t := ⟨[(4, .ptr 0 0 0), (5, iV .i64 4)], [(0, some (.box 45 (abound_Key ((⟨0, 0, 0⟩ : Tbound_Key)))))], 0⟩) (by kernel_rfl) ?_
        refine AWp.ret ?_
        obtain rfl := Option.some.inj H
        exact Exists.intro _ (And.intro (fun _ _ h => h) (And.intro (.inl rfl) (And.intro rfl (And.intro (by kernel_rfl) (by kernel_rfl)))))
      · replace H := (ifF c1306).symm.trans H
        refine AWp.skip ?_
        refine AWp.seq ?_
        refine AWp.seq ?_
        obtain ⟨t1361, e1362, H⟩ := bind_of H
        refine reg hP hn hm [(1, .call [] [(0, 4)] [] [4] 0 (.own 0) [(0, some (.row 4 47 (t1361.map erank_Cell)))]), (2, .any (iV .i64 (t1361.length : Int)))] [1, 4, 24, 25, 26] [3, 4] ⟨[(1, iV .u64 a1), (4, .ptr 3 0 0), (24, .own 4), (25, iV .i64 (t1361.length : Int)), (26, iV .i64 0)], [(3, some (.box 45 (abound_Key ⟨0, 0, 0⟩))), (4, some (.row 4 47 (t1361.map erank_Cell)))], 0⟩ [Enters Try.prog 21, Pv.Fn Try.prog 21 [.agg (aHist a0)] [] 0 (fun r o => r = .own 0 ∧ o = [(0, some (.row 4 47 (t1361.map erank_Cell)))]), ((t1361.map erank_Cell).length : Int) = (t1361.length : Int)] (by kernel_rfl) ⟨by exact Try.call21, by exact f_rank_Order.ok a0 t1361 e1362, by rw [len_map], trivial⟩ ?_
        refine AWp.block ?_
        obtain ⟨o1383, e1384, H⟩ := bind_of H
        refine AWp.loop (LWp.conv (inv := [(3, 6), (4, 7)]) (vk := []) (e0 := []) (t := ⟨[(1, iV .u64 a1), (4, .ptr 6 0 0), (24, .own 7), (25, iV .i64 (t1361.length : Int)), (26, iV .i64 0)], [(6, some (.box 45 (abound_Key ⟨0, 0, 0⟩))), (7, some (.row 4 47 (t1361.map erank_Cell)))], 0⟩) (by kernel_rfl) ?_)
        refine LWp.mono (Q := fun e s => (match (generalizing := false) o1383 with | .inl rr => e = .ret ∧ s.floor = 0 ∧ resOf Try.prog Try.f22 s = some (.tup [.agg (abound_Key (rr.1)), iV .i64 rr.2]) ∧ ([] : List (Nat × Option MObj)) = [] | .inr _ => e = .exit 1 ∧ s = ⟨[(4, .ptr 9 0 0)], [(9, some (.box 45 (abound_Key ⟨0, 0, 0⟩)))], 0⟩)) (LWp.cv (withBody (fun body hbody => ?_))) ?_
        · refine f_rank_At.l0.partial_correctness t1361 (motive := fun x1371 x1372 o1383 => LWp Γ body (fun e s => ∃ t, Cv Γ s t ∧ (match (generalizing := false) o1383 with | .inl rr => e = .ret ∧ t.floor = 0 ∧ resOf Try.prog Try.f22 t = some (.tup [.agg (abound_Key (rr.1)), iV .i64 rr.2]) ∧ ([] : List (Nat × Option MObj)) = [] | .inr _ => e = .exit 1 ∧ t = ⟨[(4, .ptr 9 0 0)], [(9, some (.box 45 (abound_Key ⟨0, 0, 0⟩)))], 0⟩)) ⟨[(1, iV .u64 x1371), (4, .ptr 6 0 0), (24, .own 7), (25, iV .i64 (t1361.length : Int)), (26, iV .i64 x1372)], [(6, some (.box 45 (abound_Key ⟨0, 0, 0⟩))), (7, some (.row 4 47 (t1361.map erank_Cell)))], 0⟩) ?_ _ _ _ e1384
          clear H e1384 o1383; intro self ih x1371 x1372 o1383 H
          subst hbody
          refine LWp.round ?_
          refine AWp.seq ?_
          refine reg hP hn hm [] [1, 4, 24, 25, 26, 27] [6, 7] ⟨[(1, iV .u64 x1371), (4, .ptr 6 0 0), (24, .own 7), (25, iV .i64 (t1361.length : Int)), (26, iV .i64 x1372), (27, bV (decide (x1372 < (t1361.length : Int))))], [(6, some (.box 45 (abound_Key ⟨0, 0, 0⟩))), (7, some (.row 4 47 (t1361.map erank_Cell)))], 0⟩ [] (by kernel_rfl) trivial ?_
          refine AWp.seq ?_
          refine AWp.cond (decide (x1372 < (t1361.length : Int))) rfl (fun c1373 => ?_) (fun c1373 => ?_)
          · replace H := (ifT c1373).symm.trans H
            refine AWp.skip ?_
            refine AWp.seq ?_
            refine AWp.block ?_
            refine AWp.seq ?_
            obtain ⟨b1377, p1378, q1379, H⟩ := at_of H
            refine reg hP hn hm [(1, .c (erank_Cell b1377)), (2, .k 8)] [1, 4, 7, 24, 25, 26] [6, 7, 8] ⟨[(1, iV .u64 x1371), (4, .ptr 6 0 0), (7, .ptr 8 0 0), (24, .own 7), (25, iV .i64 (t1361.length : Int)), (26, iV .i64 x1372)], [(6, some (.box 45 (abound_Key ⟨0, 0, 0⟩))), (7, some (.row 4 47 (t1361.map erank_Cell))), (8, some (.box 47 [iV .i64 b1377.f0.f0, iV .i64 b1377.f0.f1, iV .i64 b1377.f0.f2, iV .u64 b1377.f1]))], 0⟩ [0 ≤ x1372, x1372 < (((t1361.map erank_Cell).length : Nat) : Int), (t1361.map erank_Cell)[(Int.toNat (x1372))]? = some (erank_Cell b1377)] (by kernel_rfl) ⟨by exact p1378, by exact el_lt erank_Cell p1378 q1379, by exact el_map erank_Cell q1379, trivial⟩ ?_
            refine AWp.seq ?_
            refine AWp.seq ?_
            refine reg hP hn hm [] [1, 4, 7, 24, 25, 26, 33] [6, 7, 8] ⟨[(1, iV .u64 x1371), (4, .ptr 6 0 0), (7, .ptr 8 0 0), (24, .own 7), (25, iV .i64 (t1361.length : Int)), (26, iV .i64 x1372), (33, bV (decide (x1371 ≤ b1377.f1)))], [(6, some (.box 45 (abound_Key ⟨0, 0, 0⟩))), (7, some (.row 4 47 (t1361.map erank_Cell))), (8, some (.box 47 [iV .i64 b1377.f0.f0, iV .i64 b1377.f0.f1, iV .i64 b1377.f0.f2, iV .u64 b1377.f1]))], 0⟩ [] (by kernel_rfl) trivial ?_
            refine AWp.cond (decide (x1371 ≤ b1377.f1)) rfl (fun c1380 => ?_) (fun c1380 => ?_)
            · replace H := (ifT c1380).symm.trans H
              refine AWp.seq ?_
              refine reg hP hn hm [] [4, 5] [6] ⟨[(4, .ptr 6 0 0), (5, iV .i64 0)], [(6, some (.box 45 (abound_Key b1377.f0)))], 0⟩ [] (by kernel_rfl) trivial ?_
              refine AWp.conv (inv := [(6, 0)]) (vk := []) (e0 := []) (t := ⟨[(4, .ptr 0 0 0), (5, iV .i64 0)], [(0, some (.box 45 (abound_Key (b1377.f0))))], 0⟩) (by kernel_rfl) ?_
              refine AWp.ret ?_
              obtain rfl := Option.some.inj H
              exact Exists.intro _ (And.intro (fun _ _ h => h) (And.intro rfl (And.intro rfl (And.intro (by kernel_rfl) (by kernel_rfl)))))
            · replace H := (ifF c1380).symm.trans H
              refine AWp.skip ?_
              refine reg hP hn hm [] [1, 4, 24, 25, 26] [6, 7] ⟨[(1, iV .u64 (IntKind.u64.wrap (x1371 - b1377.f1))), (4, .ptr 6 0 0), (24, .own 7), (25, iV .i64 (t1361.length : Int)), (26, iV .i64 x1372)], [(6, some (.box 45 (abound_Key ⟨0, 0, 0⟩))), (7, some (.row 4 47 (t1361.map erank_Cell)))], 0⟩ [] (by kernel_rfl) trivial ?_
              refine reg hP hn hm [] [1, 4, 24, 25, 26] [6, 7] ⟨[(1, iV .u64 (IntKind.u64.wrap (x1371 - b1377.f1))), (4, .ptr 6 0 0), (24, .own 7), (25, iV .i64 (t1361.length : Int)), (26, iV .i64 (IntKind.i64.wrap (x1372 + (1 : Int))))], [(6, some (.box 45 (abound_Key ⟨0, 0, 0⟩))), (7, some (.row 4 47 (t1361.map erank_Cell)))], 0⟩ [] (by kernel_rfl) trivial ?_
              exact LWp.conv (inv := [(6, 6), (7, 7)]) (vk := []) (e0 := []) (t := ⟨[(1, iV .u64 (IntKind.u64.wrap (x1371 - b1377.f1))), (4, .ptr 6 0 0), (24, .own 7), (25, iV .i64 (t1361.length : Int)), (26, iV .i64 (IntKind.i64.wrap (x1372 + (1 : Int))))], [(6, some (.box 45 (abound_Key ⟨0, 0, 0⟩))), (7, some (.row 4 47 (t1361.map erank_Cell)))], 0⟩) (by kernel_rfl) (ih _ _ _ H)
          · replace H := (ifF c1373).symm.trans H
            refine AWp.exit ?_
            obtain rfl := Option.some.inj H
            exact Exists.intro _ (And.intro (fun _ _ h => h.conv (inv := [(6, 9)]) (vk := []) (e0 := []) (t := ⟨[(4, .ptr 9 0 0)], [(9, some (.box 45 (abound_Key ⟨0, 0, 0⟩)))], 0⟩) (by kernel_rfl)) (And.intro rfl rfl))
        · rcases o1383 with rr | _
          · skip
            rintro e s ⟨rfl, hfl, hres⟩
            obtain rfl := Option.some.inj H
            exact Exists.intro _ (And.intro (fun _ _ h => h) (And.intro (.inl rfl) (And.intro hfl hres)))
          · skip
            rintro e s ⟨rfl, rfl⟩
            refine AWp.seq ?_
            refine reg hP hn hm [] [4, 5] [9] ⟨[(4, .ptr 9 0 0), (5, iV .i64 4)], [(9, some (.box 45 (abound_Key ⟨0, 0, 0⟩)))], 0⟩ [] (by kernel_rfl) trivial ?_
            refine AWp.conv (inv := [(9, 0)]) (vk := []) (e0 := []) (t := ⟨[(4, .ptr 0 0 0), (5, iV .i64 4)], [(0, some (.box 45 (abound_Key ((⟨0, 0, 0⟩ : Tbound_Key)))))], 0⟩) (by kernel_rfl) ?_
            refine AWp.ret ?_
            obtain rfl := Option.some.inj H
            exact Exists.intro _ (And.intro (fun _ _ h => h) (And.intro (.inl rfl) (And.intro rfl (And.intro (by kernel_rfl) (by kernel_rfl)))))
def f_rank_Quantile.f (a0 : THist) (a1 : Int) (a2 : Int) : Option (Tbound_Key × Int) := ((if (a2 == (0 : Int)) = true then (some true) else (some (decide (a1 > a2)))) : Option (Bool)) >>= fun x1197 => if x1197 = true then (some ((⟨0, 0, 0⟩ : Tbound_Key), 1)) else (if (a0.f4 == (0 : Int)) = true then (some ((⟨0, 0, 0⟩ : Tbound_Key), 30)) else ((f_num_Mul.f a1 a0.f4) >>= fun t1297 => (f_num_Wide_Ceil.f (t1297) a2) >>= fun t1299 => if (t1299.2 != (0 : Int)) = true then (some ((⟨0, 0, 0⟩ : Tbound_Key), t1299.2)) else ((f_rank_At.f a0 (if (1 : Int) > t1299.1 then (1 : Int) else t1299.1)) >>= fun t1387 => some ((t1387.1), t1387.2))))
theorem f_rank_Quantile.ok (a0 : THist) (a1 : Int) (a2 : Int) (r : Tbound_Key × Int) (H : f_rank_Quantile.f a0 a1 a2 = some r) : Pv.Fn Try.prog 27 [.agg (aHist a0), iV .u64 a1, iV .u64 a2] [] 0 (fun x o => x = .tup [.agg (abound_Key (r.1)), iV .i64 r.2] ∧ o = []) := by
  unfold f_rank_Quantile.f at H
  refine Fn.bodyK [] Try.func27 rfl rfl (fun Γ hP hn => ?_)
  have hm : Try.prog.follows .mixedOrders = true := by kernel_rfl
  replace hn : Γ.n = 43 := hn
  refine AWp.seq ?_
  refine reg hP hn hm [(0, .k 0), (1, .k 1)] [1, 2, 3, 6] [0, 1] ⟨[(1, iV .u64 a1), (2, iV .u64 a2), (3, .ptr 0 0 0), (6, .ptr 1 0 0)], [(0, some (.box 35 (aHist a0))), (1, some (.box 45 (abound_Key ⟨0, 0, 0⟩)))], 0⟩ [] (by kernel_rfl) trivial ?_
  refine AWp.seq ?_
  refine AWp.block ?_
  refine AWp.seq ?_
  obtain ⟨o1389, e1390, H⟩ := bind_of H
  refine AWp.mono (Q := fun e s => (match (generalizing := false) o1389 with | x1197 => e = .normal ∧ s = ⟨[(1, iV .u64 a1), (2, iV .u64 a2), (3, .ptr 2 0 0), (6, .ptr 3 0 0), (10, bV x1197)], [(2, some (.box 35 (aHist a0))), (3, some (.box 45 (abound_Key ⟨0, 0, 0⟩)))], 0⟩)) (AWp.cv ?_) ?_
  · replace H := e1390; clear e1390
    rcases Bool.eq_false_or_eq_true (a2 == (0 : Int)) with c1196 | c1196
    · replace H := (ifT c1196).symm.trans H
      refine reg hP hn hm [(2, .b true)] [1, 2, 3, 6, 10] [0, 1] ⟨[(1, iV .u64 a1), (2, iV .u64 a2), (3, .ptr 0 0 0), (6, .ptr 1 0 0), (10, bV true)], [(0, some (.box 35 (aHist a0))), (1, some (.box 45 (abound_Key ⟨0, 0, 0⟩)))], 0⟩ [(a2 == (0 : Int)) = true] (by kernel_rfl) ⟨by exact c1196, trivial⟩ ?_
      obtain rfl := Option.some.inj H
      exact Exists.intro _ (And.intro (fun _ _ h => h.conv (inv := [(0, 2), (1, 3)]) (vk := []) (e0 := []) (t := ⟨[(1, iV .u64 a1), (2, iV .u64 a2), (3, .ptr 2 0 0), (6, .ptr 3 0 0), (10, bV true)], [(2, some (.box 35 (aHist a0))), (3, some (.box 45 (abound_Key ⟨0, 0, 0⟩)))], 0⟩) (by kernel_rfl)) (And.intro rfl rfl))
    · replace H := (ifF c1196).symm.trans H
      refine reg hP hn hm [(2, .b false)] [1, 2, 3, 6, 10] [0, 1] ⟨[(1, iV .u64 a1), (2, iV .u64 a2), (3, .ptr 0 0 0), (6, .ptr 1 0 0), (10, bV (decide (a1 > a2)))], [(0, some (.box 35 (aHist a0))), (1, some (.box 45 (abound_Key ⟨0, 0, 0⟩)))], 0⟩ [(a2 == (0 : Int)) = false] (by kernel_rfl) ⟨by exact c1196, trivial⟩ ?_
      obtain rfl := Option.some.inj H
      exact Exists.intro _ (And.intro (fun _ _ h => h.conv (inv := [(0, 2), (1, 3)]) (vk := []) (e0 := []) (t := ⟨[(1, iV .u64 a1), (2, iV .u64 a2), (3, .ptr 2 0 0), (6, .ptr 3 0 0), (10, bV (decide (a1 > a2)))], [(2, some (.box 35 (aHist a0))), (3, some (.box 45 (abound_Key ⟨0, 0, 0⟩)))], 0⟩) (by kernel_rfl)) (And.intro rfl rfl))
  · obtain ⟨x1197, rfl⟩ : ∃ z, z = o1389 := ⟨_, rfl⟩
    rintro e s ⟨rfl, rfl⟩
    refine AWp.cond x1197 rfl (fun c1198 => ?_) (fun c1198 => ?_)
    · replace H := (ifT c1198).symm.trans H
      refine AWp.seq ?_
      refine reg hP hn hm [] [6, 7] [3] ⟨[(6, .ptr 3 0 0), (7, iV .i64 1)], [(3, some (.box 45 (abound_Key ⟨0, 0, 0⟩)))], 0⟩ [] (by kernel_rfl) trivial ?_
      refine AWp.conv (inv := [(3, 0)]) (vk := []) (e0 := []) (t := ⟨[(6, .ptr 0 0 0), (7, iV .i64 1)], [(0, some (.box 45 (abound_Key ((⟨0, 0, 0⟩ : Tbound_Key)))))], 0⟩) (by kernel_rfl) ?_
      refine AWp.ret ?_
      obtain rfl := Option.some.inj H
      exact Exists.intro _ (And.intro (fun _ _ h => h) (And.intro (.inl rfl) (And.intro rfl (And.intro (by kernel_rfl) (by kernel_rfl)))))
    · replace H := (ifF c1198).symm.trans H
      refine AWp.seq ?_
      refine reg hP hn hm [] [1, 2, 3, 6, 19] [2, 3] ⟨[(1, iV .u64 a1), (2, iV .u64 a2), (3, .ptr 2 0 0), (6, .ptr 3 0 0), (19, bV (a0.f4 == (0 : Int)))], [(2, some (.box 35 (aHist a0))), (3, some (.box 45 (abound_Key ⟨0, 0, 0⟩)))], 0⟩ [] (by kernel_rfl) trivial ?_
      refine AWp.cond (a0.f4 == (0 : Int)) rfl (fun c1199 => ?_) (fun c1199 => ?_)
      · replace H := (ifT c1199).symm.trans H
        refine AWp.seq ?_
        refine reg hP hn hm [] [6, 7] [3] ⟨[(6, .ptr 3 0 0), (7, iV .i64 30)], [(3, some (.box 45 (abound_Key ⟨0, 0, 0⟩)))], 0⟩ [] (by kernel_rfl) trivial ?_
        refine AWp.conv (inv := [(3, 0)]) (vk := []) (e0 := []) (t := ⟨[(6, .ptr 0 0 0), (7, iV .i64 30)], [(0, some (.box 45 (abound_Key ((⟨0, 0, 0⟩ : Tbound_Key)))))], 0⟩) (by kernel_rfl) ?_
        refine AWp.ret ?_
        obtain rfl := Option.some.inj H
        exact Exists.intro _ (And.intro (fun _ _ h => h) (And.intro (.inl rfl) (And.intro rfl (And.intro (by kernel_rfl) (by kernel_rfl)))))
      · replace H := (ifF c1199).symm.trans H
        refine AWp.skip ?_
        refine AWp.seq ?_
        obtain ⟨t1297, e1298, H⟩ := bind_of H
        obtain ⟨t1299, e1300, H⟩ := bind_of H
        refine reg hP hn hm [(3, .call [] [] [] [] 0 (.agg (anum_Wide (t1297))) []), (5, .call [] [] [] [] 0 (.tup [iV .u64 t1299.1, iV .i64 t1299.2]) [])] [3, 6, 8, 9] [2, 3] ⟨[(3, .ptr 2 0 0), (6, .ptr 3 0 0), (8, iV .u64 t1299.1), (9, iV .i64 t1299.2)], [(2, some (.box 35 (aHist a0))), (3, some (.box 45 (abound_Key ⟨0, 0, 0⟩)))], 0⟩ [Enters Try.prog 70, Pv.Fn Try.prog 70 [iV .u64 a1, iV .u64 a0.f4] [] 0 (fun r o => r = .agg (anum_Wide (t1297)) ∧ o = []), Enters Try.prog 71, Pv.Fn Try.prog 71 [.agg (anum_Wide (t1297)), iV .u64 a2] [] 0 (fun r o => r = .tup [iV .u64 t1299.1, iV .i64 t1299.2] ∧ o = [])] (by kernel_rfl) ⟨by exact Try.call70, by exact f_num_Mul.ok a1 a0.f4 t1297 e1298, by exact Try.call71, by exact f_num_Wide_Ceil.ok (t1297) a2 t1299 e1300, trivial⟩ ?_
        refine AWp.seq ?_
        refine AWp.seq ?_
        refine reg hP hn hm [] [3, 6, 8, 9, 34] [2, 3] ⟨[(3, .ptr 2 0 0), (6, .ptr 3 0 0), (8, iV .u64 t1299.1), (9, iV .i64 t1299.2), (34, bV (t1299.2 != (0 : Int)))], [(2, some (.box 35 (aHist a0))), (3, some (.box 45 (abound_Key ⟨0, 0, 0⟩)))], 0⟩ [] (by kernel_rfl) trivial ?_
        refine AWp.cond (t1299.2 != (0 : Int)) rfl (fun c1301 => ?_) (fun c1301 => ?_)
        · replace H := (ifT c1301).symm.trans H
          refine AWp.seq ?_
          refine reg hP hn hm [] [6, 7] [3] ⟨[(6, .ptr 3 0 0), (7, iV .i64 t1299.2)], [(3, some (.box 45 (abound_Key ⟨0, 0, 0⟩)))], 0⟩ [] (by kernel_rfl) trivial ?_
          refine AWp.conv (inv := [(3, 0)]) (vk := []) (e0 := []) (t := ⟨[(6, .ptr 0 0 0), (7, iV .i64 t1299.2)], [(0, some (.box 45 (abound_Key ((⟨0, 0, 0⟩ : Tbound_Key)))))], 0⟩) (by kernel_rfl) ?_
          refine AWp.ret ?_
          obtain rfl := Option.some.inj H
          exact Exists.intro _ (And.intro (fun _ _ h => h) (And.intro (.inl rfl) (And.intro rfl (And.intro (by kernel_rfl) (by kernel_rfl)))))
        · replace H := (ifF c1301).symm.trans H
          refine AWp.skip ?_
          refine AWp.seq ?_
          obtain ⟨t1387, e1388, H⟩ := bind_of H
          refine reg hP hn hm [(2, .more xMax), (3, .call [] [] [] [] 0 (.tup [.agg (abound_Key (t1387.1)), iV .i64 t1387.2]) [])] [6, 7] [3] ⟨[(6, .ptr 3 0 0), (7, iV .i64 t1387.2)], [(3, some (.box 45 (abound_Key (t1387.1))))], 0⟩ [Enters Try.prog 22, Pv.Fn Try.prog 22 [.agg (aHist a0), iV .u64 (if (1 : Int) > t1299.1 then (1 : Int) else t1299.1)] [] 0 (fun r o => r = .tup [.agg (abound_Key (t1387.1)), iV .i64 t1387.2] ∧ o = [])] (by kernel_rfl) ⟨by exact Try.call22, by exact f_rank_At.ok a0 (if (1 : Int) > t1299.1 then (1 : Int) else t1299.1) t1387 e1388, trivial⟩ ?_
          refine AWp.conv (inv := [(3, 0)]) (vk := []) (e0 := []) (t := ⟨[(6, .ptr 0 0 0), (7, iV .i64 t1387.2)], [(0, some (.box 45 (abound_Key ((t1387.1)))))], 0⟩) (by kernel_rfl) ?_
          refine AWp.ret ?_
          obtain rfl := Option.some.inj H
          exact Exists.intro _ (And.intro (fun _ _ h => h) (And.intro (.inl rfl) (And.intro rfl (And.intro (by kernel_rfl) (by kernel_rfl)))))
def f_pluviallaw08_awake.f  : Option (Bool) := (f_hist_Empty.f 0 0) >>= fun t1191 => (f_hist_Make.f (t1191) [(⟨1, 2⟩ : TBucket), (⟨3, 2⟩ : TBucket)] ([] : List TBucket)) >>= fun t1193 => (f_rank_Quantile.f (t1193.1) 1 2) >>= fun t1393 => (f_rank_Quantile.f (t1193.1) 501 1000) >>= fun t1397 => ((if (t1193.2 == (0 : Int)) = true then (if (t1393.2 == (0 : Int)) = true then (if (t1397.2 == (0 : Int)) = true then (if ((((t1393.1).f0) == (1 : Int)) && ((((t1393.1).f1) == (0 : Int)) && ((((t1393.1).f2) == (1 : Int)) && true))) = true then (some ((((t1397.1).f0) == (1 : Int)) && ((((t1397.1).f1) == (0 : Int)) && ((((t1397.1).f2) == (3 : Int)) && true)))) else (some false)) else (some false)) else (some false)) else (some false)) : Option (Bool)) >>= fun x1407 => some x1407
theorem f_pluviallaw08_awake.ok  (r : Bool) (H : f_pluviallaw08_awake.f  = some r) : Pv.Fn Try.prog 20 [] [] 0 (fun x o => x = bV r ∧ o = []) := by
  unfold f_pluviallaw08_awake.f at H
  refine Fn.bodyK [] Try.func20 rfl rfl (fun Γ hP hn => ?_)
  have hm : Try.prog.follows .mixedOrders = true := by kernel_rfl
  replace hn : Γ.n = 45 := hn
  refine AWp.seq ?_
  refine reg hP hn hm [] [] [] ⟨[], [], 0⟩ [] (by kernel_rfl) trivial ?_
  refine AWp.seq ?_
  obtain ⟨t1191, e1192, H⟩ := bind_of H
  obtain ⟨t1193, e1194, H⟩ := bind_of H
  refine reg hP hn hm [(0, .call [] [] [] [] 0 (.agg (aHist (t1191))) []), (3, .app 0 ([(⟨1, 2⟩ : TBucket), (⟨3, 2⟩ : TBucket)].map eBucket)), (4, .call [] [] [0] [] 0 (.tup [.agg (aHist (t1193.1)), iV .i64 t1193.2]) []), (8, .k 1)] [1, 2] [1] ⟨[(1, .ptr 1 0 0), (2, iV .i64 t1193.2)], [(1, some (.box 35 (aHist (t1193.1))))], 0⟩ [Enters Try.prog 69, Pv.Fn Try.prog 69 [iV .i64 0, iV .i64 0] [] 0 (fun r o => r = .agg (aHist (t1191)) ∧ o = []), [(⟨1, 2⟩ : TBucket), (⟨3, 2⟩ : TBucket)].map eBucket = [[iI .i64 1, iI .u64 2], [iI .i64 3, iI .u64 2]], Enters Try.prog 68, Pv.Fn Try.prog 68 [.agg (aHist (t1191)), .im (.row ([(⟨1, 2⟩ : TBucket), (⟨3, 2⟩ : TBucket)].map eBucket)), .im (.row (([] : List TBucket).map eBucket))] [] 0 (fun r o => r = .tup [.agg (aHist (t1193.1)), iV .i64 t1193.2] ∧ o = [])] (by kernel_rfl) ⟨by exact Try.call69, by exact f_hist_Empty.ok 0 0 t1191 e1192, by exact rfl, by exact Try.call68, by exact f_hist_Make.ok (t1191) [(⟨1, 2⟩ : TBucket), (⟨3, 2⟩ : TBucket)] ([] : List TBucket) t1193 e1194, trivial⟩ ?_
  refine AWp.seq ?_
  obtain ⟨t1393, e1394, H⟩ := bind_of H
  refine reg hP hn hm [(1, .call [] [] [] [] 0 (.tup [.agg (abound_Key (t1393.1)), iV .i64 t1393.2]) []), (5, .k 2)] [1, 2, 3, 4] [1, 2] ⟨[(1, .ptr 1 0 0), (2, iV .i64 t1193.2), (3, .ptr 2 0 0), (4, iV .i64 t1393.2)], [(1, some (.box 35 (aHist (t1193.1)))), (2, some (.box 45 (abound_Key (t1393.1))))], 0⟩ [Enters Try.prog 27, Pv.Fn Try.prog 27 [.agg (aHist (t1193.1)), iV .u64 1, iV .u64 2] [] 0 (fun r o => r = .tup [.agg (abound_Key (t1393.1)), iV .i64 t1393.2] ∧ o = [])] (by kernel_rfl) ⟨by exact Try.call27, by exact f_rank_Quantile.ok (t1193.1) 1 2 t1393 e1394, trivial⟩ ?_
  refine AWp.seq ?_
  obtain ⟨t1397, e1398, H⟩ := bind_of H
  refine reg hP hn hm [(1, .call [] [] [] [] 0 (.tup [.agg (abound_Key (t1397.1)), iV .i64 t1397.2]) []), (5, .k 3)] [2, 3, 4, 5, 6] [2, 3] ⟨[(2, iV .i64 t1193.2), (3, .ptr 2 0 0), (4, iV .i64 t1393.2), (5, .ptr 3 0 0), (6, iV .i64 t1397.2)], [(2, some (.box 45 (abound_Key (t1393.1)))), (3, some (.box 45 (abound_Key (t1397.1))))], 0⟩ [Enters Try.prog 27, Pv.Fn Try.prog 27 [.agg (aHist (t1193.1)), iV .u64 501, iV .u64 1000] [] 0 (fun r o => r = .tup [.agg (abound_Key (t1397.1)), iV .i64 t1397.2] ∧ o = [])] (by kernel_rfl) ⟨by exact Try.call27, by exact f_rank_Quantile.ok (t1193.1) 501 1000 t1397 e1398, trivial⟩ ?_
  refine AWp.seq ?_
  obtain ⟨o1408, e1409, H⟩ := bind_of H
  refine AWp.mono (Q := fun e s => (match (generalizing := false) o1408 with | x1407 => e = .normal ∧ s = ⟨[(0, bV x1407)], [], 0⟩)) (AWp.cv ?_) ?_
  · replace H := e1409; clear e1409
    rcases Bool.eq_false_or_eq_true (t1193.2 == (0 : Int)) with c1403 | c1403
    · replace H := (ifT c1403).symm.trans H
      rcases Bool.eq_false_or_eq_true (t1393.2 == (0 : Int)) with c1404 | c1404
      · replace H := (ifT c1404).symm.trans H
        rcases Bool.eq_false_or_eq_true (t1397.2 == (0 : Int)) with c1405 | c1405
        · replace H := (ifT c1405).symm.trans H
          rcases Bool.eq_false_or_eq_true ((((t1393.1).f0) == (1 : Int)) && ((((t1393.1).f1) == (0 : Int)) && ((((t1393.1).f2) == (1 : Int)) && true))) with c1406 | c1406
          · replace H := (ifT c1406).symm.trans H
            refine reg hP hn hm [(2, .b true), (6, .b true), (10, .b true), (13, .more (xAgg none)), (15, .b true), (18, .more (xAgg none))] [0] [] ⟨[(0, bV ((((t1397.1).f0) == (1 : Int)) && ((((t1397.1).f1) == (0 : Int)) && ((((t1397.1).f2) == (3 : Int)) && true))))], [], 0⟩ [(t1193.2 == (0 : Int)) = true, (t1393.2 == (0 : Int)) = true, (t1397.2 == (0 : Int)) = true, ((((t1393.1).f0) == (1 : Int)) && ((((t1393.1).f1) == (0 : Int)) && ((((t1393.1).f2) == (1 : Int)) && true))) = true] (by kernel_rfl) ⟨by exact c1403, by exact c1404, by exact c1405, by exact c1406, trivial⟩ ?_
            obtain rfl := Option.some.inj H
            exact Exists.intro _ (And.intro (fun _ _ h => h.conv (inv := []) (vk := []) (e0 := []) (t := ⟨[(0, bV ((((t1397.1).f0) == (1 : Int)) && ((((t1397.1).f1) == (0 : Int)) && ((((t1397.1).f2) == (3 : Int)) && true))))], [], 0⟩) (by kernel_rfl)) (And.intro rfl rfl))
          · replace H := (ifF c1406).symm.trans H
            refine reg hP hn hm [(2, .b true), (6, .b true), (10, .b true), (13, .more (xAgg none)), (15, .b false)] [0] [] ⟨[(0, bV false)], [], 0⟩ [(t1193.2 == (0 : Int)) = true, (t1393.2 == (0 : Int)) = true, (t1397.2 == (0 : Int)) = true, ((((t1393.1).f0) == (1 : Int)) && ((((t1393.1).f1) == (0 : Int)) && ((((t1393.1).f2) == (1 : Int)) && true))) = false] (by kernel_rfl) ⟨by exact c1403, by exact c1404, by exact c1405, by exact c1406, trivial⟩ ?_
            obtain rfl := Option.some.inj H
            exact Exists.intro _ (And.intro (fun _ _ h => h.conv (inv := []) (vk := []) (e0 := []) (t := ⟨[(0, bV false)], [], 0⟩) (by kernel_rfl)) (And.intro rfl rfl))
        · replace H := (ifF c1405).symm.trans H
          refine reg hP hn hm [(2, .b true), (6, .b true), (10, .b false)] [0] [] ⟨[(0, bV false)], [], 0⟩ [(t1193.2 == (0 : Int)) = true, (t1393.2 == (0 : Int)) = true, (t1397.2 == (0 : Int)) = false] (by kernel_rfl) ⟨by exact c1403, by exact c1404, by exact c1405, trivial⟩ ?_
          obtain rfl := Option.some.inj H
          exact Exists.intro _ (And.intro (fun _ _ h => h.conv (inv := []) (vk := []) (e0 := []) (t := ⟨[(0, bV false)], [], 0⟩) (by kernel_rfl)) (And.intro rfl rfl))
      · replace H := (ifF c1404).symm.trans H
        refine reg hP hn hm [(2, .b true), (6, .b false)] [0] [] ⟨[(0, bV false)], [], 0⟩ [(t1193.2 == (0 : Int)) = true, (t1393.2 == (0 : Int)) = false] (by kernel_rfl) ⟨by exact c1403, by exact c1404, trivial⟩ ?_
        obtain rfl := Option.some.inj H
        exact Exists.intro _ (And.intro (fun _ _ h => h.conv (inv := []) (vk := []) (e0 := []) (t := ⟨[(0, bV false)], [], 0⟩) (by kernel_rfl)) (And.intro rfl rfl))
    · replace H := (ifF c1403).symm.trans H
      refine reg hP hn hm [(2, .b false)] [0] [] ⟨[(0, bV false)], [], 0⟩ [(t1193.2 == (0 : Int)) = false] (by kernel_rfl) ⟨by exact c1403, trivial⟩ ?_
      obtain rfl := Option.some.inj H
      exact Exists.intro _ (And.intro (fun _ _ h => h.conv (inv := []) (vk := []) (e0 := []) (t := ⟨[(0, bV false)], [], 0⟩) (by kernel_rfl)) (And.intro rfl rfl))
  · obtain ⟨x1407, rfl⟩ : ∃ z, z = o1408 := ⟨_, rfl⟩
    rintro e s ⟨rfl, rfl⟩
    refine AWp.conv (inv := []) (vk := []) (e0 := []) (t := ⟨[(0, bV x1407)], [], 0⟩) (by kernel_rfl) ?_
    refine AWp.ret ?_
    obtain rfl := Option.some.inj H
    exact Exists.intro _ (And.intro (fun _ _ h => h) (And.intro (.inl rfl) (And.intro rfl (And.intro (by kernel_rfl) (by kernel_rfl)))))
def f_pluvialref08_Order.l0 (a0 : THist) (x1526 : List Tpluvialref08_Cell) (x1527 : Int) : Option (List Tpluvialref08_Cell) := if (decide (x1527 < (a0.f7.length : Int))) = true then ((at? a0.f7 (IntKind.i64.wrap ((IntKind.i64.wrap ((a0.f7.length : Int) - (1 : Int))) - x1527))) >>= fun b1532 => (chk ((x1526.length + [(⟨(-1), a0.f1, b1532.f0, b1532.f1⟩ : Tpluvialref08_Cell)].length) * 32 ≤ 140737488355328)) >>= fun _ => f_pluvialref08_Order.l0 a0 (x1526 ++ [(⟨(-1), a0.f1, b1532.f0, b1532.f1⟩ : Tpluvialref08_Cell)]) (IntKind.i64.wrap (x1527 + (1 : Int)))) else (some x1526)
partial_fixpoint
def f_pluvialref08_Order.l1 (a0 : THist) (x1551 : List Tpluvialref08_Cell) (x1552 : Int) : Option (List Tpluvialref08_Cell) := if (decide (x1552 < (a0.f6.length : Int))) = true then ((at? a0.f6 x1552) >>= fun b1558 => (chk ((x1551.length + [(⟨1, a0.f1, b1558.f0, b1558.f1⟩ : Tpluvialref08_Cell)].length) * 32 ≤ 140737488355328)) >>= fun _ => f_pluvialref08_Order.l1 a0 (x1551 ++ [(⟨1, a0.f1, b1558.f0, b1558.f1⟩ : Tpluvialref08_Cell)]) (IntKind.i64.wrap (x1552 + (1 : Int)))) else (some x1551)
partial_fixpoint
def f_pluvialref08_Order.f (a0 : THist) : Option (List Tpluvialref08_Cell) := (f_pluvialref08_Order.l0 a0 [] 0) >>= fun x1537 => ((if (decide (a0.f3 > (0 : Int))) = true then ((chk ((x1537.length + [(⟨0, 0, 0, a0.f3⟩ : Tpluvialref08_Cell)].length) * 32 ≤ 140737488355328)) >>= fun _ => some (x1537 ++ [(⟨0, 0, 0, a0.f3⟩ : Tpluvialref08_Cell)])) else (some x1537)) : Option (List Tpluvialref08_Cell)) >>= fun x1541 => (f_pluvialref08_Order.l1 a0 x1541 0) >>= fun x1562 => some x1562
theorem f_pluvialref08_Order.ok (a0 : THist) (r : List Tpluvialref08_Cell) (H : f_pluvialref08_Order.f a0 = some r) : Pv.Fn Try.prog 23 [.agg (aHist a0)] [] 0 (fun x o => x = .own 0 ∧ o = [(0, some (.row 4 54 (r.map epluvialref08_Cell)))]) := by
  unfold f_pluvialref08_Order.f at H
  refine Fn.bodyK [0] Try.func23 rfl rfl (fun Γ hP hn => ?_)
  have hm : Try.prog.follows .mixedOrders = true := by kernel_rfl
  replace hn : Γ.n = 69 := hn
  refine AWp.seq ?_
  refine reg hP hn hm [(0, .k 0)] [1] [0] ⟨[(1, .ptr 0 0 0)], [(0, some (.box 35 (aHist a0)))], 0⟩ [] (by kernel_rfl) trivial ?_
  refine AWp.seq ?_
  refine reg hP hn hm [] [1, 3] [0] ⟨[(1, .ptr 0 0 0), (3, .none0)], [(0, some (.box 35 (aHist a0)))], 0⟩ [] (by kernel_rfl) trivial ?_
  refine AWp.seq ?_
  refine AWp.seq ?_
  refine reg hP hn hm [] [1, 3, 4] [0] ⟨[(1, .ptr 0 0 0), (3, .none0), (4, iV .i64 0)], [(0, some (.box 35 (aHist a0)))], 0⟩ [] (by kernel_rfl) trivial ?_
  refine AWp.block ?_
  obtain ⟨o1563, e1564, H⟩ := bind_of H
  refine AWp.loop (LWp.conv (inv := [(0, 4)]) (vk := []) (e0 := [5]) (t := ⟨[(1, .ptr 4 0 0), (3, .own 5), (4, iV .i64 0)], [(4, some (.box 35 (aHist a0))), (5, some (.row 4 54 ([].map epluvialref08_Cell)))], 0⟩) (by kernel_rfl) ?_)
  refine LWp.mono (Q := fun e s => (match (generalizing := false) o1563 with | x1537 => e = .exit 0 ∧ s = ⟨[(1, .ptr 9 0 0), (3, .own 10)], [(9, some (.box 35 (aHist a0))), (10, some (.row 4 54 (x1537.map epluvialref08_Cell)))], 0⟩)) (LWp.cv (withBody (fun body hbody => ?_))) ?_
  · refine f_pluvialref08_Order.l0.partial_correctness a0 (motive := fun x1526 x1527 o1563 => LWp Γ body (fun e s => ∃ t, Cv Γ s t ∧ (match (generalizing := false) o1563 with | x1537 => e = .exit 0 ∧ t = ⟨[(1, .ptr 9 0 0), (3, .own 10)], [(9, some (.box 35 (aHist a0))), (10, some (.row 4 54 (x1537.map epluvialref08_Cell)))], 0⟩)) ⟨[(1, .ptr 4 0 0), (3, .own 5), (4, iV .i64 x1527)], [(4, some (.box 35 (aHist a0))), (5, some (.row 4 54 (x1526.map epluvialref08_Cell)))], 0⟩) ?_ _ _ _ e1564
    clear H e1564 o1563; intro self ih x1526 x1527 o1563 H
    subst hbody
    refine LWp.round ?_
    refine AWp.seq ?_
    refine AWp.seq ?_
    refine reg hP hn hm [(3, .any (iV .i64 (a0.f7.length : Int)))] [1, 3, 4, 11] [4, 5] ⟨[(1, .ptr 4 0 0), (3, .own 5), (4, iV .i64 x1527), (11, bV (decide (x1527 < (a0.f7.length : Int))))], [(4, some (.box 35 (aHist a0))), (5, some (.row 4 54 (x1526.map epluvialref08_Cell)))], 0⟩ [((a0.f7.map eBucket).length : Int) = (a0.f7.length : Int)] (by kernel_rfl) ⟨by rw [len_map], trivial⟩ ?_
    refine AWp.cond (decide (x1527 < (a0.f7.length : Int))) rfl (fun c1528 => ?_) (fun c1528 => ?_)
    · replace H := (ifT c1528).symm.trans H
      refine AWp.skip ?_
      refine AWp.seq ?_
      refine AWp.block ?_
      refine AWp.seq ?_
      obtain ⟨b1532, p1533, q1534, H⟩ := at_of H
      refine reg hP hn hm [(4, .any (iV .i64 (a0.f7.length : Int))), (8, .c (eBucket b1532)), (10, .k 6)] [1, 3, 4, 5] [4, 5, 6] ⟨[(1, .ptr 4 0 0), (3, .own 5), (4, iV .i64 x1527), (5, .ptr 6 0 0)], [(4, some (.box 35 (aHist a0))), (5, some (.row 4 54 (x1526.map epluvialref08_Cell))), (6, some (.box 127 (aBucket b1532)))], 0⟩ [((a0.f7.map eBucket).length : Int) = (a0.f7.length : Int), 0 ≤ (IntKind.i64.wrap ((IntKind.i64.wrap ((a0.f7.length : Int) - (1 : Int))) - x1527)), (a0.f7.map eBucket)[(Int.toNat (IntKind.i64.wrap ((IntKind.i64.wrap ((a0.f7.length : Int) - (1 : Int))) - x1527)))]? = some (eBucket b1532)] (by kernel_rfl) ⟨by rw [len_map], by exact p1533, by exact el_map eBucket q1534, trivial⟩ ?_
      obtain ⟨c1536, H⟩ := chk_of H
      refine reg hP hn hm [(8, .app 7 ([(⟨(-1), a0.f1, b1532.f0, b1532.f1⟩ : Tpluvialref08_Cell)].map epluvialref08_Cell)), (9, .app 8 ((x1526 ++ [(⟨(-1), a0.f1, b1532.f0, b1532.f1⟩ : Tpluvialref08_Cell)]).map epluvialref08_Cell))] [1, 3, 4] [4, 8] ⟨[(1, .ptr 4 0 0), (3, .own 8), (4, iV .i64 x1527)], [(4, some (.box 35 (aHist a0))), (8, some (.row 4 54 ((x1526 ++ [(⟨(-1), a0.f1, b1532.f0, b1532.f1⟩ : Tpluvialref08_Cell)]).map epluvialref08_Cell)))], 0⟩ [[(⟨(-1), a0.f1, b1532.f0, b1532.f1⟩ : Tpluvialref08_Cell)].map epluvialref08_Cell = [[iI .i64 (-1), iI .i64 a0.f1, iI .i64 b1532.f0, iI .u64 b1532.f1]], (x1526 ++ [(⟨(-1), a0.f1, b1532.f0, b1532.f1⟩ : Tpluvialref08_Cell)]).map epluvialref08_Cell = (x1526.map epluvialref08_Cell) ++ ([(⟨(-1), a0.f1, b1532.f0, b1532.f1⟩ : Tpluvialref08_Cell)].map epluvialref08_Cell), ∀ c ∈ ([(⟨(-1), a0.f1, b1532.f0, b1532.f1⟩ : Tpluvialref08_Cell)].map epluvialref08_Cell), c.length = 4, ∀ c ∈ ([(⟨(-1), a0.f1, b1532.f0, b1532.f1⟩ : Tpluvialref08_Cell)].map epluvialref08_Cell), leaves (c.map .im) = true, ((x1526.map epluvialref08_Cell).length + ([(⟨(-1), a0.f1, b1532.f0, b1532.f1⟩ : Tpluvialref08_Cell)].map epluvialref08_Cell).length) * 32 ≤ 140737488355328] (by kernel_rfl) ⟨by exact rfl, by simp, by exact all_len _ _ _ (fun _ => rfl), by exact all_leaf _ _ (fun _ => rfl), by simpa using c1536, trivial⟩ ?_
      refine reg hP hn hm [] [1, 3, 4] [4, 8] ⟨[(1, .ptr 4 0 0), (3, .own 8), (4, iV .i64 (IntKind.i64.wrap (x1527 + (1 : Int))))], [(4, some (.box 35 (aHist a0))), (8, some (.row 4 54 ((x1526 ++ [(⟨(-1), a0.f1, b1532.f0, b1532.f1⟩ : Tpluvialref08_Cell)]).map epluvialref08_Cell)))], 0⟩ [] (by kernel_rfl) trivial ?_
      exact LWp.conv (inv := [(4, 4), (8, 5)]) (vk := []) (e0 := []) (t := ⟨[(1, .ptr 4 0 0), (3, .own 5), (4, iV .i64 (IntKind.i64.wrap (x1527 + (1 : Int))))], [(4, some (.box 35 (aHist a0))), (5, some (.row 4 54 ((x1526 ++ [(⟨(-1), a0.f1, b1532.f0, b1532.f1⟩ : Tpluvialref08_Cell)]).map epluvialref08_Cell)))], 0⟩) (by kernel_rfl) (ih _ _ _ H)
    · replace H := (ifF c1528).symm.trans H
      refine AWp.exit ?_
      obtain rfl := Option.some.inj H
      exact Exists.intro _ (And.intro (fun _ _ h => h.conv (inv := [(4, 9), (5, 10)]) (vk := []) (e0 := []) (t := ⟨[(1, .ptr 9 0 0), (3, .own 10)], [(9, some (.box 35 (aHist a0))), (10, some (.row 4 54 (x1526.map epluvialref08_Cell)))], 0⟩) (by kernel_rfl)) (And.intro rfl rfl))
  · obtain ⟨x1537, rfl⟩ : ∃ z, z = o1563 := ⟨_, rfl⟩
    rintro e s ⟨rfl, rfl⟩
    refine AWp.seq ?_
    refine AWp.seq ?_
    refine reg hP hn hm [] [1, 3, 36] [9, 10] ⟨[(1, .ptr 9 0 0), (3, .own 10), (36, bV (decide (a0.f3 > (0 : Int))))], [(9, some (.box 35 (aHist a0))), (10, some (.row 4 54 (x1537.map epluvialref08_Cell)))], 0⟩ [] (by kernel_rfl) trivial ?_
    obtain ⟨o1565, e1566, H⟩ := bind_of H
    refine AWp.mono (Q := fun e s => (match (generalizing := false) o1565 with | x1541 => e = .normal ∧ s = ⟨[(1, .ptr 13 0 0), (3, .own 14)], [(13, some (.box 35 (aHist a0))), (14, some (.row 4 54 (x1541.map epluvialref08_Cell)))], 0⟩)) (AWp.cv ?_) ?_
    · replace H := e1566; clear e1566
      refine AWp.cond (decide (a0.f3 > (0 : Int))) rfl (fun c1538 => ?_) (fun c1538 => ?_)
      · replace H := (ifT c1538).symm.trans H
        obtain ⟨c1540, H⟩ := chk_of H
        refine reg hP hn hm [(4, .app 11 ([(⟨0, 0, 0, a0.f3⟩ : Tpluvialref08_Cell)].map epluvialref08_Cell)), (5, .app 12 ((x1537 ++ [(⟨0, 0, 0, a0.f3⟩ : Tpluvialref08_Cell)]).map epluvialref08_Cell))] [1, 3] [9, 12] ⟨[(1, .ptr 9 0 0), (3, .own 12)], [(9, some (.box 35 (aHist a0))), (12, some (.row 4 54 ((x1537 ++ [(⟨0, 0, 0, a0.f3⟩ : Tpluvialref08_Cell)]).map epluvialref08_Cell)))], 0⟩ [[(⟨0, 0, 0, a0.f3⟩ : Tpluvialref08_Cell)].map epluvialref08_Cell = [[iI .i64 0, iI .i64 0, iI .i64 0, iI .u64 a0.f3]], (x1537 ++ [(⟨0, 0, 0, a0.f3⟩ : Tpluvialref08_Cell)]).map epluvialref08_Cell = (x1537.map epluvialref08_Cell) ++ ([(⟨0, 0, 0, a0.f3⟩ : Tpluvialref08_Cell)].map epluvialref08_Cell), ∀ c ∈ ([(⟨0, 0, 0, a0.f3⟩ : Tpluvialref08_Cell)].map epluvialref08_Cell), c.length = 4, ∀ c ∈ ([(⟨0, 0, 0, a0.f3⟩ : Tpluvialref08_Cell)].map epluvialref08_Cell), leaves (c.map .im) = true, ((x1537.map epluvialref08_Cell).length + ([(⟨0, 0, 0, a0.f3⟩ : Tpluvialref08_Cell)].map epluvialref08_Cell).length) * 32 ≤ 140737488355328] (by kernel_rfl) ⟨by exact rfl, by simp, by exact all_len _ _ _ (fun _ => rfl), by exact all_leaf _ _ (fun _ => rfl), by simpa using c1540, trivial⟩ ?_
        obtain rfl := Option.some.inj H
        exact Exists.intro _ (And.intro (fun _ _ h => h.conv (inv := [(9, 13), (12, 14)]) (vk := []) (e0 := []) (t := ⟨[(1, .ptr 13 0 0), (3, .own 14)], [(13, some (.box 35 (aHist a0))), (14, some (.row 4 54 ((x1537 ++ [(⟨0, 0, 0, a0.f3⟩ : Tpluvialref08_Cell)]).map epluvialref08_Cell)))], 0⟩) (by kernel_rfl)) (And.intro rfl rfl))
      · replace H := (ifF c1538).symm.trans H
        refine AWp.skip ?_
        obtain rfl := Option.some.inj H
        exact Exists.intro _ (And.intro (fun _ _ h => h.conv (inv := [(9, 13), (10, 14)]) (vk := []) (e0 := []) (t := ⟨[(1, .ptr 13 0 0), (3, .own 14)], [(13, some (.box 35 (aHist a0))), (14, some (.row 4 54 (x1537.map epluvialref08_Cell)))], 0⟩) (by kernel_rfl)) (And.intro rfl rfl))
    · obtain ⟨x1541, rfl⟩ : ∃ z, z = o1565 := ⟨_, rfl⟩
      rintro e s ⟨rfl, rfl⟩
      refine AWp.seq ?_
      refine AWp.seq ?_
      refine reg hP hn hm [] [1, 3, 6] [13, 14] ⟨[(1, .ptr 13 0 0), (3, .own 14), (6, iV .i64 0)], [(13, some (.box 35 (aHist a0))), (14, some (.row 4 54 (x1541.map epluvialref08_Cell)))], 0⟩ [] (by kernel_rfl) trivial ?_
      refine AWp.block ?_
      obtain ⟨o1567, e1568, H⟩ := bind_of H
      refine AWp.loop (LWp.conv (inv := [(13, 17), (14, 18)]) (vk := []) (e0 := []) (t := ⟨[(1, .ptr 17 0 0), (3, .own 18), (6, iV .i64 0)], [(17, some (.box 35 (aHist a0))), (18, some (.row 4 54 (x1541.map epluvialref08_Cell)))], 0⟩) (by kernel_rfl) ?_)
      refine LWp.mono (Q := fun e s => (match (generalizing := false) o1567 with | x1562 => e = .exit 2 ∧ s = ⟨[(3, .own 21)], [(21, some (.row 4 54 (x1562.map epluvialref08_Cell)))], 0⟩)) (LWp.cv (withBody (fun body hbody => ?_))) ?_
      · refine f_pluvialref08_Order.l1.partial_correctness a0 (motive := fun x1551 x1552 o1567 => LWp Γ body (fun e s => ∃ t, Cv Γ s t ∧ (match (generalizing := false) o1567 with | x1562 => e = .exit 2 ∧ t = ⟨[(3, .own 21)], [(21, some (.row 4 54 (x1562.map epluvialref08_Cell)))], 0⟩)) ⟨[(1, .ptr 17 0 0), (3, .own 18), (6, iV .i64 x1552)], [(17, some (.box 35 (aHist a0))), (18, some (.row 4 54 (x1551.map epluvialref08_Cell)))], 0⟩) ?_ _ _ _ e1568
        clear H e1568 o1567; intro self ih x1551 x1552 o1567 H
        subst hbody
        refine LWp.round ?_
        refine AWp.seq ?_
        refine AWp.seq ?_
        refine reg hP hn hm [(3, .any (iV .i64 (a0.f6.length : Int)))] [1, 3, 6, 47] [17, 18] ⟨[(1, .ptr 17 0 0), (3, .own 18), (6, iV .i64 x1552), (47, bV (decide (x1552 < (a0.f6.length : Int))))], [(17, some (.box 35 (aHist a0))), (18, some (.row 4 54 (x1551.map epluvialref08_Cell)))], 0⟩ [((a0.f6.map eBucket).length : Int) = (a0.f6.length : Int)] (by kernel_rfl) ⟨by rw [len_map], trivial⟩ ?_
        refine AWp.cond (decide (x1552 < (a0.f6.length : Int))) rfl (fun c1553 => ?_) (fun c1553 => ?_)
        · replace H := (ifT c1553).symm.trans H
          refine AWp.skip ?_
          refine AWp.seq ?_
          refine AWp.block ?_
          obtain ⟨b1558, p1559, q1560, H⟩ := at_of H
          obtain ⟨c1561, H⟩ := chk_of H
          refine reg hP hn hm [(6, .c (eBucket b1558)), (12, .c (eBucket b1558)), (16, .app 19 ([(⟨1, a0.f1, b1558.f0, b1558.f1⟩ : Tpluvialref08_Cell)].map epluvialref08_Cell)), (17, .app 20 ((x1551 ++ [(⟨1, a0.f1, b1558.f0, b1558.f1⟩ : Tpluvialref08_Cell)]).map epluvialref08_Cell))] [1, 3, 6] [17, 20] ⟨[(1, .ptr 17 0 0), (3, .own 20), (6, iV .i64 x1552)], [(17, some (.box 35 (aHist a0))), (20, some (.row 4 54 ((x1551 ++ [(⟨1, a0.f1, b1558.f0, b1558.f1⟩ : Tpluvialref08_Cell)]).map epluvialref08_Cell)))], 0⟩ [0 ≤ x1552, (a0.f6.map eBucket)[(Int.toNat (x1552))]? = some (eBucket b1558), 0 ≤ x1552, (a0.f6.map eBucket)[(Int.toNat (x1552))]? = some (eBucket b1558), [(⟨1, a0.f1, b1558.f0, b1558.f1⟩ : Tpluvialref08_Cell)].map epluvialref08_Cell = [[iI .i64 1, iI .i64 a0.f1, iI .i64 b1558.f0, iI .u64 b1558.f1]], (x1551 ++ [(⟨1, a0.f1, b1558.f0, b1558.f1⟩ : Tpluvialref08_Cell)]).map epluvialref08_Cell = (x1551.map epluvialref08_Cell) ++ ([(⟨1, a0.f1, b1558.f0, b1558.f1⟩ : Tpluvialref08_Cell)].map epluvialref08_Cell), ∀ c ∈ ([(⟨1, a0.f1, b1558.f0, b1558.f1⟩ : Tpluvialref08_Cell)].map epluvialref08_Cell), c.length = 4, ∀ c ∈ ([(⟨1, a0.f1, b1558.f0, b1558.f1⟩ : Tpluvialref08_Cell)].map epluvialref08_Cell), leaves (c.map .im) = true, ((x1551.map epluvialref08_Cell).length + ([(⟨1, a0.f1, b1558.f0, b1558.f1⟩ : Tpluvialref08_Cell)].map epluvialref08_Cell).length) * 32 ≤ 140737488355328] (by kernel_rfl) ⟨by exact p1559, by exact el_map eBucket q1560, by exact p1559, by exact el_map eBucket q1560, by exact rfl, by simp, by exact all_len _ _ _ (fun _ => rfl), by exact all_leaf _ _ (fun _ => rfl), by simpa using c1561, trivial⟩ ?_
          refine reg hP hn hm [] [1, 3, 6] [17, 20] ⟨[(1, .ptr 17 0 0), (3, .own 20), (6, iV .i64 (IntKind.i64.wrap (x1552 + (1 : Int))))], [(17, some (.box 35 (aHist a0))), (20, some (.row 4 54 ((x1551 ++ [(⟨1, a0.f1, b1558.f0, b1558.f1⟩ : Tpluvialref08_Cell)]).map epluvialref08_Cell)))], 0⟩ [] (by kernel_rfl) trivial ?_
          exact LWp.conv (inv := [(17, 17), (20, 18)]) (vk := []) (e0 := []) (t := ⟨[(1, .ptr 17 0 0), (3, .own 18), (6, iV .i64 (IntKind.i64.wrap (x1552 + (1 : Int))))], [(17, some (.box 35 (aHist a0))), (18, some (.row 4 54 ((x1551 ++ [(⟨1, a0.f1, b1558.f0, b1558.f1⟩ : Tpluvialref08_Cell)]).map epluvialref08_Cell)))], 0⟩) (by kernel_rfl) (ih _ _ _ H)
        · replace H := (ifF c1553).symm.trans H
          refine AWp.exit ?_
          obtain rfl := Option.some.inj H
          exact Exists.intro _ (And.intro (fun _ _ h => h.conv (inv := [(18, 21)]) (vk := []) (e0 := []) (t := ⟨[(3, .own 21)], [(21, some (.row 4 54 (x1551.map epluvialref08_Cell)))], 0⟩) (by kernel_rfl)) (And.intro rfl rfl))
      · obtain ⟨x1562, rfl⟩ : ∃ z, z = o1567 := ⟨_, rfl⟩
        rintro e s ⟨rfl, rfl⟩
        refine AWp.seq ?_
        refine reg hP hn hm [] [2] [21] ⟨[(2, .own 21)], [(21, some (.row 4 54 (x1562.map epluvialref08_Cell)))], 0⟩ [] (by kernel_rfl) trivial ?_
        refine AWp.conv (inv := [(21, 0)]) (vk := []) (e0 := []) (t := ⟨[(2, .own 0)], [(0, some (.row 4 54 (x1562.map epluvialref08_Cell)))], 0⟩) (by kernel_rfl) ?_
        refine AWp.ret ?_
        obtain rfl := Option.some.inj H
        exact Exists.intro _ (And.intro (fun _ _ h => h) (And.intro (.inl rfl) (And.intro rfl (And.intro (by kernel_rfl) (by kernel_rfl)))))
def f_rank_spot.f (a0 : Trank_Place) : Option (Int) := if (decide (a0.f0 > (0 : Int))) = true then (some (IntKind.i64.wrap ((1048576 : Int) + a0.f1))) else (if (decide (a0.f0 < (0 : Int))) = true then (some (IntKind.i64.wrap ((-1048576) - a0.f1))) else (some 0))
theorem f_rank_spot.ok (a0 : Trank_Place) (r : Int) (H : f_rank_spot.f a0 = some r) : Pv.Fn Try.prog 75 [.agg (arank_Place a0)] [] 0 (fun x o => x = iV .i64 r ∧ o = []) := by
  unfold f_rank_spot.f at H
  refine Fn.bodyK [] Try.func75 rfl rfl (fun Γ hP hn => ?_)
  have hm : Try.prog.follows .mixedOrders = true := by kernel_rfl
  replace hn : Γ.n = 17 := hn
  refine AWp.seq ?_
  refine reg hP hn hm [(0, .k 0)] [1] [0] ⟨[(1, .ptr 0 0 0)], [(0, some (.box 72 (arank_Place a0)))], 0⟩ [] (by kernel_rfl) trivial ?_
  refine AWp.seq ?_
  refine AWp.block ?_
  refine AWp.seq ?_
  refine reg hP hn hm [] [1, 3] [0] ⟨[(1, .ptr 0 0 0), (3, bV (decide (a0.f0 > (0 : Int))))], [(0, some (.box 72 (arank_Place a0)))], 0⟩ [] (by kernel_rfl) trivial ?_
  refine AWp.cond (decide (a0.f0 > (0 : Int))) rfl (fun c1969 => ?_) (fun c1969 => ?_)
  · replace H := (ifT c1969).symm.trans H
    refine AWp.seq ?_
    refine reg hP hn hm [] [2] [] ⟨[(2, iV .i64 (IntKind.i64.wrap ((1048576 : Int) + a0.f1)))], [], 0⟩ [] (by kernel_rfl) trivial ?_
    refine AWp.conv (inv := []) (vk := []) (e0 := []) (t := ⟨[(2, iV .i64 (IntKind.i64.wrap ((1048576 : Int) + a0.f1)))], [], 0⟩) (by kernel_rfl) ?_
    refine AWp.ret ?_
    obtain rfl := Option.some.inj H
    exact Exists.intro _ (And.intro (fun _ _ h => h) (And.intro (.inl rfl) (And.intro rfl (And.intro (by kernel_rfl) (by kernel_rfl)))))
  · replace H := (ifF c1969).symm.trans H
    refine AWp.seq ?_
    refine reg hP hn hm [] [1, 10] [0] ⟨[(1, .ptr 0 0 0), (10, bV (decide (a0.f0 < (0 : Int))))], [(0, some (.box 72 (arank_Place a0)))], 0⟩ [] (by kernel_rfl) trivial ?_
    refine AWp.cond (decide (a0.f0 < (0 : Int))) rfl (fun c1970 => ?_) (fun c1970 => ?_)
    · replace H := (ifT c1970).symm.trans H
      refine AWp.seq ?_
      refine reg hP hn hm [] [2] [] ⟨[(2, iV .i64 (IntKind.i64.wrap ((-1048576) - a0.f1)))], [], 0⟩ [] (by kernel_rfl) trivial ?_
      refine AWp.conv (inv := []) (vk := []) (e0 := []) (t := ⟨[(2, iV .i64 (IntKind.i64.wrap ((-1048576) - a0.f1)))], [], 0⟩) (by kernel_rfl) ?_
      refine AWp.ret ?_
      obtain rfl := Option.some.inj H
      exact Exists.intro _ (And.intro (fun _ _ h => h) (And.intro (.inl rfl) (And.intro rfl (And.intro (by kernel_rfl) (by kernel_rfl)))))
    · replace H := (ifF c1970).symm.trans H
      refine AWp.skip ?_
      refine AWp.seq ?_
      refine reg hP hn hm [] [2] [] ⟨[(2, iV .i64 0)], [], 0⟩ [] (by kernel_rfl) trivial ?_
      refine AWp.conv (inv := []) (vk := []) (e0 := []) (t := ⟨[(2, iV .i64 0)], [], 0⟩) (by kernel_rfl) ?_
      refine AWp.ret ?_
      obtain rfl := Option.some.inj H
      exact Exists.intro _ (And.intro (fun _ _ h => h) (And.intro (.inl rfl) (And.intro rfl (And.intro (by kernel_rfl) (by kernel_rfl)))))
def f_rank_ends.f (a0 : THist) (a1 : Trank_Cell) : Option (Int × Int) := if (decide (a1.f0.f0 > (0 : Int))) = true then ((f_bound_Low.f a0.f1 a1.f0.f2) >>= fun t1991 => (f_bound_Units.f a0.f1 a1.f0.f2) >>= fun t1993 => some (IntKind.i64.wrap ((1048576 : Int) + t1991), IntKind.i64.wrap ((1048576 : Int) + t1993))) else (if (decide (a1.f0.f0 < (0 : Int))) = true then ((f_bound_Units.f a0.f1 a1.f0.f2) >>= fun t2000 => (f_bound_Low.f a0.f1 a1.f0.f2) >>= fun t2002 => some (IntKind.i64.wrap ((-1048576) - t2000), IntKind.i64.wrap ((-1048576) - t2002))) else (if (a0.f2 == (-524288)) = true then (some (0, 0)) else (some (IntKind.i64.wrap ((-1048576) - a0.f2), IntKind.i64.wrap ((1048576 : Int) + a0.f2)))))
theorem f_rank_ends.ok (a0 : THist) (a1 : Trank_Cell) (r : Int × Int) (H : f_rank_ends.f a0 a1 = some r) : Pv.Fn Try.prog 76 [.agg (aHist a0), .agg (apluvialref08_Cell ⟨a1.f0.f0, a1.f0.f1, a1.f0.f2, a1.f1⟩)] [] 0 (fun x o => x = .tup [iV .i64 r.1, iV .i64 r.2] ∧ o = []) := by
  unfold f_rank_ends.f at H
  refine Fn.bodyK [] Try.func76 rfl rfl (fun Γ hP hn => ?_)
  have hm : Try.prog.follows .mixedOrders = true := by kernel_rfl
  replace hn : Γ.n = 54 := hn
  refine AWp.seq ?_
  refine reg hP hn hm [(0, .k 0), (1, .k 1)] [2, 3] [0, 1] ⟨[(2, .ptr 0 0 0), (3, .ptr 1 0 0)], [(0, some (.box 35 (aHist a0))), (1, some (.box 47 [iV .i64 a1.f0.f0, iV .i64 a1.f0.f1, iV .i64 a1.f0.f2, iV .u64 a1.f1]))], 0⟩ [] (by kernel_rfl) trivial ?_
  refine AWp.seq ?_
  refine AWp.block ?_
  refine AWp.seq ?_
  refine reg hP hn hm [] [2, 3, 6] [0, 1] ⟨[(2, .ptr 0 0 0), (3, .ptr 1 0 0), (6, bV (decide (a1.f0.f0 > (0 : Int))))], [(0, some (.box 35 (aHist a0))), (1, some (.box 47 [iV .i64 a1.f0.f0, iV .i64 a1.f0.f1, iV .i64 a1.f0.f2, iV .u64 a1.f1]))], 0⟩ [] (by kernel_rfl) trivial ?_
  refine AWp.cond (decide (a1.f0.f0 > (0 : Int))) rfl (fun c1986 => ?_) (fun c1986 => ?_)
  · replace H := (ifT c1986).symm.trans H
    refine AWp.seq ?_
    obtain ⟨t1991, e1992, H⟩ := bind_of H
    obtain ⟨t1993, e1994, H⟩ := bind_of H
    refine reg hP hn hm [(5, .call [] [] [] [] 0 (iV .i64 t1991) []), (12, .call [] [] [] [] 0 (iV .i64 t1993) [])] [4, 5] [] ⟨[(4, iV .i64 (IntKind.i64.wrap ((1048576 : Int) + t1991))), (5, iV .i64 (IntKind.i64.wrap ((1048576 : Int) + t1993)))], [], 0⟩ [Enters Try.prog 84, Pv.Fn Try.prog 84 [iV .i64 a0.f1, iV .i64 a1.f0.f2] [] 0 (fun r o => r = iV .i64 t1991 ∧ o = []), Enters Try.prog 43, Pv.Fn Try.prog 43 [iV .i64 a0.f1, iV .i64 a1.f0.f2] [] 0 (fun r o => r = iV .i64 t1993 ∧ o = [])] (by kernel_rfl) ⟨by exact Try.call84, by exact f_bound_Low.ok a0.f1 a1.f0.f2 t1991 e1992, by exact Try.call43, by exact f_bound_Units.ok a0.f1 a1.f0.f2 t1993 e1994, trivial⟩ ?_
    refine AWp.conv (inv := []) (vk := []) (e0 := []) (t := ⟨[(4, iV .i64 (IntKind.i64.wrap ((1048576 : Int) + t1991))), (5, iV .i64 (IntKind.i64.wrap ((1048576 : Int) + t1993)))], [], 0⟩) (by kernel_rfl) ?_
    refine AWp.ret ?_
    obtain rfl := Option.some.inj H
    exact Exists.intro _ (And.intro (fun _ _ h => h) (And.intro (.inl rfl) (And.intro rfl (And.intro (by kernel_rfl) (by kernel_rfl)))))
  · replace H := (ifF c1986).symm.trans H
    refine AWp.seq ?_
    refine reg hP hn hm [] [2, 3, 25] [0, 1] ⟨[(2, .ptr 0 0 0), (3, .ptr 1 0 0), (25, bV (decide (a1.f0.f0 < (0 : Int))))], [(0, some (.box 35 (aHist a0))), (1, some (.box 47 [iV .i64 a1.f0.f0, iV .i64 a1.f0.f1, iV .i64 a1.f0.f2, iV .u64 a1.f1]))], 0⟩ [] (by kernel_rfl) trivial ?_
    refine AWp.cond (decide (a1.f0.f0 < (0 : Int))) rfl (fun c1995 => ?_) (fun c1995 => ?_)
    · replace H := (ifT c1995).symm.trans H
      refine AWp.seq ?_
      obtain ⟨t2000, e2001, H⟩ := bind_of H
      obtain ⟨t2002, e2003, H⟩ := bind_of H
      refine reg hP hn hm [(5, .call [] [] [] [] 0 (iV .i64 t2000) []), (12, .call [] [] [] [] 0 (iV .i64 t2002) [])] [4, 5] [] ⟨[(4, iV .i64 (IntKind.i64.wrap ((-1048576) - t2000))), (5, iV .i64 (IntKind.i64.wrap ((-1048576) - t2002)))], [], 0⟩ [Enters Try.prog 43, Pv.Fn Try.prog 43 [iV .i64 a0.f1, iV .i64 a1.f0.f2] [] 0 (fun r o => r = iV .i64 t2000 ∧ o = []), Enters Try.prog 84, Pv.Fn Try.prog 84 [iV .i64 a0.f1, iV .i64 a1.f0.f2] [] 0 (fun r o => r = iV .i64 t2002 ∧ o = [])] (by kernel_rfl) ⟨by exact Try.call43, by exact f_bound_Units.ok a0.f1 a1.f0.f2 t2000 e2001, by exact Try.call84, by exact f_bound_Low.ok a0.f1 a1.f0.f2 t2002 e2003, trivial⟩ ?_
      refine AWp.conv (inv := []) (vk := []) (e0 := []) (t := ⟨[(4, iV .i64 (IntKind.i64.wrap ((-1048576) - t2000))), (5, iV .i64 (IntKind.i64.wrap ((-1048576) - t2002)))], [], 0⟩) (by kernel_rfl) ?_
      refine AWp.ret ?_
      obtain rfl := Option.some.inj H
      exact Exists.intro _ (And.intro (fun _ _ h => h) (And.intro (.inl rfl) (And.intro rfl (And.intro (by kernel_rfl) (by kernel_rfl)))))
    · replace H := (ifF c1995).symm.trans H
      refine AWp.seq ?_
      refine reg hP hn hm [] [2, 44] [0] ⟨[(2, .ptr 0 0 0), (44, bV (a0.f2 == (-524288)))], [(0, some (.box 35 (aHist a0)))], 0⟩ [] (by kernel_rfl) trivial ?_
      refine AWp.cond (a0.f2 == (-524288)) rfl (fun c2004 => ?_) (fun c2004 => ?_)
      · replace H := (ifT c2004).symm.trans H
        refine AWp.seq ?_
        refine reg hP hn hm [] [4, 5] [] ⟨[(4, iV .i64 0), (5, iV .i64 0)], [], 0⟩ [] (by kernel_rfl) trivial ?_
        refine AWp.conv (inv := []) (vk := []) (e0 := []) (t := ⟨[(4, iV .i64 0), (5, iV .i64 0)], [], 0⟩) (by kernel_rfl) ?_
        refine AWp.ret ?_
        obtain rfl := Option.some.inj H
        exact Exists.intro _ (And.intro (fun _ _ h => h) (And.intro (.inl rfl) (And.intro rfl (And.intro (by kernel_rfl) (by kernel_rfl)))))
      · replace H := (ifF c2004).symm.trans H
        refine AWp.skip ?_
        refine AWp.seq ?_
        refine reg hP hn hm [] [4, 5] [] ⟨[(4, iV .i64 (IntKind.i64.wrap ((-1048576) - a0.f2))), (5, iV .i64 (IntKind.i64.wrap ((1048576 : Int) + a0.f2)))], [], 0⟩ [] (by kernel_rfl) trivial ?_
        refine AWp.conv (inv := []) (vk := []) (e0 := []) (t := ⟨[(4, iV .i64 (IntKind.i64.wrap ((-1048576) - a0.f2))), (5, iV .i64 (IntKind.i64.wrap ((1048576 : Int) + a0.f2)))], [], 0⟩) (by kernel_rfl) ?_
        refine AWp.ret ?_
        obtain rfl := Option.some.inj H
        exact Exists.intro _ (And.intro (fun _ _ h => h) (And.intro (.inl rfl) (And.intro rfl (And.intro (by kernel_rfl) (by kernel_rfl)))))
end Go.Proofs.Yteogljahemehkaa.PvGC
set_option linter.unusedVariables false
set_option linter.unnecessarySimpa false
set_option linter.unusedSimpArgs false
set_option maxRecDepth 10000
namespace Go.Proofs.Yteogljahemehkaa.PvGC
open Go Go.Pv
def f_rank_Below.l0 (a0 : THist) (t1973 : Int) (t1977 : List Trank_Cell) (x2014 : Int) (x2015 : Int) (x2016 : Int) : Option (Int × Int) := if (decide (x2016 < (t1977.length : Int))) = true then ((at? t1977 x2016) >>= fun b2021 => (f_rank_ends.f a0 b2021) >>= fun t2026 => ((if (decide (t2026.2 ≤ t1973)) = true then (some (IntKind.u64.wrap (x2014 + b2021.f1), x2015)) else (((if (decide (t2026.1 < t1973)) = true then (some (IntKind.u64.wrap (x2015 + b2021.f1))) else (some x2015)) : Option (Int)) >>= fun x2030 => some (x2014, x2030))) : Option (Int × Int)) >>= fun oo => match oo with | (x2031, x2032) => (f_rank_Below.l0 a0 t1973 t1977 x2031 x2032 (IntKind.i64.wrap (x2016 + (1 : Int))))) else (some (x2014, x2015))
partial_fixpoint
def f_rank_Below.f (a0 : THist) (a1 : Trank_Place) : Option (Trank_Part × Int) := ((if (decide (a1.f0 < (-1))) = true then (some true) else (if (decide (a1.f0 > (1 : Int))) = true then (some true) else (if (a1.f0 != (0 : Int)) = true then (if (decide (a1.f1 ≤ (-262144))) = true then (some true) else (if (decide (a1.f1 > (262144 : Int))) = true then (some true) else (if (a1.f0 == (0 : Int)) = true then (some (a1.f1 != (0 : Int))) else (some false)))) else (if (a1.f0 == (0 : Int)) = true then (some (a1.f1 != (0 : Int))) else (some false))))) : Option (Bool)) >>= fun x1966 => if x1966 = true then (some ((⟨0, 0, 0⟩ : Trank_Part), 1)) else (if (a0.f4 == (0 : Int)) = true then (some ((⟨0, 0, 0⟩ : Trank_Part), 30)) else ((f_rank_spot.f a1) >>= fun t1973 => (f_rank_Order.f a0) >>= fun t1977 => (f_rank_Below.l0 a0 t1973 t1977 0 0 0) >>= fun oo => match oo with | (x2033, x2034) => (some ((⟨x2033, x2034, a0.f4⟩ : Trank_Part), 0))))
theorem f_rank_Below.ok (a0 : THist) (a1 : Trank_Place) (r : Trank_Part × Int) (H : f_rank_Below.f a0 a1 = some r) : Pv.Fn Try.prog 34 [.agg (aHist a0), .agg (arank_Place a1)] [] 0 (fun x o => x = .tup [.agg (arank_Part (r.1)), iV .i64 r.2] ∧ o = []) := by
  unfold f_rank_Below.f at H
  refine Fn.bodyK [] Try.func34 rfl rfl (fun Γ hP hn => ?_)
  have hm : Try.prog.follows .mixedOrders = true := by kernel_rfl
  replace hn : Γ.n = 90 := hn
  refine AWp.seq ?_
  refine reg hP hn hm [(0, .k 0), (1, .k 1), (2, .k 2)] [2, 3, 4] [0, 1, 2] ⟨[(2, .ptr 0 0 0), (3, .ptr 1 0 0), (4, .ptr 2 0 0)], [(0, some (.box 35 (aHist a0))), (1, some (.box 72 (arank_Place a1))), (2, some (.box 74 (arank_Part ⟨0, 0, 0⟩)))], 0⟩ [] (by kernel_rfl) trivial ?_
  refine AWp.seq ?_
  refine AWp.seq ?_
  obtain ⟨o2035, e2036, H⟩ := bind_of H
  refine AWp.mono (Q := fun e s => (match (generalizing := false) o2035 with | x1966 => e = .normal ∧ s = ⟨[(2, .ptr 3 0 0), (3, .ptr 4 0 0), (4, .ptr 5 0 0), (44, bV x1966)], [(3, some (.box 35 (aHist a0))), (4, some (.box 72 (arank_Place a1))), (5, some (.box 74 (arank_Part ⟨0, 0, 0⟩)))], 0⟩)) (AWp.cv ?_) ?_
  · replace H := e2036; clear e2036
    rcases Bool.eq_false_or_eq_true (decide (a1.f0 < (-1))) with c1959 | c1959
    · replace H := (ifT c1959).symm.trans H
      refine reg hP hn hm [(3, .b true)] [2, 3, 4, 44] [0, 1, 2] ⟨[(2, .ptr 0 0 0), (3, .ptr 1 0 0), (4, .ptr 2 0 0), (44, bV true)], [(0, some (.box 35 (aHist a0))), (1, some (.box 72 (arank_Place a1))), (2, some (.box 74 (arank_Part ⟨0, 0, 0⟩)))], 0⟩ [(decide (a1.f0 < (-1))) = true] (by kernel_rfl) ⟨by exact c1959, trivial⟩ ?_
      obtain rfl := Option.some.inj H
      exact Exists.intro _ (And.intro (fun _ _ h => h.conv (inv := [(0, 3), (1, 4), (2, 5)]) (vk := []) (e0 := []) (t := ⟨[(2, .ptr 3 0 0), (3, .ptr 4 0 0), (4, .ptr 5 0 0), (44, bV true)], [(3, some (.box 35 (aHist a0))), (4, some (.box 72 (arank_Place a1))), (5, some (.box 74 (arank_Part ⟨0, 0, 0⟩)))], 0⟩) (by kernel_rfl)) (And.intro rfl rfl))
    · replace H := (ifF c1959).symm.trans H
      rcases Bool.eq_false_or_eq_true (decide (a1.f0 > (1 : Int))) with c1960 | c1960
      · replace H := (ifT c1960).symm.trans H
        refine reg hP hn hm [(3, .b false), (8, .b true)] [2, 3, 4, 44] [0, 1, 2] ⟨[(2, .ptr 0 0 0), (3, .ptr 1 0 0), (4, .ptr 2 0 0), (44, bV true)], [(0, some (.box 35 (aHist a0))), (1, some (.box 72 (arank_Place a1))), (2, some (.box 74 (arank_Part ⟨0, 0, 0⟩)))], 0⟩ [(decide (a1.f0 < (-1))) = false, (decide (a1.f0 > (1 : Int))) = true] (by kernel_rfl) ⟨by exact c1959, by exact c1960, trivial⟩ ?_
        obtain rfl := Option.some.inj H
        exact Exists.intro _ (And.intro (fun _ _ h => h.conv (inv := [(0, 3), (1, 4), (2, 5)]) (vk := []) (e0 := []) (t := ⟨[(2, .ptr 3 0 0), (3, .ptr 4 0 0), (4, .ptr 5 0 0), (44, bV true)], [(3, some (.box 35 (aHist a0))), (4, some (.box 72 (arank_Place a1))), (5, some (.box 74 (arank_Part ⟨0, 0, 0⟩)))], 0⟩) (by kernel_rfl)) (And.intro rfl rfl))
      · replace H := (ifF c1960).symm.trans H
        rcases Bool.eq_false_or_eq_true (a1.f0 != (0 : Int)) with c1961 | c1961
        · replace H := (ifT c1961).symm.trans H
          rcases Bool.eq_false_or_eq_true (decide (a1.f1 ≤ (-262144))) with c1962 | c1962
          · replace H := (ifT c1962).symm.trans H
            refine reg hP hn hm [(3, .b false), (8, .b false), (12, .b true), (16, .b true)] [2, 3, 4, 44] [0, 1, 2] ⟨[(2, .ptr 0 0 0), (3, .ptr 1 0 0), (4, .ptr 2 0 0), (44, bV true)], [(0, some (.box 35 (aHist a0))), (1, some (.box 72 (arank_Place a1))), (2, some (.box 74 (arank_Part ⟨0, 0, 0⟩)))], 0⟩ [(decide (a1.f0 < (-1))) = false, (decide (a1.f0 > (1 : Int))) = false, (a1.f0 != (0 : Int)) = true, (decide (a1.f1 ≤ (-262144))) = true] (by kernel_rfl) ⟨by exact c1959, by exact c1960, by exact c1961, by exact c1962, trivial⟩ ?_
            obtain rfl := Option.some.inj H
            exact Exists.intro _ (And.intro (fun _ _ h => h.conv (inv := [(0, 3), (1, 4), (2, 5)]) (vk := []) (e0 := []) (t := ⟨[(2, .ptr 3 0 0), (3, .ptr 4 0 0), (4, .ptr 5 0 0), (44, bV true)], [(3, some (.box 35 (aHist a0))), (4, some (.box 72 (arank_Place a1))), (5, some (.box 74 (arank_Part ⟨0, 0, 0⟩)))], 0⟩) (by kernel_rfl)) (And.intro rfl rfl))
          · replace H := (ifF c1962).symm.trans H
            rcases Bool.eq_false_or_eq_true (decide (a1.f1 > (262144 : Int))) with c1963 | c1963
            · replace H := (ifT c1963).symm.trans H
              refine reg hP hn hm [(3, .b false), (8, .b false), (12, .b true), (16, .b false), (23, .b true)] [2, 3, 4, 44] [0, 1, 2] ⟨[(2, .ptr 0 0 0), (3, .ptr 1 0 0), (4, .ptr 2 0 0), (44, bV true)], [(0, some (.box 35 (aHist a0))), (1, some (.box 72 (arank_Place a1))), (2, some (.box 74 (arank_Part ⟨0, 0, 0⟩)))], 0⟩ [(decide (a1.f0 < (-1))) = false, (decide (a1.f0 > (1 : Int))) = false, (a1.f0 != (0 : Int)) = true, (decide (a1.f1 ≤ (-262144))) = false, (decide (a1.f1 > (262144 : Int))) = true] (by kernel_rfl) ⟨by exact c1959, by exact c1960, by exact c1961, by exact c1962, by exact c1963, trivial⟩ ?_
              obtain rfl := Option.some.inj H
              exact Exists.intro _ (And.intro (fun _ _ h => h.conv (inv := [(0, 3), (1, 4), (2, 5)]) (vk := []) (e0 := []) (t := ⟨[(2, .ptr 3 0 0), (3, .ptr 4 0 0), (4, .ptr 5 0 0), (44, bV true)], [(3, some (.box 35 (aHist a0))), (4, some (.box 72 (arank_Place a1))), (5, some (.box 74 (arank_Part ⟨0, 0, 0⟩)))], 0⟩) (by kernel_rfl)) (And.intro rfl rfl))
            · replace H := (ifF c1963).symm.trans H
              rcases Bool.eq_false_or_eq_true (a1.f0 == (0 : Int)) with c1964 | c1964
              · replace H := (ifT c1964).symm.trans H
                refine reg hP hn hm [(3, .b false), (8, .b false), (12, .b true), (16, .b false), (23, .b false), (27, .b true)] [2, 3, 4, 44] [0, 1, 2] ⟨[(2, .ptr 0 0 0), (3, .ptr 1 0 0), (4, .ptr 2 0 0), (44, bV (a1.f1 != (0 : Int)))], [(0, some (.box 35 (aHist a0))), (1, some (.box 72 (arank_Place a1))), (2, some (.box 74 (arank_Part ⟨0, 0, 0⟩)))], 0⟩ [(decide (a1.f0 < (-1))) = false, (decide (a1.f0 > (1 : Int))) = false, (a1.f0 != (0 : Int)) = true, (decide (a1.f1 ≤ (-262144))) = false, (decide (a1.f1 > (262144 : Int))) = false, (a1.f0 == (0 : Int)) = true] (by kernel_rfl) ⟨by exact c1959, by exact c1960, by exact c1961, by exact c1962, by exact c1963, by exact c1964, trivial⟩ ?_
                obtain rfl := Option.some.inj H
                exact Exists.intro _ (And.intro (fun _ _ h => h.conv (inv := [(0, 3), (1, 4), (2, 5)]) (vk := []) (e0 := []) (t := ⟨[(2, .ptr 3 0 0), (3, .ptr 4 0 0), (4, .ptr 5 0 0), (44, bV (a1.f1 != (0 : Int)))], [(3, some (.box 35 (aHist a0))), (4, some (.box 72 (arank_Place a1))), (5, some (.box 74 (arank_Part ⟨0, 0, 0⟩)))], 0⟩) (by kernel_rfl)) (And.intro rfl rfl))
              · replace H := (ifF c1964).symm.trans H
                refine reg hP hn hm [(3, .b false), (8, .b false), (12, .b true), (16, .b false), (23, .b false), (27, .b false)] [2, 3, 4, 44] [0, 1, 2] ⟨[(2, .ptr 0 0 0), (3, .ptr 1 0 0), (4, .ptr 2 0 0), (44, bV false)], [(0, some (.box 35 (aHist a0))), (1, some (.box 72 (arank_Place a1))), (2, some (.box 74 (arank_Part ⟨0, 0, 0⟩)))], 0⟩ [(decide (a1.f0 < (-1))) = false, (decide (a1.f0 > (1 : Int))) = false, (a1.f0 != (0 : Int)) = true, (decide (a1.f1 ≤ (-262144))) = false, (decide (a1.f1 > (262144 : Int))) = false, (a1.f0 == (0 : Int)) = false] (by kernel_rfl) ⟨by exact c1959, by exact c1960, by exact c1961, by exact c1962, by exact c1963, by exact c1964, trivial⟩ ?_
                obtain rfl := Option.some.inj H
                exact Exists.intro _ (And.intro (fun _ _ h => h.conv (inv := [(0, 3), (1, 4), (2, 5)]) (vk := []) (e0 := []) (t := ⟨[(2, .ptr 3 0 0), (3, .ptr 4 0 0), (4, .ptr 5 0 0), (44, bV false)], [(3, some (.box 35 (aHist a0))), (4, some (.box 72 (arank_Place a1))), (5, some (.box 74 (arank_Part ⟨0, 0, 0⟩)))], 0⟩) (by kernel_rfl)) (And.intro rfl rfl))
        · replace H := (ifF c1961).symm.trans H
          rcases Bool.eq_false_or_eq_true (a1.f0 == (0 : Int)) with c1965 | c1965
          · replace H := (ifT c1965).symm.trans H
            refine reg hP hn hm [(3, .b false), (8, .b false), (12, .b false), (27, .b true)] [2, 3, 4, 44] [0, 1, 2] ⟨[(2, .ptr 0 0 0), (3, .ptr 1 0 0), (4, .ptr 2 0 0), (44, bV (a1.f1 != (0 : Int)))], [(0, some (.box 35 (aHist a0))), (1, some (.box 72 (arank_Place a1))), (2, some (.box 74 (arank_Part ⟨0, 0, 0⟩)))], 0⟩ [(decide (a1.f0 < (-1))) = false, (decide (a1.f0 > (1 : Int))) = false, (a1.f0 != (0 : Int)) = false, (a1.f0 == (0 : Int)) = true] (by kernel_rfl) ⟨by exact c1959, by exact c1960, by exact c1961, by exact c1965, trivial⟩ ?_
            obtain rfl := Option.some.inj H
            exact Exists.intro _ (And.intro (fun _ _ h => h.conv (inv := [(0, 3), (1, 4), (2, 5)]) (vk := []) (e0 := []) (t := ⟨[(2, .ptr 3 0 0), (3, .ptr 4 0 0), (4, .ptr 5 0 0), (44, bV (a1.f1 != (0 : Int)))], [(3, some (.box 35 (aHist a0))), (4, some (.box 72 (arank_Place a1))), (5, some (.box 74 (arank_Part ⟨0, 0, 0⟩)))], 0⟩) (by kernel_rfl)) (And.intro rfl rfl))
          · replace H := (ifF c1965).symm.trans H
            refine reg hP hn hm [(3, .b false), (8, .b false), (12, .b false), (27, .b false)] [2, 3, 4, 44] [0, 1, 2] ⟨[(2, .ptr 0 0 0), (3, .ptr 1 0 0), (4, .ptr 2 0 0), (44, bV false)], [(0, some (.box 35 (aHist a0))), (1, some (.box 72 (arank_Place a1))), (2, some (.box 74 (arank_Part ⟨0, 0, 0⟩)))], 0⟩ [(decide (a1.f0 < (-1))) = false, (decide (a1.f0 > (1 : Int))) = false, (a1.f0 != (0 : Int)) = false, (a1.f0 == (0 : Int)) = false] (by kernel_rfl) ⟨by exact c1959, by exact c1960, by exact c1961, by exact c1965, trivial⟩ ?_
            obtain rfl := Option.some.inj H
            exact Exists.intro _ (And.intro (fun _ _ h => h.conv (inv := [(0, 3), (1, 4), (2, 5)]) (vk := []) (e0 := []) (t := ⟨[(2, .ptr 3 0 0), (3, .ptr 4 0 0), (4, .ptr 5 0 0), (44, bV false)], [(3, some (.box 35 (aHist a0))), (4, some (.box 72 (arank_Place a1))), (5, some (.box 74 (arank_Part ⟨0, 0, 0⟩)))], 0⟩) (by kernel_rfl)) (And.intro rfl rfl))
  · obtain ⟨x1966, rfl⟩ : ∃ z, z = o2035 := ⟨_, rfl⟩
    rintro e s ⟨rfl, rfl⟩
    refine AWp.cond x1966 rfl (fun c1967 => ?_) (fun c1967 => ?_)
    · replace H := (ifT c1967).symm.trans H
      refine AWp.seq ?_
      refine reg hP hn hm [] [4, 5] [5] ⟨[(4, .ptr 5 0 0), (5, iV .i64 1)], [(5, some (.box 74 (arank_Part ⟨0, 0, 0⟩)))], 0⟩ [] (by kernel_rfl) trivial ?_
      refine AWp.conv (inv := [(5, 0)]) (vk := []) (e0 := []) (t := ⟨[(4, .ptr 0 0 0), (5, iV .i64 1)], [(0, some (.box 74 (arank_Part ((⟨0, 0, 0⟩ : Trank_Part)))))], 0⟩) (by kernel_rfl) ?_
      refine AWp.ret ?_
      obtain rfl := Option.some.inj H
      exact Exists.intro _ (And.intro (fun _ _ h => h) (And.intro (.inl rfl) (And.intro rfl (And.intro (by kernel_rfl) (by kernel_rfl)))))
    · replace H := (ifF c1967).symm.trans H
      refine AWp.skip ?_
      refine AWp.seq ?_
      refine AWp.seq ?_
      refine reg hP hn hm [] [2, 3, 4, 48] [3, 4, 5] ⟨[(2, .ptr 3 0 0), (3, .ptr 4 0 0), (4, .ptr 5 0 0), (48, bV (a0.f4 == (0 : Int)))], [(3, some (.box 35 (aHist a0))), (4, some (.box 72 (arank_Place a1))), (5, some (.box 74 (arank_Part ⟨0, 0, 0⟩)))], 0⟩ [] (by kernel_rfl) trivial ?_
      refine AWp.cond (a0.f4 == (0 : Int)) rfl (fun c1968 => ?_) (fun c1968 => ?_)
      · replace H := (ifT c1968).symm.trans H
        refine AWp.seq ?_
        refine reg hP hn hm [] [4, 5] [5] ⟨[(4, .ptr 5 0 0), (5, iV .i64 30)], [(5, some (.box 74 (arank_Part ⟨0, 0, 0⟩)))], 0⟩ [] (by kernel_rfl) trivial ?_
        refine AWp.conv (inv := [(5, 0)]) (vk := []) (e0 := []) (t := ⟨[(4, .ptr 0 0 0), (5, iV .i64 30)], [(0, some (.box 74 (arank_Part ((⟨0, 0, 0⟩ : Trank_Part)))))], 0⟩) (by kernel_rfl) ?_
        refine AWp.ret ?_
        obtain rfl := Option.some.inj H
        exact Exists.intro _ (And.intro (fun _ _ h => h) (And.intro (.inl rfl) (And.intro rfl (And.intro (by kernel_rfl) (by kernel_rfl)))))
      · replace H := (ifF c1968).symm.trans H
        refine AWp.skip ?_
        refine AWp.seq ?_
        refine reg hP hn hm [(3, .k 6)] [2, 3, 4, 6] [3, 4, 5, 6] ⟨[(2, .ptr 3 0 0), (3, .ptr 4 0 0), (4, .ptr 5 0 0), (6, .ptr 6 0 0)], [(3, some (.box 35 (aHist a0))), (4, some (.box 72 (arank_Place a1))), (5, some (.box 74 (arank_Part ⟨0, 0, 0⟩))), (6, some (.box 74 (arank_Part ⟨0, 0, a0.f4⟩)))], 0⟩ [] (by kernel_rfl) trivial ?_
        refine AWp.seq ?_
        obtain ⟨t1973, e1974, H⟩ := bind_of H
        refine reg hP hn hm [(1, .call [] [] [] [] 0 (iV .i64 t1973) [])] [2, 4, 6, 7] [3, 5, 6] ⟨[(2, .ptr 3 0 0), (4, .ptr 5 0 0), (6, .ptr 6 0 0), (7, iV .i64 t1973)], [(3, some (.box 35 (aHist a0))), (5, some (.box 74 (arank_Part ⟨0, 0, 0⟩))), (6, some (.box 74 (arank_Part ⟨0, 0, a0.f4⟩)))], 0⟩ [Enters Try.prog 75, Pv.Fn Try.prog 75 [.agg (arank_Place a1)] [] 0 (fun r o => r = iV .i64 t1973 ∧ o = [])] (by kernel_rfl) ⟨by exact Try.call75, by exact f_rank_spot.ok a1 t1973 e1974, trivial⟩ ?_
        refine AWp.seq ?_
        refine AWp.seq ?_
        obtain ⟨t1977, e1978, H⟩ := bind_of H
        refine reg hP hn hm [(1, .call [] [(0, 7)] [] [7] 0 (.own 0) [(0, some (.row 4 47 (t1977.map erank_Cell)))]), (2, .any (iV .i64 (t1977.length : Int)))] [2, 4, 6, 7, 56, 57, 58] [3, 5, 6, 7] ⟨[(2, .ptr 3 0 0), (4, .ptr 5 0 0), (6, .ptr 6 0 0), (7, iV .i64 t1973), (56, .own 7), (57, iV .i64 (t1977.length : Int)), (58, iV .i64 0)], [(3, some (.box 35 (aHist a0))), (5, some (.box 74 (arank_Part ⟨0, 0, 0⟩))), (6, some (.box 74 (arank_Part ⟨0, 0, a0.f4⟩))), (7, some (.row 4 47 (t1977.map erank_Cell)))], 0⟩ [Enters Try.prog 21, Pv.Fn Try.prog 21 [.agg (aHist a0)] [] 0 (fun r o => r = .own 0 ∧ o = [(0, some (.row 4 47 (t1977.map erank_Cell)))]), ((t1977.map erank_Cell).length : Int) = (t1977.length : Int)] (by kernel_rfl) ⟨by exact Try.call21, by exact f_rank_Order.ok a0 t1977 e1978, by rw [len_map], trivial⟩ ?_
        refine AWp.block ?_
        obtain ⟨o2037, e2038, H⟩ := bind_of H
        refine AWp.loop (LWp.conv (inv := [(3, 17), (5, 18), (6, 19), (7, 20)]) (vk := []) (e0 := []) (t := ⟨[(2, .ptr 17 0 0), (4, .ptr 18 0 0), (6, .ptr 19 0 0), (7, iV .i64 t1973), (56, .own 20), (57, iV .i64 (t1977.length : Int)), (58, iV .i64 0)], [(17, some (.box 35 (aHist a0))), (18, some (.box 74 (arank_Part ⟨0, 0, 0⟩))), (19, some (.box 74 (arank_Part ⟨0, 0, a0.f4⟩))), (20, some (.row 4 47 (t1977.map erank_Cell)))], 0⟩) (by kernel_rfl) ?_)
        refine LWp.mono (Q := fun e s => (match (generalizing := false) o2037 with | (x2033, x2034) => e = .exit 0 ∧ s = ⟨[(4, .ptr 30 0 0), (6, .ptr 31 0 0)], [(30, some (.box 74 (arank_Part ⟨0, 0, 0⟩))), (31, some (.box 74 (arank_Part ⟨x2033, x2034, a0.f4⟩)))], 0⟩)) (LWp.cv (withBody (fun body hbody => ?_))) ?_
        · refine f_rank_Below.l0.partial_correctness a0 t1973 t1977 (motive := fun x2014 x2015 x2016 o2037 => LWp Γ body (fun e s => ∃ t, Cv Γ s t ∧ (match (generalizing := false) o2037 with | (x2033, x2034) => e = .exit 0 ∧ t = ⟨[(4, .ptr 30 0 0), (6, .ptr 31 0 0)], [(30, some (.box 74 (arank_Part ⟨0, 0, 0⟩))), (31, some (.box 74 (arank_Part ⟨x2033, x2034, a0.f4⟩)))], 0⟩)) ⟨[(2, .ptr 17 0 0), (4, .ptr 18 0 0), (6, .ptr 19 0 0), (7, iV .i64 t1973), (56, .own 20), (57, iV .i64 (t1977.length : Int)), (58, iV .i64 x2016)], [(17, some (.box 35 (aHist a0))), (18, some (.box 74 (arank_Part ⟨0, 0, 0⟩))), (19, some (.box 74 (arank_Part ⟨x2014, x2015, a0.f4⟩))), (20, some (.row 4 47 (t1977.map erank_Cell)))], 0⟩) ?_ _ _ _ _ e2038
          clear H e2038 o2037; intro self ih x2014 x2015 x2016 o2037 H
          subst hbody
          refine LWp.round ?_
          refine AWp.seq ?_
          refine reg hP hn hm [] [2, 4, 6, 7, 56, 57, 58, 59] [17, 18, 19, 20] ⟨[(2, .ptr 17 0 0), (4, .ptr 18 0 0), (6, .ptr 19 0 0), (7, iV .i64 t1973), (56, .own 20), (57, iV .i64 (t1977.length : Int)), (58, iV .i64 x2016), (59, bV (decide (x2016 < (t1977.length : Int))))], [(17, some (.box 35 (aHist a0))), (18, some (.box 74 (arank_Part ⟨0, 0, 0⟩))), (19, some (.box 74 (arank_Part ⟨x2014, x2015, a0.f4⟩))), (20, some (.row 4 47 (t1977.map erank_Cell)))], 0⟩ [] (by kernel_rfl) trivial ?_
          refine AWp.seq ?_
          refine AWp.cond (decide (x2016 < (t1977.length : Int))) rfl (fun c2017 => ?_) (fun c2017 => ?_)
          · replace H := (ifT c2017).symm.trans H
            refine AWp.skip ?_
            refine AWp.seq ?_
            refine AWp.block ?_
            refine AWp.seq ?_
            obtain ⟨b2021, p2022, q2023, H⟩ := at_of H
            refine reg hP hn hm [(1, .c (erank_Cell b2021)), (2, .k 21)] [2, 4, 6, 7, 9, 56, 57, 58] [17, 18, 19, 20, 21] ⟨[(2, .ptr 17 0 0), (4, .ptr 18 0 0), (6, .ptr 19 0 0), (7, iV .i64 t1973), (9, .ptr 21 0 0), (56, .own 20), (57, iV .i64 (t1977.length : Int)), (58, iV .i64 x2016)], [(17, some (.box 35 (aHist a0))), (18, some (.box 74 (arank_Part ⟨0, 0, 0⟩))), (19, some (.box 74 (arank_Part ⟨x2014, x2015, a0.f4⟩))), (20, some (.row 4 47 (t1977.map erank_Cell))), (21, some (.box 47 [iV .i64 b2021.f0.f0, iV .i64 b2021.f0.f1, iV .i64 b2021.f0.f2, iV .u64 b2021.f1]))], 0⟩ [0 ≤ x2016, x2016 < (((t1977.map erank_Cell).length : Nat) : Int), (t1977.map erank_Cell)[(Int.toNat (x2016))]? = some (erank_Cell b2021)] (by kernel_rfl) ⟨by exact p2022, by exact el_lt erank_Cell p2022 q2023, by exact el_map erank_Cell q2023, trivial⟩ ?_
            refine AWp.seq ?_
            obtain ⟨t2026, e2027, H⟩ := bind_of H
            refine reg hP hn hm [(2, .call [] [] [] [] 0 (.tup [iV .i64 t2026.1, iV .i64 t2026.2]) [])] [2, 4, 6, 7, 9, 10, 11, 56, 57, 58] [17, 18, 19, 20, 21] ⟨[(2, .ptr 17 0 0), (4, .ptr 18 0 0), (6, .ptr 19 0 0), (7, iV .i64 t1973), (9, .ptr 21 0 0), (10, iV .i64 t2026.1), (11, iV .i64 t2026.2), (56, .own 20), (57, iV .i64 (t1977.length : Int)), (58, iV .i64 x2016)], [(17, some (.box 35 (aHist a0))), (18, some (.box 74 (arank_Part ⟨0, 0, 0⟩))), (19, some (.box 74 (arank_Part ⟨x2014, x2015, a0.f4⟩))), (20, some (.row 4 47 (t1977.map erank_Cell))), (21, some (.box 47 [iV .i64 b2021.f0.f0, iV .i64 b2021.f0.f1, iV .i64 b2021.f0.f2, iV .u64 b2021.f1]))], 0⟩ [Enters Try.prog 76, Pv.Fn Try.prog 76 [.agg (aHist a0), .agg (apluvialref08_Cell ⟨b2021.f0.f0, b2021.f0.f1, b2021.f0.f2, b2021.f1⟩)] [] 0 (fun r o => r = .tup [iV .i64 t2026.1, iV .i64 t2026.2] ∧ o = [])] (by kernel_rfl) ⟨by exact Try.call76, by exact f_rank_ends.ok a0 b2021 t2026 e2027, trivial⟩ ?_
            refine AWp.block ?_
            refine AWp.seq ?_
            refine reg hP hn hm [] [2, 4, 6, 7, 9, 10, 56, 57, 58, 68] [17, 18, 19, 20, 21] ⟨[(2, .ptr 17 0 0), (4, .ptr 18 0 0), (6, .ptr 19 0 0), (7, iV .i64 t1973), (9, .ptr 21 0 0), (10, iV .i64 t2026.1), (56, .own 20), (57, iV .i64 (t1977.length : Int)), (58, iV .i64 x2016), (68, bV (decide (t2026.2 ≤ t1973)))], [(17, some (.box 35 (aHist a0))), (18, some (.box 74 (arank_Part ⟨0, 0, 0⟩))), (19, some (.box 74 (arank_Part ⟨x2014, x2015, a0.f4⟩))), (20, some (.row 4 47 (t1977.map erank_Cell))), (21, some (.box 47 [iV .i64 b2021.f0.f0, iV .i64 b2021.f0.f1, iV .i64 b2021.f0.f2, iV .u64 b2021.f1]))], 0⟩ [] (by kernel_rfl) trivial ?_
            obtain ⟨o2039, e2040, H⟩ := bind_of H
            refine AWp.mono (Q := fun e s => (match (generalizing := false) o2039 with | (x2031, x2032) => e = .normal ∧ s = ⟨[(2, .ptr 26 0 0), (4, .ptr 27 0 0), (6, .ptr 28 0 0), (7, iV .i64 t1973), (56, .own 29), (57, iV .i64 (t1977.length : Int)), (58, iV .i64 x2016)], [(26, some (.box 35 (aHist a0))), (27, some (.box 74 (arank_Part ⟨0, 0, 0⟩))), (28, some (.box 74 (arank_Part ⟨x2031, x2032, a0.f4⟩))), (29, some (.row 4 47 (t1977.map erank_Cell)))], 0⟩)) (AWp.cv ?_) ?_
            · replace H := e2040; clear e2040
              refine AWp.cond (decide (t2026.2 ≤ t1973)) rfl (fun c2028 => ?_) (fun c2028 => ?_)
              · replace H := (ifT c2028).symm.trans H
                refine reg hP hn hm [] [2, 4, 6, 7, 56, 57, 58] [17, 18, 19, 20] ⟨[(2, .ptr 17 0 0), (4, .ptr 18 0 0), (6, .ptr 19 0 0), (7, iV .i64 t1973), (56, .own 20), (57, iV .i64 (t1977.length : Int)), (58, iV .i64 x2016)], [(17, some (.box 35 (aHist a0))), (18, some (.box 74 (arank_Part ⟨0, 0, 0⟩))), (19, some (.box 74 (arank_Part ⟨(IntKind.u64.wrap (x2014 + b2021.f1)), x2015, a0.f4⟩))), (20, some (.row 4 47 (t1977.map erank_Cell)))], 0⟩ [] (by kernel_rfl) trivial ?_
                obtain rfl := Option.some.inj H
                exact Exists.intro _ (And.intro (fun _ _ h => h.conv (inv := [(17, 26), (18, 27), (19, 28), (20, 29)]) (vk := []) (e0 := []) (t := ⟨[(2, .ptr 26 0 0), (4, .ptr 27 0 0), (6, .ptr 28 0 0), (7, iV .i64 t1973), (56, .own 29), (57, iV .i64 (t1977.length : Int)), (58, iV .i64 x2016)], [(26, some (.box 35 (aHist a0))), (27, some (.box 74 (arank_Part ⟨0, 0, 0⟩))), (28, some (.box 74 (arank_Part ⟨(IntKind.u64.wrap (x2014 + b2021.f1)), x2015, a0.f4⟩))), (29, some (.row 4 47 (t1977.map erank_Cell)))], 0⟩) (by kernel_rfl)) (And.intro rfl rfl))
              · replace H := (ifF c2028).symm.trans H
                refine AWp.seq ?_
                refine reg hP hn hm [] [2, 4, 6, 7, 9, 56, 57, 58, 78] [17, 18, 19, 20, 21] ⟨[(2, .ptr 17 0 0), (4, .ptr 18 0 0), (6, .ptr 19 0 0), (7, iV .i64 t1973), (9, .ptr 21 0 0), (56, .own 20), (57, iV .i64 (t1977.length : Int)), (58, iV .i64 x2016), (78, bV (decide (t2026.1 < t1973)))], [(17, some (.box 35 (aHist a0))), (18, some (.box 74 (arank_Part ⟨0, 0, 0⟩))), (19, some (.box 74 (arank_Part ⟨x2014, x2015, a0.f4⟩))), (20, some (.row 4 47 (t1977.map erank_Cell))), (21, some (.box 47 [iV .i64 b2021.f0.f0, iV .i64 b2021.f0.f1, iV .i64 b2021.f0.f2, iV .u64 b2021.f1]))], 0⟩ [] (by kernel_rfl) trivial ?_
                obtain ⟨o2041, e2042, H⟩ := bind_of H
                refine AWp.mono (Q := fun e s => (match (generalizing := false) o2041 with | x2030 => e = .normal ∧ s = ⟨[(2, .ptr 22 0 0), (4, .ptr 23 0 0), (6, .ptr 24 0 0), (7, iV .i64 t1973), (56, .own 25), (57, iV .i64 (t1977.length : Int)), (58, iV .i64 x2016)], [(22, some (.box 35 (aHist a0))), (23, some (.box 74 (arank_Part ⟨0, 0, 0⟩))), (24, some (.box 74 (arank_Part ⟨x2014, x2030, a0.f4⟩))), (25, some (.row 4 47 (t1977.map erank_Cell)))], 0⟩)) (AWp.cv ?_) ?_
                · replace H := e2042; clear e2042
                  refine AWp.cond (decide (t2026.1 < t1973)) rfl (fun c2029 => ?_) (fun c2029 => ?_)
                  · replace H := (ifT c2029).symm.trans H
                    refine reg hP hn hm [] [2, 4, 6, 7, 56, 57, 58] [17, 18, 19, 20] ⟨[(2, .ptr 17 0 0), (4, .ptr 18 0 0), (6, .ptr 19 0 0), (7, iV .i64 t1973), (56, .own 20), (57, iV .i64 (t1977.length : Int)), (58, iV .i64 x2016)], [(17, some (.box 35 (aHist a0))), (18, some (.box 74 (arank_Part ⟨0, 0, 0⟩))), (19, some (.box 74 (arank_Part ⟨x2014, (IntKind.u64.wrap (x2015 + b2021.f1)), a0.f4⟩))), (20, some (.row 4 47 (t1977.map erank_Cell)))], 0⟩ [] (by kernel_rfl) trivial ?_
                    obtain rfl := Option.some.inj H
                    exact Exists.intro _ (And.intro (fun _ _ h => h.conv (inv := [(17, 22), (18, 23), (19, 24), (20, 25)]) (vk := []) (e0 := []) (t := ⟨[(2, .ptr 22 0 0), (4, .ptr 23 0 0), (6, .ptr 24 0 0), (7, iV .i64 t1973), (56, .own 25), (57, iV .i64 (t1977.length : Int)), (58, iV .i64 x2016)], [(22, some (.box 35 (aHist a0))), (23, some (.box 74 (arank_Part ⟨0, 0, 0⟩))), (24, some (.box 74 (arank_Part ⟨x2014, (IntKind.u64.wrap (x2015 + b2021.f1)), a0.f4⟩))), (25, some (.row 4 47 (t1977.map erank_Cell)))], 0⟩) (by kernel_rfl)) (And.intro rfl rfl))
                  · replace H := (ifF c2029).symm.trans H
                    refine AWp.skip ?_
                    obtain rfl := Option.some.inj H
                    exact Exists.intro _ (And.intro (fun _ _ h => h.conv (inv := [(17, 22), (18, 23), (19, 24), (20, 25)]) (vk := []) (e0 := []) (t := ⟨[(2, .ptr 22 0 0), (4, .ptr 23 0 0), (6, .ptr 24 0 0), (7, iV .i64 t1973), (56, .own 25), (57, iV .i64 (t1977.length : Int)), (58, iV .i64 x2016)], [(22, some (.box 35 (aHist a0))), (23, some (.box 74 (arank_Part ⟨0, 0, 0⟩))), (24, some (.box 74 (arank_Part ⟨x2014, x2015, a0.f4⟩))), (25, some (.row 4 47 (t1977.map erank_Cell)))], 0⟩) (by kernel_rfl)) (And.intro rfl rfl))
                · obtain ⟨x2030, rfl⟩ : ∃ z, z = o2041 := ⟨_, rfl⟩
                  rintro e s ⟨rfl, rfl⟩
                  obtain rfl := Option.some.inj H
                  exact Exists.intro _ (And.intro (fun _ _ h => h.conv (inv := [(22, 26), (23, 27), (24, 28), (25, 29)]) (vk := []) (e0 := []) (t := ⟨[(2, .ptr 26 0 0), (4, .ptr 27 0 0), (6, .ptr 28 0 0), (7, iV .i64 t1973), (56, .own 29), (57, iV .i64 (t1977.length : Int)), (58, iV .i64 x2016)], [(26, some (.box 35 (aHist a0))), (27, some (.box 74 (arank_Part ⟨0, 0, 0⟩))), (28, some (.box 74 (arank_Part ⟨x2014, x2030, a0.f4⟩))), (29, some (.row 4 47 (t1977.map erank_Cell)))], 0⟩) (by kernel_rfl)) (And.intro rfl rfl))
            · obtain ⟨x2031, x2032⟩ := o2039
              rintro e s ⟨rfl, rfl⟩
              refine reg hP hn hm [] [2, 4, 6, 7, 56, 57, 58] [26, 27, 28, 29] ⟨[(2, .ptr 26 0 0), (4, .ptr 27 0 0), (6, .ptr 28 0 0), (7, iV .i64 t1973), (56, .own 29), (57, iV .i64 (t1977.length : Int)), (58, iV .i64 (IntKind.i64.wrap (x2016 + (1 : Int))))], [(26, some (.box 35 (aHist a0))), (27, some (.box 74 (arank_Part ⟨0, 0, 0⟩))), (28, some (.box 74 (arank_Part ⟨x2031, x2032, a0.f4⟩))), (29, some (.row 4 47 (t1977.map erank_Cell)))], 0⟩ [] (by kernel_rfl) trivial ?_
              exact LWp.conv (inv := [(26, 17), (27, 18), (28, 19), (29, 20)]) (vk := []) (e0 := []) (t := ⟨[(2, .ptr 17 0 0), (4, .ptr 18 0 0), (6, .ptr 19 0 0), (7, iV .i64 t1973), (56, .own 20), (57, iV .i64 (t1977.length : Int)), (58, iV .i64 (IntKind.i64.wrap (x2016 + (1 : Int))))], [(17, some (.box 35 (aHist a0))), (18, some (.box 74 (arank_Part ⟨0, 0, 0⟩))), (19, some (.box 74 (arank_Part ⟨x2031, x2032, a0.f4⟩))), (20, some (.row 4 47 (t1977.map erank_Cell)))], 0⟩) (by kernel_rfl) (ih _ _ _ _ H)
          · replace H := (ifF c2017).symm.trans H
            refine AWp.exit ?_
            obtain rfl := Option.some.inj H
            exact Exists.intro _ (And.intro (fun _ _ h => h.conv (inv := [(18, 30), (19, 31)]) (vk := []) (e0 := []) (t := ⟨[(4, .ptr 30 0 0), (6, .ptr 31 0 0)], [(30, some (.box 74 (arank_Part ⟨0, 0, 0⟩))), (31, some (.box 74 (arank_Part ⟨x2014, x2015, a0.f4⟩)))], 0⟩) (by kernel_rfl)) (And.intro rfl rfl))
        · obtain ⟨x2033, x2034⟩ := o2037
          rintro e s ⟨rfl, rfl⟩
          refine AWp.seq ?_
          refine reg hP hn hm [] [4, 5] [30] ⟨[(4, .ptr 30 0 0), (5, iV .i64 0)], [(30, some (.box 74 (arank_Part ⟨x2033, x2034, a0.f4⟩)))], 0⟩ [] (by kernel_rfl) trivial ?_
          refine AWp.conv (inv := [(30, 0)]) (vk := []) (e0 := []) (t := ⟨[(4, .ptr 0 0 0), (5, iV .i64 0)], [(0, some (.box 74 (arank_Part ((⟨x2033, x2034, a0.f4⟩ : Trank_Part)))))], 0⟩) (by kernel_rfl) ?_
          refine AWp.ret ?_
          obtain rfl := Option.some.inj H
          exact Exists.intro _ (And.intro (fun _ _ h => h) (And.intro (.inl rfl) (And.intro rfl (And.intro (by kernel_rfl) (by kernel_rfl)))))
def f_pluvialref08_ends.f (a0 : THist) (a1 : Tpluvialref08_Cell) : Option (Int × Int × Int × Int) := if (a1.f0 == (0 : Int)) = true then (if (a0.f2 == (-524288)) = true then (some (0, 0, 0, 0)) else (some ((-1), a0.f2, 1, a0.f2))) else ((f_pluvialref04_Units.f a1.f1 (IntKind.i64.wrap (a1.f2 - (1 : Int)))) >>= fun t2084 => (f_pluvialref04_Units.f a1.f1 a1.f2) >>= fun t2086 => if (decide (a1.f0 > (0 : Int))) = true then (some (1, t2084, 1, t2086)) else (some ((-1), t2086, (-1), t2084)))
theorem f_pluvialref08_ends.ok (a0 : THist) (a1 : Tpluvialref08_Cell) (r : Int × Int × Int × Int) (H : f_pluvialref08_ends.f a0 a1 = some r) : Pv.Fn Try.prog 77 [.agg (aHist a0), .agg (apluvialref08_Cell a1)] [] 0 (fun x o => x = .tup [iV .i64 r.1, iV .i64 r.2.1, iV .i64 r.2.2.1, iV .i64 r.2.2.2] ∧ o = []) := by
  unfold f_pluvialref08_ends.f at H
  refine Fn.bodyK [] Try.func77 rfl rfl (fun Γ hP hn => ?_)
  have hm : Try.prog.follows .mixedOrders = true := by kernel_rfl
  replace hn : Γ.n = 38 := hn
  refine AWp.seq ?_
  refine reg hP hn hm [(0, .k 0), (1, .k 1)] [2, 3] [0, 1] ⟨[(2, .ptr 0 0 0), (3, .ptr 1 0 0)], [(0, some (.box 35 (aHist a0))), (1, some (.box 54 (apluvialref08_Cell a1)))], 0⟩ [] (by kernel_rfl) trivial ?_
  refine AWp.seq ?_
  refine AWp.seq ?_
  refine reg hP hn hm [] [2, 3, 12] [0, 1] ⟨[(2, .ptr 0 0 0), (3, .ptr 1 0 0), (12, bV (a1.f0 == (0 : Int)))], [(0, some (.box 35 (aHist a0))), (1, some (.box 54 (apluvialref08_Cell a1)))], 0⟩ [] (by kernel_rfl) trivial ?_
  refine AWp.cond (a1.f0 == (0 : Int)) rfl (fun c2078 => ?_) (fun c2078 => ?_)
  · replace H := (ifT c2078).symm.trans H
    refine AWp.seq ?_
    refine AWp.seq ?_
    refine reg hP hn hm [] [2, 15] [0] ⟨[(2, .ptr 0 0 0), (15, bV (a0.f2 == (-524288)))], [(0, some (.box 35 (aHist a0)))], 0⟩ [] (by kernel_rfl) trivial ?_
    refine AWp.cond (a0.f2 == (-524288)) rfl (fun c2079 => ?_) (fun c2079 => ?_)
    · replace H := (ifT c2079).symm.trans H
      refine AWp.seq ?_
      refine reg hP hn hm [] [4, 5, 6, 7] [] ⟨[(4, iV .i64 0), (5, iV .i64 0), (6, iV .i64 0), (7, iV .i64 0)], [], 0⟩ [] (by kernel_rfl) trivial ?_
      refine AWp.conv (inv := []) (vk := []) (e0 := []) (t := ⟨[(4, iV .i64 0), (5, iV .i64 0), (6, iV .i64 0), (7, iV .i64 0)], [], 0⟩) (by kernel_rfl) ?_
      refine AWp.ret ?_
      obtain rfl := Option.some.inj H
      exact Exists.intro _ (And.intro (fun _ _ h => h) (And.intro (.inl rfl) (And.intro rfl (And.intro (by kernel_rfl) (by kernel_rfl)))))
    · replace H := (ifF c2079).symm.trans H
      refine AWp.skip ?_
      refine AWp.seq ?_
      refine reg hP hn hm [] [4, 5, 6, 7] [] ⟨[(4, iV .i64 (-1)), (5, iV .i64 a0.f2), (6, iV .i64 1), (7, iV .i64 a0.f2)], [], 0⟩ [] (by kernel_rfl) trivial ?_
      refine AWp.conv (inv := []) (vk := []) (e0 := []) (t := ⟨[(4, iV .i64 (-1)), (5, iV .i64 a0.f2), (6, iV .i64 1), (7, iV .i64 a0.f2)], [], 0⟩) (by kernel_rfl) ?_
      refine AWp.ret ?_
      obtain rfl := Option.some.inj H
      exact Exists.intro _ (And.intro (fun _ _ h => h) (And.intro (.inl rfl) (And.intro rfl (And.intro (by kernel_rfl) (by kernel_rfl)))))
  · replace H := (ifF c2078).symm.trans H
    refine AWp.skip ?_
    refine AWp.seq ?_
    obtain ⟨t2084, e2085, H⟩ := bind_of H
    obtain ⟨t2086, e2087, H⟩ := bind_of H
    refine reg hP hn hm [(5, .call [] [] [] [] 0 (iV .i64 t2084) []), (10, .call [] [] [] [] 0 (iV .i64 t2086) [])] [3, 8, 9] [1] ⟨[(3, .ptr 1 0 0), (8, iV .i64 t2084), (9, iV .i64 t2086)], [(1, some (.box 54 (apluvialref08_Cell a1)))], 0⟩ [Enters Try.prog 100, Pv.Fn Try.prog 100 [iV .i64 a1.f1, iV .i64 (IntKind.i64.wrap (a1.f2 - (1 : Int)))] [] 0 (fun r o => r = iV .i64 t2084 ∧ o = []), Enters Try.prog 100, Pv.Fn Try.prog 100 [iV .i64 a1.f1, iV .i64 a1.f2] [] 0 (fun r o => r = iV .i64 t2086 ∧ o = [])] (by kernel_rfl) ⟨by exact Try.call100, by exact f_pluvialref04_Units.ok a1.f1 (IntKind.i64.wrap (a1.f2 - (1 : Int))) t2084 e2085, by exact Try.call100, by exact f_pluvialref04_Units.ok a1.f1 a1.f2 t2086 e2087, trivial⟩ ?_
    refine AWp.seq ?_
    refine AWp.seq ?_
    refine reg hP hn hm [] [8, 9, 33] [] ⟨[(8, iV .i64 t2084), (9, iV .i64 t2086), (33, bV (decide (a1.f0 > (0 : Int))))], [], 0⟩ [] (by kernel_rfl) trivial ?_
    refine AWp.cond (decide (a1.f0 > (0 : Int))) rfl (fun c2088 => ?_) (fun c2088 => ?_)
    · replace H := (ifT c2088).symm.trans H
      refine AWp.seq ?_
      refine reg hP hn hm [] [4, 5, 6, 7] [] ⟨[(4, iV .i64 1), (5, iV .i64 t2084), (6, iV .i64 1), (7, iV .i64 t2086)], [], 0⟩ [] (by kernel_rfl) trivial ?_
      refine AWp.conv (inv := []) (vk := []) (e0 := []) (t := ⟨[(4, iV .i64 1), (5, iV .i64 t2084), (6, iV .i64 1), (7, iV .i64 t2086)], [], 0⟩) (by kernel_rfl) ?_
      refine AWp.ret ?_
      obtain rfl := Option.some.inj H
      exact Exists.intro _ (And.intro (fun _ _ h => h) (And.intro (.inl rfl) (And.intro rfl (And.intro (by kernel_rfl) (by kernel_rfl)))))
    · replace H := (ifF c2088).symm.trans H
      refine AWp.skip ?_
      refine AWp.seq ?_
      refine reg hP hn hm [] [4, 5, 6, 7] [] ⟨[(4, iV .i64 (-1)), (5, iV .i64 t2086), (6, iV .i64 (-1)), (7, iV .i64 t2084)], [], 0⟩ [] (by kernel_rfl) trivial ?_
      refine AWp.conv (inv := []) (vk := []) (e0 := []) (t := ⟨[(4, iV .i64 (-1)), (5, iV .i64 t2086), (6, iV .i64 (-1)), (7, iV .i64 t2084)], [], 0⟩) (by kernel_rfl) ?_
      refine AWp.ret ?_
      obtain rfl := Option.some.inj H
      exact Exists.intro _ (And.intro (fun _ _ h => h) (And.intro (.inl rfl) (And.intro rfl (And.intro (by kernel_rfl) (by kernel_rfl)))))
def f_pluvialref08_above.f (a0 : Int) (a1 : Int) (a2 : Int) (a3 : Int) : Option (Bool) := if (a0 != a2) = true then (some (decide (a0 > a2))) else (if (decide (a0 > (0 : Int))) = true then (some (decide (a1 > a3))) else (((if (decide (a0 < (0 : Int))) = true then (some (decide (a1 < a3))) else (some false)) : Option (Bool)) >>= fun x2100 => some x2100))
theorem f_pluvialref08_above.ok (a0 : Int) (a1 : Int) (a2 : Int) (a3 : Int) (r : Bool) (H : f_pluvialref08_above.f a0 a1 a2 a3 = some r) : Pv.Fn Try.prog 78 [iV .i64 a0, iV .i64 a1, iV .i64 a2, iV .i64 a3] [] 0 (fun x o => x = bV r ∧ o = []) := by
  unfold f_pluvialref08_above.f at H
  refine Fn.bodyK [] Try.func78 rfl rfl (fun Γ hP hn => ?_)
  have hm : Try.prog.follows .mixedOrders = true := by kernel_rfl
  replace hn : Γ.n = 27 := hn
  refine AWp.seq ?_
  refine reg hP hn hm [] [0, 1, 2, 3] [] ⟨[(0, iV .i64 a0), (1, iV .i64 a1), (2, iV .i64 a2), (3, iV .i64 a3)], [], 0⟩ [] (by kernel_rfl) trivial ?_
  refine AWp.seq ?_
  refine AWp.seq ?_
  refine reg hP hn hm [] [0, 1, 2, 3, 11] [] ⟨[(0, iV .i64 a0), (1, iV .i64 a1), (2, iV .i64 a2), (3, iV .i64 a3), (11, bV (a0 != a2))], [], 0⟩ [] (by kernel_rfl) trivial ?_
  refine AWp.cond (a0 != a2) rfl (fun c2096 => ?_) (fun c2096 => ?_)
  · replace H := (ifT c2096).symm.trans H
    refine AWp.seq ?_
    refine reg hP hn hm [] [8] [] ⟨[(8, bV (decide (a0 > a2)))], [], 0⟩ [] (by kernel_rfl) trivial ?_
    refine AWp.conv (inv := []) (vk := []) (e0 := []) (t := ⟨[(8, bV (decide (a0 > a2)))], [], 0⟩) (by kernel_rfl) ?_
    refine AWp.ret ?_
    obtain rfl := Option.some.inj H
    exact Exists.intro _ (And.intro (fun _ _ h => h) (And.intro (.inl rfl) (And.intro rfl (And.intro (by kernel_rfl) (by kernel_rfl)))))
  · replace H := (ifF c2096).symm.trans H
    refine AWp.skip ?_
    refine AWp.seq ?_
    refine AWp.seq ?_
    refine reg hP hn hm [] [0, 1, 3, 16] [] ⟨[(0, iV .i64 a0), (1, iV .i64 a1), (3, iV .i64 a3), (16, bV (decide (a0 > (0 : Int))))], [], 0⟩ [] (by kernel_rfl) trivial ?_
    refine AWp.cond (decide (a0 > (0 : Int))) rfl (fun c2097 => ?_) (fun c2097 => ?_)
    · replace H := (ifT c2097).symm.trans H
      refine AWp.seq ?_
      refine reg hP hn hm [] [8] [] ⟨[(8, bV (decide (a1 > a3)))], [], 0⟩ [] (by kernel_rfl) trivial ?_
      refine AWp.conv (inv := []) (vk := []) (e0 := []) (t := ⟨[(8, bV (decide (a1 > a3)))], [], 0⟩) (by kernel_rfl) ?_
      refine AWp.ret ?_
      obtain rfl := Option.some.inj H
      exact Exists.intro _ (And.intro (fun _ _ h => h) (And.intro (.inl rfl) (And.intro rfl (And.intro (by kernel_rfl) (by kernel_rfl)))))
    · replace H := (ifF c2097).symm.trans H
      refine AWp.skip ?_
      refine AWp.seq ?_
      obtain ⟨o2101, e2102, H⟩ := bind_of H
      refine AWp.mono (Q := fun e s => (match (generalizing := false) o2101 with | x2100 => e = .normal ∧ s = ⟨[(8, bV x2100)], [], 0⟩)) (AWp.cv ?_) ?_
      · replace H := e2102; clear e2102
        rcases Bool.eq_false_or_eq_true (decide (a0 < (0 : Int))) with c2099 | c2099
        · replace H := (ifT c2099).symm.trans H
          refine reg hP hn hm [(2, .b true)] [8] [] ⟨[(8, bV (decide (a1 < a3)))], [], 0⟩ [(decide (a0 < (0 : Int))) = true] (by kernel_rfl) ⟨by exact c2099, trivial⟩ ?_
          obtain rfl := Option.some.inj H
          exact Exists.intro _ (And.intro (fun _ _ h => h.conv (inv := []) (vk := []) (e0 := []) (t := ⟨[(8, bV (decide (a1 < a3)))], [], 0⟩) (by kernel_rfl)) (And.intro rfl rfl))
        · replace H := (ifF c2099).symm.trans H
          refine reg hP hn hm [(2, .b false)] [8] [] ⟨[(8, bV false)], [], 0⟩ [(decide (a0 < (0 : Int))) = false] (by kernel_rfl) ⟨by exact c2099, trivial⟩ ?_
          obtain rfl := Option.some.inj H
          exact Exists.intro _ (And.intro (fun _ _ h => h.conv (inv := []) (vk := []) (e0 := []) (t := ⟨[(8, bV false)], [], 0⟩) (by kernel_rfl)) (And.intro rfl rfl))
      · obtain ⟨x2100, rfl⟩ : ∃ z, z = o2101 := ⟨_, rfl⟩
        rintro e s ⟨rfl, rfl⟩
        refine AWp.conv (inv := []) (vk := []) (e0 := []) (t := ⟨[(8, bV x2100)], [], 0⟩) (by kernel_rfl) ?_
        refine AWp.ret ?_
        obtain rfl := Option.some.inj H
        exact Exists.intro _ (And.intro (fun _ _ h => h) (And.intro (.inl rfl) (And.intro rfl (And.intro (by kernel_rfl) (by kernel_rfl)))))
def f_pluvialref08_Below.l0 (a0 : THist) (a1 : Int) (a2 : Int) (t2072 : List Tpluvialref08_Cell) (x2116 : Int) (x2117 : Int) (x2118 : Int) : Option (Int × Int) := if (decide (x2118 < (t2072.length : Int))) = true then ((at? t2072 x2118) >>= fun b2125 => (f_pluvialref08_ends.f a0 b2125) >>= fun t2128 => (f_pluvialref08_above.f t2128.2.2.1 t2128.2.2.2 a1 a2) >>= fun t2132 => ((if (!t2132) = true then (some (IntKind.u64.wrap (x2116 + b2125.f3), x2117)) else ((f_pluvialref08_above.f a1 a2 t2128.1 t2128.2.1) >>= fun t2137 => ((if t2137 = true then (some (IntKind.u64.wrap (x2117 + b2125.f3))) else (some x2117)) : Option (Int)) >>= fun x2140 => some (x2116, x2140))) : Option (Int × Int)) >>= fun oo => match oo with | (x2141, x2142) => (f_pluvialref08_Below.l0 a0 a1 a2 t2072 x2141 x2142 (IntKind.i64.wrap (x2118 + (1 : Int))))) else (some (x2116, x2117))
partial_fixpoint
def f_pluvialref08_Below.f (a0 : THist) (a1 : Int) (a2 : Int) : Option (Int × Int × Int × Int) := ((if (a1 == (0 : Int)) = true then (if (a2 != (0 : Int)) = true then (some true) else (if (decide (a1 < (-1))) = true then (some true) else (if (decide (a1 > (1 : Int))) = true then (some true) else (if (a1 != (0 : Int)) = true then (if (decide (a2 ≤ (-262144))) = true then (some true) else (some (decide (a2 > (262144 : Int))))) else (some false))))) else (if (decide (a1 < (-1))) = true then (some true) else (if (decide (a1 > (1 : Int))) = true then (some true) else (if (a1 != (0 : Int)) = true then (if (decide (a2 ≤ (-262144))) = true then (some true) else (some (decide (a2 > (262144 : Int))))) else (some false))))) : Option (Bool)) >>= fun x2067 => if x2067 = true then (some (0, 0, 0, 1)) else (if (a0.f4 == (0 : Int)) = true then (some (0, 0, 0, 30)) else ((f_pluvialref08_Order.f a0) >>= fun t2072 => (f_pluvialref08_Below.l0 a0 a1 a2 t2072 0 0 0) >>= fun oo => match oo with | (x2143, x2144) => (some (x2143, x2144, a0.f4, 0))))
theorem f_pluvialref08_Below.ok (a0 : THist) (a1 : Int) (a2 : Int) (r : Int × Int × Int × Int) (H : f_pluvialref08_Below.f a0 a1 a2 = some r) : Pv.Fn Try.prog 35 [.agg (aHist a0), iV .i64 a1, iV .i64 a2] [] 0 (fun x o => x = .tup [.agg (arank_Part ⟨r.1, r.2.1, r.2.2.1⟩), iV .i64 r.2.2.2] ∧ o = []) := by
  unfold f_pluvialref08_Below.f at H
  refine Fn.bodyK [] Try.func35 rfl rfl (fun Γ hP hn => ?_)
  have hm : Try.prog.follows .mixedOrders = true := by kernel_rfl
  replace hn : Γ.n = 98 := hn
  refine AWp.seq ?_
  refine reg hP hn hm [(0, .k 0), (1, .k 1)] [1, 2, 3, 6] [0, 1] ⟨[(1, iV .i64 a1), (2, iV .i64 a2), (3, .ptr 0 0 0), (6, .ptr 1 0 0)], [(0, some (.box 35 (aHist a0))), (1, some (.box 77 [iV .u64 0, iV .u64 0, iV .u64 0]))], 0⟩ [] (by kernel_rfl) trivial ?_
  refine AWp.seq ?_
  refine AWp.seq ?_
  obtain ⟨o2145, e2146, H⟩ := bind_of H
  refine AWp.mono (Q := fun e s => (match (generalizing := false) o2145 with | x2067 => e = .normal ∧ s = ⟨[(1, iV .i64 a1), (2, iV .i64 a2), (3, .ptr 2 0 0), (6, .ptr 3 0 0), (40, bV x2067)], [(2, some (.box 35 (aHist a0))), (3, some (.box 77 [iV .u64 0, iV .u64 0, iV .u64 0]))], 0⟩)) (AWp.cv ?_) ?_
  · replace H := e2146; clear e2146
    rcases Bool.eq_false_or_eq_true (a1 == (0 : Int)) with c2057 | c2057
    · replace H := (ifT c2057).symm.trans H
      rcases Bool.eq_false_or_eq_true (a2 != (0 : Int)) with c2058 | c2058
      · replace H := (ifT c2058).symm.trans H
        refine reg hP hn hm [(2, .b true), (6, .b true)] [1, 2, 3, 6, 40] [0, 1] ⟨[(1, iV .i64 a1), (2, iV .i64 a2), (3, .ptr 0 0 0), (6, .ptr 1 0 0), (40, bV true)], [(0, some (.box 35 (aHist a0))), (1, some (.box 77 [iV .u64 0, iV .u64 0, iV .u64 0]))], 0⟩ [(a1 == (0 : Int)) = true, (a2 != (0 : Int)) = true] (by kernel_rfl) ⟨by exact c2057, by exact c2058, trivial⟩ ?_
        obtain rfl := Option.some.inj H
        exact Exists.intro _ (And.intro (fun _ _ h => h.conv (inv := [(0, 2), (1, 3)]) (vk := []) (e0 := []) (t := ⟨[(1, iV .i64 a1), (2, iV .i64 a2), (3, .ptr 2 0 0), (6, .ptr 3 0 0), (40, bV true)], [(2, some (.box 35 (aHist a0))), (3, some (.box 77 [iV .u64 0, iV .u64 0, iV .u64 0]))], 0⟩) (by kernel_rfl)) (And.intro rfl rfl))
      · replace H := (ifF c2058).symm.trans H
        rcases Bool.eq_false_or_eq_true (decide (a1 < (-1))) with c2059 | c2059
        · replace H := (ifT c2059).symm.trans H
          refine reg hP hn hm [(2, .b true), (6, .b false), (10, .b true)] [1, 2, 3, 6, 40] [0, 1] ⟨[(1, iV .i64 a1), (2, iV .i64 a2), (3, .ptr 0 0 0), (6, .ptr 1 0 0), (40, bV true)], [(0, some (.box 35 (aHist a0))), (1, some (.box 77 [iV .u64 0, iV .u64 0, iV .u64 0]))], 0⟩ [(a1 == (0 : Int)) = true, (a2 != (0 : Int)) = false, (decide (a1 < (-1))) = true] (by kernel_rfl) ⟨by exact c2057, by exact c2058, by exact c2059, trivial⟩ ?_
          obtain rfl := Option.some.inj H
          exact Exists.intro _ (And.intro (fun _ _ h => h.conv (inv := [(0, 2), (1, 3)]) (vk := []) (e0 := []) (t := ⟨[(1, iV .i64 a1), (2, iV .i64 a2), (3, .ptr 2 0 0), (6, .ptr 3 0 0), (40, bV true)], [(2, some (.box 35 (aHist a0))), (3, some (.box 77 [iV .u64 0, iV .u64 0, iV .u64 0]))], 0⟩) (by kernel_rfl)) (And.intro rfl rfl))
        · replace H := (ifF c2059).symm.trans H
          rcases Bool.eq_false_or_eq_true (decide (a1 > (1 : Int))) with c2060 | c2060
          · replace H := (ifT c2060).symm.trans H
            refine reg hP hn hm [(2, .b true), (6, .b false), (10, .b false), (14, .b true)] [1, 2, 3, 6, 40] [0, 1] ⟨[(1, iV .i64 a1), (2, iV .i64 a2), (3, .ptr 0 0 0), (6, .ptr 1 0 0), (40, bV true)], [(0, some (.box 35 (aHist a0))), (1, some (.box 77 [iV .u64 0, iV .u64 0, iV .u64 0]))], 0⟩ [(a1 == (0 : Int)) = true, (a2 != (0 : Int)) = false, (decide (a1 < (-1))) = false, (decide (a1 > (1 : Int))) = true] (by kernel_rfl) ⟨by exact c2057, by exact c2058, by exact c2059, by exact c2060, trivial⟩ ?_
            obtain rfl := Option.some.inj H
            exact Exists.intro _ (And.intro (fun _ _ h => h.conv (inv := [(0, 2), (1, 3)]) (vk := []) (e0 := []) (t := ⟨[(1, iV .i64 a1), (2, iV .i64 a2), (3, .ptr 2 0 0), (6, .ptr 3 0 0), (40, bV true)], [(2, some (.box 35 (aHist a0))), (3, some (.box 77 [iV .u64 0, iV .u64 0, iV .u64 0]))], 0⟩) (by kernel_rfl)) (And.intro rfl rfl))
          · replace H := (ifF c2060).symm.trans H
            rcases Bool.eq_false_or_eq_true (a1 != (0 : Int)) with c2061 | c2061
            · replace H := (ifT c2061).symm.trans H
              rcases Bool.eq_false_or_eq_true (decide (a2 ≤ (-262144))) with c2062 | c2062
              · replace H := (ifT c2062).symm.trans H
                refine reg hP hn hm [(2, .b true), (6, .b false), (10, .b false), (14, .b false), (17, .b true), (20, .b true)] [1, 2, 3, 6, 40] [0, 1] ⟨[(1, iV .i64 a1), (2, iV .i64 a2), (3, .ptr 0 0 0), (6, .ptr 1 0 0), (40, bV true)], [(0, some (.box 35 (aHist a0))), (1, some (.box 77 [iV .u64 0, iV .u64 0, iV .u64 0]))], 0⟩ [(a1 == (0 : Int)) = true, (a2 != (0 : Int)) = false, (decide (a1 < (-1))) = false, (decide (a1 > (1 : Int))) = false, (a1 != (0 : Int)) = true, (decide (a2 ≤ (-262144))) = true] (by kernel_rfl) ⟨by exact c2057, by exact c2058, by exact c2059, by exact c2060, by exact c2061, by exact c2062, trivial⟩ ?_
                obtain rfl := Option.some.inj H
                exact Exists.intro _ (And.intro (fun _ _ h => h.conv (inv := [(0, 2), (1, 3)]) (vk := []) (e0 := []) (t := ⟨[(1, iV .i64 a1), (2, iV .i64 a2), (3, .ptr 2 0 0), (6, .ptr 3 0 0), (40, bV true)], [(2, some (.box 35 (aHist a0))), (3, some (.box 77 [iV .u64 0, iV .u64 0, iV .u64 0]))], 0⟩) (by kernel_rfl)) (And.intro rfl rfl))
              · replace H := (ifF c2062).symm.trans H
                refine reg hP hn hm [(2, .b true), (6, .b false), (10, .b false), (14, .b false), (17, .b true), (20, .b false)] [1, 2, 3, 6, 40] [0, 1] ⟨[(1, iV .i64 a1), (2, iV .i64 a2), (3, .ptr 0 0 0), (6, .ptr 1 0 0), (40, bV (decide (a2 > (262144 : Int))))], [(0, some (.box 35 (aHist a0))), (1, some (.box 77 [iV .u64 0, iV .u64 0, iV .u64 0]))], 0⟩ [(a1 == (0 : Int)) = true, (a2 != (0 : Int)) = false, (decide (a1 < (-1))) = false, (decide (a1 > (1 : Int))) = false, (a1 != (0 : Int)) = true, (decide (a2 ≤ (-262144))) = false] (by kernel_rfl) ⟨by exact c2057, by exact c2058, by exact c2059, by exact c2060, by exact c2061, by exact c2062, trivial⟩ ?_
                obtain rfl := Option.some.inj H
                exact Exists.intro _ (And.intro (fun _ _ h => h.conv (inv := [(0, 2), (1, 3)]) (vk := []) (e0 := []) (t := ⟨[(1, iV .i64 a1), (2, iV .i64 a2), (3, .ptr 2 0 0), (6, .ptr 3 0 0), (40, bV (decide (a2 > (262144 : Int))))], [(2, some (.box 35 (aHist a0))), (3, some (.box 77 [iV .u64 0, iV .u64 0, iV .u64 0]))], 0⟩) (by kernel_rfl)) (And.intro rfl rfl))
            · replace H := (ifF c2061).symm.trans H
              refine reg hP hn hm [(2, .b true), (6, .b false), (10, .b false), (14, .b false), (17, .b false)] [1, 2, 3, 6, 40] [0, 1] ⟨[(1, iV .i64 a1), (2, iV .i64 a2), (3, .ptr 0 0 0), (6, .ptr 1 0 0), (40, bV false)], [(0, some (.box 35 (aHist a0))), (1, some (.box 77 [iV .u64 0, iV .u64 0, iV .u64 0]))], 0⟩ [(a1 == (0 : Int)) = true, (a2 != (0 : Int)) = false, (decide (a1 < (-1))) = false, (decide (a1 > (1 : Int))) = false, (a1 != (0 : Int)) = false] (by kernel_rfl) ⟨by exact c2057, by exact c2058, by exact c2059, by exact c2060, by exact c2061, trivial⟩ ?_
              obtain rfl := Option.some.inj H
              exact Exists.intro _ (And.intro (fun _ _ h => h.conv (inv := [(0, 2), (1, 3)]) (vk := []) (e0 := []) (t := ⟨[(1, iV .i64 a1), (2, iV .i64 a2), (3, .ptr 2 0 0), (6, .ptr 3 0 0), (40, bV false)], [(2, some (.box 35 (aHist a0))), (3, some (.box 77 [iV .u64 0, iV .u64 0, iV .u64 0]))], 0⟩) (by kernel_rfl)) (And.intro rfl rfl))
    · replace H := (ifF c2057).symm.trans H
      rcases Bool.eq_false_or_eq_true (decide (a1 < (-1))) with c2063 | c2063
      · replace H := (ifT c2063).symm.trans H
        refine reg hP hn hm [(2, .b false), (10, .b true)] [1, 2, 3, 6, 40] [0, 1] ⟨[(1, iV .i64 a1), (2, iV .i64 a2), (3, .ptr 0 0 0), (6, .ptr 1 0 0), (40, bV true)], [(0, some (.box 35 (aHist a0))), (1, some (.box 77 [iV .u64 0, iV .u64 0, iV .u64 0]))], 0⟩ [(a1 == (0 : Int)) = false, (decide (a1 < (-1))) = true] (by kernel_rfl) ⟨by exact c2057, by exact c2063, trivial⟩ ?_
        obtain rfl := Option.some.inj H
        exact Exists.intro _ (And.intro (fun _ _ h => h.conv (inv := [(0, 2), (1, 3)]) (vk := []) (e0 := []) (t := ⟨[(1, iV .i64 a1), (2, iV .i64 a2), (3, .ptr 2 0 0), (6, .ptr 3 0 0), (40, bV true)], [(2, some (.box 35 (aHist a0))), (3, some (.box 77 [iV .u64 0, iV .u64 0, iV .u64 0]))], 0⟩) (by kernel_rfl)) (And.intro rfl rfl))
      · replace H := (ifF c2063).symm.trans H
        rcases Bool.eq_false_or_eq_true (decide (a1 > (1 : Int))) with c2064 | c2064
        · replace H := (ifT c2064).symm.trans H
          refine reg hP hn hm [(2, .b false), (10, .b false), (14, .b true)] [1, 2, 3, 6, 40] [0, 1] ⟨[(1, iV .i64 a1), (2, iV .i64 a2), (3, .ptr 0 0 0), (6, .ptr 1 0 0), (40, bV true)], [(0, some (.box 35 (aHist a0))), (1, some (.box 77 [iV .u64 0, iV .u64 0, iV .u64 0]))], 0⟩ [(a1 == (0 : Int)) = false, (decide (a1 < (-1))) = false, (decide (a1 > (1 : Int))) = true] (by kernel_rfl) ⟨by exact c2057, by exact c2063, by exact c2064, trivial⟩ ?_
          obtain rfl := Option.some.inj H
          exact Exists.intro _ (And.intro (fun _ _ h => h.conv (inv := [(0, 2), (1, 3)]) (vk := []) (e0 := []) (t := ⟨[(1, iV .i64 a1), (2, iV .i64 a2), (3, .ptr 2 0 0), (6, .ptr 3 0 0), (40, bV true)], [(2, some (.box 35 (aHist a0))), (3, some (.box 77 [iV .u64 0, iV .u64 0, iV .u64 0]))], 0⟩) (by kernel_rfl)) (And.intro rfl rfl))
        · replace H := (ifF c2064).symm.trans H
          rcases Bool.eq_false_or_eq_true (a1 != (0 : Int)) with c2065 | c2065
          · replace H := (ifT c2065).symm.trans H
            rcases Bool.eq_false_or_eq_true (decide (a2 ≤ (-262144))) with c2066 | c2066
            · replace H := (ifT c2066).symm.trans H
              refine reg hP hn hm [(2, .b false), (10, .b false), (14, .b false), (17, .b true), (20, .b true)] [1, 2, 3, 6, 40] [0, 1] ⟨[(1, iV .i64 a1), (2, iV .i64 a2), (3, .ptr 0 0 0), (6, .ptr 1 0 0), (40, bV true)], [(0, some (.box 35 (aHist a0))), (1, some (.box 77 [iV .u64 0, iV .u64 0, iV .u64 0]))], 0⟩ [(a1 == (0 : Int)) = false, (decide (a1 < (-1))) = false, (decide (a1 > (1 : Int))) = false, (a1 != (0 : Int)) = true, (decide (a2 ≤ (-262144))) = true] (by kernel_rfl) ⟨by exact c2057, by exact c2063, by exact c2064, by exact c2065, by exact c2066, trivial⟩ ?_
              obtain rfl := Option.some.inj H
              exact Exists.intro _ (And.intro (fun _ _ h => h.conv (inv := [(0, 2), (1, 3)]) (vk := []) (e0 := []) (t := ⟨[(1, iV .i64 a1), (2, iV .i64 a2), (3, .ptr 2 0 0), (6, .ptr 3 0 0), (40, bV true)], [(2, some (.box 35 (aHist a0))), (3, some (.box 77 [iV .u64 0, iV .u64 0, iV .u64 0]))], 0⟩) (by kernel_rfl)) (And.intro rfl rfl))
            · replace H := (ifF c2066).symm.trans H
              refine reg hP hn hm [(2, .b false), (10, .b false), (14, .b false), (17, .b true), (20, .b false)] [1, 2, 3, 6, 40] [0, 1] ⟨[(1, iV .i64 a1), (2, iV .i64 a2), (3, .ptr 0 0 0), (6, .ptr 1 0 0), (40, bV (decide (a2 > (262144 : Int))))], [(0, some (.box 35 (aHist a0))), (1, some (.box 77 [iV .u64 0, iV .u64 0, iV .u64 0]))], 0⟩ [(a1 == (0 : Int)) = false, (decide (a1 < (-1))) = false, (decide (a1 > (1 : Int))) = false, (a1 != (0 : Int)) = true, (decide (a2 ≤ (-262144))) = false] (by kernel_rfl) ⟨by exact c2057, by exact c2063, by exact c2064, by exact c2065, by exact c2066, trivial⟩ ?_
              obtain rfl := Option.some.inj H
              exact Exists.intro _ (And.intro (fun _ _ h => h.conv (inv := [(0, 2), (1, 3)]) (vk := []) (e0 := []) (t := ⟨[(1, iV .i64 a1), (2, iV .i64 a2), (3, .ptr 2 0 0), (6, .ptr 3 0 0), (40, bV (decide (a2 > (262144 : Int))))], [(2, some (.box 35 (aHist a0))), (3, some (.box 77 [iV .u64 0, iV .u64 0, iV .u64 0]))], 0⟩) (by kernel_rfl)) (And.intro rfl rfl))
          · replace H := (ifF c2065).symm.trans H
            refine reg hP hn hm [(2, .b false), (10, .b false), (14, .b false), (17, .b false)] [1, 2, 3, 6, 40] [0, 1] ⟨[(1, iV .i64 a1), (2, iV .i64 a2), (3, .ptr 0 0 0), (6, .ptr 1 0 0), (40, bV false)], [(0, some (.box 35 (aHist a0))), (1, some (.box 77 [iV .u64 0, iV .u64 0, iV .u64 0]))], 0⟩ [(a1 == (0 : Int)) = false, (decide (a1 < (-1))) = false, (decide (a1 > (1 : Int))) = false, (a1 != (0 : Int)) = false] (by kernel_rfl) ⟨by exact c2057, by exact c2063, by exact c2064, by exact c2065, trivial⟩ ?_
            obtain rfl := Option.some.inj H
            exact Exists.intro _ (And.intro (fun _ _ h => h.conv (inv := [(0, 2), (1, 3)]) (vk := []) (e0 := []) (t := ⟨[(1, iV .i64 a1), (2, iV .i64 a2), (3, .ptr 2 0 0), (6, .ptr 3 0 0), (40, bV false)], [(2, some (.box 35 (aHist a0))), (3, some (.box 77 [iV .u64 0, iV .u64 0, iV .u64 0]))], 0⟩) (by kernel_rfl)) (And.intro rfl rfl))
  · obtain ⟨x2067, rfl⟩ : ∃ z, z = o2145 := ⟨_, rfl⟩
    rintro e s ⟨rfl, rfl⟩
    refine AWp.cond x2067 rfl (fun c2068 => ?_) (fun c2068 => ?_)
    · replace H := (ifT c2068).symm.trans H
      refine AWp.seq ?_
      refine reg hP hn hm [] [6, 7] [3] ⟨[(6, .ptr 3 0 0), (7, iV .i64 1)], [(3, some (.box 77 [iV .u64 0, iV .u64 0, iV .u64 0]))], 0⟩ [] (by kernel_rfl) trivial ?_
      refine AWp.conv (inv := [(3, 0)]) (vk := []) (e0 := []) (t := ⟨[(6, .ptr 0 0 0), (7, iV .i64 1)], [(0, some (.box 77 [iV .u64 0, iV .u64 0, iV .u64 0]))], 0⟩) (by kernel_rfl) ?_
      refine AWp.ret ?_
      obtain rfl := Option.some.inj H
      exact Exists.intro _ (And.intro (fun _ _ h => h) (And.intro (.inl rfl) (And.intro rfl (And.intro (by kernel_rfl) (by kernel_rfl)))))
    · replace H := (ifF c2068).symm.trans H
      refine AWp.skip ?_
      refine AWp.seq ?_
      refine AWp.seq ?_
      refine reg hP hn hm [] [1, 2, 3, 6, 44] [2, 3] ⟨[(1, iV .i64 a1), (2, iV .i64 a2), (3, .ptr 2 0 0), (6, .ptr 3 0 0), (44, bV (a0.f4 == (0 : Int)))], [(2, some (.box 35 (aHist a0))), (3, some (.box 77 [iV .u64 0, iV .u64 0, iV .u64 0]))], 0⟩ [] (by kernel_rfl) trivial ?_
      refine AWp.cond (a0.f4 == (0 : Int)) rfl (fun c2069 => ?_) (fun c2069 => ?_)
      · replace H := (ifT c2069).symm.trans H
        refine AWp.seq ?_
        refine reg hP hn hm [] [6, 7] [3] ⟨[(6, .ptr 3 0 0), (7, iV .i64 30)], [(3, some (.box 77 [iV .u64 0, iV .u64 0, iV .u64 0]))], 0⟩ [] (by kernel_rfl) trivial ?_
        refine AWp.conv (inv := [(3, 0)]) (vk := []) (e0 := []) (t := ⟨[(6, .ptr 0 0 0), (7, iV .i64 30)], [(0, some (.box 77 [iV .u64 0, iV .u64 0, iV .u64 0]))], 0⟩) (by kernel_rfl) ?_
        refine AWp.ret ?_
        obtain rfl := Option.some.inj H
        exact Exists.intro _ (And.intro (fun _ _ h => h) (And.intro (.inl rfl) (And.intro rfl (And.intro (by kernel_rfl) (by kernel_rfl)))))
      · replace H := (ifF c2069).symm.trans H
        refine AWp.skip ?_
        refine AWp.seq ?_
        refine reg hP hn hm [(3, .k 4)] [1, 2, 3, 6, 8] [2, 3, 4] ⟨[(1, iV .i64 a1), (2, iV .i64 a2), (3, .ptr 2 0 0), (6, .ptr 3 0 0), (8, .ptr 4 0 0)], [(2, some (.box 35 (aHist a0))), (3, some (.box 77 [iV .u64 0, iV .u64 0, iV .u64 0])), (4, some (.box 77 [iV .u64 0, iV .u64 0, iV .u64 a0.f4]))], 0⟩ [] (by kernel_rfl) trivial ?_
        refine AWp.seq ?_
        obtain ⟨t2072, e2073, H⟩ := bind_of H
        refine reg hP hn hm [(1, .call [] [(0, 5)] [] [5] 0 (.own 0) [(0, some (.row 4 54 (t2072.map epluvialref08_Cell)))])] [1, 2, 3, 6, 8, 9] [2, 3, 4, 5] ⟨[(1, iV .i64 a1), (2, iV .i64 a2), (3, .ptr 2 0 0), (6, .ptr 3 0 0), (8, .ptr 4 0 0), (9, .own 5)], [(2, some (.box 35 (aHist a0))), (3, some (.box 77 [iV .u64 0, iV .u64 0, iV .u64 0])), (4, some (.box 77 [iV .u64 0, iV .u64 0, iV .u64 a0.f4])), (5, some (.row 4 54 (t2072.map epluvialref08_Cell)))], 0⟩ [Enters Try.prog 23, Pv.Fn Try.prog 23 [.agg (aHist a0)] [] 0 (fun r o => r = .own 0 ∧ o = [(0, some (.row 4 54 (t2072.map epluvialref08_Cell)))])] (by kernel_rfl) ⟨by exact Try.call23, by exact f_pluvialref08_Order.ok a0 t2072 e2073, trivial⟩ ?_
        refine AWp.seq ?_
        refine AWp.seq ?_
        refine reg hP hn hm [] [1, 2, 3, 6, 8, 9, 10] [2, 3, 4, 5] ⟨[(1, iV .i64 a1), (2, iV .i64 a2), (3, .ptr 2 0 0), (6, .ptr 3 0 0), (8, .ptr 4 0 0), (9, .own 5), (10, iV .i64 0)], [(2, some (.box 35 (aHist a0))), (3, some (.box 77 [iV .u64 0, iV .u64 0, iV .u64 0])), (4, some (.box 77 [iV .u64 0, iV .u64 0, iV .u64 a0.f4])), (5, some (.row 4 54 (t2072.map epluvialref08_Cell)))], 0⟩ [] (by kernel_rfl) trivial ?_
        refine AWp.block ?_
        obtain ⟨o2147, e2148, H⟩ := bind_of H
        refine AWp.loop (LWp.conv (inv := [(2, 14), (3, 15), (4, 16), (5, 17)]) (vk := []) (e0 := []) (t := ⟨[(1, iV .i64 a1), (2, iV .i64 a2), (3, .ptr 14 0 0), (6, .ptr 15 0 0), (8, .ptr 16 0 0), (9, .own 17), (10, iV .i64 0)], [(14, some (.box 35 (aHist a0))), (15, some (.box 77 [iV .u64 0, iV .u64 0, iV .u64 0])), (16, some (.box 77 [iV .u64 0, iV .u64 0, iV .u64 a0.f4])), (17, some (.row 4 54 (t2072.map epluvialref08_Cell)))], 0⟩) (by kernel_rfl) ?_)
        refine LWp.mono (Q := fun e s => (match (generalizing := false) o2147 with | (x2143, x2144) => e = .exit 0 ∧ s = ⟨[(6, .ptr 26 0 0), (8, .ptr 27 0 0)], [(26, some (.box 77 [iV .u64 0, iV .u64 0, iV .u64 0])), (27, some (.box 77 [iV .u64 x2143, iV .u64 x2144, iV .u64 a0.f4]))], 0⟩)) (LWp.cv (withBody (fun body hbody => ?_))) ?_
        · refine f_pluvialref08_Below.l0.partial_correctness a0 a1 a2 t2072 (motive := fun x2116 x2117 x2118 o2147 => LWp Γ body (fun e s => ∃ t, Cv Γ s t ∧ (match (generalizing := false) o2147 with | (x2143, x2144) => e = .exit 0 ∧ t = ⟨[(6, .ptr 26 0 0), (8, .ptr 27 0 0)], [(26, some (.box 77 [iV .u64 0, iV .u64 0, iV .u64 0])), (27, some (.box 77 [iV .u64 x2143, iV .u64 x2144, iV .u64 a0.f4]))], 0⟩)) ⟨[(1, iV .i64 a1), (2, iV .i64 a2), (3, .ptr 14 0 0), (6, .ptr 15 0 0), (8, .ptr 16 0 0), (9, .own 17), (10, iV .i64 x2118)], [(14, some (.box 35 (aHist a0))), (15, some (.box 77 [iV .u64 0, iV .u64 0, iV .u64 0])), (16, some (.box 77 [iV .u64 x2116, iV .u64 x2117, iV .u64 a0.f4])), (17, some (.row 4 54 (t2072.map epluvialref08_Cell)))], 0⟩) ?_ _ _ _ _ e2148
          clear H e2148 o2147; intro self ih x2116 x2117 x2118 o2147 H
          subst hbody
          refine LWp.round ?_
          refine AWp.seq ?_
          refine AWp.seq ?_
          refine reg hP hn hm [(2, .any (iV .i64 (t2072.length : Int)))] [1, 2, 3, 6, 8, 9, 10, 54] [14, 15, 16, 17] ⟨[(1, iV .i64 a1), (2, iV .i64 a2), (3, .ptr 14 0 0), (6, .ptr 15 0 0), (8, .ptr 16 0 0), (9, .own 17), (10, iV .i64 x2118), (54, bV (decide (x2118 < (t2072.length : Int))))], [(14, some (.box 35 (aHist a0))), (15, some (.box 77 [iV .u64 0, iV .u64 0, iV .u64 0])), (16, some (.box 77 [iV .u64 x2116, iV .u64 x2117, iV .u64 a0.f4])), (17, some (.row 4 54 (t2072.map epluvialref08_Cell)))], 0⟩ [((t2072.map epluvialref08_Cell).length : Int) = (t2072.length : Int)] (by kernel_rfl) ⟨by rw [len_map], trivial⟩ ?_
          refine AWp.cond (decide (x2118 < (t2072.length : Int))) rfl (fun c2119 => ?_) (fun c2119 => ?_)
          · replace H := (ifT c2119).symm.trans H
            refine AWp.skip ?_
            refine AWp.seq ?_
            refine AWp.block ?_
            refine AWp.seq ?_
            obtain ⟨b2125, p2126, q2127, H⟩ := at_of H
            obtain ⟨t2128, e2129, H⟩ := bind_of H
            refine reg hP hn hm [(4, .c (epluvialref08_Cell b2125)), (5, .call [] [] [] [] 0 (.tup [iV .i64 t2128.1, iV .i64 t2128.2.1, iV .i64 t2128.2.2.1, iV .i64 t2128.2.2.2]) [])] [1, 2, 3, 6, 8, 9, 10, 11, 12, 13, 14] [14, 15, 16, 17] ⟨[(1, iV .i64 a1), (2, iV .i64 a2), (3, .ptr 14 0 0), (6, .ptr 15 0 0), (8, .ptr 16 0 0), (9, .own 17), (10, iV .i64 x2118), (11, iV .i64 t2128.1), (12, iV .i64 t2128.2.1), (13, iV .i64 t2128.2.2.1), (14, iV .i64 t2128.2.2.2)], [(14, some (.box 35 (aHist a0))), (15, some (.box 77 [iV .u64 0, iV .u64 0, iV .u64 0])), (16, some (.box 77 [iV .u64 x2116, iV .u64 x2117, iV .u64 a0.f4])), (17, some (.row 4 54 (t2072.map epluvialref08_Cell)))], 0⟩ [0 ≤ x2118, x2118 < (((t2072.map epluvialref08_Cell).length : Nat) : Int), (t2072.map epluvialref08_Cell)[(Int.toNat (x2118))]? = some (epluvialref08_Cell b2125), Enters Try.prog 77, Pv.Fn Try.prog 77 [.agg (aHist a0), .agg (apluvialref08_Cell b2125)] [] 0 (fun r o => r = .tup [iV .i64 t2128.1, iV .i64 t2128.2.1, iV .i64 t2128.2.2.1, iV .i64 t2128.2.2.2] ∧ o = [])] (by kernel_rfl) ⟨by exact p2126, by exact el_lt epluvialref08_Cell p2126 q2127, by exact el_map epluvialref08_Cell q2127, by exact Try.call77, by exact f_pluvialref08_ends.ok a0 b2125 t2128 e2129, trivial⟩ ?_
            refine AWp.seq ?_
            obtain ⟨t2132, e2133, H⟩ := bind_of H
            refine reg hP hn hm [(4, .call [] [] [] [] 0 (bV t2132) [])] [1, 2, 3, 6, 8, 9, 10, 11, 12, 73] [14, 15, 16, 17] ⟨[(1, iV .i64 a1), (2, iV .i64 a2), (3, .ptr 14 0 0), (6, .ptr 15 0 0), (8, .ptr 16 0 0), (9, .own 17), (10, iV .i64 x2118), (11, iV .i64 t2128.1), (12, iV .i64 t2128.2.1), (73, bV (!t2132))], [(14, some (.box 35 (aHist a0))), (15, some (.box 77 [iV .u64 0, iV .u64 0, iV .u64 0])), (16, some (.box 77 [iV .u64 x2116, iV .u64 x2117, iV .u64 a0.f4])), (17, some (.row 4 54 (t2072.map epluvialref08_Cell)))], 0⟩ [Enters Try.prog 78, Pv.Fn Try.prog 78 [iV .i64 t2128.2.2.1, iV .i64 t2128.2.2.2, iV .i64 a1, iV .i64 a2] [] 0 (fun r o => r = bV t2132 ∧ o = [])] (by kernel_rfl) ⟨by exact Try.call78, by exact f_pluvialref08_above.ok t2128.2.2.1 t2128.2.2.2 a1 a2 t2132 e2133, trivial⟩ ?_
            obtain ⟨o2149, e2150, H⟩ := bind_of H
            refine AWp.mono (Q := fun e s => (match (generalizing := false) o2149 with | (x2141, x2142) => e = .normal ∧ s = ⟨[(1, iV .i64 a1), (2, iV .i64 a2), (3, .ptr 22 0 0), (6, .ptr 23 0 0), (8, .ptr 24 0 0), (9, .own 25), (10, iV .i64 x2118)], [(22, some (.box 35 (aHist a0))), (23, some (.box 77 [iV .u64 0, iV .u64 0, iV .u64 0])), (24, some (.box 77 [iV .u64 x2141, iV .u64 x2142, iV .u64 a0.f4])), (25, some (.row 4 54 (t2072.map epluvialref08_Cell)))], 0⟩)) (AWp.cv ?_) ?_
            · replace H := e2150; clear e2150
              refine AWp.cond (!t2132) rfl (fun c2134 => ?_) (fun c2134 => ?_)
              · replace H := (ifT c2134).symm.trans H
                refine reg hP hn hm [(0, .more (xIdxA 0)), (6, .c (epluvialref08_Cell b2125)), (8, .more (xIdxA 0))] [1, 2, 3, 6, 8, 9, 10] [14, 15, 16, 17] ⟨[(1, iV .i64 a1), (2, iV .i64 a2), (3, .ptr 14 0 0), (6, .ptr 15 0 0), (8, .ptr 16 0 0), (9, .own 17), (10, iV .i64 x2118)], [(14, some (.box 35 (aHist a0))), (15, some (.box 77 [iV .u64 0, iV .u64 0, iV .u64 0])), (16, some (.box 77 [iV .u64 (IntKind.u64.wrap (x2116 + b2125.f3)), iV .u64 x2117, iV .u64 a0.f4])), (17, some (.row 4 54 (t2072.map epluvialref08_Cell)))], 0⟩ [(0 : Int) = ((0 : Nat) : Int), 0 ≤ x2118, x2118 < (((t2072.map epluvialref08_Cell).length : Nat) : Int), (t2072.map epluvialref08_Cell)[(Int.toNat (x2118))]? = some (epluvialref08_Cell b2125), (0 : Int) = ((0 : Nat) : Int)] (by kernel_rfl) ⟨by exact rfl, by exact p2126, by exact el_lt epluvialref08_Cell p2126 q2127, by exact el_map epluvialref08_Cell q2127, by exact rfl, trivial⟩ ?_
                obtain rfl := Option.some.inj H
                exact Exists.intro _ (And.intro (fun _ _ h => h.conv (inv := [(14, 22), (15, 23), (16, 24), (17, 25)]) (vk := []) (e0 := []) (t := ⟨[(1, iV .i64 a1), (2, iV .i64 a2), (3, .ptr 22 0 0), (6, .ptr 23 0 0), (8, .ptr 24 0 0), (9, .own 25), (10, iV .i64 x2118)], [(22, some (.box 35 (aHist a0))), (23, some (.box 77 [iV .u64 0, iV .u64 0, iV .u64 0])), (24, some (.box 77 [iV .u64 (IntKind.u64.wrap (x2116 + b2125.f3)), iV .u64 x2117, iV .u64 a0.f4])), (25, some (.row 4 54 (t2072.map epluvialref08_Cell)))], 0⟩) (by kernel_rfl)) (And.intro rfl rfl))
              · replace H := (ifF c2134).symm.trans H
                refine AWp.seq ?_
                obtain ⟨t2137, e2138, H⟩ := bind_of H
                refine reg hP hn hm [(4, .call [] [] [] [] 0 (bV t2137) [])] [1, 2, 3, 6, 8, 9, 10, 87] [14, 15, 16, 17] ⟨[(1, iV .i64 a1), (2, iV .i64 a2), (3, .ptr 14 0 0), (6, .ptr 15 0 0), (8, .ptr 16 0 0), (9, .own 17), (10, iV .i64 x2118), (87, bV t2137)], [(14, some (.box 35 (aHist a0))), (15, some (.box 77 [iV .u64 0, iV .u64 0, iV .u64 0])), (16, some (.box 77 [iV .u64 x2116, iV .u64 x2117, iV .u64 a0.f4])), (17, some (.row 4 54 (t2072.map epluvialref08_Cell)))], 0⟩ [Enters Try.prog 78, Pv.Fn Try.prog 78 [iV .i64 a1, iV .i64 a2, iV .i64 t2128.1, iV .i64 t2128.2.1] [] 0 (fun r o => r = bV t2137 ∧ o = [])] (by kernel_rfl) ⟨by exact Try.call78, by exact f_pluvialref08_above.ok a1 a2 t2128.1 t2128.2.1 t2137 e2138, trivial⟩ ?_
                obtain ⟨o2151, e2152, H⟩ := bind_of H
                refine AWp.mono (Q := fun e s => (match (generalizing := false) o2151 with | x2140 => e = .normal ∧ s = ⟨[(1, iV .i64 a1), (2, iV .i64 a2), (3, .ptr 18 0 0), (6, .ptr 19 0 0), (8, .ptr 20 0 0), (9, .own 21), (10, iV .i64 x2118)], [(18, some (.box 35 (aHist a0))), (19, some (.box 77 [iV .u64 0, iV .u64 0, iV .u64 0])), (20, some (.box 77 [iV .u64 x2116, iV .u64 x2140, iV .u64 a0.f4])), (21, some (.row 4 54 (t2072.map epluvialref08_Cell)))], 0⟩)) (AWp.cv ?_) ?_
                · replace H := e2152; clear e2152
                  refine AWp.cond t2137 rfl (fun c2139 => ?_) (fun c2139 => ?_)
                  · replace H := (ifT c2139).symm.trans H
                    refine reg hP hn hm [(0, .more (xIdxA 1)), (6, .c (epluvialref08_Cell b2125)), (8, .more (xIdxA 1))] [1, 2, 3, 6, 8, 9, 10] [14, 15, 16, 17] ⟨[(1, iV .i64 a1), (2, iV .i64 a2), (3, .ptr 14 0 0), (6, .ptr 15 0 0), (8, .ptr 16 0 0), (9, .own 17), (10, iV .i64 x2118)], [(14, some (.box 35 (aHist a0))), (15, some (.box 77 [iV .u64 0, iV .u64 0, iV .u64 0])), (16, some (.box 77 [iV .u64 x2116, iV .u64 (IntKind.u64.wrap (x2117 + b2125.f3)), iV .u64 a0.f4])), (17, some (.row 4 54 (t2072.map epluvialref08_Cell)))], 0⟩ [(1 : Int) = ((1 : Nat) : Int), 0 ≤ x2118, x2118 < (((t2072.map epluvialref08_Cell).length : Nat) : Int), (t2072.map epluvialref08_Cell)[(Int.toNat (x2118))]? = some (epluvialref08_Cell b2125), (1 : Int) = ((1 : Nat) : Int)] (by kernel_rfl) ⟨by exact rfl, by exact p2126, by exact el_lt epluvialref08_Cell p2126 q2127, by exact el_map epluvialref08_Cell q2127, by exact rfl, trivial⟩ ?_
                    obtain rfl := Option.some.inj H
                    exact Exists.intro _ (And.intro (fun _ _ h => h.conv (inv := [(14, 18), (15, 19), (16, 20), (17, 21)]) (vk := []) (e0 := []) (t := ⟨[(1, iV .i64 a1), (2, iV .i64 a2), (3, .ptr 18 0 0), (6, .ptr 19 0 0), (8, .ptr 20 0 0), (9, .own 21), (10, iV .i64 x2118)], [(18, some (.box 35 (aHist a0))), (19, some (.box 77 [iV .u64 0, iV .u64 0, iV .u64 0])), (20, some (.box 77 [iV .u64 x2116, iV .u64 (IntKind.u64.wrap (x2117 + b2125.f3)), iV .u64 a0.f4])), (21, some (.row 4 54 (t2072.map epluvialref08_Cell)))], 0⟩) (by kernel_rfl)) (And.intro rfl rfl))
                  · replace H := (ifF c2139).symm.trans H
                    refine AWp.skip ?_
                    obtain rfl := Option.some.inj H
                    exact Exists.intro _ (And.intro (fun _ _ h => h.conv (inv := [(14, 18), (15, 19), (16, 20), (17, 21)]) (vk := []) (e0 := []) (t := ⟨[(1, iV .i64 a1), (2, iV .i64 a2), (3, .ptr 18 0 0), (6, .ptr 19 0 0), (8, .ptr 20 0 0), (9, .own 21), (10, iV .i64 x2118)], [(18, some (.box 35 (aHist a0))), (19, some (.box 77 [iV .u64 0, iV .u64 0, iV .u64 0])), (20, some (.box 77 [iV .u64 x2116, iV .u64 x2117, iV .u64 a0.f4])), (21, some (.row 4 54 (t2072.map epluvialref08_Cell)))], 0⟩) (by kernel_rfl)) (And.intro rfl rfl))
                · obtain ⟨x2140, rfl⟩ : ∃ z, z = o2151 := ⟨_, rfl⟩
                  rintro e s ⟨rfl, rfl⟩
                  obtain rfl := Option.some.inj H
                  exact Exists.intro _ (And.intro (fun _ _ h => h.conv (inv := [(18, 22), (19, 23), (20, 24), (21, 25)]) (vk := []) (e0 := []) (t := ⟨[(1, iV .i64 a1), (2, iV .i64 a2), (3, .ptr 22 0 0), (6, .ptr 23 0 0), (8, .ptr 24 0 0), (9, .own 25), (10, iV .i64 x2118)], [(22, some (.box 35 (aHist a0))), (23, some (.box 77 [iV .u64 0, iV .u64 0, iV .u64 0])), (24, some (.box 77 [iV .u64 x2116, iV .u64 x2140, iV .u64 a0.f4])), (25, some (.row 4 54 (t2072.map epluvialref08_Cell)))], 0⟩) (by kernel_rfl)) (And.intro rfl rfl))
            · obtain ⟨x2141, x2142⟩ := o2149
              rintro e s ⟨rfl, rfl⟩
              refine reg hP hn hm [] [1, 2, 3, 6, 8, 9, 10] [22, 23, 24, 25] ⟨[(1, iV .i64 a1), (2, iV .i64 a2), (3, .ptr 22 0 0), (6, .ptr 23 0 0), (8, .ptr 24 0 0), (9, .own 25), (10, iV .i64 (IntKind.i64.wrap (x2118 + (1 : Int))))], [(22, some (.box 35 (aHist a0))), (23, some (.box 77 [iV .u64 0, iV .u64 0, iV .u64 0])), (24, some (.box 77 [iV .u64 x2141, iV .u64 x2142, iV .u64 a0.f4])), (25, some (.row 4 54 (t2072.map epluvialref08_Cell)))], 0⟩ [] (by kernel_rfl) trivial ?_
              exact LWp.conv (inv := [(22, 14), (23, 15), (24, 16), (25, 17)]) (vk := []) (e0 := []) (t := ⟨[(1, iV .i64 a1), (2, iV .i64 a2), (3, .ptr 14 0 0), (6, .ptr 15 0 0), (8, .ptr 16 0 0), (9, .own 17), (10, iV .i64 (IntKind.i64.wrap (x2118 + (1 : Int))))], [(14, some (.box 35 (aHist a0))), (15, some (.box 77 [iV .u64 0, iV .u64 0, iV .u64 0])), (16, some (.box 77 [iV .u64 x2141, iV .u64 x2142, iV .u64 a0.f4])), (17, some (.row 4 54 (t2072.map epluvialref08_Cell)))], 0⟩) (by kernel_rfl) (ih _ _ _ _ H)
          · replace H := (ifF c2119).symm.trans H
            refine AWp.exit ?_
            obtain rfl := Option.some.inj H
            exact Exists.intro _ (And.intro (fun _ _ h => h.conv (inv := [(15, 26), (16, 27)]) (vk := []) (e0 := []) (t := ⟨[(6, .ptr 26 0 0), (8, .ptr 27 0 0)], [(26, some (.box 77 [iV .u64 0, iV .u64 0, iV .u64 0])), (27, some (.box 77 [iV .u64 x2116, iV .u64 x2117, iV .u64 a0.f4]))], 0⟩) (by kernel_rfl)) (And.intro rfl rfl))
        · obtain ⟨x2143, x2144⟩ := o2147
          rintro e s ⟨rfl, rfl⟩
          refine AWp.seq ?_
          refine reg hP hn hm [] [6, 7] [26] ⟨[(6, .ptr 26 0 0), (7, iV .i64 0)], [(26, some (.box 77 [iV .u64 x2143, iV .u64 x2144, iV .u64 a0.f4]))], 0⟩ [] (by kernel_rfl) trivial ?_
          refine AWp.conv (inv := [(26, 0)]) (vk := []) (e0 := []) (t := ⟨[(6, .ptr 0 0 0), (7, iV .i64 0)], [(0, some (.box 77 [iV .u64 x2143, iV .u64 x2144, iV .u64 a0.f4]))], 0⟩) (by kernel_rfl) ?_
          refine AWp.ret ?_
          obtain rfl := Option.some.inj H
          exact Exists.intro _ (And.intro (fun _ _ h => h) (And.intro (.inl rfl) (And.intro rfl (And.intro (by kernel_rfl) (by kernel_rfl)))))
def f_pluviallaw08_RankBelow.f (a0 : THist) (a1 : Trank_Place) : Option (Bool) := (f_pluviallaw08_right.f a0) >>= fun t1945 => if (!t1945) = true then ((f_pluviallaw08_awake.f) >>= fun t1950 => some t1950) else ((f_rank_Below.f a0 a1) >>= fun t2045 => (f_pluvialref08_Below.f a0 a1.f0 a1.f1) >>= fun t2155 => (((f_pluviallaw08_awake.f) >>= fun t2161 => if t2161 = true then (if (t2045.2 == t2155.2.2.2) = true then (some ((((t2045.1).f0) == t2155.1) && ((((t2045.1).f1) == t2155.2.1) && ((((t2045.1).f2) == t2155.2.2.1) && true)))) else (some false)) else (some false)) : Option (Bool)) >>= fun x2165 => some x2165)
theorem f_pluviallaw08_RankBelow.ok (a0 : THist) (a1 : Trank_Place) (r : Bool) (H : f_pluviallaw08_RankBelow.f a0 a1 = some r) : Pv.Fn Try.prog 7 [.agg (aHist a0), .agg (arank_Place a1)] [] 0 (fun x o => x = bV r ∧ o = []) := by
  unfold f_pluviallaw08_RankBelow.f at H
  refine Fn.bodyK [] Try.func7 rfl rfl (fun Γ hP hn => ?_)
  have hm : Try.prog.follows .mixedOrders = true := by kernel_rfl
  replace hn : Γ.n = 45 := hn
  refine AWp.seq ?_
  refine reg hP hn hm [(0, .k 0), (1, .k 1)] [2, 3] [0, 1] ⟨[(2, .ptr 0 0 0), (3, .ptr 1 0 0)], [(0, some (.box 35 (aHist a0))), (1, some (.box 72 (arank_Place a1)))], 0⟩ [] (by kernel_rfl) trivial ?_
  refine AWp.seq ?_
  refine AWp.seq ?_
  obtain ⟨t1945, e1946, H⟩ := bind_of H
  refine reg hP hn hm [(1, .call [] [] [] [] 0 (bV t1945) [])] [2, 3, 11] [0, 1] ⟨[(2, .ptr 0 0 0), (3, .ptr 1 0 0), (11, bV (!t1945))], [(0, some (.box 35 (aHist a0))), (1, some (.box 72 (arank_Place a1)))], 0⟩ [Enters Try.prog 19, Pv.Fn Try.prog 19 [.agg (aHist a0)] [] 0 (fun r o => r = bV t1945 ∧ o = [])] (by kernel_rfl) ⟨by exact Try.call19, by exact f_pluviallaw08_right.ok a0 t1945 e1946, trivial⟩ ?_
  refine AWp.cond (!t1945) rfl (fun c1947 => ?_) (fun c1947 => ?_)
  · replace H := (ifT c1947).symm.trans H
    refine AWp.seq ?_
    obtain ⟨t1950, e1951, H⟩ := bind_of H
    refine reg hP hn hm [(0, .call [] [] [] [] 0 (bV t1950) [])] [4] [] ⟨[(4, bV t1950)], [], 0⟩ [Enters Try.prog 20, Pv.Fn Try.prog 20 [] [] 0 (fun r o => r = bV t1950 ∧ o = [])] (by kernel_rfl) ⟨by exact Try.call20, by exact f_pluviallaw08_awake.ok  t1950 e1951, trivial⟩ ?_
    refine AWp.conv (inv := []) (vk := []) (e0 := []) (t := ⟨[(4, bV t1950)], [], 0⟩) (by kernel_rfl) ?_
    refine AWp.ret ?_
    obtain rfl := Option.some.inj H
    exact Exists.intro _ (And.intro (fun _ _ h => h) (And.intro (.inl rfl) (And.intro rfl (And.intro (by kernel_rfl) (by kernel_rfl)))))
  · replace H := (ifF c1947).symm.trans H
    refine AWp.skip ?_
    refine AWp.seq ?_
    obtain ⟨t2045, e2046, H⟩ := bind_of H
    refine reg hP hn hm [(2, .call [] [] [] [] 0 (.tup [.agg (arank_Part (t2045.1)), iV .i64 t2045.2]) []), (6, .k 2)] [2, 3, 5, 6] [0, 1, 2] ⟨[(2, .ptr 0 0 0), (3, .ptr 1 0 0), (5, .ptr 2 0 0), (6, iV .i64 t2045.2)], [(0, some (.box 35 (aHist a0))), (1, some (.box 72 (arank_Place a1))), (2, some (.box 74 (arank_Part (t2045.1))))], 0⟩ [Enters Try.prog 34, Pv.Fn Try.prog 34 [.agg (aHist a0), .agg (arank_Place a1)] [] 0 (fun r o => r = .tup [.agg (arank_Part (t2045.1)), iV .i64 t2045.2] ∧ o = [])] (by kernel_rfl) ⟨by exact Try.call34, by exact f_rank_Below.ok a0 a1 t2045 e2046, trivial⟩ ?_
    refine AWp.seq ?_
    obtain ⟨t2155, e2156, H⟩ := bind_of H
    refine reg hP hn hm [(5, .call [] [] [] [] 0 (.tup [.agg (arank_Part ⟨t2155.1, t2155.2.1, t2155.2.2.1⟩), iV .i64 t2155.2.2.2]) []), (9, .k 3)] [5, 6, 7, 8] [2, 3] ⟨[(5, .ptr 2 0 0), (6, iV .i64 t2045.2), (7, .ptr 3 0 0), (8, iV .i64 t2155.2.2.2)], [(2, some (.box 74 (arank_Part (t2045.1)))), (3, some (.box 77 [iV .u64 t2155.1, iV .u64 t2155.2.1, iV .u64 t2155.2.2.1]))], 0⟩ [Enters Try.prog 35, Pv.Fn Try.prog 35 [.agg (aHist a0), iV .i64 a1.f0, iV .i64 a1.f1] [] 0 (fun r o => r = .tup [.agg (arank_Part ⟨t2155.1, t2155.2.1, t2155.2.2.1⟩), iV .i64 t2155.2.2.2] ∧ o = [])] (by kernel_rfl) ⟨by exact Try.call35, by exact f_pluvialref08_Below.ok a0 a1.f0 a1.f1 t2155 e2156, trivial⟩ ?_
    refine AWp.seq ?_
    obtain ⟨o2166, e2167, H⟩ := bind_of H
    refine AWp.mono (Q := fun e s => (match (generalizing := false) o2166 with | x2165 => e = .normal ∧ s = ⟨[(4, bV x2165)], [], 0⟩)) (AWp.cv ?_) ?_
    · replace H := e2167; clear e2167
      obtain ⟨t2161, e2162, H⟩ := bind_of H
      rcases Bool.eq_false_or_eq_true t2161 with c2163 | c2163
      · replace H := (ifT c2163).symm.trans H
        rcases Bool.eq_false_or_eq_true (t2045.2 == t2155.2.2.2) with c2164 | c2164
        · replace H := (ifT c2164).symm.trans H
          refine reg hP hn hm [(0, .call [] [] [] [] 0 (bV t2161) []), (1, .b true), (6, .b true), (15, .more (xAggA none))] [4] [] ⟨[(4, bV ((((t2045.1).f0) == t2155.1) && ((((t2045.1).f1) == t2155.2.1) && ((((t2045.1).f2) == t2155.2.2.1) && true))))], [], 0⟩ [Enters Try.prog 20, Pv.Fn Try.prog 20 [] [] 0 (fun r o => r = bV t2161 ∧ o = []), t2161 = true, (t2045.2 == t2155.2.2.2) = true] (by kernel_rfl) ⟨by exact Try.call20, by exact f_pluviallaw08_awake.ok  t2161 e2162, by exact c2163, by exact c2164, trivial⟩ ?_
          obtain rfl := Option.some.inj H
          exact Exists.intro _ (And.intro (fun _ _ h => h.conv (inv := []) (vk := []) (e0 := []) (t := ⟨[(4, bV ((((t2045.1).f0) == t2155.1) && ((((t2045.1).f1) == t2155.2.1) && ((((t2045.1).f2) == t2155.2.2.1) && true))))], [], 0⟩) (by kernel_rfl)) (And.intro rfl rfl))
        · replace H := (ifF c2164).symm.trans H
          refine reg hP hn hm [(0, .call [] [] [] [] 0 (bV t2161) []), (1, .b true), (6, .b false)] [4] [] ⟨[(4, bV false)], [], 0⟩ [Enters Try.prog 20, Pv.Fn Try.prog 20 [] [] 0 (fun r o => r = bV t2161 ∧ o = []), t2161 = true, (t2045.2 == t2155.2.2.2) = false] (by kernel_rfl) ⟨by exact Try.call20, by exact f_pluviallaw08_awake.ok  t2161 e2162, by exact c2163, by exact c2164, trivial⟩ ?_
          obtain rfl := Option.some.inj H
          exact Exists.intro _ (And.intro (fun _ _ h => h.conv (inv := []) (vk := []) (e0 := []) (t := ⟨[(4, bV false)], [], 0⟩) (by kernel_rfl)) (And.intro rfl rfl))
      · replace H := (ifF c2163).symm.trans H
        refine reg hP hn hm [(0, .call [] [] [] [] 0 (bV t2161) []), (1, .b false)] [4] [] ⟨[(4, bV false)], [], 0⟩ [Enters Try.prog 20, Pv.Fn Try.prog 20 [] [] 0 (fun r o => r = bV t2161 ∧ o = []), t2161 = false] (by kernel_rfl) ⟨by exact Try.call20, by exact f_pluviallaw08_awake.ok  t2161 e2162, by exact c2163, trivial⟩ ?_
        obtain rfl := Option.some.inj H
        exact Exists.intro _ (And.intro (fun _ _ h => h.conv (inv := []) (vk := []) (e0 := []) (t := ⟨[(4, bV false)], [], 0⟩) (by kernel_rfl)) (And.intro rfl rfl))
    · obtain ⟨x2165, rfl⟩ : ∃ z, z = o2166 := ⟨_, rfl⟩
      rintro e s ⟨rfl, rfl⟩
      refine AWp.conv (inv := []) (vk := []) (e0 := []) (t := ⟨[(4, bV x2165)], [], 0⟩) (by kernel_rfl) ?_
      refine AWp.ret ?_
      obtain rfl := Option.some.inj H
      exact Exists.intro _ (And.intro (fun _ _ h => h) (And.intro (.inl rfl) (And.intro rfl (And.intro (by kernel_rfl) (by kernel_rfl)))))
end Go.Proofs.Yteogljahemehkaa.PvGC
