import Derived.Test.YteogljahemehkaaProg
import Derived.Test.YteogljahemehkaaPxRankEnds05
set_option linter.unusedVariables false
set_option linter.unnecessarySimpa false
set_option linter.unusedSimpArgs false
set_option maxRecDepth 10000
namespace Go.Proofs.Yteogljahemehkaa.PvGC
open Go Go.Pv
def f_rank_Order.l0 (a0 : THist) (x1316 : List Trank_Cell) (x1317 : Int) : Option (List Trank_Cell) := if (decide (x1317 ≥ (0 : Int))) = true then ((at? a0.f7 x1317) >>= fun b1323 => (chk ((x1316.length + [(⟨(⟨(-1), a0.f1, b1323.f0⟩ : Tbound_Key), b1323.f1⟩ : Trank_Cell)].length) * 32 ≤ 140737488355328)) >>= fun _ => f_rank_Order.l0 a0 (x1316 ++ [(⟨(⟨(-1), a0.f1, b1323.f0⟩ : Tbound_Key), b1323.f1⟩ : Trank_Cell)]) (IntKind.i64.wrap (x1317 - (1 : Int)))) else (some x1316)
partial_fixpoint
def f_rank_Order.l1 (a0 : THist) (x1341 : List Trank_Cell) (x1342 : Int) : Option (List Trank_Cell) := if (decide (x1342 < (a0.f6.length : Int))) = true then ((at? a0.f6 x1342) >>= fun b1347 => (chk ((x1341.length + [(⟨(⟨1, a0.f1, b1347.f0⟩ : Tbound_Key), b1347.f1⟩ : Trank_Cell)].length) * 32 ≤ 140737488355328)) >>= fun _ => f_rank_Order.l1 a0 (x1341 ++ [(⟨(⟨1, a0.f1, b1347.f0⟩ : Tbound_Key), b1347.f1⟩ : Trank_Cell)]) (IntKind.i64.wrap (x1342 + (1 : Int)))) else (some x1341)
partial_fixpoint
def f_rank_Order.f (a0 : THist) : Option (List Trank_Cell) := (f_rank_Order.l0 a0 [] (IntKind.i64.wrap ((a0.f7.length : Int) - (1 : Int)))) >>= fun x1327 => ((if (decide (a0.f3 > (0 : Int))) = true then ((chk ((x1327.length + [(⟨(⟨0, 0, 0⟩ : Tbound_Key), a0.f3⟩ : Trank_Cell)].length) * 32 ≤ 140737488355328)) >>= fun _ => some (x1327 ++ [(⟨(⟨0, 0, 0⟩ : Tbound_Key), a0.f3⟩ : Trank_Cell)])) else (some x1327)) : Option (List Trank_Cell)) >>= fun x1331 => (f_rank_Order.l1 a0 x1331 0) >>= fun x1352 => some x1352
theorem f_rank_Order.ok (a0 : THist) (r : List Trank_Cell) (H : f_rank_Order.f a0 = some r) : Pv.Fn Try.prog 21 [.agg (aHist a0)] [] 0 (fun x o => x = .own 0 ∧ o = [(0, some (.row 4 47 (r.map erank_Cell)))]) := by
  unfold f_rank_Order.f at H
  refine Fn.bodyK [0] Try.func21 rfl rfl (fun Γ hP hn => ?_)
  have hm : Try.prog.follows .mixedOrders = true := by kernel_rfl
  replace hn : Γ.n = 64 := hn
  refine AWp.seq ?_
  refine reg hP hn hm [(0, .k 0)] [1] [0] ⟨[(1, .ptr 0 0 0)], [(0, some (.box 35 (aHist a0)))], 0⟩ [] (by kernel_rfl) trivial ?_
  refine AWp.seq ?_
  refine reg hP hn hm [] [1, 3] [0] ⟨[(1, .ptr 0 0 0), (3, .none0)], [(0, some (.box 35 (aHist a0)))], 0⟩ [] (by kernel_rfl) trivial ?_
  refine AWp.seq ?_
  refine AWp.seq ?_
  refine reg hP hn hm [(2, .any (iV .i64 (a0.f7.length : Int)))] [1, 3, 4] [0] ⟨[(1, .ptr 0 0 0), (3, .none0), (4, iV .i64 (IntKind.i64.wrap ((a0.f7.length : Int) - (1 : Int))))], [(0, some (.box 35 (aHist a0)))], 0⟩ [((a0.f7.map eBucket).length : Int) = (a0.f7.length : Int)] (by kernel_rfl) ⟨by rw [len_map], trivial⟩ ?_
  refine AWp.block ?_
  obtain ⟨o1353, e1354, H⟩ := bind_of H
  refine AWp.loop (LWp.conv (inv := [(0, 3)]) (vk := []) (e0 := [4]) (t := ⟨[(1, .ptr 3 0 0), (3, .own 4), (4, iV .i64 (IntKind.i64.wrap ((a0.f7.length : Int) - (1 : Int))))], [(3, some (.box 35 (aHist a0))), (4, some (.row 4 47 ([].map erank_Cell)))], 0⟩) (by kernel_rfl) ?_)
  refine LWp.mono (Q := fun e s => (match (generalizing := false) o1353 with | x1327 => e = .exit 0 ∧ s = ⟨[(1, .ptr 7 0 0), (3, .own 8)], [(7, some (.box 35 (aHist a0))), (8, some (.row 4 47 (x1327.map erank_Cell)))], 0⟩)) (LWp.cv (withBody (fun body hbody => ?_))) ?_
  · refine f_rank_Order.l0.partial_correctness a0 (motive := fun x1316 x1317 o1353 => LWp Γ body (fun e s => ∃ t, Cv Γ s t ∧ (match (generalizing := false) o1353 with | x1327 => e = .exit 0 ∧ t = ⟨[(1, .ptr 7 0 0), (3, .own 8)], [(7, some (.box 35 (aHist a0))), (8, some (.row 4 47 (x1327.map erank_Cell)))], 0⟩)) ⟨[(1, .ptr 3 0 0), (3, .own 4), (4, iV .i64 x1317)], [(3, some (.box 35 (aHist a0))), (4, some (.row 4 47 (x1316.map erank_Cell)))], 0⟩) ?_ _ _ _ e1354
    clear H e1354 o1353; intro self ih x1316 x1317 o1353 H
    subst hbody
    refine LWp.round ?_
    refine AWp.seq ?_
    refine AWp.seq ?_
    refine reg hP hn hm [] [1, 3, 4, 12] [3, 4] ⟨[(1, .ptr 3 0 0), (3, .own 4), (4, iV .i64 x1317), (12, bV (decide (x1317 ≥ (0 : Int))))], [(3, some (.box 35 (aHist a0))), (4, some (.row 4 47 (x1316.map erank_Cell)))], 0⟩ [] (by kernel_rfl) trivial ?_
    refine AWp.cond (decide (x1317 ≥ (0 : Int))) rfl (fun c1318 => ?_) (fun c1318 => ?_)
    · replace H := (ifT c1318).symm.trans H
      refine AWp.skip ?_
      refine AWp.seq ?_
      refine AWp.block ?_
      obtain ⟨b1323, p1324, q1325, H⟩ := at_of H
      obtain ⟨c1326, H⟩ := chk_of H
      refine reg hP hn hm [(6, .c (eBucket b1323)), (13, .c (eBucket b1323)), (17, .app 5 ([(⟨(⟨(-1), a0.f1, b1323.f0⟩ : Tbound_Key), b1323.f1⟩ : Trank_Cell)].map erank_Cell)), (18, .app 6 ((x1316 ++ [(⟨(⟨(-1), a0.f1, b1323.f0⟩ : Tbound_Key), b1323.f1⟩ : Trank_Cell)]).map erank_Cell))] [1, 3, 4] [3, 6] ⟨[(1, .ptr 3 0 0), (3, .own 6), (4, iV .i64 x1317)], [(3, some (.box 35 (aHist a0))), (6, some (.row 4 47 ((x1316 ++ [(⟨(⟨(-1), a0.f1, b1323.f0⟩ : Tbound_Key), b1323.f1⟩ : Trank_Cell)]).map erank_Cell)))], 0⟩ [0 ≤ x1317, (a0.f7.map eBucket)[(Int.toNat (x1317))]? = some (eBucket b1323), 0 ≤ x1317, (a0.f7.map eBucket)[(Int.toNat (x1317))]? = some (eBucket b1323), [(⟨(⟨(-1), a0.f1, b1323.f0⟩ : Tbound_Key), b1323.f1⟩ : Trank_Cell)].map erank_Cell = [[iI .i64 (-1), iI .i64 a0.f1, iI .i64 b1323.f0, iI .u64 b1323.f1]], (x1316 ++ [(⟨(⟨(-1), a0.f1, b1323.f0⟩ : Tbound_Key), b1323.f1⟩ : Trank_Cell)]).map erank_Cell = (x1316.map erank_Cell) ++ ([(⟨(⟨(-1), a0.f1, b1323.f0⟩ : Tbound_Key), b1323.f1⟩ : Trank_Cell)].map erank_Cell), ∀ c ∈ ([(⟨(⟨(-1), a0.f1, b1323.f0⟩ : Tbound_Key), b1323.f1⟩ : Trank_Cell)].map erank_Cell), c.length = 4, ∀ c ∈ ([(⟨(⟨(-1), a0.f1, b1323.f0⟩ : Tbound_Key), b1323.f1⟩ : Trank_Cell)].map erank_Cell), leaves (c.map .im) = true, ((x1316.map erank_Cell).length + ([(⟨(⟨(-1), a0.f1, b1323.f0⟩ : Tbound_Key), b1323.f1⟩ : Trank_Cell)].map erank_Cell).length) * 32 ≤ 140737488355328] (by kernel_rfl) ⟨by exact p1324, by exact el_map eBucket q1325, by exact p1324, by exact el_map eBucket q1325, by exact rfl, by simp, by exact all_len _ _ _ (fun _ => rfl), by exact all_leaf _ _ (fun _ => rfl), by simpa using c1326, trivial⟩ ?_
      refine reg hP hn hm [] [1, 3, 4] [3, 6] ⟨[(1, .ptr 3 0 0), (3, .own 6), (4, iV .i64 (IntKind.i64.wrap (x1317 - (1 : Int))))], [(3, some (.box 35 (aHist a0))), (6, some (.row 4 47 ((x1316 ++ [(⟨(⟨(-1), a0.f1, b1323.f0⟩ : Tbound_Key), b1323.f1⟩ : Trank_Cell)]).map erank_Cell)))], 0⟩ [] (by kernel_rfl) trivial ?_
      exact LWp.conv (inv := [(3, 3), (6, 4)]) (vk := []) (e0 := []) (t := ⟨[(1, .ptr 3 0 0), (3, .own 4), (4, iV .i64 (IntKind.i64.wrap (x1317 - (1 : Int))))], [(3, some (.box 35 (aHist a0))), (4, some (.row 4 47 ((x1316 ++ [(⟨(⟨(-1), a0.f1, b1323.f0⟩ : Tbound_Key), b1323.f1⟩ : Trank_Cell)]).map erank_Cell)))], 0⟩) (by kernel_rfl) (ih _ _ _ H)
    · replace H := (ifF c1318).symm.trans H
      refine AWp.exit ?_
      obtain rfl := Option.some.inj H
      exact Exists.intro _ (And.intro (fun _ _ h => h.conv (inv := [(3, 7), (4, 8)]) (vk := []) (e0 := []) (t := ⟨[(1, .ptr 7 0 0), (3, .own 8)], [(7, some (.box 35 (aHist a0))), (8, some (.row 4 47 (x1316.map erank_Cell)))], 0⟩) (by kernel_rfl)) (And.intro rfl rfl))
  · obtain ⟨x1327, rfl⟩ : ∃ z, z = o1353 := ⟨_, rfl⟩
    rintro e s ⟨rfl, rfl⟩
    refine AWp.seq ?_
    refine AWp.seq ?_
    refine reg hP hn hm [] [1, 3, 36] [7, 8] ⟨[(1, .ptr 7 0 0), (3, .own 8), (36, bV (decide (a0.f3 > (0 : Int))))], [(7, some (.box 35 (aHist a0))), (8, some (.row 4 47 (x1327.map erank_Cell)))], 0⟩ [] (by kernel_rfl) trivial ?_
    obtain ⟨o1355, e1356, H⟩ := bind_of H
    refine AWp.mono (Q := fun e s => (match (generalizing := false) o1355 with | x1331 => e = .normal ∧ s = ⟨[(1, .ptr 11 0 0), (3, .own 12)], [(11, some (.box 35 (aHist a0))), (12, some (.row 4 47 (x1331.map erank_Cell)))], 0⟩)) (AWp.cv ?_) ?_
    · replace H := e1356; clear e1356
      refine AWp.cond (decide (a0.f3 > (0 : Int))) rfl (fun c1328 => ?_) (fun c1328 => ?_)
      · replace H := (ifT c1328).symm.trans H
        obtain ⟨c1330, H⟩ := chk_of H
        refine reg hP hn hm [(5, .app 9 ([(⟨(⟨0, 0, 0⟩ : Tbound_Key), a0.f3⟩ : Trank_Cell)].map erank_Cell)), (6, .app 10 ((x1327 ++ [(⟨(⟨0, 0, 0⟩ : Tbound_Key), a0.f3⟩ : Trank_Cell)]).map erank_Cell))] [1, 3] [7, 10] ⟨[(1, .ptr 7 0 0), (3, .own 10)], [(7, some (.box 35 (aHist a0))), (10, some (.row 4 47 ((x1327 ++ [(⟨(⟨0, 0, 0⟩ : Tbound_Key), a0.f3⟩ : Trank_Cell)]).map erank_Cell)))], 0⟩ [[(⟨(⟨0, 0, 0⟩ : Tbound_Key), a0.f3⟩ : Trank_Cell)].map erank_Cell = [[iI .i64 0, iI .i64 0, iI .i64 0, iI .u64 a0.f3]], (x1327 ++ [(⟨(⟨0, 0, 0⟩ : Tbound_Key), a0.f3⟩ : Trank_Cell)]).map erank_Cell = (x1327.map erank_Cell) ++ ([(⟨(⟨0, 0, 0⟩ : Tbound_Key), a0.f3⟩ : Trank_Cell)].map erank_Cell), ∀ c ∈ ([(⟨(⟨0, 0, 0⟩ : Tbound_Key), a0.f3⟩ : Trank_Cell)].map erank_Cell), c.length = 4, ∀ c ∈ ([(⟨(⟨0, 0, 0⟩ : Tbound_Key), a0.f3⟩ : Trank_Cell)].map erank_Cell), leaves (c.map .im) = true, ((x1327.map erank_Cell).length + ([(⟨(⟨0, 0, 0⟩ : Tbound_Key), a0.f3⟩ : Trank_Cell)].map erank_Cell).length) * 32 ≤ 140737488355328] (by kernel_rfl) ⟨by exact rfl, by simp, by exact all_len _ _ _ (fun _ => rfl), by exact all_leaf _ _ (fun _ => rfl), by simpa using c1330, trivial⟩ ?_
        obtain rfl := Option.some.inj H
        exact Exists.intro _ (And.intro (fun _ _ h => h.conv (inv := [(7, 11), (10, 12)]) (vk := []) (e0 := []) (t := ⟨[(1, .ptr 11 0 0), (3, .own 12)], [(11, some (.box 35 (aHist a0))), (12, some (.row 4 47 ((x1327 ++ [(⟨(⟨0, 0, 0⟩ : Tbound_Key), a0.f3⟩ : Trank_Cell)]).map erank_Cell)))], 0⟩) (by kernel_rfl)) (And.intro rfl rfl))
      · replace H := (ifF c1328).symm.trans H
        refine AWp.skip ?_
        obtain rfl := Option.some.inj H
        exact Exists.intro _ (And.intro (fun _ _ h => h.conv (inv := [(7, 11), (8, 12)]) (vk := []) (e0 := []) (t := ⟨[(1, .ptr 11 0 0), (3, .own 12)], [(11, some (.box 35 (aHist a0))), (12, some (.row 4 47 (x1327.map erank_Cell)))], 0⟩) (by kernel_rfl)) (And.intro rfl rfl))
    · obtain ⟨x1331, rfl⟩ : ∃ z, z = o1355 := ⟨_, rfl⟩
      rintro e s ⟨rfl, rfl⟩
      refine AWp.seq ?_
      refine AWp.seq ?_
      refine reg hP hn hm [(2, .any (iV .i64 (a0.f6.length : Int)))] [1, 3, 45, 46, 47] [11, 12] ⟨[(1, .ptr 11 0 0), (3, .own 12), (45, .im (.row (a0.f6.map eBucket))), (46, iV .i64 (a0.f6.length : Int)), (47, iV .i64 0)], [(11, some (.box 35 (aHist a0))), (12, some (.row 4 47 (x1331.map erank_Cell)))], 0⟩ [((a0.f6.map eBucket).length : Int) = (a0.f6.length : Int)] (by kernel_rfl) ⟨by rw [len_map], trivial⟩ ?_
      refine AWp.block ?_
      obtain ⟨o1357, e1358, H⟩ := bind_of H
      refine AWp.loop (LWp.conv (inv := [(11, 16), (12, 17)]) (vk := []) (e0 := []) (t := ⟨[(1, .ptr 16 0 0), (3, .own 17), (45, .im (.row (a0.f6.map eBucket))), (46, iV .i64 (a0.f6.length : Int)), (47, iV .i64 0)], [(16, some (.box 35 (aHist a0))), (17, some (.row 4 47 (x1331.map erank_Cell)))], 0⟩) (by kernel_rfl) ?_)
      refine LWp.mono (Q := fun e s => (match (generalizing := false) o1357 with | x1352 => e = .exit 2 ∧ s = ⟨[(3, .own 21)], [(21, some (.row 4 47 (x1352.map erank_Cell)))], 0⟩)) (LWp.cv (withBody (fun body hbody => ?_))) ?_
      · refine f_rank_Order.l1.partial_correctness a0 (motive := fun x1341 x1342 o1357 => LWp Γ body (fun e s => ∃ t, Cv Γ s t ∧ (match (generalizing := false) o1357 with | x1352 => e = .exit 2 ∧ t = ⟨[(3, .own 21)], [(21, some (.row 4 47 (x1352.map erank_Cell)))], 0⟩)) ⟨[(1, .ptr 16 0 0), (3, .own 17), (45, .im (.row (a0.f6.map eBucket))), (46, iV .i64 (a0.f6.length : Int)), (47, iV .i64 x1342)], [(16, some (.box 35 (aHist a0))), (17, some (.row 4 47 (x1341.map erank_Cell)))], 0⟩) ?_ _ _ _ e1358
        clear H e1358 o1357; intro self ih x1341 x1342 o1357 H
        subst hbody
        refine LWp.round ?_
        refine AWp.seq ?_
        refine reg hP hn hm [] [1, 3, 45, 46, 47, 48] [16, 17] ⟨[(1, .ptr 16 0 0), (3, .own 17), (45, .im (.row (a0.f6.map eBucket))), (46, iV .i64 (a0.f6.length : Int)), (47, iV .i64 x1342), (48, bV (decide (x1342 < (a0.f6.length : Int))))], [(16, some (.box 35 (aHist a0))), (17, some (.row 4 47 (x1341.map erank_Cell)))], 0⟩ [] (by kernel_rfl) trivial ?_
        refine AWp.seq ?_
        refine AWp.cond (decide (x1342 < (a0.f6.length : Int))) rfl (fun c1343 => ?_) (fun c1343 => ?_)
        · replace H := (ifT c1343).symm.trans H
          refine AWp.skip ?_
          refine AWp.seq ?_
          refine AWp.block ?_
          refine AWp.seq ?_
          obtain ⟨b1347, p1348, q1349, H⟩ := at_of H
          refine reg hP hn hm [(0, .c (eBucket b1347)), (2, .k 18)] [1, 3, 6, 45, 46, 47] [16, 17, 18] ⟨[(1, .ptr 16 0 0), (3, .own 17), (6, .ptr 18 0 0), (45, .im (.row (a0.f6.map eBucket))), (46, iV .i64 (a0.f6.length : Int)), (47, iV .i64 x1342)], [(16, some (.box 35 (aHist a0))), (17, some (.row 4 47 (x1341.map erank_Cell))), (18, some (.box 127 (aBucket b1347)))], 0⟩ [0 ≤ x1342, (a0.f6.map eBucket)[(Int.toNat (x1342))]? = some (eBucket b1347)] (by kernel_rfl) ⟨by exact p1348, by exact el_map eBucket q1349, trivial⟩ ?_
          obtain ⟨c1351, H⟩ := chk_of H
          refine reg hP hn hm [(9, .app 19 ([(⟨(⟨1, a0.f1, b1347.f0⟩ : Tbound_Key), b1347.f1⟩ : Trank_Cell)].map erank_Cell)), (10, .app 20 ((x1341 ++ [(⟨(⟨1, a0.f1, b1347.f0⟩ : Tbound_Key), b1347.f1⟩ : Trank_Cell)]).map erank_Cell))] [1, 3, 45, 46, 47] [16, 20] ⟨[(1, .ptr 16 0 0), (3, .own 20), (45, .im (.row (a0.f6.map eBucket))), (46, iV .i64 (a0.f6.length : Int)), (47, iV .i64 x1342)], [(16, some (.box 35 (aHist a0))), (20, some (.row 4 47 ((x1341 ++ [(⟨(⟨1, a0.f1, b1347.f0⟩ : Tbound_Key), b1347.f1⟩ : Trank_Cell)]).map erank_Cell)))], 0⟩ [[(⟨(⟨1, a0.f1, b1347.f0⟩ : Tbound_Key), b1347.f1⟩ : Trank_Cell)].map erank_Cell = [[iI .i64 1, iI .i64 a0.f1, iI .i64 b1347.f0, iI .u64 b1347.f1]], (x1341 ++ [(⟨(⟨1, a0.f1, b1347.f0⟩ : Tbound_Key), b1347.f1⟩ : Trank_Cell)]).map erank_Cell = (x1341.map erank_Cell) ++ ([(⟨(⟨1, a0.f1, b1347.f0⟩ : Tbound_Key), b1347.f1⟩ : Trank_Cell)].map erank_Cell), ∀ c ∈ ([(⟨(⟨1, a0.f1, b1347.f0⟩ : Tbound_Key), b1347.f1⟩ : Trank_Cell)].map erank_Cell), c.length = 4, ∀ c ∈ ([(⟨(⟨1, a0.f1, b1347.f0⟩ : Tbound_Key), b1347.f1⟩ : Trank_Cell)].map erank_Cell), leaves (c.map .im) = true, ((x1341.map erank_Cell).length + ([(⟨(⟨1, a0.f1, b1347.f0⟩ : Tbound_Key), b1347.f1⟩ : Trank_Cell)].map erank_Cell).length) * 32 ≤ 140737488355328] (by kernel_rfl) ⟨by exact rfl, by simp, by exact all_len _ _ _ (fun _ => rfl), by exact all_leaf _ _ (fun _ => rfl), by simpa using c1351, trivial⟩ ?_
          refine reg hP hn hm [] [1, 3, 45, 46, 47] [16, 20] ⟨[(1, .ptr 16 0 0), (3, .own 20), (45, .im (.row (a0.f6.map eBucket))), (46, iV .i64 (a0.f6.length : Int)), (47, iV .i64 (IntKind.i64.wrap (x1342 + (1 : Int))))], [(16, some (.box 35 (aHist a0))), (20, some (.row 4 47 ((x1341 ++ [(⟨(⟨1, a0.f1, b1347.f0⟩ : Tbound_Key), b1347.f1⟩ : Trank_Cell)]).map erank_Cell)))], 0⟩ [] (by kernel_rfl) trivial ?_
          exact LWp.conv (inv := [(16, 16), (20, 17)]) (vk := []) (e0 := []) (t := ⟨[(1, .ptr 16 0 0), (3, .own 17), (45, .im (.row (a0.f6.map eBucket))), (46, iV .i64 (a0.f6.length : Int)), (47, iV .i64 (IntKind.i64.wrap (x1342 + (1 : Int))))], [(16, some (.box 35 (aHist a0))), (17, some (.row 4 47 ((x1341 ++ [(⟨(⟨1, a0.f1, b1347.f0⟩ : Tbound_Key), b1347.f1⟩ : Trank_Cell)]).map erank_Cell)))], 0⟩) (by kernel_rfl) (ih _ _ _ H)
        · replace H := (ifF c1343).symm.trans H
          refine AWp.exit ?_
          obtain rfl := Option.some.inj H
          exact Exists.intro _ (And.intro (fun _ _ h => h.conv (inv := [(17, 21)]) (vk := []) (e0 := []) (t := ⟨[(3, .own 21)], [(21, some (.row 4 47 (x1341.map erank_Cell)))], 0⟩) (by kernel_rfl)) (And.intro rfl rfl))
      · obtain ⟨x1352, rfl⟩ : ∃ z, z = o1357 := ⟨_, rfl⟩
        rintro e s ⟨rfl, rfl⟩
        refine AWp.seq ?_
        refine reg hP hn hm [] [2] [21] ⟨[(2, .own 21)], [(21, some (.row 4 47 (x1352.map erank_Cell)))], 0⟩ [] (by kernel_rfl) trivial ?_
        refine AWp.conv (inv := [(21, 0)]) (vk := []) (e0 := []) (t := ⟨[(2, .own 0)], [(0, some (.row 4 47 (x1352.map erank_Cell)))], 0⟩) (by kernel_rfl) ?_
        refine AWp.ret ?_
        obtain rfl := Option.some.inj H
        exact Exists.intro _ (And.intro (fun _ _ h => h) (And.intro (.inl rfl) (And.intro rfl (And.intro (by kernel_rfl) (by kernel_rfl)))))
def f_rank_At.l0 (t1361 : List Trank_Cell) (x1371 : Int) (x1372 : Int) : Option ((Tbound_Key × Int) ⊕ Unit) := if (decide (x1372 < (t1361.length : Int))) = true then ((at? t1361 x1372) >>= fun b1377 => if (decide (x1371 ≤ b1377.f1)) = true then (some (.inl (b1377.f0, 0))) else (f_rank_At.l0 t1361 (IntKind.u64.wrap (x1371 - b1377.f1)) (IntKind.i64.wrap (x1372 + (1 : Int))))) else (some (.inr ()))
partial_fixpoint
def f_rank_At.f (a0 : THist) (a1 : Int) : Option (Tbound_Key × Int) := if (a0.f4 == (0 : Int)) = true then (some ((⟨0, 0, 0⟩ : Tbound_Key), 30)) else (((if (decide (a1 < (1 : Int))) = true then (some true) else (some (decide (a1 > a0.f4)))) : Option (Bool)) >>= fun x1305 => if x1305 = true then (some ((⟨0, 0, 0⟩ : Tbound_Key), 4)) else ((f_rank_Order.f a0) >>= fun t1361 => (f_rank_At.l0 t1361 a1 0) >>= fun oo => match oo with | .inl rr => (some rr) | .inr _ => (some ((⟨0, 0, 0⟩ : Tbound_Key), 4))))
theorem f_rank_At.ok (a0 : THist) (a1 : Int) (r : Tbound_Key × Int) (H : f_rank_At.f a0 a1 = some r) : Pv.Fn Try.prog 22 [.agg (aHist a0), iV .u64 a1] [] 0 (fun x o => x = .tup [.agg (abound_Key (r.1)), iV .i64 r.2] ∧ o = []) := by
  unfold f_rank_At.f at H
  refine Fn.bodyK [] Try.func22 rfl rfl (fun Γ hP hn => ?_)
  have hm : Try.prog.follows .mixedOrders = true := by kernel_rfl
  replace hn : Γ.n = 42 := hn
  refine AWp.seq ?_
  refine reg hP hn hm [(0, .k 0), (1, .k 1)] [1, 2, 4] [0, 1] ⟨[(1, iV .u64 a1), (2, .ptr 0 0 0), (4, .ptr 1 0 0)], [(0, some (.box 35 (aHist a0))), (1, some (.box 45 (abound_Key ⟨0, 0, 0⟩)))], 0⟩ [] (by kernel_rfl) trivial ?_
  refine AWp.seq ?_
  refine AWp.block ?_
  refine AWp.seq ?_
  refine reg hP hn hm [] [1, 2, 4, 8] [0, 1] ⟨[(1, iV .u64 a1), (2, .ptr 0 0 0), (4, .ptr 1 0 0), (8, bV (a0.f4 == (0 : Int)))], [(0, some (.box 35 (aHist a0))), (1, some (.box 45 (abound_Key ⟨0, 0, 0⟩)))], 0⟩ [] (by kernel_rfl) trivial ?_
  refine AWp.cond (a0.f4 == (0 : Int)) rfl (fun c1302 => ?_) (fun c1302 => ?_)
  · replace H := (ifT c1302).symm.trans H
    refine AWp.seq ?_
    refine reg hP hn hm [] [4, 5] [1] ⟨[(4, .ptr 1 0 0), (5, iV .i64 30)], [(1, some (.box 45 (abound_Key ⟨0, 0, 0⟩)))], 0⟩ [] (by kernel_rfl) trivial ?_
    refine AWp.conv (inv := [(1, 0)]) (vk := []) (e0 := []) (t := ⟨[(4, .ptr 0 0 0), (5, iV .i64 30)], [(0, some (.box 45 (abound_Key ((⟨0, 0, 0⟩ : Tbound_Key)))))], 0⟩) (by kernel_rfl) ?_
    refine AWp.ret ?_
    obtain rfl := Option.some.inj H
    exact Exists.intro _ (And.intro (fun _ _ h => h) (And.intro (.inl rfl) (And.intro rfl (And.intro (by kernel_rfl) (by kernel_rfl)))))
  · replace H := (ifF c1302).symm.trans H
    refine AWp.seq ?_
    obtain ⟨o1381, e1382, H⟩ := bind_of H
    refine AWp.mono (Q := fun e s => (match (generalizing := false) o1381 with | x1305 => e = .normal ∧ s = ⟨[(1, iV .u64 a1), (2, .ptr 2 0 0), (4, .ptr 3 0 0), (13, bV x1305)], [(2, some (.box 35 (aHist a0))), (3, some (.box 45 (abound_Key ⟨0, 0, 0⟩)))], 0⟩)) (AWp.cv ?_) ?_
    · replace H := e1382; clear e1382
      rcases Bool.eq_false_or_eq_true (decide (a1 < (1 : Int))) with c1304 | c1304
      · replace H := (ifT c1304).symm.trans H
        refine reg hP hn hm [(2, .b true)] [1, 2, 4, 13] [0, 1] ⟨[(1, iV .u64 a1), (2, .ptr 0 0 0), (4, .ptr 1 0 0), (13, bV true)], [(0, some (.box 35 (aHist a0))), (1, some (.box 45 (abound_Key ⟨0, 0, 0⟩)))], 0⟩ [(decide (a1 < (1 : Int))) = true] (by kernel_rfl) ⟨by exact c1304, trivial⟩ ?_
        obtain rfl := Option.some.inj H
        exact Exists.intro _ (And.intro (fun _ _ h => h.conv (inv := [(0, 2), (1, 3)]) (vk := []) (e0 := []) (t := ⟨[(1, iV .u64 a1), (2, .ptr 2 0 0), (4, .ptr 3 0 0), (13, bV true)], [(2, some (.box 35 (aHist a0))), (3, some (.box 45 (abound_Key ⟨0, 0, 0⟩)))], 0⟩) (by kernel_rfl)) (And.intro rfl rfl))
      · replace H := (ifF c1304).symm.trans H
        refine reg hP hn hm [(2, .b false)] [1, 2, 4, 13] [0, 1] ⟨[(1, iV .u64 a1), (2, .ptr 0 0 0), (4, .ptr 1 0 0), (13, bV (decide (a1 > a0.f4)))], [(0, some (.box 35 (aHist a0))), (1, some (.box 45 (abound_Key ⟨0, 0, 0⟩)))], 0⟩ [(decide (a1 < (1 : Int))) = false] (by kernel_rfl) ⟨by exact c1304, trivial⟩ ?_
        obtain rfl := Option.some.inj H
        exact Exists.intro _ (And.intro (fun _ _ h => h.conv (inv := [(0, 2), (1, 3)]) (vk := []) (e0 := []) (t := ⟨[(1, iV .u64 a1), (2, .ptr 2 0 0), (4, .ptr 3 0 0), (13, bV (decide (a1 > a0.f4)))], [(2, some (.box 35 (aHist a0))), (3, some (.box 45 (abound_Key ⟨0, 0, 0⟩)))], 0⟩) (by kernel_rfl)) (And.intro rfl rfl))
    · obtain ⟨x1305, rfl⟩ : ∃ z, z = o1381 := ⟨_, rfl⟩
      rintro e s ⟨rfl, rfl⟩
      refine AWp.cond x1305 rfl (fun c1306 => ?_) (fun c1306 => ?_)
      · replace H := (ifT c1306).symm.trans H
        refine AWp.seq ?_
        refine reg hP hn hm [] [4, 5] [3] ⟨[(4, .ptr 3 0 0), (5, iV .i64 4)], [(3, some (.box 45 (abound_Key ⟨0, 0, 0⟩)))], 0⟩ [] (by kernel_rfl) trivial ?_
        refine AWp.conv (inv := [(3, 0)]) (vk := []) (e0 := []) (t := ⟨[(4, .ptr 0 0 0), (5, iV .i64 4)], [(0, some (.box 45 (abound_Key ((⟨0, 0, 0⟩ : Tbound_Key)))))], 0⟩) (by kernel_rfl) ?_
        refine AWp.ret ?_
        obtain rfl := Option.some.inj H
        exact Exists.intro _ (And.intro (fun _ _ h => h) (And.intro (.inl rfl) (And.intro rfl (And.intro (by kernel_rfl) (by kernel_rfl)))))
      · replace H := (ifF c1306).symm.trans H
        refine AWp.skip ?_
        refine AWp.seq ?_
        refine AWp.seq ?_
        obtain ⟨t1361, e1362, H⟩ := bind_of H
        refine reg hP hn hm [(1, .call [] [(0, 4)] [] [4] 0 (.own 0) [(0, some (.row 4 47 (t1361.map erank_Cell)))]), (2, .any (iV .i64 (t1361.length : Int)))] [1, 4, 24, 25, 26] [3, 4] ⟨[(1, iV .u64 a1), (4, .ptr 3 0 0), (24, .own 4), (25, iV .i64 (t1361.length : Int)), (26, iV .i64 0)], [(3, some (.box 45 (abound_Key ⟨0, 0, 0⟩))), (4, some (.row 4 47 (t1361.map erank_Cell)))], 0⟩ [Enters Try.prog 21, Pv.Fn Try.prog 21 [.agg (aHist a0)] [] 0 (fun r o => r = .own 0 ∧ o = [(0, some (.row 4 47 (t1361.map erank_Cell)))]), ((t1361.map erank_Cell).length : Int) = (t1361.length : Int)] (by kernel_rfl) ⟨by exact Try.call21, by exact f_rank_Order.ok a0 t1361 e1362, by rw [len_map], trivial⟩ ?_
        refine AWp.block ?_
        obtain ⟨o1383, e1384, H⟩ := bind_of H
        refine AWp.loop (LWp.conv (inv := [(3, 6), (4, 7)]) (vk := []) (e0 := []) (t := ⟨[(1, iV .u64 a1), (4, .ptr 6 0 0), (24, .own 7), (25, iV .i64 (t1361.length : Int)), (26, iV .i64 0)], [(6, some (.box 45 (abound_Key ⟨0, 0, 0⟩))), (7, some (.row 4 47 (t1361.map erank_Cell)))], 0⟩) (by kernel_rfl) ?_)
        refine LWp.mono (Q := fun e s => (match (generalizing := false) o1383 with | .inl rr => e = .ret ∧ s.floor = 0 ∧ resOf Try.prog Try.f22 s = some (.tup [.agg (abound_Key (rr.1)), iV .i64 rr.2]) ∧ ([] : List (Nat × Option MObj)) = [] | .inr _ => e = .exit 1 ∧ s = ⟨[(4, .ptr 9 0 0)], [(9, some (.box 45 (abound_Key ⟨0, 0, 0⟩)))], 0⟩)) (LWp.cv (withBody (fun body hbody => ?_))) ?_
        · refine f_rank_At.l0.partial_correctness t1361 (motive := fun x1371 x1372 o1383 => LWp Γ body (fun e s => ∃ t, Cv Γ s t ∧ (match (generalizing := false) o1383 with | .inl rr => e = .ret ∧ t.floor = 0 ∧ resOf Try.prog Try.f22 t = some (.tup [.agg (abound_Key (rr.1)), iV .i64 rr.2]) ∧ ([] : List (Nat × Option MObj)) = [] | .inr _ => e = .exit 1 ∧ t = ⟨[(4, .ptr 9 0 0)], [(9, some (.box 45 (abound_Key ⟨0, 0, 0⟩)))], 0⟩)) ⟨[(1, iV .u64 x1371), (4, .ptr 6 0 0), (24, .own 7), (25, iV .i64 (t1361.length : Int)), (26, iV .i64 x1372)], [(6, some (.box 45 (abound_Key ⟨0, 0, 0⟩))), (7, some (.row 4 47 (t1361.map erank_Cell)))], 0⟩) ?_ _ _ _ e1384
          clear H e1384 o1383; intro self ih x1371 x1372 o1383 H
          subst hbody
          refine LWp.round ?_
          refine AWp.seq ?_
          refine reg hP hn hm [] [1, 4, 24, 25, 26, 27] [6, 7] ⟨[(1, iV .u64 x1371), (4, .ptr 6 0 0), (24, .own 7), (25, iV .i64 (t1361.length : Int)), (26, iV .i64 x1372), (27, bV (decide (x1372 < (t1361.length : Int))))], [(6, some (.box 45 (abound_Key ⟨0, 0, 0⟩))), (7, some (.row 4 47 (t1361.map erank_Cell)))], 0⟩ [] (by kernel_rfl) trivial ?_
          refine AWp.seq ?_
          refine AWp.cond (decide (x1372 < (t1361.length : Int))) rfl (fun c1373 => ?_) (fun c1373 => ?_)
          · replace H := (ifT c1373).symm.trans H
            refine AWp.skip ?_
            refine AWp.seq ?_
            refine AWp.block ?_
            refine AWp.seq ?_
            obtain ⟨b1377, p1378, q1379, H⟩ := at_of H
            refine reg hP hn hm [(1, .c (erank_Cell b1377)), (2, .k 8)] [1, 4, 7, 24, 25, 26] [6, 7, 8] ⟨[(1, iV .u64 x1371), (4, .ptr 6 0 0), (7, .ptr 8 0 0), (24, .own 7), (25, iV .i64 (t1361.length : Int)), (26, iV .i64 x1372)], [(6, some (.box 45 (abound_Key ⟨0, 0, 0⟩))), (7, some (.row 4 47 (t1361.map erank_Cell))), (8, some (.box 47 [iV .i64 b1377.f0.f0, iV .i64 b1377.f0.f1, iV .i64 b1377.f0.f2, iV .u64 b1377.f1]))], 0⟩ [0 ≤ x1372, x1372 < (((t1361.map erank_Cell).length : Nat) : Int), (t1361.map erank_Cell)[(Int.toNat (x1372))]? = some (erank_Cell b1377)] (by kernel_rfl) ⟨by exact p1378, by exact el_lt erank_Cell p1378 q1379, by exact el_map erank_Cell q1379, trivial⟩ ?_
            refine AWp.seq ?_
            refine AWp.seq ?_
            refine reg hP hn hm [] [1, 4, 7, 24, 25, 26, 33] [6, 7, 8] ⟨[(1, iV .u64 x1371), (4, .ptr 6 0 0), (7, .ptr 8 0 0), (24, .own 7), (25, iV .i64 (t1361.length : Int)), (26, iV .i64 x1372), (33, bV (decide (x1371 ≤ b1377.f1)))], [(6, some (.box 45 (abound_Key ⟨0, 0, 0⟩))), (7, some (.row 4 47 (t1361.map erank_Cell))), (8, some (.box 47 [iV .i64 b1377.f0.f0, iV .i64 b1377.f0.f1, iV .i64 b1377.f0.f2, iV .u64 b1377.f1]))], 0⟩ [] (by kernel_rfl) trivial ?_
            refine AWp.cond (decide (x1371 ≤ b1377.f1)) rfl (fun c1380 => ?_) (fun c1380 => ?_)
            · replace H := (ifT c1380).symm.trans H
              refine AWp.seq ?_
              refine reg hP hn hm [] [4, 5] [6] ⟨[(4, .ptr 6 0 0), (5, iV .i64 0)], [(6, some (.box 45 (abound_Key b1377.f0)))], 0⟩ [] (by kernel_rfl) trivial ?_
              refine AWp.conv (inv := [(6, 0)]) (vk := []) (e0 := []) (t := ⟨[(4, .ptr 0 0 0), (5, iV .i64 0)], [(0, some (.box 45 (abound_Key (b1377.f0))))], 0⟩) (by kernel_rfl) ?_
              refine AWp.ret ?_
              obtain rfl := Option.some.inj H
              exact Exists.intro _ (And.intro (fun _ _ h => h) (And.intro rfl (And.intro rfl (And.intro (by kernel_rfl) (by kernel_rfl)))))
            · replace H := (ifF c1380).symm.trans H
              refine AWp.skip ?_
              refine reg hP hn hm [] [1, 4, 24, 25, 26] [6, 7] ⟨[(1, iV .u64 (IntKind.u64.wrap (x1371 - b1377.f1))), (4, .ptr 6 0 0), (24, .own 7), (25, iV .i64 (t1361.length : Int)), (26, iV .i64 x1372)], [(6, some (.box 45 (abound_Key ⟨0, 0, 0⟩))), (7, some (.row 4 47 (t1361.map erank_Cell)))], 0⟩ [] (by kernel_rfl) trivial ?_
              refine reg hP hn hm [] [1, 4, 24, 25, 26] [6, 7] ⟨[(1, iV .u64 (IntKind.u64.wrap (x1371 - b1377.f1))), (4, .ptr 6 0 0), (24, .own 7), (25, iV .i64 (t1361.length : Int)), (26, iV .i64 (IntKind.i64.wrap (x1372 + (1 : Int))))], [(6, some (.box 45 (abound_Key ⟨0, 0, 0⟩))), (7, some (.row 4 47 (t1361.map erank_Cell)))], 0⟩ [] (by kernel_rfl) trivial ?_
              exact LWp.conv (inv := [(6, 6), (7, 7)]) (vk := []) (e0 := []) (t := ⟨[(1, iV .u64 (IntKind.u64.wrap (x1371 - b1377.f1))), (4, .ptr 6 0 0), (24, .own 7), (25, iV .i64 (t1361.length : Int)), (26, iV .i64 (IntKind.i64.wrap (x1372 + (1 : Int))))], [(6, some (.box 45 (abound_Key ⟨0, 0, 0⟩))), (7, some (.row 4 47 (t1361.map erank_Cell)))], 0⟩) (by kernel_rfl) (ih _ _ _ H)
          · replace H := (ifF c1373).symm.trans H
            refine AWp.exit ?_
            obtain rfl := Option.some.inj H
            exact Exists.intro _ (And.intro (fun _ _ h => h.conv (inv := [(6, 9)]) (vk := []) (e0 := []) (t := ⟨[(4, .ptr 9 0 0)], [(9, some (.box 45 (abound_Key ⟨0, 0, 0⟩)))], 0⟩) (by kernel_rfl)) (And.intro rfl rfl))
        · rcases o1383 with rr | _
          · skip
            rintro e s ⟨rfl, hfl, hres⟩
            obtain rfl := Option.some.inj H
            exact Exists.intro _ (And.intro (fun _ _ h => h) (And.intro (.inl rfl) (And.intro hfl hres)))
          · skip
            rintro e s ⟨rfl, rfl⟩
            refine AWp.seq ?_
            refine reg hP hn hm [] [4, 5] [9] ⟨[(4, .ptr 9 0 0), (5, iV .i64 4)], [(9, some (.box 45 (abound_Key ⟨0, 0, 0⟩)))], 0⟩ [] (by kernel_rfl) trivial ?_
            refine AWp.conv (inv := [(9, 0)]) (vk := []) (e0 := []) (t := ⟨[(4, .ptr 0 0 0), (5, iV .i64 4)], [(0, some (.box 45 (abound_Key ((⟨0, 0, 0⟩ : Tbound_Key)))))], 0⟩) (by kernel_rfl) ?_
            refine AWp.ret ?_
            obtain rfl := Option.some.inj H
            exact Exists.intro _ (And.intro (fun _ _ h => h) (And.intro (.inl rfl) (And.intro rfl (And.intro (by kernel_rfl) (by kernel_rfl)))))
def f_rank_Quantile.f (a0 : THist) (a1 : Int) (a2 : Int) : Option (Tbound_Key × Int) := ((if (a2 == (0 : Int)) = true then (some true) else (some (decide (a1 > a2)))) : Option (Bool)) >>= fun x1197 => if x1197 = true then (some ((⟨0, 0, 0⟩ : Tbound_Key), 1)) else (if (a0.f4 == (0 : Int)) = true then (some ((⟨0, 0, 0⟩ : Tbound_Key), 30)) else ((f_num_Mul.f a1 a0.f4) >>= fun t1297 => (f_num_Wide_Ceil.f (t1297) a2) >>= fun t1299 => if (t1299.2 != (0 : Int)) = true then (some ((⟨0, 0, 0⟩ : Tbound_Key), t1299.2)) else ((f_rank_At.f a0 (if (1 : Int) > t1299.1 then (1 : Int) else t1299.1)) >>= fun t1387 => some ((t1387.1), t1387.2))))
theorem f_rank_Quantile.ok (a0 : THist) (a1 : Int) (a2 : Int) (r : Tbound_Key × Int) (H : f_rank_Quantile.f a0 a1 a2 = some r) : Pv.Fn Try.prog 27 [.agg (aHist a0), iV .u64 a1, iV .u64 a2] [] 0 (fun x o => x = .tup [.agg (abound_Key (r.1)), iV .i64 r.2] ∧ o = []) := by
  unfold f_rank_Quantile.f at H
  refine Fn.bodyK [] Try.func27 rfl rfl (fun Γ hP hn => ?_)
  have hm : Try.prog.follows .mixedOrders = true := by kernel_rfl
  replace hn : Γ.n = 43 := hn
  refine AWp.seq ?_
  refine reg hP hn hm [(0, .k 0), (1, .k 1)] [1, 2, 3, 6] [0, 1] ⟨[(1, iV .u64 a1), (2, iV .u64 a2), (3, .ptr 0 0 0), (6, .ptr 1 0 0)], [(0, some (.box 35 (aHist a0))), (1, some (.box 45 (abound_Key ⟨0, 0, 0⟩)))], 0⟩ [] (by kernel_rfl) trivial ?_
  refine AWp.seq ?_
  refine AWp.block ?_
  refine AWp.seq ?_
  obtain ⟨o1389, e1390, H⟩ := bind_of H
  refine AWp.mono (Q := fun e s => (match (generalizing := false) o1389 with | x1197 => e = .normal ∧ s = ⟨[(1, iV .u64 a1), (2, iV .u64 a2), (3, .ptr 2 0 0), (6, .ptr 3 0 0), (10, bV x1197)], [(2, some (.box 35 (aHist a0))), (3, some (.box 45 (abound_Key ⟨0, 0, 0⟩)))], 0⟩)) (AWp.cv ?_) ?_
  · replace H := e1390; clear e1390
    rcases Bool.eq_false_or_eq_true (a2 == (0 : Int)) with c1196 | c1196
    · replace H := (ifT c1196).symm.trans H
      refine reg hP hn hm [(2, .b true)] [1, 2, 3, 6, 10] [0, 1] ⟨[(1, iV .u64 a1), (2, iV .u64 a2), (3, .ptr 0 0 0), (6, .ptr 1 0 0), (10, bV true)], [(0, some (.box 35 (aHist a0))), (1, some (.box 45 (abound_Key ⟨0, 0, 0⟩)))], 0⟩ [(a2 == (0 : Int)) = true] (by kernel_rfl) ⟨by exact c1196, trivial⟩ ?_
      obtain rfl := Option.some.inj H
      exact Exists.intro _ (And.intro (fun _ _ h => h.conv (inv := [(0, 2), (1, 3)]) (vk := []) (e0 := []) (t := ⟨[(1, iV .u64 a1), (2, iV .u64 a2), (3, .ptr 2 0 0), (6, .ptr 3 0 0), (10, bV true)], [(2, some (.box 35 (aHist a0))), (3, some (.box 45 (abound_Key ⟨0, 0, 0⟩)))], 0⟩) (by kernel_rfl)) (And.intro rfl rfl))
    · replace H := (ifF c1196).symm.trans H
      refine reg hP hn hm [(2, .b false)] [1, 2, 3, 6, 10] [0, 1] ⟨[(1, iV .u64 a1), (2, iV .u64 a2), (3, .ptr 0 0 0), (6, .ptr 1 0 0), (10, bV (decide (a1 > a2)))], [(0, some (.box 35 (aHist a0))), (1, some (.box 45 (abound_Key ⟨0, 0, 0⟩)))], 0⟩ [(a2 == (0 : Int)) = false] (by kernel_rfl) ⟨by exact c1196, trivial⟩ ?_
      obtain rfl := Option.some.inj H
      exact Exists.intro _ (And.intro (fun _ _ h => h.conv (inv := [(0, 2), (1, 3)]) (vk := []) (e0 := []) (t := ⟨[(1, iV .u64 a1), (2, iV .u64 a2), (3, .ptr 2 0 0), (6, .ptr 3 0 0), (10, bV (decide (a1 > a2)))], [(2, some (.box 35 (aHist a0))), (3, some (.box 45 (abound_Key ⟨0, 0, 0⟩)))], 0⟩) (by kernel_rfl)) (And.intro rfl rfl))
  · obtain ⟨x1197, rfl⟩ : ∃ z, z = o1389 := ⟨_, rfl⟩
    rintro e s ⟨rfl, rfl⟩
    refine AWp.cond x1197 rfl (fun c1198 => ?_) (fun c1198 => ?_)
    · replace H := (ifT c1198).symm.trans H
      refine AWp.seq ?_
      refine reg hP hn hm [] [6, 7] [3] ⟨[(6, .ptr 3 0 0), (7, iV .i64 1)], [(3, some (.box 45 (abound_Key ⟨0, 0, 0⟩)))], 0⟩ [] (by kernel_rfl) trivial ?_
      refine AWp.conv (inv := [(3, 0)]) (vk := []) (e0 := []) (t := ⟨[(6, .ptr 0 0 0), (7, iV .i64 1)], [(0, some (.box 45 (abound_Key ((⟨0, 0, 0⟩ : Tbound_Key)))))], 0⟩) (by kernel_rfl) ?_
      refine AWp.ret ?_
      obtain rfl := Option.some.inj H
      exact Exists.intro _ (And.intro (fun _ _ h => h) (And.intro (.inl rfl) (And.intro rfl (And.intro (by kernel_rfl) (by kernel_rfl)))))
    · replace H := (ifF c1198).symm.trans H
      refine AWp.seq ?_
      refine reg hP hn hm [] [1, 2, 3, 6, 19] [2, 3] ⟨[(1, iV .u64 a1), (2, iV .u64 a2), (3, .ptr 2 0 0), (6, .ptr 3 0 0), (19, bV (a0.f4 == (0 : Int)))], [(2, some (.box 35 (aHist a0))), (3, some (.box 45 (abound_Key ⟨0, 0, 0⟩)))], 0⟩ [] (by kernel_rfl) trivial ?_
      refine AWp.cond (a0.f4 == (0 : Int)) rfl (fun c1199 => ?_) (fun c1199 => ?_)
      · replace H := (ifT c1199).symm.trans H
        refine AWp.seq ?_
        refine reg hP hn hm [] [6, 7] [3] ⟨[(6, .ptr 3 0 0), (7, iV .i64 30)], [(3, some (.box 45 (abound_Key ⟨0, 0, 0⟩)))], 0⟩ [] (by kernel_rfl) trivial ?_
        refine AWp.conv (inv := [(3, 0)]) (vk := []) (e0 := []) (t := ⟨[(6, .ptr 0 0 0), (7, iV .i64 30)], [(0, some (.box 45 (abound_Key ((⟨0, 0, 0⟩ : Tbound_Key)))))], 0⟩) (by kernel_rfl) ?_
        refine AWp.ret ?_
        obtain rfl := Option.some.inj H
        exact Exists.intro _ (And.intro (fun _ _ h => h) (And.intro (.inl rfl) (And.intro rfl (And.intro (by kernel_rfl) (by kernel_rfl)))))
      · replace H := (ifF c1199).symm.trans H
        refine AWp.skip ?_
        refine AWp.seq ?_
        obtain ⟨t1297, e1298, H⟩ := bind_of H
        obtain ⟨t1299, e1300, H⟩ := bind_of H
        refine reg hP hn hm [(3, .call [] [] [] [] 0 (.agg (anum_Wide (t1297))) []), (5, .call [] [] [] [] 0 (.tup [iV .u64 t1299.1, iV .i64 t1299.2]) [])] [3, 6, 8, 9] [2, 3] ⟨[(3, .ptr 2 0 0), (6, .ptr 3 0 0), (8, iV .u64 t1299.1), (9, iV .i64 t1299.2)], [(2, some (.box 35 (aHist a0))), (3, some (.box 45 (abound_Key ⟨0, 0, 0⟩)))], 0⟩ [Enters Try.prog 70, Pv.Fn Try.prog 70 [iV .u64 a1, iV .u64 a0.f4] [] 0 (fun r o => r = .agg (anum_Wide (t1297)) ∧ o = []), Enters Try.prog 71, Pv.Fn Try.prog 71 [.agg (anum_Wide (t1297)), iV .u64 a2] [] 0 (fun r o => r = .tup [iV .u64 t1299.1, iV .i64 t1299.2] ∧ o = [])] (by kernel_rfl) ⟨by exact Try.call70, by exact f_num_Mul.ok a1 a0.f4 t1297 e1298, by exact Try.call71, by exact f_num_Wide_Ceil.ok (t1297) a2 t1299 e1300, trivial⟩ ?_
        refine AWp.seq ?_
        refine AWp.seq ?_
        refine reg hP hn hm [] [3, 6, 8, 9, 34] [2, 3] ⟨[(3, .ptr 2 0 0), (6, .ptr 3 0 0), (8, iV .u64 t1299.1), (9, iV .i64 t1299.2), (34, bV (t1299.2 != (0 : Int)))], [(2, some (.box 35 (aHist a0))), (3, some (.box 45 (abound_Key ⟨0, 0, 0⟩)))], 0⟩ [] (by kernel_rfl) trivial ?_
        refine AWp.cond (t1299.2 != (0 : Int)) rfl (fun c1301 => ?_) (fun c1301 => ?_)
        · replace H := (ifT c1301).symm.trans H
          refine AWp.seq ?_
          refine reg hP hn hm [] [6, 7] [3] ⟨[(6, .ptr 3 0 0), (7, iV .i64 t1299.2)], [(3, some (.box 45 (abound_Key ⟨0, 0, 0⟩)))], 0⟩ [] (by kernel_rfl) trivial ?_
          refine AWp.conv (inv := [(3, 0)]) (vk := []) (e0 := []) (t := ⟨[(6, .ptr 0 0 0), (7, iV .i64 t1299.2)], [(0, some (.box 45 (abound_Key ((⟨0, 0, 0⟩ : Tbound_Key)))))], 0⟩) (by kernel_rfl) ?_
          refine AWp.ret ?_
          obtain rfl := Option.some.inj H
          exact Exists.intro _ (And.intro (fun _ _ h => h) (And.intro (.inl rfl) (And.intro rfl (And.intro (by kernel_rfl) (by kernel_rfl)))))
        · replace H := (ifF c1301).symm.trans H
          refine AWp.skip ?_
          refine AWp.seq ?_
          obtain ⟨t1387, e1388, H⟩ := bind_of H
          refine reg hP hn hm [(2, .more xMax), (3, .call [] [] [] [] 0 (.tup [.agg (abound_Key (t1387.1)), iV .i64 t1387.2]) [])] [6, 7] [3] ⟨[(6, .ptr 3 0 0), (7, iV .i64 t1387.2)], [(3, some (.box 45 (abound_Key (t1387.1))))], 0⟩ [Enters Try.prog 22, Pv.Fn Try.prog 22 [.agg (aHist a0), iV .u64 (if (1 : Int) > t1299.1 then (1 : Int) else t1299.1)] [] 0 (fun r o => r = .tup [.agg (abound_Key (t1387.1)), iV .i64 t1387.2] ∧ o = [])] (by kernel_rfl) ⟨by exact Try.call22, by exact f_rank_At.ok a0 (if (1 : Int) > t1299.1 then (1 : Int) else t1299.1) t1387 e1388, trivial⟩ ?_
          refine AWp.conv (inv := [(3, 0)]) (vk := []) (e0 := []) (t := ⟨[(6, .ptr 0 0 0), (7, iV .i64 t1387.2)], [(0, some (.box 45 (abound_Key ((t1387.1)))))], 0⟩) (by kernel_rfl) ?_
          refine AWp.ret ?_
          obtain rfl := Option.some.inj H
          exact Exists.intro _ (And.intro (fun _ _ h => h) (And.intro (.inl rfl) (And.intro rfl (And.intro (by kernel_rfl) (by kernel_rfl)))))
def f_pluviallaw08_awake.f  : Option (Bool) := (f_hist_Empty.f 0 0) >>= fun t1191 => (f_hist_Make.f (t1191) [(⟨1, 2⟩ : TBucket), (⟨3, 2⟩ : TBucket)] ([] : List TBucket)) >>= fun t1193 => (f_rank_Quantile.f (t1193.1) 1 2) >>= fun t1393 => (f_rank_Quantile.f (t1193.1) 501 1000) >>= fun t1397 => ((if (t1193.2 == (0 : Int)) = true then (if (t1393.2 == (0 : Int)) = true then (if (t1397.2 == (0 : Int)) = true then (if ((((t1393.1).f0) == (1 : Int)) && ((((t1393.1).f1) == (0 : Int)) && ((((t1393.1).f2) == (1 : Int)) && true))) = true then (some ((((t1397.1).f0) == (1 : Int)) && ((((t1397.1).f1) == (0 : Int)) && ((((t1397.1).f2) == (3 : Int)) && true)))) else (some false)) else (some false)) else (some false)) else (some false)) : Option (Bool)) >>= fun x1407 => some x1407
theorem f_pluviallaw08_awake.ok  (r : Bool) (H : f_pluviallaw08_awake.f  = some r) : Pv.Fn Try.prog 20 [] [] 0 (fun x o => x = bV r ∧ o = []) := by
  unfold f_pluviallaw08_awake.f at H
  refine Fn.bodyK [] Try.func20 rfl rfl (fun Γ hP hn => ?_)
  have hm : Try.prog.follows .mixedOrders = true := by kernel_rfl
  replace hn : Γ.n = 45 := hn
  refine AWp.seq ?_
  refine reg hP hn hm [] [] [] ⟨[], [], 0⟩ [] (by kernel_rfl) trivial ?_
  refine AWp.seq ?_
  obtain ⟨t1191, e1192, H⟩ := bind_of H
  obtain ⟨t1193, e1194, H⟩ := bind_of H
  refine reg hP hn hm [(0, .call [] [] [] [] 0 (.agg (aHist (t1191))) []), (3, .app 0 ([(⟨1, 2⟩ : TBucket), (⟨3, 2⟩ : TBucket)].map eBucket)), (4, .call [] [] [0] [] 0 (.tup [.agg (aHist (t1193.1)), iV .i64 t1193.2]) []), (8, .k 1)] [1, 2] [1] ⟨[(1, .ptr 1 0 0), (2, iV .i64 t1193.2)], [(1, some (.box 35 (aHist (t1193.1))))], 0⟩ [Enters Try.prog 69, Pv.Fn Try.prog 69 [iV .i64 0, iV .i64 0] [] 0 (fun r o => r = .agg (aHist (t1191)) ∧ o = []), [(⟨1, 2⟩ : TBucket), (⟨3, 2⟩ : TBucket)].map eBucket = [[iI .i64 1, iI .u64 2], [iI .i64 3, iI .u64 2]], Enters Try.prog 68, Pv.Fn Try.prog 68 [.agg (aHist (t1191)), .im (.row ([(⟨1, 2⟩ : TBucket), (⟨3, 2⟩ : TBucket)].map eBucket)), .im (.row (([] : List TBucket).map eBucket))] [] 0 (fun r o => r = .tup [.agg (aHist (t1193.1)), iV .i64 t1193.2] ∧ o = [])] (by kernel_rfl) ⟨by exact Try.call69, by exact f_hist_Empty.ok 0 0 t1191 e1192, by exact rfl, by exact Try.call68, by exact f_hist_Make.ok (t1191) [(⟨1, 2⟩ : TBucket), (⟨3, 2⟩ : TBucket)] ([] : List TBucket) t1193 e1194, trivial⟩ ?_
  refine AWp.seq ?_
  obtain ⟨t1393, e1394, H⟩ := bind_of H
  refine reg hP hn hm [(1, .call [] [] [] [] 0 (.tup [.agg (abound_Key (t1393.1)), iV .i64 t1393.2]) []), (5, .k 2)] [1, 2, 3, 4] [1, 2] ⟨[(1, .ptr 1 0 0), (2, iV .i64 t1193.2), (3, .ptr 2 0 0), (4, iV .i64 t1393.2)], [(1, some (.box 35 (aHist (t1193.1)))), (2, some (.box 45 (abound_Key (t1393.1))))], 0⟩ [Enters Try.prog 27, Pv.Fn Try.prog 27 [.agg (aHist (t1193.1)), iV .u64 1, iV .u64 2] [] 0 (fun r o => r = .tup [.agg (abound_Key (t1393.1)), iV .i64 t1393.2] ∧ o = [])] (by kernel_rfl) ⟨by exact Try.call27, by exact f_rank_Quantile.ok (t1193.1) 1 2 t1393 e1394, trivial⟩ ?_
  refine AWp.seq ?_
  obtain ⟨t1397, e1398, H⟩ := bind_of H
  refine reg hP hn hm [(1, .call [] [] [] [] 0 (.tup [.agg (abound_Key (t1397.1)), iV .i64 t1397.2]) []), (5, .k 3)] [2, 3, 4, 5, 6] [2, 3] ⟨[(2, iV .i64 t1193.2), (3, .ptr 2 0 0), (4, iV .i64 t1393.2), (5, .ptr 3 0 0), (6, iV .i64 t1397.2)], [(2, some (.box 45 (abound_Key (t1393.1)))), (3, some (.box 45 (abound_Key (t1397.1))))], 0⟩ [Enters Try.prog 27, Pv.Fn Try.prog 27 [.agg (aHist (t1193.1)), iV .u64 501, iV .u64 1000] [] 0 (fun r o => r = .tup [.agg (abound_Key (t1397.1)), iV .i64 t1397.2] ∧ o = [])] (by kernel_rfl) ⟨by exact Try.call27, by exact f_rank_Quantile.ok (t1193.1) 501 1000 t1397 e1398, trivial⟩ ?_
  refine AWp.seq ?_
  obtain ⟨o1408, e1409, H⟩ := bind_of H
  refine AWp.mono (Q := fun e s => (match (generalizing := false) o1408 with | x1407 => e = .normal ∧ s = ⟨[(0, bV x1407)], [], 0⟩)) (AWp.cv ?_) ?_
  · replace H := e1409; clear e1409
    rcases Bool.eq_false_or_eq_true (t1193.2 == (0 : Int)) with c1403 | c1403
    · replace H := (ifT c1403).symm.trans H
      rcases Bool.eq_false_or_eq_true (t1393.2 == (0 : Int)) with c1404 | c1404
      · replace H := (ifT c1404).symm.trans H
        rcases Bool.eq_false_or_eq_true (t1397.2 == (0 : Int)) with c1405 | c1405
        · replace H := (ifT c1405).symm.trans H
          rcases Bool.eq_false_or_eq_true ((((t1393.1).f0) == (1 : Int)) && ((((t1393.1).f1) == (0 : Int)) && ((((t1393.1).f2) == (1 : Int)) && true))) with c1406 | c1406
          · replace H := (ifT c1406).symm.trans H
            refine reg hP hn hm [(2, .b true), (6, .b true), (10, .b true), (13, .more (xAgg none)), (15, .b true), (18, .more (xAgg none))] [0] [] ⟨[(0, bV ((((t1397.1).f0) == (1 : Int)) && ((((t1397.1).f1) == (0 : Int)) && ((((t1397.1).f2) == (3 : Int)) && true))))], [], 0⟩ [(t1193.2 == (0 : Int)) = true, (t1393.2 == (0 : Int)) = true, (t1397.2 == (0 : Int)) = true, ((((t1393.1).f0) == (1 : Int)) && ((((t1393.1).f1) == (0 : Int)) && ((((t1393.1).f2) == (1 : Int)) && true))) = true] (by kernel_rfl) ⟨by exact c1403, by exact c1404, by exact c1405, by exact c1406, trivial⟩ ?_
            obtain rfl := Option.some.inj H
            exact Exists.intro _ (And.intro (fun _ _ h => h.conv (inv := []) (vk := []) (e0 := []) (t := ⟨[(0, bV ((((t1397.1).f0) == (1 : Int)) && ((((t1397.1).f1) == (0 : Int)) && ((((t1397.1).f2) == (3 : Int)) && true))))], [], 0⟩) (by kernel_rfl)) (And.intro rfl rfl))
          · replace H := (ifF c1406).symm.trans H
            refine reg hP hn hm [(2, .b true), (6, .b true), (10, .b true), (13, .more (xAgg none)), (15, .b false)] [0] [] ⟨[(0, bV false)], [], 0⟩ [(t1193.2 == (0 : Int)) = true, (t1393.2 == (0 : Int)) = true, (t1397.2 == (0 : Int)) = true, ((((t1393.1).f0) == (1 : Int)) && ((((t1393.1).f1) == (0 : Int)) && ((((t1393.1).f2) == (1 : Int)) && true))) = false] (by kernel_rfl) ⟨by exact c1403, by exact c1404, by exact c1405, by exact c1406, trivial⟩ ?_
            obtain rfl := Option.some.inj H
            exact Exists.intro _ (And.intro (fun _ _ h => h.conv (inv := []) (vk := []) (e0 := []) (t := ⟨[(0, bV false)], [], 0⟩) (by kernel_rfl)) (And.intro rfl rfl))
        · replace H := (ifF c1405).symm.trans H
          refine reg hP hn hm [(2, .b true), (6, .b true), (10, .b false)] [0] [] ⟨[(0, bV false)], [], 0⟩ [(t1193.2 == (0 : Int)) = true, (t1393.2 == (0 : Int)) = true, (t1397.2 == (0 : Int)) = false] (by kernel_rfl) ⟨by exact c1403, by exact c1404, by exact c1405, trivial⟩ ?_
          obtain rfl := Option.some.inj H
          exact Exists.intro _ (And.intro (fun _ _ h => h.conv (inv := []) (vk := []) (e0 := []) (t := ⟨[(0, bV false)], [], 0⟩) (by kernel_rfl)) (And.intro rfl rfl))
      · replace H := (ifF c1404).symm.trans H
        refine reg hP hn hm [(2, .b true), (6, .b false)] [0] [] ⟨[(0, bV false)], [], 0⟩ [(t1193.2 == (0 : Int)) = true, (t1393.2 == (0 : Int)) = false] (by kernel_rfl) ⟨by exact c1403, by exact c1404, trivial⟩ ?_
        obtain rfl := Option.some.inj H
        exact Exists.intro _ (And.intro (fun _ _ h => h.conv (inv := []) (vk := []) (e0 := []) (t := ⟨[(0, bV false)], [], 0⟩) (by kernel_rfl)) (And.intro rfl rfl))
    · replace H := (ifF c1403).symm.trans H
      refine reg hP hn hm [(2, .b false)] [0] [] ⟨[(0, bV false)], [], 0⟩ [(t1193.2 == (0 : Int)) = false] (by kernel_rfl) ⟨by exact c1403, trivial⟩ ?_
      obtain rfl := Option.some.inj H
      exact Exists.intro _ (And.intro (fun _ _ h => h.conv (inv := []) (vk := []) (e0 := []) (t := ⟨[(0, bV false)], [], 0⟩) (by kernel_rfl)) (And.intro rfl rfl))
  · obtain ⟨x1407, rfl⟩ : ∃ z, z = o1408 := ⟨_, rfl⟩
    rintro e s ⟨rfl, rfl⟩
    refine AWp.conv (inv := []) (vk := []) (e0 := []) (t := ⟨[(0, bV x1407)], [], 0⟩) (by kernel_rfl) ?_
    refine AWp.ret ?_
    obtain rfl := Option.some.inj H
    exact Exists.intro _ (And.intro (fun _ _ h => h) (And.intro (.inl rfl) (And.intro rfl (And.intro (by kernel_rfl) (by kernel_rfl)))))
def f_rank_spot.f (a0 : Trank_Place) : Option (Int) := if (decide (a0.f0 > (0 : Int))) = true then (some (IntKind.i64.wrap ((1048576 : Int) + a0.f1))) else (if (decide (a0.f0 < (0 : Int))) = true then (some (IntKind.i64.wrap ((-1048576) - a0.f1))) else (some 0))
theorem f_rank_spot.ok (a0 : Trank_Place) (r : Int) (H : f_rank_spot.f a0 = some r) : Pv.Fn Try.prog 75 [.agg (arank_Place a0)] [] 0 (fun x o => x = iV .i64 r ∧ o = []) := by
  unfold f_rank_spot.f at H
  refine Fn.bodyK [] Try.func75 rfl rfl (fun Γ hP hn => ?_)
  have hm : Try.prog.follows .mixedOrders = true := by kernel_rfl
  replace hn : Γ.n = 17 := hn
  refine AWp.seq ?_
  refine reg hP hn hm [(0, .k 0)] [1] [0] ⟨[(1, .ptr 0 0 0)], [(0, some (.box 72 (arank_Place a0)))], 0⟩ [] (by kernel_rfl) trivial ?_
  refine AWp.seq ?_
  refine AWp.block ?_
  refine AWp.seq ?_
  refine reg hP hn hm [] [1, 3] [0] ⟨[(1, .ptr 0 0 0), (3, bV (decide (a0.f0 > (0 : Int))))], [(0, some (.box 72 (arank_Place a0)))], 0⟩ [] (by kernel_rfl) trivial ?_
  refine AWp.cond (decide (a0.f0 > (0 : Int))) rfl (fun c1972 => ?_) (fun c1972 => ?_)
  · replace H := (ifT c1972).symm.trans H
    refine AWp.seq ?_
    refine reg hP hn hm [] [2] [] ⟨[(2, iV .i64 (IntKind.i64.wrap ((1048576 : Int) + a0.f1)))], [], 0⟩ [] (by kernel_rfl) trivial ?_
    refine AWp.conv (inv := []) (vk := []) (e0 := []) (t := ⟨[(2, iV .i64 (IntKind.i64.wrap ((1048576 : Int) + a0.f1)))], [], 0⟩) (by kernel_rfl) ?_
    refine AWp.ret ?_
    obtain rfl := Option.some.inj H
    exact Exists.intro _ (And.intro (fun _ _ h => h) (And.intro (.inl rfl) (And.intro rfl (And.intro (by kernel_rfl) (by kernel_rfl)))))
  · replace H := (ifF c1972).symm.trans H
    refine AWp.seq ?_
    refine reg hP hn hm [] [1, 10] [0] ⟨[(1, .ptr 0 0 0), (10, bV (decide (a0.f0 < (0 : Int))))], [(0, some (.box 72 (arank_Place a0)))], 0⟩ [] (by kernel_rfl) trivial ?_
    refine AWp.cond (decide (a0.f0 < (0 : Int))) rfl (fun c1973 => ?_) (fun c1973 => ?_)
    · replace H := (ifT c1973).symm.trans H
      refine AWp.seq ?_
      refine reg hP hn hm [] [2] [] ⟨[(2, iV .i64 (IntKind.i64.wrap ((-1048576) - a0.f1)))], [], 0⟩ [] (by kernel_rfl) trivial ?_
      refine AWp.conv (inv := []) (vk := []) (e0 := []) (t := ⟨[(2, iV .i64 (IntKind.i64.wrap ((-1048576) - a0.f1)))], [], 0⟩) (by kernel_rfl) ?_
      refine AWp.ret ?_
      obtain rfl := Option.some.inj H
      exact Exists.intro _ (And.intro (fun _ _ h => h) (And.intro (.inl rfl) (And.intro rfl (And.intro (by kernel_rfl) (by kernel_rfl)))))
    · replace H := (ifF c1973).symm.trans H
      refine AWp.skip ?_
      refine AWp.seq ?_
      refine reg hP hn hm [] [2] [] ⟨[(2, iV .i64 0)], [], 0⟩ [] (by kernel_rfl) trivial ?_
      refine AWp.conv (inv := []) (vk := []) (e0 := []) (t := ⟨[(2, iV .i64 0)], [], 0⟩) (by kernel_rfl) ?_
      refine AWp.ret ?_
      obtain rfl := Option.some.inj H
      exact Exists.intro _ (And.intro (fun _ _ h => h) (And.intro (.inl rfl) (And.intro rfl (And.intro (by kernel_rfl) (by kernel_rfl)))))
def f_rank_ends.f (a0 : THist) (a1 : Trank_Cell) : Option (Int × Int) := if (decide (a1.f0.f0 > (0 : Int))) = true then ((f_bound_Low.f a0.f1 a1.f0.f2) >>= fun t1994 => (f_bound_Units.f a0.f1 a1.f0.f2) >>= fun t1996 => some (IntKind.i64.wrap ((1048576 : Int) + t1994), IntKind.i64.wrap ((1048576 : Int) + t1996))) else (if (decide (a1.f0.f0 < (0 : Int))) = true then ((f_bound_Units.f a0.f1 a1.f0.f2) >>= fun t2003 => (f_bound_Low.f a0.f1 a1.f0.f2) >>= fun t2005 => some (IntKind.i64.wrap ((-1048576) - t2003), IntKind.i64.wrap ((-1048576) - t2005))) else (if (a0.f2 == (-524288)) = true then (some (0, 0)) else (some (IntKind.i64.wrap ((-1048576) - a0.f2), IntKind.i64.wrap ((1048576 : Int) + a0.f2)))))
theorem f_rank_ends.ok (a0 : THist) (a1 : Trank_Cell) (r : Int × Int) (H : f_rank_ends.f a0 a1 = some r) : Pv.Fn Try.prog 76 [.agg (aHist a0), .agg (apluvialref08_Cell ⟨a1.f0.f0, a1.f0.f1, a1.f0.f2, a1.f1⟩)] [] 0 (fun x o => x = .tup [iV .i64 r.1, iV .i64 r.2] ∧ o = []) := by
  unfold f_rank_ends.f at H
  refine Fn.bodyK [] Try.func76 rfl rfl (fun Γ hP hn => ?_)
  have hm : Try.prog.follows .mixedOrders = true := by kernel_rfl
  replace hn : Γ.n = 54 := hn
  refine AWp.seq ?_
  refine reg hP hn hm [(0, .k 0), (1, .k 1)] [2, 3] [0, 1] ⟨[(2, .ptr 0 0 0), (3, .ptr 1 0 0)], [(0, some (.box 35 (aHist a0))), (1, some (.box 47 [iV .i64 a1.f0.f0, iV .i64 a1.f0.f1, iV .i64 a1.f0.f2, iV .u64 a1.f1]))], 0⟩ [] (by kernel_rfl) trivial ?_
  refine AWp.seq ?_
  refine AWp.block ?_
  refine AWp.seq ?_
  refine reg hP hn hm [] [2, 3, 6] [0, 1] ⟨[(2, .ptr 0 0 0), (3, .ptr 1 0 0), (6, bV (decide (a1.f0.f0 > (0 : Int))))], [(0, some (.box 35 (aHist a0))), (1, some (.box 47 [iV .i64 a1.f0.f0, iV .i64 a1.f0.f1, iV .i64 a1.f0.f2, iV .u64 a1.f1]))], 0⟩ [] (by kernel_rfl) trivial ?_
  refine AWp.cond (decide (a1.f0.f0 > (0 : Int))) rfl (fun c1989 => ?_) (fun c1989 => ?_)
  · replace H := (ifT c1989).symm.trans H
    refine AWp.seq ?_
    obtain ⟨t1994, e1995, H⟩ := bind_of H
    obtain ⟨t1996, e1997, H⟩ := bind_of H
    refine reg hP hn hm [(5, .call [] [] [] [] 0 (iV .i64 t1994) []), (12, .call [] [] [] [] 0 (iV .i64 t1996) [])] [4, 5] [] ⟨[(4, iV .i64 (IntKind.i64.wrap ((1048576 : Int) + t1994))), (5, iV .i64 (IntKind.i64.wrap ((1048576 : Int) + t1996)))], [], 0⟩ [Enters Try.prog 84, Pv.Fn Try.prog 84 [iV .i64 a0.f1, iV .i64 a1.f0.f2] [] 0 (fun r o => r = iV .i64 t1994 ∧ o = []), Enters Try.prog 43, Pv.Fn Try.prog 43 [iV .i64 a0.f1, iV .i64 a1.f0.f2] [] 0 (fun r o => r = iV .i64 t1996 ∧ o = [])] (by kernel_rfl) ⟨by exact Try.call84, by exact f_bound_Low.ok a0.f1 a1.f0.f2 t1994 e1995, by exact Try.call43, by exact f_bound_Units.ok a0.f1 a1.f0.f2 t1996 e1997, trivial⟩ ?_
    refine AWp.conv (inv := []) (vk := []) (e0 := []) (t := ⟨[(4, iV .i64 (IntKind.i64.wrap ((1048576 : Int) + t1994))), (5, iV .i64 (IntKind.i64.wrap ((1048576 : Int) + t1996)))], [], 0⟩) (by kernel_rfl) ?_
    refine AWp.ret ?_
    obtain rfl := Option.some.inj H
    exact Exists.intro _ (And.intro (fun _ _ h => h) (And.intro (.inl rfl) (And.intro rfl (And.intro (by kernel_rfl) (by kernel_rfl)))))
  · replace H := (ifF c1989).symm.trans H
    refine AWp.seq ?_
    refine reg hP hn hm [] [2, 3, 25] [0, 1] ⟨[(2, .ptr 0 0 0), (3, .ptr 1 0 0), (25, bV (decide (a1.f0.f0 < (0 : Int))))], [(0, some (.box 35 (aHist a0))), (1, some (.box 47 [iV .i64 a1.f0.f0, iV .i64 a1.f0.f1, iV .i64 a1.f0.f2, iV .u64 a1.f1]))], 0⟩ [] (by kernel_rfl) trivial ?_
    refine AWp.cond (decide (a1.f0.f0 < (0 : Int))) rfl (fun c1998 => ?_) (fun c1998 => ?_)
    · replace H := (ifT c1998).symm.trans H
      refine AWp.seq ?_
      obtain ⟨t2003, e2004, H⟩ := bind_of H
      obtain ⟨t2005, e2006, H⟩ := bind_of H
      refine reg hP hn hm [(5, .call [] [] [] [] 0 (iV .i64 t2003) []), (12, .call [] [] [] [] 0 (iV .i64 t2005) [])] [4, 5] [] ⟨[(4, iV .i64 (IntKind.i64.wrap ((-1048576) - t2003))), (5, iV .i64 (IntKind.i64.wrap ((-1048576) - t2005)))], [], 0⟩ [Enters Try.prog 43, Pv.Fn Try.prog 43 [iV .i64 a0.f1, iV .i64 a1.f0.f2] [] 0 (fun r o => r = iV .i64 t2003 ∧ o = []), Enters Try.prog 84, Pv.Fn Try.prog 84 [iV .i64 a0.f1, iV .i64 a1.f0.f2] [] 0 (fun r o => r = iV .i64 t2005 ∧ o = [])] (by kernel_rfl) ⟨by exact Try.call43, by exact f_bound_Units.ok a0.f1 a1.f0.f2 t2003 e2004, by exact Try.call84, by exact f_bound_Low.ok a0.f1 a1.f0.f2 t2005 e2006, trivial⟩ ?_
      refine AWp.conv (inv := []) (vk := []) (e0 := []) (t := ⟨[(4, iV .i64 (IntKind.i64.wrap ((-1048576) - t2003))), (5, iV .i64 (IntKind.i64.wrap ((-1048576) - t2005)))], [], 0⟩) (by kernel_rfl) ?_
      refine AWp.ret ?_
      obtain rfl := Option.some.inj H
      exact Exists.intro _ (And.intro (fun _ _ h => h) (And.intro (.inl rfl) (And.intro rfl (And.intro (by kernel_rfl) (by kernel_rfl)))))
    · replace H := (ifF c1998).symm.trans H
      refine AWp.seq ?_
      refine reg hP hn hm [] [2, 44] [0] ⟨[(2, .ptr 0 0 0), (44, bV (a0.f2 == (-524288)))], [(0, some (.box 35 (aHist a0)))], 0⟩ [] (by kernel_rfl) trivial ?_
      refine AWp.cond (a0.f2 == (-524288)) rfl (fun c2007 => ?_) (fun c2007 => ?_)
      · replace H := (ifT c2007).symm.trans H
        refine AWp.seq ?_
        refine reg hP hn hm [] [4, 5] [] ⟨[(4, iV .i64 0), (5, iV .i64 0)], [], 0⟩ [] (by kernel_rfl) trivial ?_
        refine AWp.conv (inv := []) (vk := []) (e0 := []) (t := ⟨[(4, iV .i64 0), (5, iV .i64 0)], [], 0⟩) (by kernel_rfl) ?_
        refine AWp.ret ?_
        obtain rfl := Option.some.inj H
        exact Exists.intro _ (And.intro (fun _ _ h => h) (And.intro (.inl rfl) (And.intro rfl (And.intro (by kernel_rfl) (by kernel_rfl)))))
      · replace H := (ifF c2007).symm.trans H
        refine AWp.skip ?_
        refine AWp.seq ?_
        refine reg hP hn hm [] [4, 5] [] ⟨[(4, iV .i64 (IntKind.i64.wrap ((-1048576) - a0.f2))), (5, iV .i64 (IntKind.i64.wrap ((1048576 : Int) + a0.f2)))], [], 0⟩ [] (by kernel_rfl) trivial ?_
        refine AWp.conv (inv := []) (vk := []) (e0 := []) (t := ⟨[(4, iV .i64 (IntKind.i64.wrap ((-1048576) - a0.f2))), (5, iV .i64 (IntKind.i64.wrap ((1048576 : Int) + a0.f2)))], [], 0⟩) (by kernel_rfl) ?_
        refine AWp.ret ?_
        obtain rfl := Option.some.inj H
        exact Exists.intro _ (And.intro (fun _ _ h => h) (And.intro (.inl rfl) (And.intro rfl (And.intro (by kernel_rfl) (by kernel_rfl)))))
end Go.Proofs.Yteogljahemehkaa.PvGC
set_option linter.unusedVariables false
set_option linter.unnecessarySimpa false
set_option linter.unusedSimpArgs false
set_option maxRecDepth 10000
namespace Go.Proofs.Yteogljahemehkaa.PvGC
open Go Go.Pv
def f_rank_Below.l0 (a0 : THist) (t1976 : Int) (t1980 : List Trank_Cell) (x2017 : Int) (x2018 : Int) (x2019 : Int) : Option (Int × Int) := if (decide (x2019 < (t1980.length : Int))) = true then ((at? t1980 x2019) >>= fun b2024 => (f_rank_ends.f a0 b2024) >>= fun t2029 => ((if (decide (t2029.2 ≤ t1976)) = true then (some (IntKind.u64.wrap (x2017 + b2024.f1), x2018)) else (((if (decide (t2029.1 < t1976)) = true then (some (IntKind.u64.wrap (x2018 + b2024.f1))) else (some x2018)) : Option (Int)) >>= fun x2033 => some (x2017, x2033))) : Option (Int × Int)) >>= fun oo => match oo with | (x2034, x2035) => (f_rank_Below.l0 a0 t1976 t1980 x2034 x2035 (IntKind.i64.wrap (x2019 + (1 : Int))))) else (some (x2017, x2018))
partial_fixpoint
def f_rank_Below.f (a0 : THist) (a1 : Trank_Place) : Option (Trank_Part × Int) := ((if (decide (a1.f0 < (-1))) = true then (some true) else (if (decide (a1.f0 > (1 : Int))) = true then (some true) else (if (a1.f0 != (0 : Int)) = true then (if (decide (a1.f1 ≤ (-262144))) = true then (some true) else (if (decide (a1.f1 > (262144 : Int))) = true then (some true) else (if (a1.f0 == (0 : Int)) = true then (some (a1.f1 != (0 : Int))) else (some false)))) else (if (a1.f0 == (0 : Int)) = true then (some (a1.f1 != (0 : Int))) else (some false))))) : Option (Bool)) >>= fun x1969 => if x1969 = true then (some ((⟨0, 0, 0⟩ : Trank_Part), 1)) else (if (a0.f4 == (0 : Int)) = true then (some ((⟨0, 0, 0⟩ : Trank_Part), 30)) else ((f_rank_spot.f a1) >>= fun t1976 => (f_rank_Order.f a0) >>= fun t1980 => (f_rank_Below.l0 a0 t1976 t1980 0 0 0) >>= fun oo => match oo with | (x2036, x2037) => (some ((⟨x2036, x2037, a0.f4⟩ : Trank_Part), 0))))
theorem f_rank_Below.ok (a0 : THist) (a1 : Trank_Place) (r : Trank_Part × Int) (H : f_rank_Below.f a0 a1 = some r) : Pv.Fn Try.prog 34 [.agg (aHist a0), .agg (arank_Place a1)] [] 0 (fun x o => x = .tup [.agg (arank_Part (r.1)), iV .i64 r.2] ∧ o = []) := by
  unfold f_rank_Below.f at H
  refine Fn.bodyK [] Try.func34 rfl rfl (fun Γ hP hn => ?_)
  have hm : Try.prog.follows .mixedOrders = true := by kernel_rfl
  replace hn : Γ.n = 90 := hn
  refine AWp.seq ?_
  refine reg hP hn hm [(0, .k 0), (1, .k 1), (2, .k 2)] [2, 3, 4] [0, 1, 2] ⟨[(2, .ptr 0 0 0), (3, .ptr 1 0 0), (4, .ptr 2 0 0)], [(0, some (.box 35 (aHist a0))), (1, some (.box 72 (arank_Place a1))), (2, some (.box 74 (arank_Part ⟨0, 0, 0⟩)))], 0⟩ [] (by kernel_rfl) trivial ?_
  refine AWp.seq ?_
  refine AWp.seq ?_
  obtain ⟨o2038, e2039, H⟩ := bind_of H
  refine AWp.mono (Q := fun e s => (match (generalizing := false) o2038 with | x1969 => e = .normal ∧ s = ⟨[(2, .ptr 3 0 0), (3, .ptr 4 0 0), (4, .ptr 5 0 0), (44, bV x1969)], [(3, some (.box 35 (aHist a0))), (4, some (.box 72 (arank_Place a1))), (5, some (.box 74 (arank_Part ⟨0, 0, 0⟩)))], 0⟩)) (AWp.cv ?_) ?_
  · replace H := e2039; clear e2039
    rcases Bool.eq_false_or_eq_true (decide (a1.f0 < (-1))) with c1962 | c1962
    · replace H := (ifT c1962).symm.trans H
      refine reg hP hn hm [(3, .b true)] [2, 3, 4, 44] [0, 1, 2] ⟨[(2, .ptr 0 0 0), (3, .ptr 1 0 0), (4, .ptr 2 0 0), (44, bV true)], [(0, some (.box 35 (aHist a0))), (1, some (.box 72 (arank_Place a1))), (2, some (.box 74 (arank_Part ⟨0, 0, 0⟩)))], 0⟩ [(decide (a1.f0 < (-1))) = true] (by kernel_rfl) ⟨by exact c1962, trivial⟩ ?_
      obtain rfl := Option.some.inj H
      exact Exists.intro _ (And.intro (fun _ _ h => h.conv (inv := [(0, 3), (1, 4), (2, 5)]) (vk := []) (e0 := []) (t := ⟨[(2, .ptr 3 0 0), (3, .ptr 4 0 0), (4, .ptr 5 0 0), (44, bV true)], [(3, some (.box 35 (aHist a0))), (4, some (.box 72 (arank_Place a1))), (5, some (.box 74 (arank_Part ⟨0, 0, 0⟩)))], 0⟩) (by kernel_rfl)) (And.intro rfl rfl))
    · replace H := (ifF c1962).symm.trans H
      rcases Bool.eq_false_or_eq_true (decide (a1.f0 > (1 : Int))) with c1963 | c1963
      · replace H := (ifT c1963).symm.trans H
        refine reg hP hn hm [(3, .b false), (8, .b true)] [2, 3, 4, 44] [0, 1, 2] ⟨[(2, .ptr 0 0 0), (3, .ptr 1 0 0), (4, .ptr 2 0 0), (44, bV true)], [(0, some (.box 35 (aHist a0))), (1, some (.box 72 (arank_Place a1))), (2, some (.box 74 (arank_Part ⟨0, 0, 0⟩)))], 0⟩ [(decide (a1.f0 < (-1))) = false, (decide (a1.f0 > (1 : Int))) = true] (by kernel_rfl) ⟨by exact c1962, by exact c1963, trivial⟩ ?_
        obtain rfl := Option.some.inj H
        exact Exists.intro _ (And.intro (fun _ _ h => h.conv (inv := [(0, 3), (1, 4), (2, 5)]) (vk := []) (e0 := []) (t := ⟨[(2, .ptr 3 0 0), (3, .ptr 4 0 0), (4, .ptr 5 0 0), (44, bV true)], [(3, some (.box 35 (aHist a0))), (4, some (.box 72 (arank_Place a1))), (5, some (.box 74 (arank_Part ⟨0, 0, 0⟩)))], 0⟩) (by kernel_rfl)) (And.intro rfl rfl))
      · replace H := (ifF c1963).symm.trans H
        rcases Bool.eq_false_or_eq_true (a1.f0 != (0 : Int)) with c1964 | c1964
        · replace H := (ifT c1964).symm.trans H
          rcases Bool.eq_false_or_eq_true (decide (a1.f1 ≤ (-262144))) with c1965 | c1965
          · replace H := (ifT c1965).symm.trans H
            refine reg hP hn hm [(3, .b false), (8, .b false), (12, .b true), (16, .b true)] [2, 3, 4, 44] [0, 1, 2] ⟨[(2, .ptr 0 0 0), (3, .ptr 1 0 0), (4, .ptr 2 0 0), (44, bV true)], [(0, some (.box 35 (aHist a0))), (1, some (.box 72 (arank_Place a1))), (2, some (.box 74 (arank_Part ⟨0, 0, 0⟩)))], 0⟩ [(decide (a1.f0 < (-1))) = false, (decide (a1.f0 > (1 : Int))) = false, (a1.f0 != (0 : Int)) = true, (decide (a1.f1 ≤ (-262144))) = true] (by kernel_rfl) ⟨by exact c1962, by exact c1963, by exact c1964, by exact c1965, trivial⟩ ?_
            obtain rfl := Option.some.inj H
            exact Exists.intro _ (And.intro (fun _ _ h => h.conv (inv := [(0, 3), (1, 4), (2, 5)]) (vk := []) (e0 := []) (t := ⟨[(2, .ptr 3 0 0), (3, .ptr 4 0 0), (4, .ptr 5 0 0), (44, bV true)], [(3, some (.box 35 (aHist a0))), (4, some (.box 72 (arank_Place a1))), (5, some (.box 74 (arank_Part ⟨0, 0, 0⟩)))], 0⟩) (by kernel_rfl)) (And.intro rfl rfl))
          · replace H := (ifF c1965).symm.trans H
            rcases Bool.eq_false_or_eq_true (decide (a1.f1 > (262144 : Int))) with c1966 | c1966
            · replace H := (ifT c1966).symm.trans H
              refine reg hP hn hm [(3, .b false), (8, .b false), (12, .b true), (16, .b false), (23, .b true)] [2, 3, 4, 44] [0, 1, 2] ⟨[(2, .ptr 0 0 0), (3, .ptr 1 0 0), (4, .ptr 2 0 0), (44, bV true)], [(0, some (.box 35 (aHist a0))), (1, some (.box 72 (arank_Place a1))), (2, some (.box 74 (arank_Part ⟨0, 0, 0⟩)))], 0⟩ [(decide (a1.f0 < (-1))) = false, (decide (a1.f0 > (1 : Int))) = false, (a1.f0 != (0 : Int)) = true, (decide (a1.f1 ≤ (-262144))) = false, (decide (a1.f1 > (262144 : Int))) = true] (by kernel_rfl) ⟨by exact c1962, by exact c1963, by exact c1964, by exact c1965, by exact c1966, trivial⟩ ?_
              obtain rfl := Option.some.inj H
              exact Exists.intro _ (And.intro (fun _ _ h => h.conv (inv := [(0, 3), (1, 4), (2, 5)]) (vk := []) (e0 := []) (t := ⟨[(2, .ptr 3 0 0), (3, .ptr 4 0 0), (4, .ptr 5 0 0), (44, bV true)], [(3, some (.box 35 (aHist a0))), (4, some (.box 72 (arank_Place a1))), (5, some (.box 74 (arank_Part ⟨0, 0, 0⟩)))], 0⟩) (by kernel_rfl)) (And.intro rfl rfl))
            · replace H := (ifF c1966).symm.trans H
              rcases Bool.eq_false_or_eq_true (a1.f0 == (0 : Int)) with c1967 | c1967
              · replace H := (ifT c1967).symm.trans H
                refine reg hP hn hm [(3, .b false), (8, .b false), (12, .b true), (16, .b false), (23, .b false), (27, .b true)] [2, 3, 4, 44] [0, 1, 2] ⟨[(2, .ptr 0 0 0), (3, .ptr 1 0 0), (4, .ptr 2 0 0), (44, bV (a1.f1 != (0 : Int)))], [(0, some (.box 35 (aHist a0))), (1, some (.box 72 (arank_Place a1))), (2, some (.box 74 (arank_Part ⟨0, 0, 0⟩)))], 0⟩ [(decide (a1.f0 < (-1))) = false, (decide (a1.f0 > (1 : Int))) = false, (a1.f0 != (0 : Int)) = true, (decide (a1.f1 ≤ (-262144))) = false, (decide (a1.f1 > (262144 : Int))) = false, (a1.f0 == (0 : Int)) = true] (by kernel_rfl) ⟨by exact c1962, by exact c1963, by exact c1964, by exact c1965, by exact c1966, by exact c1967, trivial⟩ ?_
                obtain rfl := Option.some.inj H
                exact Exists.intro _ (And.intro (fun _ _ h => h.conv (inv := [(0, 3), (1, 4), (2, 5)]) (vk := []) (e0 := []) (t := ⟨[(2, .ptr 3 0 0), (3, .ptr 4 0 0), (4, .ptr 5 0 0), (44, bV (a1.f1 != (0 : Int)))], [(3, some (.box 35 (aHist a0))), (4, some (.box 72 (arank_Place a1))), (5, some (.box 74 (arank_Part ⟨0, 0, 0⟩)))], 0⟩) (by kernel_rfl)) (And.intro rfl rfl))
              · replace H := (ifF c1967).symm.trans H
                refine reg hP hn hm [(3, .b false), (8, .b false), (12, .b true), (16, .b false), (23, .b false), (27, .b false)] [2, 3, 4, 44] [0, 1, 2] ⟨[(2, .ptr 0 0 0), (3, .ptr 1 0 0), (4, .ptr 2 0 0), (44, bV false)], [(0, some (.box 35 (aHist a0))), (1, some (.box 72 (arank_Place a1))), (2, some (.box 74 (arank_Part ⟨0, 0, 0⟩)))], 0⟩ [(decide (a1.f0 < (-1))) = false, (decide (a1.f0 > (1 : Int))) = false, (a1.f0 != (0 : Int)) = true, (decide (a1.f1 ≤ (-262144))) = false, (decide (a1.f1 > (262144 : Int))) = false, (a1.f0 == (0 : Int)) = false] (by kernel_rfl) ⟨by exact c1962, by exact c1963, by exact c1964, by exact c1965, by exact c1966, by exact c1967, trivial⟩ ?_
                obtain rfl := Option.some.inj H
                exact Exists.intro _ (And.intro (fun _ _ h => h.conv (inv := [(0, 3), (1, 4), (2, 5)]) (vk := []) (e0 := []) (t := ⟨[(2, .ptr 3 0 0), (3, .ptr 4 0 0), (4, .ptr 5 0 0), (44, bV false)], [(3, some (.box 35 (aHist a0))), (4, some (.box 72 (arank_Place a1))), (5, some (.box 74 (arank_Part ⟨0, 0, 0⟩)))], 0⟩) (by kernel_rfl)) (And.intro rfl rfl))
        · replace H := (ifF c1964).symm.trans H
          rcases Bool.eq_false_or_eq_true (a1.f0 == (0 : Int)) with c1968 | c1968
          · replace H := (ifT c1968).symm.trans H
            refine reg hP hn hm [(3, .b false), (8, .b false), (12, .b false), (27, .b true)] [2, 3, 4, 44] [0, 1, 2] ⟨[(2, .ptr 0 0 0), (3, .ptr 1 0 0), (4, .ptr 2 0 0), (44, bV (a1.f1 != (0 : Int)))], [(0, some (.box 35 (aHist a0))), (1, some (.box 72 (arank_Place a1))), (2, some (.box 74 (arank_Part ⟨0, 0, 0⟩)))], 0⟩ [(decide (a1.f0 < (-1))) = false, (decide (a1.f0 > (1 : Int))) = false, (a1.f0 != (0 : Int)) = false, (a1.f0 == (0 : Int)) = true] (by kernel_rfl) ⟨by exact c1962, by exact c1963, by exact c1964, by exact c1968, trivial⟩ ?_
            obtain rfl := Option.some.inj H
            exact Exists.intro _ (And.intro (fun _ _ h => h.conv (inv := [(0, 3), (1, 4), (2, 5)]) (vk := []) (e0 := []) (t := ⟨[(2, .ptr 3 0 0), (3, .ptr 4 0 0), (4, .ptr 5 0 0), (44, bV (a1.f1 != (0 : Int)))], [(3, some (.box 35 (aHist a0))), (4, some (.box 72 (arank_Place a1))), (5, some (.box 74 (arank_Part ⟨0, 0, 0⟩)))], 0⟩) (by kernel_rfl)) (And.intro rfl rfl))
          · replace H := (ifF c1968).symm.trans H
            refine reg hP hn hm [(3, .b false), (8, .b false), (12, .b false), (27, .b false)] [2, 3, 4, 44] [0, 1, 2] ⟨[(2, .ptr 0 0 0), (3, .ptr 1 0 0), (4, .ptr 2 0 0), (44, bV false)], [(0, some (.box 35 (aHist a0))), (1, some (.box 72 (arank_Place a1))), (2, some (.box 74 (arank_Part ⟨0, 0, 0⟩)))], 0⟩ [(decide (a1.f0 < (-1))) = false, (decide (a1.f0 > (1 : Int))) = false, (a1.f0 != (0 : Int)) = false, (a1.f0 == (0 : Int)) = false] (by kernel_rfl) ⟨by exact c1962, by exact c1963, by exact c1964, by exact c1968, trivial⟩ ?_
            obtain rfl := Option.some.inj H
            exact Exists.intro _ (And.intro (fun _ _ h => h.conv (inv := [(0, 3), (1, 4), (2, 5)]) (vk := []) (e0 := []) (t := ⟨[(2, .ptr 3 0 0), (3, .ptr 4 0 0), (4, .ptr 5 0 0), (44, bV false)], [(3, some (.box 35 (aHist a0))), (4, some (.box 72 (arank_Place a1))), (5, some (.box 74 (arank_Part ⟨0, 0, 0⟩)))], 0⟩) (by kernel_rfl)) (And.intro rfl rfl))
  · obtain ⟨x1969, rfl⟩ : ∃ z, z = o2038 := ⟨_, rfl⟩
    rintro e s ⟨rfl, rfl⟩
    refine AWp.cond x1969 rfl (fun c1970 => ?_) (fun c1970 => ?_)
    · replace H := (ifT c1970).symm.trans H
      refine AWp.seq ?_
      refine reg hP hn hm [] [4, 5] [5] ⟨[(4, .ptr 5 0 0), (5, iV .i64 1)], [(5, some (.box 74 (arank_Part ⟨0, 0, 0⟩)))], 0⟩ [] (by kernel_rfl) trivial ?_
      refine AWp.conv (inv := [(5, 0)]) (vk := []) (e0 := []) (t := ⟨[(4, .ptr 0 0 0), (5, iV .i64 1)], [(0, some (.box 74 (arank_Part ((⟨0, 0, 0⟩ : Trank_Part)))))], 0⟩) (by kernel_rfl) ?_
      refine AWp.ret ?_
      obtain rfl := Option.some.inj H
      exact Exists.intro _ (And.intro (fun _ _ h => h) (And.intro (.inl rfl) (And.intro rfl (And.intro (by kernel_rfl) (by kernel_rfl)))))
    · replace H := (ifF c1970).symm.trans H
      refine AWp.skip ?_
      refine AWp.seq ?_
      refine AWp.seq ?_
      refine reg hP hn hm [] [2, 3, 4, 48] [3, 4, 5] ⟨[(2, .ptr 3 0 0), (3, .ptr 4 0 0), (4, .ptr 5 0 0), (48, bV (a0.f4 == (0 : Int)))], [(3, some (.box 35 (aHist a0))), (4, some (.box 72 (arank_Place a1))), (5, some (.box 74 (arank_Part ⟨0, 0, 0⟩)))], 0⟩ [] (by kernel_rfl) trivial ?_
      refine AWp.cond (a0.f4 == (0 : Int)) rfl (fun c1971 => ?_) (fun c1971 => ?_)
      · replace H := (ifT c1971).symm.trans H
        refine AWp.seq ?_
        refine reg hP hn hm [] [4, 5] [5] ⟨[(4, .ptr 5 0 0), (5, iV .i64 30)], [(5, some (.box 74 (arank_Part ⟨0, 0, 0⟩)))], 0⟩ [] (by kernel_rfl) trivial ?_
        refine AWp.conv (inv := [(5, 0)]) (vk := []) (e0 := []) (t := ⟨[(4, .ptr 0 0 0), (5, iV .i64 30)], [(0, some (.box 74 (arank_Part ((⟨0, 0, 0⟩ : Trank_Part)))))], 0⟩) (by kernel_rfl) ?_
        refine AWp.ret ?_
        obtain rfl := Option.some.inj H
        exact Exists.intro _ (And.intro (fun _ _ h => h) (And.intro (.inl rfl) (And.intro rfl (And.intro (by kernel_rfl) (by kernel_rfl)))))
      · replace H := (ifF c1971).symm.trans H
        refine AWp.skip ?_
        refine AWp.seq ?_
        refine reg hP hn hm [(3, .k 6)] [2, 3, 4, 6] [3, 4, 5, 6] ⟨[(2, .ptr 3 0 0), (3, .ptr 4 0 0), (4, .ptr 5 0 0), (6, .ptr 6 0 0)], [(3, some (.box 35 (aHist a0))), (4, some (.box 72 (arank_Place a1))), (5, some (.box 74 (arank_Part ⟨0, 0, 0⟩))), (6, some (.box 74 (arank_Part ⟨0, 0, a0.f4⟩)))], 0⟩ [] (by kernel_rfl) trivial ?_
        refine AWp.seq ?_
        obtain ⟨t1976, e1977, H⟩ := bind_of H
        refine reg hP hn hm [(1, .call [] [] [] [] 0 (iV .i64 t1976) [])] [2, 4, 6, 7] [3, 5, 6] ⟨[(2, .ptr 3 0 0), (4, .ptr 5 0 0), (6, .ptr 6 0 0), (7, iV .i64 t1976)], [(3, some (.box 35 (aHist a0))), (5, some (.box 74 (arank_Part ⟨0, 0, 0⟩))), (6, some (.box 74 (arank_Part ⟨0, 0, a0.f4⟩)))], 0⟩ [Enters Try.prog 75, Pv.Fn Try.prog 75 [.agg (arank_Place a1)] [] 0 (fun r o => r = iV .i64 t1976 ∧ o = [])] (by kernel_rfl) ⟨by exact Try.call75, by exact f_rank_spot.ok a1 t1976 e1977, trivial⟩ ?_
        refine AWp.seq ?_
        refine AWp.seq ?_
        obtain ⟨t1980, e1981, H⟩ := bind_of H
        refine reg hP hn hm [(1, .call [] [(0, 7)] [] [7] 0 (.own 0) [(0, some (.row 4 47 (t1980.map erank_Cell)))]), (2, .any (iV .i64 (t1980.length : Int)))] [2, 4, 6, 7, 56, 57, 58] [3, 5, 6, 7] ⟨[(2, .ptr 3 0 0), (4, .ptr 5 0 0), (6, .ptr 6 0 0), (7, iV .i64 t1976), (56, .own 7), (57, iV .i64 (t1980.length : Int)), (58, iV .i64 0)], [(3, some (.box 35 (aHist a0))), (5, some (.box 74 (arank_Part ⟨0, 0, 0⟩))), (6, some (.box 74 (arank_Part ⟨0, 0, a0.f4⟩))), (7, some (.row 4 47 (t1980.map erank_Cell)))], 0⟩ [Enters Try.prog 21, Pv.Fn Try.prog 21 [.agg (aHist a0)] [] 0 (fun r o => r = .own 0 ∧ o = [(0, some (.row 4 47 (t1980.map erank_Cell)))]), ((t1980.map erank_Cell).length : Int) = (t1980.length : Int)] (by kernel_rfl) ⟨by exact Try.call21, by exact f_rank_Order.ok a0 t1980 e1981, by rw [len_map], trivial⟩ ?_
        refine AWp.block ?_
        obtain ⟨o2040, e2041, H⟩ := bind_of H
        refine AWp.loop (LWp.conv (inv := [(3, 17), (5, 18), (6, 19), (7, 20)]) (vk := []) (e0 := []) (t := ⟨[(2, .ptr 17 0 0), (4, .ptr 18 0 0), (6, .ptr 19 0 0), (7, iV .i64 t1976), (56, .own 20), (57, iV .i64 (t1980.length : Int)), (58, iV .i64 0)], [(17, some (.box 35 (aHist a0))), (18, some (.box 74 (arank_Part ⟨0, 0, 0⟩))), (19, some (.box 74 (arank_Part ⟨0, 0, a0.f4⟩))), (20, some (.row 4 47 (t1980.map erank_Cell)))], 0⟩) (by kernel_rfl) ?_)
        refine LWp.mono (Q := fun e s => (match (generalizing := false) o2040 with | (x2036, x2037) => e = .exit 0 ∧ s = ⟨[(4, .ptr 30 0 0), (6, .ptr 31 0 0)], [(30, some (.box 74 (arank_Part ⟨0, 0, 0⟩))), (31, some (.box 74 (arank_Part ⟨x2036, x2037, a0.f4⟩)))], 0⟩)) (LWp.cv (withBody (fun body hbody => ?_))) ?_
        · refine f_rank_Below.l0.partial_correctness a0 t1976 t1980 (motive := fun x2017 x2018 x2019 o2040 => LWp Γ body (fun e s => ∃ t, Cv Γ s t ∧ (match (generalizing := false) o2040 with | (x2036, x2037) => e = .exit 0 ∧ t = ⟨[(4, .ptr 30 0 0), (6, .ptr 31 0 0)], [(30, some (.box 74 (arank_Part ⟨0, 0, 0⟩))), (31, some (.box 74 (arank_Part ⟨x2036, x2037, a0.f4⟩)))], 0⟩)) ⟨[(2, .ptr 17 0 0), (4, .ptr 18 0 0), (6, .ptr 19 0 0), (7, iV .i64 t1976), (56, .own 20), (57, iV .i64 (t1980.length : Int)), (58, iV .i64 x2019)], [(17, some (.box 35 (aHist a0))), (18, some (.box 74 (arank_Part ⟨0, 0, 0⟩))), (19, some (.box 74 (arank_Part ⟨x2017, x2018, a0.f4⟩))), (20, some (.row 4 47 (t1980.map erank_Cell)))], 0⟩) ?_ _ _ _ _ e2041
          clear H e2041 o2040; intro self ih x2017 x2018 x2019 o2040 H
          subst hbody
          refine LWp.round ?_
          refine AWp.seq ?_
          refine reg hP hn hm [] [2, 4, 6, 7, 56, 57, 58, 59] [17, 18, 19, 20] ⟨[(2, .ptr 17 0 0), (4, .ptr 18 0 0), (6, .ptr 19 0 0), (7, iV .i64 t1976), (56, .own 20), (57, iV .i64 (t1980.length : Int)), (58, iV .i64 x2019), (59, bV (decide (x2019 < (t1980.length : Int))))], [(17, some (.box 35 (aHist a0))), (18, some (.box 74 (arank_Part ⟨0, 0, 0⟩))), (19, some (.box 74 (arank_Part ⟨x2017, x2018, a0.f4⟩))), (20, some (.row 4 47 (t1980.map erank_Cell)))], 0⟩ [] (by kernel_rfl) trivial ?_
          refine AWp.seq ?_
          refine AWp.cond (decide (x2019 < (t1980.length : Int))) rfl (fun c2020 => ?_) (fun c2020 => ?_)
          · replace H := (ifT c2020).symm.trans H
            refine AWp.skip ?_
            refine AWp.seq ?_
            refine AWp.block ?_
            refine AWp.seq ?_
            obtain ⟨b2024, p2025, q2026, H⟩ := at_of H
            refine reg hP hn hm [(1, .c (erank_Cell b2024)), (2, .k 21)] [2, 4, 6, 7, 9, 56, 57, 58] [17, 18, 19, 20, 21] ⟨[(2, .ptr 17 0 0), (4, .ptr 18 0 0), (6, .ptr 19 0 0), (7, iV .i64 t1976), (9, .ptr 21 0 0), (56, .own 20), (57, iV .i64 (t1980.length : Int)), (58, iV .i64 x2019)], [(17, some (.box 35 (aHist a0))), (18, some (.box 74 (arank_Part ⟨0, 0, 0⟩))), (19, some (.box 74 (arank_Part ⟨x2017, x2018, a0.f4⟩))), (20, some (.row 4 47 (t1980.map erank_Cell))), (21, some (.box 47 [iV .i64 b2024.f0.f0, iV .i64 b2024.f0.f1, iV .i64 b2024.f0.f2, iV .u64 b2024.f1]))], 0⟩ [0 ≤ x2019, x2019 < (((t1980.map erank_Cell).length : Nat) : Int), (t1980.map erank_Cell)[(Int.toNat (x2019))]? = some (erank_Cell b2024)] (by kernel_rfl) ⟨by exact p2025, by exact el_lt erank_Cell p2025 q2026, by exact el_map erank_Cell q2026, trivial⟩ ?_
            refine AWp.seq ?_
            obtain ⟨t2029, e2030, H⟩ := bind_of H
            refine reg hP hn hm [(2, .call [] [] [] [] 0 (.tup [iV .i64 t2029.1, iV .i64 t2029.2]) [])] [2, 4, 6, 7, 9, 10, 11, 56, 57, 58] [17, 18, 19, 20, 21] ⟨[(2, .ptr 17 0 0), (4, .ptr 18 0 0), (6, .ptr 19 0 0), (7, iV .i64 t1976), (9, .ptr 21 0 0), (10, iV .i64 t2029.1), (11, iV .i64 t2029.2), (56, .own 20), (57, iV .i64 (t1980.length : Int)), (58, iV .i64 x2019)], [(17, some (.box 35 (aHist a0))), (18, some (.box 74 (arank_Part ⟨0, 0, 0⟩))), (19, some (.box 74 (arank_Part ⟨x2017, x2018, a0.f4⟩))), (20, some (.row 4 47 (t1980.map erank_Cell))), (21, some (.box 47 [iV .i64 b2024.f0.f0, iV .i64 b2024.f0.f1, iV .i64 b2024.f0.f2, iV .u64 b2024.f1]))], 0⟩ [Enters Try.prog 76, Pv.Fn Try.prog 76 [.agg (aHist a0), .agg (apluvialref08_Cell ⟨b2024.f0.f0, b2024.f0.f1, b2024.f0.f2, b2024.f1⟩)] [] 0 (fun r o => r = .tup [iV .i64 t2029.1, iV .i64 t2029.2] ∧ o = [])] (by kernel_rfl) ⟨by exact Try.call76, by exact f_rank_ends.ok a0 b2024 t2029 e2030, trivial⟩ ?_
            refine AWp.block ?_
            refine AWp.seq ?_
            refine reg hP hn hm [] [2, 4, 6, 7, 9, 10, 56, 57, 58, 68] [17, 18, 19, 20, 21] ⟨[(2, .ptr 17 0 0), (4, .ptr 18 0 0), (6, .ptr 19 0 0), (7, iV .i64 t1976), (9, .ptr 21 0 0), (10, iV .i64 t2029.1), (56, .own 20), (57, iV .i64 (t1980.length : Int)), (58, iV .i64 x2019), (68, bV (decide (t2029.2 ≤ t1976)))], [(17, some (.box 35 (aHist a0))), (18, some (.box 74 (arank_Part ⟨0, 0, 0⟩))), (19, some (.box 74 (arank_Part ⟨x2017, x2018, a0.f4⟩))), (20, some (.row 4 47 (t1980.map erank_Cell))), (21, some (.box 47 [iV .i64 b2024.f0.f0, iV .i64 b2024.f0.f1, iV .i64 b2024.f0.f2, iV .u64 b2024.f1]))], 0⟩ [] (by kernel_rfl) trivial ?_
            obtain ⟨o2042, e2043, H⟩ := bind_of H
            refine AWp.mono (Q := fun e s => (match (generalizing := false) o2042 with | (x2034, x2035) => e = .normal ∧ s = ⟨[(2, .ptr 26 0 0), (4, .ptr 27 0 0), (6, .ptr 28 0 0), (7, iV .i64 t1976), (56, .own 29), (57, iV .i64 (t1980.length : Int)), (58, iV .i64 x2019)], [(26, some (.box 35 (aHist a0))), (27, some (.box 74 (arank_Part ⟨0, 0, 0⟩))), (28, some (.box 74 (arank_Part ⟨x2034, x2035, a0.f4⟩))), (29, some (.row 4 47 (t1980.map erank_Cell)))], 0⟩)) (AWp.cv ?_) ?_
            · replace H := e2043; clear e2043
              refine AWp.cond (decide (t2029.2 ≤ t1976)) rfl (fun c2031 => ?_) (fun c2031 => ?_)
              · replace H := (ifT c2031).symm.trans H
                refine reg hP hn hm [] [2, 4, 6, 7, 56, 57, 58] [17, 18, 19, 20] ⟨[(2, .ptr 17 0 0), (4, .ptr 18 0 0), (6, .ptr 19 0 0), (7, iV .i64 t1976), (56, .own 20), (57, iV .i64 (t1980.length : Int)), (58, iV .i64 x2019)], [(17, some (.box 35 (aHist a0))), (18, some (.box 74 (arank_Part ⟨0, 0, 0⟩))), (19, some (.box 74 (arank_Part ⟨(IntKind.u64.wrap (x2017 + b2024.f1)), x2018, a0.f4⟩))), (20, some (.row 4 47 (t1980.map erank_Cell)))], 0⟩ [] (by kernel_rfl) trivial ?_
                obtain rfl := Option.some.inj H
                exact Exists.intro _ (And.intro (fun _ _ h => h.conv (inv := [(17, 26), (18, 27), (19, 28), (20, 29)]) (vk := []) (e0 := []) (t := ⟨[(2, .ptr 26 0 0), (4, .ptr 27 0 0), (6, .ptr 28 0 0), (7, iV .i64 t1976), (56, .own 29), (57, iV .i64 (t1980.length : Int)), (58, iV .i64 x2019)], [(26, some (.box 35 (aHist a0))), (27, some (.box 74 (arank_Part ⟨0, 0, 0⟩))), (28, some (.box 74 (arank_Part ⟨(IntKind.u64.wrap (x2017 + b2024.f1)), x2018, a0.f4⟩))), (29, some (.row 4 47 (t1980.map erank_Cell)))], 0⟩) (by kernel_rfl)) (And.intro rfl rfl))
              · replace H := (ifF c2031).symm.trans H
                refine AWp.seq ?_
                refine reg hP hn hm [] [2, 4, 6, 7, 9, 56, 57, 58, 78] [17, 18, 19, 20, 21] ⟨[(2, .ptr 17 0 0), (4, .ptr 18 0 0), (6, .ptr 19 0 0), (7, iV .i64 t1976), (9, .ptr 21 0 0), (56, .own 20), (57, iV .i64 (t1980.length : Int)), (58, iV .i64 x2019), (78, bV (decide (t2029.1 < t1976)))], [(17, some (.box 35 (aHist a0))), (18, some (.box 74 (arank_Part ⟨0, 0, 0⟩))), (19, some (.box 74 (arank_Part ⟨x2017, x2018, a0.f4⟩))), (20, some (.row 4 47 (t1980.map erank_Cell))), (21, some (.box 47 [iV .i64 b2024.f0.f0, iV .i64 b2024.f0.f1, iV .i64 b2024.f0.f2, iV .u64 b2024.f1]))], 0⟩ [] (by kernel_rfl) trivial ?_
                obtain ⟨o2044, e2045, H⟩ := bind_of H
                refine AWp.mono (Q := fun e s => (match (generalizing := false) o2044 with | x2033 => e = .normal ∧ s = ⟨[(2, .ptr 22 0 0), (4, .ptr 23 0 0), (6, .ptr 24 0 0), (7, iV .i64 t1976), (56, .own 25), (57, iV .i64 (t1980.length : Int)), (58, iV .i64 x2019)], [(22, some (.box 35 (aHist a0))), (23, some (.box 74 (arank_Part ⟨0, 0, 0⟩))), (24, some (.box 74 (arank_Part ⟨x2017, x2033, a0.f4⟩))), (25, some (.row 4 47 (t1980.map erank_Cell)))], 0⟩)) (AWp.cv ?_) ?_
                · replace H := e2045; clear e2045
                  refine AWp.cond (decide (t2029.1 < t1976)) rfl (fun c2032 => ?_) (fun c2032 => ?_)
                  · replace H := (ifT c2032).symm.trans H
                    refine reg hP hn hm [] [2, 4, 6, 7, 56, 57, 58] [17, 18, 19, 20] ⟨[(2, .ptr 17 0 0), (4, .ptr 18 0 0), (6, .ptr 19 0 0), (7, iV .i64 t1976), (56, .own 20), (57, iV .i64 (t1980.length : Int)), (58, iV .i64 x2019)], [(17, some (.box 35 (aHist a0))), (18, some (.box 74 (arank_Part ⟨0, 0, 0⟩))), (19, some (.box 74 (arank_Part ⟨x2017, (IntKind.u64.wrap (x2018 + b2024.f1)), a0.f4⟩))), (20, some (.row 4 47 (t1980.map erank_Cell)))], 0⟩ [] (by kernel_rfl) trivial ?_
                    obtain rfl := Option.some.inj H
                    exact Exists.intro _ (And.intro (fun _ _ h => h.conv (inv := [(17, 22), (18, 23), (19, 24), (20, 25)]) (vk := []) (e0 := []) (t := ⟨[(2, .ptr 22 0 0), (4, .ptr 23 0 0), (6, .ptr 24 0 0), (7, iV .i64 t1976), (56, .own 25), (57, iV .i64 (t1980.length : Int)), (58, iV .i64 x2019)], [(22, some (.box 35 (aHist a0))), (23, some (.box 74 (arank_Part ⟨0, 0, 0⟩))), (24, some (.box 74 (arank_Part ⟨x2017, (IntKind.u64.wrap (x2018 + b2024.f1)), a0.f4⟩))), (25, some (.row 4 47 (t1980.map erank_Cell)))], 0⟩) (by kernel_rfl)) (And.intro rfl rfl))
                  · replace H := (ifF c2032).symm.trans H
                    refine AWp.skip ?_
                    obtain rfl := Option.some.inj H
                    exact Exists.intro _ (And.intro (fun _ _ h => h.conv (inv := [(17, 22), (18, 23), (19, 24), (20, 25)]) (vk := []) (e0 := []) (t := ⟨[(2, .ptr 22 0 0), (4, .ptr 23 0 0), (6, .ptr 24 0 0), (7, iV .i64 t1976), (56, .own 25), (57, iV .i64 (t1980.length : Int)), (58, iV .i64 x2019)], [(22, some (.box 35 (aHist a0))), (23, some (.box 74 (arank_Part ⟨0, 0, 0⟩))), (24, some (.box 74 (arank_Part ⟨x2017, x2018, a0.f4⟩))), (25, some (.row 4 47 (t1980.map erank_Cell)))], 0⟩) (by kernel_rfl)) (And.intro rfl rfl))
                · obtain ⟨x2033, rfl⟩ : ∃ z, z = o2044 := ⟨_, rfl⟩
                  rintro e s ⟨rfl, rfl⟩
                  obtain rfl := Option.some.inj H
                  exact Exists.intro _ (And.intro (fun _ _ h => h.conv (inv := [(22, 26), (23, 27), (24, 28), (25, 29)]) (vk := []) (e0 := []) (t := ⟨[(2, .ptr 26 0 0), (4, .ptr 27 0 0), (6, .ptr 28 0 0), (7, iV .i64 t1976), (56, .own 29), (57, iV .i64 (t1980.length : Int)), (58, iV .i64 x2019)], [(26, some (.box 35 (aHist a0))), (27, some (.box 74 (arank_Part ⟨0, 0, 0⟩))), (28, some (.box 74 (arank_Part ⟨x2017, x2033, a0.f4⟩))), (29, some (.row 4 47 (t1980.map erank_Cell)))], 0⟩) (by kernel_rfl)) (And.intro rfl rfl))
            · obtain ⟨x2034, x2035⟩ := o2042
              rintro e s ⟨rfl, rfl⟩
              refine reg hP hn hm [] [2, 4, 6, 7, 56, 57, 58] [26, 27, 28, 29] ⟨[(2, .ptr 26 0 0), (4, .ptr 27 0 0), (6, .ptr 28 0 0), (7, iV .i64 t1976), (56, .own 29), (57, iV .i64 (t1980.length : Int)), (58, iV .i64 (IntKind.i64.wrap (x2019 + (1 : Int))))], [(26, some (.box 35 (aHist a0))), (27, some (.box 74 (arank_Part ⟨0, 0, 0⟩))), (28, some (.box 74 (arank_Part ⟨x2034, x2035, a0.f4⟩))), (29, some (.row 4 47 (t1980.map erank_Cell)))], 0⟩ [] (by kernel_rfl) trivial ?_
              exact LWp.conv (inv := [(26, 17), (27, 18), (28, 19), (29, 20)]) (vk := []) (e0 := []) (t := ⟨[(2, .ptr 17 0 0), (4, .ptr 18 0 0), (6, .ptr 19 0 0), (7, iV .i64 t1976), (56, .own 20), (57, iV .i64 (t1980.length : Int)), (58, iV .i64 (IntKind.i64.wrap (x2019 + (1 : Int))))], [(17, some (.box 35 (aHist a0))), (18, some (.box 74 (arank_Part ⟨0, 0, 0⟩))), (19, some (.box 74 (arank_Part ⟨x2034, x2035, a0.f4⟩))), (20, some (.row 4 47 (t1980.map erank_Cell)))], 0⟩) (by kernel_rfl) (ih _ _ _ _ H)
          · replace H := (ifF c2020).symm.trans H
            refine AWp.exit ?_
            obtain rfl := Option.some.inj H
            exact Exists.intro _ (And.intro (fun _ _ h => h.conv (inv := [(18, 30), (19, 31)]) (vk := []) (e0 := []) (t := ⟨[(4, .ptr 30 0 0), (6, .ptr 31 0 0)], [(30, some (.box 74 (arank_Part ⟨0, 0, 0⟩))), (31, some (.box 74 (arank_Part ⟨x2017, x2018, a0.f4⟩)))], 0⟩) (by kernel_rfl)) (And.intro rfl rfl))
        · obtain ⟨x2036, x2037⟩ := o2040
          rintro e s ⟨rfl, rfl⟩
          refine AWp.seq ?_
          refine reg hP hn hm [] [4, 5] [30] ⟨[(4, .ptr 30 0 0), (5, iV .i64 0)], [(30, some (.box 74 (arank_Part ⟨x2036, x2037, a0.f4⟩)))], 0⟩ [] (by kernel_rfl) trivial ?_
          refine AWp.conv (inv := [(30, 0)]) (vk := []) (e0 := []) (t := ⟨[(4, .ptr 0 0 0), (5, iV .i64 0)], [(0, some (.box 74 (arank_Part ((⟨x2036, x2037, a0.f4⟩ : Trank_Part)))))], 0⟩) (by kernel_rfl) ?_
          refine AWp.ret ?_
          obtain rfl := Option.some.inj H
          exact Exists.intro _ (And.intro (fun _ _ h => h) (And.intro (.inl rfl) (And.intro rfl (And.intro (by kernel_rfl) (by kernel_rfl)))))
def f_pluviallaw08_RankEnds.f (a0 : THist) (a1 : Int) : Option (Bool) := (((f_pluviallaw08_right.f a0) >>= fun t1946 => if (!t1946) = true then (some true) else (some (a0.f4 == (0 : Int)))) : Option (Bool)) >>= fun x1949 => if x1949 = true then ((f_pluviallaw08_awake.f) >>= fun t1953 => some t1953) else ((f_rank_Below.f a0 (⟨(-1), 262144⟩ : Trank_Place)) >>= fun t2048 => (f_rank_Below.f a0 (⟨1, 262144⟩ : Trank_Place)) >>= fun t2052 => ((if (t2048.2 != (0 : Int)) = true then (some true) else (if (t2052.2 != (0 : Int)) = true then (some true) else (if (((t2048.1).f0) != (0 : Int)) = true then (some true) else (if (((t2052.1).f0) != a0.f4) = true then (some true) else (some (((t2052.1).f1) != (0 : Int))))))) : Option (Bool)) >>= fun x2062 => if x2062 = true then (some false) else ((f_rank_Below.f a0 (⟨1, IntKind.i64.wrap (a1)⟩ : Trank_Place)) >>= fun t2066 => (f_rank_Below.f a0 (⟨(-1), IntKind.i64.wrap (a1)⟩ : Trank_Place)) >>= fun t2070 => ((if (t2066.2 != (0 : Int)) = true then (some true) else (some (t2070.2 != (0 : Int)))) : Option (Bool)) >>= fun x2074 => if x2074 = true then ((((f_pluviallaw08_awake.f) >>= fun t2080 => if t2080 = true then (if (decide ((IntKind.i64.wrap (a1)) ≤ (-262144))) = true then (some true) else (some (decide ((IntKind.i64.wrap (a1)) > (262144 : Int))))) else (some false)) : Option (Bool)) >>= fun x2084 => some x2084) else ((f_rank_Below.f a0 (⟨0, 0⟩ : Trank_Place)) >>= fun t2087 => (((f_pluviallaw08_awake.f) >>= fun t2095 => if t2095 = true then (if (decide (((t2070.1).f0) ≤ ((t2087.1).f0))) = true then (if (decide (((t2087.1).f0) ≤ ((t2066.1).f0))) = true then (if (decide ((IntKind.u64.wrap (((t2066.1).f0) + ((t2066.1).f1))) ≤ a0.f4)) = true then (some (decide ((IntKind.u64.wrap (((t2070.1).f0) + ((t2070.1).f1))) ≤ a0.f4))) else (some false)) else (some false)) else (some false)) else (some false)) : Option (Bool)) >>= fun x2101 => some x2101)))
theorem f_pluviallaw08_RankEnds.ok (a0 : THist) (a1 : Int) (r : Bool) (H : f_pluviallaw08_RankEnds.f a0 a1 = some r) : Pv.Fn Try.prog 8 [.agg (aHist a0), iV .i32 a1] [] 0 (fun x o => x = bV r ∧ o = []) := by
  unfold f_pluviallaw08_RankEnds.f at H
  refine Fn.bodyK [] Try.func8 rfl rfl (fun Γ hP hn => ?_)
  have hm : Try.prog.follows .mixedOrders = true := by kernel_rfl
  replace hn : Γ.n = 132 := hn
  refine AWp.seq ?_
  refine reg hP hn hm [(0, .k 0)] [1, 2] [0] ⟨[(1, iV .i32 a1), (2, .ptr 0 0 0)], [(0, some (.box 35 (aHist a0)))], 0⟩ [] (by kernel_rfl) trivial ?_
  refine AWp.seq ?_
  refine AWp.seq ?_
  obtain ⟨o2102, e2103, H⟩ := bind_of H
  refine AWp.mono (Q := fun e s => (match (generalizing := false) o2102 with | x1949 => e = .normal ∧ s = ⟨[(1, iV .i32 a1), (2, .ptr 1 0 0), (23, bV x1949)], [(1, some (.box 35 (aHist a0)))], 0⟩)) (AWp.cv ?_) ?_
  · replace H := e2103; clear e2103
    obtain ⟨t1946, e1947, H⟩ := bind_of H
    rcases Bool.eq_false_or_eq_true (!t1946) with c1948 | c1948
    · replace H := (ifT c1948).symm.trans H
      refine reg hP hn hm [(1, .call [] [] [] [] 0 (bV t1946) []), (3, .b true)] [1, 2, 23] [0] ⟨[(1, iV .i32 a1), (2, .ptr 0 0 0), (23, bV true)], [(0, some (.box 35 (aHist a0)))], 0⟩ [Enters Try.prog 19, Pv.Fn Try.prog 19 [.agg (aHist a0)] [] 0 (fun r o => r = bV t1946 ∧ o = []), (!t1946) = true] (by kernel_rfl) ⟨by exact Try.call19, by exact f_pluviallaw08_right.ok a0 t1946 e1947, by exact c1948, trivial⟩ ?_
      obtain rfl := Option.some.inj H
      exact Exists.intro _ (And.intro (fun _ _ h => h.conv (inv := [(0, 1)]) (vk := []) (e0 := []) (t := ⟨[(1, iV .i32 a1), (2, .ptr 1 0 0), (23, bV true)], [(1, some (.box 35 (aHist a0)))], 0⟩) (by kernel_rfl)) (And.intro rfl rfl))
    · replace H := (ifF c1948).symm.trans H
      refine reg hP hn hm [(1, .call [] [] [] [] 0 (bV t1946) []), (3, .b false)] [1, 2, 23] [0] ⟨[(1, iV .i32 a1), (2, .ptr 0 0 0), (23, bV (a0.f4 == (0 : Int)))], [(0, some (.box 35 (aHist a0)))], 0⟩ [Enters Try.prog 19, Pv.Fn Try.prog 19 [.agg (aHist a0)] [] 0 (fun r o => r = bV t1946 ∧ o = []), (!t1946) = false] (by kernel_rfl) ⟨by exact Try.call19, by exact f_pluviallaw08_right.ok a0 t1946 e1947, by exact c1948, trivial⟩ ?_
      obtain rfl := Option.some.inj H
      exact Exists.intro _ (And.intro (fun _ _ h => h.conv (inv := [(0, 1)]) (vk := []) (e0 := []) (t := ⟨[(1, iV .i32 a1), (2, .ptr 1 0 0), (23, bV (a0.f4 == (0 : Int)))], [(1, some (.box 35 (aHist a0)))], 0⟩) (by kernel_rfl)) (And.intro rfl rfl))
  · obtain ⟨x1949, rfl⟩ : ∃ z, z = o2102 := ⟨_, rfl⟩
    rintro e s ⟨rfl, rfl⟩
    refine AWp.cond x1949 rfl (fun c1950 => ?_) (fun c1950 => ?_)
    · replace H := (ifT c1950).symm.trans H
      refine AWp.seq ?_
      obtain ⟨t1953, e1954, H⟩ := bind_of H
      refine reg hP hn hm [(0, .call [] [] [] [] 0 (bV t1953) [])] [4] [] ⟨[(4, bV t1953)], [], 0⟩ [Enters Try.prog 20, Pv.Fn Try.prog 20 [] [] 0 (fun r o => r = bV t1953 ∧ o = [])] (by kernel_rfl) ⟨by exact Try.call20, by exact f_pluviallaw08_awake.ok  t1953 e1954, trivial⟩ ?_
      refine AWp.conv (inv := []) (vk := []) (e0 := []) (t := ⟨[(4, bV t1953)], [], 0⟩) (by kernel_rfl) ?_
      refine AWp.ret ?_
      obtain rfl := Option.some.inj H
      exact Exists.intro _ (And.intro (fun _ _ h => h) (And.intro (.inl rfl) (And.intro rfl (And.intro (by kernel_rfl) (by kernel_rfl)))))
    · replace H := (ifF c1950).symm.trans H
      refine AWp.skip ?_
      refine AWp.seq ?_
      obtain ⟨t2048, e2049, H⟩ := bind_of H
      refine reg hP hn hm [(2, .call [] [] [] [] 0 (.tup [.agg (arank_Part (t2048.1)), iV .i64 t2048.2]) []), (6, .k 2)] [1, 2, 5, 6] [1, 2] ⟨[(1, iV .i32 a1), (2, .ptr 1 0 0), (5, .ptr 2 0 0), (6, iV .i64 t2048.2)], [(1, some (.box 35 (aHist a0))), (2, some (.box 74 (arank_Part (t2048.1))))], 0⟩ [Enters Try.prog 34, Pv.Fn Try.prog 34 [.agg (aHist a0), .agg (arank_Place ⟨(-1), 262144⟩)] [] 0 (fun r o => r = .tup [.agg (arank_Part (t2048.1)), iV .i64 t2048.2] ∧ o = [])] (by kernel_rfl) ⟨by exact Try.call34, by exact f_rank_Below.ok a0 (⟨(-1), 262144⟩ : Trank_Place) t2048 e2049, trivial⟩ ?_
      refine AWp.seq ?_
      obtain ⟨t2052, e2053, H⟩ := bind_of H
      refine reg hP hn hm [(2, .call [] [] [] [] 0 (.tup [.agg (arank_Part (t2052.1)), iV .i64 t2052.2]) []), (6, .k 3)] [1, 2, 5, 6, 7, 8] [1, 2, 3] ⟨[(1, iV .i32 a1), (2, .ptr 1 0 0), (5, .ptr 2 0 0), (6, iV .i64 t2048.2), (7, .ptr 3 0 0), (8, iV .i64 t2052.2)], [(1, some (.box 35 (aHist a0))), (2, some (.box 74 (arank_Part (t2048.1)))), (3, some (.box 74 (arank_Part (t2052.1))))], 0⟩ [Enters Try.prog 34, Pv.Fn Try.prog 34 [.agg (aHist a0), .agg (arank_Place ⟨1, 262144⟩)] [] 0 (fun r o => r = .tup [.agg (arank_Part (t2052.1)), iV .i64 t2052.2] ∧ o = [])] (by kernel_rfl) ⟨by exact Try.call34, by exact f_rank_Below.ok a0 (⟨1, 262144⟩ : Trank_Place) t2052 e2053, trivial⟩ ?_
      refine AWp.seq ?_
      refine AWp.seq ?_
      obtain ⟨o2104, e2105, H⟩ := bind_of H
      refine AWp.mono (Q := fun e s => (match (generalizing := false) o2104 with | x2062 => e = .normal ∧ s = ⟨[(1, iV .i32 a1), (2, .ptr 4 0 0), (59, bV x2062)], [(4, some (.box 35 (aHist a0)))], 0⟩)) (AWp.cv ?_) ?_
      · replace H := e2105; clear e2105
        rcases Bool.eq_false_or_eq_true (t2048.2 != (0 : Int)) with c2058 | c2058
        · replace H := (ifT c2058).symm.trans H
          refine reg hP hn hm [(2, .b true)] [1, 2, 59] [1] ⟨[(1, iV .i32 a1), (2, .ptr 1 0 0), (59, bV true)], [(1, some (.box 35 (aHist a0)))], 0⟩ [(t2048.2 != (0 : Int)) = true] (by kernel_rfl) ⟨by exact c2058, trivial⟩ ?_
          obtain rfl := Option.some.inj H
          exact Exists.intro _ (And.intro (fun _ _ h => h.conv (inv := [(1, 4)]) (vk := []) (e0 := []) (t := ⟨[(1, iV .i32 a1), (2, .ptr 4 0 0), (59, bV true)], [(4, some (.box 35 (aHist a0)))], 0⟩) (by kernel_rfl)) (And.intro rfl rfl))
        · replace H := (ifF c2058).symm.trans H
          rcases Bool.eq_false_or_eq_true (t2052.2 != (0 : Int)) with c2059 | c2059
          · replace H := (ifT c2059).symm.trans H
            refine reg hP hn hm [(2, .b false), (6, .b true)] [1, 2, 59] [1] ⟨[(1, iV .i32 a1), (2, .ptr 1 0 0), (59, bV true)], [(1, some (.box 35 (aHist a0)))], 0⟩ [(t2048.2 != (0 : Int)) = false, (t2052.2 != (0 : Int)) = true] (by kernel_rfl) ⟨by exact c2058, by exact c2059, trivial⟩ ?_
            obtain rfl := Option.some.inj H
            exact Exists.intro _ (And.intro (fun _ _ h => h.conv (inv := [(1, 4)]) (vk := []) (e0 := []) (t := ⟨[(1, iV .i32 a1), (2, .ptr 4 0 0), (59, bV true)], [(4, some (.box 35 (aHist a0)))], 0⟩) (by kernel_rfl)) (And.intro rfl rfl))
          · replace H := (ifF c2059).symm.trans H
            rcases Bool.eq_false_or_eq_true (((t2048.1).f0) != (0 : Int)) with c2060 | c2060
            · replace H := (ifT c2060).symm.trans H
              refine reg hP hn hm [(2, .b false), (6, .b false), (11, .b true)] [1, 2, 59] [1] ⟨[(1, iV .i32 a1), (2, .ptr 1 0 0), (59, bV true)], [(1, some (.box 35 (aHist a0)))], 0⟩ [(t2048.2 != (0 : Int)) = false, (t2052.2 != (0 : Int)) = false, (((t2048.1).f0) != (0 : Int)) = true] (by kernel_rfl) ⟨by exact c2058, by exact c2059, by exact c2060, trivial⟩ ?_
              obtain rfl := Option.some.inj H
              exact Exists.intro _ (And.intro (fun _ _ h => h.conv (inv := [(1, 4)]) (vk := []) (e0 := []) (t := ⟨[(1, iV .i32 a1), (2, .ptr 4 0 0), (59, bV true)], [(4, some (.box 35 (aHist a0)))], 0⟩) (by kernel_rfl)) (And.intro rfl rfl))
            · replace H := (ifF c2060).symm.trans H
              rcases Bool.eq_false_or_eq_true (((t2052.1).f0) != a0.f4) with c2061 | c2061
              · replace H := (ifT c2061).symm.trans H
                refine reg hP hn hm [(2, .b false), (6, .b false), (11, .b false), (18, .b true)] [1, 2, 59] [1] ⟨[(1, iV .i32 a1), (2, .ptr 1 0 0), (59, bV true)], [(1, some (.box 35 (aHist a0)))], 0⟩ [(t2048.2 != (0 : Int)) = false, (t2052.2 != (0 : Int)) = false, (((t2048.1).f0) != (0 : Int)) = false, (((t2052.1).f0) != a0.f4) = true] (by kernel_rfl) ⟨by exact c2058, by exact c2059, by exact c2060, by exact c2061, trivial⟩ ?_
                obtain rfl := Option.some.inj H
                exact Exists.intro _ (And.intro (fun _ _ h => h.conv (inv := [(1, 4)]) (vk := []) (e0 := []) (t := ⟨[(1, iV .i32 a1), (2, .ptr 4 0 0), (59, bV true)], [(4, some (.box 35 (aHist a0)))], 0⟩) (by kernel_rfl)) (And.intro rfl rfl))
              · replace H := (ifF c2061).symm.trans H
                refine reg hP hn hm [(2, .b false), (6, .b false), (11, .b false), (18, .b false)] [1, 2, 59] [1] ⟨[(1, iV .i32 a1), (2, .ptr 1 0 0), (59, bV (((t2052.1).f1) != (0 : Int)))], [(1, some (.box 35 (aHist a0)))], 0⟩ [(t2048.2 != (0 : Int)) = false, (t2052.2 != (0 : Int)) = false, (((t2048.1).f0) != (0 : Int)) = false, (((t2052.1).f0) != a0.f4) = false] (by kernel_rfl) ⟨by exact c2058, by exact c2059, by exact c2060, by exact c2061, trivial⟩ ?_
                obtain rfl := Option.some.inj H
                exact Exists.intro _ (And.intro (fun _ _ h => h.conv (inv := [(1, 4)]) (vk := []) (e0 := []) (t := ⟨[(1, iV .i32 a1), (2, .ptr 4 0 0), (59, bV (((t2052.1).f1) != (0 : Int)))], [(4, some (.box 35 (aHist a0)))], 0⟩) (by kernel_rfl)) (And.intro rfl rfl))
      · obtain ⟨x2062, rfl⟩ : ∃ z, z = o2104 := ⟨_, rfl⟩
        rintro e s ⟨rfl, rfl⟩
        refine AWp.cond x2062 rfl (fun c2063 => ?_) (fun c2063 => ?_)
        · replace H := (ifT c2063).symm.trans H
          refine AWp.seq ?_
          refine reg hP hn hm [] [4] [] ⟨[(4, bV false)], [], 0⟩ [] (by kernel_rfl) trivial ?_
          refine AWp.conv (inv := []) (vk := []) (e0 := []) (t := ⟨[(4, bV false)], [], 0⟩) (by kernel_rfl) ?_
          refine AWp.ret ?_
          obtain rfl := Option.some.inj H
          exact Exists.intro _ (And.intro (fun _ _ h => h) (And.intro (.inl rfl) (And.intro rfl (And.intro (by kernel_rfl) (by kernel_rfl)))))
        · replace H := (ifF c2063).symm.trans H
          refine AWp.skip ?_
          refine AWp.seq ?_
          refine reg hP hn hm [] [2, 9] [4] ⟨[(2, .ptr 4 0 0), (9, iV .i64 (IntKind.i64.wrap (a1)))], [(4, some (.box 35 (aHist a0)))], 0⟩ [] (by kernel_rfl) trivial ?_
          refine AWp.seq ?_
          obtain ⟨t2066, e2067, H⟩ := bind_of H
          refine reg hP hn hm [(3, .call [] [] [] [] 0 (.tup [.agg (arank_Part (t2066.1)), iV .i64 t2066.2]) []), (7, .k 5)] [2, 9, 10, 11] [4, 5] ⟨[(2, .ptr 4 0 0), (9, iV .i64 (IntKind.i64.wrap (a1))), (10, .ptr 5 0 0), (11, iV .i64 t2066.2)], [(4, some (.box 35 (aHist a0))), (5, some (.box 74 (arank_Part (t2066.1))))], 0⟩ [Enters Try.prog 34, Pv.Fn Try.prog 34 [.agg (aHist a0), .agg (arank_Place ⟨1, IntKind.i64.wrap (a1)⟩)] [] 0 (fun r o => r = .tup [.agg (arank_Part (t2066.1)), iV .i64 t2066.2] ∧ o = [])] (by kernel_rfl) ⟨by exact Try.call34, by exact f_rank_Below.ok a0 (⟨1, IntKind.i64.wrap (a1)⟩ : Trank_Place) t2066 e2067, trivial⟩ ?_
          refine AWp.seq ?_
          obtain ⟨t2070, e2071, H⟩ := bind_of H
          refine reg hP hn hm [(3, .call [] [] [] [] 0 (.tup [.agg (arank_Part (t2070.1)), iV .i64 t2070.2]) []), (7, .k 6)] [2, 9, 10, 11, 12, 13] [4, 5, 6] ⟨[(2, .ptr 4 0 0), (9, iV .i64 (IntKind.i64.wrap (a1))), (10, .ptr 5 0 0), (11, iV .i64 t2066.2), (12, .ptr 6 0 0), (13, iV .i64 t2070.2)], [(4, some (.box 35 (aHist a0))), (5, some (.box 74 (arank_Part (t2066.1)))), (6, some (.box 74 (arank_Part (t2070.1))))], 0⟩ [Enters Try.prog 34, Pv.Fn Try.prog 34 [.agg (aHist a0), .agg (arank_Place ⟨(-1), IntKind.i64.wrap (a1)⟩)] [] 0 (fun r o => r = .tup [.agg (arank_Part (t2070.1)), iV .i64 t2070.2] ∧ o = [])] (by kernel_rfl) ⟨by exact Try.call34, by exact f_rank_Below.ok a0 (⟨(-1), IntKind.i64.wrap (a1)⟩ : Trank_Place) t2070 e2071, trivial⟩ ?_
          refine AWp.seq ?_
          refine AWp.seq ?_
          obtain ⟨o2106, e2107, H⟩ := bind_of H
          refine AWp.mono (Q := fun e s => (match (generalizing := false) o2106 with | x2074 => e = .normal ∧ s = ⟨[(2, .ptr 7 0 0), (9, iV .i64 (IntKind.i64.wrap (a1))), (10, .ptr 8 0 0), (12, .ptr 9 0 0), (81, bV x2074)], [(7, some (.box 35 (aHist a0))), (8, some (.box 74 (arank_Part (t2066.1)))), (9, some (.box 74 (arank_Part (t2070.1))))], 0⟩)) (AWp.cv ?_) ?_
          · replace H := e2107; clear e2107
            rcases Bool.eq_false_or_eq_true (t2066.2 != (0 : Int)) with c2073 | c2073
            · replace H := (ifT c2073).symm.trans H
              refine reg hP hn hm [(2, .b true)] [2, 9, 10, 12, 81] [4, 5, 6] ⟨[(2, .ptr 4 0 0), (9, iV .i64 (IntKind.i64.wrap (a1))), (10, .ptr 5 0 0), (12, .ptr 6 0 0), (81, bV true)], [(4, some (.box 35 (aHist a0))), (5, some (.box 74 (arank_Part (t2066.1)))), (6, some (.box 74 (arank_Part (t2070.1))))], 0⟩ [(t2066.2 != (0 : Int)) = true] (by kernel_rfl) ⟨by exact c2073, trivial⟩ ?_
              obtain rfl := Option.some.inj H
              exact Exists.intro _ (And.intro (fun _ _ h => h.conv (inv := [(4, 7), (5, 8), (6, 9)]) (vk := []) (e0 := []) (t := ⟨[(2, .ptr 7 0 0), (9, iV .i64 (IntKind.i64.wrap (a1))), (10, .ptr 8 0 0), (12, .ptr 9 0 0), (81, bV true)], [(7, some (.box 35 (aHist a0))), (8, some (.box 74 (arank_Part (t2066.1)))), (9, some (.box 74 (arank_Part (t2070.1))))], 0⟩) (by kernel_rfl)) (And.intro rfl rfl))
            · replace H := (ifF c2073).symm.trans H
              refine reg hP hn hm [(2, .b false)] [2, 9, 10, 12, 81] [4, 5, 6] ⟨[(2, .ptr 4 0 0), (9, iV .i64 (IntKind.i64.wrap (a1))), (10, .ptr 5 0 0), (12, .ptr 6 0 0), (81, bV (t2070.2 != (0 : Int)))], [(4, some (.box 35 (aHist a0))), (5, some (.box 74 (arank_Part (t2066.1)))), (6, some (.box 74 (arank_Part (t2070.1))))], 0⟩ [(t2066.2 != (0 : Int)) = false] (by kernel_rfl) ⟨by exact c2073, trivial⟩ ?_
              obtain rfl := Option.some.inj H
              exact Exists.intro _ (And.intro (fun _ _ h => h.conv (inv := [(4, 7), (5, 8), (6, 9)]) (vk := []) (e0 := []) (t := ⟨[(2, .ptr 7 0 0), (9, iV .i64 (IntKind.i64.wrap (a1))), (10, .ptr 8 0 0), (12, .ptr 9 0 0), (81, bV (t2070.2 != (0 : Int)))], [(7, some (.box 35 (aHist a0))), (8, some (.box 74 (arank_Part (t2066.1)))), (9, some (.box 74 (arank_Part (t2070.1))))], 0⟩) (by kernel_rfl)) (And.intro rfl rfl))
          · obtain ⟨x2074, rfl⟩ : ∃ z, z = o2106 := ⟨_, rfl⟩
            rintro e s ⟨rfl, rfl⟩
            refine AWp.cond x2074 rfl (fun c2075 => ?_) (fun c2075 => ?_)
            · replace H := (ifT c2075).symm.trans H
              refine AWp.seq ?_
              obtain ⟨o2108, e2109, H⟩ := bind_of H
              refine AWp.mono (Q := fun e s => (match (generalizing := false) o2108 with | x2084 => e = .normal ∧ s = ⟨[(4, bV x2084)], [], 0⟩)) (AWp.cv ?_) ?_
              · replace H := e2109; clear e2109
                obtain ⟨t2080, e2081, H⟩ := bind_of H
                rcases Bool.eq_false_or_eq_true t2080 with c2082 | c2082
                · replace H := (ifT c2082).symm.trans H
                  rcases Bool.eq_false_or_eq_true (decide ((IntKind.i64.wrap (a1)) ≤ (-262144))) with c2083 | c2083
                  · replace H := (ifT c2083).symm.trans H
                    refine reg hP hn hm [(0, .call [] [] [] [] 0 (bV t2080) []), (1, .b true), (4, .b true)] [4] [] ⟨[(4, bV true)], [], 0⟩ [Enters Try.prog 20, Pv.Fn Try.prog 20 [] [] 0 (fun r o => r = bV t2080 ∧ o = []), t2080 = true, (decide ((IntKind.i64.wrap (a1)) ≤ (-262144))) = true] (by kernel_rfl) ⟨by exact Try.call20, by exact f_pluviallaw08_awake.ok  t2080 e2081, by exact c2082, by exact c2083, trivial⟩ ?_
                    obtain rfl := Option.some.inj H
                    exact Exists.intro _ (And.intro (fun _ _ h => h.conv (inv := []) (vk := []) (e0 := []) (t := ⟨[(4, bV true)], [], 0⟩) (by kernel_rfl)) (And.intro rfl rfl))
                  · replace H := (ifF c2083).symm.trans H
                    refine reg hP hn hm [(0, .call [] [] [] [] 0 (bV t2080) []), (1, .b true), (4, .b false)] [4] [] ⟨[(4, bV (decide ((IntKind.i64.wrap (a1)) > (262144 : Int))))], [], 0⟩ [Enters Try.prog 20, Pv.Fn Try.prog 20 [] [] 0 (fun r o => r = bV t2080 ∧ o = []), t2080 = true, (decide ((IntKind.i64.wrap (a1)) ≤ (-262144))) = false] (by kernel_rfl) ⟨by exact Try.call20, by exact f_pluviallaw08_awake.ok  t2080 e2081, by exact c2082, by exact c2083, trivial⟩ ?_
                    obtain rfl := Option.some.inj H
                    exact Exists.intro _ (And.intro (fun _ _ h => h.conv (inv := []) (vk := []) (e0 := []) (t := ⟨[(4, bV (decide ((IntKind.i64.wrap (a1)) > (262144 : Int))))], [], 0⟩) (by kernel_rfl)) (And.intro rfl rfl))
                · replace H := (ifF c2082).symm.trans H
                  refine reg hP hn hm [(0, .call [] [] [] [] 0 (bV t2080) []), (1, .b false)] [4] [] ⟨[(4, bV false)], [], 0⟩ [Enters Try.prog 20, Pv.Fn Try.prog 20 [] [] 0 (fun r o => r = bV t2080 ∧ o = []), t2080 = false] (by kernel_rfl) ⟨by exact Try.call20, by exact f_pluviallaw08_awake.ok  t2080 e2081, by exact c2082, trivial⟩ ?_
                  obtain rfl := Option.some.inj H
                  exact Exists.intro _ (And.intro (fun _ _ h => h.conv (inv := []) (vk := []) (e0 := []) (t := ⟨[(4, bV false)], [], 0⟩) (by kernel_rfl)) (And.intro rfl rfl))
              · obtain ⟨x2084, rfl⟩ : ∃ z, z = o2108 := ⟨_, rfl⟩
                rintro e s ⟨rfl, rfl⟩
                refine AWp.conv (inv := []) (vk := []) (e0 := []) (t := ⟨[(4, bV x2084)], [], 0⟩) (by kernel_rfl) ?_
                refine AWp.ret ?_
                obtain rfl := Option.some.inj H
                exact Exists.intro _ (And.intro (fun _ _ h => h) (And.intro (.inl rfl) (And.intro rfl (And.intro (by kernel_rfl) (by kernel_rfl)))))
            · replace H := (ifF c2075).symm.trans H
              refine AWp.skip ?_
              refine AWp.seq ?_
              obtain ⟨t2087, e2088, H⟩ := bind_of H
              refine reg hP hn hm [(2, .call [] [] [] [] 0 (.tup [.agg (arank_Part (t2087.1)), iV .i64 t2087.2]) []), (6, .k 10)] [2, 10, 12, 14] [7, 8, 9, 10] ⟨[(2, .ptr 7 0 0), (10, .ptr 8 0 0), (12, .ptr 9 0 0), (14, .ptr 10 0 0)], [(7, some (.box 35 (aHist a0))), (8, some (.box 74 (arank_Part (t2066.1)))), (9, some (.box 74 (arank_Part (t2070.1)))), (10, some (.box 74 (arank_Part (t2087.1))))], 0⟩ [Enters Try.prog 34, Pv.Fn Try.prog 34 [.agg (aHist a0), .agg (arank_Place ⟨0, 0⟩)] [] 0 (fun r o => r = .tup [.agg (arank_Part (t2087.1)), iV .i64 t2087.2] ∧ o = [])] (by kernel_rfl) ⟨by exact Try.call34, by exact f_rank_Below.ok a0 (⟨0, 0⟩ : Trank_Place) t2087 e2088, trivial⟩ ?_
              refine AWp.seq ?_
              obtain ⟨o2110, e2111, H⟩ := bind_of H
              refine AWp.mono (Q := fun e s => (match (generalizing := false) o2110 with | x2101 => e = .normal ∧ s = ⟨[(4, bV x2101)], [], 0⟩)) (AWp.cv ?_) ?_
              · replace H := e2111; clear e2111
                obtain ⟨t2095, e2096, H⟩ := bind_of H
                rcases Bool.eq_false_or_eq_true t2095 with c2097 | c2097
                · replace H := (ifT c2097).symm.trans H
                  rcases Bool.eq_false_or_eq_true (decide (((t2070.1).f0) ≤ ((t2087.1).f0))) with c2098 | c2098
                  · replace H := (ifT c2098).symm.trans H
                    rcases Bool.eq_false_or_eq_true (decide (((t2087.1).f0) ≤ ((t2066.1).f0))) with c2099 | c2099
                    · replace H := (ifT c2099).symm.trans H
                      rcases Bool.eq_false_or_eq_true (decide ((IntKind.u64.wrap (((t2066.1).f0) + ((t2066.1).f1))) ≤ a0.f4)) with c2100 | c2100
                      · replace H := (ifT c2100).symm.trans H
                        refine reg hP hn hm [(0, .call [] [] [] [] 0 (bV t2095) []), (1, .b true), (8, .b true), (15, .b true), (25, .b true)] [4] [] ⟨[(4, bV (decide ((IntKind.u64.wrap (((t2070.1).f0) + ((t2070.1).f1))) ≤ a0.f4)))], [], 0⟩ [Enters Try.prog 20, Pv.Fn Try.prog 20 [] [] 0 (fun r o => r = bV t2095 ∧ o = []), t2095 = true, (decide (((t2070.1).f0) ≤ ((t2087.1).f0))) = true, (decide (((t2087.1).f0) ≤ ((t2066.1).f0))) = true, (decide ((IntKind.u64.wrap (((t2066.1).f0) + ((t2066.1).f1))) ≤ a0.f4)) = true] (by kernel_rfl) ⟨by exact Try.call20, by exact f_pluviallaw08_awake.ok  t2095 e2096, by exact c2097, by exact c2098, by exact c2099, by exact c2100, trivial⟩ ?_
                        obtain rfl := Option.some.inj H
                        exact Exists.intro _ (And.intro (fun _ _ h => h.conv (inv := []) (vk := []) (e0 := []) (t := ⟨[(4, bV (decide ((IntKind.u64.wrap (((t2070.1).f0) + ((t2070.1).f1))) ≤ a0.f4)))], [], 0⟩) (by kernel_rfl)) (And.intro rfl rfl))
                      · replace H := (ifF c2100).symm.trans H
                        refine reg hP hn hm [(0, .call [] [] [] [] 0 (bV t2095) []), (1, .b true), (8, .b true), (15, .b true), (25, .b false)] [4] [] ⟨[(4, bV false)], [], 0⟩ [Enters Try.prog 20, Pv.Fn Try.prog 20 [] [] 0 (fun r o => r = bV t2095 ∧ o = []), t2095 = true, (decide (((t2070.1).f0) ≤ ((t2087.1).f0))) = true, (decide (((t2087.1).f0) ≤ ((t2066.1).f0))) = true, (decide ((IntKind.u64.wrap (((t2066.1).f0) + ((t2066.1).f1))) ≤ a0.f4)) = false] (by kernel_rfl) ⟨by exact Try.call20, by exact f_pluviallaw08_awake.ok  t2095 e2096, by exact c2097, by exact c2098, by exact c2099, by exact c2100, trivial⟩ ?_
                        obtain rfl := Option.some.inj H
                        exact Exists.intro _ (And.intro (fun _ _ h => h.conv (inv := []) (vk := []) (e0 := []) (t := ⟨[(4, bV false)], [], 0⟩) (by kernel_rfl)) (And.intro rfl rfl))
                    · replace H := (ifF c2099).symm.trans H
                      refine reg hP hn hm [(0, .call [] [] [] [] 0 (bV t2095) []), (1, .b true), (8, .b true), (15, .b false)] [4] [] ⟨[(4, bV false)], [], 0⟩ [Enters Try.prog 20, Pv.Fn Try.prog 20 [] [] 0 (fun r o => r = bV t2095 ∧ o = []), t2095 = true, (decide (((t2070.1).f0) ≤ ((t2087.1).f0))) = true, (decide (((t2087.1).f0) ≤ ((t2066.1).f0))) = false] (by kernel_rfl) ⟨by exact Try.call20, by exact f_pluviallaw08_awake.ok  t2095 e2096, by exact c2097, by exact c2098, by exact c2099, trivial⟩ ?_
                      obtain rfl := Option.some.inj H
                      exact Exists.intro _ (And.intro (fun _ _ h => h.conv (inv := []) (vk := []) (e0 := []) (t := ⟨[(4, bV false)], [], 0⟩) (by kernel_rfl)) (And.intro rfl rfl))
                  · replace H := (ifF c2098).symm.trans H
                    refine reg hP hn hm [(0, .call [] [] [] [] 0 (bV t2095) []), (1, .b true), (8, .b false)] [4] [] ⟨[(4, bV false)], [], 0⟩ [Enters Try.prog 20, Pv.Fn Try.prog 20 [] [] 0 (fun r o => r = bV t2095 ∧ o = []), t2095 = true, (decide (((t2070.1).f0) ≤ ((t2087.1).f0))) = false] (by kernel_rfl) ⟨by exact Try.call20, by exact f_pluviallaw08_awake.ok  t2095 e2096, by exact c2097, by exact c2098, trivial⟩ ?_
                    obtain rfl := Option.some.inj H
                    exact Exists.intro _ (And.intro (fun _ _ h => h.conv (inv := []) (vk := []) (e0 := []) (t := ⟨[(4, bV false)], [], 0⟩) (by kernel_rfl)) (And.intro rfl rfl))
                · replace H := (ifF c2097).symm.trans H
                  refine reg hP hn hm [(0, .call [] [] [] [] 0 (bV t2095) []), (1, .b false)] [4] [] ⟨[(4, bV false)], [], 0⟩ [Enters Try.prog 20, Pv.Fn Try.prog 20 [] [] 0 (fun r o => r = bV t2095 ∧ o = []), t2095 = false] (by kernel_rfl) ⟨by exact Try.call20, by exact f_pluviallaw08_awake.ok  t2095 e2096, by exact c2097, trivial⟩ ?_
                  obtain rfl := Option.some.inj H
                  exact Exists.intro _ (And.intro (fun _ _ h => h.conv (inv := []) (vk := []) (e0 := []) (t := ⟨[(4, bV false)], [], 0⟩) (by kernel_rfl)) (And.intro rfl rfl))
              · obtain ⟨x2101, rfl⟩ : ∃ z, z = o2110 := ⟨_, rfl⟩
                rintro e s ⟨rfl, rfl⟩
                refine AWp.conv (inv := []) (vk := []) (e0 := []) (t := ⟨[(4, bV x2101)], [], 0⟩) (by kernel_rfl) ?_
                refine AWp.ret ?_
                obtain rfl := Option.some.inj H
                exact Exists.intro _ (And.intro (fun _ _ h => h) (And.intro (.inl rfl) (And.intro rfl (And.intro (by kernel_rfl) (by kernel_rfl)))))
end Go.Proofs.Yteogljahemehkaa.PvGC
