import Derived.Test.YteogljahemehkaaProg
import Derived.Test.YteogljahemehkaaPxRankAll06
set_option linter.unusedVariables false
set_option linter.unnecessarySimpa false
set_option linter.unusedSimpArgs false
set_option maxRecDepth 10000
namespace Go.Proofs.Yteogljahemehkaa.PvGC
open Go Go.Pv
def f_rank_Order.l0 (a0 : THist) (x1316 : List Trank_Cell) (x1317 : Int) : Option (List Trank_Cell) := if (decide (x1317 ≥ (0 : Int))) = true then ((at? a0.f7 x1317) >>= fun b1323 => (chk ((x1316.length + [(⟨(⟨(-1), a0.f1, b1323.f0⟩ : Tbound_Key), b1323.f1⟩ : Trank_Cell)].length) * 32 ≤ 140737488355328)) >>= fun _ => f_rank_Order.l0 a0 (x1316 ++ [(⟨(⟨(-1), a0.f1, b1323.f0⟩ : Tbound_Key), b1323.f1⟩ : Trank_Cell)]) (IntKind.i64.wrap (x1317 - (1 : Int)))) else (some x1316)
partial_fixpoint
def f_rank_Order.l1 (a0 : THist) (x1341 : List Trank_Cell) (x1342 : Int) : Option (List Trank_Cell) := if (decide (x1342 < (a0.f6.length : Int))) = true then ((at? a0.f6 x1342) >>= fun b1347 => (chk ((x1341.length + [(⟨(⟨1, a0.f1, b1347.f0⟩ : Tbound_Key), b1347.f1⟩ : Trank_Cell)].length) * 32 ≤ 140737488355328)) >>= fun _ => f_rank_Order.l1 a0 (x1341 ++ [(⟨(⟨1, a0.f1, b1347.f0⟩ : Tbound_Key), b1347.f1⟩ : Trank_Cell)]) (IntKind.i64.wrap (x1342 + (1 : Int)))) else (some x1341)
partial_fixpoint
def f_rank_Order.f (a0 : THist) : Option (List Trank_Cell) := (f_rank_Order.l0 a0 [] (IntKind.i64.wrap ((a0.f7.length : Int) - (1 : Int)))) >>= fun x1327 => ((if (decide (a0.f3 > (0 : Int))) = true then ((chk ((x1327.length + [(⟨(⟨0, 0, 0⟩ : Tbound_Key), a0.f3⟩ : Trank_Cell)].length) * 32 ≤ 140737488355328)) >>= fun _ => some (x1327 ++ [(⟨(⟨0, 0, 0⟩ : Tbound_Key), a0.f3⟩ : Trank_Cell)])) else (some x1327)) : Option (List Trank_Cell)) >>= fun x1331 => (f_rank_Order.l1 a0 x1331 0) >>= fun x1352 => some x1352
theorem f_rank_Order.ok (a0 : THist) (r : List Trank_Cell) (H : f_rank_Order.f a0 = some r) : Pv.Fn Try.prog 21 [.agg (aHist a0)] [] 0 (fun x o => x = .own 0 ∧ o = [(0, some (.row 4 47 (r.map erank_Cell)))]) := by
  unfold f_rank_Order.f at H
  refine Fn.bodyK [0] Try.func21 rfl rfl (fun Γ hP hn => ?_)
  have hm : Try.prog.follows .mixedOrders = true := by kernel_rfl
  replace hn : Γ.n = 64 := hn
  refine AWp.seq ?_
  refine reg hP hn hm [(0, .k 0)] [1] [0] ⟨[(1, .ptr 0 0 0)], [(0, some (.box 35 (aHist a0)))], 0⟩ [] (by kernel_rfl) trivial ?_
  refine AWp.seq ?_
  refine reg hP hn hm [] [1, 3] [0] ⟨[(1, .ptr 0 0 0), (3, .none0)], [(0, some (.box 35 (aHist a0)))], 0⟩ [] (by kernel_rfl) trivial ?_
  refine AWp.seq ?_
  refine AWp.seq ?_
  refine reg hP hn hm [(2, .any (iV .i64 (a0.f7.length : Int)))] [1, 3, 4] [0] ⟨[(1, .ptr 0 0 0), (3, .none0), (4, iV .i64 (IntKind.i64.wrap ((a0.f7.length : Int) - (1 : Int))))], [(0, some (.box 35 (aHist a0)))], 0⟩ [((a0.f7.map eBucket).length : Int) = (a0.f7.length : Int)] (by kernel_rfl) ⟨by rw [len_map], trivial⟩ ?_
  refine AWp.block ?_
  obtain ⟨o1353, e1354, H⟩ := bind_of H
  refine AWp.loop (LWp.conv (inv := [(0, 3)]) (vk := []) (e0 := [4]) (t := ⟨[(1, .ptr 3 0 0), (3, .own 4), (4, iV .i64 (IntKind.i64.wrap ((a0.f7.length : Int) - (1 : Int))))], [(3, some (.box 35 (aHist a0))), (4, some (.row 4 47 ([].map erank_Cell)))], 0⟩) (by kernel_rfl) ?_)
  refine LWp.mono (Q := fun e s => (match (generalizing := false) o1353 with | x1327 => e = .exit 0 ∧ s = ⟨[(1, .ptr 7 0 0), (3, .own 8)], [(7, some (.box 35 (aHist a0))), (8, some (.row 4 47 (x1327.map erank_Cell)))], 0⟩)) (LWp.cv (withBody (fun body hbody => ?_))) ?_
  · refine f_rank_Order.l0.partial_correctness a0 (motive := fun x1316 x1317 o1353 => LWp Γ body (fun e s => ∃ t, Cv Γ s t ∧ (match (generalizing := false) o1353 with | x1327 => e = .exit 0 ∧ t = ⟨[(1, .ptr 7 0 0), (3, .own 8)], [(7, some (.box 35 (aHist a0))), (8, some (.row 4 47 (x1327.map erank_Cell)))], 0⟩)) ⟨[(1, .ptr 3 0 0), (3, .own 4), (4, iV .i64 x1317)], [(3, some (.box 35 (aHist a0))), (4, some (.row 4 47 (x1316.map erank_Cell)))], 0⟩) ?_ _ _ _ e1354
    clear H e1354 o1353; intro self ih x1316 x1317 o1353 H
    subst hbody
    refine LWp.round ?_
    refine AWp.seq ?_
    refine AWp.seq ?_
    refine reg hP hn hm [] [1, 3, 4, 12] [3, 4] ⟨[(1, .ptr 3 0 0), (3, .own 4), (4, iV .i64 x1317), (12, bV (decide (x1317 ≥ (0 : Int))))], [(3, some (.box 35 (aHist a0))), (4, some (.row 4 47 (x1316.map erank_Cell)))], 0⟩ [] (by kernel_rfl) trivial ?_
    refine AWp.cond (decide (x1317 ≥ (0 : Int))) rfl (fun c1318 => ?_) (fun c1318 => ?_)
    · replace H := (ifT c1318).symm.trans H
      refine AWp.skip ?_
      refine AWp.seq ?_
      refine AWp.block ?_
      obtain ⟨b1323, p1324, q1325, H⟩ := at_of H
      obtain ⟨c1326, H⟩ := chk_of H
      refine reg hP hn hm [(6, .c (eBucket b1323)), (13, .c (eBucket b1323)), (17, .app 5 ([(⟨(⟨(-1), a0.f1, b1323.f0⟩ : Tbound_Key), b1323.f1⟩ : Trank_Cell)].map erank_Cell)), (18, .app 6 ((x1316 ++ [(⟨(⟨(-1), a0.f1, b1323.f0⟩ : Tbound_Key), b1323.f1⟩ : Trank_Cell)]).map erank_Cell))] [1, 3, 4] [3, 6] ⟨[(1, .ptr 3 0 0), (3, .own 6), (4, iV .i64 x1317)], [(3, some (.box 35 (aHist a0))), (6, some (.row 4 47 ((x1316 ++ [(⟨(⟨(-1), a0.f1, b1323.f0⟩ : Tbound_Key), b1323.f1⟩ : Trank_Cell)]).map erank_Cell)))], 0⟩ [0 ≤ x1317, (a0.f7.map eBucket)[(Int.toNat (x1317))]? = some (eBucket b1323), 0 ≤ x1317, (a0.f7.map eBucket)[(Int.toNat (x1317))]? = some (eBucket b1323), [(⟨(⟨(-1), a0.f1, b1323.f0⟩ : Tbound_Key), b1323.f1⟩ : Trank_Cell)].map erank_Cell = [[iI .i64 (-1), iI .i64 a0.f1, iI .i64 b1323.f0, iI .u64 b1323.f1]], (x1316 ++ [(⟨(⟨(-1), a0.f1, b1323.f0⟩ : Tbound_Key), b1323.f1⟩ : Trank_Cell)]).map erank_Cell = (x1316.map erank_Cell) ++ ([(⟨(⟨(-1), a0.f1, b1323.f0⟩ : Tbound_Key), b1323.f1⟩ : Trank_Cell)].map erank_Cell), ∀ c ∈ ([(⟨(⟨(-1), a0.f1, b1323.f0⟩ : Tbound_Key), b1323.f1⟩ : Trank_Cell)].map erank_Cell), c.length = 4, ∀ c ∈ ([(⟨(⟨(-1), a0.f1, b1323.f0⟩ : Tbound_Key), b1323.f1⟩ : Trank_Cell)].map erank_Cell), leaves (c.map .im) = true, ((x1316.map erank_Cell).length + ([(⟨(⟨(-1), a0.f1, b1323.f0⟩ : Tbound_Key), b1323.f1⟩ : Trank_Cell)].map erank_Cell).length) * 32 ≤ 140737488355328] (by kernel_rfl) ⟨by exact p1324, by exact el_map eBucket q1325, by exact p1324, by exact el_map eBucket q1325, by exact rfl, by simp, by exact all_len _ _ _ (fun _ => rfl), by exact all_leaf _ _ (fun _ => rfl), by simpa using c1326, trivial⟩ ?_
      refine reg hP hn hm [] [1, 3, 4] [3, 6] ⟨[(1, .ptr 3 0 0), (3, .own 6), (4, iV .i64 (IntKind.i64.wrap (x1317 - (1 : Int))))], [(3, some (.box 35 (aHist a0))), (6, some (.row 4 47 ((x1316 ++ [(⟨(⟨(-1), a0.f1, b1323.f0⟩ : Tbound_Key), b1323.f1⟩ : Trank_Cell)]).map erank_Cell)))], 0⟩ [] (by kernel_rfl) trivial ?_
      exact LWp.conv (inv := [(3, 3), (6, 4)]) (vk := []) (e0 := []) (t := ⟨[(1, .ptr 3 0 0), (3, .own 4), (4, iV .i64 (IntKind.i64.wrap (x1317 - (1 : Int))))], [(3, some (.box 35 (aHist a0))), (4, some (.row 4 47 ((x1316 ++ [(⟨(⟨(-1), a0.f1, b1323.f0⟩ : Tbound_Key), b1323.f1⟩ : Trank_Cell)]).map erank_Cell)))], 0⟩) (by kernel_rfl) (ih _ _ _ H)
    · replace H := (ifF c1318).symm.trans H
      refine AWp.exit ?_
      obtain rfl := Option.some.inj H
      exact Exists.intro _ (And.intro (fun _ _ h => h.conv (inv := [(3, 7), (4, 8)]) (vk := []) (e0 := []) (t := ⟨[(1, .ptr 7 0 0), (3, .own 8)], [(7, some (.box 35 (aHist a0))), (8, some (.row 4 47 (x1316.map erank_Cell)))], 0⟩) (by kernel_rfl)) (And.intro rfl rfl))
  · obtain ⟨x1327, rfl⟩ : ∃ z, z = o1353 := ⟨_, rfl⟩
    rintro e s ⟨rfl, rfl⟩
    refine AWp.seq ?_
    refine AWp.seq ?_
    refine reg hP hn hm [] [1, 3, 36] [7, 8] ⟨[(1, .ptr 7 0 0), (3, .own 8), (36, bV (decide (a0.f3 > (0 : Int))))], [(7, some (.box 35 (aHist a0))), (8, some (.row 4 47 (x1327.map erank_Cell)))], 0⟩ [] (by kernel_rfl) trivial ?_
    obtain ⟨o1355, e1356, H⟩ := bind_of H
    refine AWp.mono (Q := fun e s => (match (generalizing := false) o1355 with | x1331 => e = .normal ∧ s = ⟨[(1, .ptr 11 0 0), (3, .own 12)], [(11, some (.box 35 (aHist a0))), (12, some (.row 4 47 (x1331.map erank_Cell)))], 0⟩)) (AWp.cv ?_) ?_
    · replace H := e1356; clear e1356
      refine AWp.cond (decide (a0.f3 > (0 : Int))) rfl (fun c1328 => ?_) (fun c1328 => ?_)
      · replace H := (ifT c1328).symm.trans H
        obtain ⟨c1330, H⟩ := chk_of H
        refine reg hP hn hm [(5, .app 9 ([(⟨(⟨0, 0, 0⟩ : Tbound_Key), a0.f3⟩ : Trank_Cell)].map erank_Cell)), (6, .app 10 ((x1327 ++ [(⟨(⟨0, 0, 0⟩ : Tbound_Key), a0.f3⟩ : Trank_Cell)]).map erank_Cell))] [1, 3] [7, 10] ⟨[(1, .ptr 7 0 0), (3, .own 10)], [(7, some (.box 35 (aHist a0))), (10, some (.row 4 47 ((x1327 ++ [(⟨(⟨0, 0, 0⟩ : Tbound_Key), a0.f3⟩ : Trank_Cell)]).map erank_Cell)))], 0⟩ [[(⟨(⟨0, 0, 0⟩ : Tbound_Key), a0.f3⟩ : Trank_Cell)].map erank_Cell = [[iI .i64 0, iI .i64 0, iI .i64 0, iI .u64 a0.f3]], (x1327 ++ [(⟨(⟨0, 0, 0⟩ : Tbound_Key), a0.f3⟩ : Trank_Cell)]).map erank_Cell = (x1327.map erank_Cell) ++ ([(⟨(⟨0, 0, 0⟩ : Tbound_Key), a0.f3⟩ : Trank_Cell)].map erank_Cell), ∀ c ∈ ([(⟨(⟨0, 0, 0⟩ : Tbound_Key), a0.f3⟩ : Trank_Cell)].map erank_Cell), c.length = 4, ∀ c ∈ ([(⟨(⟨0, 0, 0⟩ : Tbound_Key), a0.f3⟩ : Trank_Cell)].map erank_Cell), leaves (c.map .im) = true, ((x1327.map erank_Cell).length + ([(⟨(⟨0, 0, 0⟩ : Tbound_Key), a0.f3⟩ : Trank_Cell)].map erank_Cell).length) * 32 ≤ 140737488355328] (by kernel_rfl) ⟨by exact rfl, by simp, by exact all_len _ _ _ (fun _ => rfl), by exact all_leaf _ _ (fun _ => rfl), by simpa using c1330, trivial⟩ ?_
        obtain rfl := Option.some.inj H
        exact Exists.intro _ (And.intro (fun _ _ h => h.conv (inv := [(7, 11), (10, 12)]) (vk := []) (e0 := []) (t := ⟨[(1, .ptr 11 0 0), (3, .own 12)], [(11, some (.box 35 (aHist a0))), (12, some (.row 4 47 ((x1327 ++ [(⟨(⟨0, 0, 0⟩ : Tbound_Key), a0.f3⟩ : Trank_Cell)]).map erank_Cell)))], 0⟩) (by kernel_rfl)) (And.intro rfl rfl))
      · replace H := (ifF c1328).symm.trans H
        refine AWp.skip ?_
        obtain rfl := Option.some.inj H
        exact Exists.intro _ (And.intro (fun _ _ h => h.conv (inv := [(7, 11), (8, 12)]) (vk := []) (e0 := []) (t := ⟨[(1, .ptr 11 0 0), (3, .own 12)], [(11, some (.box 35 (aHist a0))), (12, some (.row 4 47 (x1327.map erank_Cell)))], 0⟩) (by kernel_rfl)) (And.intro rfl rfl))
    · obtain ⟨x1331, rfl⟩ : ∃ z, z = o1355 := ⟨_, rfl⟩
      rintro e s ⟨rfl, rfl⟩
      refine AWp.seq ?_
      refine AWp.seq ?_
      refine reg hP hn hm [(2, .any (iV .i64 (a0.f6.length : Int)))] [1, 3, 45, 46, 47] [11, 12] ⟨[(1, .ptr 11 0 0), (3, .own 12), (45, .im (.row (a0.f6.map eBucket))), (46, iV .i64 (a0.f6.length : Int)), (47, iV .i64 0)], [(11, some (.box 35 (aHist a0))), (12, some (.row 4 47 (x1331.map erank_Cell)))], 0⟩ [((a0.f6.map eBucket).length : Int) = (a0.f6.length : Int)] (by kernel_rfl) ⟨by rw [len_map], trivial⟩ ?_
      refine AWp.block ?_
      obtain ⟨o1357, e1358, H⟩ := bind_of H
      refine AWp.loop (LWp.conv (inv := [(11, 16), (12, 17)]) (vk := []) (e0 := []) (t := ⟨[(1, .ptr 16 0 0), (3, .own 17), (45, .im (.row (a0.f6.map eBucket))), (46, iV .i64 (a0.f6.length : Int)), (47, iV .i64 0)], [(16, some (.box 35 (aHist a0))), (17, some (.row 4 47 (x1331.map erank_Cell)))], 0⟩) (by kernel_rfl) ?_)
      refine LWp.mono (Q := fun e s => (match (generalizing := false) o1357 with | x1352 => e = .exit 2 ∧ s = ⟨[(3, .own 21)], [(21, some (.row 4 47 (x1352.map erank_Cell)))], 0⟩)) (LWp.cv (withBody (fun body hbody => ?_))) ?_
      · refine f_rank_Order.l1.partial_correctness a0 (motive := fun x1341 x1342 o1357 => LWp Γ body (fun e s => ∃ t, Cv Γ s t ∧ (match (generalizing := false) o1357 with | x1352 => e = .exit 2 ∧ t = ⟨[(3, .own 21)], [(21, some (.row 4 47 (x1352.map erank_Cell)))], 0⟩)) ⟨[(1, .ptr 16 0 0), (3, .own 17), (45, .im (.row (a0.f6.map eBucket))), (46, iV .i64 (a0.f6.length : Int)), (47, iV .i64 x1342)], [(16, some (.box 35 (aHist a0))), (17, some (.row 4 47 (x1341.map erank_Cell)))], 0⟩) ?_ _ _ _ e1358
        clear H e1358 o1357; intro self ih x1341 x1342 o1357 H
        subst hbody
        refine LWp.round ?_
        refine AWp.seq ?_
        refine reg hP hn hm [] [1, 3, 45, 46, 47, 48] [16, 17] ⟨[(1, .ptr 16 0 0), (3, .own 17), (45, .im (.row (a0.f6.map eBucket))), (46, iV .i64 (a0.f6.length : Int)), (47, iV .i64 x1342), (48, bV (decide (x1342 < (a0.f6.length : Int))))], [(16, some (.box 35 (aHist a0))), (17, some (.row 4 47 (x1341.map erank_Cell)))], 0⟩ [] (by kernel_rfl) trivial ?_
        refine AWp.seq ?_
        refine AWp.cond (decide (x1342 < (a0.f6.length : Int))) rfl (fun c1343 => ?_) (fun c1343 => ?_)
        · replace H := (ifT c1343).symm.trans H
          refine AWp.skip ?_
          refine AWp.seq ?_
          refine AWp.block ?_
          refine AWp.seq ?_
          obtain ⟨b1347, p1348, q1349, H⟩ := at_of H
          refine reg hP hn hm [(0, .c (eBucket b1347)), (2, .k 18)] [1, 3, 6, 45, 46, 47] [16, 17, 18] ⟨[(1, .ptr 16 0 0), (3, .own 17), (6, .ptr 18 0 0), (45, .im (.row (a0.f6.map eBucket))), (46, iV .i64 (a0.f6.length : Int)), (47, iV .i64 x1342)], [(16, some (.box 35 (aHist a0))), (17, some (.row 4 47 (x1341.map erank_Cell))), (18, some (.box 127 (aBucket b1347)))], 0⟩ [0 ≤ x1342, (a0.f6.map eBucket)[(Int.toNat (x1342))]? = some (eBucket b1347)] (by kernel_rfl) ⟨by exact p1348, by exact el_map eBucket q1349, trivial⟩ ?_
          obtain ⟨c1351, H⟩ := chk_of H
          refine reg hP hn hm [(9, .app 19 ([(⟨(⟨1, a0.f1, b1347.f0⟩ : Tbound_Key), b1347.f1⟩ : Trank_Cell)].map erank_Cell)), (10, .app 20 ((x1341 ++ [(⟨(⟨1, a0.f1, b1347.f0⟩ : Tbound_Key), b1347.f1⟩ : Trank_Cell)]).map erank_Cell))] [1, 3, 45, 46, 47] [16, 20] ⟨[(1, .ptr 16 0 0), (3, .own 20), (45, .im (.row (a0.f6.map eBucket))), (46, iV .i64 (a0.f6.length : Int)), (47, iV .i64 x1342)], [(16, some (.box 35 (aHist a0))), (20, some (.row 4 47 ((x1341 ++ [(⟨(⟨1, a0.f1, b1347.f0⟩ : Tbound_Key), b1347.f1⟩ : Trank_Cell)]).map erank_Cell)))], 0⟩ [[(⟨(⟨1, a0.f1, b1347.f0⟩ : Tbound_Key), b1347.f1⟩ : Trank_Cell)].map erank_Cell = [[iI .i64 1, iI .i64 a0.f1, iI .i64 b1347.f0, iI .u64 b1347.f1]], (x1341 ++ [(⟨(⟨1, a0.f1, b1347.f0⟩ : Tbound_Key), b1347.f1⟩ : Trank_Cell)]).map erank_Cell = (x1341.map erank_Cell) ++ ([(⟨(⟨1, a0.f1, b1347.f0⟩ : Tbound_Key), b1347.f1⟩ : Trank_Cell)].map erank_Cell), ∀ c ∈ ([(⟨(⟨1, a0.f1, b1347.f0⟩ : Tbound_Key), b1347.f1⟩ : Trank_Cell)].map erank_Cell), c.length = 4, ∀ c ∈ ([(⟨(⟨1, a0.f1, b1347.f0⟩ : Tbound_Key), b1347.f1⟩ : Trank_Cell)].map erank_Cell), leaves (c.map .im) = true, ((x1341.map erank_Cell).length + ([(⟨(⟨1, a0.f1, b1347.f0⟩ : Tbound_Key), b1347.f1⟩ : Trank_Cell)].map erank_Cell).length) * 32 ≤ 140737488355328] (by kernel_rfl) ⟨by exact rfl, by simp, by exact all_len _ _ _ (fun _ => rfl), by exact all_leaf _ _ (fun _ => rfl), by simpa using c1351, trivial⟩ ?_
          refine reg hP hn hm [] [1, 3, 45, 46, 47] [16, 20] ⟨[(1, .ptr 16 0 0), (3, .own 20), (45, .im (.row (a0.f6.map eBucket))), (46, iV .i64 (a0.f6.length : Int)), (47, iV .i64 (IntKind.i64.wrap (x1342 + (1 : Int))))], [(16, some (.box 35 (aHist a0))), (20, some (.row 4 47 ((x1341 ++ [(⟨(⟨1, a0.f1, b1347.f0⟩ : Tbound_Key), b1347.f1⟩ : Trank_Cell)]).map erank_Cell)))], 0⟩ [] (by kernel_rfl) trivial ?_
          exact LWp.conv (inv := [(16, 16), (20, 17)]) (vk := []) (e0 := []) (t := ⟨[(1, .ptr 16 0 0), (3, .own 17), (45, .im (.row (a0.f6.map eBucket))), (46, iV .i64 (a0.f6.length : Int)), (47, iV .i64 (IntKind.i64.wrap (x1342 + (1 : Int))))], [(16, some (.box 35 (aHist a0))), (17, some (.row 4 47 ((x1341 ++ [(⟨(⟨1, a0.f1, b1347.f0⟩ : Tbound_Key), b1347.f1⟩ : Trank_Cell)]).map erank_Cell)))], 0⟩) (by kernel_rfl) (ih _ _ _ H)
        · replace H := (ifF c1343).symm.trans H
          refine AWp.exit ?_
          obtain rfl := Option.some.inj H
          exact Exists.intro _ (And.intro (fun _ _ h => h.conv (inv := [(17, 21)]) (vk := []) (e0 := []) (t := ⟨[(3, .own 21)], [(21, some (.row 4 47 (x1341.map erank_Cell)))], 0⟩) (by kernel_rfl)) (And.intro rfl rfl))
      · obtain ⟨x1352, rfl⟩ : ∃ z, z = o1357 := ⟨_, rfl⟩
        rintro e s ⟨rfl, rfl⟩
        refine AWp.seq ?_
        refine reg hP hn hm [] [2] [21] ⟨[(2, .own 21)], [(21, some (.row 4 47 (x1352.map erank_Cell)))], 0⟩ [] (by kernel_rfl) trivial ?_
        refine AWp.conv (inv := [(21, 0)]) (vk := []) (e0 := []) (t := ⟨[(2, .own 0)], [(0, some (.row 4 47 (x1352.map erank_Cell)))], 0⟩) (by kernel_rfl) ?_
        refine AWp.ret ?_
        obtain rfl := Option.some.inj H
        exact Exists.intro _ (And.intro (fun _ _ h => h) (And.intro (.inl rfl) (And.intro rfl (And.intro (by kernel_rfl) (by kernel_rfl)))))
def f_rank_At.l0 (t1361 : List Trank_Cell) (x1371 : Int) (x1372 : Int) : Option ((Tbound_Key × Int) ⊕ Unit) := if (decide (x1372 < (t1361.length : Int))) = true then ((at? t1361 x1372) >>= fun b1377 => if (decide (x1371 ≤ b1377.f1)) = true then (some (.inl (b1377.f0, 0))) else (f_rank_At.l0 t1361 (IntKind.u64.wrap (x1371 - b1377.f1)) (IntKind.i64.wrap (x1372 + (1 : Int))))) else (some (.inr ()))
partial_fixpoint
def f_rank_At.f (a0 : THist) (a1 : Int) : Option (Tbound_Key × Int) := if (a0.f4 == (0 : Int)) = true then (some ((⟨0, 0, 0⟩ : Tbound_Key), 30)) else (((if (decide (a1 < (1 : Int))) = true then (some true) else (some (decide (a1 > a0.f4)))) : Option (Bool)) >>= fun x1305 => if x1305 = true then (some ((⟨0, 0, 0⟩ : Tbound_Key), 4)) else ((f_rank_Order.f a0) >>= fun t1361 => (f_rank_At.l0 t1361 a1 0) >>= fun oo => match oo with | .inl rr => (some rr) | .inr _ => (some ((⟨0, 0, 0⟩ : Tbound_Key), 4))))
theorem f_rank_At.ok (a0 : THist) (a1 : Int) (r : Tbound_Key × Int) (H : f_rank_At.f a0 a1 = some r) : Pv.Fn Try.prog 22 [.agg (aHist a0), iV .u64 a1] [] 0 (fun x o => x = .tup [.agg (abound_Key (r.1)), iV .i64 r.2] ∧ o = []) := by
  unfold f_rank_At.f at H
  refine Fn.bodyK [] Try.func22 rfl rfl (fun Γ hP hn => ?_)
  have hm : Try.prog.follows .mixedOrders = true := by kernel_rfl
  replace hn : Γ.n = 42 := hn
  refine AWp.seq ?_
  refine reg hP hn hm [(0, .k 0), (1, .k 1)] [1, 2, 4] [0, 1] ⟨[(1, iV .u64 a1), (2, .ptr 0 0 0), (4, .ptr 1 0 0)], [(0, some (.box 35 (aHist a0))), (1, some (.box 45 (abound_Key ⟨0, 0, 0⟩)))], 0⟩ [] (by kernel_rfl) trivial ?_
  refine AWp.seq ?_
  refine AWp.block ?_
  refine AWp.seq ?_
  refine reg hP hn hm [] [1, 2, 4, 8] [0, 1] ⟨[(1, iV .u64 a1), (2, .ptr 0 0 0), (4, .ptr 1 0 0), (8, bV (a0.f4 == (0 : Int)))], [(0, some (.box 35 (aHist a0))), (1, some (.box 45 (abound_Key ⟨0, 0, 0⟩)))], 0⟩ [] (by kernel_rfl) trivial ?_
  refine AWp.cond (a0.f4 == (0 : Int)) rfl (fun c1302 => ?_) (fun c1302 => ?_)
  · replace H := (ifT c1302).symm.trans H
    refine AWp.seq ?_
    refine reg hP hn hm [] [4, 5] [1] ⟨[(4, .ptr 1 0 0), (5, iV .i64 30)], [(1, some (.box 45 (abound_Key ⟨0, 0, 0⟩)))], 0⟩ [] (by kernel_rfl) trivial ?_
    refine AWp.conv (inv := [(1, 0)]) (vk := []) (e0 := []) (t := ⟨[(4, .ptr 0 0 0), (5, iV .i64 30)], [(0, some (.box 45 (abound_Key ((⟨0, 0, 0⟩ : Tbound_Key)))))], 0⟩) (by kernel_rfl) ?_
    refine AWp.ret ?_
    obtain rfl := Option.some.inj H
    exact Exists.intro _ (And.intro (fun _ _ h => h) (And.intro (.inl rfl) (And.intro rfl (And.intro (by kernel_rfl) (by kernel_rfl)))))
  · replace H := (ifF c1302).symm.trans H
    refine AWp.seq ?_
    obtain ⟨o1381, e1382, H⟩ := bind_of H
    refine AWp.mono (Q := fun e s => (match (generalizing := false) o1381 with | x1305 => e = .normal ∧ s = ⟨[(1, iV .u64 a1), (2, .ptr 2 0 0), (4, .ptr 3 0 0), (13, bV x1305)], [(2, some (.box 35 (aHist a0))), (3, some (.box 45 (abound_Key ⟨0, 0, 0⟩)))], 0⟩)) (AWp.cv ?_) ?_
    · replace H := e1382; clear e1382
      rcases Bool.eq_false_or_eq_true (decide (a1 < (1 : Int))) with c1304 | c1304
      · replace H := (ifT c1304).symm.trans H
        refine reg hP hn hm [(2, .b true)] [1, 2, 4, 13] [0, 1] ⟨[(1, iV .u64 a1), (2, .ptr 0 0 0), (4, .ptr 1 0 0), (13, bV true)], [(0, some (.box 35 (aHist a0))), (1, some (.box 45 (abound_Key ⟨0, 0, 0⟩)))], 0⟩ [(decide (a1 < (1 : Int))) = true] (by kernel_rfl) ⟨by exact c1304, trivial⟩ ?_
        obtain rfl := Option.some.inj H
        exact Exists.intro _ (And.intro (fun _ _ h => h.conv (inv := [(0, 2), (1, 3)]) (vk := []) (e0 := []) (t := ⟨[(1, iV .u64 a1), (2, .ptr 2 0 0), (4, .ptr 3 0 0), (13, bV true)], [(2, some (.box 35 (aHist a0))), (3, some (.box 45 (abound_Key ⟨0, 0, 0⟩)))], 0⟩) (by kernel_rfl)) (And.intro rfl rfl))
      · replace H := (ifF c1304).symm.trans H
        refine reg hP hn hm [(2, .b false)] [1, 2, 4, 13] [0, 1] ⟨[(1, iV .u64 a1), (2, .ptr 0 0 0), (4, .ptr 1 0 0), (13, bV (decide (a1 > a0.f4)))], [(0, some (.box 35 (aHist a0))), (1, some (.box 45 (abound_Key ⟨0, 0, 0⟩)))], 0⟩ [(decide (a1 < (1 : Int))) = false] (by kernel_rfl) ⟨by exact c1304, trivial⟩ ?_
        obtain rfl := Option.some.inj H
        exact Exists.intro _ (And.intro (fun _ _ h => h.conv (inv := [(0, 2), (1, 3)]) (vk := []) (e0 := []) (t := ⟨[(1, iV .u64 a1), (2, .ptr 2 0 0), (4, .ptr 3 0 0), (13, bV (decide (a1 > a0.f4)))], [(2, some (.box 35 (aHist a0))), (3, some (.box 45 (abound_Key ⟨0, 0, 0⟩)))], 0⟩) (by kernel_rfl)) (And.intro rfl rfl))
    · obtain ⟨x1305, rfl⟩ : ∃ z, z = o1381 := ⟨_, rfl⟩
      rintro e s ⟨rfl, rfl⟩
      refine AWp.cond x1305 rfl (fun c1306 => ?_) (fun c1306 => ?_)
      · replace H := (ifT c1306).symm.trans H
        refine AWp.seq ?_
        refine reg hP hn hm [] [4, 5] [3] ⟨[(4, .ptr 3 0 0), (5, iV .i64 4)], [(3, some (.box 45 (abound_Key ⟨0, 0, 0⟩)))], 0⟩ [] (by kernel_rfl) trivial ?_
        refine AWp.conv (inv := [(3, 0)]) (vk := []) (e0 := []) (t := ⟨[(4, .ptr 0 0 0), (5, iV .i64 4)], [(0, some (.box 45 (abound_Key ((⟨0, 0, 0⟩ : Tbound_Key)))))], 0⟩) (by kernel_rfl) ?_
        refine AWp.ret ?_
        obtain rfl := Option.some.inj H
        exact Exists.intro _ (And.intro (fun _ _ h => h) (And.intro (.inl rfl) (And.intro rfl (And.intro (by kernel_rfl) (by kernel_rfl)))))
      · replace H := (ifF c1306).symm.trans H
        refine AWp.skip ?_
        refine AWp.seq ?_
        refine AWp.seq ?_
        obtain ⟨t1361, e1362, H⟩ := bind_of H
        refine reg hP hn hm [(1, .call [] [(0, 4)] [] [4] 0 (.own 0) [(0, some (.row 4 47 (t1361.map erank_Cell)))]), (2, .any (iV .i64 (t1361.length : Int)))] [1, 4, 24, 25, 26] [3, 4] ⟨[(1, iV .u64 a1), (4, .ptr 3 0 0), (24, .own 4), (25, iV .i64 (t1361.length : Int)), (26, iV .i64 0)], [(3, some (.box 45 (abound_Key ⟨0, 0, 0⟩))), (4, some (.row 4 47 (t1361.map erank_Cell)))], 0⟩ [Enters Try.prog 21, Pv.Fn Try.prog 21 [.agg (aHist a0)] [] 0 (fun r o => r = .own 0 ∧ o = [(0, some (.row 4 47 (t1361.map erank_Cell)))]), ((t1361.map erank_Cell).length : Int) = (t1361.length : Int)] (by kernel_rfl) ⟨by exact Try.call21, by exact f_rank_Order.ok a0 t1361 e1362, by rw [len_map], trivial⟩ ?_
        refine AWp.block ?_
        obtain ⟨o1383, e1384, H⟩ := bind_of H
        refine AWp.loop (LWp.conv (inv := [(3, 6), (4, 7)]) (vk := []) (e0 := []) (t := ⟨[(1, iV .u64 a1), (4, .ptr 6 0 0), (24, .own 7), (25, iV .i64 (t1361.length : Int)), (26, iV .i64 0)], [(6, some (.box 45 (abound_Key ⟨0, 0, 0⟩))), (7, some (.row 4 47 (t1361.map erank_Cell)))], 0⟩) (by kernel_rfl) ?_)
        refine LWp.mono (Q := fun e s => (match (generalizing := false) o1383 with | .inl rr => e = .ret ∧ s.floor = 0 ∧ resOf Try.prog Try.f22 s = some (.tup [.agg (abound_Key (rr.1)), iV .i64 rr.2]) ∧ ([] : List (Nat × Option MObj)) = [] | .inr _ => e = .exit 1 ∧ s = ⟨[(4, .ptr 9 0 0)], [(9, some (.box 45 (abound_Key ⟨0, 0, 0⟩)))], 0⟩)) (LWp.cv (withBody (fun body hbody => ?_))) ?_
        · refine f_rank_At.l0.partial_correctness t1361 (motive := fun x1371 x1372 o1383 => LWp Γ body (fun e s => ∃ t, Cv Γ s t ∧ (match (generalizing := false) o1383 with | .inl rr => e = .ret ∧ t.floor = 0 ∧ resOf Try.prog Try.f22 t = some (.tup [.agg (abound_Key (rr.1)), iV .i64 rr.2]) ∧ ([] : List (Nat × Option MObj)) = [] | .inr _ => e = .exit 1 ∧ t = ⟨[(4, .ptr 9 0 0)], [(9, some (.box 45 (abound_Key ⟨0, 0, 0⟩)))], 0⟩)) ⟨[(1, iV .u64 x1371), (4, .ptr 6 0 0), (24, .own 7), (25, iV .i64 (t1361.length : Int)), (26, iV .i64 x1372)], [(6, some (.box 45 (abound_Key ⟨0, 0, 0⟩))), (7, some (.row 4 47 (t1361.map erank_Cell)))], 0⟩) ?_ _ _ _ e1384
          clear H e1384 o1383; intro self ih x1371 x1372 o1383 H
          subst hbody
          refine LWp.round ?_
          refine AWp.seq ?_
          refine reg hP hn hm [] [1, 4, 24, 25, 26, 27] [6, 7] ⟨[(1, iV .u64 x1371), (4, .ptr 6 0 0), (24, .own 7), (25, iV .i64 (t1361.length : Int)), (26, iV .i64 x1372), (27, bV (decide (x1372 < (t1361.length : Int))))], [(6, some (.box 45 (abound_Key ⟨0, 0, 0⟩))), (7, some (.row 4 47 (t1361.map erank_Cell)))], 0⟩ [] (by kernel_rfl) trivial ?_
          refine AWp.seq ?_
          refine AWp.cond (decide (x1372 < (t1361.length : Int))) rfl (fun c1373 => ?_) (fun c1373 => ?_)
          · replace H := (ifT c1373).symm.trans H
            refine AWp.skip ?_
            refine AWp.seq ?_
            refine AWp.block ?_
            refine AWp.seq ?_
            obtain ⟨b1377, p1378, q1379, H⟩ := at_of H
            refine reg hP hn hm [(1, .c (erank_Cell b1377)), (2, .k 8)] [1, 4, 7, 24, 25, 26] [6, 7, 8] ⟨[(1, iV .u64 x1371), (4, .ptr 6 0 0), (7, .ptr 8 0 0), (24, .own 7), (25, iV .i64 (t1361.length : Int)), (26, iV .i64 x1372)], [(6, some (.box 45 (abound_Key ⟨0, 0, 0⟩))), (7, some (.row 4 47 (t1361.map erank_Cell))), (8, some (.box 47 [iV .i64 b1377.f0.f0, iV .i64 b1377.f0.f1, iV .i64 b1377.f0.f2, iV .u64 b1377.f1]))], 0⟩ [0 ≤ x1372, x1372 < (((t1361.map erank_Cell).length : Nat) : Int), (t1361.map erank_Cell)[(Int.toNat (x1372))]? = some (erank_Cell b1377)] (by kernel_rfl) ⟨by exact p1378, by exact el_lt erank_Cell p1378 q1379, by exact el_map erank_Cell q1379, trivial⟩ ?_
            refine AWp.seq ?_
            refine AWp.seq ?_
            refine reg hP hn hm [] [1, 4, 7, 24, 25, 26, 33] [6, 7, 8] ⟨[(1, iV .u64 x1371), (4, .ptr 6 0 0), (7, .ptr 8 0 0), (24, .own 7), (25, iV .i64 (t1361.length : Int)), (26, iV .i64 x1372), (33, bV (decide (x1371 ≤ b1377.f1)))], [(6, some (.box 45 (abound_Key ⟨0, 0, 0⟩))), (7, some (.row 4 47 (t1361.map erank_Cell))), (8, some (.box 47 [iV .i64 b1377.f0.f0, iV .i64 b1377.f0.f1, iV .i64 b1377.f0.f2, iV .u64 b1377.f1]))], 0⟩ [] (by kernel_rfl) trivial ?_
            refine AWp.cond (decide (x1371 ≤ b1377.f1)) rfl (fun c1380 => ?_) (fun c1380 => ?_)
            · replace H := (ifT c1380).symm.trans H
              refine AWp.seq ?_
              refine reg hP hn hm [] [4, 5] [6] ⟨[(4, .ptr 6 0 0), (5, iV .i64 0)], [(6, some (.box 45 (abound_Key b1377.f0)))], 0⟩ [] (by kernel_rfl) trivial ?_
              refine AWp.conv (inv := [(6, 0)]) (vk := []) (e0 := []) (t := ⟨[(4, .ptr 0 0 0), (5, iV .i64 0)], [(0, some (.box 45 (abound_Key (b1377.f0))))], 0⟩) (by kernel_rfl) ?_
              refine AWp.ret ?_
              obtain rfl := Option.some.inj H
              exact Exists.intro _ (And.intro (fun _ _ h => h) (And.intro rfl (And.intro rfl (And.intro (by kernel_rfl) (by kernel_rfl)))))
            · replace H := (ifF c1380).symm.trans H
              refine AWp.skip ?_
              refine reg hP hn hm [] [1, 4, 24, 25, 26] [6, 7] ⟨[(1, iV .u64 (IntKind.u64.wrap (x1371 - b1377.f1))), (4, .ptr 6 0 0), (24, .own 7), (25, iV .i64 (t1361.length : Int)), (26, iV .i64 x1372)], [(6, some (.box 45 (abound_Key ⟨0, 0, 0⟩))), (7, some (.row 4 47 (t1361.map erank_Cell)))], 0⟩ [] (by kernel_rfl) trivial ?_
              refine reg hP hn hm [] [1, 4, 24, 25, 26] [6, 7] ⟨[(1, iV .u64 (IntKind.u64.wrap (x1371 - b1377.f1))), (4, .ptr 6 0 0), (24, .own 7), (25, iV .i64 (t1361.length : Int)), (26, iV .i64 (IntKind.i64.wrap (x1372 + (1 : Int))))], [(6, some (.box 45 (abound_Key ⟨0, 0, 0⟩))), (7, some (.row 4 47 (t1361.map erank_Cell)))], 0⟩ [] (by kernel_rfl) trivial ?_
              exact LWp.conv (inv := [(6, 6), (7, 7)]) (vk := []) (e0 := []) (t := ⟨[(1, iV .u64 (IntKind.u64.wrap (x1371 - b1377.f1))), (4, .ptr 6 0 0), (24, .own 7), (25, iV .i64 (t1361.length : Int)), (26, iV .i64 (IntKind.i64.wrap (x1372 + (1 : Int))))], [(6, some (.box 45 (abound_Key ⟨0, 0, 0⟩))), (7, some (.row 4 47 (t1361.map erank_Cell)))], 0⟩) (by kernel_rfl) (ih _ _ _ H)
          · replace H := (ifF c1373).symm.trans H
            refine AWp.exit ?_
            obtain rfl := Option.some.inj H
            exact Exists.intro _ (And.intro (fun _ _ h => h.conv (inv := [(6, 9)]) (vk := []) (e0 := []) (t := ⟨[(4, .ptr 9 0 0)], [(9, some (.box 45 (abound_Key ⟨0, 0, 0⟩)))], 0⟩) (by kernel_rfl)) (And.intro rfl rfl))
        · rcases o1383 with rr | _
          · skip
            rintro e s ⟨rfl, hfl, hres⟩
            obtain rfl := Option.some.inj H
            exact Exists.intro _ (And.intro (fun _ _ h => h) (And.intro (.inl rfl) (And.intro hfl hres)))
          · skip
            rintro e s ⟨rfl, rfl⟩
            refine AWp.seq ?_
            refine reg hP hn hm [] [4, 5] [9] ⟨[(4, .ptr 9 0 0), (5, iV .i64 4)], [(9, some (.box 45 (abound_Key ⟨0, 0, 0⟩)))], 0⟩ [] (by kernel_rfl) trivial ?_
            refine AWp.conv (inv := [(9, 0)]) (vk := []) (e0 := []) (t := ⟨[(4, .ptr 0 0 0), (5, iV .i64 4)], [(0, some (.box 45 (abound_Key ((⟨0, 0, 0⟩ : Tbound_Key)))))], 0⟩) (by kernel_rfl) ?_
            refine AWp.ret ?_
            obtain rfl := Option.some.inj H
            exact Exists.intro _ (And.intro (fun _ _ h => h) (And.intro (.inl rfl) (And.intro rfl (And.intro (by kernel_rfl) (by kernel_rfl)))))
def f_rank_Quantile.f (a0 : THist) (a1 : Int) (a2 : Int) : Option (Tbound_Key × Int) := ((if (a2 == (0 : Int)) = true then (some true) else (some (decide (a1 > a2)))) : Option (Bool)) >>= fun x1197 => if x1197 = true then (some ((⟨0, 0, 0⟩ : Tbound_Key), 1)) else (if (a0.f4 == (0 : Int)) = true then (some ((⟨0, 0, 0⟩ : Tbound_Key), 30)) else ((f_num_Mul.f a1 a0.f4) >>= fun t1297 => (f_num_Wide_Ceil.f (t1297) a2) >>= fun t1299 => if (t1299.2 != (0 : Int)) = true then (some ((⟨0, 0, 0⟩ : Tbound_Key), t1299.2)) else ((f_rank_At.f a0 (if (1 : Int) > t1299.1 then (1 : Int) else t1299.1)) >>= fun t1387 => some ((t1387.1), t1387.2))))
theorem f_rank_Quantile.ok (a0 : THist) (a1 : Int) (a2 : Int) (r : Tbound_Key × Int) (H : f_rank_Quantile.f a0 a1 a2 = some r) : Pv.Fn Try.prog 27 [.agg (aHist a0), iV .u64 a1, iV .u64 a2] [] 0 (fun x o => x = .tup [.agg (abound_Key (r.1)), iV .i64 r.2] ∧ o = []) := by
  unfold f_rank_Quantile.f at H
  refine Fn.bodyK [] Try.func27 rfl rfl (fun Γ hP hn => ?_)
  have hm : Try.prog.follows .mixedOrders = true := by kernel_rfl
  replace hn : Γ.n = 43 := hn
  refine AWp.seq ?_
  refine reg hP hn hm [(0, .k 0), (1, .k 1)] [1, 2, 3, 6] [0, 1] ⟨[(1, iV .u64 a1), (2, iV .u64 a2), (3, .ptr 0 0 0), (6, .ptr 1 0 0)], [(0, some (.box 35 (aHist a0))), (1, some (.box 45 (abound_Key ⟨0, 0, 0⟩)))], 0⟩ [] (by kernel_rfl) trivial ?_
  refine AWp.seq ?_
  refine AWp.block ?_
  refine AWp.seq ?_
  obtain ⟨o1389, e1390, H⟩ := bind_of H
  refine AWp.mono (Q := fun e s => (match (generalizing := false) o1389 with | x1197 => e = .normal ∧ s = ⟨[(1, iV .u64 a1), (2, iV .u64 a2), (3, .ptr 2 0 0), (6, .ptr 3 0 0), (10, bV x1197)], [(2, some (.box 35 (aHist a0))), (3, some (.box 45 (abound_Key ⟨0, 0, 0⟩)))], 0⟩)) (AWp.cv ?_) ?_
  · replace H := e1390; clear e1390
    rcases Bool.eq_false_or_eq_true (a2 == (0 : Int)) with c1196 | c1196
    · replace H := (ifT c1196).symm.trans H
      refine reg hP hn hm [(2, .b true)] [1, 2, 3, 6, 10] [0, 1] ⟨[(1, iV .u64 a1), (2, iV .u64 a2), (3, .ptr 0 0 0), (6, .ptr 1 0 0), (10, bV true)], [(0, some (.box 35 (aHist a0))), (1, some (.box 45 (abound_Key ⟨0, 0, 0⟩)))], 0⟩ [(a2 == (0 : Int)) = true] (by kernel_rfl) ⟨by exact c1196, trivial⟩ ?_
      obtain rfl := Option.some.inj H
      exact Exists.intro _ (And.intro (fun _ _ h => h.conv (inv := [(0, 2), (1, 3)]) (vk := []) (e0 := []) (t := ⟨[(1, iV .u64 a1), (2, iV .u64 a2), (3, .ptr 2 0 0), (6, .ptr 3 0 0), (10, bV true)], [(2, some (.box 35 (aHist a0))), (3, some (.box 45 (abound_Key ⟨0, 0, 0⟩)))], 0⟩) (by kernel_rfl)) (And.intro rfl rfl))
    · replace H := (ifF c1196).symm.trans H
      refine reg hP hn hm [(2, .b false)] [1, 2, 3, 6, 10] [0, 1] ⟨[(1, iV .u64 a1), (2, iV .u64 a2), (3, .ptr 0 0 0), (6, .ptr 1 0 0), (10, bV (decide (a1 > a2)))], [(0, some (.box 35 (aHist a0))), (1, some (.box 45 (abound_Key ⟨0, 0, 0⟩)))], 0⟩ [(a2 == (0 : Int)) = false] (by kernel_rfl) ⟨by exact c1196, trivial⟩ ?_
      obtain rfl := Option.some.inj H
      exact Exists.intro _ (And.intro (fun _ _ h => h.conv (inv := [(0, 2), (1, 3)]) (vk := []) (e0 := []) (t := ⟨[(1, iV .u64 a1), (2, iV .u64 a2), (3, .ptr 2 0 0), (6, .ptr 3 0 0), (10, bV (decide (a1 > a2)))], [(2, some (.box 35 (aHist a0))), (3, some (.box 45 (abound_Key ⟨0, 0, 0⟩)))], 0⟩) (by kernel_rfl)) (And.intro rfl rfl))
  · obtain ⟨x1197, rfl⟩ : ∃ z, z = o1389 := ⟨_, rfl⟩
    rintro e s ⟨rfl, rfl⟩
    refine AWp.cond x1197 rfl (fun c1198 => ?_) (fun c1198 => ?_)
    · replace H := (ifT c1198).symm.trans H
      refine AWp.seq ?_
      refine reg hP hn hm [] [6, 7] [3] ⟨[(6, .ptr 3 0 0), (7, iV .i64 1)], [(3, some (.box 45 (abound_Key ⟨0, 0, 0⟩)))], 0⟩ [] (by kernel_rfl) trivial ?_
      refine AWp.conv (inv := [(3, 0)]) (vk := []) (e0 := []) (t := ⟨[(6, .ptr 0 0 0), (7, iV .i64 1)], [(0, some (.box 45 (abound_Key ((⟨0, 0, 0⟩ : Tbound_Key)))))], 0⟩) (by kernel_rfl) ?_
      refine AWp.ret ?_
      obtain rfl := Option.some.inj H
      exact Exists.intro _ (And.intro (fun _ _ h => h) (And.intro (.inl rfl) (And.intro rfl (And.intro (by kernel_rfl) (by kernel_rfl)))))
    · replace H := (ifF c1198).symm.trans H
      refine AWp.seq ?_
      refine reg hP hn hm [] [1, 2, 3, 6, 19] [2, 3] ⟨[(1, iV .u64 a1), (2, iV .u64 a2), (3, .ptr 2 0 0), (6, .ptr 3 0 0), (19, bV (a0.f4 == (0 : Int)))], [(2, some (.box 35 (aHist a0))), (3, some (.box 45 (abound_Key ⟨0, 0, 0⟩)))], 0⟩ [] (by kernel_rfl) trivial ?_
      refine AWp.cond (a0.f4 == (0 : Int)) rfl (fun c1199 => ?_) (fun c1199 => ?_)
      · replace H := (ifT c1199).symm.trans H
        refine AWp.seq ?_
        refine reg hP hn hm [] [6, 7] [3] ⟨[(6, .ptr 3 0 0), (7, iV .i64 30)], [(3, some (.box 45 (abound_Key ⟨0, 0, 0⟩)))], 0⟩ [] (by kernel_rfl) trivial ?_
        refine AWp.conv (inv := [(3, 0)]) (vk := []) (e0 := []) (t := ⟨[(6, .ptr 0 0 0), (7, iV .i64 30)], [(0, some (.box 45 (abound_Key ((⟨0, 0, 0⟩ : Tbound_Key)))))], 0⟩) (by kernel_rfl) ?_
        refine AWp.ret ?_
        obtain rfl := Option.some.inj H
        exact Exists.intro _ (And.intro (fun _ _ h => h) (And.intro (.inl rfl) (And.intro rfl (And.intro (by kernel_rfl) (by kernel_rfl)))))
      · replace H := (ifF c1199).symm.trans H
        refine AWp.skip ?_
        refine AWp.seq ?_
        obtain ⟨t1297, e1298, H⟩ := bind_of H
        obtain ⟨t1299, e1300, H⟩ := bind_of H
        refine reg hP hn hm [(3, .call [] [] [] [] 0 (.agg (anum_Wide (t1297))) []), (5, .call [] [] [] [] 0 (.tup [iV .u64 t1299.1, iV .i64 t1299.2]) [])] [3, 6, 8, 9] [2, 3] ⟨[(3, .ptr 2 0 0), (6, .ptr 3 0 0), (8, iV .u64 t1299.1), (9, iV .i64 t1299.2)], [(2, some (.box 35 (aHist a0))), (3, some (.box 45 (abound_Key ⟨0, 0, 0⟩)))], 0⟩ [Enters Try.prog 70, Pv.Fn Try.prog 70 [iV .u64 a1, iV .u64 a0.f4] [] 0 (fun r o => r = .agg (anum_Wide (t1297)) ∧ o = []), Enters Try.prog 71, Pv.Fn Try.prog 71 [.agg (anum_Wide (t1297)), iV .u64 a2] [] 0 (fun r o => r = .tup [iV .u64 t1299.1, iV .i64 t1299.2] ∧ o = [])] (by kernel_rfl) ⟨by exact Try.call70, by exact f_num_Mul.ok a1 a0.f4 t1297 e1298, by exact Try.call71, by exact f_num_Wide_Ceil.ok (t1297) a2 t1299 e1300, trivial⟩ ?_
        refine AWp.seq ?_
        refine AWp.seq ?_
        refine reg hP hn hm [] [3, 6, 8, 9, 34] [2, 3] ⟨[(3, .ptr 2 0 0), (6, .ptr 3 0 0), (8, iV .u64 t1299.1), (9, iV .i64 t1299.2), (34, bV (t1299.2 != (0 : Int)))], [(2, some (.box 35 (aHist a0))), (3, some (.box 45 (abound_Key ⟨0, 0, 0⟩)))], 0⟩ [] (by kernel_rfl) trivial ?_
        refine AWp.cond (t1299.2 != (0 : Int)) rfl (fun c1301 => ?_) (fun c1301 => ?_)
        · replace H := (ifT c1301).symm.trans H
          refine AWp.seq ?_
          refine reg hP hn hm [] [6, 7] [3] ⟨[(6, .ptr 3 0 0), (7, iV .i64 t1299.2)], [(3, some (.box 45 (abound_Key ⟨0, 0, 0⟩)))], 0⟩ [] (by kernel_rfl) trivial ?_
          refine AWp.conv (inv := [(3, 0)]) (vk := []) (e0 := []) (t := ⟨[(6, .ptr 0 0 0), (7, iV .i64 t1299.2)], [(0, some (.box 45 (abound_Key ((⟨0, 0, 0⟩ : Tbound_Key)))))], 0⟩) (by kernel_rfl) ?_
          refine AWp.ret ?_
          obtain rfl := Option.some.inj H
          exact Exists.intro _ (And.intro (fun _ _ h => h) (And.intro (.inl rfl) (And.intro rfl (And.intro (by kernel_rfl) (by kernel_rfl)))))
        · replace H := (ifF c1301).symm.trans H
          refine AWp.skip ?_
          refine AWp.seq ?_
          obtain ⟨t1387, e1388, H⟩ := bind_of H
          refine reg hP hn hm [(2, .more xMax), (3, .call [] [] [] [] 0 (.tup [.agg (abound_Key (t1387.1)), iV .i64 t1387.2]) [])] [6, 7] [3] ⟨[(6, .ptr 3 0 0), (7, iV .i64 t1387.2)], [(3, some (.box 45 (abound_Key (t1387.1))))], 0⟩ [Enters Try.prog 22, Pv.Fn Try.prog 22 [.agg (aHist a0), iV .u64 (if (1 : Int) > t1299.1 then (1 : Int) else t1299.1)] [] 0 (fun r o => r = .tup [.agg (abound_Key (t1387.1)), iV .i64 t1387.2] ∧ o = [])] (by kernel_rfl) ⟨by exact Try.call22, by exact f_rank_At.ok a0 (if (1 : Int) > t1299.1 then (1 : Int) else t1299.1) t1387 e1388, trivial⟩ ?_
          refine AWp.conv (inv := [(3, 0)]) (vk := []) (e0 := []) (t := ⟨[(6, .ptr 0 0 0), (7, iV .i64 t1387.2)], [(0, some (.box 45 (abound_Key ((t1387.1)))))], 0⟩) (by kernel_rfl) ?_
          refine AWp.ret ?_
          obtain rfl := Option.some.inj H
          exact Exists.intro _ (And.intro (fun _ _ h => h) (And.intro (.inl rfl) (And.intro rfl (And.intro (by kernel_rfl) (by kernel_rfl)))))
def f_pluviallaw08_awake.f  : Option (Bool) := (f_hist_Empty.f 0 0) >>= fun t1191 => (f_hist_Make.f (t1191) [(⟨1, 2⟩ : TBucket), (⟨3, 2⟩ : TBucket)] ([] : List TBucket)) >>= fun t1193 => (f_rank_Quantile.f (t1193.1) 1 2) >>= fun t1393 => (f_rank_Quantile.f (t1193.1) 501 1000) >>= fun t1397 => ((if (t1193.2 == (0 : Int)) = true then (if (t1393.2 == (0 : Int)) = true then (if (t1397.2 == (0 : Int)) = true then (if ((((t1393.1).f0) == (1 : Int)) && ((((t1393.1).f1) == (0 : Int)) && ((((t1393.1).f2) == (1 : Int)) && true))) = true then (some ((((t1397.1).f0) == (1 : Int)) && ((((t1397.1).f1) == (0 : Int)) && ((((t1397.1).f2) == (3 : Int)) && true)))) else (some false)) else (some false)) else (some false)) else (some false)) : Option (Bool)) >>= fun x1407 => some x1407
theorem f_pluviallaw08_awake.ok  (r : Bool) (H : f_pluviallaw08_awake.f  = some r) : Pv.Fn Try.prog 20 [] [] 0 (fun x o => x = bV r ∧ o = []) := by
  unfold f_pluviallaw08_awake.f at H
  refine Fn.bodyK [] Try.func20 rfl rfl (fun Γ hP hn => ?_)
  have hm : Try.prog.follows .mixedOrders = true := by kernel_rfl
  replace hn : Γ.n = 45 := hn
  refine AWp.seq ?_
  refine reg hP hn hm [] [] [] ⟨[], [], 0⟩ [] (by kernel_rfl) trivial ?_
  refine AWp.seq ?_
  obtain ⟨t1191, e1192, H⟩ := bind_of H
  obtain ⟨t1193, e1194, H⟩ := bind_of H
  refine reg hP hn hm [(0, .call [] [] [] [] 0 (.agg (aHist (t1191))) []), (3, .app 0 ([(⟨1, 2⟩ : TBucket), (⟨3, 2⟩ : TBucket)].map eBucket)), (4, .call [] [] [0] [] 0 (.tup [.agg (aHist (t1193.1)), iV .i64 t1193.2]) []), (8, .k 1)] [1, 2] [1] ⟨[(1, .ptr 1 0 0), (2, iV .i64 t1193.2)], [(1, some (.box 35 (aHist (t1193.1))))], 0⟩ [Enters Try.prog 69, Pv.Fn Try.prog 69 [iV .i64 0, iV .i64 0] [] 0 (fun r o => r = .agg (aHist (t1191)) ∧ o = []), [(⟨1, 2⟩ : TBucket), (⟨3, 2⟩ : TBucket)].map eBucket = [[iI .i64 1, iI .u64 2], [iI .i64 3, iI .u64 2]], Enters Try.prog 68, Pv.Fn Try.prog 68 [.agg (aHist (t1191)), .im (.row ([(⟨1, 2⟩ : TBucket), (⟨3, 2⟩ : TBucket)].map eBucket)), .im (.row (([] : List TBucket).map eBucket))] [] 0 (fun r o => r = .tup [.agg (aHist (t1193.1)), iV .i64 t1193.2] ∧ o = [])] (by kernel_rfl) ⟨by exact Try.call69, by exact f_hist_Empty.ok 0 0 t1191 e1192, by exact rfl, by exact Try.call68, by exact f_hist_Make.ok (t1191) [(⟨1, 2⟩ : TBucket), (⟨3, 2⟩ : TBucket)] ([] : List TBucket) t1193 e1194, trivial⟩ ?_
  refine AWp.seq ?_
  obtain ⟨t1393, e1394, H⟩ := bind_of H
  refine reg hP hn hm [(1, .call [] [] [] [] 0 (.tup [.agg (abound_Key (t1393.1)), iV .i64 t1393.2]) []), (5, .k 2)] [1, 2, 3, 4] [1, 2] ⟨[(1, .ptr 1 0 0), (2, iV .i64 t1193.2), (3, .ptr 2 0 0), (4, iV .i64 t1393.2)], [(1, some (.box 35 (aHist (t1193.1)))), (2, some (.box 45 (abound_Key (t1393.1))))], 0⟩ [Enters Try.prog 27, Pv.Fn Try.prog 27 [.agg (aHist (t1193.1)), iV .u64 1, iV .u64 2] [] 0 (fun r o => r = .tup [.agg (abound_Key (t1393.1)), iV .i64 t1393.2] ∧ o = [])] (by kernel_rfl) ⟨by exact Try.call27, by exact f_rank_Quantile.ok (t1193.1) 1 2 t1393 e1394, trivial⟩ ?_
  refine AWp.seq ?_
  obtain ⟨t1397, e1398, H⟩ := bind_of H
  refine reg hP hn hm [(1, .call [] [] [] [] 0 (.tup [.agg (abound_Key (t1397.1)), iV .i64 t1397.2]) []), (5, .k 3)] [2, 3, 4, 5, 6] [2, 3] ⟨[(2, iV .i64 t1193.2), (3, .ptr 2 0 0), (4, iV .i64 t1393.2), (5, .ptr 3 0 0), (6, iV .i64 t1397.2)], [(2, some (.box 45 (abound_Key (t1393.1)))), (3, some (.box 45 (abound_Key (t1397.1))))], 0⟩ [Enters Try.prog 27, Pv.Fn Try.prog 27 [.agg (aHist (t1193.1)), iV .u64 501, iV .u64 1000] [] 0 (fun r o => r = .tup [.agg (abound_Key (t1397.1)), iV .i64 t1397.2] ∧ o = [])] (by kernel_rfl) ⟨by exact Try.call27, by exact f_rank_Quantile.ok (t1193.1) 501 1000 t1397 e1398, trivial⟩ ?_
  refine AWp.seq ?_
  obtain ⟨o1408, e1409, H⟩ := bind_of H
  refine AWp.mono (Q := fun e s => (match (generalizing := false) o1408 with | x1407 => e = .normal ∧ s = ⟨[(0, bV x1407)], [], 0⟩)) (AWp.cv ?_) ?_
  · replace H := e1409; clear e1409
    rcases Bool.eq_false_or_eq_true (t1193.2 == (0 : Int)) with c1403 | c1403
    · replace H := (ifT c1403).symm.trans H
      rcases Bool.eq_false_or_eq_true (t1393.2 == (0 : Int)) with c1404 | c1404
      · replace H := (ifT c1404).symm.trans H
        rcases Bool.eq_false_or_eq_true (t1397.2 == (0 : Int)) with c1405 | c1405
        · replace H := (ifT c1405).symm.trans H
          rcases Bool.eq_false_or_eq_true ((((t1393.1).f0) == (1 : Int)) && ((((t1393.1).f1) == (0 : Int)) && ((((t1393.1).f2) == (1 : Int)) && true))) with c1406 | c1406
          · replace H := (ifT c1406).symm.trans H
            refine reg hP hn hm [(2, .b true), (6, .b true), (10, .b true), (13, .more (xAgg none)), (15, .b true), (18, .more (xAgg none))] [0] [] ⟨[(0, bV ((((t1397.1).f0) == (1 : Int)) && ((((t1397.1).f1) == (0 : Int)) && ((((t1397.1).f2) == (3 : Int)) && true))))], [], 0⟩ [(t1193.2 == (0 : Int)) = true, (t1393.2 == (0 : Int)) = true, (t1397.2 == (0 : Int)) = true, ((((t1393.1).f0) == (1 : Int)) && ((((t1393.1).f1) == (0 : Int)) && ((((t1393.1).f2) == (1 : Int)) && true))) = true] (by kernel_rfl) ⟨by exact c1403, by exact c1404, by exact c1405, by exact c1406, trivial⟩ ?_
            obtain rfl := Option.some.inj H
            exact Exists.intro _ (And.intro (fun _ _ h => h.conv (inv := []) (vk := []) (e0 := []) (t := ⟨[(0, bV ((((t1397.1).f0) == (1 : Int)) && ((((t1397.1).f1) == (0 : Int)) && ((((t1397.1).f2) == (3 : Int)) && true))))], [], 0⟩) (by kernel_rfl)) (And.intro rfl rfl))
          · replace H := (ifF c1406).symm.trans H
            refine reg hP hn hm [(2, .b true), (6, .b true), (10, .b true), (13, .more (xAgg none)), (15, .b false)] [0] [] ⟨[(0, bV false)], [], 0⟩ [(t1193.2 == (0 : Int)) = true, (t1393.2 == (0 : Int)) = true, (t1397.2 == (0 : Int)) = true, ((((t1393.1).f0) == (1 : Int)) && ((((t1393.1).f1) == (0 : Int)) && ((((t1393.1).f2) == (1 : Int)) && true))) = false] (by kernel_rfl) ⟨by exact c1403, by exact c1404, by exact c1405, by exact c1406, trivial⟩ ?_
            obtain rfl := Option.some.inj H
            exact Exists.intro _ (And.intro (fun _ _ h => h.conv (inv := []) (vk := []) (e0 := []) (t := ⟨[(0, bV false)], [], 0⟩) (by kernel_rfl)) (And.intro rfl rfl))
        · replace H := (ifF c1405).symm.trans H
          refine reg hP hn hm [(2, .b true), (6, .b true), (10, .b false)] [0] [] ⟨[(0, bV false)], [], 0⟩ [(t1193.2 == (0 : Int)) = true, (t1393.2 == (0 : Int)) = true, (t1397.2 == (0 : Int)) = false] (by kernel_rfl) ⟨by exact c1403, by exact c1404, by exact c1405, trivial⟩ ?_
          obtain rfl := Option.some.inj H
          exact Exists.intro _ (And.intro (fun _ _ h => h.conv (inv := []) (vk := []) (e0 := []) (t := ⟨[(0, bV false)], [], 0⟩) (by kernel_rfl)) (And.intro rfl rfl))
      · replace H := (ifF c1404).symm.trans H
        refine reg hP hn hm [(2, .b true), (6, .b false)] [0] [] ⟨[(0, bV false)], [], 0⟩ [(t1193.2 == (0 : Int)) = true, (t1393.2 == (0 : Int)) = false] (by kernel_rfl) ⟨by exact c1403, by exact c1404, trivial⟩ ?_
        obtain rfl := Option.some.inj H
        exact Exists.intro _ (And.intro (fun _ _ h => h.conv (inv := []) (vk := []) (e0 := []) (t := ⟨[(0, bV false)], [], 0⟩) (by kernel_rfl)) (And.intro rfl rfl))
    · replace H := (ifF c1403).symm.trans H
      refine reg hP hn hm [(2, .b false)] [0] [] ⟨[(0, bV false)], [], 0⟩ [(t1193.2 == (0 : Int)) = false] (by kernel_rfl) ⟨by exact c1403, trivial⟩ ?_
      obtain rfl := Option.some.inj H
      exact Exists.intro _ (And.intro (fun _ _ h => h.conv (inv := []) (vk := []) (e0 := []) (t := ⟨[(0, bV false)], [], 0⟩) (by kernel_rfl)) (And.intro rfl rfl))
  · obtain ⟨x1407, rfl⟩ : ∃ z, z = o1408 := ⟨_, rfl⟩
    rintro e s ⟨rfl, rfl⟩
    refine AWp.conv (inv := []) (vk := []) (e0 := []) (t := ⟨[(0, bV x1407)], [], 0⟩) (by kernel_rfl) ?_
    refine AWp.ret ?_
    obtain rfl := Option.some.inj H
    exact Exists.intro _ (And.intro (fun _ _ h => h) (And.intro (.inl rfl) (And.intro rfl (And.intro (by kernel_rfl) (by kernel_rfl)))))
def f_pluviallaw08_RankAll.l1 (a0 : THist) (b1452 : Trank_Cell) (t1416 : List Trank_Cell) (x1447 : Int) (x1464 : Int) (x1465 : Int) : Option (Bool ⊕ Int) := if (decide (x1465 < (if (501 : Int) < b1452.f1 then (501 : Int) else b1452.f1))) = true then ((f_rank_At.f a0 (IntKind.u64.wrap (x1464 + (1 : Int)))) >>= fun t1469 => ((if (t1469.2 != (0 : Int)) = true then (some true) else (some (!((((t1469.1).f0) == b1452.f0.f0) && ((((t1469.1).f1) == b1452.f0.f1) && ((((t1469.1).f2) == b1452.f0.f2) && true)))))) : Option (Bool)) >>= fun x1473 => if x1473 = true then (some (.inl false)) else (f_pluviallaw08_RankAll.l1 a0 b1452 t1416 x1447 (IntKind.u64.wrap (x1464 + (1 : Int))) (IntKind.u64.wrap (x1465 + (1 : Int))))) else (some (.inr x1464))
partial_fixpoint
def f_pluviallaw08_RankAll.l0 (a0 : THist) (t1416 : List Trank_Cell) (x1446 : Int) (x1447 : Int) : Option (Bool ⊕ Int) := if (decide (x1447 < (t1416.length : Int))) = true then ((at? t1416 x1447) >>= fun b1452 => (f_pluviallaw08_RankAll.l1 a0 b1452 t1416 x1447 x1446 0) >>= fun oo => match oo with | .inl rr => (some (.inl rr)) | .inr x1475 => (f_pluviallaw08_RankAll.l0 a0 t1416 x1475 (IntKind.i64.wrap (x1447 + (1 : Int))))) else (some (.inr x1446))
partial_fixpoint
def f_pluviallaw08_RankAll.f (a0 : THist) : Option (Bool) := (((f_pluviallaw08_right.f a0) >>= fun t227 => if (!t227) = true then (some true) else (some (decide (a0.f4 > (500 : Int))))) : Option (Bool)) >>= fun x230 => if x230 = true then ((f_pluviallaw08_awake.f) >>= fun t1412 => some t1412) else ((f_rank_Order.f a0) >>= fun t1416 => (f_pluviallaw08_RankAll.l0 a0 t1416 0 0) >>= fun oo => match oo with | .inl rr => (some rr) | .inr x1476 => ((f_rank_At.f a0 (IntKind.u64.wrap (x1476 + (1 : Int)))) >>= fun t1479 => (f_rank_At.f a0 0) >>= fun t1483 => (((f_pluviallaw08_awake.f) >>= fun t1490 => if t1490 = true then (if (x1476 == a0.f4) = true then (if (t1479.2 != (0 : Int)) = true then (some (t1483.2 != (0 : Int))) else (some false)) else (some false)) else (some false)) : Option (Bool)) >>= fun x1495 => some x1495))
theorem f_pluviallaw08_RankAll.ok (a0 : THist) (r : Bool) (H : f_pluviallaw08_RankAll.f a0 = some r) : Pv.Fn Try.prog 4 [.agg (aHist a0)] [] 0 (fun x o => x = bV r ∧ o = []) := by
  unfold f_pluviallaw08_RankAll.f at H
  refine Fn.bodyK [] Try.func4 rfl rfl (fun Γ hP hn => ?_)
  have hm : Try.prog.follows .mixedOrders = true := by kernel_rfl
  replace hn : Γ.n = 80 := hn
  refine AWp.seq ?_
  refine reg hP hn hm [(0, .k 0)] [1] [0] ⟨[(1, .ptr 0 0 0)], [(0, some (.box 35 (aHist a0)))], 0⟩ [] (by kernel_rfl) trivial ?_
  refine AWp.seq ?_
  refine AWp.seq ?_
  obtain ⟨o1496, e1497, H⟩ := bind_of H
  refine AWp.mono (Q := fun e s => (match (generalizing := false) o1496 with | x230 => e = .normal ∧ s = ⟨[(1, .ptr 1 0 0), (20, bV x230)], [(1, some (.box 35 (aHist a0)))], 0⟩)) (AWp.cv ?_) ?_
  · replace H := e1497; clear e1497
    obtain ⟨t227, e228, H⟩ := bind_of H
    rcases Bool.eq_false_or_eq_true (!t227) with c229 | c229
    · replace H := (ifT c229).symm.trans H
      refine reg hP hn hm [(1, .call [] [] [] [] 0 (bV t227) []), (3, .b true)] [1, 20] [0] ⟨[(1, .ptr 0 0 0), (20, bV true)], [(0, some (.box 35 (aHist a0)))], 0⟩ [Enters Try.prog 19, Pv.Fn Try.prog 19 [.agg (aHist a0)] [] 0 (fun r o => r = bV t227 ∧ o = []), (!t227) = true] (by kernel_rfl) ⟨by exact Try.call19, by exact f_pluviallaw08_right.ok a0 t227 e228, by exact c229, trivial⟩ ?_
      obtain rfl := Option.some.inj H
      exact Exists.intro _ (And.intro (fun _ _ h => h.conv (inv := [(0, 1)]) (vk := []) (e0 := []) (t := ⟨[(1, .ptr 1 0 0), (20, bV true)], [(1, some (.box 35 (aHist a0)))], 0⟩) (by kernel_rfl)) (And.intro rfl rfl))
    · replace H := (ifF c229).symm.trans H
      refine reg hP hn hm [(1, .call [] [] [] [] 0 (bV t227) []), (3, .b false)] [1, 20] [0] ⟨[(1, .ptr 0 0 0), (20, bV (decide (a0.f4 > (500 : Int))))], [(0, some (.box 35 (aHist a0)))], 0⟩ [Enters Try.prog 19, Pv.Fn Try.prog 19 [.agg (aHist a0)] [] 0 (fun r o => r = bV t227 ∧ o = []), (!t227) = false] (by kernel_rfl) ⟨by exact Try.call19, by exact f_pluviallaw08_right.ok a0 t227 e228, by exact c229, trivial⟩ ?_
      obtain rfl := Option.some.inj H
      exact Exists.intro _ (And.intro (fun _ _ h => h.conv (inv := [(0, 1)]) (vk := []) (e0 := []) (t := ⟨[(1, .ptr 1 0 0), (20, bV (decide (a0.f4 > (500 : Int))))], [(1, some (.box 35 (aHist a0)))], 0⟩) (by kernel_rfl)) (And.intro rfl rfl))
  · obtain ⟨x230, rfl⟩ : ∃ z, z = o1496 := ⟨_, rfl⟩
    rintro e s ⟨rfl, rfl⟩
    refine AWp.cond x230 rfl (fun c231 => ?_) (fun c231 => ?_)
    · replace H := (ifT c231).symm.trans H
      refine AWp.seq ?_
      obtain ⟨t1412, e1413, H⟩ := bind_of H
      refine reg hP hn hm [(0, .call [] [] [] [] 0 (bV t1412) [])] [2] [] ⟨[(2, bV t1412)], [], 0⟩ [Enters Try.prog 20, Pv.Fn Try.prog 20 [] [] 0 (fun r o => r = bV t1412 ∧ o = [])] (by kernel_rfl) ⟨by exact Try.call20, by exact f_pluviallaw08_awake.ok  t1412 e1413, trivial⟩ ?_
      refine AWp.conv (inv := []) (vk := []) (e0 := []) (t := ⟨[(2, bV t1412)], [], 0⟩) (by kernel_rfl) ?_
      refine AWp.ret ?_
      obtain rfl := Option.some.inj H
      exact Exists.intro _ (And.intro (fun _ _ h => h) (And.intro (.inl rfl) (And.intro rfl (And.intro (by kernel_rfl) (by kernel_rfl)))))
    · replace H := (ifF c231).symm.trans H
      refine AWp.skip ?_
      refine AWp.seq ?_
      obtain ⟨t1416, e1417, H⟩ := bind_of H
      refine reg hP hn hm [(1, .call [] [(0, 2)] [] [2] 0 (.own 0) [(0, some (.row 4 47 (t1416.map erank_Cell)))])] [1, 3] [1, 2] ⟨[(1, .ptr 1 0 0), (3, .own 2)], [(1, some (.box 35 (aHist a0))), (2, some (.row 4 47 (t1416.map erank_Cell)))], 0⟩ [Enters Try.prog 21, Pv.Fn Try.prog 21 [.agg (aHist a0)] [] 0 (fun r o => r = .own 0 ∧ o = [(0, some (.row 4 47 (t1416.map erank_Cell)))])] (by kernel_rfl) ⟨by exact Try.call21, by exact f_rank_Order.ok a0 t1416 e1417, trivial⟩ ?_
      refine AWp.seq ?_
      refine reg hP hn hm [] [1, 3, 4] [1, 2] ⟨[(1, .ptr 1 0 0), (3, .own 2), (4, iV .u64 0)], [(1, some (.box 35 (aHist a0))), (2, some (.row 4 47 (t1416.map erank_Cell)))], 0⟩ [] (by kernel_rfl) trivial ?_
      refine AWp.seq ?_
      refine AWp.seq ?_
      refine reg hP hn hm [(1, .any (iV .i64 (t1416.length : Int)))] [1, 4, 24, 25, 26] [1, 2] ⟨[(1, .ptr 1 0 0), (4, iV .u64 0), (24, .own 2), (25, iV .i64 (t1416.length : Int)), (26, iV .i64 0)], [(1, some (.box 35 (aHist a0))), (2, some (.row 4 47 (t1416.map erank_Cell)))], 0⟩ [((t1416.map erank_Cell).length : Int) = (t1416.length : Int)] (by kernel_rfl) ⟨by rw [len_map], trivial⟩ ?_
      refine AWp.block ?_
      obtain ⟨o1498, e1499, H⟩ := bind_of H
      refine AWp.loop (LWp.conv (inv := [(1, 17), (2, 18)]) (vk := []) (e0 := []) (t := ⟨[(1, .ptr 17 0 0), (4, iV .u64 0), (24, .own 18), (25, iV .i64 (t1416.length : Int)), (26, iV .i64 0)], [(17, some (.box 35 (aHist a0))), (18, some (.row 4 47 (t1416.map erank_Cell)))], 0⟩) (by kernel_rfl) ?_)
      refine LWp.mono (Q := fun e s => (match (generalizing := false) o1498 with | .inl rr => e = .ret ∧ s.floor = 0 ∧ resOf Try.prog Try.f4 s = some (bV rr) ∧ ([] : List (Nat × Option MObj)) = [] | .inr x1476 => e = .exit 0 ∧ s = ⟨[(1, .ptr 33 0 0), (4, iV .u64 x1476)], [(33, some (.box 35 (aHist a0)))], 0⟩)) (LWp.cv (withBody (fun body hbody => ?_))) ?_
      · refine f_pluviallaw08_RankAll.l0.partial_correctness a0 t1416 (motive := fun x1446 x1447 o1498 => LWp Γ body (fun e s => ∃ t, Cv Γ s t ∧ (match (generalizing := false) o1498 with | .inl rr => e = .ret ∧ t.floor = 0 ∧ resOf Try.prog Try.f4 t = some (bV rr) ∧ ([] : List (Nat × Option MObj)) = [] | .inr x1476 => e = .exit 0 ∧ t = ⟨[(1, .ptr 33 0 0), (4, iV .u64 x1476)], [(33, some (.box 35 (aHist a0)))], 0⟩)) ⟨[(1, .ptr 17 0 0), (4, iV .u64 x1446), (24, .own 18), (25, iV .i64 (t1416.length : Int)), (26, iV .i64 x1447)], [(17, some (.box 35 (aHist a0))), (18, some (.row 4 47 (t1416.map erank_Cell)))], 0⟩) ?_ _ _ _ e1499
        clear H e1499 o1498; intro self ih x1446 x1447 o1498 H
        subst hbody
        refine LWp.round ?_
        refine AWp.seq ?_
        refine reg hP hn hm [] [1, 4, 24, 25, 26, 27] [17, 18] ⟨[(1, .ptr 17 0 0), (4, iV .u64 x1446), (24, .own 18), (25, iV .i64 (t1416.length : Int)), (26, iV .i64 x1447), (27, bV (decide (x1447 < (t1416.length : Int))))], [(17, some (.box 35 (aHist a0))), (18, some (.row 4 47 (t1416.map erank_Cell)))], 0⟩ [] (by kernel_rfl) trivial ?_
        refine AWp.seq ?_
        refine AWp.cond (decide (x1447 < (t1416.length : Int))) rfl (fun c1448 => ?_) (fun c1448 => ?_)
        · replace H := (ifT c1448).symm.trans H
          refine AWp.skip ?_
          refine AWp.seq ?_
          refine AWp.block ?_
          refine AWp.seq ?_
          obtain ⟨b1452, p1453, q1454, H⟩ := at_of H
          refine reg hP hn hm [(1, .c (erank_Cell b1452)), (2, .k 19)] [1, 4, 6, 24, 25, 26] [17, 18, 19] ⟨[(1, .ptr 17 0 0), (4, iV .u64 x1446), (6, .ptr 19 0 0), (24, .own 18), (25, iV .i64 (t1416.length : Int)), (26, iV .i64 x1447)], [(17, some (.box 35 (aHist a0))), (18, some (.row 4 47 (t1416.map erank_Cell))), (19, some (.box 47 [iV .i64 b1452.f0.f0, iV .i64 b1452.f0.f1, iV .i64 b1452.f0.f2, iV .u64 b1452.f1]))], 0⟩ [0 ≤ x1447, x1447 < (((t1416.map erank_Cell).length : Nat) : Int), (t1416.map erank_Cell)[(Int.toNat (x1447))]? = some (erank_Cell b1452)] (by kernel_rfl) ⟨by exact p1453, by exact el_lt erank_Cell p1453 q1454, by exact el_map erank_Cell q1454, trivial⟩ ?_
          refine AWp.seq ?_
          refine reg hP hn hm [(2, .more xMin)] [1, 4, 6, 24, 25, 26, 32, 33] [17, 18, 19] ⟨[(1, .ptr 17 0 0), (4, iV .u64 x1446), (6, .ptr 19 0 0), (24, .own 18), (25, iV .i64 (t1416.length : Int)), (26, iV .i64 x1447), (32, iV .u64 (if (501 : Int) < b1452.f1 then (501 : Int) else b1452.f1)), (33, iV .u64 0)], [(17, some (.box 35 (aHist a0))), (18, some (.row 4 47 (t1416.map erank_Cell))), (19, some (.box 47 [iV .i64 b1452.f0.f0, iV .i64 b1452.f0.f1, iV .i64 b1452.f0.f2, iV .u64 b1452.f1]))], 0⟩ [] (by kernel_rfl) trivial ?_
          refine AWp.block ?_
          obtain ⟨o1500, e1501, H⟩ := bind_of H
          refine AWp.loop (LWp.conv (inv := [(17, 24), (18, 26), (19, 25)]) (vk := []) (e0 := []) (t := ⟨[(1, .ptr 24 0 0), (4, iV .u64 x1446), (6, .ptr 25 0 0), (24, .own 26), (25, iV .i64 (t1416.length : Int)), (26, iV .i64 x1447), (32, iV .u64 (if (501 : Int) < b1452.f1 then (501 : Int) else b1452.f1)), (33, iV .u64 0)], [(24, some (.box 35 (aHist a0))), (25, some (.box 47 [iV .i64 b1452.f0.f0, iV .i64 b1452.f0.f1, iV .i64 b1452.f0.f2, iV .u64 b1452.f1])), (26, some (.row 4 47 (t1416.map erank_Cell)))], 0⟩) (by kernel_rfl) ?_)
          refine LWp.mono (Q := fun e s => (match (generalizing := false) o1500 with | .inl rr => e = .ret ∧ s.floor = 0 ∧ resOf Try.prog Try.f4 s = some (bV rr) ∧ ([] : List (Nat × Option MObj)) = [] | .inr x1475 => e = .exit 2 ∧ s = ⟨[(1, .ptr 31 0 0), (4, iV .u64 x1475), (24, .own 32), (25, iV .i64 (t1416.length : Int)), (26, iV .i64 x1447)], [(31, some (.box 35 (aHist a0))), (32, some (.row 4 47 (t1416.map erank_Cell)))], 0⟩)) (LWp.cv (withBody (fun body hbody => ?_))) ?_
          · refine f_pluviallaw08_RankAll.l1.partial_correctness a0 b1452 t1416 x1447 (motive := fun x1464 x1465 o1500 => LWp Γ body (fun e s => ∃ t, Cv Γ s t ∧ (match (generalizing := false) o1500 with | .inl rr => e = .ret ∧ t.floor = 0 ∧ resOf Try.prog Try.f4 t = some (bV rr) ∧ ([] : List (Nat × Option MObj)) = [] | .inr x1475 => e = .exit 2 ∧ t = ⟨[(1, .ptr 31 0 0), (4, iV .u64 x1475), (24, .own 32), (25, iV .i64 (t1416.length : Int)), (26, iV .i64 x1447)], [(31, some (.box 35 (aHist a0))), (32, some (.row 4 47 (t1416.map erank_Cell)))], 0⟩)) ⟨[(1, .ptr 24 0 0), (4, iV .u64 x1464), (6, .ptr 25 0 0), (24, .own 26), (25, iV .i64 (t1416.length : Int)), (26, iV .i64 x1447), (32, iV .u64 (if (501 : Int) < b1452.f1 then (501 : Int) else b1452.f1)), (33, iV .u64 x1465)], [(24, some (.box 35 (aHist a0))), (25, some (.box 47 [iV .i64 b1452.f0.f0, iV .i64 b1452.f0.f1, iV .i64 b1452.f0.f2, iV .u64 b1452.f1])), (26, some (.row 4 47 (t1416.map erank_Cell)))], 0⟩) ?_ _ _ _ e1501
            clear H e1501 o1500; intro self ih x1464 x1465 o1500 H
            subst hbody
            refine LWp.round ?_
            refine AWp.seq ?_
            refine reg hP hn hm [] [1, 4, 6, 24, 25, 26, 32, 33, 34] [24, 25, 26] ⟨[(1, .ptr 24 0 0), (4, iV .u64 x1464), (6, .ptr 25 0 0), (24, .own 26), (25, iV .i64 (t1416.length : Int)), (26, iV .i64 x1447), (32, iV .u64 (if (501 : Int) < b1452.f1 then (501 : Int) else b1452.f1)), (33, iV .u64 x1465), (34, bV (decide (x1465 < (if (501 : Int) < b1452.f1 then (501 : Int) else b1452.f1))))], [(24, some (.box 35 (aHist a0))), (25, some (.box 47 [iV .i64 b1452.f0.f0, iV .i64 b1452.f0.f1, iV .i64 b1452.f0.f2, iV .u64 b1452.f1])), (26, some (.row 4 47 (t1416.map erank_Cell)))], 0⟩ [] (by kernel_rfl) trivial ?_
            refine AWp.seq ?_
            refine AWp.cond (decide (x1465 < (if (501 : Int) < b1452.f1 then (501 : Int) else b1452.f1))) rfl (fun c1466 => ?_) (fun c1466 => ?_)
            · replace H := (ifT c1466).symm.trans H
              refine AWp.skip ?_
              refine AWp.seq ?_
              refine AWp.block ?_
              refine AWp.seq ?_
              refine reg hP hn hm [] [1, 4, 6, 24, 25, 26, 32, 33] [24, 25, 26] ⟨[(1, .ptr 24 0 0), (4, iV .u64 (IntKind.u64.wrap (x1464 + (1 : Int)))), (6, .ptr 25 0 0), (24, .own 26), (25, iV .i64 (t1416.length : Int)), (26, iV .i64 x1447), (32, iV .u64 (if (501 : Int) < b1452.f1 then (501 : Int) else b1452.f1)), (33, iV .u64 x1465)], [(24, some (.box 35 (aHist a0))), (25, some (.box 47 [iV .i64 b1452.f0.f0, iV .i64 b1452.f0.f1, iV .i64 b1452.f0.f2, iV .u64 b1452.f1])), (26, some (.row 4 47 (t1416.map erank_Cell)))], 0⟩ [] (by kernel_rfl) trivial ?_
              refine AWp.seq ?_
              obtain ⟨t1469, e1470, H⟩ := bind_of H
              refine reg hP hn hm [(2, .call [] [] [] [] 0 (.tup [.agg (abound_Key (t1469.1)), iV .i64 t1469.2]) []), (6, .k 27)] [1, 4, 6, 7, 8, 24, 25, 26, 32, 33] [24, 25, 26, 27] ⟨[(1, .ptr 24 0 0), (4, iV .u64 (IntKind.u64.wrap (x1464 + (1 : Int)))), (6, .ptr 25 0 0), (7, .ptr 27 0 0), (8, iV .i64 t1469.2), (24, .own 26), (25, iV .i64 (t1416.length : Int)), (26, iV .i64 x1447), (32, iV .u64 (if (501 : Int) < b1452.f1 then (501 : Int) else b1452.f1)), (33, iV .u64 x1465)], [(24, some (.box 35 (aHist a0))), (25, some (.box 47 [iV .i64 b1452.f0.f0, iV .i64 b1452.f0.f1, iV .i64 b1452.f0.f2, iV .u64 b1452.f1])), (26, some (.row 4 47 (t1416.map erank_Cell))), (27, some (.box 45 (abound_Key (t1469.1))))], 0⟩ [Enters Try.prog 22, Pv.Fn Try.prog 22 [.agg (aHist a0), iV .u64 (IntKind.u64.wrap (x1464 + (1 : Int)))] [] 0 (fun r o => r = .tup [.agg (abound_Key (t1469.1)), iV .i64 t1469.2] ∧ o = [])] (by kernel_rfl) ⟨by exact Try.call22, by exact f_rank_At.ok a0 (IntKind.u64.wrap (x1464 + (1 : Int))) t1469 e1470, trivial⟩ ?_
              refine AWp.seq ?_
              obtain ⟨o1502, e1503, H⟩ := bind_of H
              refine AWp.mono (Q := fun e s => (match (generalizing := false) o1502 with | x1473 => e = .normal ∧ s = ⟨[(1, .ptr 28 0 0), (4, iV .u64 (IntKind.u64.wrap (x1464 + (1 : Int)))), (6, .ptr 29 0 0), (24, .own 30), (25, iV .i64 (t1416.length : Int)), (26, iV .i64 x1447), (32, iV .u64 (if (501 : Int) < b1452.f1 then (501 : Int) else b1452.f1)), (33, iV .u64 x1465), (50, bV x1473)], [(28, some (.box 35 (aHist a0))), (29, some (.box 47 [iV .i64 b1452.f0.f0, iV .i64 b1452.f0.f1, iV .i64 b1452.f0.f2, iV .u64 b1452.f1])), (30, some (.row 4 47 (t1416.map erank_Cell)))], 0⟩)) (AWp.cv ?_) ?_
              · replace H := e1503; clear e1503
                rcases Bool.eq_false_or_eq_true (t1469.2 != (0 : Int)) with c1472 | c1472
                · replace H := (ifT c1472).symm.trans H
                  refine reg hP hn hm [(2, .b true)] [1, 4, 6, 24, 25, 26, 32, 33, 50] [24, 25, 26] ⟨[(1, .ptr 24 0 0), (4, iV .u64 (IntKind.u64.wrap (x1464 + (1 : Int)))), (6, .ptr 25 0 0), (24, .own 26), (25, iV .i64 (t1416.length : Int)), (26, iV .i64 x1447), (32, iV .u64 (if (501 : Int) < b1452.f1 then (501 : Int) else b1452.f1)), (33, iV .u64 x1465), (50, bV true)], [(24, some (.box 35 (aHist a0))), (25, some (.box 47 [iV .i64 b1452.f0.f0, iV .i64 b1452.f0.f1, iV .i64 b1452.f0.f2, iV .u64 b1452.f1])), (26, some (.row 4 47 (t1416.map erank_Cell)))], 0⟩ [(t1469.2 != (0 : Int)) = true] (by kernel_rfl) ⟨by exact c1472, trivial⟩ ?_
                  obtain rfl := Option.some.inj H
                  exact Exists.intro _ (And.intro (fun _ _ h => h.conv (inv := [(24, 28), (25, 29), (26, 30)]) (vk := []) (e0 := []) (t := ⟨[(1, .ptr 28 0 0), (4, iV .u64 (IntKind.u64.wrap (x1464 + (1 : Int)))), (6, .ptr 29 0 0), (24, .own 30), (25, iV .i64 (t1416.length : Int)), (26, iV .i64 x1447), (32, iV .u64 (if (501 : Int) < b1452.f1 then (501 : Int) else b1452.f1)), (33, iV .u64 x1465), (50, bV true)], [(28, some (.box 35 (aHist a0))), (29, some (.box 47 [iV .i64 b1452.f0.f0, iV .i64 b1452.f0.f1, iV .i64 b1452.f0.f2, iV .u64 b1452.f1])), (30, some (.row 4 47 (t1416.map erank_Cell)))], 0⟩) (by kernel_rfl)) (And.intro rfl rfl))
                · replace H := (ifF c1472).symm.trans H
                  refine reg hP hn hm [(2, .b false), (6, .more (xAgg none))] [1, 4, 6, 24, 25, 26, 32, 33, 46, 47, 48, 49, 50] [24, 25, 26] ⟨[(1, .ptr 24 0 0), (4, iV .u64 (IntKind.u64.wrap (x1464 + (1 : Int)))), (6, .ptr 25 0 0), (24, .own 26), (25, iV .i64 (t1416.length : Int)), (26, iV .i64 x1447), (32, iV .u64 (if (501 : Int) < b1452.f1 then (501 : Int) else b1452.f1)), (33, iV .u64 x1465), (46, .agg (abound_Key (t1469.1))), (47, .ptr 25 0 0), (48, .agg (abound_Key b1452.f0)), (49, bV (!((((t1469.1).f0) == b1452.f0.f0) && ((((t1469.1).f1) == b1452.f0.f1) && ((((t1469.1).f2) == b1452.f0.f2) && true))))), (50, bV (!((((t1469.1).f0) == b1452.f0.f0) && ((((t1469.1).f1) == b1452.f0.f1) && ((((t1469.1).f2) == b1452.f0.f2) && true)))))], [(24, some (.box 35 (aHist a0))), (25, some (.box 47 [iV .i64 b1452.f0.f0, iV .i64 b1452.f0.f1, iV .i64 b1452.f0.f2, iV .u64 b1452.f1])), (26, some (.row 4 47 (t1416.map erank_Cell)))], 0⟩ [(t1469.2 != (0 : Int)) = false] (by kernel_rfl) ⟨by exact c1472, trivial⟩ ?_
                  obtain rfl := Option.some.inj H
                  exact Exists.intro _ (And.intro (fun _ _ h => h.conv (inv := [(24, 28), (25, 29), (26, 30)]) (vk := []) (e0 := []) (t := ⟨[(1, .ptr 28 0 0), (4, iV .u64 (IntKind.u64.wrap (x1464 + (1 : Int)))), (6, .ptr 29 0 0), (24, .own 30), (25, iV .i64 (t1416.length : Int)), (26, iV .i64 x1447), (32, iV .u64 (if (501 : Int) < b1452.f1 then (501 : Int) else b1452.f1)), (33, iV .u64 x1465), (50, bV (!((((t1469.1).f0) == b1452.f0.f0) && ((((t1469.1).f1) == b1452.f0.f1) && ((((t1469.1).f2) == b1452.f0.f2) && true)))))], [(28, some (.box 35 (aHist a0))), (29, some (.box 47 [iV .i64 b1452.f0.f0, iV .i64 b1452.f0.f1, iV .i64 b1452.f0.f2, iV .u64 b1452.f1])), (30, some (.row 4 47 (t1416.map erank_Cell)))], 0⟩) (by kernel_rfl)) (And.intro rfl rfl))
              · obtain ⟨x1473, rfl⟩ : ∃ z, z = o1502 := ⟨_, rfl⟩
                rintro e s ⟨rfl, rfl⟩
                refine AWp.cond x1473 rfl (fun c1474 => ?_) (fun c1474 => ?_)
                · replace H := (ifT c1474).symm.trans H
                  refine AWp.seq ?_
                  refine reg hP hn hm [] [2] [] ⟨[(2, bV false)], [], 0⟩ [] (by kernel_rfl) trivial ?_
                  refine AWp.conv (inv := []) (vk := []) (e0 := []) (t := ⟨[(2, bV false)], [], 0⟩) (by kernel_rfl) ?_
                  refine AWp.ret ?_
                  obtain rfl := Option.some.inj H
                  exact Exists.intro _ (And.intro (fun _ _ h => h) (And.intro rfl (And.intro rfl (And.intro (by kernel_rfl) (by kernel_rfl)))))
                · replace H := (ifF c1474).symm.trans H
                  refine AWp.skip ?_
                  refine reg hP hn hm [] [1, 4, 6, 24, 25, 26, 32, 33] [28, 29, 30] ⟨[(1, .ptr 28 0 0), (4, iV .u64 (IntKind.u64.wrap (x1464 + (1 : Int)))), (6, .ptr 29 0 0), (24, .own 30), (25, iV .i64 (t1416.length : Int)), (26, iV .i64 x1447), (32, iV .u64 (if (501 : Int) < b1452.f1 then (501 : Int) else b1452.f1)), (33, iV .u64 (IntKind.u64.wrap (x1465 + (1 : Int))))], [(28, some (.box 35 (aHist a0))), (29, some (.box 47 [iV .i64 b1452.f0.f0, iV .i64 b1452.f0.f1, iV .i64 b1452.f0.f2, iV .u64 b1452.f1])), (30, some (.row 4 47 (t1416.map erank_Cell)))], 0⟩ [] (by kernel_rfl) trivial ?_
                  exact LWp.conv (inv := [(28, 24), (29, 25), (30, 26)]) (vk := []) (e0 := []) (t := ⟨[(1, .ptr 24 0 0), (4, iV .u64 (IntKind.u64.wrap (x1464 + (1 : Int)))), (6, .ptr 25 0 0), (24, .own 26), (25, iV .i64 (t1416.length : Int)), (26, iV .i64 x1447), (32, iV .u64 (if (501 : Int) < b1452.f1 then (501 : Int) else b1452.f1)), (33, iV .u64 (IntKind.u64.wrap (x1465 + (1 : Int))))], [(24, some (.box 35 (aHist a0))), (25, some (.box 47 [iV .i64 b1452.f0.f0, iV .i64 b1452.f0.f1, iV .i64 b1452.f0.f2, iV .u64 b1452.f1])), (26, some (.row 4 47 (t1416.map erank_Cell)))], 0⟩) (by kernel_rfl) (ih _ _ _ H)
            · replace H := (ifF c1466).symm.trans H
              refine AWp.exit ?_
              obtain rfl := Option.some.inj H
              exact Exists.intro _ (And.intro (fun _ _ h => h.conv (inv := [(24, 31), (26, 32)]) (vk := []) (e0 := []) (t := ⟨[(1, .ptr 31 0 0), (4, iV .u64 x1464), (24, .own 32), (25, iV .i64 (t1416.length : Int)), (26, iV .i64 x1447)], [(31, some (.box 35 (aHist a0))), (32, some (.row 4 47 (t1416.map erank_Cell)))], 0⟩) (by kernel_rfl)) (And.intro rfl rfl))
          · rcases o1500 with rr | x1475
            · skip
              rintro e s ⟨rfl, hfl, hres⟩
              obtain rfl := Option.some.inj H
              exact Exists.intro _ (And.intro (fun _ _ h => h) (And.intro rfl (And.intro hfl hres)))
            · skip
              rintro e s ⟨rfl, rfl⟩
              refine reg hP hn hm [] [1, 4, 24, 25, 26] [31, 32] ⟨[(1, .ptr 31 0 0), (4, iV .u64 x1475), (24, .own 32), (25, iV .i64 (t1416.length : Int)), (26, iV .i64 (IntKind.i64.wrap (x1447 + (1 : Int))))], [(31, some (.box 35 (aHist a0))), (32, some (.row 4 47 (t1416.map erank_Cell)))], 0⟩ [] (by kernel_rfl) trivial ?_
              exact LWp.conv (inv := [(31, 17), (32, 18)]) (vk := []) (e0 := []) (t := ⟨[(1, .ptr 17 0 0), (4, iV .u64 x1475), (24, .own 18), (25, iV .i64 (t1416.length : Int)), (26, iV .i64 (IntKind.i64.wrap (x1447 + (1 : Int))))], [(17, some (.box 35 (aHist a0))), (18, some (.row 4 47 (t1416.map erank_Cell)))], 0⟩) (by kernel_rfl) (ih _ _ _ H)
        · replace H := (ifF c1448).symm.trans H
          refine AWp.exit ?_
          obtain rfl := Option.some.inj H
          exact Exists.intro _ (And.intro (fun _ _ h => h.conv (inv := [(17, 33)]) (vk := []) (e0 := []) (t := ⟨[(1, .ptr 33 0 0), (4, iV .u64 x1446)], [(33, some (.box 35 (aHist a0)))], 0⟩) (by kernel_rfl)) (And.intro rfl rfl))
      · rcases o1498 with rr | x1476
        · skip
          rintro e s ⟨rfl, hfl, hres⟩
          obtain rfl := Option.some.inj H
          exact Exists.intro _ (And.intro (fun _ _ h => h) (And.intro (.inl rfl) (And.intro hfl hres)))
        · skip
          rintro e s ⟨rfl, rfl⟩
          refine AWp.seq ?_
          obtain ⟨t1479, e1480, H⟩ := bind_of H
          refine reg hP hn hm [(3, .call [] [] [] [] 0 (.tup [.agg (abound_Key (t1479.1)), iV .i64 t1479.2]) []), (7, .k 34)] [1, 4, 10] [33] ⟨[(1, .ptr 33 0 0), (4, iV .u64 x1476), (10, iV .i64 t1479.2)], [(33, some (.box 35 (aHist a0)))], 0⟩ [Enters Try.prog 22, Pv.Fn Try.prog 22 [.agg (aHist a0), iV .u64 (IntKind.u64.wrap (x1476 + (1 : Int)))] [] 0 (fun r o => r = .tup [.agg (abound_Key (t1479.1)), iV .i64 t1479.2] ∧ o = [])] (by kernel_rfl) ⟨by exact Try.call22, by exact f_rank_At.ok a0 (IntKind.u64.wrap (x1476 + (1 : Int))) t1479 e1480, trivial⟩ ?_
          refine AWp.seq ?_
          obtain ⟨t1483, e1484, H⟩ := bind_of H
          refine reg hP hn hm [(1, .call [] [] [] [] 0 (.tup [.agg (abound_Key (t1483.1)), iV .i64 t1483.2]) []), (5, .k 35)] [1, 4, 10, 12] [33] ⟨[(1, .ptr 33 0 0), (4, iV .u64 x1476), (10, iV .i64 t1479.2), (12, iV .i64 t1483.2)], [(33, some (.box 35 (aHist a0)))], 0⟩ [Enters Try.prog 22, Pv.Fn Try.prog 22 [.agg (aHist a0), iV .u64 0] [] 0 (fun r o => r = .tup [.agg (abound_Key (t1483.1)), iV .i64 t1483.2] ∧ o = [])] (by kernel_rfl) ⟨by exact Try.call22, by exact f_rank_At.ok a0 0 t1483 e1484, trivial⟩ ?_
          refine AWp.seq ?_
          obtain ⟨o1504, e1505, H⟩ := bind_of H
          refine AWp.mono (Q := fun e s => (match (generalizing := false) o1504 with | x1495 => e = .normal ∧ s = ⟨[(2, bV x1495)], [], 0⟩)) (AWp.cv ?_) ?_
          · replace H := e1505; clear e1505
            obtain ⟨t1490, e1491, H⟩ := bind_of H
            rcases Bool.eq_false_or_eq_true t1490 with c1492 | c1492
            · replace H := (ifT c1492).symm.trans H
              rcases Bool.eq_false_or_eq_true (x1476 == a0.f4) with c1493 | c1493
              · replace H := (ifT c1493).symm.trans H
                rcases Bool.eq_false_or_eq_true (t1479.2 != (0 : Int)) with c1494 | c1494
                · replace H := (ifT c1494).symm.trans H
                  refine reg hP hn hm [(0, .call [] [] [] [] 0 (bV t1490) []), (1, .b true), (7, .b true), (11, .b true)] [2] [] ⟨[(2, bV (t1483.2 != (0 : Int)))], [], 0⟩ [Enters Try.prog 20, Pv.Fn Try.prog 20 [] [] 0 (fun r o => r = bV t1490 ∧ o = []), t1490 = true, (x1476 == a0.f4) = true, (t1479.2 != (0 : Int)) = true] (by kernel_rfl) ⟨by exact Try.call20, by exact f_pluviallaw08_awake.ok  t1490 e1491, by exact c1492, by exact c1493, by exact c1494, trivial⟩ ?_
                  obtain rfl := Option.some.inj H
                  exact Exists.intro _ (And.intro (fun _ _ h => h.conv (inv := []) (vk := []) (e0 := []) (t := ⟨[(2, bV (t1483.2 != (0 : Int)))], [], 0⟩) (by kernel_rfl)) (And.intro rfl rfl))
                · replace H := (ifF c1494).symm.trans H
                  refine reg hP hn hm [(0, .call [] [] [] [] 0 (bV t1490) []), (1, .b true), (7, .b true), (11, .b false)] [2] [] ⟨[(2, bV false)], [], 0⟩ [Enters Try.prog 20, Pv.Fn Try.prog 20 [] [] 0 (fun r o => r = bV t1490 ∧ o = []), t1490 = true, (x1476 == a0.f4) = true, (t1479.2 != (0 : Int)) = false] (by kernel_rfl) ⟨by exact Try.call20, by exact f_pluviallaw08_awake.ok  t1490 e1491, by exact c1492, by exact c1493, by exact c1494, trivial⟩ ?_
                  obtain rfl := Option.some.inj H
                  exact Exists.intro _ (And.intro (fun _ _ h => h.conv (inv := []) (vk := []) (e0 := []) (t := ⟨[(2, bV false)], [], 0⟩) (by kernel_rfl)) (And.intro rfl rfl))
              · replace H := (ifF c1493).symm.trans H
                refine reg hP hn hm [(0, .call [] [] [] [] 0 (bV t1490) []), (1, .b true), (7, .b false)] [2] [] ⟨[(2, bV false)], [], 0⟩ [Enters Try.prog 20, Pv.Fn Try.prog 20 [] [] 0 (fun r o => r = bV t1490 ∧ o = []), t1490 = true, (x1476 == a0.f4) = false] (by kernel_rfl) ⟨by exact Try.call20, by exact f_pluviallaw08_awake.ok  t1490 e1491, by exact c1492, by exact c1493, trivial⟩ ?_
                obtain rfl := Option.some.inj H
                exact Exists.intro _ (And.intro (fun _ _ h => h.conv (inv := []) (vk := []) (e0 := []) (t := ⟨[(2, bV false)], [], 0⟩) (by kernel_rfl)) (And.intro rfl rfl))
            · replace H := (ifF c1492).symm.trans H
              refine reg hP hn hm [(0, .call [] [] [] [] 0 (bV t1490) []), (1, .b false)] [2] [] ⟨[(2, bV false)], [], 0⟩ [Enters Try.prog 20, Pv.Fn Try.prog 20 [] [] 0 (fun r o => r = bV t1490 ∧ o = []), t1490 = false] (by kernel_rfl) ⟨by exact Try.call20, by exact f_pluviallaw08_awake.ok  t1490 e1491, by exact c1492, trivial⟩ ?_
              obtain rfl := Option.some.inj H
              exact Exists.intro _ (And.intro (fun _ _ h => h.conv (inv := []) (vk := []) (e0 := []) (t := ⟨[(2, bV false)], [], 0⟩) (by kernel_rfl)) (And.intro rfl rfl))
          · obtain ⟨x1495, rfl⟩ : ∃ z, z = o1504 := ⟨_, rfl⟩
            rintro e s ⟨rfl, rfl⟩
            refine AWp.conv (inv := []) (vk := []) (e0 := []) (t := ⟨[(2, bV x1495)], [], 0⟩) (by kernel_rfl) ?_
            refine AWp.ret ?_
            obtain rfl := Option.some.inj H
            exact Exists.intro _ (And.intro (fun _ _ h => h) (And.intro (.inl rfl) (And.intro rfl (And.intro (by kernel_rfl) (by kernel_rfl)))))
end Go.Proofs.Yteogljahemehkaa.PvGC
