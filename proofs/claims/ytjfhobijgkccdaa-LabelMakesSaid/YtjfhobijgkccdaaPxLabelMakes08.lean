import Derived.Test.YtjfhobijgkccdaaProg
import Derived.Test.YtjfhobijgkccdaaPxLabelMakes07
set_option linter.unusedVariables false
set_option linter.unnecessarySimpa false
set_option linter.unusedSimpArgs false
set_option maxRecDepth 10000
namespace Go.Proofs.Ytjfhobijgkccdaa.PvGA1
open Go Go.Pv
def f_pluviallaw10_LabelMakes.l1 (a0 : List TLabel) (a2 : List ByteArray) (b1566 : TLabel) (x1560 : List TLabel) (x1561 : Int) (x1576 : Bool) (x1577 : Int) : Option (Bool) := if (decide (x1577 < (a2.length : Int))) = true then ((at? a2 x1577) >>= fun b1582 => ((if x1576 = true then (some true) else (some (b1582.toList == b1566.f0.toList))) : Option (Bool)) >>= fun x1587 => f_pluviallaw10_LabelMakes.l1 a0 a2 b1566 x1560 x1561 x1587 (IntKind.i64.wrap (x1577 + (1 : Int)))) else (some x1576)
partial_fixpoint
def f_pluviallaw10_LabelMakes.l0 (a0 : List TLabel) (a2 : List ByteArray) (x1560 : List TLabel) (x1561 : Int) : Option (List TLabel) := if (decide (x1561 < (a0.length : Int))) = true then ((at? a0 x1561) >>= fun b1566 => (f_pluviallaw10_LabelMakes.l1 a0 a2 b1566 x1560 x1561 false 0) >>= fun x1588 => ((if x1588 = true then ((chk ((x1560.length + [b1566].length) * 32 ≤ 140737488355328)) >>= fun _ => some (x1560 ++ [b1566])) else (some x1560)) : Option (List TLabel)) >>= fun x1592 => f_pluviallaw10_LabelMakes.l0 a0 a2 x1592 (IntKind.i64.wrap (x1561 + (1 : Int)))) else (some x1560)
partial_fixpoint
def f_pluviallaw10_LabelMakes.l3 (a0 : List TLabel) (a2 : List ByteArray) (b1651 : ByteArray) (x1593 : List TLabel) (x1646 : Int) (x1663 : ByteArray) (x1664 : Int) : Option (ByteArray) := if (decide (x1664 ≥ (0 : Int))) = true then ((at? a0 x1664) >>= fun b1669 => ((if (b1669.f0.toList == b1651.toList) = true then (some b1669.f1) else (some x1663)) : Option (ByteArray)) >>= fun x1673 => f_pluviallaw10_LabelMakes.l3 a0 a2 b1651 x1593 x1646 x1673 (IntKind.i64.wrap (x1664 - (1 : Int)))) else (some x1663)
partial_fixpoint
def f_pluviallaw10_LabelMakes.l2 (a0 : List TLabel) (a2 : List ByteArray) (x1593 : List TLabel) (x1646 : Int) : Option (Bool ⊕ Unit) := if (decide (x1646 < (a2.length : Int))) = true then ((at? a2 x1646) >>= fun b1651 => (f_pluviallaw10_LabelMakes.l3 a0 a2 b1651 x1593 x1646 (⟨#[]⟩ : ByteArray) (IntKind.i64.wrap ((a0.length : Int) - (1 : Int)))) >>= fun x1674 => (f_label_Get.f a0 b1651) >>= fun t1677 => if (!(t1677.toList == x1674.toList)) = true then (some (.inl false)) else (f_pluviallaw10_LabelMakes.l2 a0 a2 x1593 (IntKind.i64.wrap (x1646 + (1 : Int))))) else (some (.inr ()))
partial_fixpoint
def f_pluviallaw10_LabelMakes.f (a0 : List TLabel) (a1 : List TLabel) (a2 : List ByteArray) : Option (Bool) := (((f_pluviallaw10_Light.f a0) >>= fun t26 => if (!t26) = true then (some true) else ((f_pluviallaw10_Light.f a1) >>= fun t29 => if (!t29) = true then (some true) else (some (decide ((a2.length : Int) > (20 : Int)))))) : Option (Bool)) >>= fun x32 => if x32 = true then ((f_pluviallaw10_awake.f) >>= fun t337 => some t337) else ((((f_label_Check.f a0) >>= fun t640 => (f_pluvialref10_Check.f a0) >>= fun t642 => if (t640 != t642) = true then (some true) else ((f_label_Compare.f a0 a1) >>= fun t645 => (f_pluvialref10_Compare.f a0 a1) >>= fun t647 => some (t645 != t647))) : Option (Bool)) >>= fun x649 => if x649 = true then (some false) else ((f_label_Make.f a0) >>= fun t1361 => (f_pluvialref10_Make.f a0) >>= fun t1515 => ((if (t1361.2 != t1515.2) = true then (some true) else ((f_pluviallaw10_same.f t1361.1 t1515.1) >>= fun t1525 => some (!t1525))) : Option (Bool)) >>= fun x1527 => if x1527 = true then (some false) else ((f_pluviallaw10_LabelMakes.l0 a0 a2 [] 0) >>= fun x1593 => (f_pluviallaw10_LabelMakes.l2 a0 a2 x1593 0) >>= fun oo => match oo with | .inl rr => (some rr) | .inr _ => ((((f_pluviallaw10_awake.f) >>= fun t1807 => if t1807 = true then ((f_label_By.f a0 a2) >>= fun t1810 => (f_pluviallaw10_same.f t1810 x1593) >>= fun t1812 => some t1812) else (some false)) : Option (Bool)) >>= fun x1814 => some x1814))))
theorem f_pluviallaw10_LabelMakes.ok (a0 : List TLabel) (a1 : List TLabel) (a2 : List ByteArray) (r : Bool) (H : f_pluviallaw10_LabelMakes.f a0 a1 a2 = some r) : Pv.Fn Try.prog 9 [.im (.row (a0.map eLabel)), .im (.row (a1.map eLabel)), .im (.row (a2.map encStr))] [] 0 (fun x o => x = bV r ∧ o = []) := by
  unfold f_pluviallaw10_LabelMakes.f at H
  refine Fn.bodyK [] Try.func9 rfl rfl (fun Γ hP hn => ?_)
  have hm : Try.prog.follows .mixedOrders = true := by kernel_rfl
  replace hn : Γ.n = 133 := hn
  refine AWp.seq ?_
  refine reg hP hn hm [] [0, 1, 2] [] ⟨[(0, .im (.row (a0.map eLabel))), (1, .im (.row (a1.map eLabel))), (2, .im (.row (a2.map encStr)))], [], 0⟩ [] (by kernel_rfl) trivial ?_
  refine AWp.seq ?_
  refine AWp.seq ?_
  obtain ⟨o1815, e1816, H⟩ := bind_of H
  refine AWp.mono (Q := fun e s => (match (generalizing := false) o1815 with | x32 => e = .normal ∧ s = ⟨[(0, .im (.row (a0.map eLabel))), (1, .im (.row (a1.map eLabel))), (2, .im (.row (a2.map encStr))), (33, bV x32)], [], 0⟩)) (AWp.cv ?_) ?_
  · replace H := e1816; clear e1816
    obtain ⟨t26, e27, H⟩ := bind_of H
    rcases Bool.eq_false_or_eq_true (!t26) with c28 | c28
    · replace H := (ifT c28).symm.trans H
      refine reg hP hn hm [(1, .call [] [] [] [] 0 (bV t26) []), (3, .b true)] [0, 1, 2, 33] [] ⟨[(0, .im (.row (a0.map eLabel))), (1, .im (.row (a1.map eLabel))), (2, .im (.row (a2.map encStr))), (33, bV true)], [], 0⟩ [Enters Try.prog 20, Pv.Fn Try.prog 20 [.im (.row (a0.map eLabel))] [] 0 (fun r o => r = bV t26 ∧ o = []), (!t26) = true] (by kernel_rfl) ⟨by exact Try.call20, by exact f_pluviallaw10_Light.ok a0 t26 e27, by exact c28, trivial⟩ ?_
      obtain rfl := Option.some.inj H
      exact Exists.intro _ (And.intro (fun _ _ h => h.conv (inv := []) (vk := []) (e0 := []) (t := ⟨[(0, .im (.row (a0.map eLabel))), (1, .im (.row (a1.map eLabel))), (2, .im (.row (a2.map encStr))), (33, bV true)], [], 0⟩) (by kernel_rfl)) (And.intro rfl rfl))
    · replace H := (ifF c28).symm.trans H
      obtain ⟨t29, e30, H⟩ := bind_of H
      rcases Bool.eq_false_or_eq_true (!t29) with c31 | c31
      · replace H := (ifT c31).symm.trans H
        refine reg hP hn hm [(1, .call [] [] [] [] 0 (bV t26) []), (3, .b false), (5, .call [] [] [] [] 0 (bV t29) []), (8, .b true)] [0, 1, 2, 33] [] ⟨[(0, .im (.row (a0.map eLabel))), (1, .im (.row (a1.map eLabel))), (2, .im (.row (a2.map encStr))), (33, bV true)], [], 0⟩ [Enters Try.prog 20, Pv.Fn Try.prog 20 [.im (.row (a0.map eLabel))] [] 0 (fun r o => r = bV t26 ∧ o = []), (!t26) = false, Enters Try.prog 20, Pv.Fn Try.prog 20 [.im (.row (a1.map eLabel))] [] 0 (fun r o => r = bV t29 ∧ o = []), (!t29) = true] (by kernel_rfl) ⟨by exact Try.call20, by exact f_pluviallaw10_Light.ok a0 t26 e27, by exact c28, by exact Try.call20, by exact f_pluviallaw10_Light.ok a1 t29 e30, by exact c31, trivial⟩ ?_
        obtain rfl := Option.some.inj H
        exact Exists.intro _ (And.intro (fun _ _ h => h.conv (inv := []) (vk := []) (e0 := []) (t := ⟨[(0, .im (.row (a0.map eLabel))), (1, .im (.row (a1.map eLabel))), (2, .im (.row (a2.map encStr))), (33, bV true)], [], 0⟩) (by kernel_rfl)) (And.intro rfl rfl))
      · replace H := (ifF c31).symm.trans H
        refine reg hP hn hm [(1, .call [] [] [] [] 0 (bV t26) []), (3, .b false), (5, .call [] [] [] [] 0 (bV t29) []), (8, .b false), (10, .any (iV .i64 (a2.length : Int)))] [0, 1, 2, 33] [] ⟨[(0, .im (.row (a0.map eLabel))), (1, .im (.row (a1.map eLabel))), (2, .im (.row (a2.map encStr))), (33, bV (decide ((a2.length : Int) > (20 : Int))))], [], 0⟩ [Enters Try.prog 20, Pv.Fn Try.prog 20 [.im (.row (a0.map eLabel))] [] 0 (fun r o => r = bV t26 ∧ o = []), (!t26) = false, Enters Try.prog 20, Pv.Fn Try.prog 20 [.im (.row (a1.map eLabel))] [] 0 (fun r o => r = bV t29 ∧ o = []), (!t29) = false, ((a2.map encStr).length : Int) = (a2.length : Int)] (by kernel_rfl) ⟨by exact Try.call20, by exact f_pluviallaw10_Light.ok a0 t26 e27, by exact c28, by exact Try.call20, by exact f_pluviallaw10_Light.ok a1 t29 e30, by exact c31, by rw [len_map], trivial⟩ ?_
        obtain rfl := Option.some.inj H
        exact Exists.intro _ (And.intro (fun _ _ h => h.conv (inv := []) (vk := []) (e0 := []) (t := ⟨[(0, .im (.row (a0.map eLabel))), (1, .im (.row (a1.map eLabel))), (2, .im (.row (a2.map encStr))), (33, bV (decide ((a2.length : Int) > (20 : Int))))], [], 0⟩) (by kernel_rfl)) (And.intro rfl rfl))
  · obtain ⟨x32, rfl⟩ : ∃ z, z = o1815 := ⟨_, rfl⟩
    rintro e s ⟨rfl, rfl⟩
    refine AWp.cond x32 rfl (fun c33 => ?_) (fun c33 => ?_)
    · replace H := (ifT c33).symm.trans H
      refine AWp.seq ?_
      obtain ⟨t337, e338, H⟩ := bind_of H
      refine reg hP hn hm [(0, .call [] [] [] [] 0 (bV t337) [])] [6] [] ⟨[(6, bV t337)], [], 0⟩ [Enters Try.prog 11, Pv.Fn Try.prog 11 [] [] 0 (fun r o => r = bV t337 ∧ o = [])] (by kernel_rfl) ⟨by exact Try.call11, by exact f_pluviallaw10_awake.ok  t337 e338, trivial⟩ ?_
      refine AWp.conv (inv := []) (vk := []) (e0 := []) (t := ⟨[(6, bV t337)], [], 0⟩) (by kernel_rfl) ?_
      refine AWp.ret ?_
      obtain rfl := Option.some.inj H
      exact Exists.intro _ (And.intro (fun _ _ h => h) (And.intro (.inl rfl) (And.intro rfl (And.intro (by kernel_rfl) (by kernel_rfl)))))
    · replace H := (ifF c33).symm.trans H
      refine AWp.skip ?_
      refine AWp.seq ?_
      refine AWp.seq ?_
      obtain ⟨o1817, e1818, H⟩ := bind_of H
      refine AWp.mono (Q := fun e s => (match (generalizing := false) o1817 with | x649 => e = .normal ∧ s = ⟨[(0, .im (.row (a0.map eLabel))), (2, .im (.row (a2.map encStr))), (48, bV x649)], [], 0⟩)) (AWp.cv ?_) ?_
      · replace H := e1818; clear e1818
        obtain ⟨t640, e641, H⟩ := bind_of H
        obtain ⟨t642, e643, H⟩ := bind_of H
        rcases Bool.eq_false_or_eq_true (t640 != t642) with c644 | c644
        · replace H := (ifT c644).symm.trans H
          refine reg hP hn hm [(1, .call [] [] [] [] 0 (iV .i64 t640) []), (3, .call [] [] [] [] 0 (iV .i64 t642) []), (5, .b true)] [0, 2, 48] [] ⟨[(0, .im (.row (a0.map eLabel))), (2, .im (.row (a2.map encStr))), (48, bV true)], [], 0⟩ [Enters Try.prog 35, Pv.Fn Try.prog 35 [.im (.row (a0.map eLabel))] [] 0 (fun r o => r = iV .i64 t640 ∧ o = []), Enters Try.prog 21, Pv.Fn Try.prog 21 [.im (.row (a0.map eLabel))] [] 0 (fun r o => r = iV .i64 t642 ∧ o = []), (t640 != t642) = true] (by kernel_rfl) ⟨by exact Try.call35, by exact f_label_Check.ok a0 t640 e641, by exact Try.call21, by exact f_pluvialref10_Check.ok a0 t642 e643, by exact c644, trivial⟩ ?_
          obtain rfl := Option.some.inj H
          exact Exists.intro _ (And.intro (fun _ _ h => h.conv (inv := []) (vk := []) (e0 := []) (t := ⟨[(0, .im (.row (a0.map eLabel))), (2, .im (.row (a2.map encStr))), (48, bV true)], [], 0⟩) (by kernel_rfl)) (And.intro rfl rfl))
        · replace H := (ifF c644).symm.trans H
          obtain ⟨t645, e646, H⟩ := bind_of H
          obtain ⟨t647, e648, H⟩ := bind_of H
          refine reg hP hn hm [(1, .call [] [] [] [] 0 (iV .i64 t640) []), (3, .call [] [] [] [] 0 (iV .i64 t642) []), (5, .b false), (8, .call [] [] [] [] 0 (iV .i64 t645) []), (11, .call [] [] [] [] 0 (iV .i64 t647) [])] [0, 2, 48] [] ⟨[(0, .im (.row (a0.map eLabel))), (2, .im (.row (a2.map encStr))), (48, bV (t645 != t647))], [], 0⟩ [Enters Try.prog 35, Pv.Fn Try.prog 35 [.im (.row (a0.map eLabel))] [] 0 (fun r o => r = iV .i64 t640 ∧ o = []), Enters Try.prog 21, Pv.Fn Try.prog 21 [.im (.row (a0.map eLabel))] [] 0 (fun r o => r = iV .i64 t642 ∧ o = []), (t640 != t642) = false, Enters Try.prog 36, Pv.Fn Try.prog 36 [.im (.row (a0.map eLabel)), .im (.row (a1.map eLabel))] [] 0 (fun r o => r = iV .i64 t645 ∧ o = []), Enters Try.prog 37, Pv.Fn Try.prog 37 [.im (.row (a0.map eLabel)), .im (.row (a1.map eLabel))] [] 0 (fun r o => r = iV .i64 t647 ∧ o = [])] (by kernel_rfl) ⟨by exact Try.call35, by exact f_label_Check.ok a0 t640 e641, by exact Try.call21, by exact f_pluvialref10_Check.ok a0 t642 e643, by exact c644, by exact Try.call36, by exact f_label_Compare.ok a0 a1 t645 e646, by exact Try.call37, by exact f_pluvialref10_Compare.ok a0 a1 t647 e648, trivial⟩ ?_
          obtain rfl := Option.some.inj H
          exact Exists.intro _ (And.intro (fun _ _ h => h.conv (inv := []) (vk := []) (e0 := []) (t := ⟨[(0, .im (.row (a0.map eLabel))), (2, .im (.row (a2.map encStr))), (48, bV (t645 != t647))], [], 0⟩) (by kernel_rfl)) (And.intro rfl rfl))
      · obtain ⟨x649, rfl⟩ : ∃ z, z = o1817 := ⟨_, rfl⟩
        rintro e s ⟨rfl, rfl⟩
        refine AWp.cond x649 rfl (fun c650 => ?_) (fun c650 => ?_)
        · replace H := (ifT c650).symm.trans H
          refine AWp.seq ?_
          refine reg hP hn hm [] [6] [] ⟨[(6, bV false)], [], 0⟩ [] (by kernel_rfl) trivial ?_
          refine AWp.conv (inv := []) (vk := []) (e0 := []) (t := ⟨[(6, bV false)], [], 0⟩) (by kernel_rfl) ?_
          refine AWp.ret ?_
          obtain rfl := Option.some.inj H
          exact Exists.intro _ (And.intro (fun _ _ h => h) (And.intro (.inl rfl) (And.intro rfl (And.intro (by kernel_rfl) (by kernel_rfl)))))
        · replace H := (ifF c650).symm.trans H
          refine AWp.skip ?_
          refine AWp.seq ?_
          obtain ⟨t1361, e1362, H⟩ := bind_of H
          refine reg hP hn hm [(1, .call [] [(0, 0)] [] [0] 0 (.tup [.own 0, iV .i64 t1361.2]) [(0, some (.row 2 67 (t1361.1.map eLabel)))])] [0, 2, 7, 8] [0] ⟨[(0, .im (.row (a0.map eLabel))), (2, .im (.row (a2.map encStr))), (7, .own 0), (8, iV .i64 t1361.2)], [(0, some (.row 2 67 (t1361.1.map eLabel)))], 0⟩ [Enters Try.prog 38, Pv.Fn Try.prog 38 [.im (.row (a0.map eLabel))] [] 0 (fun r o => r = .tup [.own 0, iV .i64 t1361.2] ∧ o = [(0, some (.row 2 67 (t1361.1.map eLabel)))])] (by kernel_rfl) ⟨by exact Try.call38, by exact f_label_Make.ok a0 t1361 e1362, trivial⟩ ?_
          refine AWp.seq ?_
          obtain ⟨t1515, e1516, H⟩ := bind_of H
          refine reg hP hn hm [(1, .call [] [(0, 1)] [] [1] 0 (.tup [.own 0, iV .i64 t1515.2]) [(0, some (.row 2 67 (t1515.1.map eLabel)))])] [0, 2, 7, 8, 9, 10] [0, 1] ⟨[(0, .im (.row (a0.map eLabel))), (2, .im (.row (a2.map encStr))), (7, .own 0), (8, iV .i64 t1361.2), (9, .own 1), (10, iV .i64 t1515.2)], [(0, some (.row 2 67 (t1361.1.map eLabel))), (1, some (.row 2 67 (t1515.1.map eLabel)))], 0⟩ [Enters Try.prog 39, Pv.Fn Try.prog 39 [.im (.row (a0.map eLabel))] [] 0 (fun r o => r = .tup [.own 0, iV .i64 t1515.2] ∧ o = [(0, some (.row 2 67 (t1515.1.map eLabel)))])] (by kernel_rfl) ⟨by exact Try.call39, by exact f_pluvialref10_Make.ok a0 t1515 e1516, trivial⟩ ?_
          refine AWp.seq ?_
          refine AWp.seq ?_
          obtain ⟨o1819, e1820, H⟩ := bind_of H
          refine AWp.mono (Q := fun e s => (match (generalizing := false) o1819 with | x1527 => e = .normal ∧ s = ⟨[(0, .im (.row (a0.map eLabel))), (2, .im (.row (a2.map encStr))), (67, bV x1527)], [], 0⟩)) (AWp.cv ?_) ?_
          · replace H := e1820; clear e1820
            rcases Bool.eq_false_or_eq_true (t1361.2 != t1515.2) with c1524 | c1524
            · replace H := (ifT c1524).symm.trans H
              refine reg hP hn hm [(3, .b true)] [0, 2, 67] [] ⟨[(0, .im (.row (a0.map eLabel))), (2, .im (.row (a2.map encStr))), (67, bV true)], [], 0⟩ [(t1361.2 != t1515.2) = true] (by kernel_rfl) ⟨by exact c1524, trivial⟩ ?_
              obtain rfl := Option.some.inj H
              exact Exists.intro _ (And.intro (fun _ _ h => h.conv (inv := []) (vk := []) (e0 := []) (t := ⟨[(0, .im (.row (a0.map eLabel))), (2, .im (.row (a2.map encStr))), (67, bV true)], [], 0⟩) (by kernel_rfl)) (And.intro rfl rfl))
            · replace H := (ifF c1524).symm.trans H
              obtain ⟨t1525, e1526, H⟩ := bind_of H
              refine reg hP hn hm [(3, .b false), (6, .call [] [] [0, 1] [] 0 (bV t1525) [])] [0, 2, 67] [] ⟨[(0, .im (.row (a0.map eLabel))), (2, .im (.row (a2.map encStr))), (67, bV (!t1525))], [], 0⟩ [(t1361.2 != t1515.2) = false, Enters Try.prog 28, Pv.Fn Try.prog 28 [.im (.row (t1361.1.map eLabel)), .im (.row (t1515.1.map eLabel))] [] 0 (fun r o => r = bV t1525 ∧ o = [])] (by kernel_rfl) ⟨by exact c1524, by exact Try.call28, by exact f_pluviallaw10_same.ok t1361.1 t1515.1 t1525 e1526, trivial⟩ ?_
              obtain rfl := Option.some.inj H
              exact Exists.intro _ (And.intro (fun _ _ h => h.conv (inv := []) (vk := []) (e0 := []) (t := ⟨[(0, .im (.row (a0.map eLabel))), (2, .im (.row (a2.map encStr))), (67, bV (!t1525))], [], 0⟩) (by kernel_rfl)) (And.intro rfl rfl))
          · obtain ⟨x1527, rfl⟩ : ∃ z, z = o1819 := ⟨_, rfl⟩
            rintro e s ⟨rfl, rfl⟩
            refine AWp.cond x1527 rfl (fun c1528 => ?_) (fun c1528 => ?_)
            · replace H := (ifT c1528).symm.trans H
              refine AWp.seq ?_
              refine reg hP hn hm [] [6] [] ⟨[(6, bV false)], [], 0⟩ [] (by kernel_rfl) trivial ?_
              refine AWp.conv (inv := []) (vk := []) (e0 := []) (t := ⟨[(6, bV false)], [], 0⟩) (by kernel_rfl) ?_
              refine AWp.ret ?_
              obtain rfl := Option.some.inj H
              exact Exists.intro _ (And.intro (fun _ _ h => h) (And.intro (.inl rfl) (And.intro rfl (And.intro (by kernel_rfl) (by kernel_rfl)))))
            · replace H := (ifF c1528).symm.trans H
              refine AWp.skip ?_
              refine AWp.seq ?_
              refine reg hP hn hm [] [0, 2, 11] [] ⟨[(0, .im (.row (a0.map eLabel))), (2, .im (.row (a2.map encStr))), (11, .none0)], [], 0⟩ [] (by kernel_rfl) trivial ?_
              refine AWp.seq ?_
              refine AWp.seq ?_
              refine reg hP hn hm [(1, .any (iV .i64 (a0.length : Int)))] [0, 2, 11, 68, 69, 70] [] ⟨[(0, .im (.row (a0.map eLabel))), (2, .im (.row (a2.map encStr))), (11, .none0), (68, .im (.row (a0.map eLabel))), (69, iV .i64 (a0.length : Int)), (70, iV .i64 0)], [], 0⟩ [((a0.map eLabel).length : Int) = (a0.length : Int)] (by kernel_rfl) ⟨by rw [len_map], trivial⟩ ?_
              refine AWp.block ?_
              obtain ⟨o1821, e1822, H⟩ := bind_of H
              refine AWp.loop (LWp.conv (inv := []) (vk := []) (e0 := [9]) (t := ⟨[(0, .im (.row (a0.map eLabel))), (2, .im (.row (a2.map encStr))), (11, .own 9), (68, .im (.row (a0.map eLabel))), (69, iV .i64 (a0.length : Int)), (70, iV .i64 0)], [(9, some (.row 2 67 ([].map eLabel)))], 0⟩) (by kernel_rfl) ?_)
              refine LWp.mono (Q := fun e s => (match (generalizing := false) o1821 with | x1593 => e = .exit 0 ∧ s = ⟨[(0, .im (.row (a0.map eLabel))), (2, .im (.row (a2.map encStr))), (11, .own 20)], [(20, some (.row 2 67 (x1593.map eLabel)))], 0⟩)) (LWp.cv (withBody (fun body hbody => ?_))) ?_
              · refine f_pluviallaw10_LabelMakes.l0.partial_correctness a0 a2 (motive := fun x1560 x1561 o1821 => LWp Γ body (fun e s => ∃ t, Cv Γ s t ∧ (match (generalizing := false) o1821 with | x1593 => e = .exit 0 ∧ t = ⟨[(0, .im (.row (a0.map eLabel))), (2, .im (.row (a2.map encStr))), (11, .own 20)], [(20, some (.row 2 67 (x1593.map eLabel)))], 0⟩)) ⟨[(0, .im (.row (a0.map eLabel))), (2, .im (.row (a2.map encStr))), (11, .own 9), (68, .im (.row (a0.map eLabel))), (69, iV .i64 (a0.length : Int)), (70, iV .i64 x1561)], [(9, some (.row 2 67 (x1560.map eLabel)))], 0⟩) ?_ _ _ _ e1822
                clear H e1822 o1821; intro self ih x1560 x1561 o1821 H
                subst hbody
                refine LWp.round ?_
                refine AWp.seq ?_
                refine reg hP hn hm [] [0, 2, 11, 68, 69, 70, 71] [9] ⟨[(0, .im (.row (a0.map eLabel))), (2, .im (.row (a2.map encStr))), (11, .own 9), (68, .im (.row (a0.map eLabel))), (69, iV .i64 (a0.length : Int)), (70, iV .i64 x1561), (71, bV (decide (x1561 < (a0.length : Int))))], [(9, some (.row 2 67 (x1560.map eLabel)))], 0⟩ [] (by kernel_rfl) trivial ?_
                refine AWp.seq ?_
                refine AWp.cond (decide (x1561 < (a0.length : Int))) rfl (fun c1562 => ?_) (fun c1562 => ?_)
                · replace H := (ifT c1562).symm.trans H
                  refine AWp.skip ?_
                  refine AWp.seq ?_
                  refine AWp.block ?_
                  refine AWp.seq ?_
                  obtain ⟨b1566, p1567, q1568, H⟩ := at_of H
                  refine reg hP hn hm [(0, .c (eLabel b1566)), (2, .k 10)] [0, 2, 11, 13, 68, 69, 70] [9, 10] ⟨[(0, .im (.row (a0.map eLabel))), (2, .im (.row (a2.map encStr))), (11, .own 9), (13, .ptr 10 0 0), (68, .im (.row (a0.map eLabel))), (69, iV .i64 (a0.length : Int)), (70, iV .i64 x1561)], [(9, some (.row 2 67 (x1560.map eLabel))), (10, some (.box 67 (aLabel b1566)))], 0⟩ [0 ≤ x1561, (a0.map eLabel)[(Int.toNat (x1561))]? = some (eLabel b1566)] (by kernel_rfl) ⟨by exact p1567, by exact el_map eLabel q1568, trivial⟩ ?_
                  refine AWp.seq ?_
                  refine reg hP hn hm [] [0, 2, 11, 13, 14, 68, 69, 70] [9, 10] ⟨[(0, .im (.row (a0.map eLabel))), (2, .im (.row (a2.map encStr))), (11, .own 9), (13, .ptr 10 0 0), (14, bV false), (68, .im (.row (a0.map eLabel))), (69, iV .i64 (a0.length : Int)), (70, iV .i64 x1561)], [(9, some (.row 2 67 (x1560.map eLabel))), (10, some (.box 67 (aLabel b1566)))], 0⟩ [] (by kernel_rfl) trivial ?_
                  refine AWp.seq ?_
                  refine AWp.seq ?_
                  refine reg hP hn hm [(1, .any (iV .i64 (a2.length : Int)))] [0, 2, 11, 13, 14, 68, 69, 70, 74, 75, 76] [9, 10] ⟨[(0, .im (.row (a0.map eLabel))), (2, .im (.row (a2.map encStr))), (11, .own 9), (13, .ptr 10 0 0), (14, bV false), (68, .im (.row (a0.map eLabel))), (69, iV .i64 (a0.length : Int)), (70, iV .i64 x1561), (74, .im (.row (a2.map encStr))), (75, iV .i64 (a2.length : Int)), (76, iV .i64 0)], [(9, some (.row 2 67 (x1560.map eLabel))), (10, some (.box 67 (aLabel b1566)))], 0⟩ [((a2.map encStr).length : Int) = (a2.length : Int)] (by kernel_rfl) ⟨by rw [len_map], trivial⟩ ?_
                  refine AWp.block ?_
                  obtain ⟨o1823, e1824, H⟩ := bind_of H
                  refine AWp.loop (LWp.conv (inv := [(9, 11), (10, 12)]) (vk := []) (e0 := []) (t := ⟨[(0, .im (.row (a0.map eLabel))), (2, .im (.row (a2.map encStr))), (11, .own 11), (13, .ptr 12 0 0), (14, bV false), (68, .im (.row (a0.map eLabel))), (69, iV .i64 (a0.length : Int)), (70, iV .i64 x1561), (74, .im (.row (a2.map encStr))), (75, iV .i64 (a2.length : Int)), (76, iV .i64 0)], [(11, some (.row 2 67 (x1560.map eLabel))), (12, some (.box 67 (aLabel b1566)))], 0⟩) (by kernel_rfl) ?_)
                  refine LWp.mono (Q := fun e s => (match (generalizing := false) o1823 with | x1588 => e = .exit 2 ∧ s = ⟨[(0, .im (.row (a0.map eLabel))), (2, .im (.row (a2.map encStr))), (11, .own 15), (13, .ptr 16 0 0), (14, bV x1588), (68, .im (.row (a0.map eLabel))), (69, iV .i64 (a0.length : Int)), (70, iV .i64 x1561)], [(15, some (.row 2 67 (x1560.map eLabel))), (16, some (.box 67 (aLabel b1566)))], 0⟩)) (LWp.cv (withBody (fun body hbody => ?_))) ?_
                  · refine f_pluviallaw10_LabelMakes.l1.partial_correctness a0 a2 b1566 x1560 x1561 (motive := fun x1576 x1577 o1823 => LWp Γ body (fun e s => ∃ t, Cv Γ s t ∧ (match (generalizing := false) o1823 with | x1588 => e = .exit 2 ∧ t = ⟨[(0, .im (.row (a0.map eLabel))), (2, .im (.row (a2.map encStr))), (11, .own 15), (13, .ptr 16 0 0), (14, bV x1588), (68, .im (.row (a0.map eLabel))), (69, iV .i64 (a0.length : Int)), (70, iV .i64 x1561)], [(15, some (.row 2 67 (x1560.map eLabel))), (16, some (.box 67 (aLabel b1566)))], 0⟩)) ⟨[(0, .im (.row (a0.map eLabel))), (2, .im (.row (a2.map encStr))), (11, .own 11), (13, .ptr 12 0 0), (14, bV x1576), (68, .im (.row (a0.map eLabel))), (69, iV .i64 (a0.length : Int)), (70, iV .i64 x1561), (74, .im (.row (a2.map encStr))), (75, iV .i64 (a2.length : Int)), (76, iV .i64 x1577)], [(11, some (.row 2 67 (x1560.map eLabel))), (12, some (.box 67 (aLabel b1566)))], 0⟩) ?_ _ _ _ e1824
                    clear H e1824 o1823; intro self ih x1576 x1577 o1823 H
                    subst hbody
                    refine LWp.round ?_
                    refine AWp.seq ?_
                    refine reg hP hn hm [] [0, 2, 11, 13, 14, 68, 69, 70, 74, 75, 76, 77] [11, 12] ⟨[(0, .im (.row (a0.map eLabel))), (2, .im (.row (a2.map encStr))), (11, .own 11), (13, .ptr 12 0 0), (14, bV x1576), (68, .im (.row (a0.map eLabel))), (69, iV .i64 (a0.length : Int)), (70, iV .i64 x1561), (74, .im (.row (a2.map encStr))), (75, iV .i64 (a2.length : Int)), (76, iV .i64 x1577), (77, bV (decide (x1577 < (a2.length : Int))))], [(11, some (.row 2 67 (x1560.map eLabel))), (12, some (.box 67 (aLabel b1566)))], 0⟩ [] (by kernel_rfl) trivial ?_
                    refine AWp.seq ?_
                    refine AWp.cond (decide (x1577 < (a2.length : Int))) rfl (fun c1578 => ?_) (fun c1578 => ?_)
                    · replace H := (ifT c1578).symm.trans H
                      refine AWp.skip ?_
                      refine AWp.seq ?_
                      refine AWp.block ?_
                      refine AWp.seq ?_
                      obtain ⟨b1582, p1583, q1584, H⟩ := at_of H
                      refine reg hP hn hm [(0, .c (encStr b1582))] [0, 2, 11, 13, 14, 16, 68, 69, 70, 74, 75, 76] [11, 12] ⟨[(0, .im (.row (a0.map eLabel))), (2, .im (.row (a2.map encStr))), (11, .own 11), (13, .ptr 12 0 0), (14, bV x1576), (16, sV b1582), (68, .im (.row (a0.map eLabel))), (69, iV .i64 (a0.length : Int)), (70, iV .i64 x1561), (74, .im (.row (a2.map encStr))), (75, iV .i64 (a2.length : Int)), (76, iV .i64 x1577)], [(11, some (.row 2 67 (x1560.map eLabel))), (12, some (.box 67 (aLabel b1566)))], 0⟩ [0 ≤ x1577, (a2.map encStr)[(Int.toNat (x1577))]? = some (encStr b1582)] (by kernel_rfl) ⟨by exact p1583, by exact el_map encStr q1584, trivial⟩ ?_
                      obtain ⟨o1825, e1826, H⟩ := bind_of H
                      refine AWp.mono (Q := fun e s => (match (generalizing := false) o1825 with | x1587 => e = .normal ∧ s = ⟨[(0, .im (.row (a0.map eLabel))), (2, .im (.row (a2.map encStr))), (11, .own 13), (13, .ptr 14 0 0), (14, bV x1587), (68, .im (.row (a0.map eLabel))), (69, iV .i64 (a0.length : Int)), (70, iV .i64 x1561), (74, .im (.row (a2.map encStr))), (75, iV .i64 (a2.length : Int)), (76, iV .i64 x1577)], [(13, some (.row 2 67 (x1560.map eLabel))), (14, some (.box 67 (aLabel b1566)))], 0⟩)) (AWp.cv ?_) ?_
                      · replace H := e1826; clear e1826
                        rcases Bool.eq_false_or_eq_true x1576 with c1586 | c1586
                        · replace H := (ifT c1586).symm.trans H
                          refine reg hP hn hm [(1, .b true)] [0, 2, 11, 13, 14, 68, 69, 70, 74, 75, 76] [11, 12] ⟨[(0, .im (.row (a0.map eLabel))), (2, .im (.row (a2.map encStr))), (11, .own 11), (13, .ptr 12 0 0), (14, bV true), (68, .im (.row (a0.map eLabel))), (69, iV .i64 (a0.length : Int)), (70, iV .i64 x1561), (74, .im (.row (a2.map encStr))), (75, iV .i64 (a2.length : Int)), (76, iV .i64 x1577)], [(11, some (.row 2 67 (x1560.map eLabel))), (12, some (.box 67 (aLabel b1566)))], 0⟩ [x1576 = true] (by kernel_rfl) ⟨by exact c1586, trivial⟩ ?_
                          obtain rfl := Option.some.inj H
                          exact Exists.intro _ (And.intro (fun _ _ h => h.conv (inv := [(11, 13), (12, 14)]) (vk := []) (e0 := []) (t := ⟨[(0, .im (.row (a0.map eLabel))), (2, .im (.row (a2.map encStr))), (11, .own 13), (13, .ptr 14 0 0), (14, bV true), (68, .im (.row (a0.map eLabel))), (69, iV .i64 (a0.length : Int)), (70, iV .i64 x1561), (74, .im (.row (a2.map encStr))), (75, iV .i64 (a2.length : Int)), (76, iV .i64 x1577)], [(13, some (.row 2 67 (x1560.map eLabel))), (14, some (.box 67 (aLabel b1566)))], 0⟩) (by kernel_rfl)) (And.intro rfl rfl))
                        · replace H := (ifF c1586).symm.trans H
                          refine reg hP hn hm [(1, .b false)] [0, 2, 11, 13, 14, 68, 69, 70, 74, 75, 76, 82, 83, 84, 85] [11, 12] ⟨[(0, .im (.row (a0.map eLabel))), (2, .im (.row (a2.map encStr))), (11, .own 11), (13, .ptr 12 0 0), (14, bV (b1582.toList == b1566.f0.toList)), (68, .im (.row (a0.map eLabel))), (69, iV .i64 (a0.length : Int)), (70, iV .i64 x1561), (74, .im (.row (a2.map encStr))), (75, iV .i64 (a2.length : Int)), (76, iV .i64 x1577), (82, sV b1582), (83, .ptr 12 0 0), (84, sV b1566.f0), (85, bV (b1582.toList == b1566.f0.toList))], [(11, some (.row 2 67 (x1560.map eLabel))), (12, some (.box 67 (aLabel b1566)))], 0⟩ [x1576 = false] (by kernel_rfl) ⟨by exact c1586, trivial⟩ ?_
                          obtain rfl := Option.some.inj H
                          exact Exists.intro _ (And.intro (fun _ _ h => h.conv (inv := [(11, 13), (12, 14)]) (vk := []) (e0 := []) (t := ⟨[(0, .im (.row (a0.map eLabel))), (2, .im (.row (a2.map encStr))), (11, .own 13), (13, .ptr 14 0 0), (14, bV (b1582.toList == b1566.f0.toList)), (68, .im (.row (a0.map eLabel))), (69, iV .i64 (a0.length : Int)), (70, iV .i64 x1561), (74, .im (.row (a2.map encStr))), (75, iV .i64 (a2.length : Int)), (76, iV .i64 x1577)], [(13, some (.row 2 67 (x1560.map eLabel))), (14, some (.box 67 (aLabel b1566)))], 0⟩) (by kernel_rfl)) (And.intro rfl rfl))
                      · obtain ⟨x1587, rfl⟩ : ∃ z, z = o1825 := ⟨_, rfl⟩
                        rintro e s ⟨rfl, rfl⟩
                        refine reg hP hn hm [] [0, 2, 11, 13, 14, 68, 69, 70, 74, 75, 76] [13, 14] ⟨[(0, .im (.row (a0.map eLabel))), (2, .im (.row (a2.map encStr))), (11, .own 13), (13, .ptr 14 0 0), (14, bV x1587), (68, .im (.row (a0.map eLabel))), (69, iV .i64 (a0.length : Int)), (70, iV .i64 x1561), (74, .im (.row (a2.map encStr))), (75, iV .i64 (a2.length : Int)), (76, iV .i64 (IntKind.i64.wrap (x1577 + (1 : Int))))], [(13, some (.row 2 67 (x1560.map eLabel))), (14, some (.box 67 (aLabel b1566)))], 0⟩ [] (by kernel_rfl) trivial ?_
                        exact LWp.conv (inv := [(13, 11), (14, 12)]) (vk := []) (e0 := []) (t := ⟨[(0, .im (.row (a0.map eLabel))), (2, .im (.row (a2.map encStr))), (11, .own 11), (13, .ptr 12 0 0), (14, bV x1587), (68, .im (.row (a0.map eLabel))), (69, iV .i64 (a0.length : Int)), (70, iV .i64 x1561), (74, .im (.row (a2.map encStr))), (75, iV .i64 (a2.length : Int)), (76, iV .i64 (IntKind.i64.wrap (x1577 + (1 : Int))))], [(11, some (.row 2 67 (x1560.map eLabel))), (12, some (.box 67 (aLabel b1566)))], 0⟩) (by kernel_rfl) (ih _ _ _ H)
                    · replace H := (ifF c1578).symm.trans H
                      refine AWp.exit ?_
                      obtain rfl := Option.some.inj H
                      exact Exists.intro _ (And.intro (fun _ _ h => h.conv (inv := [(11, 15), (12, 16)]) (vk := []) (e0 := []) (t := ⟨[(0, .im (.row (a0.map eLabel))), (2, .im (.row (a2.map encStr))), (11, .own 15), (13, .ptr 16 0 0), (14, bV x1576), (68, .im (.row (a0.map eLabel))), (69, iV .i64 (a0.length : Int)), (70, iV .i64 x1561)], [(15, some (.row 2 67 (x1560.map eLabel))), (16, some (.box 67 (aLabel b1566)))], 0⟩) (by kernel_rfl)) (And.intro rfl rfl))
                  · obtain ⟨x1588, rfl⟩ : ∃ z, z = o1823 := ⟨_, rfl⟩
                    rintro e s ⟨rfl, rfl⟩
                    refine AWp.seq ?_
                    refine reg hP hn hm [] [0, 2, 11, 13, 68, 69, 70, 88] [15, 16] ⟨[(0, .im (.row (a0.map eLabel))), (2, .im (.row (a2.map encStr))), (11, .own 15), (13, .ptr 16 0 0), (68, .im (.row (a0.map eLabel))), (69, iV .i64 (a0.length : Int)), (70, iV .i64 x1561), (88, bV x1588)], [(15, some (.row 2 67 (x1560.map eLabel))), (16, some (.box 67 (aLabel b1566)))], 0⟩ [] (by kernel_rfl) trivial ?_
                    obtain ⟨o1827, e1828, H⟩ := bind_of H
                    refine AWp.mono (Q := fun e s => (match (generalizing := false) o1827 with | x1592 => e = .normal ∧ s = ⟨[(0, .im (.row (a0.map eLabel))), (2, .im (.row (a2.map encStr))), (11, .own 19), (68, .im (.row (a0.map eLabel))), (69, iV .i64 (a0.length : Int)), (70, iV .i64 x1561)], [(19, some (.row 2 67 (x1592.map eLabel)))], 0⟩)) (AWp.cv ?_) ?_
                    · replace H := e1828; clear e1828
                      refine AWp.cond x1588 rfl (fun c1589 => ?_) (fun c1589 => ?_)
                      · replace H := (ifT c1589).symm.trans H
                        obtain ⟨c1591, H⟩ := chk_of H
                        refine reg hP hn hm [(2, .app 17 ([b1566].map eLabel)), (3, .app 18 ((x1560 ++ [b1566]).map eLabel))] [0, 2, 11, 68, 69, 70] [18] ⟨[(0, .im (.row (a0.map eLabel))), (2, .im (.row (a2.map encStr))), (11, .own 18), (68, .im (.row (a0.map eLabel))), (69, iV .i64 (a0.length : Int)), (70, iV .i64 x1561)], [(18, some (.row 2 67 ((x1560 ++ [b1566]).map eLabel)))], 0⟩ [[b1566].map eLabel = [[sI b1566.f0, sI b1566.f1]], (x1560 ++ [b1566]).map eLabel = (x1560.map eLabel) ++ ([b1566].map eLabel), ∀ c ∈ ([b1566].map eLabel), c.length = 2, ∀ c ∈ ([b1566].map eLabel), leaves (c.map .im) = true, ((x1560.map eLabel).length + ([b1566].map eLabel).length) * 32 ≤ 140737488355328] (by kernel_rfl) ⟨by exact rfl, by simp, by exact all_len _ _ _ (fun _ => rfl), by exact all_leaf _ _ (fun _ => rfl), by simpa using c1591, trivial⟩ ?_
                        obtain rfl := Option.some.inj H
                        exact Exists.intro _ (And.intro (fun _ _ h => h.conv (inv := [(18, 19)]) (vk := []) (e0 := []) (t := ⟨[(0, .im (.row (a0.map eLabel))), (2, .im (.row (a2.map encStr))), (11, .own 19), (68, .im (.row (a0.map eLabel))), (69, iV .i64 (a0.length : Int)), (70, iV .i64 x1561)], [(19, some (.row 2 67 ((x1560 ++ [b1566]).map eLabel)))], 0⟩) (by kernel_rfl)) (And.intro rfl rfl))
                      · replace H := (ifF c1589).symm.trans H
                        refine AWp.skip ?_
                        obtain rfl := Option.some.inj H
                        exact Exists.intro _ (And.intro (fun _ _ h => h.conv (inv := [(15, 19)]) (vk := []) (e0 := []) (t := ⟨[(0, .im (.row (a0.map eLabel))), (2, .im (.row (a2.map encStr))), (11, .own 19), (68, .im (.row (a0.map eLabel))), (69, iV .i64 (a0.length : Int)), (70, iV .i64 x1561)], [(19, some (.row 2 67 (x1560.map eLabel)))], 0⟩) (by kernel_rfl)) (And.intro rfl rfl))
                    · obtain ⟨x1592, rfl⟩ : ∃ z, z = o1827 := ⟨_, rfl⟩
                      rintro e s ⟨rfl, rfl⟩
                      refine reg hP hn hm [] [0, 2, 11, 68, 69, 70] [19] ⟨[(0, .im (.row (a0.map eLabel))), (2, .im (.row (a2.map encStr))), (11, .own 19), (68, .im (.row (a0.map eLabel))), (69, iV .i64 (a0.length : Int)), (70, iV .i64 (IntKind.i64.wrap (x1561 + (1 : Int))))], [(19, some (.row 2 67 (x1592.map eLabel)))], 0⟩ [] (by kernel_rfl) trivial ?_
                      exact LWp.conv (inv := [(19, 9)]) (vk := []) (e0 := []) (t := ⟨[(0, .im (.row (a0.map eLabel))), (2, .im (.row (a2.map encStr))), (11, .own 9), (68, .im (.row (a0.map eLabel))), (69, iV .i64 (a0.length : Int)), (70, iV .i64 (IntKind.i64.wrap (x1561 + (1 : Int))))], [(9, some (.row 2 67 (x1592.map eLabel)))], 0⟩) (by kernel_rfl) (ih _ _ _ H)
                · replace H := (ifF c1562).symm.trans H
                  refine AWp.exit ?_
                  obtain rfl := Option.some.inj H
                  exact Exists.intro _ (And.intro (fun _ _ h => h.conv (inv := [(9, 20)]) (vk := []) (e0 := []) (t := ⟨[(0, .im (.row (a0.map eLabel))), (2, .im (.row (a2.map encStr))), (11, .own 20)], [(20, some (.row 2 67 (x1560.map eLabel)))], 0⟩) (by kernel_rfl)) (And.intro rfl rfl))
              · obtain ⟨x1593, rfl⟩ : ∃ z, z = o1821 := ⟨_, rfl⟩
                rintro e s ⟨rfl, rfl⟩
                refine AWp.seq ?_
                refine AWp.seq ?_
                refine reg hP hn hm [(1, .any (iV .i64 (a2.length : Int)))] [0, 2, 11, 94, 95, 96] [20] ⟨[(0, .im (.row (a0.map eLabel))), (2, .im (.row (a2.map encStr))), (11, .own 20), (94, .im (.row (a2.map encStr))), (95, iV .i64 (a2.length : Int)), (96, iV .i64 0)], [(20, some (.row 2 67 (x1593.map eLabel)))], 0⟩ [((a2.map encStr).length : Int) = (a2.length : Int)] (by kernel_rfl) ⟨by rw [len_map], trivial⟩ ?_
                refine AWp.block ?_
                obtain ⟨o1829, e1830, H⟩ := bind_of H
                refine AWp.loop (LWp.conv (inv := [(20, 25)]) (vk := []) (e0 := []) (t := ⟨[(0, .im (.row (a0.map eLabel))), (2, .im (.row (a2.map encStr))), (11, .own 25), (94, .im (.row (a2.map encStr))), (95, iV .i64 (a2.length : Int)), (96, iV .i64 0)], [(25, some (.row 2 67 (x1593.map eLabel)))], 0⟩) (by kernel_rfl) ?_)
                refine LWp.mono (Q := fun e s => (match (generalizing := false) o1829 with | .inl rr => e = .ret ∧ s.floor = 0 ∧ resOf Try.prog Try.f9 s = some (bV rr) ∧ ([] : List (Nat × Option MObj)) = [] | .inr _ => e = .exit 4 ∧ s = ⟨[(0, .im (.row (a0.map eLabel))), (2, .im (.row (a2.map encStr))), (11, .own 30)], [(30, some (.row 2 67 (x1593.map eLabel)))], 0⟩)) (LWp.cv (withBody (fun body hbody => ?_))) ?_
                · refine f_pluviallaw10_LabelMakes.l2.partial_correctness a0 a2 x1593 (motive := fun x1646 o1829 => LWp Γ body (fun e s => ∃ t, Cv Γ s t ∧ (match (generalizing := false) o1829 with | .inl rr => e = .ret ∧ t.floor = 0 ∧ resOf Try.prog Try.f9 t = some (bV rr) ∧ ([] : List (Nat × Option MObj)) = [] | .inr _ => e = .exit 4 ∧ t = ⟨[(0, .im (.row (a0.map eLabel))), (2, .im (.row (a2.map encStr))), (11, .own 30)], [(30, some (.row 2 67 (x1593.map eLabel)))], 0⟩)) ⟨[(0, .im (.row (a0.map eLabel))), (2, .im (.row (a2.map encStr))), (11, .own 25), (94, .im (.row (a2.map encStr))), (95, iV .i64 (a2.length : Int)), (96, iV .i64 x1646)], [(25, some (.row 2 67 (x1593.map eLabel)))], 0⟩) ?_ _ _ e1830
                  clear H e1830 o1829; intro self ih x1646 o1829 H
                  subst hbody
                  refine LWp.round ?_
                  refine AWp.seq ?_
                  refine reg hP hn hm [] [0, 2, 11, 94, 95, 96, 97] [25] ⟨[(0, .im (.row (a0.map eLabel))), (2, .im (.row (a2.map encStr))), (11, .own 25), (94, .im (.row (a2.map encStr))), (95, iV .i64 (a2.length : Int)), (96, iV .i64 x1646), (97, bV (decide (x1646 < (a2.length : Int))))], [(25, some (.row 2 67 (x1593.map eLabel)))], 0⟩ [] (by kernel_rfl) trivial ?_
                  refine AWp.seq ?_
                  refine AWp.cond (decide (x1646 < (a2.length : Int))) rfl (fun c1647 => ?_) (fun c1647 => ?_)
                  · replace H := (ifT c1647).symm.trans H
                    refine AWp.skip ?_
                    refine AWp.seq ?_
                    refine AWp.block ?_
                    refine AWp.seq ?_
                    obtain ⟨b1651, p1652, q1653, H⟩ := at_of H
                    refine reg hP hn hm [(0, .c (encStr b1651))] [0, 2, 11, 18, 94, 95, 96] [25] ⟨[(0, .im (.row (a0.map eLabel))), (2, .im (.row (a2.map encStr))), (11, .own 25), (18, sV b1651), (94, .im (.row (a2.map encStr))), (95, iV .i64 (a2.length : Int)), (96, iV .i64 x1646)], [(25, some (.row 2 67 (x1593.map eLabel)))], 0⟩ [0 ≤ x1646, (a2.map encStr)[(Int.toNat (x1646))]? = some (encStr b1651)] (by kernel_rfl) ⟨by exact p1652, by exact el_map encStr q1653, trivial⟩ ?_
                    refine AWp.seq ?_
                    refine reg hP hn hm [] [0, 2, 11, 18, 19, 94, 95, 96] [25] ⟨[(0, .im (.row (a0.map eLabel))), (2, .im (.row (a2.map encStr))), (11, .own 25), (18, sV b1651), (19, sV (⟨#[]⟩ : ByteArray)), (94, .im (.row (a2.map encStr))), (95, iV .i64 (a2.length : Int)), (96, iV .i64 x1646)], [(25, some (.row 2 67 (x1593.map eLabel)))], 0⟩ [] (by kernel_rfl) trivial ?_
                    refine AWp.seq ?_
                    refine AWp.seq ?_
                    refine reg hP hn hm [(1, .any (iV .i64 (a0.length : Int)))] [0, 2, 11, 18, 19, 20, 94, 95, 96] [25] ⟨[(0, .im (.row (a0.map eLabel))), (2, .im (.row (a2.map encStr))), (11, .own 25), (18, sV b1651), (19, sV (⟨#[]⟩ : ByteArray)), (20, iV .i64 (IntKind.i64.wrap ((a0.length : Int) - (1 : Int)))), (94, .im (.row (a2.map encStr))), (95, iV .i64 (a2.length : Int)), (96, iV .i64 x1646)], [(25, some (.row 2 67 (x1593.map eLabel)))], 0⟩ [((a0.map eLabel).length : Int) = (a0.length : Int)] (by kernel_rfl) ⟨by rw [len_map], trivial⟩ ?_
                    refine AWp.block ?_
                    obtain ⟨o1831, e1832, H⟩ := bind_of H
                    refine AWp.loop (LWp.conv (inv := [(25, 27)]) (vk := []) (e0 := []) (t := ⟨[(0, .im (.row (a0.map eLabel))), (2, .im (.row (a2.map encStr))), (11, .own 27), (18, sV b1651), (19, sV (⟨#[]⟩ : ByteArray)), (20, iV .i64 (IntKind.i64.wrap ((a0.length : Int) - (1 : Int)))), (94, .im (.row (a2.map encStr))), (95, iV .i64 (a2.length : Int)), (96, iV .i64 x1646)], [(27, some (.row 2 67 (x1593.map eLabel)))], 0⟩) (by kernel_rfl) ?_)
                    refine LWp.mono (Q := fun e s => (match (generalizing := false) o1831 with | x1674 => e = .exit 6 ∧ s = ⟨[(0, .im (.row (a0.map eLabel))), (2, .im (.row (a2.map encStr))), (11, .own 29), (18, sV b1651), (19, sV x1674), (94, .im (.row (a2.map encStr))), (95, iV .i64 (a2.length : Int)), (96, iV .i64 x1646)], [(29, some (.row 2 67 (x1593.map eLabel)))], 0⟩)) (LWp.cv (withBody (fun body hbody => ?_))) ?_
                    · refine f_pluviallaw10_LabelMakes.l3.partial_correctness a0 a2 b1651 x1593 x1646 (motive := fun x1663 x1664 o1831 => LWp Γ body (fun e s => ∃ t, Cv Γ s t ∧ (match (generalizing := false) o1831 with | x1674 => e = .exit 6 ∧ t = ⟨[(0, .im (.row (a0.map eLabel))), (2, .im (.row (a2.map encStr))), (11, .own 29), (18, sV b1651), (19, sV x1674), (94, .im (.row (a2.map encStr))), (95, iV .i64 (a2.length : Int)), (96, iV .i64 x1646)], [(29, some (.row 2 67 (x1593.map eLabel)))], 0⟩)) ⟨[(0, .im (.row (a0.map eLabel))), (2, .im (.row (a2.map encStr))), (11, .own 27), (18, sV b1651), (19, sV x1663), (20, iV .i64 x1664), (94, .im (.row (a2.map encStr))), (95, iV .i64 (a2.length : Int)), (96, iV .i64 x1646)], [(27, some (.row 2 67 (x1593.map eLabel)))], 0⟩) ?_ _ _ _ e1832
                      clear H e1832 o1831; intro self ih x1663 x1664 o1831 H
                      subst hbody
                      refine LWp.round ?_
                      refine AWp.seq ?_
                      refine AWp.seq ?_
                      refine reg hP hn hm [] [0, 2, 11, 18, 19, 20, 94, 95, 96, 104] [27] ⟨[(0, .im (.row (a0.map eLabel))), (2, .im (.row (a2.map encStr))), (11, .own 27), (18, sV b1651), (19, sV x1663), (20, iV .i64 x1664), (94, .im (.row (a2.map encStr))), (95, iV .i64 (a2.length : Int)), (96, iV .i64 x1646), (104, bV (decide (x1664 ≥ (0 : Int))))], [(27, some (.row 2 67 (x1593.map eLabel)))], 0⟩ [] (by kernel_rfl) trivial ?_
                      refine AWp.cond (decide (x1664 ≥ (0 : Int))) rfl (fun c1665 => ?_) (fun c1665 => ?_)
                      · replace H := (ifT c1665).symm.trans H
                        refine AWp.skip ?_
                        refine AWp.seq ?_
                        refine AWp.block ?_
                        refine AWp.seq ?_
                        obtain ⟨b1669, p1670, q1671, H⟩ := at_of H
                        refine reg hP hn hm [(2, .c (eLabel b1669))] [0, 2, 11, 18, 19, 20, 94, 95, 96, 113] [27] ⟨[(0, .im (.row (a0.map eLabel))), (2, .im (.row (a2.map encStr))), (11, .own 27), (18, sV b1651), (19, sV x1663), (20, iV .i64 x1664), (94, .im (.row (a2.map encStr))), (95, iV .i64 (a2.length : Int)), (96, iV .i64 x1646), (113, bV (b1669.f0.toList == b1651.toList))], [(27, some (.row 2 67 (x1593.map eLabel)))], 0⟩ [0 ≤ x1664, (a0.map eLabel)[(Int.toNat (x1664))]? = some (eLabel b1669)] (by kernel_rfl) ⟨by exact p1670, by exact el_map eLabel q1671, trivial⟩ ?_
                        obtain ⟨o1833, e1834, H⟩ := bind_of H
                        refine AWp.mono (Q := fun e s => (match (generalizing := false) o1833 with | x1673 => e = .normal ∧ s = ⟨[(0, .im (.row (a0.map eLabel))), (2, .im (.row (a2.map encStr))), (11, .own 28), (18, sV b1651), (19, sV x1673), (20, iV .i64 x1664), (94, .im (.row (a2.map encStr))), (95, iV .i64 (a2.length : Int)), (96, iV .i64 x1646)], [(28, some (.row 2 67 (x1593.map eLabel)))], 0⟩)) (AWp.cv ?_) ?_
                        · replace H := e1834; clear e1834
                          refine AWp.cond (b1669.f0.toList == b1651.toList) rfl (fun c1672 => ?_) (fun c1672 => ?_)
                          · replace H := (ifT c1672).symm.trans H
                            refine reg hP hn hm [(2, .c (eLabel b1669))] [0, 2, 11, 18, 19, 20, 94, 95, 96] [27] ⟨[(0, .im (.row (a0.map eLabel))), (2, .im (.row (a2.map encStr))), (11, .own 27), (18, sV b1651), (19, sV b1669.f1), (20, iV .i64 x1664), (94, .im (.row (a2.map encStr))), (95, iV .i64 (a2.length : Int)), (96, iV .i64 x1646)], [(27, some (.row 2 67 (x1593.map eLabel)))], 0⟩ [0 ≤ x1664, (a0.map eLabel)[(Int.toNat (x1664))]? = some (eLabel b1669)] (by kernel_rfl) ⟨by exact p1670, by exact el_map eLabel q1671, trivial⟩ ?_
                            obtain rfl := Option.some.inj H
                            exact Exists.intro _ (And.intro (fun _ _ h => h.conv (inv := [(27, 28)]) (vk := []) (e0 := []) (t := ⟨[(0, .im (.row (a0.map eLabel))), (2, .im (.row (a2.map encStr))), (11, .own 28), (18, sV b1651), (19, sV b1669.f1), (20, iV .i64 x1664), (94, .im (.row (a2.map encStr))), (95, iV .i64 (a2.length : Int)), (96, iV .i64 x1646)], [(28, some (.row 2 67 (x1593.map eLabel)))], 0⟩) (by kernel_rfl)) (And.intro rfl rfl))
                          · replace H := (ifF c1672).symm.trans H
                            refine AWp.skip ?_
                            obtain rfl := Option.some.inj H
                            exact Exists.intro _ (And.intro (fun _ _ h => h.conv (inv := [(27, 28)]) (vk := []) (e0 := []) (t := ⟨[(0, .im (.row (a0.map eLabel))), (2, .im (.row (a2.map encStr))), (11, .own 28), (18, sV b1651), (19, sV x1663), (20, iV .i64 x1664), (94, .im (.row (a2.map encStr))), (95, iV .i64 (a2.length : Int)), (96, iV .i64 x1646)], [(28, some (.row 2 67 (x1593.map eLabel)))], 0⟩) (by kernel_rfl)) (And.intro rfl rfl))
                        · obtain ⟨x1673, rfl⟩ : ∃ z, z = o1833 := ⟨_, rfl⟩
                          rintro e s ⟨rfl, rfl⟩
                          refine reg hP hn hm [] [0, 2, 11, 18, 19, 20, 94, 95, 96] [28] ⟨[(0, .im (.row (a0.map eLabel))), (2, .im (.row (a2.map encStr))), (11, .own 28), (18, sV b1651), (19, sV x1673), (20, iV .i64 (IntKind.i64.wrap (x1664 - (1 : Int)))), (94, .im (.row (a2.map encStr))), (95, iV .i64 (a2.length : Int)), (96, iV .i64 x1646)], [(28, some (.row 2 67 (x1593.map eLabel)))], 0⟩ [] (by kernel_rfl) trivial ?_
                          exact LWp.conv (inv := [(28, 27)]) (vk := []) (e0 := []) (t := ⟨[(0, .im (.row (a0.map eLabel))), (2, .im (.row (a2.map encStr))), (11, .own 27), (18, sV b1651), (19, sV x1673), (20, iV .i64 (IntKind.i64.wrap (x1664 - (1 : Int)))), (94, .im (.row (a2.map encStr))), (95, iV .i64 (a2.length : Int)), (96, iV .i64 x1646)], [(27, some (.row 2 67 (x1593.map eLabel)))], 0⟩) (by kernel_rfl) (ih _ _ _ H)
                      · replace H := (ifF c1665).symm.trans H
                        refine AWp.exit ?_
                        obtain rfl := Option.some.inj H
                        exact Exists.intro _ (And.intro (fun _ _ h => h.conv (inv := [(27, 29)]) (vk := []) (e0 := []) (t := ⟨[(0, .im (.row (a0.map eLabel))), (2, .im (.row (a2.map encStr))), (11, .own 29), (18, sV b1651), (19, sV x1663), (94, .im (.row (a2.map encStr))), (95, iV .i64 (a2.length : Int)), (96, iV .i64 x1646)], [(29, some (.row 2 67 (x1593.map eLabel)))], 0⟩) (by kernel_rfl)) (And.intro rfl rfl))
                    · obtain ⟨x1674, rfl⟩ : ∃ z, z = o1831 := ⟨_, rfl⟩
                      rintro e s ⟨rfl, rfl⟩
                      refine AWp.seq ?_
                      obtain ⟨t1677, e1678, H⟩ := bind_of H
                      refine reg hP hn hm [(2, .call [] [] [] [] 0 (sV t1677) [])] [0, 2, 11, 94, 95, 96, 123] [29] ⟨[(0, .im (.row (a0.map eLabel))), (2, .im (.row (a2.map encStr))), (11, .own 29), (94, .im (.row (a2.map encStr))), (95, iV .i64 (a2.length : Int)), (96, iV .i64 x1646), (123, bV (!(t1677.toList == x1674.toList)))], [(29, some (.row 2 67 (x1593.map eLabel)))], 0⟩ [Enters Try.prog 40, Pv.Fn Try.prog 40 [.im (.row (a0.map eLabel)), sV b1651] [] 0 (fun r o => r = sV t1677 ∧ o = [])] (by kernel_rfl) ⟨by exact Try.call40, by exact f_label_Get.ok a0 b1651 t1677 e1678, trivial⟩ ?_
                      refine AWp.cond (!(t1677.toList == x1674.toList)) rfl (fun c1679 => ?_) (fun c1679 => ?_)
                      · replace H := (ifT c1679).symm.trans H
                        refine AWp.seq ?_
                        refine reg hP hn hm [] [6] [] ⟨[(6, bV false)], [], 0⟩ [] (by kernel_rfl) trivial ?_
                        refine AWp.conv (inv := []) (vk := []) (e0 := []) (t := ⟨[(6, bV false)], [], 0⟩) (by kernel_rfl) ?_
                        refine AWp.ret ?_
                        obtain rfl := Option.some.inj H
                        exact Exists.intro _ (And.intro (fun _ _ h => h) (And.intro rfl (And.intro rfl (And.intro (by kernel_rfl) (by kernel_rfl)))))
                      · replace H := (ifF c1679).symm.trans H
                        refine AWp.skip ?_
                        refine reg hP hn hm [] [0, 2, 11, 94, 95, 96] [29] ⟨[(0, .im (.row (a0.map eLabel))), (2, .im (.row (a2.map encStr))), (11, .own 29), (94, .im (.row (a2.map encStr))), (95, iV .i64 (a2.length : Int)), (96, iV .i64 (IntKind.i64.wrap (x1646 + (1 : Int))))], [(29, some (.row 2 67 (x1593.map eLabel)))], 0⟩ [] (by kernel_rfl) trivial ?_
                        exact LWp.conv (inv := [(29, 25)]) (vk := []) (e0 := []) (t := ⟨[(0, .im (.row (a0.map eLabel))), (2, .im (.row (a2.map encStr))), (11, .own 25), (94, .im (.row (a2.map encStr))), (95, iV .i64 (a2.length : Int)), (96, iV .i64 (IntKind.i64.wrap (x1646 + (1 : Int))))], [(25, some (.row 2 67 (x1593.map eLabel)))], 0⟩) (by kernel_rfl) (ih _ _ H)
                  · replace H := (ifF c1647).symm.trans H
                    refine AWp.exit ?_
                    obtain rfl := Option.some.inj H
                    exact Exists.intro _ (And.intro (fun _ _ h => h.conv (inv := [(25, 30)]) (vk := []) (e0 := []) (t := ⟨[(0, .im (.row (a0.map eLabel))), (2, .im (.row (a2.map encStr))), (11, .own 30)], [(30, some (.row 2 67 (x1593.map eLabel)))], 0⟩) (by kernel_rfl)) (And.intro rfl rfl))
                · rcases o1829 with rr | _
                  · skip
                    rintro e s ⟨rfl, hfl, hres⟩
                    obtain rfl := Option.some.inj H
                    exact Exists.intro _ (And.intro (fun _ _ h => h) (And.intro (.inl rfl) (And.intro hfl hres)))
                  · skip
                    rintro e s ⟨rfl, rfl⟩
                    refine AWp.seq ?_
                    obtain ⟨o1835, e1836, H⟩ := bind_of H
                    refine AWp.mono (Q := fun e s => (match (generalizing := false) o1835 with | x1814 => e = .normal ∧ s = ⟨[(6, bV x1814)], [], 0⟩)) (AWp.cv ?_) ?_
                    · replace H := e1836; clear e1836
                      obtain ⟨t1807, e1808, H⟩ := bind_of H
                      rcases Bool.eq_false_or_eq_true t1807 with c1809 | c1809
                      · replace H := (ifT c1809).symm.trans H
                        obtain ⟨t1810, e1811, H⟩ := bind_of H
                        obtain ⟨t1812, e1813, H⟩ := bind_of H
                        refine reg hP hn hm [(0, .call [] [] [] [] 0 (bV t1807) []), (1, .b true), (4, .call [] [(0, 31)] [] [31] 0 (.own 0) [(0, some (.row 2 67 (t1810.map eLabel)))]), (6, .call [] [] [31, 30] [] 0 (bV t1812) [])] [6] [] ⟨[(6, bV t1812)], [], 0⟩ [Enters Try.prog 11, Pv.Fn Try.prog 11 [] [] 0 (fun r o => r = bV t1807 ∧ o = []), t1807 = true, Enters Try.prog 41, Pv.Fn Try.prog 41 [.im (.row (a0.map eLabel)), .im (.row (a2.map encStr))] [] 0 (fun r o => r = .own 0 ∧ o = [(0, some (.row 2 67 (t1810.map eLabel)))]), Enters Try.prog 28, Pv.Fn Try.prog 28 [.im (.row (t1810.map eLabel)), .im (.row (x1593.map eLabel))] [] 0 (fun r o => r = bV t1812 ∧ o = [])] (by kernel_rfl) ⟨by exact Try.call11, by exact f_pluviallaw10_awake.ok  t1807 e1808, by exact c1809, by exact Try.call41, by exact f_label_By.ok a0 a2 t1810 e1811, by exact Try.call28, by exact f_pluviallaw10_same.ok t1810 x1593 t1812 e1813, trivial⟩ ?_
                        obtain rfl := Option.some.inj H
                        exact Exists.intro _ (And.intro (fun _ _ h => h.conv (inv := []) (vk := []) (e0 := []) (t := ⟨[(6, bV t1812)], [], 0⟩) (by kernel_rfl)) (And.intro rfl rfl))
                      · replace H := (ifF c1809).symm.trans H
                        refine reg hP hn hm [(0, .call [] [] [] [] 0 (bV t1807) []), (1, .b false)] [6] [] ⟨[(6, bV false)], [], 0⟩ [Enters Try.prog 11, Pv.Fn Try.prog 11 [] [] 0 (fun r o => r = bV t1807 ∧ o = []), t1807 = false] (by kernel_rfl) ⟨by exact Try.call11, by exact f_pluviallaw10_awake.ok  t1807 e1808, by exact c1809, trivial⟩ ?_
                        obtain rfl := Option.some.inj H
                        exact Exists.intro _ (And.intro (fun _ _ h => h.conv (inv := []) (vk := []) (e0 := []) (t := ⟨[(6, bV false)], [], 0⟩) (by kernel_rfl)) (And.intro rfl rfl))
                    · obtain ⟨x1814, rfl⟩ : ∃ z, z = o1835 := ⟨_, rfl⟩
                      rintro e s ⟨rfl, rfl⟩
                      refine AWp.conv (inv := []) (vk := []) (e0 := []) (t := ⟨[(6, bV x1814)], [], 0⟩) (by kernel_rfl) ?_
                      refine AWp.ret ?_
                      obtain rfl := Option.some.inj H
                      exact Exists.intro _ (And.intro (fun _ _ h => h) (And.intro (.inl rfl) (And.intro rfl (And.intro (by kernel_rfl) (by kernel_rfl)))))
end Go.Proofs.Ytjfhobijgkccdaa.PvGA1
