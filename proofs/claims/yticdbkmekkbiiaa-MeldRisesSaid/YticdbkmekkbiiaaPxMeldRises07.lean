import Derived.Test.YticdbkmekkbiiaaProg
import Derived.Test.YticdbkmekkbiiaaPxMeldRises06
set_option linter.unusedVariables false
set_option linter.unnecessarySimpa false
set_option linter.unusedSimpArgs false
set_option maxRecDepth 10000
namespace Go.Proofs.Yticdbkmekkbiiaa.PvGB
open Go Go.Pv
def f_pluvialref04_Of.l0 (a0 : Int) (a1 : Int) (x1683 : Int) : Option (Int) := (f_pluvialref04_Units.f a0 x1683) >>= fun t1686 => if (decide (t1686 < a1)) = true then (f_pluvialref04_Of.l0 a0 a1 (IntKind.i64.wrap (x1683 + (1 : Int)))) else (some x1683)
partial_fixpoint
def f_pluvialref04_Of.l1 (a0 : Int) (a1 : Int) (x1695 : Int) : Option (Int) := (f_pluvialref04_Units.f a0 (IntKind.i64.wrap (x1695 - (1 : Int)))) >>= fun t1698 => if (decide (t1698 ≥ a1)) = true then (f_pluvialref04_Of.l1 a0 a1 (IntKind.i64.wrap (x1695 - (1 : Int)))) else (some x1695)
partial_fixpoint
def f_pluvialref04_Of.f (a0 : Int) (a1 : Int) : Option (Int × Bool) := (((f_pluvialref04_Right.f a0) >>= fun t1666 => if (!t1666) = true then (some true) else (if (decide (a1 ≤ (-262144))) = true then (some true) else (some (decide (a1 > (262144 : Int)))))) : Option (Bool)) >>= fun x1670 => if x1670 = true then (some (0, false)) else ((f_pluvialref04_step.f a0) >>= fun t1675 => (chk (t1675 ≠ 0)) >>= fun _ => (f_pluvialref04_Of.l0 a0 a1 (IntKind.i64.wrap (Int.tdiv a1 t1675))) >>= fun x1689 => (f_pluvialref04_Of.l1 a0 a1 x1689) >>= fun x1701 => some (x1701, true))
theorem f_pluvialref04_Of.ok (a0 : Int) (a1 : Int) (r : Int × Bool) (H : f_pluvialref04_Of.f a0 a1 = some r) : Pv.Fn Try.prog 76 [iV .i64 a0, iV .i64 a1] [] 0 (fun x o => x = .tup [iV .i64 r.1, bV r.2] ∧ o = []) := by
  unfold f_pluvialref04_Of.f at H
  refine Fn.bodyK [] Try.func76 rfl rfl (fun Γ hP hn => ?_)
  have hm : Try.prog.follows .mixedOrders = true := by kernel_rfl
  replace hn : Γ.n = 38 := hn
  refine AWp.seq ?_
  refine reg hP hn hm [] [0, 1] [] ⟨[(0, iV .i64 a0), (1, iV .i64 a1)], [], 0⟩ [] (by kernel_rfl) trivial ?_
  refine AWp.seq ?_
  refine AWp.seq ?_
  obtain ⟨o1702, e1703, H⟩ := bind_of H
  refine AWp.mono (Q := fun e s => (match (generalizing := false) o1702 with | x1670 => e = .normal ∧ s = ⟨[(0, iV .i64 a0), (1, iV .i64 a1), (17, bV x1670)], [], 0⟩)) (AWp.cv ?_) ?_
  · replace H := e1703; clear e1703
    obtain ⟨t1666, e1667, H⟩ := bind_of H
    rcases Bool.eq_false_or_eq_true (!t1666) with c1668 | c1668
    · replace H := (ifT c1668).symm.trans H
      refine reg hP hn hm [(1, .call [] [] [] [] 0 (bV t1666) []), (3, .b true)] [0, 1, 17] [] ⟨[(0, iV .i64 a0), (1, iV .i64 a1), (17, bV true)], [], 0⟩ [Enters Try.prog 40, Pv.Fn Try.prog 40 [iV .i64 a0] [] 0 (fun r o => r = bV t1666 ∧ o = []), (!t1666) = true] (by kernel_rfl) ⟨by exact Try.call40, by exact f_pluvialref04_Right.ok a0 t1666 e1667, by exact c1668, trivial⟩ ?_
      obtain rfl := Option.some.inj H
      exact Exists.intro _ (And.intro (fun _ _ h => h.conv (inv := []) (vk := []) (e0 := []) (t := ⟨[(0, iV .i64 a0), (1, iV .i64 a1), (17, bV true)], [], 0⟩) (by kernel_rfl)) (And.intro rfl rfl))
    · replace H := (ifF c1668).symm.trans H
      rcases Bool.eq_false_or_eq_true (decide (a1 ≤ (-262144))) with c1669 | c1669
      · replace H := (ifT c1669).symm.trans H
        refine reg hP hn hm [(1, .call [] [] [] [] 0 (bV t1666) []), (3, .b false), (7, .b true)] [0, 1, 17] [] ⟨[(0, iV .i64 a0), (1, iV .i64 a1), (17, bV true)], [], 0⟩ [Enters Try.prog 40, Pv.Fn Try.prog 40 [iV .i64 a0] [] 0 (fun r o => r = bV t1666 ∧ o = []), (!t1666) = false, (decide (a1 ≤ (-262144))) = true] (by kernel_rfl) ⟨by exact Try.call40, by exact f_pluvialref04_Right.ok a0 t1666 e1667, by exact c1668, by exact c1669, trivial⟩ ?_
        obtain rfl := Option.some.inj H
        exact Exists.intro _ (And.intro (fun _ _ h => h.conv (inv := []) (vk := []) (e0 := []) (t := ⟨[(0, iV .i64 a0), (1, iV .i64 a1), (17, bV true)], [], 0⟩) (by kernel_rfl)) (And.intro rfl rfl))
      · replace H := (ifF c1669).symm.trans H
        refine reg hP hn hm [(1, .call [] [] [] [] 0 (bV t1666) []), (3, .b false), (7, .b false)] [0, 1, 17] [] ⟨[(0, iV .i64 a0), (1, iV .i64 a1), (17, bV (decide (a1 > (262144 : Int))))], [], 0⟩ [Enters Try.prog 40, Pv.Fn Try.prog 40 [iV .i64 a0] [] 0 (fun r o => r = bV t1666 ∧ o = []), (!t1666) = false, (decide (a1 ≤ (-262144))) = false] (by kernel_rfl) ⟨by exact Try.call40, by exact f_pluvialref04_Right.ok a0 t1666 e1667, by exact c1668, by exact c1669, trivial⟩ ?_
        obtain rfl := Option.some.inj H
        exact Exists.intro _ (And.intro (fun _ _ h => h.conv (inv := []) (vk := []) (e0 := []) (t := ⟨[(0, iV .i64 a0), (1, iV .i64 a1), (17, bV (decide (a1 > (262144 : Int))))], [], 0⟩) (by kernel_rfl)) (And.intro rfl rfl))
  · obtain ⟨x1670, rfl⟩ : ∃ z, z = o1702 := ⟨_, rfl⟩
    rintro e s ⟨rfl, rfl⟩
    refine AWp.cond x1670 rfl (fun c1671 => ?_) (fun c1671 => ?_)
    · replace H := (ifT c1671).symm.trans H
      refine AWp.seq ?_
      refine reg hP hn hm [] [4, 5] [] ⟨[(4, iV .i64 0), (5, bV false)], [], 0⟩ [] (by kernel_rfl) trivial ?_
      refine AWp.conv (inv := []) (vk := []) (e0 := []) (t := ⟨[(4, iV .i64 0), (5, bV false)], [], 0⟩) (by kernel_rfl) ?_
      refine AWp.ret ?_
      obtain rfl := Option.some.inj H
      exact Exists.intro _ (And.intro (fun _ _ h => h) (And.intro (.inl rfl) (And.intro rfl (And.intro (by kernel_rfl) (by kernel_rfl)))))
    · replace H := (ifF c1671).symm.trans H
      refine AWp.skip ?_
      refine AWp.seq ?_
      obtain ⟨t1675, e1676, H⟩ := bind_of H
      obtain ⟨c1677, H⟩ := chk_of H
      refine reg hP hn hm [(2, .call [] [] [] [] 0 (iV .i64 t1675) [])] [0, 1, 6] [] ⟨[(0, iV .i64 a0), (1, iV .i64 a1), (6, iV .i64 (IntKind.i64.wrap (Int.tdiv a1 t1675)))], [], 0⟩ [Enters Try.prog 68, Pv.Fn Try.prog 68 [iV .i64 a0] [] 0 (fun r o => r = iV .i64 t1675 ∧ o = []), t1675 ≠ 0] (by kernel_rfl) ⟨by exact Try.call68, by exact f_pluvialref04_step.ok a0 t1675 e1676, by exact c1677, trivial⟩ ?_
      refine AWp.seq ?_
      refine AWp.block ?_
      obtain ⟨o1704, e1705, H⟩ := bind_of H
      refine AWp.loop (LWp.conv (inv := []) (vk := []) (e0 := []) (t := ⟨[(0, iV .i64 a0), (1, iV .i64 a1), (6, iV .i64 (IntKind.i64.wrap (Int.tdiv a1 t1675)))], [], 0⟩) (by kernel_rfl) ?_)
      refine LWp.mono (Q := fun e s => (match (generalizing := false) o1704 with | x1689 => e = .exit 0 ∧ s = ⟨[(0, iV .i64 a0), (1, iV .i64 a1), (6, iV .i64 x1689)], [], 0⟩)) (LWp.cv (withBody (fun body hbody => ?_))) ?_
      · refine f_pluvialref04_Of.l0.partial_correctness a0 a1 (motive := fun x1683 o1704 => LWp Γ body (fun e s => ∃ t, Cv Γ s t ∧ (match (generalizing := false) o1704 with | x1689 => e = .exit 0 ∧ t = ⟨[(0, iV .i64 a0), (1, iV .i64 a1), (6, iV .i64 x1689)], [], 0⟩)) ⟨[(0, iV .i64 a0), (1, iV .i64 a1), (6, iV .i64 x1683)], [], 0⟩) ?_ _ _ e1705
        clear H e1705 o1704; intro self ih x1683 o1704 H
        subst hbody
        refine LWp.round ?_
        refine AWp.seq ?_
        refine AWp.seq ?_
        obtain ⟨t1686, e1687, H⟩ := bind_of H
        refine reg hP hn hm [(2, .call [] [] [] [] 0 (iV .i64 t1686) [])] [0, 1, 6, 26] [] ⟨[(0, iV .i64 a0), (1, iV .i64 a1), (6, iV .i64 x1683), (26, bV (decide (t1686 < a1)))], [], 0⟩ [Enters Try.prog 55, Pv.Fn Try.prog 55 [iV .i64 a0, iV .i64 x1683] [] 0 (fun r o => r = iV .i64 t1686 ∧ o = [])] (by kernel_rfl) ⟨by exact Try.call55, by exact f_pluvialref04_Units.ok a0 x1683 t1686 e1687, trivial⟩ ?_
        refine AWp.cond (decide (t1686 < a1)) rfl (fun c1688 => ?_) (fun c1688 => ?_)
        · replace H := (ifT c1688).symm.trans H
          refine AWp.skip ?_
          refine AWp.block ?_
          refine reg hP hn hm [] [0, 1, 6] [] ⟨[(0, iV .i64 a0), (1, iV .i64 a1), (6, iV .i64 (IntKind.i64.wrap (x1683 + (1 : Int))))], [], 0⟩ [] (by kernel_rfl) trivial ?_
          exact LWp.conv (inv := []) (vk := []) (e0 := []) (t := ⟨[(0, iV .i64 a0), (1, iV .i64 a1), (6, iV .i64 (IntKind.i64.wrap (x1683 + (1 : Int))))], [], 0⟩) (by kernel_rfl) (ih _ _ H)
        · replace H := (ifF c1688).symm.trans H
          refine AWp.exit ?_
          obtain rfl := Option.some.inj H
          exact Exists.intro _ (And.intro (fun _ _ h => h.conv (inv := []) (vk := []) (e0 := []) (t := ⟨[(0, iV .i64 a0), (1, iV .i64 a1), (6, iV .i64 x1683)], [], 0⟩) (by kernel_rfl)) (And.intro rfl rfl))
      · obtain ⟨x1689, rfl⟩ : ∃ z, z = o1704 := ⟨_, rfl⟩
        rintro e s ⟨rfl, rfl⟩
        refine AWp.seq ?_
        refine AWp.block ?_
        obtain ⟨o1706, e1707, H⟩ := bind_of H
        refine AWp.loop (LWp.conv (inv := []) (vk := []) (e0 := []) (t := ⟨[(0, iV .i64 a0), (1, iV .i64 a1), (6, iV .i64 x1689)], [], 0⟩) (by kernel_rfl) ?_)
        refine LWp.mono (Q := fun e s => (match (generalizing := false) o1706 with | x1701 => e = .exit 2 ∧ s = ⟨[(6, iV .i64 x1701)], [], 0⟩)) (LWp.cv (withBody (fun body hbody => ?_))) ?_
        · refine f_pluvialref04_Of.l1.partial_correctness a0 a1 (motive := fun x1695 o1706 => LWp Γ body (fun e s => ∃ t, Cv Γ s t ∧ (match (generalizing := false) o1706 with | x1701 => e = .exit 2 ∧ t = ⟨[(6, iV .i64 x1701)], [], 0⟩)) ⟨[(0, iV .i64 a0), (1, iV .i64 a1), (6, iV .i64 x1695)], [], 0⟩) ?_ _ _ e1707
          clear H e1707 o1706; intro self ih x1695 o1706 H
          subst hbody
          refine LWp.round ?_
          refine AWp.seq ?_
          refine AWp.seq ?_
          obtain ⟨t1698, e1699, H⟩ := bind_of H
          refine reg hP hn hm [(3, .call [] [] [] [] 0 (iV .i64 t1698) [])] [0, 1, 6, 34] [] ⟨[(0, iV .i64 a0), (1, iV .i64 a1), (6, iV .i64 x1695), (34, bV (decide (t1698 ≥ a1)))], [], 0⟩ [Enters Try.prog 55, Pv.Fn Try.prog 55 [iV .i64 a0, iV .i64 (IntKind.i64.wrap (x1695 - (1 : Int)))] [] 0 (fun r o => r = iV .i64 t1698 ∧ o = [])] (by kernel_rfl) ⟨by exact Try.call55, by exact f_pluvialref04_Units.ok a0 (IntKind.i64.wrap (x1695 - (1 : Int))) t1698 e1699, trivial⟩ ?_
          refine AWp.cond (decide (t1698 ≥ a1)) rfl (fun c1700 => ?_) (fun c1700 => ?_)
          · replace H := (ifT c1700).symm.trans H
            refine AWp.skip ?_
            refine AWp.block ?_
            refine reg hP hn hm [] [0, 1, 6] [] ⟨[(0, iV .i64 a0), (1, iV .i64 a1), (6, iV .i64 (IntKind.i64.wrap (x1695 - (1 : Int))))], [], 0⟩ [] (by kernel_rfl) trivial ?_
            exact LWp.conv (inv := []) (vk := []) (e0 := []) (t := ⟨[(0, iV .i64 a0), (1, iV .i64 a1), (6, iV .i64 (IntKind.i64.wrap (x1695 - (1 : Int))))], [], 0⟩) (by kernel_rfl) (ih _ _ H)
          · replace H := (ifF c1700).symm.trans H
            refine AWp.exit ?_
            obtain rfl := Option.some.inj H
            exact Exists.intro _ (And.intro (fun _ _ h => h.conv (inv := []) (vk := []) (e0 := []) (t := ⟨[(6, iV .i64 x1695)], [], 0⟩) (by kernel_rfl)) (And.intro rfl rfl))
        · obtain ⟨x1701, rfl⟩ : ∃ z, z = o1706 := ⟨_, rfl⟩
          rintro e s ⟨rfl, rfl⟩
          refine AWp.seq ?_
          refine reg hP hn hm [] [4, 5] [] ⟨[(4, iV .i64 x1701), (5, bV true)], [], 0⟩ [] (by kernel_rfl) trivial ?_
          refine AWp.conv (inv := []) (vk := []) (e0 := []) (t := ⟨[(4, iV .i64 x1701), (5, bV true)], [], 0⟩) (by kernel_rfl) ?_
          refine AWp.ret ?_
          obtain rfl := Option.some.inj H
          exact Exists.intro _ (And.intro (fun _ _ h => h) (And.intro (.inl rfl) (And.intro rfl (And.intro (by kernel_rfl) (by kernel_rfl)))))
def f_pluvialref04_To.f (a0 : Int) (a1 : Int) (a2 : Int) : Option (Int × Int) := (((f_pluvialref04_Right.f a0) >>= fun t1647 => if (!t1647) = true then (some true) else ((f_pluvialref04_Right.f a1) >>= fun t1650 => if (!t1650) = true then (some true) else (some (decide (a1 > a0))))) : Option (Bool)) >>= fun x1653 => if x1653 = true then (some (0, 20)) else ((f_pluvialref04_In.f a0 a2) >>= fun t1657 => if (!t1657) = true then (some (0, 4)) else ((f_pluvialref04_Units.f a0 a2) >>= fun t1710 => (f_pluvialref04_Of.f a1 t1710) >>= fun t1712 => some (t1712.1, 0)))
theorem f_pluvialref04_To.ok (a0 : Int) (a1 : Int) (a2 : Int) (r : Int × Int) (H : f_pluvialref04_To.f a0 a1 a2 = some r) : Pv.Fn Try.prog 63 [iV .i64 a0, iV .i64 a1, iV .i64 a2] [] 0 (fun x o => x = .tup [iV .i64 r.1, iV .i64 r.2] ∧ o = []) := by
  unfold f_pluvialref04_To.f at H
  refine Fn.bodyK [] Try.func63 rfl rfl (fun Γ hP hn => ?_)
  have hm : Try.prog.follows .mixedOrders = true := by kernel_rfl
  replace hn : Γ.n = 36 := hn
  refine AWp.seq ?_
  refine reg hP hn hm [] [0, 1, 2] [] ⟨[(0, iV .i64 a0), (1, iV .i64 a1), (2, iV .i64 a2)], [], 0⟩ [] (by kernel_rfl) trivial ?_
  refine AWp.seq ?_
  refine AWp.seq ?_
  obtain ⟨o1714, e1715, H⟩ := bind_of H
  refine AWp.mono (Q := fun e s => (match (generalizing := false) o1714 with | x1653 => e = .normal ∧ s = ⟨[(0, iV .i64 a0), (1, iV .i64 a1), (2, iV .i64 a2), (22, bV x1653)], [], 0⟩)) (AWp.cv ?_) ?_
  · replace H := e1715; clear e1715
    obtain ⟨t1647, e1648, H⟩ := bind_of H
    rcases Bool.eq_false_or_eq_true (!t1647) with c1649 | c1649
    · replace H := (ifT c1649).symm.trans H
      refine reg hP hn hm [(1, .call [] [] [] [] 0 (bV t1647) []), (3, .b true)] [0, 1, 2, 22] [] ⟨[(0, iV .i64 a0), (1, iV .i64 a1), (2, iV .i64 a2), (22, bV true)], [], 0⟩ [Enters Try.prog 40, Pv.Fn Try.prog 40 [iV .i64 a0] [] 0 (fun r o => r = bV t1647 ∧ o = []), (!t1647) = true] (by kernel_rfl) ⟨by exact Try.call40, by exact f_pluvialref04_Right.ok a0 t1647 e1648, by exact c1649, trivial⟩ ?_
      obtain rfl := Option.some.inj H
      exact Exists.intro _ (And.intro (fun _ _ h => h.conv (inv := []) (vk := []) (e0 := []) (t := ⟨[(0, iV .i64 a0), (1, iV .i64 a1), (2, iV .i64 a2), (22, bV true)], [], 0⟩) (by kernel_rfl)) (And.intro rfl rfl))
    · replace H := (ifF c1649).symm.trans H
      obtain ⟨t1650, e1651, H⟩ := bind_of H
      rcases Bool.eq_false_or_eq_true (!t1650) with c1652 | c1652
      · replace H := (ifT c1652).symm.trans H
        refine reg hP hn hm [(1, .call [] [] [] [] 0 (bV t1647) []), (3, .b false), (5, .call [] [] [] [] 0 (bV t1650) []), (8, .b true)] [0, 1, 2, 22] [] ⟨[(0, iV .i64 a0), (1, iV .i64 a1), (2, iV .i64 a2), (22, bV true)], [], 0⟩ [Enters Try.prog 40, Pv.Fn Try.prog 40 [iV .i64 a0] [] 0 (fun r o => r = bV t1647 ∧ o = []), (!t1647) = false, Enters Try.prog 40, Pv.Fn Try.prog 40 [iV .i64 a1] [] 0 (fun r o => r = bV t1650 ∧ o = []), (!t1650) = true] (by kernel_rfl) ⟨by exact Try.call40, by exact f_pluvialref04_Right.ok a0 t1647 e1648, by exact c1649, by exact Try.call40, by exact f_pluvialref04_Right.ok a1 t1650 e1651, by exact c1652, trivial⟩ ?_
        obtain rfl := Option.some.inj H
        exact Exists.intro _ (And.intro (fun _ _ h => h.conv (inv := []) (vk := []) (e0 := []) (t := ⟨[(0, iV .i64 a0), (1, iV .i64 a1), (2, iV .i64 a2), (22, bV true)], [], 0⟩) (by kernel_rfl)) (And.intro rfl rfl))
      · replace H := (ifF c1652).symm.trans H
        refine reg hP hn hm [(1, .call [] [] [] [] 0 (bV t1647) []), (3, .b false), (5, .call [] [] [] [] 0 (bV t1650) []), (8, .b false)] [0, 1, 2, 22] [] ⟨[(0, iV .i64 a0), (1, iV .i64 a1), (2, iV .i64 a2), (22, bV (decide (a1 > a0)))], [], 0⟩ [Enters Try.prog 40, Pv.Fn Try.prog 40 [iV .i64 a0] [] 0 (fun r o => r = bV t1647 ∧ o = []), (!t1647) = false, Enters Try.prog 40, Pv.Fn Try.prog 40 [iV .i64 a1] [] 0 (fun r o => r = bV t1650 ∧ o = []), (!t1650) = false] (by kernel_rfl) ⟨by exact Try.call40, by exact f_pluvialref04_Right.ok a0 t1647 e1648, by exact c1649, by exact Try.call40, by exact f_pluvialref04_Right.ok a1 t1650 e1651, by exact c1652, trivial⟩ ?_
        obtain rfl := Option.some.inj H
        exact Exists.intro _ (And.intro (fun _ _ h => h.conv (inv := []) (vk := []) (e0 := []) (t := ⟨[(0, iV .i64 a0), (1, iV .i64 a1), (2, iV .i64 a2), (22, bV (decide (a1 > a0)))], [], 0⟩) (by kernel_rfl)) (And.intro rfl rfl))
  · obtain ⟨x1653, rfl⟩ : ∃ z, z = o1714 := ⟨_, rfl⟩
    rintro e s ⟨rfl, rfl⟩
    refine AWp.cond x1653 rfl (fun c1654 => ?_) (fun c1654 => ?_)
    · replace H := (ifT c1654).symm.trans H
      refine AWp.seq ?_
      refine reg hP hn hm [] [6, 7] [] ⟨[(6, iV .i64 0), (7, iV .i64 20)], [], 0⟩ [] (by kernel_rfl) trivial ?_
      refine AWp.conv (inv := []) (vk := []) (e0 := []) (t := ⟨[(6, iV .i64 0), (7, iV .i64 20)], [], 0⟩) (by kernel_rfl) ?_
      refine AWp.ret ?_
      obtain rfl := Option.some.inj H
      exact Exists.intro _ (And.intro (fun _ _ h => h) (And.intro (.inl rfl) (And.intro rfl (And.intro (by kernel_rfl) (by kernel_rfl)))))
    · replace H := (ifF c1654).symm.trans H
      refine AWp.skip ?_
      refine AWp.seq ?_
      refine AWp.seq ?_
      obtain ⟨t1657, e1658, H⟩ := bind_of H
      refine reg hP hn hm [(2, .call [] [] [] [] 0 (bV t1657) [])] [0, 1, 2, 26] [] ⟨[(0, iV .i64 a0), (1, iV .i64 a1), (2, iV .i64 a2), (26, bV (!t1657))], [], 0⟩ [Enters Try.prog 54, Pv.Fn Try.prog 54 [iV .i64 a0, iV .i64 a2] [] 0 (fun r o => r = bV t1657 ∧ o = [])] (by kernel_rfl) ⟨by exact Try.call54, by exact f_pluvialref04_In.ok a0 a2 t1657 e1658, trivial⟩ ?_
      refine AWp.cond (!t1657) rfl (fun c1659 => ?_) (fun c1659 => ?_)
      · replace H := (ifT c1659).symm.trans H
        refine AWp.seq ?_
        refine reg hP hn hm [] [6, 7] [] ⟨[(6, iV .i64 0), (7, iV .i64 4)], [], 0⟩ [] (by kernel_rfl) trivial ?_
        refine AWp.conv (inv := []) (vk := []) (e0 := []) (t := ⟨[(6, iV .i64 0), (7, iV .i64 4)], [], 0⟩) (by kernel_rfl) ?_
        refine AWp.ret ?_
        obtain rfl := Option.some.inj H
        exact Exists.intro _ (And.intro (fun _ _ h => h) (And.intro (.inl rfl) (And.intro rfl (And.intro (by kernel_rfl) (by kernel_rfl)))))
      · replace H := (ifF c1659).symm.trans H
        refine AWp.skip ?_
        refine AWp.seq ?_
        obtain ⟨t1710, e1711, H⟩ := bind_of H
        obtain ⟨t1712, e1713, H⟩ := bind_of H
        refine reg hP hn hm [(3, .call [] [] [] [] 0 (iV .i64 t1710) []), (4, .call [] [] [] [] 0 (.tup [iV .i64 t1712.1, bV t1712.2]) [])] [8] [] ⟨[(8, iV .i64 t1712.1)], [], 0⟩ [Enters Try.prog 55, Pv.Fn Try.prog 55 [iV .i64 a0, iV .i64 a2] [] 0 (fun r o => r = iV .i64 t1710 ∧ o = []), Enters Try.prog 76, Pv.Fn Try.prog 76 [iV .i64 a1, iV .i64 t1710] [] 0 (fun r o => r = .tup [iV .i64 t1712.1, bV t1712.2] ∧ o = [])] (by kernel_rfl) ⟨by exact Try.call55, by exact f_pluvialref04_Units.ok a0 a2 t1710 e1711, by exact Try.call76, by exact f_pluvialref04_Of.ok a1 t1710 t1712 e1713, trivial⟩ ?_
        refine AWp.seq ?_
        refine reg hP hn hm [] [6, 7] [] ⟨[(6, iV .i64 t1712.1), (7, iV .i64 0)], [], 0⟩ [] (by kernel_rfl) trivial ?_
        refine AWp.conv (inv := []) (vk := []) (e0 := []) (t := ⟨[(6, iV .i64 t1712.1), (7, iV .i64 0)], [], 0⟩) (by kernel_rfl) ?_
        refine AWp.ret ?_
        obtain rfl := Option.some.inj H
        exact Exists.intro _ (And.intro (fun _ _ h => h) (And.intro (.inl rfl) (And.intro rfl (And.intro (by kernel_rfl) (by kernel_rfl)))))
def f_pluvialref05_Together.l0 (a0 : List TBucket) (a1 : Int) (x1786 : List Int) (x1787 : Int) : Option (List Int) := if (decide (x1787 < (a0.length : Int))) = true then ((at? a0 x1787) >>= fun b1792 => ((if (b1792.f0 == a1) = true then ((chk ((x1786.length + [b1792.f1].length) * 8 ≤ 140737488355328)) >>= fun _ => some (x1786 ++ [b1792.f1])) else (some x1786)) : Option (List Int)) >>= fun x1798 => f_pluvialref05_Together.l0 a0 a1 x1798 (IntKind.i64.wrap (x1787 + (1 : Int)))) else (some x1786)
partial_fixpoint
def f_pluvialref05_Together.f (a0 : List TBucket) (a1 : Int) : Option (Int × Int) := (f_pluvialref05_Together.l0 a0 a1 [] 0) >>= fun x1799 => (f_pluvialref01_Add.f x1799) >>= fun t1802 => some (t1802.1, t1802.2)
theorem f_pluvialref05_Together.ok (a0 : List TBucket) (a1 : Int) (r : Int × Int) (H : f_pluvialref05_Together.f a0 a1 = some r) : Pv.Fn Try.prog 66 [.im (.row (a0.map eBucket)), iV .i64 a1] [] 0 (fun x o => x = .tup [iV .u64 r.1, iV .i64 r.2] ∧ o = []) := by
  unfold f_pluvialref05_Together.f at H
  refine Fn.bodyK [] Try.func66 rfl rfl (fun Γ hP hn => ?_)
  have hm : Try.prog.follows .mixedOrders = true := by kernel_rfl
  replace hn : Γ.n = 33 := hn
  refine AWp.seq ?_
  refine reg hP hn hm [] [0, 1] [] ⟨[(0, .im (.row (a0.map eBucket))), (1, iV .i64 a1)], [], 0⟩ [] (by kernel_rfl) trivial ?_
  refine AWp.seq ?_
  refine reg hP hn hm [] [0, 1, 6] [] ⟨[(0, .im (.row (a0.map eBucket))), (1, iV .i64 a1), (6, .none0)], [], 0⟩ [] (by kernel_rfl) trivial ?_
  refine AWp.seq ?_
  refine AWp.seq ?_
  refine reg hP hn hm [] [0, 1, 6, 7] [] ⟨[(0, .im (.row (a0.map eBucket))), (1, iV .i64 a1), (6, .none0), (7, iV .i64 0)], [], 0⟩ [] (by kernel_rfl) trivial ?_
  refine AWp.block ?_
  obtain ⟨o1804, e1805, H⟩ := bind_of H
  refine AWp.loop (LWp.conv (inv := []) (vk := []) (e0 := [3]) (t := ⟨[(0, .im (.row (a0.map eBucket))), (1, iV .i64 a1), (6, .own 3), (7, iV .i64 0)], [(3, some (.row 1 22 ([].map (encInt .u64))))], 0⟩) (by kernel_rfl) ?_)
  refine LWp.mono (Q := fun e s => (match (generalizing := false) o1804 with | x1799 => e = .exit 0 ∧ s = ⟨[(6, .own 7)], [(7, some (.row 1 22 (x1799.map (encInt .u64))))], 0⟩)) (LWp.cv (withBody (fun body hbody => ?_))) ?_
  · refine f_pluvialref05_Together.l0.partial_correctness a0 a1 (motive := fun x1786 x1787 o1804 => LWp Γ body (fun e s => ∃ t, Cv Γ s t ∧ (match (generalizing := false) o1804 with | x1799 => e = .exit 0 ∧ t = ⟨[(6, .own 7)], [(7, some (.row 1 22 (x1799.map (encInt .u64))))], 0⟩)) ⟨[(0, .im (.row (a0.map eBucket))), (1, iV .i64 a1), (6, .own 3), (7, iV .i64 x1787)], [(3, some (.row 1 22 (x1786.map (encInt .u64))))], 0⟩) ?_ _ _ _ e1805
    clear H e1805 o1804; intro self ih x1786 x1787 o1804 H
    subst hbody
    refine LWp.round ?_
    refine AWp.seq ?_
    refine AWp.seq ?_
    refine reg hP hn hm [(2, .any (iV .i64 (a0.length : Int)))] [0, 1, 6, 7, 11] [3] ⟨[(0, .im (.row (a0.map eBucket))), (1, iV .i64 a1), (6, .own 3), (7, iV .i64 x1787), (11, bV (decide (x1787 < (a0.length : Int))))], [(3, some (.row 1 22 (x1786.map (encInt .u64))))], 0⟩ [((a0.map eBucket).length : Int) = (a0.length : Int)] (by kernel_rfl) ⟨by rw [len_map], trivial⟩ ?_
    refine AWp.cond (decide (x1787 < (a0.length : Int))) rfl (fun c1788 => ?_) (fun c1788 => ?_)
    · replace H := (ifT c1788).symm.trans H
      refine AWp.skip ?_
      refine AWp.seq ?_
      refine AWp.block ?_
      refine AWp.seq ?_
      obtain ⟨b1792, p1793, q1794, H⟩ := at_of H
      refine reg hP hn hm [(2, .c (eBucket b1792))] [0, 1, 6, 7, 20] [3] ⟨[(0, .im (.row (a0.map eBucket))), (1, iV .i64 a1), (6, .own 3), (7, iV .i64 x1787), (20, bV (b1792.f0 == a1))], [(3, some (.row 1 22 (x1786.map (encInt .u64))))], 0⟩ [0 ≤ x1787, (a0.map eBucket)[(Int.toNat (x1787))]? = some (eBucket b1792)] (by kernel_rfl) ⟨by exact p1793, by exact el_map eBucket q1794, trivial⟩ ?_
      obtain ⟨o1806, e1807, H⟩ := bind_of H
      refine AWp.mono (Q := fun e s => (match (generalizing := false) o1806 with | x1798 => e = .normal ∧ s = ⟨[(0, .im (.row (a0.map eBucket))), (1, iV .i64 a1), (6, .own 6), (7, iV .i64 x1787)], [(6, some (.row 1 22 (x1798.map (encInt .u64))))], 0⟩)) (AWp.cv ?_) ?_
      · replace H := e1807; clear e1807
        refine AWp.cond (b1792.f0 == a1) rfl (fun c1795 => ?_) (fun c1795 => ?_)
        · replace H := (ifT c1795).symm.trans H
          obtain ⟨c1797, H⟩ := chk_of H
          refine reg hP hn hm [(3, .c (eBucket b1792)), (6, .app 4 ([b1792.f1].map (encInt .u64))), (7, .app 5 ((x1786 ++ [b1792.f1]).map (encInt .u64)))] [0, 1, 6, 7] [5] ⟨[(0, .im (.row (a0.map eBucket))), (1, iV .i64 a1), (6, .own 5), (7, iV .i64 x1787)], [(5, some (.row 1 22 ((x1786 ++ [b1792.f1]).map (encInt .u64))))], 0⟩ [0 ≤ x1787, (a0.map eBucket)[(Int.toNat (x1787))]? = some (eBucket b1792), [b1792.f1].map (encInt .u64) = [[iI .u64 b1792.f1]], (x1786 ++ [b1792.f1]).map (encInt .u64) = (x1786.map (encInt .u64)) ++ ([b1792.f1].map (encInt .u64)), ∀ c ∈ ([b1792.f1].map (encInt .u64)), c.length = 1, ∀ c ∈ ([b1792.f1].map (encInt .u64)), leaves (c.map .im) = true, ((x1786.map (encInt .u64)).length + ([b1792.f1].map (encInt .u64)).length) * 8 ≤ 140737488355328] (by kernel_rfl) ⟨by exact p1793, by exact el_map eBucket q1794, by exact rfl, by simp, by exact all_len _ _ _ (fun _ => rfl), by exact all_leaf _ _ (fun _ => rfl), by simpa using c1797, trivial⟩ ?_
          obtain rfl := Option.some.inj H
          exact Exists.intro _ (And.intro (fun _ _ h => h.conv (inv := [(5, 6)]) (vk := []) (e0 := []) (t := ⟨[(0, .im (.row (a0.map eBucket))), (1, iV .i64 a1), (6, .own 6), (7, iV .i64 x1787)], [(6, some (.row 1 22 ((x1786 ++ [b1792.f1]).map (encInt .u64))))], 0⟩) (by kernel_rfl)) (And.intro rfl rfl))
        · replace H := (ifF c1795).symm.trans H
          refine AWp.skip ?_
          obtain rfl := Option.some.inj H
          exact Exists.intro _ (And.intro (fun _ _ h => h.conv (inv := [(3, 6)]) (vk := []) (e0 := []) (t := ⟨[(0, .im (.row (a0.map eBucket))), (1, iV .i64 a1), (6, .own 6), (7, iV .i64 x1787)], [(6, some (.row 1 22 (x1786.map (encInt .u64))))], 0⟩) (by kernel_rfl)) (And.intro rfl rfl))
      · obtain ⟨x1798, rfl⟩ : ∃ z, z = o1806 := ⟨_, rfl⟩
        rintro e s ⟨rfl, rfl⟩
        refine reg hP hn hm [] [0, 1, 6, 7] [6] ⟨[(0, .im (.row (a0.map eBucket))), (1, iV .i64 a1), (6, .own 6), (7, iV .i64 (IntKind.i64.wrap (x1787 + (1 : Int))))], [(6, some (.row 1 22 (x1798.map (encInt .u64))))], 0⟩ [] (by kernel_rfl) trivial ?_
        exact LWp.conv (inv := [(6, 3)]) (vk := []) (e0 := []) (t := ⟨[(0, .im (.row (a0.map eBucket))), (1, iV .i64 a1), (6, .own 3), (7, iV .i64 (IntKind.i64.wrap (x1787 + (1 : Int))))], [(3, some (.row 1 22 (x1798.map (encInt .u64))))], 0⟩) (by kernel_rfl) (ih _ _ _ H)
    · replace H := (ifF c1788).symm.trans H
      refine AWp.exit ?_
      obtain rfl := Option.some.inj H
      exact Exists.intro _ (And.intro (fun _ _ h => h.conv (inv := [(3, 7)]) (vk := []) (e0 := []) (t := ⟨[(6, .own 7)], [(7, some (.row 1 22 (x1786.map (encInt .u64))))], 0⟩) (by kernel_rfl)) (And.intro rfl rfl))
  · obtain ⟨x1799, rfl⟩ : ∃ z, z = o1804 := ⟨_, rfl⟩
    rintro e s ⟨rfl, rfl⟩
    refine AWp.seq ?_
    obtain ⟨t1802, e1803, H⟩ := bind_of H
    refine reg hP hn hm [(1, .call [] [] [7] [] 0 (.tup [iV .u64 t1802.1, iV .i64 t1802.2]) [])] [4, 5] [] ⟨[(4, iV .u64 t1802.1), (5, iV .i64 t1802.2)], [], 0⟩ [Enters Try.prog 47, Pv.Fn Try.prog 47 [.im (.row (x1799.map (encInt .u64)))] [] 0 (fun r o => r = .tup [iV .u64 t1802.1, iV .i64 t1802.2] ∧ o = [])] (by kernel_rfl) ⟨by exact Try.call47, by exact f_pluvialref01_Add.ok x1799 t1802 e1803, trivial⟩ ?_
    refine AWp.conv (inv := []) (vk := []) (e0 := []) (t := ⟨[(4, iV .u64 t1802.1), (5, iV .i64 t1802.2)], [], 0⟩) (by kernel_rfl) ?_
    refine AWp.ret ?_
    obtain rfl := Option.some.inj H
    exact Exists.intro _ (And.intro (fun _ _ h => h) (And.intro (.inl rfl) (And.intro rfl (And.intro (by kernel_rfl) (by kernel_rfl)))))
def f_pluvialref05_Tidy.l1 (a0 : List TBucket) (x1817 : List TBucket) (x1818 : Bool) (x1819 : Int) (x1841 : Bool) (x1842 : Int) (x1843 : Int) : Option (Bool × Int) := if (decide (x1843 < (a0.length : Int))) = true then (((if (!x1818) = true then (if (!x1841) = true then (some true) else ((at? a0 x1843) >>= fun b1857 => some (decide (b1857.f0 < x1842)))) else ((at? a0 x1843) >>= fun b1860 => if (decide (b1860.f0 > x1819)) = true then (if (!x1841) = true then (some true) else (some (decide (b1860.f0 < x1842)))) else (some false))) : Option (Bool)) >>= fun x1865 => ((if x1865 = true then ((at? a0 x1843) >>= fun b1870 => some (true, b1870.f0)) else (some (x1841, x1842))) : Option (Bool × Int)) >>= fun oo => match oo with | (x1873, x1874) => (f_pluvialref05_Tidy.l1 a0 x1817 x1818 x1819 x1873 x1874 (IntKind.i64.wrap (x1843 + (1 : Int))))) else (some (x1841, x1842))
partial_fixpoint
def f_pluvialref05_Tidy.l0 (a0 : List TBucket) (x1817 : List TBucket) (x1818 : Bool) (x1819 : Int) : Option ((List TBucket) × Int) := (f_pluvialref05_Tidy.l1 a0 x1817 x1818 x1819 false 0 0) >>= fun oo => match oo with | (x1875, x1876) => (if (!x1875) = true then (some (x1817, 0)) else ((f_pluvialref05_Together.f a0 x1876) >>= fun t1880 => if (t1880.2 != (0 : Int)) = true then (some ([], 5)) else (((if (decide (t1880.1 > (0 : Int))) = true then ((chk ((x1817.length + [(⟨x1876, t1880.1⟩ : TBucket)].length) * 16 ≤ 140737488355328)) >>= fun _ => some (x1817 ++ [(⟨x1876, t1880.1⟩ : TBucket)])) else (some x1817)) : Option (List TBucket)) >>= fun x1886 => f_pluvialref05_Tidy.l0 a0 x1886 true x1876)))
partial_fixpoint
def f_pluvialref05_Tidy.f (a0 : List TBucket) : Option ((List TBucket) × Int) := (f_pluvialref05_Tidy.l0 a0 [] false 0) >>= fun rr => some rr
theorem f_pluvialref05_Tidy.ok (a0 : List TBucket) (r : (List TBucket) × Int) (H : f_pluvialref05_Tidy.f a0 = some r) : Pv.Fn Try.prog 48 [.im (.row (a0.map eBucket))] [] 0 (fun x o => x = .tup [.own 0, iV .i64 r.2] ∧ o = [(0, some (.row 2 54 (r.1.map eBucket)))]) := by
  unfold f_pluvialref05_Tidy.f at H
  refine Fn.bodyK [0] Try.func48 rfl rfl (fun Γ hP hn => ?_)
  have hm : Try.prog.follows .mixedOrders = true := by kernel_rfl
  replace hn : Γ.n = 67 := hn
  refine AWp.seq ?_
  refine reg hP hn hm [] [0] [] ⟨[(0, .im (.row (a0.map eBucket)))], [], 0⟩ [] (by kernel_rfl) trivial ?_
  refine AWp.seq ?_
  refine reg hP hn hm [] [0, 4] [] ⟨[(0, .im (.row (a0.map eBucket))), (4, .none0)], [], 0⟩ [] (by kernel_rfl) trivial ?_
  refine AWp.seq ?_
  refine reg hP hn hm [] [0, 4, 5] [] ⟨[(0, .im (.row (a0.map eBucket))), (4, .none0), (5, bV false)], [], 0⟩ [] (by kernel_rfl) trivial ?_
  refine AWp.seq ?_
  refine reg hP hn hm [] [0, 4, 5, 6] [] ⟨[(0, .im (.row (a0.map eBucket))), (4, .none0), (5, bV false), (6, iV .i64 0)], [], 0⟩ [] (by kernel_rfl) trivial ?_
  refine AWp.block ?_
  obtain ⟨o1887, e1888, H⟩ := bind_of H
  refine AWp.loop (LWp.conv (inv := []) (vk := []) (e0 := [3]) (t := ⟨[(0, .im (.row (a0.map eBucket))), (4, .own 3), (5, bV false), (6, iV .i64 0)], [(3, some (.row 2 54 ([].map eBucket)))], 0⟩) (by kernel_rfl) ?_)
  refine LWp.mono (Q := fun e s => (match (generalizing := false) o1887 with | rr => e = .ret ∧ s.floor = 0 ∧ resOf Try.prog Try.f48 s = some (.tup [.own 0, iV .i64 rr.2]) ∧ ([(0, s.obj 0)] : List (Nat × Option MObj)) = [(0, some (.row 2 54 (rr.1.map eBucket)))])) (LWp.cv (withBody (fun body hbody => ?_))) ?_
  · refine f_pluvialref05_Tidy.l0.partial_correctness a0 (motive := fun x1817 x1818 x1819 o1887 => LWp Γ body (fun e s => ∃ t, Cv Γ s t ∧ (match (generalizing := false) o1887 with | rr => e = .ret ∧ t.floor = 0 ∧ resOf Try.prog Try.f48 t = some (.tup [.own 0, iV .i64 rr.2]) ∧ ([(0, t.obj 0)] : List (Nat × Option MObj)) = [(0, some (.row 2 54 (rr.1.map eBucket)))])) ⟨[(0, .im (.row (a0.map eBucket))), (4, .own 3), (5, bV x1818), (6, iV .i64 x1819)], [(3, some (.row 2 54 (x1817.map eBucket)))], 0⟩) ?_ _ _ _ _ e1888
    clear H e1888 o1887; intro self ih x1817 x1818 x1819 o1887 H
    subst hbody
    refine LWp.round ?_
    refine AWp.block ?_
    refine AWp.seq ?_
    refine reg hP hn hm [] [0, 4, 5, 6, 7] [3] ⟨[(0, .im (.row (a0.map eBucket))), (4, .own 3), (5, bV x1818), (6, iV .i64 x1819), (7, bV false)], [(3, some (.row 2 54 (x1817.map eBucket)))], 0⟩ [] (by kernel_rfl) trivial ?_
    refine AWp.seq ?_
    refine reg hP hn hm [] [0, 4, 5, 6, 7, 8] [3] ⟨[(0, .im (.row (a0.map eBucket))), (4, .own 3), (5, bV x1818), (6, iV .i64 x1819), (7, bV false), (8, iV .i64 0)], [(3, some (.row 2 54 (x1817.map eBucket)))], 0⟩ [] (by kernel_rfl) trivial ?_
    refine AWp.seq ?_
    refine AWp.seq ?_
    refine reg hP hn hm [] [0, 4, 5, 6, 7, 8, 9] [3] ⟨[(0, .im (.row (a0.map eBucket))), (4, .own 3), (5, bV x1818), (6, iV .i64 x1819), (7, bV false), (8, iV .i64 0), (9, iV .i64 0)], [(3, some (.row 2 54 (x1817.map eBucket)))], 0⟩ [] (by kernel_rfl) trivial ?_
    refine AWp.block ?_
    obtain ⟨o1889, e1890, H⟩ := bind_of H
    refine AWp.loop (LWp.conv (inv := [(3, 6)]) (vk := []) (e0 := []) (t := ⟨[(0, .im (.row (a0.map eBucket))), (4, .own 6), (5, bV x1818), (6, iV .i64 x1819), (7, bV false), (8, iV .i64 0), (9, iV .i64 0)], [(6, some (.row 2 54 (x1817.map eBucket)))], 0⟩) (by kernel_rfl) ?_)
    refine LWp.mono (Q := fun e s => (match (generalizing := false) o1889 with | (x1875, x1876) => e = .exit 2 ∧ s = ⟨[(0, .im (.row (a0.map eBucket))), (4, .own 9), (7, bV x1875), (8, iV .i64 x1876)], [(9, some (.row 2 54 (x1817.map eBucket)))], 0⟩)) (LWp.cv (withBody (fun body hbody => ?_))) ?_
    · refine f_pluvialref05_Tidy.l1.partial_correctness a0 x1817 x1818 x1819 (motive := fun x1841 x1842 x1843 o1889 => LWp Γ body (fun e s => ∃ t, Cv Γ s t ∧ (match (generalizing := false) o1889 with | (x1875, x1876) => e = .exit 2 ∧ t = ⟨[(0, .im (.row (a0.map eBucket))), (4, .own 9), (7, bV x1875), (8, iV .i64 x1876)], [(9, some (.row 2 54 (x1817.map eBucket)))], 0⟩)) ⟨[(0, .im (.row (a0.map eBucket))), (4, .own 6), (5, bV x1818), (6, iV .i64 x1819), (7, bV x1841), (8, iV .i64 x1842), (9, iV .i64 x1843)], [(6, some (.row 2 54 (x1817.map eBucket)))], 0⟩) ?_ _ _ _ _ e1890
      clear H e1890 o1889; intro self ih x1841 x1842 x1843 o1889 H
      subst hbody
      refine LWp.round ?_
      refine AWp.seq ?_
      refine AWp.seq ?_
      refine reg hP hn hm [(2, .any (iV .i64 (a0.length : Int)))] [0, 4, 5, 6, 7, 8, 9, 15] [6] ⟨[(0, .im (.row (a0.map eBucket))), (4, .own 6), (5, bV x1818), (6, iV .i64 x1819), (7, bV x1841), (8, iV .i64 x1842), (9, iV .i64 x1843), (15, bV (decide (x1843 < (a0.length : Int))))], [(6, some (.row 2 54 (x1817.map eBucket)))], 0⟩ [((a0.map eBucket).length : Int) = (a0.length : Int)] (by kernel_rfl) ⟨by rw [len_map], trivial⟩ ?_
      refine AWp.cond (decide (x1843 < (a0.length : Int))) rfl (fun c1844 => ?_) (fun c1844 => ?_)
      · replace H := (ifT c1844).symm.trans H
        refine AWp.skip ?_
        refine AWp.seq ?_
        refine AWp.block ?_
        refine AWp.seq ?_
        obtain ⟨o1891, e1892, H⟩ := bind_of H
        refine AWp.mono (Q := fun e s => (match (generalizing := false) o1891 with | x1865 => e = .normal ∧ s = ⟨[(0, .im (.row (a0.map eBucket))), (4, .own 7), (5, bV x1818), (6, iV .i64 x1819), (7, bV x1841), (8, iV .i64 x1842), (9, iV .i64 x1843), (41, bV x1865)], [(7, some (.row 2 54 (x1817.map eBucket)))], 0⟩)) (AWp.cv ?_) ?_
        · replace H := e1892; clear e1892
          rcases Bool.eq_false_or_eq_true (!x1818) with c1855 | c1855
          · replace H := (ifT c1855).symm.trans H
            rcases Bool.eq_false_or_eq_true (!x1841) with c1856 | c1856
            · replace H := (ifT c1856).symm.trans H
              refine reg hP hn hm [(2, .b true), (14, .b true)] [0, 4, 5, 6, 7, 8, 9, 30, 31, 32, 40, 41] [6] ⟨[(0, .im (.row (a0.map eBucket))), (4, .own 6), (5, bV x1818), (6, iV .i64 x1819), (7, bV x1841), (8, iV .i64 x1842), (9, iV .i64 x1843), (30, bV x1841), (31, bV (!x1841)), (32, bV true), (40, bV true), (41, bV true)], [(6, some (.row 2 54 (x1817.map eBucket)))], 0⟩ [(!x1818) = true, (!x1841) = true] (by kernel_rfl) ⟨by exact c1855, by exact c1856, trivial⟩ ?_
              obtain rfl := Option.some.inj H
              exact Exists.intro _ (And.intro (fun _ _ h => h.conv (inv := [(6, 7)]) (vk := []) (e0 := []) (t := ⟨[(0, .im (.row (a0.map eBucket))), (4, .own 7), (5, bV x1818), (6, iV .i64 x1819), (7, bV x1841), (8, iV .i64 x1842), (9, iV .i64 x1843), (41, bV true)], [(7, some (.row 2 54 (x1817.map eBucket)))], 0⟩) (by kernel_rfl)) (And.intro rfl rfl))
            · replace H := (ifF c1856).symm.trans H
              obtain ⟨b1857, p1858, q1859, H⟩ := at_of H
              refine reg hP hn hm [(2, .b true), (14, .b false), (17, .c (eBucket b1857))] [0, 4, 5, 6, 7, 8, 9, 30, 31, 32, 33, 34, 35, 36, 37, 38, 39, 40, 41] [6] ⟨[(0, .im (.row (a0.map eBucket))), (4, .own 6), (5, bV x1818), (6, iV .i64 x1819), (7, bV x1841), (8, iV .i64 x1842), (9, iV .i64 x1843), (30, bV x1841), (31, bV (!x1841)), (32, bV false), (33, .im (.row (a0.map eBucket))), (34, iV .i64 x1843), (35, .ip [iI .i64 b1857.f0, iI .u64 b1857.f1]), (36, .ip [iI .i64 b1857.f0, iI .u64 b1857.f1]), (37, iV .i64 b1857.f0), (38, iV .i64 x1842), (39, bV (decide (b1857.f0 < x1842))), (40, bV (decide (b1857.f0 < x1842))), (41, bV (decide (b1857.f0 < x1842)))], [(6, some (.row 2 54 (x1817.map eBucket)))], 0⟩ [(!x1818) = true, (!x1841) = false, 0 ≤ x1843, (a0.map eBucket)[(Int.toNat (x1843))]? = some (eBucket b1857)] (by kernel_rfl) ⟨by exact c1855, by exact c1856, by exact p1858, by exact el_map eBucket q1859, trivial⟩ ?_
              obtain rfl := Option.some.inj H
              exact Exists.intro _ (And.intro (fun _ _ h => h.conv (inv := [(6, 7)]) (vk := []) (e0 := []) (t := ⟨[(0, .im (.row (a0.map eBucket))), (4, .own 7), (5, bV x1818), (6, iV .i64 x1819), (7, bV x1841), (8, iV .i64 x1842), (9, iV .i64 x1843), (41, bV (decide (b1857.f0 < x1842)))], [(7, some (.row 2 54 (x1817.map eBucket)))], 0⟩) (by kernel_rfl)) (And.intro rfl rfl))
          · replace H := (ifF c1855).symm.trans H
            obtain ⟨b1860, p1861, q1862, H⟩ := at_of H
            rcases Bool.eq_false_or_eq_true (decide (b1860.f0 > x1819)) with c1863 | c1863
            · replace H := (ifT c1863).symm.trans H
              rcases Bool.eq_false_or_eq_true (!x1841) with c1864 | c1864
              · replace H := (ifT c1864).symm.trans H
                refine reg hP hn hm [(2, .b false), (5, .c (eBucket b1860)), (11, .b true), (14, .b true)] [0, 4, 5, 6, 7, 8, 9, 21, 22, 23, 24, 25, 26, 27, 30, 31, 32, 40, 41] [6] ⟨[(0, .im (.row (a0.map eBucket))), (4, .own 6), (5, bV x1818), (6, iV .i64 x1819), (7, bV x1841), (8, iV .i64 x1842), (9, iV .i64 x1843), (21, .im (.row (a0.map eBucket))), (22, iV .i64 x1843), (23, .ip [iI .i64 b1860.f0, iI .u64 b1860.f1]), (24, .ip [iI .i64 b1860.f0, iI .u64 b1860.f1]), (25, iV .i64 b1860.f0), (26, iV .i64 x1819), (27, bV (decide (b1860.f0 > x1819))), (30, bV x1841), (31, bV (!x1841)), (32, bV true), (40, bV true), (41, bV true)], [(6, some (.row 2 54 (x1817.map eBucket)))], 0⟩ [(!x1818) = false, 0 ≤ x1843, (a0.map eBucket)[(Int.toNat (x1843))]? = some (eBucket b1860), (decide (b1860.f0 > x1819)) = true, (!x1841) = true] (by kernel_rfl) ⟨by exact c1855, by exact p1861, by exact el_map eBucket q1862, by exact c1863, by exact c1864, trivial⟩ ?_
                obtain rfl := Option.some.inj H
                exact Exists.intro _ (And.intro (fun _ _ h => h.conv (inv := [(6, 7)]) (vk := []) (e0 := []) (t := ⟨[(0, .im (.row (a0.map eBucket))), (4, .own 7), (5, bV x1818), (6, iV .i64 x1819), (7, bV x1841), (8, iV .i64 x1842), (9, iV .i64 x1843), (41, bV true)], [(7, some (.row 2 54 (x1817.map eBucket)))], 0⟩) (by kernel_rfl)) (And.intro rfl rfl))
              · replace H := (ifF c1864).symm.trans H
                refine reg hP hn hm [(2, .b false), (5, .c (eBucket b1860)), (11, .b true), (14, .b false), (17, .c (eBucket b1860))] [0, 4, 5, 6, 7, 8, 9, 21, 22, 23, 24, 25, 26, 27, 30, 31, 32, 33, 34, 35, 36, 37, 38, 39, 40, 41] [6] ⟨[(0, .im (.row (a0.map eBucket))), (4, .own 6), (5, bV x1818), (6, iV .i64 x1819), (7, bV x1841), (8, iV .i64 x1842), (9, iV .i64 x1843), (21, .im (.row (a0.map eBucket))), (22, iV .i64 x1843), (23, .ip [iI .i64 b1860.f0, iI .u64 b1860.f1]), (24, .ip [iI .i64 b1860.f0, iI .u64 b1860.f1]), (25, iV .i64 b1860.f0), (26, iV .i64 x1819), (27, bV (decide (b1860.f0 > x1819))), (30, bV x1841), (31, bV (!x1841)), (32, bV false), (33, .im (.row (a0.map eBucket))), (34, iV .i64 x1843), (35, .ip [iI .i64 b1860.f0, iI .u64 b1860.f1]), (36, .ip [iI .i64 b1860.f0, iI .u64 b1860.f1]), (37, iV .i64 b1860.f0), (38, iV .i64 x1842), (39, bV (decide (b1860.f0 < x1842))), (40, bV (decide (b1860.f0 < x1842))), (41, bV (decide (b1860.f0 < x1842)))], [(6, some (.row 2 54 (x1817.map eBucket)))], 0⟩ [(!x1818) = false, 0 ≤ x1843, (a0.map eBucket)[(Int.toNat (x1843))]? = some (eBucket b1860), (decide (b1860.f0 > x1819)) = true, (!x1841) = false, 0 ≤ x1843, (a0.map eBucket)[(Int.toNat (x1843))]? = some (eBucket b1860)] (by kernel_rfl) ⟨by exact c1855, by exact p1861, by exact el_map eBucket q1862, by exact c1863, by exact c1864, by exact p1861, by exact el_map eBucket q1862, trivial⟩ ?_
                obtain rfl := Option.some.inj H
                exact Exists.intro _ (And.intro (fun _ _ h => h.conv (inv := [(6, 7)]) (vk := []) (e0 := []) (t := ⟨[(0, .im (.row (a0.map eBucket))), (4, .own 7), (5, bV x1818), (6, iV .i64 x1819), (7, bV x1841), (8, iV .i64 x1842), (9, iV .i64 x1843), (41, bV (decide (b1860.f0 < x1842)))], [(7, some (.row 2 54 (x1817.map eBucket)))], 0⟩) (by kernel_rfl)) (And.intro rfl rfl))
            · replace H := (ifF c1863).symm.trans H
              refine reg hP hn hm [(2, .b false), (5, .c (eBucket b1860)), (11, .b false)] [0, 4, 5, 6, 7, 8, 9, 21, 22, 23, 24, 25, 26, 27, 41] [6] ⟨[(0, .im (.row (a0.map eBucket))), (4, .own 6), (5, bV x1818), (6, iV .i64 x1819), (7, bV x1841), (8, iV .i64 x1842), (9, iV .i64 x1843), (21, .im (.row (a0.map eBucket))), (22, iV .i64 x1843), (23, .ip [iI .i64 b1860.f0, iI .u64 b1860.f1]), (24, .ip [iI .i64 b1860.f0, iI .u64 b1860.f1]), (25, iV .i64 b1860.f0), (26, iV .i64 x1819), (27, bV (decide (b1860.f0 > x1819))), (41, bV false)], [(6, some (.row 2 54 (x1817.map eBucket)))], 0⟩ [(!x1818) = false, 0 ≤ x1843, (a0.map eBucket)[(Int.toNat (x1843))]? = some (eBucket b1860), (decide (b1860.f0 > x1819)) = false] (by kernel_rfl) ⟨by exact c1855, by exact p1861, by exact el_map eBucket q1862, by exact c1863, trivial⟩ ?_
              obtain rfl := Option.some.inj H
              exact Exists.intro _ (And.intro (fun _ _ h => h.conv (inv := [(6, 7)]) (vk := []) (e0 := []) (t := ⟨[(0, .im (.row (a0.map eBucket))), (4, .own 7), (5, bV x1818), (6, iV .i64 x1819), (7, bV x1841), (8, iV .i64 x1842), (9, iV .i64 x1843), (41, bV false)], [(7, some (.row 2 54 (x1817.map eBucket)))], 0⟩) (by kernel_rfl)) (And.intro rfl rfl))
        · obtain ⟨x1865, rfl⟩ : ∃ z, z = o1891 := ⟨_, rfl⟩
          rintro e s ⟨rfl, rfl⟩
          obtain ⟨o1893, e1894, H⟩ := bind_of H
          refine AWp.mono (Q := fun e s => (match (generalizing := false) o1893 with | (x1873, x1874) => e = .normal ∧ s = ⟨[(0, .im (.row (a0.map eBucket))), (4, .own 8), (5, bV x1818), (6, iV .i64 x1819), (7, bV x1873), (8, iV .i64 x1874), (9, iV .i64 x1843)], [(8, some (.row 2 54 (x1817.map eBucket)))], 0⟩)) (AWp.cv ?_) ?_
          · replace H := e1894; clear e1894
            refine AWp.cond x1865 rfl (fun c1866 => ?_) (fun c1866 => ?_)
            · replace H := (ifT c1866).symm.trans H
              refine AWp.seq ?_
              obtain ⟨b1870, p1871, q1872, H⟩ := at_of H
              refine reg hP hn hm [(2, .c (eBucket b1870))] [0, 4, 5, 6, 8, 9] [7] ⟨[(0, .im (.row (a0.map eBucket))), (4, .own 7), (5, bV x1818), (6, iV .i64 x1819), (8, iV .i64 b1870.f0), (9, iV .i64 x1843)], [(7, some (.row 2 54 (x1817.map eBucket)))], 0⟩ [0 ≤ x1843, (a0.map eBucket)[(Int.toNat (x1843))]? = some (eBucket b1870)] (by kernel_rfl) ⟨by exact p1871, by exact el_map eBucket q1872, trivial⟩ ?_
              refine reg hP hn hm [] [0, 4, 5, 6, 7, 8, 9] [7] ⟨[(0, .im (.row (a0.map eBucket))), (4, .own 7), (5, bV x1818), (6, iV .i64 x1819), (7, bV true), (8, iV .i64 b1870.f0), (9, iV .i64 x1843)], [(7, some (.row 2 54 (x1817.map eBucket)))], 0⟩ [] (by kernel_rfl) trivial ?_
              obtain rfl := Option.some.inj H
              exact Exists.intro _ (And.intro (fun _ _ h => h.conv (inv := [(7, 8)]) (vk := []) (e0 := []) (t := ⟨[(0, .im (.row (a0.map eBucket))), (4, .own 8), (5, bV x1818), (6, iV .i64 x1819), (7, bV true), (8, iV .i64 b1870.f0), (9, iV .i64 x1843)], [(8, some (.row 2 54 (x1817.map eBucket)))], 0⟩) (by kernel_rfl)) (And.intro rfl rfl))
            · replace H := (ifF c1866).symm.trans H
              refine AWp.skip ?_
              obtain rfl := Option.some.inj H
              exact Exists.intro _ (And.intro (fun _ _ h => h.conv (inv := [(7, 8)]) (vk := []) (e0 := []) (t := ⟨[(0, .im (.row (a0.map eBucket))), (4, .own 8), (5, bV x1818), (6, iV .i64 x1819), (7, bV x1841), (8, iV .i64 x1842), (9, iV .i64 x1843)], [(8, some (.row 2 54 (x1817.map eBucket)))], 0⟩) (by kernel_rfl)) (And.intro rfl rfl))
          · obtain ⟨x1873, x1874⟩ := o1893
            rintro e s ⟨rfl, rfl⟩
            refine reg hP hn hm [] [0, 4, 5, 6, 7, 8, 9] [8] ⟨[(0, .im (.row (a0.map eBucket))), (4, .own 8), (5, bV x1818), (6, iV .i64 x1819), (7, bV x1873), (8, iV .i64 x1874), (9, iV .i64 (IntKind.i64.wrap (x1843 + (1 : Int))))], [(8, some (.row 2 54 (x1817.map eBucket)))], 0⟩ [] (by kernel_rfl) trivial ?_
            exact LWp.conv (inv := [(8, 6)]) (vk := []) (e0 := []) (t := ⟨[(0, .im (.row (a0.map eBucket))), (4, .own 6), (5, bV x1818), (6, iV .i64 x1819), (7, bV x1873), (8, iV .i64 x1874), (9, iV .i64 (IntKind.i64.wrap (x1843 + (1 : Int))))], [(6, some (.row 2 54 (x1817.map eBucket)))], 0⟩) (by kernel_rfl) (ih _ _ _ _ H)
      · replace H := (ifF c1844).symm.trans H
        refine AWp.exit ?_
        obtain rfl := Option.some.inj H
        exact Exists.intro _ (And.intro (fun _ _ h => h.conv (inv := [(6, 9)]) (vk := []) (e0 := []) (t := ⟨[(0, .im (.row (a0.map eBucket))), (4, .own 9), (7, bV x1841), (8, iV .i64 x1842)], [(9, some (.row 2 54 (x1817.map eBucket)))], 0⟩) (by kernel_rfl)) (And.intro rfl rfl))
    · obtain ⟨x1875, x1876⟩ := o1889
      rintro e s ⟨rfl, rfl⟩
      refine AWp.seq ?_
      refine AWp.seq ?_
      refine reg hP hn hm [] [0, 4, 8, 48] [9] ⟨[(0, .im (.row (a0.map eBucket))), (4, .own 9), (8, iV .i64 x1876), (48, bV (!x1875))], [(9, some (.row 2 54 (x1817.map eBucket)))], 0⟩ [] (by kernel_rfl) trivial ?_
      refine AWp.cond (!x1875) rfl (fun c1877 => ?_) (fun c1877 => ?_)
      · replace H := (ifT c1877).symm.trans H
        refine AWp.seq ?_
        refine reg hP hn hm [] [2, 3] [9] ⟨[(2, .own 9), (3, iV .i64 0)], [(9, some (.row 2 54 (x1817.map eBucket)))], 0⟩ [] (by kernel_rfl) trivial ?_
        refine AWp.conv (inv := [(9, 0)]) (vk := []) (e0 := []) (t := ⟨[(2, .own 0), (3, iV .i64 0)], [(0, some (.row 2 54 (x1817.map eBucket)))], 0⟩) (by kernel_rfl) ?_
        refine AWp.ret ?_
        obtain rfl := Option.some.inj H
        exact Exists.intro _ (And.intro (fun _ _ h => h) (And.intro rfl (And.intro rfl (And.intro (by kernel_rfl) (by kernel_rfl)))))
      · replace H := (ifF c1877).symm.trans H
        refine AWp.skip ?_
        refine AWp.seq ?_
        obtain ⟨t1880, e1881, H⟩ := bind_of H
        refine reg hP hn hm [(2, .call [] [] [] [] 0 (.tup [iV .u64 t1880.1, iV .i64 t1880.2]) [])] [0, 4, 8, 10, 11] [9] ⟨[(0, .im (.row (a0.map eBucket))), (4, .own 9), (8, iV .i64 x1876), (10, iV .u64 t1880.1), (11, iV .i64 t1880.2)], [(9, some (.row 2 54 (x1817.map eBucket)))], 0⟩ [Enters Try.prog 66, Pv.Fn Try.prog 66 [.im (.row (a0.map eBucket)), iV .i64 x1876] [] 0 (fun r o => r = .tup [iV .u64 t1880.1, iV .i64 t1880.2] ∧ o = [])] (by kernel_rfl) ⟨by exact Try.call66, by exact f_pluvialref05_Together.ok a0 x1876 t1880 e1881, trivial⟩ ?_
        refine AWp.seq ?_
        refine AWp.seq ?_
        refine reg hP hn hm [] [0, 4, 8, 10, 57] [9] ⟨[(0, .im (.row (a0.map eBucket))), (4, .own 9), (8, iV .i64 x1876), (10, iV .u64 t1880.1), (57, bV (t1880.2 != (0 : Int)))], [(9, some (.row 2 54 (x1817.map eBucket)))], 0⟩ [] (by kernel_rfl) trivial ?_
        refine AWp.cond (t1880.2 != (0 : Int)) rfl (fun c1882 => ?_) (fun c1882 => ?_)
        · replace H := (ifT c1882).symm.trans H
          refine AWp.seq ?_
          refine reg hP hn hm [] [2, 3] [] ⟨[(2, .none0), (3, iV .i64 5)], [], 0⟩ [] (by kernel_rfl) trivial ?_
          refine AWp.conv (inv := []) (vk := []) (e0 := [0]) (t := ⟨[(2, .own 0), (3, iV .i64 5)], [(0, some (.row 2 54 ([].map eBucket)))], 0⟩) (by kernel_rfl) ?_
          refine AWp.ret ?_
          obtain rfl := Option.some.inj H
          exact Exists.intro _ (And.intro (fun _ _ h => h) (And.intro rfl (And.intro rfl (And.intro (by kernel_rfl) (by kernel_rfl)))))
        · replace H := (ifF c1882).symm.trans H
          refine AWp.skip ?_
          refine AWp.seq ?_
          refine AWp.seq ?_
          refine reg hP hn hm [] [0, 4, 8, 10, 59] [9] ⟨[(0, .im (.row (a0.map eBucket))), (4, .own 9), (8, iV .i64 x1876), (10, iV .u64 t1880.1), (59, bV (decide (t1880.1 > (0 : Int))))], [(9, some (.row 2 54 (x1817.map eBucket)))], 0⟩ [] (by kernel_rfl) trivial ?_
          obtain ⟨o1895, e1896, H⟩ := bind_of H
          refine AWp.mono (Q := fun e s => (match (generalizing := false) o1895 with | x1886 => e = .normal ∧ s = ⟨[(0, .im (.row (a0.map eBucket))), (4, .own 12), (8, iV .i64 x1876)], [(12, some (.row 2 54 (x1886.map eBucket)))], 0⟩)) (AWp.cv ?_) ?_
          · replace H := e1896; clear e1896
            refine AWp.cond (decide (t1880.1 > (0 : Int))) rfl (fun c1883 => ?_) (fun c1883 => ?_)
            · replace H := (ifT c1883).symm.trans H
              obtain ⟨c1885, H⟩ := chk_of H
              refine reg hP hn hm [(4, .app 10 ([(⟨x1876, t1880.1⟩ : TBucket)].map eBucket)), (5, .app 11 ((x1817 ++ [(⟨x1876, t1880.1⟩ : TBucket)]).map eBucket))] [0, 4, 8] [11] ⟨[(0, .im (.row (a0.map eBucket))), (4, .own 11), (8, iV .i64 x1876)], [(11, some (.row 2 54 ((x1817 ++ [(⟨x1876, t1880.1⟩ : TBucket)]).map eBucket)))], 0⟩ [[(⟨x1876, t1880.1⟩ : TBucket)].map eBucket = [[iI .i64 x1876, iI .u64 t1880.1]], (x1817 ++ [(⟨x1876, t1880.1⟩ : TBucket)]).map eBucket = (x1817.map eBucket) ++ ([(⟨x1876, t1880.1⟩ : TBucket)].map eBucket), ∀ c ∈ ([(⟨x1876, t1880.1⟩ : TBucket)].map eBucket), c.length = 2, ∀ c ∈ ([(⟨x1876, t1880.1⟩ : TBucket)].map eBucket), leaves (c.map .im) = true, ((x1817.map eBucket).length + ([(⟨x1876, t1880.1⟩ : TBucket)].map eBucket).length) * 16 ≤ 140737488355328] (by kernel_rfl) ⟨by exact rfl, by simp, by exact all_len _ _ _ (fun _ => rfl), by exact all_leaf _ _ (fun _ => rfl), by simpa using c1885, trivial⟩ ?_
              obtain rfl := Option.some.inj H
              exact Exists.intro _ (And.intro (fun _ _ h => h.conv (inv := [(11, 12)]) (vk := []) (e0 := []) (t := ⟨[(0, .im (.row (a0.map eBucket))), (4, .own 12), (8, iV .i64 x1876)], [(12, some (.row 2 54 ((x1817 ++ [(⟨x1876, t1880.1⟩ : TBucket)]).map eBucket)))], 0⟩) (by kernel_rfl)) (And.intro rfl rfl))
            · replace H := (ifF c1883).symm.trans H
              refine AWp.skip ?_
              obtain rfl := Option.some.inj H
              exact Exists.intro _ (And.intro (fun _ _ h => h.conv (inv := [(9, 12)]) (vk := []) (e0 := []) (t := ⟨[(0, .im (.row (a0.map eBucket))), (4, .own 12), (8, iV .i64 x1876)], [(12, some (.row 2 54 (x1817.map eBucket)))], 0⟩) (by kernel_rfl)) (And.intro rfl rfl))
          · obtain ⟨x1886, rfl⟩ : ∃ z, z = o1895 := ⟨_, rfl⟩
            rintro e s ⟨rfl, rfl⟩
            refine AWp.seq ?_
            refine reg hP hn hm [] [0, 4, 6] [12] ⟨[(0, .im (.row (a0.map eBucket))), (4, .own 12), (6, iV .i64 x1876)], [(12, some (.row 2 54 (x1886.map eBucket)))], 0⟩ [] (by kernel_rfl) trivial ?_
            refine reg hP hn hm [] [0, 4, 5, 6] [12] ⟨[(0, .im (.row (a0.map eBucket))), (4, .own 12), (5, bV true), (6, iV .i64 x1876)], [(12, some (.row 2 54 (x1886.map eBucket)))], 0⟩ [] (by kernel_rfl) trivial ?_
            exact LWp.conv (inv := [(12, 3)]) (vk := []) (e0 := []) (t := ⟨[(0, .im (.row (a0.map eBucket))), (4, .own 3), (5, bV true), (6, iV .i64 x1876)], [(3, some (.row 2 54 (x1886.map eBucket)))], 0⟩) (by kernel_rfl) (ih _ _ _ _ H)
  · obtain ⟨rr, rfl⟩ : ∃ z, z = o1887 := ⟨_, rfl⟩
    rintro e s ⟨rfl, hfl, hres⟩
    obtain rfl := Option.some.inj H
    exact Exists.intro _ (And.intro (fun _ _ h => h) (And.intro (.inl rfl) (And.intro hfl hres)))
def f_pluvialref07_coarse.l0 (a0 : List TBucket) (a1 : Int) (a2 : Int) (x1725 : List TBucket) (x1726 : Int) : Option (List TBucket) := if (decide (x1726 < (a0.length : Int))) = true then ((at? a0 x1726) >>= fun b1733 => (f_pluvialref04_To.f a1 a2 b1733.f0) >>= fun t1736 => (chk ((x1725.length + [(⟨t1736.1, b1733.f1⟩ : TBucket)].length) * 16 ≤ 140737488355328)) >>= fun _ => f_pluvialref07_coarse.l0 a0 a1 a2 (x1725 ++ [(⟨t1736.1, b1733.f1⟩ : TBucket)]) (IntKind.i64.wrap (x1726 + (1 : Int)))) else (some x1725)
partial_fixpoint
def f_pluvialref07_coarse.f (a0 : List TBucket) (a1 : Int) (a2 : Int) : Option (List TBucket) := (f_pluvialref07_coarse.l0 a0 a1 a2 [] 0) >>= fun x1740 => (f_pluvialref05_Tidy.f x1740) >>= fun t1901 => some t1901.1
theorem f_pluvialref07_coarse.ok (a0 : List TBucket) (a1 : Int) (a2 : Int) (r : List TBucket) (H : f_pluvialref07_coarse.f a0 a1 a2 = some r) : Pv.Fn Try.prog 41 [.im (.row (a0.map eBucket)), iV .i64 a1, iV .i64 a2] [] 0 (fun x o => x = .own 0 ∧ o = [(0, some (.row 2 54 (r.map eBucket)))]) := by
  unfold f_pluvialref07_coarse.f at H
  refine Fn.bodyK [0] Try.func41 rfl rfl (fun Γ hP hn => ?_)
  have hm : Try.prog.follows .mixedOrders = true := by kernel_rfl
  replace hn : Γ.n = 46 := hn
  refine AWp.seq ?_
  refine reg hP hn hm [] [0, 1, 2] [] ⟨[(0, .im (.row (a0.map eBucket))), (1, iV .i64 a1), (2, iV .i64 a2)], [], 0⟩ [] (by kernel_rfl) trivial ?_
  refine AWp.seq ?_
  refine reg hP hn hm [] [0, 1, 2, 7] [] ⟨[(0, .im (.row (a0.map eBucket))), (1, iV .i64 a1), (2, iV .i64 a2), (7, .none0)], [], 0⟩ [] (by kernel_rfl) trivial ?_
  refine AWp.seq ?_
  refine AWp.seq ?_
  refine reg hP hn hm [] [0, 1, 2, 7, 8] [] ⟨[(0, .im (.row (a0.map eBucket))), (1, iV .i64 a1), (2, iV .i64 a2), (7, .none0), (8, iV .i64 0)], [], 0⟩ [] (by kernel_rfl) trivial ?_
  refine AWp.block ?_
  obtain ⟨o1903, e1904, H⟩ := bind_of H
  refine AWp.loop (LWp.conv (inv := []) (vk := []) (e0 := [2]) (t := ⟨[(0, .im (.row (a0.map eBucket))), (1, iV .i64 a1), (2, iV .i64 a2), (7, .own 2), (8, iV .i64 0)], [(2, some (.row 2 54 ([].map eBucket)))], 0⟩) (by kernel_rfl) ?_)
  refine LWp.mono (Q := fun e s => (match (generalizing := false) o1903 with | x1740 => e = .exit 0 ∧ s = ⟨[(7, .own 5)], [(5, some (.row 2 54 (x1740.map eBucket)))], 0⟩)) (LWp.cv (withBody (fun body hbody => ?_))) ?_
  · refine f_pluvialref07_coarse.l0.partial_correctness a0 a1 a2 (motive := fun x1725 x1726 o1903 => LWp Γ body (fun e s => ∃ t, Cv Γ s t ∧ (match (generalizing := false) o1903 with | x1740 => e = .exit 0 ∧ t = ⟨[(7, .own 5)], [(5, some (.row 2 54 (x1740.map eBucket)))], 0⟩)) ⟨[(0, .im (.row (a0.map eBucket))), (1, iV .i64 a1), (2, iV .i64 a2), (7, .own 2), (8, iV .i64 x1726)], [(2, some (.row 2 54 (x1725.map eBucket)))], 0⟩) ?_ _ _ _ e1904
    clear H e1904 o1903; intro self ih x1725 x1726 o1903 H
    subst hbody
    refine LWp.round ?_
    refine AWp.seq ?_
    refine AWp.seq ?_
    refine reg hP hn hm [(2, .any (iV .i64 (a0.length : Int)))] [0, 1, 2, 7, 8, 16] [2] ⟨[(0, .im (.row (a0.map eBucket))), (1, iV .i64 a1), (2, iV .i64 a2), (7, .own 2), (8, iV .i64 x1726), (16, bV (decide (x1726 < (a0.length : Int))))], [(2, some (.row 2 54 (x1725.map eBucket)))], 0⟩ [((a0.map eBucket).length : Int) = (a0.length : Int)] (by kernel_rfl) ⟨by rw [len_map], trivial⟩ ?_
    refine AWp.cond (decide (x1726 < (a0.length : Int))) rfl (fun c1727 => ?_) (fun c1727 => ?_)
    · replace H := (ifT c1727).symm.trans H
      refine AWp.skip ?_
      refine AWp.seq ?_
      refine AWp.block ?_
      refine AWp.seq ?_
      obtain ⟨b1733, p1734, q1735, H⟩ := at_of H
      obtain ⟨t1736, e1737, H⟩ := bind_of H
      refine reg hP hn hm [(4, .c (eBucket b1733)), (7, .call [] [] [] [] 0 (.tup [iV .i64 t1736.1, iV .i64 t1736.2]) [])] [0, 1, 2, 7, 8, 9] [2] ⟨[(0, .im (.row (a0.map eBucket))), (1, iV .i64 a1), (2, iV .i64 a2), (7, .own 2), (8, iV .i64 x1726), (9, iV .i64 t1736.1)], [(2, some (.row 2 54 (x1725.map eBucket)))], 0⟩ [0 ≤ x1726, (a0.map eBucket)[(Int.toNat (x1726))]? = some (eBucket b1733), Enters Try.prog 63, Pv.Fn Try.prog 63 [iV .i64 a1, iV .i64 a2, iV .i64 b1733.f0] [] 0 (fun r o => r = .tup [iV .i64 t1736.1, iV .i64 t1736.2] ∧ o = [])] (by kernel_rfl) ⟨by exact p1734, by exact el_map eBucket q1735, by exact Try.call63, by exact f_pluvialref04_To.ok a1 a2 b1733.f0 t1736 e1737, trivial⟩ ?_
      obtain ⟨c1739, H⟩ := chk_of H
      refine reg hP hn hm [(4, .c (eBucket b1733)), (8, .app 3 ([(⟨t1736.1, b1733.f1⟩ : TBucket)].map eBucket)), (9, .app 4 ((x1725 ++ [(⟨t1736.1, b1733.f1⟩ : TBucket)]).map eBucket))] [0, 1, 2, 7, 8] [4] ⟨[(0, .im (.row (a0.map eBucket))), (1, iV .i64 a1), (2, iV .i64 a2), (7, .own 4), (8, iV .i64 x1726)], [(4, some (.row 2 54 ((x1725 ++ [(⟨t1736.1, b1733.f1⟩ : TBucket)]).map eBucket)))], 0⟩ [0 ≤ x1726, (a0.map eBucket)[(Int.toNat (x1726))]? = some (eBucket b1733), [(⟨t1736.1, b1733.f1⟩ : TBucket)].map eBucket = [[iI .i64 t1736.1, iI .u64 b1733.f1]], (x1725 ++ [(⟨t1736.1, b1733.f1⟩ : TBucket)]).map eBucket = (x1725.map eBucket) ++ ([(⟨t1736.1, b1733.f1⟩ : TBucket)].map eBucket), ∀ c ∈ ([(⟨t1736.1, b1733.f1⟩ : TBucket)].map eBucket), c.length = 2, ∀ c ∈ ([(⟨t1736.1, b1733.f1⟩ : TBucket)].map eBucket), leaves (c.map .im) = true, ((x1725.map eBucket).length + ([(⟨t1736.1, b1733.f1⟩ : TBucket)].map eBucket).length) * 16 ≤ 140737488355328] (by kernel_rfl) ⟨by exact p1734, by exact el_map eBucket q1735, by exact rfl, by simp, by exact all_len _ _ _ (fun _ => rfl), by exact all_leaf _ _ (fun _ => rfl), by simpa using c1739, trivial⟩ ?_
      refine reg hP hn hm [] [0, 1, 2, 7, 8] [4] ⟨[(0, .im (.row (a0.map eBucket))), (1, iV .i64 a1), (2, iV .i64 a2), (7, .own 4), (8, iV .i64 (IntKind.i64.wrap (x1726 + (1 : Int))))], [(4, some (.row 2 54 ((x1725 ++ [(⟨t1736.1, b1733.f1⟩ : TBucket)]).map eBucket)))], 0⟩ [] (by kernel_rfl) trivial ?_
      exact LWp.conv (inv := [(4, 2)]) (vk := []) (e0 := []) (t := ⟨[(0, .im (.row (a0.map eBucket))), (1, iV .i64 a1), (2, iV .i64 a2), (7, .own 2), (8, iV .i64 (IntKind.i64.wrap (x1726 + (1 : Int))))], [(2, some (.row 2 54 ((x1725 ++ [(⟨t1736.1, b1733.f1⟩ : TBucket)]).map eBucket)))], 0⟩) (by kernel_rfl) (ih _ _ _ H)
    · replace H := (ifF c1727).symm.trans H
      refine AWp.exit ?_
      obtain rfl := Option.some.inj H
      exact Exists.intro _ (And.intro (fun _ _ h => h.conv (inv := [(2, 5)]) (vk := []) (e0 := []) (t := ⟨[(7, .own 5)], [(5, some (.row 2 54 (x1725.map eBucket)))], 0⟩) (by kernel_rfl)) (And.intro rfl rfl))
  · obtain ⟨x1740, rfl⟩ : ∃ z, z = o1903 := ⟨_, rfl⟩
    rintro e s ⟨rfl, rfl⟩
    refine AWp.seq ?_
    refine AWp.conv (inv := []) (vk := [5]) (e0 := []) (t := ⟨[(7, .im (.row (x1740.map eBucket)))], [], 0⟩) (by kernel_rfl) ?_
    obtain ⟨t1901, e1902, H⟩ := bind_of H
    refine reg hP hn hm [(1, .call [] [(0, 6)] [] [6] 0 (.tup [.own 0, iV .i64 t1901.2]) [(0, some (.row 2 54 (t1901.1.map eBucket)))])] [11] [6] ⟨[(11, .own 6)], [(6, some (.row 2 54 (t1901.1.map eBucket)))], 0⟩ [Enters Try.prog 48, Pv.Fn Try.prog 48 [.im (.row (x1740.map eBucket))] [] 0 (fun r o => r = .tup [.own 0, iV .i64 t1901.2] ∧ o = [(0, some (.row 2 54 (t1901.1.map eBucket)))])] (by kernel_rfl) ⟨by exact Try.call48, by exact f_pluvialref05_Tidy.ok x1740 t1901 e1902, trivial⟩ ?_
    refine AWp.seq ?_
    refine reg hP hn hm [] [6] [6] ⟨[(6, .own 6)], [(6, some (.row 2 54 (t1901.1.map eBucket)))], 0⟩ [] (by kernel_rfl) trivial ?_
    refine AWp.conv (inv := [(6, 0)]) (vk := []) (e0 := []) (t := ⟨[(6, .own 0)], [(0, some (.row 2 54 (t1901.1.map eBucket)))], 0⟩) (by kernel_rfl) ?_
    refine AWp.ret ?_
    obtain rfl := Option.some.inj H
    exact Exists.intro _ (And.intro (fun _ _ h => h) (And.intro (.inl rfl) (And.intro rfl (And.intro (by kernel_rfl) (by kernel_rfl)))))
def f_pluvialref07_within.l0 (a0 : Int) (a1 : List TBucket) (a2 : Int) (x1942 : Int) : Option (Int ⊕ Unit) := if (decide (x1942 < (a1.length : Int))) = true then ((((at? a1 x1942) >>= fun b1952 => (f_pluvialref04_Units.f a0 (IntKind.i64.wrap (b1952.f0 - (1 : Int)))) >>= fun t1955 => if (decide (t1955 < a2)) = true then ((f_pluvialref04_Units.f a0 b1952.f0) >>= fun t1958 => some (decide (t1958 > a2))) else (some false)) : Option (Bool)) >>= fun x1960 => if x1960 = true then ((at? a1 x1942) >>= fun b1967 => (f_pluvialref04_Units.f a0 b1967.f0) >>= fun t1970 => some (.inl t1970)) else (f_pluvialref07_within.l0 a0 a1 a2 (IntKind.i64.wrap (x1942 + (1 : Int))))) else (some (.inr ()))
partial_fixpoint
def f_pluvialref07_within.f (a0 : Int) (a1 : List TBucket) (a2 : Int) : Option (Int) := (f_pluvialref07_within.l0 a0 a1 a2 0) >>= fun oo => match oo with | .inl rr => (some rr) | .inr _ => (some a2)
theorem f_pluvialref07_within.ok (a0 : Int) (a1 : List TBucket) (a2 : Int) (r : Int) (H : f_pluvialref07_within.f a0 a1 a2 = some r) : Pv.Fn Try.prog 64 [iV .i64 a0, .im (.row (a1.map eBucket)), iV .i64 a2] [] 0 (fun x o => x = iV .i64 r ∧ o = []) := by
  unfold f_pluvialref07_within.f at H
  refine Fn.bodyK [] Try.func64 rfl rfl (fun Γ hP hn => ?_)
  have hm : Try.prog.follows .mixedOrders = true := by kernel_rfl
  replace hn : Γ.n = 43 := hn
  refine AWp.seq ?_
  refine reg hP hn hm [] [0, 1, 2] [] ⟨[(0, iV .i64 a0), (1, .im (.row (a1.map eBucket))), (2, iV .i64 a2)], [], 0⟩ [] (by kernel_rfl) trivial ?_
  refine AWp.seq ?_
  refine AWp.seq ?_
  refine reg hP hn hm [] [0, 1, 2, 7] [] ⟨[(0, iV .i64 a0), (1, .im (.row (a1.map eBucket))), (2, iV .i64 a2), (7, iV .i64 0)], [], 0⟩ [] (by kernel_rfl) trivial ?_
  refine AWp.block ?_
  obtain ⟨o1972, e1973, H⟩ := bind_of H
  refine AWp.loop (LWp.conv (inv := []) (vk := []) (e0 := []) (t := ⟨[(0, iV .i64 a0), (1, .im (.row (a1.map eBucket))), (2, iV .i64 a2), (7, iV .i64 0)], [], 0⟩) (by kernel_rfl) ?_)
  refine LWp.mono (Q := fun e s => (match (generalizing := false) o1972 with | .inl rr => e = .ret ∧ s.floor = 0 ∧ resOf Try.prog Try.f64 s = some (iV .i64 rr) ∧ ([] : List (Nat × Option MObj)) = [] | .inr _ => e = .exit 0 ∧ s = ⟨[(2, iV .i64 a2)], [], 0⟩)) (LWp.cv (withBody (fun body hbody => ?_))) ?_
  · refine f_pluvialref07_within.l0.partial_correctness a0 a1 a2 (motive := fun x1942 o1972 => LWp Γ body (fun e s => ∃ t, Cv Γ s t ∧ (match (generalizing := false) o1972 with | .inl rr => e = .ret ∧ t.floor = 0 ∧ resOf Try.prog Try.f64 t = some (iV .i64 rr) ∧ ([] : List (Nat × Option MObj)) = [] | .inr _ => e = .exit 0 ∧ t = ⟨[(2, iV .i64 a2)], [], 0⟩)) ⟨[(0, iV .i64 a0), (1, .im (.row (a1.map eBucket))), (2, iV .i64 a2), (7, iV .i64 x1942)], [], 0⟩) ?_ _ _ e1973
    clear H e1973 o1972; intro self ih x1942 o1972 H
    subst hbody
    refine LWp.round ?_
    refine AWp.seq ?_
    refine AWp.seq ?_
    refine reg hP hn hm [(2, .any (iV .i64 (a1.length : Int)))] [0, 1, 2, 7, 11] [] ⟨[(0, iV .i64 a0), (1, .im (.row (a1.map eBucket))), (2, iV .i64 a2), (7, iV .i64 x1942), (11, bV (decide (x1942 < (a1.length : Int))))], [], 0⟩ [((a1.map eBucket).length : Int) = (a1.length : Int)] (by kernel_rfl) ⟨by rw [len_map], trivial⟩ ?_
    refine AWp.cond (decide (x1942 < (a1.length : Int))) rfl (fun c1943 => ?_) (fun c1943 => ?_)
    · replace H := (ifT c1943).symm.trans H
      refine AWp.skip ?_
      refine AWp.seq ?_
      refine AWp.block ?_
      refine AWp.seq ?_
      obtain ⟨o1974, e1975, H⟩ := bind_of H
      refine AWp.mono (Q := fun e s => (match (generalizing := false) o1974 with | x1960 => e = .normal ∧ s = ⟨[(0, iV .i64 a0), (1, .im (.row (a1.map eBucket))), (2, iV .i64 a2), (7, iV .i64 x1942), (34, bV x1960)], [], 0⟩)) (AWp.cv ?_) ?_
      · replace H := e1975; clear e1975
        obtain ⟨b1952, p1953, q1954, H⟩ := at_of H
        obtain ⟨t1955, e1956, H⟩ := bind_of H
        rcases Bool.eq_false_or_eq_true (decide (t1955 < a2)) with c1957 | c1957
        · replace H := (ifT c1957).symm.trans H
          obtain ⟨t1958, e1959, H⟩ := bind_of H
          refine reg hP hn hm [(3, .c (eBucket b1952)), (7, .call [] [] [] [] 0 (iV .i64 t1955) []), (10, .b true), (14, .c (eBucket b1952)), (17, .call [] [] [] [] 0 (iV .i64 t1958) [])] [0, 1, 2, 7, 25, 26, 27, 28, 29, 30, 31, 32, 33, 34] [] ⟨[(0, iV .i64 a0), (1, .im (.row (a1.map eBucket))), (2, iV .i64 a2), (7, iV .i64 x1942), (25, iV .i64 a0), (26, .im (.row (a1.map eBucket))), (27, iV .i64 x1942), (28, .ip [iI .i64 b1952.f0, iI .u64 b1952.f1]), (29, .ip [iI .i64 b1952.f0, iI .u64 b1952.f1]), (30, iV .i64 b1952.f0), (31, iV .i64 t1958), (32, iV .i64 a2), (33, bV (decide (t1958 > a2))), (34, bV (decide (t1958 > a2)))], [], 0⟩ [0 ≤ x1942, (a1.map eBucket)[(Int.toNat (x1942))]? = some (eBucket b1952), Enters Try.prog 55, Pv.Fn Try.prog 55 [iV .i64 a0, iV .i64 (IntKind.i64.wrap (b1952.f0 - (1 : Int)))] [] 0 (fun r o => r = iV .i64 t1955 ∧ o = []), (decide (t1955 < a2)) = true, 0 ≤ x1942, (a1.map eBucket)[(Int.toNat (x1942))]? = some (eBucket b1952), Enters Try.prog 55, Pv.Fn Try.prog 55 [iV .i64 a0, iV .i64 b1952.f0] [] 0 (fun r o => r = iV .i64 t1958 ∧ o = [])] (by kernel_rfl) ⟨by exact p1953, by exact el_map eBucket q1954, by exact Try.call55, by exact f_pluvialref04_Units.ok a0 (IntKind.i64.wrap (b1952.f0 - (1 : Int))) t1955 e1956, by exact c1957, by exact p1953, by exact el_map eBucket q1954, by exact Try.call55, by exact f_pluvialref04_Units.ok a0 b1952.f0 t1958 e1959, trivial⟩ ?_
          obtain rfl := Option.some.inj H
          exact Exists.intro _ (And.intro (fun _ _ h => h.conv (inv := []) (vk := []) (e0 := []) (t := ⟨[(0, iV .i64 a0), (1, .im (.row (a1.map eBucket))), (2, iV .i64 a2), (7, iV .i64 x1942), (34, bV (decide (t1958 > a2)))], [], 0⟩) (by kernel_rfl)) (And.intro rfl rfl))
        · replace H := (ifF c1957).symm.trans H
          refine reg hP hn hm [(3, .c (eBucket b1952)), (7, .call [] [] [] [] 0 (iV .i64 t1955) []), (10, .b false)] [0, 1, 2, 7, 34] [] ⟨[(0, iV .i64 a0), (1, .im (.row (a1.map eBucket))), (2, iV .i64 a2), (7, iV .i64 x1942), (34, bV false)], [], 0⟩ [0 ≤ x1942, (a1.map eBucket)[(Int.toNat (x1942))]? = some (eBucket b1952), Enters Try.prog 55, Pv.Fn Try.prog 55 [iV .i64 a0, iV .i64 (IntKind.i64.wrap (b1952.f0 - (1 : Int)))] [] 0 (fun r o => r = iV .i64 t1955 ∧ o = []), (decide (t1955 < a2)) = false] (by kernel_rfl) ⟨by exact p1953, by exact el_map eBucket q1954, by exact Try.call55, by exact f_pluvialref04_Units.ok a0 (IntKind.i64.wrap (b1952.f0 - (1 : Int))) t1955 e1956, by exact c1957, trivial⟩ ?_
          obtain rfl := Option.some.inj H
          exact Exists.intro _ (And.intro (fun _ _ h => h.conv (inv := []) (vk := []) (e0 := []) (t := ⟨[(0, iV .i64 a0), (1, .im (.row (a1.map eBucket))), (2, iV .i64 a2), (7, iV .i64 x1942), (34, bV false)], [], 0⟩) (by kernel_rfl)) (And.intro rfl rfl))
      · obtain ⟨x1960, rfl⟩ : ∃ z, z = o1974 := ⟨_, rfl⟩
        rintro e s ⟨rfl, rfl⟩
        refine AWp.cond x1960 rfl (fun c1961 => ?_) (fun c1961 => ?_)
        · replace H := (ifT c1961).symm.trans H
          refine AWp.seq ?_
          obtain ⟨b1967, p1968, q1969, H⟩ := at_of H
          obtain ⟨t1970, e1971, H⟩ := bind_of H
          refine reg hP hn hm [(3, .c (eBucket b1967)), (6, .call [] [] [] [] 0 (iV .i64 t1970) [])] [6] [] ⟨[(6, iV .i64 t1970)], [], 0⟩ [0 ≤ x1942, (a1.map eBucket)[(Int.toNat (x1942))]? = some (eBucket b1967), Enters Try.prog 55, Pv.Fn Try.prog 55 [iV .i64 a0, iV .i64 b1967.f0] [] 0 (fun r o => r = iV .i64 t1970 ∧ o = [])] (by kernel_rfl) ⟨by exact p1968, by exact el_map eBucket q1969, by exact Try.call55, by exact f_pluvialref04_Units.ok a0 b1967.f0 t1970 e1971, trivial⟩ ?_
          refine AWp.conv (inv := []) (vk := []) (e0 := []) (t := ⟨[(6, iV .i64 t1970)], [], 0⟩) (by kernel_rfl) ?_
          refine AWp.ret ?_
          obtain rfl := Option.some.inj H
          exact Exists.intro _ (And.intro (fun _ _ h => h) (And.intro rfl (And.intro rfl (And.intro (by kernel_rfl) (by kernel_rfl)))))
        · replace H := (ifF c1961).symm.trans H
          refine AWp.skip ?_
          refine reg hP hn hm [] [0, 1, 2, 7] [] ⟨[(0, iV .i64 a0), (1, .im (.row (a1.map eBucket))), (2, iV .i64 a2), (7, iV .i64 (IntKind.i64.wrap (x1942 + (1 : Int))))], [], 0⟩ [] (by kernel_rfl) trivial ?_
          exact LWp.conv (inv := []) (vk := []) (e0 := []) (t := ⟨[(0, iV .i64 a0), (1, .im (.row (a1.map eBucket))), (2, iV .i64 a2), (7, iV .i64 (IntKind.i64.wrap (x1942 + (1 : Int))))], [], 0⟩) (by kernel_rfl) (ih _ _ H)
    · replace H := (ifF c1943).symm.trans H
      refine AWp.exit ?_
      obtain rfl := Option.some.inj H
      exact Exists.intro _ (And.intro (fun _ _ h => h.conv (inv := []) (vk := []) (e0 := []) (t := ⟨[(2, iV .i64 a2)], [], 0⟩) (by kernel_rfl)) (And.intro rfl rfl))
  · rcases o1972 with rr | _
    · skip
      rintro e s ⟨rfl, hfl, hres⟩
      obtain rfl := Option.some.inj H
      exact Exists.intro _ (And.intro (fun _ _ h => h) (And.intro (.inl rfl) (And.intro hfl hres)))
    · skip
      rintro e s ⟨rfl, rfl⟩
      refine AWp.seq ?_
      refine reg hP hn hm [] [6] [] ⟨[(6, iV .i64 a2)], [], 0⟩ [] (by kernel_rfl) trivial ?_
      refine AWp.conv (inv := []) (vk := []) (e0 := []) (t := ⟨[(6, iV .i64 a2)], [], 0⟩) (by kernel_rfl) ?_
      refine AWp.ret ?_
      obtain rfl := Option.some.inj H
      exact Exists.intro _ (And.intro (fun _ _ h => h) (And.intro (.inl rfl) (And.intro rfl (And.intro (by kernel_rfl) (by kernel_rfl)))))
def f_pluvialref07_swallow.l0 (a0 : THist) (x1985 : Int) (x2002 : Int) (x2003 : List TBucket) (x2004 : Int) : Option (Int × (List TBucket)) := if (decide (x2004 < (a0.f6.length : Int))) = true then ((at? a0.f6 x2004) >>= fun b2011 => (f_pluvialref04_Units.f a0.f1 b2011.f0) >>= fun t2014 => ((if (decide (t2014 ≤ x1985)) = true then (some (IntKind.u64.wrap (x2002 + b2011.f1), x2003)) else ((chk ((x2003.length + [b2011].length) * 16 ≤ 140737488355328)) >>= fun _ => some (x2002, x2003 ++ [b2011]))) : Option (Int × (List TBucket))) >>= fun oo => match oo with | (x2019, x2020) => (f_pluvialref07_swallow.l0 a0 x1985 x2019 x2020 (IntKind.i64.wrap (x2004 + (1 : Int))))) else (some (x2002, x2003))
partial_fixpoint
def f_pluvialref07_swallow.l1 (a0 : THist) (x1985 : Int) (x2022 : List TBucket) (x2039 : Int) (x2040 : List TBucket) (x2041 : Int) : Option (Int × (List TBucket)) := if (decide (x2041 < (a0.f7.length : Int))) = true then ((at? a0.f7 x2041) >>= fun b2048 => (f_pluvialref04_Units.f a0.f1 b2048.f0) >>= fun t2051 => ((if (decide (t2051 ≤ x1985)) = true then (some (IntKind.u64.wrap (x2039 + b2048.f1), x2040)) else ((chk ((x2040.length + [b2048].length) * 16 ≤ 140737488355328)) >>= fun _ => some (x2039, x2040 ++ [b2048]))) : Option (Int × (List TBucket))) >>= fun oo => match oo with | (x2056, x2057) => (f_pluvialref07_swallow.l1 a0 x1985 x2022 x2056 x2057 (IntKind.i64.wrap (x2041 + (1 : Int))))) else (some (x2039, x2040))
partial_fixpoint
def f_pluvialref07_swallow.f (a0 : THist) (a1 : Int) : Option (THist) := (f_pluvialref07_within.f a0.f1 a0.f6 a1) >>= fun t1980 => (f_pluvialref07_within.f a0.f1 a0.f7 a1) >>= fun t1982 => ((if (decide (t1982 > t1980)) = true then (some t1982) else (some t1980)) : Option (Int)) >>= fun x1985 => (f_pluvialref07_swallow.l0 a0 x1985 a0.f3 [] 0) >>= fun oo => match oo with | (x2021, x2022) => ((f_pluvialref07_swallow.l1 a0 x1985 x2022 x2021 [] 0) >>= fun oo => match oo with | (x2058, x2059) => (some (⟨a0.f0, a0.f1, x1985, x2058, a0.f4, a0.f5, x2022, x2059⟩ : THist)))
theorem f_pluvialref07_swallow.ok (a0 : THist) (a1 : Int) (r : THist) (H : f_pluvialref07_swallow.f a0 a1 = some r) : Pv.Fn Try.prog 42 [.agg (aHist a0), iV .i64 a1] [] 0 (fun x o => x = .agg [iV .i64 ((r).f0), iV .i64 ((r).f1), iV .i64 ((r).f2), iV .u64 ((r).f3), iV .u64 ((r).f4), iV .i64 ((r).f5), .own 0, .own 1] ∧ o = [(0, some (.row 2 54 (((r).f6).map eBucket))), (1, some (.row 2 54 (((r).f7).map eBucket)))]) := by
  unfold f_pluvialref07_swallow.f at H
  refine Fn.bodyK [0, 1] Try.func42 rfl rfl (fun Γ hP hn => ?_)
  have hm : Try.prog.follows .mixedOrders = true := by kernel_rfl
  replace hn : Γ.n = 108 := hn
  refine AWp.seq ?_
  refine reg hP hn hm [(0, .k 0), (1, .k 1)] [1, 2, 4] [0, 1] ⟨[(1, iV .i64 a1), (2, .ptr 0 0 0), (4, .ptr 1 0 0)], [(0, some (.box 25 (aHist a0))), (1, some (.box 25 [iV .i64 0, iV .i64 0, iV .i64 0, iV .u64 0, iV .u64 0, iV .i64 0, .none0, .none0]))], 0⟩ [] (by kernel_rfl) trivial ?_
  refine AWp.seq ?_
  obtain ⟨t1980, e1981, H⟩ := bind_of H
  obtain ⟨t1982, e1983, H⟩ := bind_of H
  refine reg hP hn hm [(5, .call [] [] [] [] 0 (iV .i64 t1980) []), (11, .call [] [] [] [] 0 (iV .i64 t1982) [])] [2, 4, 5, 6] [0, 1] ⟨[(2, .ptr 0 0 0), (4, .ptr 1 0 0), (5, iV .i64 t1980), (6, iV .i64 t1982)], [(0, some (.box 25 (aHist a0))), (1, some (.box 25 [iV .i64 0, iV .i64 0, iV .i64 0, iV .u64 0, iV .u64 0, iV .i64 0, .none0, .none0]))], 0⟩ [Enters Try.prog 64, Pv.Fn Try.prog 64 [iV .i64 a0.f1, .im (.row (a0.f6.map eBucket)), iV .i64 a1] [] 0 (fun r o => r = iV .i64 t1980 ∧ o = []), Enters Try.prog 64, Pv.Fn Try.prog 64 [iV .i64 a0.f1, .im (.row (a0.f7.map eBucket)), iV .i64 a1] [] 0 (fun r o => r = iV .i64 t1982 ∧ o = [])] (by kernel_rfl) ⟨by exact Try.call64, by exact f_pluvialref07_within.ok a0.f1 a0.f6 a1 t1980 e1981, by exact Try.call64, by exact f_pluvialref07_within.ok a0.f1 a0.f7 a1 t1982 e1983, trivial⟩ ?_
  refine AWp.seq ?_
  refine AWp.seq ?_
  refine reg hP hn hm [] [2, 4, 5, 6, 24] [0, 1] ⟨[(2, .ptr 0 0 0), (4, .ptr 1 0 0), (5, iV .i64 t1980), (6, iV .i64 t1982), (24, bV (decide (t1982 > t1980)))], [(0, some (.box 25 (aHist a0))), (1, some (.box 25 [iV .i64 0, iV .i64 0, iV .i64 0, iV .u64 0, iV .u64 0, iV .i64 0, .none0, .none0]))], 0⟩ [] (by kernel_rfl) trivial ?_
  obtain ⟨o2060, e2061, H⟩ := bind_of H
  refine AWp.mono (Q := fun e s => (match (generalizing := false) o2060 with | x1985 => e = .normal ∧ s = ⟨[(2, .ptr 2 0 0), (4, .ptr 3 0 0), (5, iV .i64 x1985)], [(2, some (.box 25 (aHist a0))), (3, some (.box 25 [iV .i64 0, iV .i64 0, iV .i64 0, iV .u64 0, iV .u64 0, iV .i64 0, .none0, .none0]))], 0⟩)) (AWp.cv ?_) ?_
  · replace H := e2061; clear e2061
    refine AWp.cond (decide (t1982 > t1980)) rfl (fun c1984 => ?_) (fun c1984 => ?_)
    · replace H := (ifT c1984).symm.trans H
      refine reg hP hn hm [] [2, 4, 5] [0, 1] ⟨[(2, .ptr 0 0 0), (4, .ptr 1 0 0), (5, iV .i64 t1982)], [(0, some (.box 25 (aHist a0))), (1, some (.box 25 [iV .i64 0, iV .i64 0, iV .i64 0, iV .u64 0, iV .u64 0, iV .i64 0, .none0, .none0]))], 0⟩ [] (by kernel_rfl) trivial ?_
      obtain rfl := Option.some.inj H
      exact Exists.intro _ (And.intro (fun _ _ h => h.conv (inv := [(0, 2), (1, 3)]) (vk := []) (e0 := []) (t := ⟨[(2, .ptr 2 0 0), (4, .ptr 3 0 0), (5, iV .i64 t1982)], [(2, some (.box 25 (aHist a0))), (3, some (.box 25 [iV .i64 0, iV .i64 0, iV .i64 0, iV .u64 0, iV .u64 0, iV .i64 0, .none0, .none0]))], 0⟩) (by kernel_rfl)) (And.intro rfl rfl))
    · replace H := (ifF c1984).symm.trans H
      refine AWp.skip ?_
      obtain rfl := Option.some.inj H
      exact Exists.intro _ (And.intro (fun _ _ h => h.conv (inv := [(0, 2), (1, 3)]) (vk := []) (e0 := []) (t := ⟨[(2, .ptr 2 0 0), (4, .ptr 3 0 0), (5, iV .i64 t1980)], [(2, some (.box 25 (aHist a0))), (3, some (.box 25 [iV .i64 0, iV .i64 0, iV .i64 0, iV .u64 0, iV .u64 0, iV .i64 0, .none0, .none0]))], 0⟩) (by kernel_rfl)) (And.intro rfl rfl))
  · obtain ⟨x1985, rfl⟩ : ∃ z, z = o2060 := ⟨_, rfl⟩
    rintro e s ⟨rfl, rfl⟩
    refine AWp.seq ?_
    refine reg hP hn hm [(1, .k 4)] [2, 4, 5, 7] [2, 3, 4] ⟨[(2, .ptr 2 0 0), (4, .ptr 3 0 0), (5, iV .i64 x1985), (7, .ptr 4 0 0)], [(2, some (.box 25 (aHist a0))), (3, some (.box 25 [iV .i64 0, iV .i64 0, iV .i64 0, iV .u64 0, iV .u64 0, iV .i64 0, .none0, .none0])), (4, some (.box 25 (aHist a0)))], 0⟩ [] (by kernel_rfl) trivial ?_
    refine AWp.seq ?_
    refine reg hP hn hm [] [2, 4, 5, 7] [2, 3, 4] ⟨[(2, .ptr 2 0 0), (4, .ptr 3 0 0), (5, iV .i64 x1985), (7, .ptr 4 0 0)], [(2, some (.box 25 (aHist a0))), (3, some (.box 25 [iV .i64 0, iV .i64 0, iV .i64 0, iV .u64 0, iV .u64 0, iV .i64 0, .none0, .none0])), (4, some (.box 25 (aHist ⟨a0.f0, a0.f1, x1985, a0.f3, a0.f4, a0.f5, a0.f6, a0.f7⟩)))], 0⟩ [] (by kernel_rfl) trivial ?_
    refine AWp.seq ?_
    refine reg hP hn hm [] [2, 4, 5, 7] [2, 3, 4] ⟨[(2, .ptr 2 0 0), (4, .ptr 3 0 0), (5, iV .i64 x1985), (7, .ptr 4 0 0)], [(2, some (.box 25 (aHist a0))), (3, some (.box 25 [iV .i64 0, iV .i64 0, iV .i64 0, iV .u64 0, iV .u64 0, iV .i64 0, .none0, .none0])), (4, some (.box 25 [iV .i64 a0.f0, iV .i64 a0.f1, iV .i64 x1985, iV .u64 a0.f3, iV .u64 a0.f4, iV .i64 a0.f5, .none0, .im (.row (a0.f7.map eBucket))]))], 0⟩ [] (by kernel_rfl) trivial ?_
    refine AWp.seq ?_
    refine reg hP hn hm [] [2, 4, 5, 7] [2, 3, 4] ⟨[(2, .ptr 2 0 0), (4, .ptr 3 0 0), (5, iV .i64 x1985), (7, .ptr 4 0 0)], [(2, some (.box 25 (aHist a0))), (3, some (.box 25 [iV .i64 0, iV .i64 0, iV .i64 0, iV .u64 0, iV .u64 0, iV .i64 0, .none0, .none0])), (4, some (.box 25 [iV .i64 a0.f0, iV .i64 a0.f1, iV .i64 x1985, iV .u64 a0.f3, iV .u64 a0.f4, iV .i64 a0.f5, .none0, .none0]))], 0⟩ [] (by kernel_rfl) trivial ?_
    refine AWp.seq ?_
    refine AWp.seq ?_
    refine reg hP hn hm [] [2, 4, 5, 7, 8] [2, 3, 4] ⟨[(2, .ptr 2 0 0), (4, .ptr 3 0 0), (5, iV .i64 x1985), (7, .ptr 4 0 0), (8, iV .i64 0)], [(2, some (.box 25 (aHist a0))), (3, some (.box 25 [iV .i64 0, iV .i64 0, iV .i64 0, iV .u64 0, iV .u64 0, iV .i64 0, .none0, .none0])), (4, some (.box 25 [iV .i64 a0.f0, iV .i64 a0.f1, iV .i64 x1985, iV .u64 a0.f3, iV .u64 a0.f4, iV .i64 a0.f5, .none0, .none0]))], 0⟩ [] (by kernel_rfl) trivial ?_
    refine AWp.block ?_
    obtain ⟨o2062, e2063, H⟩ := bind_of H
    refine AWp.loop (LWp.conv (inv := [(2, 11), (3, 12), (4, 13)]) (vk := []) (e0 := [14]) (t := ⟨[(2, .ptr 11 0 0), (4, .ptr 12 0 0), (5, iV .i64 x1985), (7, .ptr 13 0 0), (8, iV .i64 0)], [(11, some (.box 25 (aHist a0))), (12, some (.box 25 [iV .i64 0, iV .i64 0, iV .i64 0, iV .u64 0, iV .u64 0, iV .i64 0, .none0, .none0])), (13, some (.box 25 [iV .i64 a0.f0, iV .i64 a0.f1, iV .i64 x1985, iV .u64 a0.f3, iV .u64 a0.f4, iV .i64 a0.f5, .own 14, .none0])), (14, some (.row 2 54 ([].map eBucket)))], 0⟩) (by kernel_rfl) ?_)
    refine LWp.mono (Q := fun e s => (match (generalizing := false) o2062 with | (x2021, x2022) => e = .exit 0 ∧ s = ⟨[(2, .ptr 21 0 0), (4, .ptr 22 0 0), (5, iV .i64 x1985), (7, .ptr 23 0 0)], [(21, some (.box 25 (aHist a0))), (22, some (.box 25 [iV .i64 0, iV .i64 0, iV .i64 0, iV .u64 0, iV .u64 0, iV .i64 0, .none0, .none0])), (23, some (.box 25 [iV .i64 a0.f0, iV .i64 a0.f1, iV .i64 x1985, iV .u64 x2021, iV .u64 a0.f4, iV .i64 a0.f5, .own 24, .none0])), (24, some (.row 2 54 (x2022.map eBucket)))], 0⟩)) (LWp.cv (withBody (fun body hbody => ?_))) ?_
    · refine f_pluvialref07_swallow.l0.partial_correctness a0 x1985 (motive := fun x2002 x2003 x2004 o2062 => LWp Γ body (fun e s => ∃ t, Cv Γ s t ∧ (match (generalizing := false) o2062 with | (x2021, x2022) => e = .exit 0 ∧ t = ⟨[(2, .ptr 21 0 0), (4, .ptr 22 0 0), (5, iV .i64 x1985), (7, .ptr 23 0 0)], [(21, some (.box 25 (aHist a0))), (22, some (.box 25 [iV .i64 0, iV .i64 0, iV .i64 0, iV .u64 0, iV .u64 0, iV .i64 0, .none0, .none0])), (23, some (.box 25 [iV .i64 a0.f0, iV .i64 a0.f1, iV .i64 x1985, iV .u64 x2021, iV .u64 a0.f4, iV .i64 a0.f5, .own 24, .none0])), (24, some (.row 2 54 (x2022.map eBucket)))], 0⟩)) ⟨[(2, .ptr 11 0 0), (4, .ptr 12 0 0), (5, iV .i64 x1985), (7, .ptr 13 0 0), (8, iV .i64 x2004)], [(11, some (.box 25 (aHist a0))), (12, some (.box 25 [iV .i64 0, iV .i64 0, iV .i64 0, iV .u64 0, iV .u64 0, iV .i64 0, .none0, .none0])), (13, some (.box 25 [iV .i64 a0.f0, iV .i64 a0.f1, iV .i64 x1985, iV .u64 x2002, iV .u64 a0.f4, iV .i64 a0.f5, .own 14, .none0])), (14, some (.row 2 54 (x2003.map eBucket)))], 0⟩) ?_ _ _ _ _ e2063
      clear H e2063 o2062; intro self ih x2002 x2003 x2004 o2062 H
      subst hbody
      refine LWp.round ?_
      refine AWp.seq ?_
      refine AWp.seq ?_
      refine reg hP hn hm [(3, .any (iV .i64 (a0.f6.length : Int)))] [2, 4, 5, 7, 8, 35] [11, 12, 13, 14] ⟨[(2, .ptr 11 0 0), (4, .ptr 12 0 0), (5, iV .i64 x1985), (7, .ptr 13 0 0), (8, iV .i64 x2004), (35, bV (decide (x2004 < (a0.f6.length : Int))))], [(11, some (.box 25 (aHist a0))), (12, some (.box 25 [iV .i64 0, iV .i64 0, iV .i64 0, iV .u64 0, iV .u64 0, iV .i64 0, .none0, .none0])), (13, some (.box 25 [iV .i64 a0.f0, iV .i64 a0.f1, iV .i64 x1985, iV .u64 x2002, iV .u64 a0.f4, iV .i64 a0.f5, .own 14, .none0])), (14, some (.row 2 54 (x2003.map eBucket)))], 0⟩ [((a0.f6.map eBucket).length : Int) = (a0.f6.length : Int)] (by kernel_rfl) ⟨by rw [len_map], trivial⟩ ?_
      refine AWp.cond (decide (x2004 < (a0.f6.length : Int))) rfl (fun c2005 => ?_) (fun c2005 => ?_)
      · replace H := (ifT c2005).symm.trans H
        refine AWp.skip ?_
        refine AWp.seq ?_
        refine AWp.block ?_
        refine AWp.seq ?_
        obtain ⟨b2011, p2012, q2013, H⟩ := at_of H
        obtain ⟨t2014, e2015, H⟩ := bind_of H
        refine reg hP hn hm [(5, .c (eBucket b2011)), (8, .call [] [] [] [] 0 (iV .i64 t2014) [])] [2, 4, 5, 7, 8, 48] [11, 12, 13, 14] ⟨[(2, .ptr 11 0 0), (4, .ptr 12 0 0), (5, iV .i64 x1985), (7, .ptr 13 0 0), (8, iV .i64 x2004), (48, bV (decide (t2014 ≤ x1985)))], [(11, some (.box 25 (aHist a0))), (12, some (.box 25 [iV .i64 0, iV .i64 0, iV .i64 0, iV .u64 0, iV .u64 0, iV .i64 0, .none0, .none0])), (13, some (.box 25 [iV .i64 a0.f0, iV .i64 a0.f1, iV .i64 x1985, iV .u64 x2002, iV .u64 a0.f4, iV .i64 a0.f5, .own 14, .none0])), (14, some (.row 2 54 (x2003.map eBucket)))], 0⟩ [0 ≤ x2004, (a0.f6.map eBucket)[(Int.toNat (x2004))]? = some (eBucket b2011), Enters Try.prog 55, Pv.Fn Try.prog 55 [iV .i64 a0.f1, iV .i64 b2011.f0] [] 0 (fun r o => r = iV .i64 t2014 ∧ o = [])] (by kernel_rfl) ⟨by exact p2012, by exact el_map eBucket q2013, by exact Try.call55, by exact f_pluvialref04_Units.ok a0.f1 b2011.f0 t2014 e2015, trivial⟩ ?_
        obtain ⟨o2064, e2065, H⟩ := bind_of H
        refine AWp.mono (Q := fun e s => (match (generalizing := false) o2064 with | (x2019, x2020) => e = .normal ∧ s = ⟨[(2, .ptr 17 0 0), (4, .ptr 18 0 0), (5, iV .i64 x1985), (7, .ptr 19 0 0), (8, iV .i64 x2004)], [(17, some (.box 25 (aHist a0))), (18, some (.box 25 [iV .i64 0, iV .i64 0, iV .i64 0, iV .u64 0, iV .u64 0, iV .i64 0, .none0, .none0])), (19, some (.box 25 [iV .i64 a0.f0, iV .i64 a0.f1, iV .i64 x1985, iV .u64 x2019, iV .u64 a0.f4, iV .i64 a0.f5, .own 20, .none0])), (20, some (.row 2 54 (x2020.map eBucket)))], 0⟩)) (AWp.cv ?_) ?_
        · replace H := e2065; clear e2065
          refine AWp.cond (decide (t2014 ≤ x1985)) rfl (fun c2016 => ?_) (fun c2016 => ?_)
          · replace H := (ifT c2016).symm.trans H
            refine reg hP hn hm [(5, .c (eBucket b2011))] [2, 4, 5, 7, 8] [11, 12, 13, 14] ⟨[(2, .ptr 11 0 0), (4, .ptr 12 0 0), (5, iV .i64 x1985), (7, .ptr 13 0 0), (8, iV .i64 x2004)], [(11, some (.box 25 (aHist a0))), (12, some (.box 25 [iV .i64 0, iV .i64 0, iV .i64 0, iV .u64 0, iV .u64 0, iV .i64 0, .none0, .none0])), (13, some (.box 25 [iV .i64 a0.f0, iV .i64 a0.f1, iV .i64 x1985, iV .u64 (IntKind.u64.wrap (x2002 + b2011.f1)), iV .u64 a0.f4, iV .i64 a0.f5, .own 14, .none0])), (14, some (.row 2 54 (x2003.map eBucket)))], 0⟩ [0 ≤ x2004, (a0.f6.map eBucket)[(Int.toNat (x2004))]? = some (eBucket b2011)] (by kernel_rfl) ⟨by exact p2012, by exact el_map eBucket q2013, trivial⟩ ?_
            obtain rfl := Option.some.inj H
            exact Exists.intro _ (And.intro (fun _ _ h => h.conv (inv := [(11, 17), (12, 18), (13, 19), (14, 20)]) (vk := []) (e0 := []) (t := ⟨[(2, .ptr 17 0 0), (4, .ptr 18 0 0), (5, iV .i64 x1985), (7, .ptr 19 0 0), (8, iV .i64 x2004)], [(17, some (.box 25 (aHist a0))), (18, some (.box 25 [iV .i64 0, iV .i64 0, iV .i64 0, iV .u64 0, iV .u64 0, iV .i64 0, .none0, .none0])), (19, some (.box 25 [iV .i64 a0.f0, iV .i64 a0.f1, iV .i64 x1985, iV .u64 (IntKind.u64.wrap (x2002 + b2011.f1)), iV .u64 a0.f4, iV .i64 a0.f5, .own 20, .none0])), (20, some (.row 2 54 (x2003.map eBucket)))], 0⟩) (by kernel_rfl)) (And.intro rfl rfl))
          · replace H := (ifF c2016).symm.trans H
            obtain ⟨c2018, H⟩ := chk_of H
            refine reg hP hn hm [(5, .c (eBucket b2011)), (7, .app 15 ([b2011].map eBucket)), (8, .app 16 ((x2003 ++ [b2011]).map eBucket))] [2, 4, 5, 7, 8] [11, 12, 13, 16] ⟨[(2, .ptr 11 0 0), (4, .ptr 12 0 0), (5, iV .i64 x1985), (7, .ptr 13 0 0), (8, iV .i64 x2004)], [(11, some (.box 25 (aHist a0))), (12, some (.box 25 [iV .i64 0, iV .i64 0, iV .i64 0, iV .u64 0, iV .u64 0, iV .i64 0, .none0, .none0])), (13, some (.box 25 [iV .i64 a0.f0, iV .i64 a0.f1, iV .i64 x1985, iV .u64 x2002, iV .u64 a0.f4, iV .i64 a0.f5, .own 16, .none0])), (16, some (.row 2 54 ((x2003 ++ [b2011]).map eBucket)))], 0⟩ [0 ≤ x2004, (a0.f6.map eBucket)[(Int.toNat (x2004))]? = some (eBucket b2011), [b2011].map eBucket = [[iI .i64 b2011.f0, iI .u64 b2011.f1]], (x2003 ++ [b2011]).map eBucket = (x2003.map eBucket) ++ ([b2011].map eBucket), ∀ c ∈ ([b2011].map eBucket), c.length = 2, ∀ c ∈ ([b2011].map eBucket), leaves (c.map .im) = true, ((x2003.map eBucket).length + ([b2011].map eBucket).length) * 16 ≤ 140737488355328] (by kernel_rfl) ⟨by exact p2012, by exact el_map eBucket q2013, by exact rfl, by simp, by exact all_len _ _ _ (fun _ => rfl), by exact all_leaf _ _ (fun _ => rfl), by simpa using c2018, trivial⟩ ?_
            obtain rfl := Option.some.inj H
            exact Exists.intro _ (And.intro (fun _ _ h => h.conv (inv := [(11, 17), (12, 18), (13, 19), (16, 20)]) (vk := []) (e0 := []) (t := ⟨[(2, .ptr 17 0 0), (4, .ptr 18 0 0), (5, iV .i64 x1985), (7, .ptr 19 0 0), (8, iV .i64 x2004)], [(17, some (.box 25 (aHist a0))), (18, some (.box 25 [iV .i64 0, iV .i64 0, iV .i64 0, iV .u64 0, iV .u64 0, iV .i64 0, .none0, .none0])), (19, some (.box 25 [iV .i64 a0.f0, iV .i64 a0.f1, iV .i64 x1985, iV .u64 x2002, iV .u64 a0.f4, iV .i64 a0.f5, .own 20, .none0])), (20, some (.row 2 54 ((x2003 ++ [b2011]).map eBucket)))], 0⟩) (by kernel_rfl)) (And.intro rfl rfl))
        · obtain ⟨x2019, x2020⟩ := o2064
          rintro e s ⟨rfl, rfl⟩
          refine reg hP hn hm [] [2, 4, 5, 7, 8] [17, 18, 19, 20] ⟨[(2, .ptr 17 0 0), (4, .ptr 18 0 0), (5, iV .i64 x1985), (7, .ptr 19 0 0), (8, iV .i64 (IntKind.i64.wrap (x2004 + (1 : Int))))], [(17, some (.box 25 (aHist a0))), (18, some (.box 25 [iV .i64 0, iV .i64 0, iV .i64 0, iV .u64 0, iV .u64 0, iV .i64 0, .none0, .none0])), (19, some (.box 25 [iV .i64 a0.f0, iV .i64 a0.f1, iV .i64 x1985, iV .u64 x2019, iV .u64 a0.f4, iV .i64 a0.f5, .own 20, .none0])), (20, some (.row 2 54 (x2020.map eBucket)))], 0⟩ [] (by kernel_rfl) trivial ?_
          exact LWp.conv (inv := [(17, 11), (18, 12), (19, 13), (20, 14)]) (vk := []) (e0 := []) (t := ⟨[(2, .ptr 11 0 0), (4, .ptr 12 0 0), (5, iV .i64 x1985), (7, .ptr 13 0 0), (8, iV .i64 (IntKind.i64.wrap (x2004 + (1 : Int))))], [(11, some (.box 25 (aHist a0))), (12, some (.box 25 [iV .i64 0, iV .i64 0, iV .i64 0, iV .u64 0, iV .u64 0, iV .i64 0, .none0, .none0])), (13, some (.box 25 [iV .i64 a0.f0, iV .i64 a0.f1, iV .i64 x1985, iV .u64 x2019, iV .u64 a0.f4, iV .i64 a0.f5, .own 14, .none0])), (14, some (.row 2 54 (x2020.map eBucket)))], 0⟩) (by kernel_rfl) (ih _ _ _ _ H)
      · replace H := (ifF c2005).symm.trans H
        refine AWp.exit ?_
        obtain rfl := Option.some.inj H
        exact Exists.intro _ (And.intro (fun _ _ h => h.conv (inv := [(11, 21), (12, 22), (13, 23), (14, 24)]) (vk := []) (e0 := []) (t := ⟨[(2, .ptr 21 0 0), (4, .ptr 22 0 0), (5, iV .i64 x1985), (7, .ptr 23 0 0)], [(21, some (.box 25 (aHist a0))), (22, some (.box 25 [iV .i64 0, iV .i64 0, iV .i64 0, iV .u64 0, iV .u64 0, iV .i64 0, .none0, .none0])), (23, some (.box 25 [iV .i64 a0.f0, iV .i64 a0.f1, iV .i64 x1985, iV .u64 x2002, iV .u64 a0.f4, iV .i64 a0.f5, .own 24, .none0])), (24, some (.row 2 54 (x2003.map eBucket)))], 0⟩) (by kernel_rfl)) (And.intro rfl rfl))
    · obtain ⟨x2021, x2022⟩ := o2062
      rintro e s ⟨rfl, rfl⟩
      refine AWp.seq ?_
      refine AWp.seq ?_
      refine reg hP hn hm [] [2, 4, 5, 7, 9] [21, 22, 23, 24] ⟨[(2, .ptr 21 0 0), (4, .ptr 22 0 0), (5, iV .i64 x1985), (7, .ptr 23 0 0), (9, iV .i64 0)], [(21, some (.box 25 (aHist a0))), (22, some (.box 25 [iV .i64 0, iV .i64 0, iV .i64 0, iV .u64 0, iV .u64 0, iV .i64 0, .none0, .none0])), (23, some (.box 25 [iV .i64 a0.f0, iV .i64 a0.f1, iV .i64 x1985, iV .u64 x2021, iV .u64 a0.f4, iV .i64 a0.f5, .own 24, .none0])), (24, some (.row 2 54 (x2022.map eBucket)))], 0⟩ [] (by kernel_rfl) trivial ?_
      refine AWp.block ?_
      obtain ⟨o2066, e2067, H⟩ := bind_of H
      refine AWp.loop (LWp.conv (inv := [(21, 32), (22, 33), (23, 34), (24, 35)]) (vk := []) (e0 := [36]) (t := ⟨[(2, .ptr 32 0 0), (4, .ptr 33 0 0), (5, iV .i64 x1985), (7, .ptr 34 0 0), (9, iV .i64 0)], [(32, some (.box 25 (aHist a0))), (33, some (.box 25 [iV .i64 0, iV .i64 0, iV .i64 0, iV .u64 0, iV .u64 0, iV .i64 0, .none0, .none0])), (34, some (.box 25 [iV .i64 a0.f0, iV .i64 a0.f1, iV .i64 x1985, iV .u64 x2021, iV .u64 a0.f4, iV .i64 a0.f5, .own 35, .own 36])), (35, some (.row 2 54 (x2022.map eBucket))), (36, some (.row 2 54 ([].map eBucket)))], 0⟩) (by kernel_rfl) ?_)
      refine LWp.mono (Q := fun e s => (match (generalizing := false) o2066 with | (x2058, x2059) => e = .exit 2 ∧ s = ⟨[(4, .ptr 44 0 0), (7, .ptr 45 0 0)], [(44, some (.box 25 [iV .i64 0, iV .i64 0, iV .i64 0, iV .u64 0, iV .u64 0, iV .i64 0, .none0, .none0])), (45, some (.box 25 [iV .i64 a0.f0, iV .i64 a0.f1, iV .i64 x1985, iV .u64 x2058, iV .u64 a0.f4, iV .i64 a0.f5, .own 46, .own 47])), (46, some (.row 2 54 (x2022.map eBucket))), (47, some (.row 2 54 (x2059.map eBucket)))], 0⟩)) (LWp.cv (withBody (fun body hbody => ?_))) ?_
      · refine f_pluvialref07_swallow.l1.partial_correctness a0 x1985 x2022 (motive := fun x2039 x2040 x2041 o2066 => LWp Γ body (fun e s => ∃ t, Cv Γ s t ∧ (match (generalizing := false) o2066 with | (x2058, x2059) => e = .exit 2 ∧ t = ⟨[(4, .ptr 44 0 0), (7, .ptr 45 0 0)], [(44, some (.box 25 [iV .i64 0, iV .i64 0, iV .i64 0, iV .u64 0, iV .u64 0, iV .i64 0, .none0, .none0])), (45, some (.box 25 [iV .i64 a0.f0, iV .i64 a0.f1, iV .i64 x1985, iV .u64 x2058, iV .u64 a0.f4, iV .i64 a0.f5, .own 46, .own 47])), (46, some (.row 2 54 (x2022.map eBucket))), (47, some (.row 2 54 (x2059.map eBucket)))], 0⟩)) ⟨[(2, .ptr 32 0 0), (4, .ptr 33 0 0), (5, iV .i64 x1985), (7, .ptr 34 0 0), (9, iV .i64 x2041)], [(32, some (.box 25 (aHist a0))), (33, some (.box 25 [iV .i64 0, iV .i64 0, iV .i64 0, iV .u64 0, iV .u64 0, iV .i64 0, .none0, .none0])), (34, some (.box 25 [iV .i64 a0.f0, iV .i64 a0.f1, iV .i64 x1985, iV .u64 x2039, iV .u64 a0.f4, iV .i64 a0.f5, .own 35, .own 36])), (35, some (.row 2 54 (x2022.map eBucket))), (36, some (.row 2 54 (x2040.map eBucket)))], 0⟩) ?_ _ _ _ _ e2067
        clear H e2067 o2066; intro self ih x2039 x2040 x2041 o2066 H
        subst hbody
        refine LWp.round ?_
        refine AWp.seq ?_
        refine AWp.seq ?_
        refine reg hP hn hm [(3, .any (iV .i64 (a0.f7.length : Int)))] [2, 4, 5, 7, 9, 73] [32, 33, 34, 35, 36] ⟨[(2, .ptr 32 0 0), (4, .ptr 33 0 0), (5, iV .i64 x1985), (7, .ptr 34 0 0), (9, iV .i64 x2041), (73, bV (decide (x2041 < (a0.f7.length : Int))))], [(32, some (.box 25 (aHist a0))), (33, some (.box 25 [iV .i64 0, iV .i64 0, iV .i64 0, iV .u64 0, iV .u64 0, iV .i64 0, .none0, .none0])), (34, some (.box 25 [iV .i64 a0.f0, iV .i64 a0.f1, iV .i64 x1985, iV .u64 x2039, iV .u64 a0.f4, iV .i64 a0.f5, .own 35, .own 36])), (35, some (.row 2 54 (x2022.map eBucket))), (36, some (.row 2 54 (x2040.map eBucket)))], 0⟩ [((a0.f7.map eBucket).length : Int) = (a0.f7.length : Int)] (by kernel_rfl) ⟨by rw [len_map], trivial⟩ ?_
        refine AWp.cond (decide (x2041 < (a0.f7.length : Int))) rfl (fun c2042 => ?_) (fun c2042 => ?_)
        · replace H := (ifT c2042).symm.trans H
          refine AWp.skip ?_
          refine AWp.seq ?_
          refine AWp.block ?_
          refine AWp.seq ?_
          obtain ⟨b2048, p2049, q2050, H⟩ := at_of H
          obtain ⟨t2051, e2052, H⟩ := bind_of H
          refine reg hP hn hm [(5, .c (eBucket b2048)), (8, .call [] [] [] [] 0 (iV .i64 t2051) [])] [2, 4, 5, 7, 9, 86] [32, 33, 34, 35, 36] ⟨[(2, .ptr 32 0 0), (4, .ptr 33 0 0), (5, iV .i64 x1985), (7, .ptr 34 0 0), (9, iV .i64 x2041), (86, bV (decide (t2051 ≤ x1985)))], [(32, some (.box 25 (aHist a0))), (33, some (.box 25 [iV .i64 0, iV .i64 0, iV .i64 0, iV .u64 0, iV .u64 0, iV .i64 0, .none0, .none0])), (34, some (.box 25 [iV .i64 a0.f0, iV .i64 a0.f1, iV .i64 x1985, iV .u64 x2039, iV .u64 a0.f4, iV .i64 a0.f5, .own 35, .own 36])), (35, some (.row 2 54 (x2022.map eBucket))), (36, some (.row 2 54 (x2040.map eBucket)))], 0⟩ [0 ≤ x2041, (a0.f7.map eBucket)[(Int.toNat (x2041))]? = some (eBucket b2048), Enters Try.prog 55, Pv.Fn Try.prog 55 [iV .i64 a0.f1, iV .i64 b2048.f0] [] 0 (fun r o => r = iV .i64 t2051 ∧ o = [])] (by kernel_rfl) ⟨by exact p2049, by exact el_map eBucket q2050, by exact Try.call55, by exact f_pluvialref04_Units.ok a0.f1 b2048.f0 t2051 e2052, trivial⟩ ?_
          obtain ⟨o2068, e2069, H⟩ := bind_of H
          refine AWp.mono (Q := fun e s => (match (generalizing := false) o2068 with | (x2056, x2057) => e = .normal ∧ s = ⟨[(2, .ptr 39 0 0), (4, .ptr 40 0 0), (5, iV .i64 x1985), (7, .ptr 41 0 0), (9, iV .i64 x2041)], [(39, some (.box 25 (aHist a0))), (40, some (.box 25 [iV .i64 0, iV .i64 0, iV .i64 0, iV .u64 0, iV .u64 0, iV .i64 0, .none0, .none0])), (41, some (.box 25 [iV .i64 a0.f0, iV .i64 a0.f1, iV .i64 x1985, iV .u64 x2056, iV .u64 a0.f4, iV .i64 a0.f5, .own 42, .own 43])), (42, some (.row 2 54 (x2022.map eBucket))), (43, some (.row 2 54 (x2057.map eBucket)))], 0⟩)) (AWp.cv ?_) ?_
          · replace H := e2069; clear e2069
            refine AWp.cond (decide (t2051 ≤ x1985)) rfl (fun c2053 => ?_) (fun c2053 => ?_)
            · replace H := (ifT c2053).symm.trans H
              refine reg hP hn hm [(5, .c (eBucket b2048))] [2, 4, 5, 7, 9] [32, 33, 34, 35, 36] ⟨[(2, .ptr 32 0 0), (4, .ptr 33 0 0), (5, iV .i64 x1985), (7, .ptr 34 0 0), (9, iV .i64 x2041)], [(32, some (.box 25 (aHist a0))), (33, some (.box 25 [iV .i64 0, iV .i64 0, iV .i64 0, iV .u64 0, iV .u64 0, iV .i64 0, .none0, .none0])), (34, some (.box 25 [iV .i64 a0.f0, iV .i64 a0.f1, iV .i64 x1985, iV .u64 (IntKind.u64.wrap (x2039 + b2048.f1)), iV .u64 a0.f4, iV .i64 a0.f5, .own 35, .own 36])), (35, some (.row 2 54 (x2022.map eBucket))), (36, some (.row 2 54 (x2040.map eBucket)))], 0⟩ [0 ≤ x2041, (a0.f7.map eBucket)[(Int.toNat (x2041))]? = some (eBucket b2048)] (by kernel_rfl) ⟨by exact p2049, by exact el_map eBucket q2050, trivial⟩ ?_
              obtain rfl := Option.some.inj H
              exact Exists.intro _ (And.intro (fun _ _ h => h.conv (inv := [(32, 39), (33, 40), (34, 41), (35, 42), (36, 43)]) (vk := []) (e0 := []) (t := ⟨[(2, .ptr 39 0 0), (4, .ptr 40 0 0), (5, iV .i64 x1985), (7, .ptr 41 0 0), (9, iV .i64 x2041)], [(39, some (.box 25 (aHist a0))), (40, some (.box 25 [iV .i64 0, iV .i64 0, iV .i64 0, iV .u64 0, iV .u64 0, iV .i64 0, .none0, .none0])), (41, some (.box 25 [iV .i64 a0.f0, iV .i64 a0.f1, iV .i64 x1985, iV .u64 (IntKind.u64.wrap (x2039 + b2048.f1)), iV .u64 a0.f4, iV .i64 a0.f5, .own 42, .own 43])), (42, some (.row 2 54 (x2022.map eBucket))), (43, some (.row 2 54 (x2040.map eBucket)))], 0⟩) (by kernel_rfl)) (And.intro rfl rfl))
            · replace H := (ifF c2053).symm.trans H
              obtain ⟨c2055, H⟩ := chk_of H
              refine reg hP hn hm [(5, .c (eBucket b2048)), (7, .app 37 ([b2048].map eBucket)), (8, .app 38 ((x2040 ++ [b2048]).map eBucket))] [2, 4, 5, 7, 9] [32, 33, 34, 35, 38] ⟨[(2, .ptr 32 0 0), (4, .ptr 33 0 0), (5, iV .i64 x1985), (7, .ptr 34 0 0), (9, iV .i64 x2041)], [(32, some (.box 25 (aHist a0))), (33, some (.box 25 [iV .i64 0, iV .i64 0, iV .i64 0, iV .u64 0, iV .u64 0, iV .i64 0, .none0, .none0])), (34, some (.box 25 [iV .i64 a0.f0, iV .i64 a0.f1, iV .i64 x1985, iV .u64 x2039, iV .u64 a0.f4, iV .i64 a0.f5, .own 35, .own 38])), (35, some (.row 2 54 (x2022.map eBucket))), (38, some (.row 2 54 ((x2040 ++ [b2048]).map eBucket)))], 0⟩ [0 ≤ x2041, (a0.f7.map eBucket)[(Int.toNat (x2041))]? = some (eBucket b2048), [b2048].map eBucket = [[iI .i64 b2048.f0, iI .u64 b2048.f1]], (x2040 ++ [b2048]).map eBucket = (x2040.map eBucket) ++ ([b2048].map eBucket), ∀ c ∈ ([b2048].map eBucket), c.length = 2, ∀ c ∈ ([b2048].map eBucket), leaves (c.map .im) = true, ((x2040.map eBucket).length + ([b2048].map eBucket).length) * 16 ≤ 140737488355328] (by kernel_rfl) ⟨by exact p2049, by exact el_map eBucket q2050, by exact rfl, by simp, by exact all_len _ _ _ (fun _ => rfl), by exact all_leaf _ _ (fun _ => rfl), by simpa using c2055, trivial⟩ ?_
              obtain rfl := Option.some.inj H
              exact Exists.intro _ (And.intro (fun _ _ h => h.conv (inv := [(32, 39), (33, 40), (34, 41), (35, 42), (38, 43)]) (vk := []) (e0 := []) (t := ⟨[(2, .ptr 39 0 0), (4, .ptr 40 0 0), (5, iV .i64 x1985), (7, .ptr 41 0 0), (9, iV .i64 x2041)], [(39, some (.box 25 (aHist a0))), (40, some (.box 25 [iV .i64 0, iV .i64 0, iV .i64 0, iV .u64 0, iV .u64 0, iV .i64 0, .none0, .none0])), (41, some (.box 25 [iV .i64 a0.f0, iV .i64 a0.f1, iV .i64 x1985, iV .u64 x2039, iV .u64 a0.f4, iV .i64 a0.f5, .own 42, .own 43])), (42, some (.row 2 54 (x2022.map eBucket))), (43, some (.row 2 54 ((x2040 ++ [b2048]).map eBucket)))], 0⟩) (by kernel_rfl)) (And.intro rfl rfl))
          · obtain ⟨x2056, x2057⟩ := o2068
            rintro e s ⟨rfl, rfl⟩
            refine reg hP hn hm [] [2, 4, 5, 7, 9] [39, 40, 41, 42, 43] ⟨[(2, .ptr 39 0 0), (4, .ptr 40 0 0), (5, iV .i64 x1985), (7, .ptr 41 0 0), (9, iV .i64 (IntKind.i64.wrap (x2041 + (1 : Int))))], [(39, some (.box 25 (aHist a0))), (40, some (.box 25 [iV .i64 0, iV .i64 0, iV .i64 0, iV .u64 0, iV .u64 0, iV .i64 0, .none0, .none0])), (41, some (.box 25 [iV .i64 a0.f0, iV .i64 a0.f1, iV .i64 x1985, iV .u64 x2056, iV .u64 a0.f4, iV .i64 a0.f5, .own 42, .own 43])), (42, some (.row 2 54 (x2022.map eBucket))), (43, some (.row 2 54 (x2057.map eBucket)))], 0⟩ [] (by kernel_rfl) trivial ?_
            exact LWp.conv (inv := [(39, 32), (40, 33), (41, 34), (42, 35), (43, 36)]) (vk := []) (e0 := []) (t := ⟨[(2, .ptr 32 0 0), (4, .ptr 33 0 0), (5, iV .i64 x1985), (7, .ptr 34 0 0), (9, iV .i64 (IntKind.i64.wrap (x2041 + (1 : Int))))], [(32, some (.box 25 (aHist a0))), (33, some (.box 25 [iV .i64 0, iV .i64 0, iV .i64 0, iV .u64 0, iV .u64 0, iV .i64 0, .none0, .none0])), (34, some (.box 25 [iV .i64 a0.f0, iV .i64 a0.f1, iV .i64 x1985, iV .u64 x2056, iV .u64 a0.f4, iV .i64 a0.f5, .own 35, .own 36])), (35, some (.row 2 54 (x2022.map eBucket))), (36, some (.row 2 54 (x2057.map eBucket)))], 0⟩) (by kernel_rfl) (ih _ _ _ _ H)
        · replace H := (ifF c2042).symm.trans H
          refine AWp.exit ?_
          obtain rfl := Option.some.inj H
          exact Exists.intro _ (And.intro (fun _ _ h => h.conv (inv := [(33, 44), (34, 45), (35, 46), (36, 47)]) (vk := []) (e0 := []) (t := ⟨[(4, .ptr 44 0 0), (7, .ptr 45 0 0)], [(44, some (.box 25 [iV .i64 0, iV .i64 0, iV .i64 0, iV .u64 0, iV .u64 0, iV .i64 0, .none0, .none0])), (45, some (.box 25 [iV .i64 a0.f0, iV .i64 a0.f1, iV .i64 x1985, iV .u64 x2039, iV .u64 a0.f4, iV .i64 a0.f5, .own 46, .own 47])), (46, some (.row 2 54 (x2022.map eBucket))), (47, some (.row 2 54 (x2040.map eBucket)))], 0⟩) (by kernel_rfl)) (And.intro rfl rfl))
      · obtain ⟨x2058, x2059⟩ := o2066
        rintro e s ⟨rfl, rfl⟩
        refine AWp.seq ?_
        refine reg hP hn hm [] [4] [44, 46, 47] ⟨[(4, .ptr 44 0 0)], [(44, some (.box 25 [iV .i64 a0.f0, iV .i64 a0.f1, iV .i64 x1985, iV .u64 x2058, iV .u64 a0.f4, iV .i64 a0.f5, .own 46, .own 47])), (46, some (.row 2 54 (x2022.map eBucket))), (47, some (.row 2 54 (x2059.map eBucket)))], 0⟩ [] (by kernel_rfl) trivial ?_
        refine AWp.conv (inv := [(44, 2), (46, 0), (47, 1)]) (vk := []) (e0 := []) (t := ⟨[(4, .ptr 2 0 0)], [(0, some (.row 2 54 ((((⟨a0.f0, a0.f1, x1985, x2058, a0.f4, a0.f5, x2022, x2059⟩ : THist)).f6).map eBucket))), (1, some (.row 2 54 ((((⟨a0.f0, a0.f1, x1985, x2058, a0.f4, a0.f5, x2022, x2059⟩ : THist)).f7).map eBucket))), (2, some (.box 25 [iV .i64 (((⟨a0.f0, a0.f1, x1985, x2058, a0.f4, a0.f5, x2022, x2059⟩ : THist)).f0), iV .i64 (((⟨a0.f0, a0.f1, x1985, x2058, a0.f4, a0.f5, x2022, x2059⟩ : THist)).f1), iV .i64 (((⟨a0.f0, a0.f1, x1985, x2058, a0.f4, a0.f5, x2022, x2059⟩ : THist)).f2), iV .u64 (((⟨a0.f0, a0.f1, x1985, x2058, a0.f4, a0.f5, x2022, x2059⟩ : THist)).f3), iV .u64 (((⟨a0.f0, a0.f1, x1985, x2058, a0.f4, a0.f5, x2022, x2059⟩ : THist)).f4), iV .i64 (((⟨a0.f0, a0.f1, x1985, x2058, a0.f4, a0.f5, x2022, x2059⟩ : THist)).f5), .own 0, .own 1]))], 0⟩) (by kernel_rfl) ?_
        refine AWp.ret ?_
        obtain rfl := Option.some.inj H
        exact Exists.intro _ (And.intro (fun _ _ h => h) (And.intro (.inl rfl) (And.intro rfl (And.intro (by kernel_rfl) (by kernel_rfl)))))
def f_pluvialref07_Down.f (a0 : THist) (a1 : Int) : Option (THist × Int) := (((f_pluvialref04_Right.f a1) >>= fun t1632 => if (!t1632) = true then (some true) else (some (decide (a1 > a0.f1)))) : Option (Bool)) >>= fun x1635 => if x1635 = true then (some ((⟨0, 0, 0, 0, 0, 0, [], []⟩ : THist), 20)) else ((f_pluvialref07_coarse.f a0.f6 a0.f1 a1) >>= fun t1907 => (f_pluvialref07_coarse.f a0.f7 a0.f1 a1) >>= fun t1911 => (f_pluvialref07_swallow.f (⟨a0.f0, a1, a0.f2, a0.f3, a0.f4, a0.f5, t1907, t1911⟩ : THist) a0.f2) >>= fun t2074 => some ((t2074), 0))
theorem f_pluvialref07_Down.ok (a0 : THist) (a1 : Int) (r : THist × Int) (H : f_pluvialref07_Down.f a0 a1 = some r) : Pv.Fn Try.prog 16 [.agg (aHist a0), iV .i64 a1] [] 0 (fun x o => x = .tup [.agg [iV .i64 ((r.1).f0), iV .i64 ((r.1).f1), iV .i64 ((r.1).f2), iV .u64 ((r.1).f3), iV .u64 ((r.1).f4), iV .i64 ((r.1).f5), .own 0, .own 1], iV .i64 r.2] ∧ o = [(0, some (.row 2 54 (((r.1).f6).map eBucket))), (1, some (.row 2 54 (((r.1).f7).map eBucket)))]) := by
  unfold f_pluvialref07_Down.f at H
  refine Fn.bodyK [0, 1] Try.func16 rfl rfl (fun Γ hP hn => ?_)
  have hm : Try.prog.follows .mixedOrders = true := by kernel_rfl
  replace hn : Γ.n = 38 := hn
  refine AWp.seq ?_
  refine reg hP hn hm [(0, .k 0), (1, .k 1)] [1, 2, 4] [0, 1] ⟨[(1, iV .i64 a1), (2, .ptr 0 0 0), (4, .ptr 1 0 0)], [(0, some (.box 25 (aHist a0))), (1, some (.box 25 [iV .i64 0, iV .i64 0, iV .i64 0, iV .u64 0, iV .u64 0, iV .i64 0, .none0, .none0]))], 0⟩ [] (by kernel_rfl) trivial ?_
  refine AWp.seq ?_
  refine AWp.seq ?_
  obtain ⟨o2076, e2077, H⟩ := bind_of H
  refine AWp.mono (Q := fun e s => (match (generalizing := false) o2076 with | x1635 => e = .normal ∧ s = ⟨[(1, iV .i64 a1), (2, .ptr 2 0 0), (4, .ptr 3 0 0), (15, bV x1635)], [(2, some (.box 25 (aHist a0))), (3, some (.box 25 [iV .i64 0, iV .i64 0, iV .i64 0, iV .u64 0, iV .u64 0, iV .i64 0, .none0, .none0]))], 0⟩)) (AWp.cv ?_) ?_
  · replace H := e2077; clear e2077
    obtain ⟨t1632, e1633, H⟩ := bind_of H
    rcases Bool.eq_false_or_eq_true (!t1632) with c1634 | c1634
    · replace H := (ifT c1634).symm.trans H
      refine reg hP hn hm [(1, .call [] [] [] [] 0 (bV t1632) []), (3, .b true)] [1, 2, 4, 15] [0, 1] ⟨[(1, iV .i64 a1), (2, .ptr 0 0 0), (4, .ptr 1 0 0), (15, bV true)], [(0, some (.box 25 (aHist a0))), (1, some (.box 25 [iV .i64 0, iV .i64 0, iV .i64 0, iV .u64 0, iV .u64 0, iV .i64 0, .none0, .none0]))], 0⟩ [Enters Try.prog 40, Pv.Fn Try.prog 40 [iV .i64 a1] [] 0 (fun r o => r = bV t1632 ∧ o = []), (!t1632) = true] (by kernel_rfl) ⟨by exact Try.call40, by exact f_pluvialref04_Right.ok a1 t1632 e1633, by exact c1634, trivial⟩ ?_
      obtain rfl := Option.some.inj H
      exact Exists.intro _ (And.intro (fun _ _ h => h.conv (inv := [(0, 2), (1, 3)]) (vk := []) (e0 := []) (t := ⟨[(1, iV .i64 a1), (2, .ptr 2 0 0), (4, .ptr 3 0 0), (15, bV true)], [(2, some (.box 25 (aHist a0))), (3, some (.box 25 [iV .i64 0, iV .i64 0, iV .i64 0, iV .u64 0, iV .u64 0, iV .i64 0, .none0, .none0]))], 0⟩) (by kernel_rfl)) (And.intro rfl rfl))
    · replace H := (ifF c1634).symm.trans H
      refine reg hP hn hm [(1, .call [] [] [] [] 0 (bV t1632) []), (3, .b false)] [1, 2, 4, 15] [0, 1] ⟨[(1, iV .i64 a1), (2, .ptr 0 0 0), (4, .ptr 1 0 0), (15, bV (decide (a1 > a0.f1)))], [(0, some (.box 25 (aHist a0))), (1, some (.box 25 [iV .i64 0, iV .i64 0, iV .i64 0, iV .u64 0, iV .u64 0, iV .i64 0, .none0, .none0]))], 0⟩ [Enters Try.prog 40, Pv.Fn Try.prog 40 [iV .i64 a1] [] 0 (fun r o => r = bV t1632 ∧ o = []), (!t1632) = false] (by kernel_rfl) ⟨by exact Try.call40, by exact f_pluvialref04_Right.ok a1 t1632 e1633, by exact c1634, trivial⟩ ?_
      obtain rfl := Option.some.inj H
      exact Exists.intro _ (And.intro (fun _ _ h => h.conv (inv := [(0, 2), (1, 3)]) (vk := []) (e0 := []) (t := ⟨[(1, iV .i64 a1), (2, .ptr 2 0 0), (4, .ptr 3 0 0), (15, bV (decide (a1 > a0.f1)))], [(2, some (.box 25 (aHist a0))), (3, some (.box 25 [iV .i64 0, iV .i64 0, iV .i64 0, iV .u64 0, iV .u64 0, iV .i64 0, .none0, .none0]))], 0⟩) (by kernel_rfl)) (And.intro rfl rfl))
  · obtain ⟨x1635, rfl⟩ : ∃ z, z = o2076 := ⟨_, rfl⟩
    rintro e s ⟨rfl, rfl⟩
    refine AWp.cond x1635 rfl (fun c1636 => ?_) (fun c1636 => ?_)
    · replace H := (ifT c1636).symm.trans H
      refine AWp.seq ?_
      refine reg hP hn hm [] [4, 5] [3] ⟨[(4, .ptr 3 0 0), (5, iV .i64 20)], [(3, some (.box 25 [iV .i64 0, iV .i64 0, iV .i64 0, iV .u64 0, iV .u64 0, iV .i64 0, .none0, .none0]))], 0⟩ [] (by kernel_rfl) trivial ?_
      refine AWp.conv (inv := [(3, 2)]) (vk := []) (e0 := [0, 1]) (t := ⟨[(4, .ptr 2 0 0), (5, iV .i64 20)], [(0, some (.row 2 54 ((((⟨0, 0, 0, 0, 0, 0, [], []⟩ : THist)).f6).map eBucket))), (1, some (.row 2 54 ((((⟨0, 0, 0, 0, 0, 0, [], []⟩ : THist)).f7).map eBucket))), (2, some (.box 25 [iV .i64 (((⟨0, 0, 0, 0, 0, 0, [], []⟩ : THist)).f0), iV .i64 (((⟨0, 0, 0, 0, 0, 0, [], []⟩ : THist)).f1), iV .i64 (((⟨0, 0, 0, 0, 0, 0, [], []⟩ : THist)).f2), iV .u64 (((⟨0, 0, 0, 0, 0, 0, [], []⟩ : THist)).f3), iV .u64 (((⟨0, 0, 0, 0, 0, 0, [], []⟩ : THist)).f4), iV .i64 (((⟨0, 0, 0, 0, 0, 0, [], []⟩ : THist)).f5), .own 0, .own 1]))], 0⟩) (by kernel_rfl) ?_
      refine AWp.ret ?_
      obtain rfl := Option.some.inj H
      exact Exists.intro _ (And.intro (fun _ _ h => h) (And.intro (.inl rfl) (And.intro rfl (And.intro (by kernel_rfl) (by kernel_rfl)))))
    · replace H := (ifF c1636).symm.trans H
      refine AWp.skip ?_
      refine AWp.seq ?_
      refine reg hP hn hm [(1, .k 4)] [1, 2, 4, 6] [2, 3, 4] ⟨[(1, iV .i64 a1), (2, .ptr 2 0 0), (4, .ptr 3 0 0), (6, .ptr 4 0 0)], [(2, some (.box 25 (aHist a0))), (3, some (.box 25 [iV .i64 0, iV .i64 0, iV .i64 0, iV .u64 0, iV .u64 0, iV .i64 0, .none0, .none0])), (4, some (.box 25 (aHist a0)))], 0⟩ [] (by kernel_rfl) trivial ?_
      refine AWp.seq ?_
      refine reg hP hn hm [] [1, 2, 4, 6] [2, 3, 4] ⟨[(1, iV .i64 a1), (2, .ptr 2 0 0), (4, .ptr 3 0 0), (6, .ptr 4 0 0)], [(2, some (.box 25 (aHist a0))), (3, some (.box 25 [iV .i64 0, iV .i64 0, iV .i64 0, iV .u64 0, iV .u64 0, iV .i64 0, .none0, .none0])), (4, some (.box 25 (aHist ⟨a0.f0, a1, a0.f2, a0.f3, a0.f4, a0.f5, a0.f6, a0.f7⟩)))], 0⟩ [] (by kernel_rfl) trivial ?_
      refine AWp.seq ?_
      obtain ⟨t1907, e1908, H⟩ := bind_of H
      refine reg hP hn hm [(5, .call [] [(0, 5)] [] [5] 0 (.own 0) [(0, some (.row 2 54 (t1907.map eBucket)))])] [1, 2, 4, 6] [2, 3, 4, 5] ⟨[(1, iV .i64 a1), (2, .ptr 2 0 0), (4, .ptr 3 0 0), (6, .ptr 4 0 0)], [(2, some (.box 25 (aHist a0))), (3, some (.box 25 [iV .i64 0, iV .i64 0, iV .i64 0, iV .u64 0, iV .u64 0, iV .i64 0, .none0, .none0])), (4, some (.box 25 [iV .i64 a0.f0, iV .i64 a1, iV .i64 a0.f2, iV .u64 a0.f3, iV .u64 a0.f4, iV .i64 a0.f5, .own 5, .im (.row (a0.f7.map eBucket))])), (5, some (.row 2 54 (t1907.map eBucket)))], 0⟩ [Enters Try.prog 41, Pv.Fn Try.prog 41 [.im (.row (a0.f6.map eBucket)), iV .i64 a0.f1, iV .i64 a1] [] 0 (fun r o => r = .own 0 ∧ o = [(0, some (.row 2 54 (t1907.map eBucket)))])] (by kernel_rfl) ⟨by exact Try.call41, by exact f_pluvialref07_coarse.ok a0.f6 a0.f1 a1 t1907 e1908, trivial⟩ ?_
      refine AWp.seq ?_
      obtain ⟨t1911, e1912, H⟩ := bind_of H
      refine reg hP hn hm [(5, .call [] [(0, 6)] [] [6] 0 (.own 0) [(0, some (.row 2 54 (t1911.map eBucket)))])] [2, 4, 6] [2, 3, 4, 5, 6] ⟨[(2, .ptr 2 0 0), (4, .ptr 3 0 0), (6, .ptr 4 0 0)], [(2, some (.box 25 (aHist a0))), (3, some (.box 25 [iV .i64 0, iV .i64 0, iV .i64 0, iV .u64 0, iV .u64 0, iV .i64 0, .none0, .none0])), (4, some (.box 25 [iV .i64 a0.f0, iV .i64 a1, iV .i64 a0.f2, iV .u64 a0.f3, iV .u64 a0.f4, iV .i64 a0.f5, .own 5, .own 6])), (5, some (.row 2 54 (t1907.map eBucket))), (6, some (.row 2 54 (t1911.map eBucket)))], 0⟩ [Enters Try.prog 41, Pv.Fn Try.prog 41 [.im (.row (a0.f7.map eBucket)), iV .i64 a0.f1, iV .i64 a1] [] 0 (fun r o => r = .own 0 ∧ o = [(0, some (.row 2 54 (t1911.map eBucket)))])] (by kernel_rfl) ⟨by exact Try.call41, by exact f_pluvialref07_coarse.ok a0.f7 a0.f1 a1 t1911 e1912, trivial⟩ ?_
      refine AWp.seq ?_
      refine AWp.conv (inv := [(2, 2), (3, 3), (4, 4)]) (vk := [5, 6]) (e0 := []) (t := ⟨[(2, .ptr 2 0 0), (4, .ptr 3 0 0), (6, .ptr 4 0 0)], [(2, some (.box 25 (aHist a0))), (3, some (.box 25 [iV .i64 0, iV .i64 0, iV .i64 0, iV .u64 0, iV .u64 0, iV .i64 0, .none0, .none0])), (4, some (.box 25 (aHist ⟨a0.f0, a1, a0.f2, a0.f3, a0.f4, a0.f5, t1907, t1911⟩)))], 0⟩) (by kernel_rfl) ?_
      obtain ⟨t2074, e2075, H⟩ := bind_of H
      refine reg hP hn hm [(3, .call [] [(0, 7), (1, 8)] [] [7, 8] 0 (.agg [iV .i64 ((t2074).f0), iV .i64 ((t2074).f1), iV .i64 ((t2074).f2), iV .u64 ((t2074).f3), iV .u64 ((t2074).f4), iV .i64 ((t2074).f5), .own 0, .own 1]) [(0, some (.row 2 54 (((t2074).f6).map eBucket))), (1, some (.row 2 54 (((t2074).f7).map eBucket)))])] [4, 5] [3, 7, 8] ⟨[(4, .ptr 3 0 0), (5, iV .i64 0)], [(3, some (.box 25 [iV .i64 ((t2074).f0), iV .i64 ((t2074).f1), iV .i64 ((t2074).f2), iV .u64 ((t2074).f3), iV .u64 ((t2074).f4), iV .i64 ((t2074).f5), .own 7, .own 8])), (7, some (.row 2 54 (((t2074).f6).map eBucket))), (8, some (.row 2 54 (((t2074).f7).map eBucket)))], 0⟩ [Enters Try.prog 42, Pv.Fn Try.prog 42 [.agg (aHist ⟨a0.f0, a1, a0.f2, a0.f3, a0.f4, a0.f5, t1907, t1911⟩), iV .i64 a0.f2] [] 0 (fun r o => r = .agg [iV .i64 ((t2074).f0), iV .i64 ((t2074).f1), iV .i64 ((t2074).f2), iV .u64 ((t2074).f3), iV .u64 ((t2074).f4), iV .i64 ((t2074).f5), .own 0, .own 1] ∧ o = [(0, some (.row 2 54 (((t2074).f6).map eBucket))), (1, some (.row 2 54 (((t2074).f7).map eBucket)))])] (by kernel_rfl) ⟨by exact Try.call42, by exact f_pluvialref07_swallow.ok (⟨a0.f0, a1, a0.f2, a0.f3, a0.f4, a0.f5, t1907, t1911⟩ : THist) a0.f2 t2074 e2075, trivial⟩ ?_
      refine AWp.conv (inv := [(3, 2), (7, 0), (8, 1)]) (vk := []) (e0 := []) (t := ⟨[(4, .ptr 2 0 0), (5, iV .i64 0)], [(0, some (.row 2 54 ((((t2074)).f6).map eBucket))), (1, some (.row 2 54 ((((t2074)).f7).map eBucket))), (2, some (.box 25 [iV .i64 (((t2074)).f0), iV .i64 (((t2074)).f1), iV .i64 (((t2074)).f2), iV .u64 (((t2074)).f3), iV .u64 (((t2074)).f4), iV .i64 (((t2074)).f5), .own 0, .own 1]))], 0⟩) (by kernel_rfl) ?_
      refine AWp.ret ?_
      obtain rfl := Option.some.inj H
      exact Exists.intro _ (And.intro (fun _ _ h => h) (And.intro (.inl rfl) (And.intro rfl (And.intro (by kernel_rfl) (by kernel_rfl)))))
def f_pluvialref05_same.l0 (a0 : List TBucket) (a1 : List TBucket) (x2104 : Int) : Option (Bool ⊕ Unit) := if (decide (x2104 < (a0.length : Int))) = true then ((at? a0 x2104) >>= fun b2112 => (at? a1 x2104) >>= fun b2115 => if (!((b2112.f0 == b2115.f0) && ((b2112.f1 == b2115.f1) && true))) = true then (some (.inl false)) else (f_pluvialref05_same.l0 a0 a1 (IntKind.i64.wrap (x2104 + (1 : Int))))) else (some (.inr ()))
partial_fixpoint
def f_pluvialref05_same.f (a0 : List TBucket) (a1 : List TBucket) : Option (Bool) := if ((a0.length : Int) != (a1.length : Int)) = true then (some false) else ((f_pluvialref05_same.l0 a0 a1 0) >>= fun oo => match oo with | .inl rr => (some rr) | .inr _ => (some true))
theorem f_pluvialref05_same.ok (a0 : List TBucket) (a1 : List TBucket) (r : Bool) (H : f_pluvialref05_same.f a0 a1 = some r) : Pv.Fn Try.prog 43 [.im (.row (a0.map eBucket)), .im (.row (a1.map eBucket))] [] 0 (fun x o => x = bV r ∧ o = []) := by
  unfold f_pluvialref05_same.f at H
  refine Fn.bodyK [] Try.func43 rfl rfl (fun Γ hP hn => ?_)
  have hm : Try.prog.follows .mixedOrders = true := by kernel_rfl
  replace hn : Γ.n = 26 := hn
  refine AWp.seq ?_
  refine reg hP hn hm [] [0, 1] [] ⟨[(0, .im (.row (a0.map eBucket))), (1, .im (.row (a1.map eBucket)))], [], 0⟩ [] (by kernel_rfl) trivial ?_
  refine AWp.seq ?_
  refine AWp.seq ?_
  refine reg hP hn hm [(1, .any (iV .i64 (a0.length : Int))), (3, .any (iV .i64 (a1.length : Int)))] [0, 1, 10] [] ⟨[(0, .im (.row (a0.map eBucket))), (1, .im (.row (a1.map eBucket))), (10, bV ((a0.length : Int) != (a1.length : Int)))], [], 0⟩ [((a0.map eBucket).length : Int) = (a0.length : Int), ((a1.map eBucket).length : Int) = (a1.length : Int)] (by kernel_rfl) ⟨by rw [len_map], by rw [len_map], trivial⟩ ?_
  refine AWp.cond ((a0.length : Int) != (a1.length : Int)) rfl (fun c2089 => ?_) (fun c2089 => ?_)
  · replace H := (ifT c2089).symm.trans H
    refine AWp.seq ?_
    refine reg hP hn hm [] [4] [] ⟨[(4, bV false)], [], 0⟩ [] (by kernel_rfl) trivial ?_
    refine AWp.conv (inv := []) (vk := []) (e0 := []) (t := ⟨[(4, bV false)], [], 0⟩) (by kernel_rfl) ?_
    refine AWp.ret ?_
    obtain rfl := Option.some.inj H
    exact Exists.intro _ (And.intro (fun _ _ h => h) (And.intro (.inl rfl) (And.intro rfl (And.intro (by kernel_rfl) (by kernel_rfl)))))
  · replace H := (ifF c2089).symm.trans H
    refine AWp.skip ?_
    refine AWp.seq ?_
    refine AWp.seq ?_
    refine reg hP hn hm [] [0, 1, 5] [] ⟨[(0, .im (.row (a0.map eBucket))), (1, .im (.row (a1.map eBucket))), (5, iV .i64 0)], [], 0⟩ [] (by kernel_rfl) trivial ?_
    refine AWp.block ?_
    obtain ⟨o2119, e2120, H⟩ := bind_of H
    refine AWp.loop (LWp.conv (inv := []) (vk := []) (e0 := []) (t := ⟨[(0, .im (.row (a0.map eBucket))), (1, .im (.row (a1.map eBucket))), (5, iV .i64 0)], [], 0⟩) (by kernel_rfl) ?_)
    refine LWp.mono (Q := fun e s => (match (generalizing := false) o2119 with | .inl rr => e = .ret ∧ s.floor = 0 ∧ resOf Try.prog Try.f43 s = some (bV rr) ∧ ([] : List (Nat × Option MObj)) = [] | .inr _ => e = .exit 0 ∧ s = ⟨[], [], 0⟩)) (LWp.cv (withBody (fun body hbody => ?_))) ?_
    · refine f_pluvialref05_same.l0.partial_correctness a0 a1 (motive := fun x2104 o2119 => LWp Γ body (fun e s => ∃ t, Cv Γ s t ∧ (match (generalizing := false) o2119 with | .inl rr => e = .ret ∧ t.floor = 0 ∧ resOf Try.prog Try.f43 t = some (bV rr) ∧ ([] : List (Nat × Option MObj)) = [] | .inr _ => e = .exit 0 ∧ t = ⟨[], [], 0⟩)) ⟨[(0, .im (.row (a0.map eBucket))), (1, .im (.row (a1.map eBucket))), (5, iV .i64 x2104)], [], 0⟩) ?_ _ _ e2120
      clear H e2120 o2119; intro self ih x2104 o2119 H
      subst hbody
      refine LWp.round ?_
      refine AWp.seq ?_
      refine AWp.seq ?_
      refine reg hP hn hm [(2, .any (iV .i64 (a0.length : Int)))] [0, 1, 5, 14] [] ⟨[(0, .im (.row (a0.map eBucket))), (1, .im (.row (a1.map eBucket))), (5, iV .i64 x2104), (14, bV (decide (x2104 < (a0.length : Int))))], [], 0⟩ [((a0.map eBucket).length : Int) = (a0.length : Int)] (by kernel_rfl) ⟨by rw [len_map], trivial⟩ ?_
      refine AWp.cond (decide (x2104 < (a0.length : Int))) rfl (fun c2105 => ?_) (fun c2105 => ?_)
      · replace H := (ifT c2105).symm.trans H
        refine AWp.skip ?_
        refine AWp.seq ?_
        refine AWp.block ?_
        refine AWp.seq ?_
        obtain ⟨b2112, p2113, q2114, H⟩ := at_of H
        obtain ⟨b2115, p2116, q2117, H⟩ := at_of H
        refine reg hP hn hm [(2, .c (eBucket b2112)), (6, .c (eBucket b2115)), (8, .more (xAgg none))] [0, 1, 5, 25] [] ⟨[(0, .im (.row (a0.map eBucket))), (1, .im (.row (a1.map eBucket))), (5, iV .i64 x2104), (25, bV (!((b2112.f0 == b2115.f0) && ((b2112.f1 == b2115.f1) && true))))], [], 0⟩ [0 ≤ x2104, (a0.map eBucket)[(Int.toNat (x2104))]? = some (eBucket b2112), 0 ≤ x2104, (a1.map eBucket)[(Int.toNat (x2104))]? = some (eBucket b2115)] (by kernel_rfl) ⟨by exact p2113, by exact el_map eBucket q2114, by exact p2116, by exact el_map eBucket q2117, trivial⟩ ?_
        refine AWp.cond (!((b2112.f0 == b2115.f0) && ((b2112.f1 == b2115.f1) && true))) rfl (fun c2118 => ?_) (fun c2118 => ?_)
        · replace H := (ifT c2118).symm.trans H
          refine AWp.seq ?_
          refine reg hP hn hm [] [4] [] ⟨[(4, bV false)], [], 0⟩ [] (by kernel_rfl) trivial ?_
          refine AWp.conv (inv := []) (vk := []) (e0 := []) (t := ⟨[(4, bV false)], [], 0⟩) (by kernel_rfl) ?_
          refine AWp.ret ?_
          obtain rfl := Option.some.inj H
          exact Exists.intro _ (And.intro (fun _ _ h => h) (And.intro rfl (And.intro rfl (And.intro (by kernel_rfl) (by kernel_rfl)))))
        · replace H := (ifF c2118).symm.trans H
          refine AWp.skip ?_
          refine reg hP hn hm [] [0, 1, 5] [] ⟨[(0, .im (.row (a0.map eBucket))), (1, .im (.row (a1.map eBucket))), (5, iV .i64 (IntKind.i64.wrap (x2104 + (1 : Int))))], [], 0⟩ [] (by kernel_rfl) trivial ?_
          exact LWp.conv (inv := []) (vk := []) (e0 := []) (t := ⟨[(0, .im (.row (a0.map eBucket))), (1, .im (.row (a1.map eBucket))), (5, iV .i64 (IntKind.i64.wrap (x2104 + (1 : Int))))], [], 0⟩) (by kernel_rfl) (ih _ _ H)
      · replace H := (ifF c2105).symm.trans H
        refine AWp.exit ?_
        obtain rfl := Option.some.inj H
        exact Exists.intro _ (And.intro (fun _ _ h => h.conv (inv := []) (vk := []) (e0 := []) (t := ⟨[], [], 0⟩) (by kernel_rfl)) (And.intro rfl rfl))
    · rcases o2119 with rr | _
      · skip
        rintro e s ⟨rfl, hfl, hres⟩
        obtain rfl := Option.some.inj H
        exact Exists.intro _ (And.intro (fun _ _ h => h) (And.intro (.inl rfl) (And.intro hfl hres)))
      · skip
        rintro e s ⟨rfl, rfl⟩
        refine AWp.seq ?_
        refine reg hP hn hm [] [4] [] ⟨[(4, bV true)], [], 0⟩ [] (by kernel_rfl) trivial ?_
        refine AWp.conv (inv := []) (vk := []) (e0 := []) (t := ⟨[(4, bV true)], [], 0⟩) (by kernel_rfl) ?_
        refine AWp.ret ?_
        obtain rfl := Option.some.inj H
        exact Exists.intro _ (And.intro (fun _ _ h => h) (And.intro (.inl rfl) (And.intro rfl (And.intro (by kernel_rfl) (by kernel_rfl)))))
def f_pluvialref05_Same.f (a0 : THist) (a1 : THist) : Option (Bool) := ((if (a0.f0 == a1.f0) = true then (if (a0.f1 == a1.f1) = true then (if (a0.f2 == a1.f2) = true then (if (a0.f3 == a1.f3) = true then (if (a0.f4 == a1.f4) = true then (if (a0.f5 == a1.f5) = true then ((f_pluvialref05_same.f a0.f6 a1.f6) >>= fun t2132 => if t2132 = true then ((f_pluvialref05_same.f a0.f7 a1.f7) >>= fun t2135 => some t2135) else (some false)) else (some false)) else (some false)) else (some false)) else (some false)) else (some false)) else (some false)) : Option (Bool)) >>= fun x2137 => some x2137
theorem f_pluvialref05_Same.ok (a0 : THist) (a1 : THist) (r : Bool) (H : f_pluvialref05_Same.f a0 a1 = some r) : Pv.Fn Try.prog 17 [.agg (aHist a0), .agg (aHist a1)] [] 0 (fun x o => x = bV r ∧ o = []) := by
  unfold f_pluvialref05_Same.f at H
  refine Fn.bodyK [] Try.func17 rfl rfl (fun Γ hP hn => ?_)
  have hm : Try.prog.follows .mixedOrders = true := by kernel_rfl
  replace hn : Γ.n = 59 := hn
  refine AWp.seq ?_
  refine reg hP hn hm [(0, .k 0), (1, .k 1)] [2, 3] [0, 1] ⟨[(2, .ptr 0 0 0), (3, .ptr 1 0 0)], [(0, some (.box 25 (aHist a0))), (1, some (.box 25 (aHist a1)))], 0⟩ [] (by kernel_rfl) trivial ?_
  refine AWp.seq ?_
  obtain ⟨o2138, e2139, H⟩ := bind_of H
  refine AWp.mono (Q := fun e s => (match (generalizing := false) o2138 with | x2137 => e = .normal ∧ s = ⟨[(4, bV x2137)], [], 0⟩)) (AWp.cv ?_) ?_
  · replace H := e2139; clear e2139
    rcases Bool.eq_false_or_eq_true (a0.f0 == a1.f0) with c2126 | c2126
    · replace H := (ifT c2126).symm.trans H
      rcases Bool.eq_false_or_eq_true (a0.f1 == a1.f1) with c2127 | c2127
      · replace H := (ifT c2127).symm.trans H
        rcases Bool.eq_false_or_eq_true (a0.f2 == a1.f2) with c2128 | c2128
        · replace H := (ifT c2128).symm.trans H
          rcases Bool.eq_false_or_eq_true (a0.f3 == a1.f3) with c2129 | c2129
          · replace H := (ifT c2129).symm.trans H
            rcases Bool.eq_false_or_eq_true (a0.f4 == a1.f4) with c2130 | c2130
            · replace H := (ifT c2130).symm.trans H
              rcases Bool.eq_false_or_eq_true (a0.f5 == a1.f5) with c2131 | c2131
              · replace H := (ifT c2131).symm.trans H
                obtain ⟨t2132, e2133, H⟩ := bind_of H
                rcases Bool.eq_false_or_eq_true t2132 with c2134 | c2134
                · replace H := (ifT c2134).symm.trans H
                  obtain ⟨t2135, e2136, H⟩ := bind_of H
                  refine reg hP hn hm [(5, .b true), (12, .b true), (19, .b true), (26, .b true), (33, .b true), (40, .b true), (45, .call [] [] [] [] 0 (bV t2132) []), (47, .b true), (52, .call [] [] [] [] 0 (bV t2135) [])] [4] [] ⟨[(4, bV t2135)], [], 0⟩ [(a0.f0 == a1.f0) = true, (a0.f1 == a1.f1) = true, (a0.f2 == a1.f2) = true, (a0.f3 == a1.f3) = true, (a0.f4 == a1.f4) = true, (a0.f5 == a1.f5) = true, Enters Try.prog 43, Pv.Fn Try.prog 43 [.im (.row (a0.f6.map eBucket)), .im (.row (a1.f6.map eBucket))] [] 0 (fun r o => r = bV t2132 ∧ o = []), t2132 = true, Enters Try.prog 43, Pv.Fn Try.prog 43 [.im (.row (a0.f7.map eBucket)), .im (.row (a1.f7.map eBucket))] [] 0 (fun r o => r = bV t2135 ∧ o = [])] (by kernel_rfl) ⟨by exact c2126, by exact c2127, by exact c2128, by exact c2129, by exact c2130, by exact c2131, by exact Try.call43, by exact f_pluvialref05_same.ok a0.f6 a1.f6 t2132 e2133, by exact c2134, by exact Try.call43, by exact f_pluvialref05_same.ok a0.f7 a1.f7 t2135 e2136, trivial⟩ ?_
                  obtain rfl := Option.some.inj H
                  exact Exists.intro _ (And.intro (fun _ _ h => h.conv (inv := []) (vk := []) (e0 := []) (t := ⟨[(4, bV t2135)], [], 0⟩) (by kernel_rfl)) (And.intro rfl rfl))
                · replace H := (ifF c2134).symm.trans H
                  refine reg hP hn hm [(5, .b true), (12, .b true), (19, .b true), (26, .b true), (33, .b true), (40, .b true), (45, .call [] [] [] [] 0 (bV t2132) []), (47, .b false)] [4] [] ⟨[(4, bV false)], [], 0⟩ [(a0.f0 == a1.f0) = true, (a0.f1 == a1.f1) = true, (a0.f2 == a1.f2) = true, (a0.f3 == a1.f3) = true, (a0.f4 == a1.f4) = true, (a0.f5 == a1.f5) = true, Enters Try.prog 43, Pv.Fn Try.prog 43 [.im (.row (a0.f6.map eBucket)), .im (.row (a1.f6.map eBucket))] [] 0 (fun r o => r = bV t2132 ∧ o = []), t2132 = false] (by kernel_rfl) ⟨by exact c2126, by exact c2127, by exact c2128, by exact c2129, by exact c2130, by exact c2131, by exact Try.call43, by exact f_pluvialref05_same.ok a0.f6 a1.f6 t2132 e2133, by exact c2134, trivial⟩ ?_
                  obtain rfl := Option.some.inj H
                  exact Exists.intro _ (And.intro (fun _ _ h => h.conv (inv := []) (vk := []) (e0 := []) (t := ⟨[(4, bV false)], [], 0⟩) (by kernel_rfl)) (And.intro rfl rfl))
              · replace H := (ifF c2131).symm.trans H
                refine reg hP hn hm [(5, .b true), (12, .b true), (19, .b true), (26, .b true), (33, .b true), (40, .b false)] [4] [] ⟨[(4, bV false)], [], 0⟩ [(a0.f0 == a1.f0) = true, (a0.f1 == a1.f1) = true, (a0.f2 == a1.f2) = true, (a0.f3 == a1.f3) = true, (a0.f4 == a1.f4) = true, (a0.f5 == a1.f5) = false] (by kernel_rfl) ⟨by exact c2126, by exact c2127, by exact c2128, by exact c2129, by exact c2130, by exact c2131, trivial⟩ ?_
                obtain rfl := Option.some.inj H
                exact Exists.intro _ (And.intro (fun _ _ h => h.conv (inv := []) (vk := []) (e0 := []) (t := ⟨[(4, bV false)], [], 0⟩) (by kernel_rfl)) (And.intro rfl rfl))
            · replace H := (ifF c2130).symm.trans H
              refine reg hP hn hm [(5, .b true), (12, .b true), (19, .b true), (26, .b true), (33, .b false)] [4] [] ⟨[(4, bV false)], [], 0⟩ [(a0.f0 == a1.f0) = true, (a0.f1 == a1.f1) = true, (a0.f2 == a1.f2) = true, (a0.f3 == a1.f3) = true, (a0.f4 == a1.f4) = false] (by kernel_rfl) ⟨by exact c2126, by exact c2127, by exact c2128, by exact c2129, by exact c2130, trivial⟩ ?_
              obtain rfl := Option.some.inj H
              exact Exists.intro _ (And.intro (fun _ _ h => h.conv (inv := []) (vk := []) (e0 := []) (t := ⟨[(4, bV false)], [], 0⟩) (by kernel_rfl)) (And.intro rfl rfl))
          · replace H := (ifF c2129).symm.trans H
            refine reg hP hn hm [(5, .b true), (12, .b true), (19, .b true), (26, .b false)] [4] [] ⟨[(4, bV false)], [], 0⟩ [(a0.f0 == a1.f0) = true, (a0.f1 == a1.f1) = true, (a0.f2 == a1.f2) = true, (a0.f3 == a1.f3) = false] (by kernel_rfl) ⟨by exact c2126, by exact c2127, by exact c2128, by exact c2129, trivial⟩ ?_
            obtain rfl := Option.some.inj H
            exact Exists.intro _ (And.intro (fun _ _ h => h.conv (inv := []) (vk := []) (e0 := []) (t := ⟨[(4, bV false)], [], 0⟩) (by kernel_rfl)) (And.intro rfl rfl))
        · replace H := (ifF c2128).symm.trans H
          refine reg hP hn hm [(5, .b true), (12, .b true), (19, .b false)] [4] [] ⟨[(4, bV false)], [], 0⟩ [(a0.f0 == a1.f0) = true, (a0.f1 == a1.f1) = true, (a0.f2 == a1.f2) = false] (by kernel_rfl) ⟨by exact c2126, by exact c2127, by exact c2128, trivial⟩ ?_
          obtain rfl := Option.some.inj H
          exact Exists.intro _ (And.intro (fun _ _ h => h.conv (inv := []) (vk := []) (e0 := []) (t := ⟨[(4, bV false)], [], 0⟩) (by kernel_rfl)) (And.intro rfl rfl))
      · replace H := (ifF c2127).symm.trans H
        refine reg hP hn hm [(5, .b true), (12, .b false)] [4] [] ⟨[(4, bV false)], [], 0⟩ [(a0.f0 == a1.f0) = true, (a0.f1 == a1.f1) = false] (by kernel_rfl) ⟨by exact c2126, by exact c2127, trivial⟩ ?_
        obtain rfl := Option.some.inj H
        exact Exists.intro _ (And.intro (fun _ _ h => h.conv (inv := []) (vk := []) (e0 := []) (t := ⟨[(4, bV false)], [], 0⟩) (by kernel_rfl)) (And.intro rfl rfl))
    · replace H := (ifF c2126).symm.trans H
      refine reg hP hn hm [(5, .b false)] [4] [] ⟨[(4, bV false)], [], 0⟩ [(a0.f0 == a1.f0) = false] (by kernel_rfl) ⟨by exact c2126, trivial⟩ ?_
      obtain rfl := Option.some.inj H
      exact Exists.intro _ (And.intro (fun _ _ h => h.conv (inv := []) (vk := []) (e0 := []) (t := ⟨[(4, bV false)], [], 0⟩) (by kernel_rfl)) (And.intro rfl rfl))
  · obtain ⟨x2137, rfl⟩ : ∃ z, z = o2138 := ⟨_, rfl⟩
    rintro e s ⟨rfl, rfl⟩
    refine AWp.conv (inv := []) (vk := []) (e0 := []) (t := ⟨[(4, bV x2137)], [], 0⟩) (by kernel_rfl) ?_
    refine AWp.ret ?_
    obtain rfl := Option.some.inj H
    exact Exists.intro _ (And.intro (fun _ _ h => h) (And.intro (.inl rfl) (And.intro rfl (And.intro (by kernel_rfl) (by kernel_rfl)))))
def f_pluvialref07_Widen.f (a0 : THist) (a1 : Int) : Option (THist × Int) := ((if (decide (a1 < a0.f2)) = true then (some true) else (if (a1 != a0.f2) = true then (if (decide (a1 ≤ (-262144))) = true then (some true) else (some (decide (a1 > (262144 : Int))))) else (some false))) : Option (Bool)) >>= fun x2157 => if x2157 = true then (some ((⟨0, 0, 0, 0, 0, 0, [], []⟩ : THist), 31)) else (if (a1 == a0.f2) = true then (some (a0, 0)) else ((f_pluvialref07_swallow.f a0 a1) >>= fun t2162 => some ((t2162), 0)))
theorem f_pluvialref07_Widen.ok (a0 : THist) (a1 : Int) (r : THist × Int) (H : f_pluvialref07_Widen.f a0 a1 = some r) : Pv.Fn Try.prog 18 [.agg (aHist a0), iV .i64 a1] [] 0 (fun x o => x = .tup [.agg (aHist (r.1)), iV .i64 r.2] ∧ o = []) := by
  unfold f_pluvialref07_Widen.f at H
  refine Fn.bodyK [] Try.func18 rfl rfl (fun Γ hP hn => ?_)
  have hm : Try.prog.follows .mixedOrders = true := by kernel_rfl
  replace hn : Γ.n = 33 := hn
  refine AWp.seq ?_
  refine reg hP hn hm [(0, .k 0), (1, .k 1)] [1, 2, 4] [0, 1] ⟨[(1, iV .i64 a1), (2, .ptr 0 0 0), (4, .ptr 1 0 0)], [(0, some (.box 25 (aHist a0))), (1, some (.box 25 [iV .i64 0, iV .i64 0, iV .i64 0, iV .u64 0, iV .u64 0, iV .i64 0, .none0, .none0]))], 0⟩ [] (by kernel_rfl) trivial ?_
  refine AWp.seq ?_
  refine AWp.seq ?_
  obtain ⟨o2164, e2165, H⟩ := bind_of H
  refine AWp.mono (Q := fun e s => (match (generalizing := false) o2164 with | x2157 => e = .normal ∧ s = ⟨[(1, iV .i64 a1), (2, .ptr 2 0 0), (4, .ptr 3 0 0), (23, bV x2157)], [(2, some (.box 25 (aHist a0))), (3, some (.box 25 [iV .i64 0, iV .i64 0, iV .i64 0, iV .u64 0, iV .u64 0, iV .i64 0, .none0, .none0]))], 0⟩)) (AWp.cv ?_) ?_
  · replace H := e2165; clear e2165
    rcases Bool.eq_false_or_eq_true (decide (a1 < a0.f2)) with c2154 | c2154
    · replace H := (ifT c2154).symm.trans H
      refine reg hP hn hm [(4, .b true)] [1, 2, 4, 23] [0, 1] ⟨[(1, iV .i64 a1), (2, .ptr 0 0 0), (4, .ptr 1 0 0), (23, bV true)], [(0, some (.box 25 (aHist a0))), (1, some (.box 25 [iV .i64 0, iV .i64 0, iV .i64 0, iV .u64 0, iV .u64 0, iV .i64 0, .none0, .none0]))], 0⟩ [(decide (a1 < a0.f2)) = true] (by kernel_rfl) ⟨by exact c2154, trivial⟩ ?_
      obtain rfl := Option.some.inj H
      exact Exists.intro _ (And.intro (fun _ _ h => h.conv (inv := [(0, 2), (1, 3)]) (vk := []) (e0 := []) (t := ⟨[(1, iV .i64 a1), (2, .ptr 2 0 0), (4, .ptr 3 0 0), (23, bV true)], [(2, some (.box 25 (aHist a0))), (3, some (.box 25 [iV .i64 0, iV .i64 0, iV .i64 0, iV .u64 0, iV .u64 0, iV .i64 0, .none0, .none0]))], 0⟩) (by kernel_rfl)) (And.intro rfl rfl))
    · replace H := (ifF c2154).symm.trans H
      rcases Bool.eq_false_or_eq_true (a1 != a0.f2) with c2155 | c2155
      · replace H := (ifT c2155).symm.trans H
        rcases Bool.eq_false_or_eq_true (decide (a1 ≤ (-262144))) with c2156 | c2156
        · replace H := (ifT c2156).symm.trans H
          refine reg hP hn hm [(4, .b false), (9, .b true), (12, .b true)] [1, 2, 4, 23] [0, 1] ⟨[(1, iV .i64 a1), (2, .ptr 0 0 0), (4, .ptr 1 0 0), (23, bV true)], [(0, some (.box 25 (aHist a0))), (1, some (.box 25 [iV .i64 0, iV .i64 0, iV .i64 0, iV .u64 0, iV .u64 0, iV .i64 0, .none0, .none0]))], 0⟩ [(decide (a1 < a0.f2)) = false, (a1 != a0.f2) = true, (decide (a1 ≤ (-262144))) = true] (by kernel_rfl) ⟨by exact c2154, by exact c2155, by exact c2156, trivial⟩ ?_
          obtain rfl := Option.some.inj H
          exact Exists.intro _ (And.intro (fun _ _ h => h.conv (inv := [(0, 2), (1, 3)]) (vk := []) (e0 := []) (t := ⟨[(1, iV .i64 a1), (2, .ptr 2 0 0), (4, .ptr 3 0 0), (23, bV true)], [(2, some (.box 25 (aHist a0))), (3, some (.box 25 [iV .i64 0, iV .i64 0, iV .i64 0, iV .u64 0, iV .u64 0, iV .i64 0, .none0, .none0]))], 0⟩) (by kernel_rfl)) (And.intro rfl rfl))
        · replace H := (ifF c2156).symm.trans H
          refine reg hP hn hm [(4, .b false), (9, .b true), (12, .b false)] [1, 2, 4, 23] [0, 1] ⟨[(1, iV .i64 a1), (2, .ptr 0 0 0), (4, .ptr 1 0 0), (23, bV (decide (a1 > (262144 : Int))))], [(0, some (.box 25 (aHist a0))), (1, some (.box 25 [iV .i64 0, iV .i64 0, iV .i64 0, iV .u64 0, iV .u64 0, iV .i64 0, .none0, .none0]))], 0⟩ [(decide (a1 < a0.f2)) = false, (a1 != a0.f2) = true, (decide (a1 ≤ (-262144))) = false] (by kernel_rfl) ⟨by exact c2154, by exact c2155, by exact c2156, trivial⟩ ?_
          obtain rfl := Option.some.inj H
          exact Exists.intro _ (And.intro (fun _ _ h => h.conv (inv := [(0, 2), (1, 3)]) (vk := []) (e0 := []) (t := ⟨[(1, iV .i64 a1), (2, .ptr 2 0 0), (4, .ptr 3 0 0), (23, bV (decide (a1 > (262144 : Int))))], [(2, some (.box 25 (aHist a0))), (3, some (.box 25 [iV .i64 0, iV .i64 0, iV .i64 0, iV .u64 0, iV .u64 0, iV .i64 0, .none0, .none0]))], 0⟩) (by kernel_rfl)) (And.intro rfl rfl))
      · replace H := (ifF c2155).symm.trans H
        refine reg hP hn hm [(4, .b false), (9, .b false)] [1, 2, 4, 23] [0, 1] ⟨[(1, iV .i64 a1), (2, .ptr 0 0 0), (4, .ptr 1 0 0), (23, bV false)], [(0, some (.box 25 (aHist a0))), (1, some (.box 25 [iV .i64 0, iV .i64 0, iV .i64 0, iV .u64 0, iV .u64 0, iV .i64 0, .none0, .none0]))], 0⟩ [(decide (a1 < a0.f2)) = false, (a1 != a0.f2) = false] (by kernel_rfl) ⟨by exact c2154, by exact c2155, trivial⟩ ?_
        obtain rfl := Option.some.inj H
        exact Exists.intro _ (And.intro (fun _ _ h => h.conv (inv := [(0, 2), (1, 3)]) (vk := []) (e0 := []) (t := ⟨[(1, iV .i64 a1), (2, .ptr 2 0 0), (4, .ptr 3 0 0), (23, bV false)], [(2, some (.box 25 (aHist a0))), (3, some (.box 25 [iV .i64 0, iV .i64 0, iV .i64 0, iV .u64 0, iV .u64 0, iV .i64 0, .none0, .none0]))], 0⟩) (by kernel_rfl)) (And.intro rfl rfl))
  · obtain ⟨x2157, rfl⟩ : ∃ z, z = o2164 := ⟨_, rfl⟩
    rintro e s ⟨rfl, rfl⟩
    refine AWp.cond x2157 rfl (fun c2158 => ?_) (fun c2158 => ?_)
    · replace H := (ifT c2158).symm.trans H
      refine AWp.seq ?_
      refine reg hP hn hm [] [4, 5] [3] ⟨[(4, .ptr 3 0 0), (5, iV .i64 31)], [(3, some (.box 25 [iV .i64 0, iV .i64 0, iV .i64 0, iV .u64 0, iV .u64 0, iV .i64 0, .none0, .none0]))], 0⟩ [] (by kernel_rfl) trivial ?_
      refine AWp.conv (inv := [(3, 0)]) (vk := []) (e0 := []) (t := ⟨[(4, .ptr 0 0 0), (5, iV .i64 31)], [(0, some (.box 25 (aHist ((⟨0, 0, 0, 0, 0, 0, [], []⟩ : THist)))))], 0⟩) (by kernel_rfl) ?_
      refine AWp.ret ?_
      obtain rfl := Option.some.inj H
      exact Exists.intro _ (And.intro (fun _ _ h => h) (And.intro (.inl rfl) (And.intro rfl (And.intro (by kernel_rfl) (by kernel_rfl)))))
    · replace H := (ifF c2158).symm.trans H
      refine AWp.skip ?_
      refine AWp.seq ?_
      refine AWp.seq ?_
      refine reg hP hn hm [] [1, 2, 4, 28] [2, 3] ⟨[(1, iV .i64 a1), (2, .ptr 2 0 0), (4, .ptr 3 0 0), (28, bV (a1 == a0.f2))], [(2, some (.box 25 (aHist a0))), (3, some (.box 25 [iV .i64 0, iV .i64 0, iV .i64 0, iV .u64 0, iV .u64 0, iV .i64 0, .none0, .none0]))], 0⟩ [] (by kernel_rfl) trivial ?_
      refine AWp.cond (a1 == a0.f2) rfl (fun c2159 => ?_) (fun c2159 => ?_)
      · replace H := (ifT c2159).symm.trans H
        refine AWp.seq ?_
        refine reg hP hn hm [] [4, 5] [3] ⟨[(4, .ptr 3 0 0), (5, iV .i64 0)], [(3, some (.box 25 (aHist a0)))], 0⟩ [] (by kernel_rfl) trivial ?_
        refine AWp.conv (inv := [(3, 0)]) (vk := []) (e0 := []) (t := ⟨[(4, .ptr 0 0 0), (5, iV .i64 0)], [(0, some (.box 25 (aHist (a0))))], 0⟩) (by kernel_rfl) ?_
        refine AWp.ret ?_
        obtain rfl := Option.some.inj H
        exact Exists.intro _ (And.intro (fun _ _ h => h) (And.intro (.inl rfl) (And.intro rfl (And.intro (by kernel_rfl) (by kernel_rfl)))))
      · replace H := (ifF c2159).symm.trans H
        refine AWp.skip ?_
        refine AWp.seq ?_
        obtain ⟨t2162, e2163, H⟩ := bind_of H
        refine reg hP hn hm [(2, .call [] [(0, 4), (1, 5)] [] [4, 5] 0 (.agg [iV .i64 ((t2162).f0), iV .i64 ((t2162).f1), iV .i64 ((t2162).f2), iV .u64 ((t2162).f3), iV .u64 ((t2162).f4), iV .i64 ((t2162).f5), .own 0, .own 1]) [(0, some (.row 2 54 (((t2162).f6).map eBucket))), (1, some (.row 2 54 (((t2162).f7).map eBucket)))])] [4, 5] [3, 4, 5] ⟨[(4, .ptr 3 0 0), (5, iV .i64 0)], [(3, some (.box 25 [iV .i64 ((t2162).f0), iV .i64 ((t2162).f1), iV .i64 ((t2162).f2), iV .u64 ((t2162).f3), iV .u64 ((t2162).f4), iV .i64 ((t2162).f5), .own 4, .own 5])), (4, some (.row 2 54 (((t2162).f6).map eBucket))), (5, some (.row 2 54 (((t2162).f7).map eBucket)))], 0⟩ [Enters Try.prog 42, Pv.Fn Try.prog 42 [.agg (aHist a0), iV .i64 a1] [] 0 (fun r o => r = .agg [iV .i64 ((t2162).f0), iV .i64 ((t2162).f1), iV .i64 ((t2162).f2), iV .u64 ((t2162).f3), iV .u64 ((t2162).f4), iV .i64 ((t2162).f5), .own 0, .own 1] ∧ o = [(0, some (.row 2 54 (((t2162).f6).map eBucket))), (1, some (.row 2 54 (((t2162).f7).map eBucket)))])] (by kernel_rfl) ⟨by exact Try.call42, by exact f_pluvialref07_swallow.ok a0 a1 t2162 e2163, trivial⟩ ?_
        refine AWp.conv (inv := [(3, 0)]) (vk := [4, 5]) (e0 := []) (t := ⟨[(4, .ptr 0 0 0), (5, iV .i64 0)], [(0, some (.box 25 (aHist ((t2162)))))], 0⟩) (by kernel_rfl) ?_
        refine AWp.ret ?_
        obtain rfl := Option.some.inj H
        exact Exists.intro _ (And.intro (fun _ _ h => h) (And.intro (.inl rfl) (And.intro rfl (And.intro (by kernel_rfl) (by kernel_rfl)))))
def f_meld_Alike.l0  (v : Int × Int × Int × Int × Int × Int × (List TBucket) × (List TBucket) × Int × Int × Int × Int × Int × Int × (List TBucket) × (List TBucket)) : Option ((THist × THist × Int) ⊕ (Int × Int × Int × Int × Int × Int × (List TBucket) × (List TBucket) × Int × Int × Int × Int × Int × Int × (List TBucket) × (List TBucket))) := match v with
  | (x2197, x2198, x2199, x2200, x2201, x2202, x2203, x2204, x2205, x2206, x2207, x2208, x2209, x2210, x2211, x2212) => if (x2199 != x2207) = true then ((f_meld_Widen.f (⟨x2197, x2198, x2199, x2200, x2201, x2202, x2203, x2204⟩ : THist) (if x2207 > x2199 then x2207 else x2199)) >>= fun t2216 => (f_meld_Widen.f (⟨x2205, x2206, x2207, x2208, x2209, x2210, x2211, x2212⟩ : THist) (if x2207 > x2199 then x2207 else x2199)) >>= fun t2220 => if ((if t2220.2 > t2216.2 then t2220.2 else t2216.2) != (0 : Int)) = true then (some (.inl ((⟨0, 0, 0, 0, 0, 0, [], []⟩ : THist), (⟨0, 0, 0, 0, 0, 0, [], []⟩ : THist), (if t2220.2 > t2216.2 then t2220.2 else t2216.2)))) else (f_meld_Alike.l0  ((t2216.1).f0, (t2216.1).f1, (t2216.1).f2, (t2216.1).f3, (t2216.1).f4, (t2216.1).f5, (t2216.1).f6, (t2216.1).f7, (t2220.1).f0, (t2220.1).f1, (t2220.1).f2, (t2220.1).f3, (t2220.1).f4, (t2220.1).f5, (t2220.1).f6, (t2220.1).f7))) else (some (.inr (x2197, x2198, x2199, x2200, x2201, x2202, x2203, x2204, x2205, x2206, x2207, x2208, x2209, x2210, x2211, x2212)))
partial_fixpoint
def f_meld_Alike.f (a0 : THist) (a1 : THist) : Option (THist × THist × Int) := (f_meld_Down.f a0 (if a1.f1 < a0.f1 then a1.f1 else a0.f1)) >>= fun t2180 => (f_meld_Down.f a1 (if a1.f1 < a0.f1 then a1.f1 else a0.f1)) >>= fun t2184 => if ((if t2184.2 > t2180.2 then t2184.2 else t2180.2) != (0 : Int)) = true then (some ((⟨0, 0, 0, 0, 0, 0, [], []⟩ : THist), (⟨0, 0, 0, 0, 0, 0, [], []⟩ : THist), (if t2184.2 > t2180.2 then t2184.2 else t2180.2))) else ((f_meld_Alike.l0  ((t2180.1).f0, (t2180.1).f1, (t2180.1).f2, (t2180.1).f3, (t2180.1).f4, (t2180.1).f5, (t2180.1).f6, (t2180.1).f7, (t2184.1).f0, (t2184.1).f1, (t2184.1).f2, (t2184.1).f3, (t2184.1).f4, (t2184.1).f5, (t2184.1).f6, (t2184.1).f7)) >>= fun oo => match oo with | .inl rr => (some rr) | .inr (x2223, x2224, x2225, x2226, x2227, x2228, x2229, x2230, x2231, x2232, x2233, x2234, x2235, x2236, x2237, x2238) => (some ((⟨x2223, x2224, x2225, x2226, x2227, x2228, x2229, x2230⟩ : THist), (⟨x2231, x2232, x2233, x2234, x2235, x2236, x2237, x2238⟩ : THist), 0)))
theorem f_meld_Alike.ok (a0 : THist) (a1 : THist) (r : THist × THist × Int) (H : f_meld_Alike.f a0 a1 = some r) : Pv.Fn Try.prog 19 [.agg (aHist a0), .agg (aHist a1)] [] 0 (fun x o => x = .tup [.agg (aHist (r.1)), .agg (aHist (r.2.1)), iV .i64 r.2.2] ∧ o = []) := by
  unfold f_meld_Alike.f at H
  refine Fn.bodyK [] Try.func19 rfl rfl (fun Γ hP hn => ?_)
  have hm : Try.prog.follows .mixedOrders = true := by kernel_rfl
  replace hn : Γ.n = 68 := hn
  refine AWp.seq ?_
  refine reg hP hn hm [(0, .k 0), (1, .k 1), (2, .k 2), (3, .k 3)] [2, 3, 4, 5] [0, 1, 2, 3] ⟨[(2, .ptr 0 0 0), (3, .ptr 1 0 0), (4, .ptr 2 0 0), (5, .ptr 3 0 0)], [(0, some (.box 25 (aHist a0))), (1, some (.box 25 (aHist a1))), (2, some (.box 25 [iV .i64 0, iV .i64 0, iV .i64 0, iV .u64 0, iV .u64 0, iV .i64 0, .none0, .none0])), (3, some (.box 25 [iV .i64 0, iV .i64 0, iV .i64 0, iV .u64 0, iV .u64 0, iV .i64 0, .none0, .none0]))], 0⟩ [] (by kernel_rfl) trivial ?_
  refine AWp.seq ?_
  refine reg hP hn hm [(4, .more xMin)] [2, 3, 4, 5, 7] [0, 1, 2, 3] ⟨[(2, .ptr 0 0 0), (3, .ptr 1 0 0), (4, .ptr 2 0 0), (5, .ptr 3 0 0), (7, iV .i64 (if a1.f1 < a0.f1 then a1.f1 else a0.f1))], [(0, some (.box 25 (aHist a0))), (1, some (.box 25 (aHist a1))), (2, some (.box 25 [iV .i64 0, iV .i64 0, iV .i64 0, iV .u64 0, iV .u64 0, iV .i64 0, .none0, .none0])), (3, some (.box 25 [iV .i64 0, iV .i64 0, iV .i64 0, iV .u64 0, iV .u64 0, iV .i64 0, .none0, .none0]))], 0⟩ [] (by kernel_rfl) trivial ?_
  refine AWp.seq ?_
  obtain ⟨t2180, e2181, H⟩ := bind_of H
  refine reg hP hn hm [(2, .call [] [] [] [] 0 (.tup [.agg (aHist (t2180.1)), iV .i64 t2180.2]) [])] [2, 3, 4, 5, 7, 8] [0, 1, 2, 3] ⟨[(2, .ptr 0 0 0), (3, .ptr 1 0 0), (4, .ptr 2 0 0), (5, .ptr 3 0 0), (7, iV .i64 (if a1.f1 < a0.f1 then a1.f1 else a0.f1)), (8, iV .i64 t2180.2)], [(0, some (.box 25 (aHist (t2180.1)))), (1, some (.box 25 (aHist a1))), (2, some (.box 25 [iV .i64 0, iV .i64 0, iV .i64 0, iV .u64 0, iV .u64 0, iV .i64 0, .none0, .none0])), (3, some (.box 25 [iV .i64 0, iV .i64 0, iV .i64 0, iV .u64 0, iV .u64 0, iV .i64 0, .none0, .none0]))], 0⟩ [Enters Try.prog 12, Pv.Fn Try.prog 12 [.agg (aHist a0), iV .i64 (if a1.f1 < a0.f1 then a1.f1 else a0.f1)] [] 0 (fun r o => r = .tup [.agg (aHist (t2180.1)), iV .i64 t2180.2] ∧ o = [])] (by kernel_rfl) ⟨by exact Try.call12, by exact f_meld_Down.ok a0 (if a1.f1 < a0.f1 then a1.f1 else a0.f1) t2180 e2181, trivial⟩ ?_
  refine AWp.seq ?_
  obtain ⟨t2184, e2185, H⟩ := bind_of H
  refine reg hP hn hm [(2, .call [] [] [] [] 0 (.tup [.agg (aHist (t2184.1)), iV .i64 t2184.2]) [])] [2, 3, 4, 5, 8, 9] [0, 1, 2, 3] ⟨[(2, .ptr 0 0 0), (3, .ptr 1 0 0), (4, .ptr 2 0 0), (5, .ptr 3 0 0), (8, iV .i64 t2180.2), (9, iV .i64 t2184.2)], [(0, some (.box 25 (aHist (t2180.1)))), (1, some (.box 25 (aHist (t2184.1)))), (2, some (.box 25 [iV .i64 0, iV .i64 0, iV .i64 0, iV .u64 0, iV .u64 0, iV .i64 0, .none0, .none0])), (3, some (.box 25 [iV .i64 0, iV .i64 0, iV .i64 0, iV .u64 0, iV .u64 0, iV .i64 0, .none0, .none0]))], 0⟩ [Enters Try.prog 12, Pv.Fn Try.prog 12 [.agg (aHist a1), iV .i64 (if a1.f1 < a0.f1 then a1.f1 else a0.f1)] [] 0 (fun r o => r = .tup [.agg (aHist (t2184.1)), iV .i64 t2184.2] ∧ o = [])] (by kernel_rfl) ⟨by exact Try.call12, by exact f_meld_Down.ok a1 (if a1.f1 < a0.f1 then a1.f1 else a0.f1) t2184 e2185, trivial⟩ ?_
  refine AWp.seq ?_
  refine AWp.seq ?_
  refine reg hP hn hm [(2, .more xMax)] [2, 3, 4, 5, 8] [0, 1, 2, 3] ⟨[(2, .ptr 0 0 0), (3, .ptr 1 0 0), (4, .ptr 2 0 0), (5, .ptr 3 0 0), (8, iV .i64 (if t2184.2 > t2180.2 then t2184.2 else t2180.2))], [(0, some (.box 25 (aHist (t2180.1)))), (1, some (.box 25 (aHist (t2184.1)))), (2, some (.box 25 [iV .i64 0, iV .i64 0, iV .i64 0, iV .u64 0, iV .u64 0, iV .i64 0, .none0, .none0])), (3, some (.box 25 [iV .i64 0, iV .i64 0, iV .i64 0, iV .u64 0, iV .u64 0, iV .i64 0, .none0, .none0]))], 0⟩ [] (by kernel_rfl) trivial ?_
  refine AWp.seq ?_
  refine reg hP hn hm [] [2, 3, 4, 5, 8, 32] [0, 1, 2, 3] ⟨[(2, .ptr 0 0 0), (3, .ptr 1 0 0), (4, .ptr 2 0 0), (5, .ptr 3 0 0), (8, iV .i64 (if t2184.2 > t2180.2 then t2184.2 else t2180.2)), (32, bV ((if t2184.2 > t2180.2 then t2184.2 else t2180.2) != (0 : Int)))], [(0, some (.box 25 (aHist (t2180.1)))), (1, some (.box 25 (aHist (t2184.1)))), (2, some (.box 25 [iV .i64 0, iV .i64 0, iV .i64 0, iV .u64 0, iV .u64 0, iV .i64 0, .none0, .none0])), (3, some (.box 25 [iV .i64 0, iV .i64 0, iV .i64 0, iV .u64 0, iV .u64 0, iV .i64 0, .none0, .none0]))], 0⟩ [] (by kernel_rfl) trivial ?_
  refine AWp.cond ((if t2184.2 > t2180.2 then t2184.2 else t2180.2) != (0 : Int)) rfl (fun c2186 => ?_) (fun c2186 => ?_)
  · replace H := (ifT c2186).symm.trans H
    refine AWp.seq ?_
    refine reg hP hn hm [] [4, 5, 6] [2, 3] ⟨[(4, .ptr 2 0 0), (5, .ptr 3 0 0), (6, iV .i64 (if t2184.2 > t2180.2 then t2184.2 else t2180.2))], [(2, some (.box 25 [iV .i64 0, iV .i64 0, iV .i64 0, iV .u64 0, iV .u64 0, iV .i64 0, .none0, .none0])), (3, some (.box 25 [iV .i64 0, iV .i64 0, iV .i64 0, iV .u64 0, iV .u64 0, iV .i64 0, .none0, .none0]))], 0⟩ [] (by kernel_rfl) trivial ?_
    refine AWp.conv (inv := [(2, 0), (3, 1)]) (vk := []) (e0 := []) (t := ⟨[(4, .ptr 0 0 0), (5, .ptr 1 0 0), (6, iV .i64 (if t2184.2 > t2180.2 then t2184.2 else t2180.2))], [(0, some (.box 25 (aHist ((⟨0, 0, 0, 0, 0, 0, [], []⟩ : THist))))), (1, some (.box 25 (aHist ((⟨0, 0, 0, 0, 0, 0, [], []⟩ : THist)))))], 0⟩) (by kernel_rfl) ?_
    refine AWp.ret ?_
    obtain rfl := Option.some.inj H
    exact Exists.intro _ (And.intro (fun _ _ h => h) (And.intro (.inl rfl) (And.intro rfl (And.intro (by kernel_rfl) (by kernel_rfl)))))
  · replace H := (ifF c2186).symm.trans H
    refine AWp.skip ?_
    refine AWp.seq ?_
    refine AWp.block ?_
    obtain ⟨o2239, e2240, H⟩ := bind_of H
    refine AWp.loop (LWp.conv (inv := [(0, 4), (1, 5), (2, 6), (3, 7)]) (vk := []) (e0 := []) (t := ⟨[(2, .ptr 4 0 0), (3, .ptr 5 0 0), (4, .ptr 6 0 0), (5, .ptr 7 0 0)], [(4, some (.box 25 (aHist (t2180.1)))), (5, some (.box 25 (aHist (t2184.1)))), (6, some (.box 25 [iV .i64 0, iV .i64 0, iV .i64 0, iV .u64 0, iV .u64 0, iV .i64 0, .none0, .none0])), (7, some (.box 25 [iV .i64 0, iV .i64 0, iV .i64 0, iV .u64 0, iV .u64 0, iV .i64 0, .none0, .none0]))], 0⟩) (by kernel_rfl) ?_)
    refine LWp.mono (Q := fun e s => (match (generalizing := false) o2239 with | .inl rr => e = .ret ∧ s.floor = 0 ∧ resOf Try.prog Try.f19 s = some (.tup [.agg (aHist (rr.1)), .agg (aHist (rr.2.1)), iV .i64 rr.2.2]) ∧ ([] : List (Nat × Option MObj)) = [] | .inr (x2223, x2224, x2225, x2226, x2227, x2228, x2229, x2230, x2231, x2232, x2233, x2234, x2235, x2236, x2237, x2238) => e = .exit 0 ∧ s = ⟨[(2, .ptr 8 0 0), (3, .ptr 9 0 0), (4, .ptr 10 0 0), (5, .ptr 11 0 0)], [(8, some (.box 25 (aHist ⟨x2223, x2224, x2225, x2226, x2227, x2228, x2229, x2230⟩))), (9, some (.box 25 (aHist ⟨x2231, x2232, x2233, x2234, x2235, x2236, x2237, x2238⟩))), (10, some (.box 25 [iV .i64 0, iV .i64 0, iV .i64 0, iV .u64 0, iV .u64 0, iV .i64 0, .none0, .none0])), (11, some (.box 25 [iV .i64 0, iV .i64 0, iV .i64 0, iV .u64 0, iV .u64 0, iV .i64 0, .none0, .none0]))], 0⟩)) (LWp.cv (withBody (fun body hbody => ?_))) ?_
    · refine f_meld_Alike.l0.partial_correctness  (motive := fun v o2239 => (match (generalizing := false) v with | (x2197, x2198, x2199, x2200, x2201, x2202, x2203, x2204, x2205, x2206, x2207, x2208, x2209, x2210, x2211, x2212) => LWp Γ body (fun e s => ∃ t, Cv Γ s t ∧ (match (generalizing := false) o2239 with | .inl rr => e = .ret ∧ t.floor = 0 ∧ resOf Try.prog Try.f19 t = some (.tup [.agg (aHist (rr.1)), .agg (aHist (rr.2.1)), iV .i64 rr.2.2]) ∧ ([] : List (Nat × Option MObj)) = [] | .inr (x2223, x2224, x2225, x2226, x2227, x2228, x2229, x2230, x2231, x2232, x2233, x2234, x2235, x2236, x2237, x2238) => e = .exit 0 ∧ t = ⟨[(2, .ptr 8 0 0), (3, .ptr 9 0 0), (4, .ptr 10 0 0), (5, .ptr 11 0 0)], [(8, some (.box 25 (aHist ⟨x2223, x2224, x2225, x2226, x2227, x2228, x2229, x2230⟩))), (9, some (.box 25 (aHist ⟨x2231, x2232, x2233, x2234, x2235, x2236, x2237, x2238⟩))), (10, some (.box 25 [iV .i64 0, iV .i64 0, iV .i64 0, iV .u64 0, iV .u64 0, iV .i64 0, .none0, .none0])), (11, some (.box 25 [iV .i64 0, iV .i64 0, iV .i64 0, iV .u64 0, iV .u64 0, iV .i64 0, .none0, .none0]))], 0⟩)) ⟨[(2, .ptr 4 0 0), (3, .ptr 5 0 0), (4, .ptr 6 0 0), (5, .ptr 7 0 0)], [(4, some (.box 25 (aHist ⟨x2197, x2198, x2199, x2200, x2201, x2202, x2203, x2204⟩))), (5, some (.box 25 (aHist ⟨x2205, x2206, x2207, x2208, x2209, x2210, x2211, x2212⟩))), (6, some (.box 25 [iV .i64 0, iV .i64 0, iV .i64 0, iV .u64 0, iV .u64 0, iV .i64 0, .none0, .none0])), (7, some (.box 25 [iV .i64 0, iV .i64 0, iV .i64 0, iV .u64 0, iV .u64 0, iV .i64 0, .none0, .none0]))], 0⟩)) ?_ _ _ e2240
      clear H e2240 o2239; intro self ih v o2239 H
      obtain ⟨x2197, x2198, x2199, x2200, x2201, x2202, x2203, x2204, x2205, x2206, x2207, x2208, x2209, x2210, x2211, x2212⟩ := v
      dsimp only at H
      subst hbody
      refine LWp.round ?_
      refine AWp.seq ?_
      refine AWp.seq ?_
      refine reg hP hn hm [] [2, 3, 4, 5, 40] [4, 5, 6, 7] ⟨[(2, .ptr 4 0 0), (3, .ptr 5 0 0), (4, .ptr 6 0 0), (5, .ptr 7 0 0), (40, bV (x2199 != x2207))], [(4, some (.box 25 (aHist ⟨x2197, x2198, x2199, x2200, x2201, x2202, x2203, x2204⟩))), (5, some (.box 25 (aHist ⟨x2205, x2206, x2207, x2208, x2209, x2210, x2211, x2212⟩))), (6, some (.box 25 [iV .i64 0, iV .i64 0, iV .i64 0, iV .u64 0, iV .u64 0, iV .i64 0, .none0, .none0])), (7, some (.box 25 [iV .i64 0, iV .i64 0, iV .i64 0, iV .u64 0, iV .u64 0, iV .i64 0, .none0, .none0]))], 0⟩ [] (by kernel_rfl) trivial ?_
      refine AWp.cond (x2199 != x2207) rfl (fun c2213 => ?_) (fun c2213 => ?_)
      · replace H := (ifT c2213).symm.trans H
        refine AWp.skip ?_
        refine AWp.block ?_
        refine AWp.seq ?_
        refine reg hP hn hm [(4, .more xMax)] [2, 3, 4, 5, 10] [4, 5, 6, 7] ⟨[(2, .ptr 4 0 0), (3, .ptr 5 0 0), (4, .ptr 6 0 0), (5, .ptr 7 0 0), (10, iV .i64 (if x2207 > x2199 then x2207 else x2199))], [(4, some (.box 25 (aHist ⟨x2197, x2198, x2199, x2200, x2201, x2202, x2203, x2204⟩))), (5, some (.box 25 (aHist ⟨x2205, x2206, x2207, x2208, x2209, x2210, x2211, x2212⟩))), (6, some (.box 25 [iV .i64 0, iV .i64 0, iV .i64 0, iV .u64 0, iV .u64 0, iV .i64 0, .none0, .none0])), (7, some (.box 25 [iV .i64 0, iV .i64 0, iV .i64 0, iV .u64 0, iV .u64 0, iV .i64 0, .none0, .none0]))], 0⟩ [] (by kernel_rfl) trivial ?_
        refine AWp.seq ?_
        obtain ⟨t2216, e2217, H⟩ := bind_of H
        refine reg hP hn hm [(2, .call [] [] [] [] 0 (.tup [.agg (aHist (t2216.1)), iV .i64 t2216.2]) [])] [2, 3, 4, 5, 8, 10] [4, 5, 6, 7] ⟨[(2, .ptr 4 0 0), (3, .ptr 5 0 0), (4, .ptr 6 0 0), (5, .ptr 7 0 0), (8, iV .i64 t2216.2), (10, iV .i64 (if x2207 > x2199 then x2207 else x2199))], [(4, some (.box 25 (aHist (t2216.1)))), (5, some (.box 25 (aHist ⟨x2205, x2206, x2207, x2208, x2209, x2210, x2211, x2212⟩))), (6, some (.box 25 [iV .i64 0, iV .i64 0, iV .i64 0, iV .u64 0, iV .u64 0, iV .i64 0, .none0, .none0])), (7, some (.box 25 [iV .i64 0, iV .i64 0, iV .i64 0, iV .u64 0, iV .u64 0, iV .i64 0, .none0, .none0]))], 0⟩ [Enters Try.prog 15, Pv.Fn Try.prog 15 [.agg (aHist ⟨x2197, x2198, x2199, x2200, x2201, x2202, x2203, x2204⟩), iV .i64 (if x2207 > x2199 then x2207 else x2199)] [] 0 (fun r o => r = .tup [.agg (aHist (t2216.1)), iV .i64 t2216.2] ∧ o = [])] (by kernel_rfl) ⟨by exact Try.call15, by exact f_meld_Widen.ok (⟨x2197, x2198, x2199, x2200, x2201, x2202, x2203, x2204⟩ : THist) (if x2207 > x2199 then x2207 else x2199) t2216 e2217, trivial⟩ ?_
        refine AWp.seq ?_
        obtain ⟨t2220, e2221, H⟩ := bind_of H
        refine reg hP hn hm [(2, .call [] [] [] [] 0 (.tup [.agg (aHist (t2220.1)), iV .i64 t2220.2]) [])] [2, 3, 4, 5, 8, 9] [4, 5, 6, 7] ⟨[(2, .ptr 4 0 0), (3, .ptr 5 0 0), (4, .ptr 6 0 0), (5, .ptr 7 0 0), (8, iV .i64 t2216.2), (9, iV .i64 t2220.2)], [(4, some (.box 25 (aHist (t2216.1)))), (5, some (.box 25 (aHist (t2220.1)))), (6, some (.box 25 [iV .i64 0, iV .i64 0, iV .i64 0, iV .u64 0, iV .u64 0, iV .i64 0, .none0, .none0])), (7, some (.box 25 [iV .i64 0, iV .i64 0, iV .i64 0, iV .u64 0, iV .u64 0, iV .i64 0, .none0, .none0]))], 0⟩ [Enters Try.prog 15, Pv.Fn Try.prog 15 [.agg (aHist ⟨x2205, x2206, x2207, x2208, x2209, x2210, x2211, x2212⟩), iV .i64 (if x2207 > x2199 then x2207 else x2199)] [] 0 (fun r o => r = .tup [.agg (aHist (t2220.1)), iV .i64 t2220.2] ∧ o = [])] (by kernel_rfl) ⟨by exact Try.call15, by exact f_meld_Widen.ok (⟨x2205, x2206, x2207, x2208, x2209, x2210, x2211, x2212⟩ : THist) (if x2207 > x2199 then x2207 else x2199) t2220 e2221, trivial⟩ ?_
        refine AWp.seq ?_
        refine reg hP hn hm [(2, .more xMax)] [2, 3, 4, 5, 8] [4, 5, 6, 7] ⟨[(2, .ptr 4 0 0), (3, .ptr 5 0 0), (4, .ptr 6 0 0), (5, .ptr 7 0 0), (8, iV .i64 (if t2220.2 > t2216.2 then t2220.2 else t2216.2))], [(4, some (.box 25 (aHist (t2216.1)))), (5, some (.box 25 (aHist (t2220.1)))), (6, some (.box 25 [iV .i64 0, iV .i64 0, iV .i64 0, iV .u64 0, iV .u64 0, iV .i64 0, .none0, .none0])), (7, some (.box 25 [iV .i64 0, iV .i64 0, iV .i64 0, iV .u64 0, iV .u64 0, iV .i64 0, .none0, .none0]))], 0⟩ [] (by kernel_rfl) trivial ?_
        refine AWp.seq ?_
        refine reg hP hn hm [] [2, 3, 4, 5, 8, 62] [4, 5, 6, 7] ⟨[(2, .ptr 4 0 0), (3, .ptr 5 0 0), (4, .ptr 6 0 0), (5, .ptr 7 0 0), (8, iV .i64 (if t2220.2 > t2216.2 then t2220.2 else t2216.2)), (62, bV ((if t2220.2 > t2216.2 then t2220.2 else t2216.2) != (0 : Int)))], [(4, some (.box 25 (aHist (t2216.1)))), (5, some (.box 25 (aHist (t2220.1)))), (6, some (.box 25 [iV .i64 0, iV .i64 0, iV .i64 0, iV .u64 0, iV .u64 0, iV .i64 0, .none0, .none0])), (7, some (.box 25 [iV .i64 0, iV .i64 0, iV .i64 0, iV .u64 0, iV .u64 0, iV .i64 0, .none0, .none0]))], 0⟩ [] (by kernel_rfl) trivial ?_
        refine AWp.cond ((if t2220.2 > t2216.2 then t2220.2 else t2216.2) != (0 : Int)) rfl (fun c2222 => ?_) (fun c2222 => ?_)
        · replace H := (ifT c2222).symm.trans H
          refine AWp.seq ?_
          refine reg hP hn hm [] [4, 5, 6] [6, 7] ⟨[(4, .ptr 6 0 0), (5, .ptr 7 0 0), (6, iV .i64 (if t2220.2 > t2216.2 then t2220.2 else t2216.2))], [(6, some (.box 25 [iV .i64 0, iV .i64 0, iV .i64 0, iV .u64 0, iV .u64 0, iV .i64 0, .none0, .none0])), (7, some (.box 25 [iV .i64 0, iV .i64 0, iV .i64 0, iV .u64 0, iV .u64 0, iV .i64 0, .none0, .none0]))], 0⟩ [] (by kernel_rfl) trivial ?_
          refine AWp.conv (inv := [(6, 0), (7, 1)]) (vk := []) (e0 := []) (t := ⟨[(4, .ptr 0 0 0), (5, .ptr 1 0 0), (6, iV .i64 (if t2220.2 > t2216.2 then t2220.2 else t2216.2))], [(0, some (.box 25 (aHist ((⟨0, 0, 0, 0, 0, 0, [], []⟩ : THist))))), (1, some (.box 25 (aHist ((⟨0, 0, 0, 0, 0, 0, [], []⟩ : THist)))))], 0⟩) (by kernel_rfl) ?_
          refine AWp.ret ?_
          obtain rfl := Option.some.inj H
          exact Exists.intro _ (And.intro (fun _ _ h => h) (And.intro rfl (And.intro rfl (And.intro (by kernel_rfl) (by kernel_rfl)))))
        · replace H := (ifF c2222).symm.trans H
          refine AWp.skip ?_
          exact LWp.conv (inv := [(4, 4), (5, 5), (6, 6), (7, 7)]) (vk := []) (e0 := []) (t := ⟨[(2, .ptr 4 0 0), (3, .ptr 5 0 0), (4, .ptr 6 0 0), (5, .ptr 7 0 0)], [(4, some (.box 25 (aHist (t2216.1)))), (5, some (.box 25 (aHist (t2220.1)))), (6, some (.box 25 [iV .i64 0, iV .i64 0, iV .i64 0, iV .u64 0, iV .u64 0, iV .i64 0, .none0, .none0])), (7, some (.box 25 [iV .i64 0, iV .i64 0, iV .i64 0, iV .u64 0, iV .u64 0, iV .i64 0, .none0, .none0]))], 0⟩) (by kernel_rfl) (ih _ _ H)
      · replace H := (ifF c2213).symm.trans H
        refine AWp.exit ?_
        obtain rfl := Option.some.inj H
        exact Exists.intro _ (And.intro (fun _ _ h => h.conv (inv := [(4, 8), (5, 9), (6, 10), (7, 11)]) (vk := []) (e0 := []) (t := ⟨[(2, .ptr 8 0 0), (3, .ptr 9 0 0), (4, .ptr 10 0 0), (5, .ptr 11 0 0)], [(8, some (.box 25 (aHist ⟨x2197, x2198, x2199, x2200, x2201, x2202, x2203, x2204⟩))), (9, some (.box 25 (aHist ⟨x2205, x2206, x2207, x2208, x2209, x2210, x2211, x2212⟩))), (10, some (.box 25 [iV .i64 0, iV .i64 0, iV .i64 0, iV .u64 0, iV .u64 0, iV .i64 0, .none0, .none0])), (11, some (.box 25 [iV .i64 0, iV .i64 0, iV .i64 0, iV .u64 0, iV .u64 0, iV .i64 0, .none0, .none0]))], 0⟩) (by kernel_rfl)) (And.intro rfl rfl))
    · rcases o2239 with rr | ⟨x2223, x2224, x2225, x2226, x2227, x2228, x2229, x2230, x2231, x2232, x2233, x2234, x2235, x2236, x2237, x2238⟩
      · skip
        rintro e s ⟨rfl, hfl, hres⟩
        obtain rfl := Option.some.inj H
        exact Exists.intro _ (And.intro (fun _ _ h => h) (And.intro (.inl rfl) (And.intro hfl hres)))
      · skip
        rintro e s ⟨rfl, rfl⟩
        refine AWp.seq ?_
        refine reg hP hn hm [] [4, 5, 6] [10, 11] ⟨[(4, .ptr 10 0 0), (5, .ptr 11 0 0), (6, iV .i64 0)], [(10, some (.box 25 (aHist ⟨x2223, x2224, x2225, x2226, x2227, x2228, x2229, x2230⟩))), (11, some (.box 25 (aHist ⟨x2231, x2232, x2233, x2234, x2235, x2236, x2237, x2238⟩)))], 0⟩ [] (by kernel_rfl) trivial ?_
        refine AWp.conv (inv := [(10, 0), (11, 1)]) (vk := []) (e0 := []) (t := ⟨[(4, .ptr 0 0 0), (5, .ptr 1 0 0), (6, iV .i64 0)], [(0, some (.box 25 (aHist ((⟨x2223, x2224, x2225, x2226, x2227, x2228, x2229, x2230⟩ : THist))))), (1, some (.box 25 (aHist ((⟨x2231, x2232, x2233, x2234, x2235, x2236, x2237, x2238⟩ : THist)))))], 0⟩) (by kernel_rfl) ?_
        refine AWp.ret ?_
        obtain rfl := Option.some.inj H
        exact Exists.intro _ (And.intro (fun _ _ h => h) (And.intro (.inl rfl) (And.intro rfl (And.intro (by kernel_rfl) (by kernel_rfl)))))
def f_pluvialref07_Alike.l0  (v : Int × Int × Int × Int × Int × Int × (List TBucket) × (List TBucket) × Int × Int × Int × Int × Int × Int × (List TBucket) × (List TBucket)) : Option (Int × Int × Int × Int × Int × Int × (List TBucket) × (List TBucket) × Int × Int × Int × Int × Int × Int × (List TBucket) × (List TBucket)) := match v with
  | (x2308, x2309, x2310, x2311, x2312, x2313, x2314, x2315, x2316, x2317, x2318, x2319, x2320, x2321, x2322, x2323) => if (x2310 != x2318) = true then (((if (decide (x2310 < x2318)) = true then ((f_pluvialref07_Widen.f (⟨x2308, x2309, x2310, x2311, x2312, x2313, x2314, x2315⟩ : THist) x2318) >>= fun t2328 => some ((t2328.1).f0, (t2328.1).f1, (t2328.1).f2, (t2328.1).f3, (t2328.1).f4, (t2328.1).f5, (t2328.1).f6, (t2328.1).f7, x2316, x2317, x2318, x2319, x2320, x2321, x2322, x2323)) else ((f_pluvialref07_Widen.f (⟨x2316, x2317, x2318, x2319, x2320, x2321, x2322, x2323⟩ : THist) x2310) >>= fun t2332 => some (x2308, x2309, x2310, x2311, x2312, x2313, x2314, x2315, (t2332.1).f0, (t2332.1).f1, (t2332.1).f2, (t2332.1).f3, (t2332.1).f4, (t2332.1).f5, (t2332.1).f6, (t2332.1).f7))) : Option (Int × Int × Int × Int × Int × Int × (List TBucket) × (List TBucket) × Int × Int × Int × Int × Int × Int × (List TBucket) × (List TBucket))) >>= fun oo => match oo with | (x2334, x2335, x2336, x2337, x2338, x2339, x2340, x2341, x2342, x2343, x2344, x2345, x2346, x2347, x2348, x2349) => (f_pluvialref07_Alike.l0  (x2334, x2335, x2336, x2337, x2338, x2339, x2340, x2341, x2342, x2343, x2344, x2345, x2346, x2347, x2348, x2349))) else (some (x2308, x2309, x2310, x2311, x2312, x2313, x2314, x2315, x2316, x2317, x2318, x2319, x2320, x2321, x2322, x2323))
partial_fixpoint
def f_pluvialref07_Alike.f (a0 : THist) (a1 : THist) : Option (THist × THist) := ((if (decide (a0.f1 < a1.f1)) = true then ((f_pluvialref07_Down.f a1 a0.f1) >>= fun t2248 => (f_pluvialref07_Down.f a0 a0.f1) >>= fun t2252 => some ((t2252.1).f0, (t2252.1).f1, (t2252.1).f2, (t2252.1).f3, (t2252.1).f4, (t2252.1).f5, (t2252.1).f6, (t2252.1).f7, (t2248.1).f0, (t2248.1).f1, (t2248.1).f2, (t2248.1).f3, (t2248.1).f4, (t2248.1).f5, (t2248.1).f6, (t2248.1).f7)) else ((f_pluvialref07_Down.f a0 a1.f1) >>= fun t2256 => (f_pluvialref07_Down.f a1 a1.f1) >>= fun t2260 => some ((t2256.1).f0, (t2256.1).f1, (t2256.1).f2, (t2256.1).f3, (t2256.1).f4, (t2256.1).f5, (t2256.1).f6, (t2256.1).f7, (t2260.1).f0, (t2260.1).f1, (t2260.1).f2, (t2260.1).f3, (t2260.1).f4, (t2260.1).f5, (t2260.1).f6, (t2260.1).f7))) : Option (Int × Int × Int × Int × Int × Int × (List TBucket) × (List TBucket) × Int × Int × Int × Int × Int × Int × (List TBucket) × (List TBucket))) >>= fun oo => match oo with | (x2262, x2263, x2264, x2265, x2266, x2267, x2268, x2269, x2270, x2271, x2272, x2273, x2274, x2275, x2276, x2277) => ((f_pluvialref07_Alike.l0  (x2262, x2263, x2264, x2265, x2266, x2267, x2268, x2269, x2270, x2271, x2272, x2273, x2274, x2275, x2276, x2277)) >>= fun oo => match oo with | (x2350, x2351, x2352, x2353, x2354, x2355, x2356, x2357, x2358, x2359, x2360, x2361, x2362, x2363, x2364, x2365) => (some ((⟨x2350, x2351, x2352, x2353, x2354, x2355, x2356, x2357⟩ : THist), (⟨x2358, x2359, x2360, x2361, x2362, x2363, x2364, x2365⟩ : THist))))
theorem f_pluvialref07_Alike.ok (a0 : THist) (a1 : THist) (r : THist × THist) (H : f_pluvialref07_Alike.f a0 a1 = some r) : Pv.Fn Try.prog 20 [.agg (aHist a0), .agg (aHist a1)] [] 0 (fun x o => x = .tup [.agg (aHist (r.1)), .agg (aHist (r.2))] ∧ o = []) := by
  unfold f_pluvialref07_Alike.f at H
  refine Fn.bodyK [] Try.func20 rfl rfl (fun Γ hP hn => ?_)
  have hm : Try.prog.follows .mixedOrders = true := by kernel_rfl
  replace hn : Γ.n = 65 := hn
  refine AWp.seq ?_
  refine reg hP hn hm [(0, .k 0), (1, .k 1), (2, .k 2), (3, .k 3)] [2, 3, 4, 5] [0, 1, 2, 3] ⟨[(2, .ptr 0 0 0), (3, .ptr 1 0 0), (4, .ptr 2 0 0), (5, .ptr 3 0 0)], [(0, some (.box 25 (aHist a0))), (1, some (.box 25 (aHist a1))), (2, some (.box 25 [iV .i64 0, iV .i64 0, iV .i64 0, iV .u64 0, iV .u64 0, iV .i64 0, .none0, .none0])), (3, some (.box 25 [iV .i64 0, iV .i64 0, iV .i64 0, iV .u64 0, iV .u64 0, iV .i64 0, .none0, .none0]))], 0⟩ [] (by kernel_rfl) trivial ?_
  refine AWp.seq ?_
  refine AWp.seq ?_
  refine reg hP hn hm [] [2, 3, 4, 5, 10] [0, 1, 2, 3] ⟨[(2, .ptr 0 0 0), (3, .ptr 1 0 0), (4, .ptr 2 0 0), (5, .ptr 3 0 0), (10, bV (decide (a0.f1 < a1.f1)))], [(0, some (.box 25 (aHist a0))), (1, some (.box 25 (aHist a1))), (2, some (.box 25 [iV .i64 0, iV .i64 0, iV .i64 0, iV .u64 0, iV .u64 0, iV .i64 0, .none0, .none0])), (3, some (.box 25 [iV .i64 0, iV .i64 0, iV .i64 0, iV .u64 0, iV .u64 0, iV .i64 0, .none0, .none0]))], 0⟩ [] (by kernel_rfl) trivial ?_
  obtain ⟨o2366, e2367, H⟩ := bind_of H
  refine AWp.mono (Q := fun e s => (match (generalizing := false) o2366 with | (x2262, x2263, x2264, x2265, x2266, x2267, x2268, x2269, x2270, x2271, x2272, x2273, x2274, x2275, x2276, x2277) => e = .normal ∧ s = ⟨[(2, .ptr 12 0 0), (3, .ptr 15 0 0), (4, .ptr 18 0 0), (5, .ptr 19 0 0)], [(12, some (.box 25 [iV .i64 x2262, iV .i64 x2263, iV .i64 x2264, iV .u64 x2265, iV .u64 x2266, iV .i64 x2267, .own 13, .own 14])), (13, some (.row 2 54 (x2268.map eBucket))), (14, some (.row 2 54 (x2269.map eBucket))), (15, some (.box 25 [iV .i64 x2270, iV .i64 x2271, iV .i64 x2272, iV .u64 x2273, iV .u64 x2274, iV .i64 x2275, .own 16, .own 17])), (16, some (.row 2 54 (x2276.map eBucket))), (17, some (.row 2 54 (x2277.map eBucket))), (18, some (.box 25 [iV .i64 0, iV .i64 0, iV .i64 0, iV .u64 0, iV .u64 0, iV .i64 0, .none0, .none0])), (19, some (.box 25 [iV .i64 0, iV .i64 0, iV .i64 0, iV .u64 0, iV .u64 0, iV .i64 0, .none0, .none0]))], 0⟩)) (AWp.cv ?_) ?_
  · replace H := e2367; clear e2367
    refine AWp.cond (decide (a0.f1 < a1.f1)) rfl (fun c2245 => ?_) (fun c2245 => ?_)
    · replace H := (ifT c2245).symm.trans H
      refine AWp.seq ?_
      obtain ⟨t2248, e2249, H⟩ := bind_of H
      refine reg hP hn hm [(3, .call [] [(0, 4), (1, 5)] [] [4, 5] 0 (.tup [.agg [iV .i64 ((t2248.1).f0), iV .i64 ((t2248.1).f1), iV .i64 ((t2248.1).f2), iV .u64 ((t2248.1).f3), iV .u64 ((t2248.1).f4), iV .i64 ((t2248.1).f5), .own 0, .own 1], iV .i64 t2248.2]) [(0, some (.row 2 54 (((t2248.1).f6).map eBucket))), (1, some (.row 2 54 (((t2248.1).f7).map eBucket)))])] [2, 3, 4, 5] [0, 1, 2, 3, 4, 5] ⟨[(2, .ptr 0 0 0), (3, .ptr 1 0 0), (4, .ptr 2 0 0), (5, .ptr 3 0 0)], [(0, some (.box 25 (aHist a0))), (1, some (.box 25 [iV .i64 ((t2248.1).f0), iV .i64 ((t2248.1).f1), iV .i64 ((t2248.1).f2), iV .u64 ((t2248.1).f3), iV .u64 ((t2248.1).f4), iV .i64 ((t2248.1).f5), .own 4, .own 5])), (2, some (.box 25 [iV .i64 0, iV .i64 0, iV .i64 0, iV .u64 0, iV .u64 0, iV .i64 0, .none0, .none0])), (3, some (.box 25 [iV .i64 0, iV .i64 0, iV .i64 0, iV .u64 0, iV .u64 0, iV .i64 0, .none0, .none0])), (4, some (.row 2 54 (((t2248.1).f6).map eBucket))), (5, some (.row 2 54 (((t2248.1).f7).map eBucket)))], 0⟩ [Enters Try.prog 16, Pv.Fn Try.prog 16 [.agg (aHist a1), iV .i64 a0.f1] [] 0 (fun r o => r = .tup [.agg [iV .i64 ((t2248.1).f0), iV .i64 ((t2248.1).f1), iV .i64 ((t2248.1).f2), iV .u64 ((t2248.1).f3), iV .u64 ((t2248.1).f4), iV .i64 ((t2248.1).f5), .own 0, .own 1], iV .i64 t2248.2] ∧ o = [(0, some (.row 2 54 (((t2248.1).f6).map eBucket))), (1, some (.row 2 54 (((t2248.1).f7).map eBucket)))])] (by kernel_rfl) ⟨by exact Try.call16, by exact f_pluvialref07_Down.ok a1 a0.f1 t2248 e2249, trivial⟩ ?_
      obtain ⟨t2252, e2253, H⟩ := bind_of H
      refine reg hP hn hm [(3, .call [] [(0, 6), (1, 7)] [] [6, 7] 0 (.tup [.agg [iV .i64 ((t2252.1).f0), iV .i64 ((t2252.1).f1), iV .i64 ((t2252.1).f2), iV .u64 ((t2252.1).f3), iV .u64 ((t2252.1).f4), iV .i64 ((t2252.1).f5), .own 0, .own 1], iV .i64 t2252.2]) [(0, some (.row 2 54 (((t2252.1).f6).map eBucket))), (1, some (.row 2 54 (((t2252.1).f7).map eBucket)))])] [2, 3, 4, 5] [0, 1, 2, 3, 4, 5, 6, 7] ⟨[(2, .ptr 0 0 0), (3, .ptr 1 0 0), (4, .ptr 2 0 0), (5, .ptr 3 0 0)], [(0, some (.box 25 [iV .i64 ((t2252.1).f0), iV .i64 ((t2252.1).f1), iV .i64 ((t2252.1).f2), iV .u64 ((t2252.1).f3), iV .u64 ((t2252.1).f4), iV .i64 ((t2252.1).f5), .own 6, .own 7])), (1, some (.box 25 [iV .i64 ((t2248.1).f0), iV .i64 ((t2248.1).f1), iV .i64 ((t2248.1).f2), iV .u64 ((t2248.1).f3), iV .u64 ((t2248.1).f4), iV .i64 ((t2248.1).f5), .own 4, .own 5])), (2, some (.box 25 [iV .i64 0, iV .i64 0, iV .i64 0, iV .u64 0, iV .u64 0, iV .i64 0, .none0, .none0])), (3, some (.box 25 [iV .i64 0, iV .i64 0, iV .i64 0, iV .u64 0, iV .u64 0, iV .i64 0, .none0, .none0])), (4, some (.row 2 54 (((t2248.1).f6).map eBucket))), (5, some (.row 2 54 (((t2248.1).f7).map eBucket))), (6, some (.row 2 54 (((t2252.1).f6).map eBucket))), (7, some (.row 2 54 (((t2252.1).f7).map eBucket)))], 0⟩ [Enters Try.prog 16, Pv.Fn Try.prog 16 [.agg (aHist a0), iV .i64 a0.f1] [] 0 (fun r o => r = .tup [.agg [iV .i64 ((t2252.1).f0), iV .i64 ((t2252.1).f1), iV .i64 ((t2252.1).f2), iV .u64 ((t2252.1).f3), iV .u64 ((t2252.1).f4), iV .i64 ((t2252.1).f5), .own 0, .own 1], iV .i64 t2252.2] ∧ o = [(0, some (.row 2 54 (((t2252.1).f6).map eBucket))), (1, some (.row 2 54 (((t2252.1).f7).map eBucket)))])] (by kernel_rfl) ⟨by exact Try.call16, by exact f_pluvialref07_Down.ok a0 a0.f1 t2252 e2253, trivial⟩ ?_
      obtain rfl := Option.some.inj H
      exact Exists.intro _ (And.intro (fun _ _ h => h.conv (inv := [(0, 12), (6, 13), (7, 14), (1, 15), (4, 16), (5, 17), (2, 18), (3, 19)]) (vk := []) (e0 := []) (t := ⟨[(2, .ptr 12 0 0), (3, .ptr 15 0 0), (4, .ptr 18 0 0), (5, .ptr 19 0 0)], [(12, some (.box 25 [iV .i64 ((t2252.1).f0), iV .i64 ((t2252.1).f1), iV .i64 ((t2252.1).f2), iV .u64 ((t2252.1).f3), iV .u64 ((t2252.1).f4), iV .i64 ((t2252.1).f5), .own 13, .own 14])), (13, some (.row 2 54 (((t2252.1).f6).map eBucket))), (14, some (.row 2 54 (((t2252.1).f7).map eBucket))), (15, some (.box 25 [iV .i64 ((t2248.1).f0), iV .i64 ((t2248.1).f1), iV .i64 ((t2248.1).f2), iV .u64 ((t2248.1).f3), iV .u64 ((t2248.1).f4), iV .i64 ((t2248.1).f5), .own 16, .own 17])), (16, some (.row 2 54 (((t2248.1).f6).map eBucket))), (17, some (.row 2 54 (((t2248.1).f7).map eBucket))), (18, some (.box 25 [iV .i64 0, iV .i64 0, iV .i64 0, iV .u64 0, iV .u64 0, iV .i64 0, .none0, .none0])), (19, some (.box 25 [iV .i64 0, iV .i64 0, iV .i64 0, iV .u64 0, iV .u64 0, iV .i64 0, .none0, .none0]))], 0⟩) (by kernel_rfl)) (And.intro rfl rfl))
    · replace H := (ifF c2245).symm.trans H
      refine AWp.seq ?_
      obtain ⟨t2256, e2257, H⟩ := bind_of H
      refine reg hP hn hm [(3, .call [] [(0, 8), (1, 9)] [] [8, 9] 0 (.tup [.agg [iV .i64 ((t2256.1).f0), iV .i64 ((t2256.1).f1), iV .i64 ((t2256.1).f2), iV .u64 ((t2256.1).f3), iV .u64 ((t2256.1).f4), iV .i64 ((t2256.1).f5), .own 0, .own 1], iV .i64 t2256.2]) [(0, some (.row 2 54 (((t2256.1).f6).map eBucket))), (1, some (.row 2 54 (((t2256.1).f7).map eBucket)))])] [2, 3, 4, 5] [0, 1, 2, 3, 8, 9] ⟨[(2, .ptr 0 0 0), (3, .ptr 1 0 0), (4, .ptr 2 0 0), (5, .ptr 3 0 0)], [(0, some (.box 25 [iV .i64 ((t2256.1).f0), iV .i64 ((t2256.1).f1), iV .i64 ((t2256.1).f2), iV .u64 ((t2256.1).f3), iV .u64 ((t2256.1).f4), iV .i64 ((t2256.1).f5), .own 8, .own 9])), (1, some (.box 25 (aHist a1))), (2, some (.box 25 [iV .i64 0, iV .i64 0, iV .i64 0, iV .u64 0, iV .u64 0, iV .i64 0, .none0, .none0])), (3, some (.box 25 [iV .i64 0, iV .i64 0, iV .i64 0, iV .u64 0, iV .u64 0, iV .i64 0, .none0, .none0])), (8, some (.row 2 54 (((t2256.1).f6).map eBucket))), (9, some (.row 2 54 (((t2256.1).f7).map eBucket)))], 0⟩ [Enters Try.prog 16, Pv.Fn Try.prog 16 [.agg (aHist a0), iV .i64 a1.f1] [] 0 (fun r o => r = .tup [.agg [iV .i64 ((t2256.1).f0), iV .i64 ((t2256.1).f1), iV .i64 ((t2256.1).f2), iV .u64 ((t2256.1).f3), iV .u64 ((t2256.1).f4), iV .i64 ((t2256.1).f5), .own 0, .own 1], iV .i64 t2256.2] ∧ o = [(0, some (.row 2 54 (((t2256.1).f6).map eBucket))), (1, some (.row 2 54 (((t2256.1).f7).map eBucket)))])] (by kernel_rfl) ⟨by exact Try.call16, by exact f_pluvialref07_Down.ok a0 a1.f1 t2256 e2257, trivial⟩ ?_
      obtain ⟨t2260, e2261, H⟩ := bind_of H
      refine reg hP hn hm [(3, .call [] [(0, 10), (1, 11)] [] [10, 11] 0 (.tup [.agg [iV .i64 ((t2260.1).f0), iV .i64 ((t2260.1).f1), iV .i64 ((t2260.1).f2), iV .u64 ((t2260.1).f3), iV .u64 ((t2260.1).f4), iV .i64 ((t2260.1).f5), .own 0, .own 1], iV .i64 t2260.2]) [(0, some (.row 2 54 (((t2260.1).f6).map eBucket))), (1, some (.row 2 54 (((t2260.1).f7).map eBucket)))])] [2, 3, 4, 5] [0, 1, 2, 3, 8, 9, 10, 11] ⟨[(2, .ptr 0 0 0), (3, .ptr 1 0 0), (4, .ptr 2 0 0), (5, .ptr 3 0 0)], [(0, some (.box 25 [iV .i64 ((t2256.1).f0), iV .i64 ((t2256.1).f1), iV .i64 ((t2256.1).f2), iV .u64 ((t2256.1).f3), iV .u64 ((t2256.1).f4), iV .i64 ((t2256.1).f5), .own 8, .own 9])), (1, some (.box 25 [iV .i64 ((t2260.1).f0), iV .i64 ((t2260.1).f1), iV .i64 ((t2260.1).f2), iV .u64 ((t2260.1).f3), iV .u64 ((t2260.1).f4), iV .i64 ((t2260.1).f5), .own 10, .own 11])), (2, some (.box 25 [iV .i64 0, iV .i64 0, iV .i64 0, iV .u64 0, iV .u64 0, iV .i64 0, .none0, .none0])), (3, some (.box 25 [iV .i64 0, iV .i64 0, iV .i64 0, iV .u64 0, iV .u64 0, iV .i64 0, .none0, .none0])), (8, some (.row 2 54 (((t2256.1).f6).map eBucket))), (9, some (.row 2 54 (((t2256.1).f7).map eBucket))), (10, some (.row 2 54 (((t2260.1).f6).map eBucket))), (11, some (.row 2 54 (((t2260.1).f7).map eBucket)))], 0⟩ [Enters Try.prog 16, Pv.Fn Try.prog 16 [.agg (aHist a1), iV .i64 a1.f1] [] 0 (fun r o => r = .tup [.agg [iV .i64 ((t2260.1).f0), iV .i64 ((t2260.1).f1), iV .i64 ((t2260.1).f2), iV .u64 ((t2260.1).f3), iV .u64 ((t2260.1).f4), iV .i64 ((t2260.1).f5), .own 0, .own 1], iV .i64 t2260.2] ∧ o = [(0, some (.row 2 54 (((t2260.1).f6).map eBucket))), (1, some (.row 2 54 (((t2260.1).f7).map eBucket)))])] (by kernel_rfl) ⟨by exact Try.call16, by exact f_pluvialref07_Down.ok a1 a1.f1 t2260 e2261, trivial⟩ ?_
      obtain rfl := Option.some.inj H
      exact Exists.intro _ (And.intro (fun _ _ h => h.conv (inv := [(0, 12), (8, 13), (9, 14), (1, 15), (10, 16), (11, 17), (2, 18), (3, 19)]) (vk := []) (e0 := []) (t := ⟨[(2, .ptr 12 0 0), (3, .ptr 15 0 0), (4, .ptr 18 0 0), (5, .ptr 19 0 0)], [(12, some (.box 25 [iV .i64 ((t2256.1).f0), iV .i64 ((t2256.1).f1), iV .i64 ((t2256.1).f2), iV .u64 ((t2256.1).f3), iV .u64 ((t2256.1).f4), iV .i64 ((t2256.1).f5), .own 13, .own 14])), (13, some (.row 2 54 (((t2256.1).f6).map eBucket))), (14, some (.row 2 54 (((t2256.1).f7).map eBucket))), (15, some (.box 25 [iV .i64 ((t2260.1).f0), iV .i64 ((t2260.1).f1), iV .i64 ((t2260.1).f2), iV .u64 ((t2260.1).f3), iV .u64 ((t2260.1).f4), iV .i64 ((t2260.1).f5), .own 16, .own 17])), (16, some (.row 2 54 (((t2260.1).f6).map eBucket))), (17, some (.row 2 54 (((t2260.1).f7).map eBucket))), (18, some (.box 25 [iV .i64 0, iV .i64 0, iV .i64 0, iV .u64 0, iV .u64 0, iV .i64 0, .none0, .none0])), (19, some (.box 25 [iV .i64 0, iV .i64 0, iV .i64 0, iV .u64 0, iV .u64 0, iV .i64 0, .none0, .none0]))], 0⟩) (by kernel_rfl)) (And.intro rfl rfl))
  · obtain ⟨x2262, x2263, x2264, x2265, x2266, x2267, x2268, x2269, x2270, x2271, x2272, x2273, x2274, x2275, x2276, x2277⟩ := o2366
    rintro e s ⟨rfl, rfl⟩
    refine AWp.seq ?_
    refine AWp.block ?_
    obtain ⟨o2368, e2369, H⟩ := bind_of H
    refine AWp.loop (LWp.conv (inv := [(12, 24), (15, 25), (18, 26), (19, 27)]) (vk := [13, 14, 16, 17]) (e0 := []) (t := ⟨[(2, .ptr 24 0 0), (3, .ptr 25 0 0), (4, .ptr 26 0 0), (5, .ptr 27 0 0)], [(24, some (.box 25 (aHist ⟨x2262, x2263, x2264, x2265, x2266, x2267, x2268, x2269⟩))), (25, some (.box 25 (aHist ⟨x2270, x2271, x2272, x2273, x2274, x2275, x2276, x2277⟩))), (26, some (.box 25 [iV .i64 0, iV .i64 0, iV .i64 0, iV .u64 0, iV .u64 0, iV .i64 0, .none0, .none0])), (27, some (.box 25 [iV .i64 0, iV .i64 0, iV .i64 0, iV .u64 0, iV .u64 0, iV .i64 0, .none0, .none0]))], 0⟩) (by kernel_rfl) ?_)
    refine LWp.mono (Q := fun e s => (match (generalizing := false) o2368 with | (x2350, x2351, x2352, x2353, x2354, x2355, x2356, x2357, x2358, x2359, x2360, x2361, x2362, x2363, x2364, x2365) => e = .exit 0 ∧ s = ⟨[(2, .ptr 32 0 0), (3, .ptr 33 0 0), (4, .ptr 34 0 0), (5, .ptr 35 0 0)], [(32, some (.box 25 (aHist ⟨x2350, x2351, x2352, x2353, x2354, x2355, x2356, x2357⟩))), (33, some (.box 25 (aHist ⟨x2358, x2359, x2360, x2361, x2362, x2363, x2364, x2365⟩))), (34, some (.box 25 [iV .i64 0, iV .i64 0, iV .i64 0, iV .u64 0, iV .u64 0, iV .i64 0, .none0, .none0])), (35, some (.box 25 [iV .i64 0, iV .i64 0, iV .i64 0, iV .u64 0, iV .u64 0, iV .i64 0, .none0, .none0]))], 0⟩)) (LWp.cv (withBody (fun body hbody => ?_))) ?_
    · refine f_pluvialref07_Alike.l0.partial_correctness  (motive := fun v o2368 => (match (generalizing := false) v with | (x2308, x2309, x2310, x2311, x2312, x2313, x2314, x2315, x2316, x2317, x2318, x2319, x2320, x2321, x2322, x2323) => LWp Γ body (fun e s => ∃ t, Cv Γ s t ∧ (match (generalizing := false) o2368 with | (x2350, x2351, x2352, x2353, x2354, x2355, x2356, x2357, x2358, x2359, x2360, x2361, x2362, x2363, x2364, x2365) => e = .exit 0 ∧ t = ⟨[(2, .ptr 32 0 0), (3, .ptr 33 0 0), (4, .ptr 34 0 0), (5, .ptr 35 0 0)], [(32, some (.box 25 (aHist ⟨x2350, x2351, x2352, x2353, x2354, x2355, x2356, x2357⟩))), (33, some (.box 25 (aHist ⟨x2358, x2359, x2360, x2361, x2362, x2363, x2364, x2365⟩))), (34, some (.box 25 [iV .i64 0, iV .i64 0, iV .i64 0, iV .u64 0, iV .u64 0, iV .i64 0, .none0, .none0])), (35, some (.box 25 [iV .i64 0, iV .i64 0, iV .i64 0, iV .u64 0, iV .u64 0, iV .i64 0, .none0, .none0]))], 0⟩)) ⟨[(2, .ptr 24 0 0), (3, .ptr 25 0 0), (4, .ptr 26 0 0), (5, .ptr 27 0 0)], [(24, some (.box 25 (aHist ⟨x2308, x2309, x2310, x2311, x2312, x2313, x2314, x2315⟩))), (25, some (.box 25 (aHist ⟨x2316, x2317, x2318, x2319, x2320, x2321, x2322, x2323⟩))), (26, some (.box 25 [iV .i64 0, iV .i64 0, iV .i64 0, iV .u64 0, iV .u64 0, iV .i64 0, .none0, .none0])), (27, some (.box 25 [iV .i64 0, iV .i64 0, iV .i64 0, iV .u64 0, iV .u64 0, iV .i64 0, .none0, .none0]))], 0⟩)) ?_ _ _ e2369
      clear H e2369 o2368; intro self ih v o2368 H
      obtain ⟨x2308, x2309, x2310, x2311, x2312, x2313, x2314, x2315, x2316, x2317, x2318, x2319, x2320, x2321, x2322, x2323⟩ := v
      dsimp only at H
      subst hbody
      refine LWp.round ?_
      refine AWp.seq ?_
      refine AWp.seq ?_
      refine reg hP hn hm [] [2, 3, 4, 5, 43] [24, 25, 26, 27] ⟨[(2, .ptr 24 0 0), (3, .ptr 25 0 0), (4, .ptr 26 0 0), (5, .ptr 27 0 0), (43, bV (x2310 != x2318))], [(24, some (.box 25 (aHist ⟨x2308, x2309, x2310, x2311, x2312, x2313, x2314, x2315⟩))), (25, some (.box 25 (aHist ⟨x2316, x2317, x2318, x2319, x2320, x2321, x2322, x2323⟩))), (26, some (.box 25 [iV .i64 0, iV .i64 0, iV .i64 0, iV .u64 0, iV .u64 0, iV .i64 0, .none0, .none0])), (27, some (.box 25 [iV .i64 0, iV .i64 0, iV .i64 0, iV .u64 0, iV .u64 0, iV .i64 0, .none0, .none0]))], 0⟩ [] (by kernel_rfl) trivial ?_
      refine AWp.cond (x2310 != x2318) rfl (fun c2324 => ?_) (fun c2324 => ?_)
      · replace H := (ifT c2324).symm.trans H
        refine AWp.skip ?_
        refine AWp.block ?_
        refine AWp.seq ?_
        refine reg hP hn hm [] [2, 3, 4, 5, 48] [24, 25, 26, 27] ⟨[(2, .ptr 24 0 0), (3, .ptr 25 0 0), (4, .ptr 26 0 0), (5, .ptr 27 0 0), (48, bV (decide (x2310 < x2318)))], [(24, some (.box 25 (aHist ⟨x2308, x2309, x2310, x2311, x2312, x2313, x2314, x2315⟩))), (25, some (.box 25 (aHist ⟨x2316, x2317, x2318, x2319, x2320, x2321, x2322, x2323⟩))), (26, some (.box 25 [iV .i64 0, iV .i64 0, iV .i64 0, iV .u64 0, iV .u64 0, iV .i64 0, .none0, .none0])), (27, some (.box 25 [iV .i64 0, iV .i64 0, iV .i64 0, iV .u64 0, iV .u64 0, iV .i64 0, .none0, .none0]))], 0⟩ [] (by kernel_rfl) trivial ?_
        obtain ⟨o2370, e2371, H⟩ := bind_of H
        refine AWp.mono (Q := fun e s => (match (generalizing := false) o2370 with | (x2334, x2335, x2336, x2337, x2338, x2339, x2340, x2341, x2342, x2343, x2344, x2345, x2346, x2347, x2348, x2349) => e = .normal ∧ s = ⟨[(2, .ptr 28 0 0), (3, .ptr 29 0 0), (4, .ptr 30 0 0), (5, .ptr 31 0 0)], [(28, some (.box 25 (aHist ⟨x2334, x2335, x2336, x2337, x2338, x2339, x2340, x2341⟩))), (29, some (.box 25 (aHist ⟨x2342, x2343, x2344, x2345, x2346, x2347, x2348, x2349⟩))), (30, some (.box 25 [iV .i64 0, iV .i64 0, iV .i64 0, iV .u64 0, iV .u64 0, iV .i64 0, .none0, .none0])), (31, some (.box 25 [iV .i64 0, iV .i64 0, iV .i64 0, iV .u64 0, iV .u64 0, iV .i64 0, .none0, .none0]))], 0⟩)) (AWp.cv ?_) ?_
        · replace H := e2371; clear e2371
          refine AWp.cond (decide (x2310 < x2318)) rfl (fun c2325 => ?_) (fun c2325 => ?_)
          · replace H := (ifT c2325).symm.trans H
            obtain ⟨t2328, e2329, H⟩ := bind_of H
            refine reg hP hn hm [(3, .call [] [] [] [] 0 (.tup [.agg (aHist (t2328.1)), iV .i64 t2328.2]) [])] [2, 3, 4, 5] [24, 25, 26, 27] ⟨[(2, .ptr 24 0 0), (3, .ptr 25 0 0), (4, .ptr 26 0 0), (5, .ptr 27 0 0)], [(24, some (.box 25 (aHist (t2328.1)))), (25, some (.box 25 (aHist ⟨x2316, x2317, x2318, x2319, x2320, x2321, x2322, x2323⟩))), (26, some (.box 25 [iV .i64 0, iV .i64 0, iV .i64 0, iV .u64 0, iV .u64 0, iV .i64 0, .none0, .none0])), (27, some (.box 25 [iV .i64 0, iV .i64 0, iV .i64 0, iV .u64 0, iV .u64 0, iV .i64 0, .none0, .none0]))], 0⟩ [Enters Try.prog 18, Pv.Fn Try.prog 18 [.agg (aHist ⟨x2308, x2309, x2310, x2311, x2312, x2313, x2314, x2315⟩), iV .i64 x2318] [] 0 (fun r o => r = .tup [.agg (aHist (t2328.1)), iV .i64 t2328.2] ∧ o = [])] (by kernel_rfl) ⟨by exact Try.call18, by exact f_pluvialref07_Widen.ok (⟨x2308, x2309, x2310, x2311, x2312, x2313, x2314, x2315⟩ : THist) x2318 t2328 e2329, trivial⟩ ?_
            obtain rfl := Option.some.inj H
            exact Exists.intro _ (And.intro (fun _ _ h => h.conv (inv := [(24, 28), (25, 29), (26, 30), (27, 31)]) (vk := []) (e0 := []) (t := ⟨[(2, .ptr 28 0 0), (3, .ptr 29 0 0), (4, .ptr 30 0 0), (5, .ptr 31 0 0)], [(28, some (.box 25 (aHist (t2328.1)))), (29, some (.box 25 (aHist ⟨x2316, x2317, x2318, x2319, x2320, x2321, x2322, x2323⟩))), (30, some (.box 25 [iV .i64 0, iV .i64 0, iV .i64 0, iV .u64 0, iV .u64 0, iV .i64 0, .none0, .none0])), (31, some (.box 25 [iV .i64 0, iV .i64 0, iV .i64 0, iV .u64 0, iV .u64 0, iV .i64 0, .none0, .none0]))], 0⟩) (by kernel_rfl)) (And.intro rfl rfl))
          · replace H := (ifF c2325).symm.trans H
            obtain ⟨t2332, e2333, H⟩ := bind_of H
            refine reg hP hn hm [(3, .call [] [] [] [] 0 (.tup [.agg (aHist (t2332.1)), iV .i64 t2332.2]) [])] [2, 3, 4, 5] [24, 25, 26, 27] ⟨[(2, .ptr 24 0 0), (3, .ptr 25 0 0), (4, .ptr 26 0 0), (5, .ptr 27 0 0)], [(24, some (.box 25 (aHist ⟨x2308, x2309, x2310, x2311, x2312, x2313, x2314, x2315⟩))), (25, some (.box 25 (aHist (t2332.1)))), (26, some (.box 25 [iV .i64 0, iV .i64 0, iV .i64 0, iV .u64 0, iV .u64 0, iV .i64 0, .none0, .none0])), (27, some (.box 25 [iV .i64 0, iV .i64 0, iV .i64 0, iV .u64 0, iV .u64 0, iV .i64 0, .none0, .none0]))], 0⟩ [Enters Try.prog 18, Pv.Fn Try.prog 18 [.agg (aHist ⟨x2316, x2317, x2318, x2319, x2320, x2321, x2322, x2323⟩), iV .i64 x2310] [] 0 (fun r o => r = .tup [.agg (aHist (t2332.1)), iV .i64 t2332.2] ∧ o = [])] (by kernel_rfl) ⟨by exact Try.call18, by exact f_pluvialref07_Widen.ok (⟨x2316, x2317, x2318, x2319, x2320, x2321, x2322, x2323⟩ : THist) x2310 t2332 e2333, trivial⟩ ?_
            obtain rfl := Option.some.inj H
            exact Exists.intro _ (And.intro (fun _ _ h => h.conv (inv := [(24, 28), (25, 29), (26, 30), (27, 31)]) (vk := []) (e0 := []) (t := ⟨[(2, .ptr 28 0 0), (3, .ptr 29 0 0), (4, .ptr 30 0 0), (5, .ptr 31 0 0)], [(28, some (.box 25 (aHist ⟨x2308, x2309, x2310, x2311, x2312, x2313, x2314, x2315⟩))), (29, some (.box 25 (aHist (t2332.1)))), (30, some (.box 25 [iV .i64 0, iV .i64 0, iV .i64 0, iV .u64 0, iV .u64 0, iV .i64 0, .none0, .none0])), (31, some (.box 25 [iV .i64 0, iV .i64 0, iV .i64 0, iV .u64 0, iV .u64 0, iV .i64 0, .none0, .none0]))], 0⟩) (by kernel_rfl)) (And.intro rfl rfl))
        · obtain ⟨x2334, x2335, x2336, x2337, x2338, x2339, x2340, x2341, x2342, x2343, x2344, x2345, x2346, x2347, x2348, x2349⟩ := o2370
          rintro e s ⟨rfl, rfl⟩
          exact LWp.conv (inv := [(28, 24), (29, 25), (30, 26), (31, 27)]) (vk := []) (e0 := []) (t := ⟨[(2, .ptr 24 0 0), (3, .ptr 25 0 0), (4, .ptr 26 0 0), (5, .ptr 27 0 0)], [(24, some (.box 25 (aHist ⟨x2334, x2335, x2336, x2337, x2338, x2339, x2340, x2341⟩))), (25, some (.box 25 (aHist ⟨x2342, x2343, x2344, x2345, x2346, x2347, x2348, x2349⟩))), (26, some (.box 25 [iV .i64 0, iV .i64 0, iV .i64 0, iV .u64 0, iV .u64 0, iV .i64 0, .none0, .none0])), (27, some (.box 25 [iV .i64 0, iV .i64 0, iV .i64 0, iV .u64 0, iV .u64 0, iV .i64 0, .none0, .none0]))], 0⟩) (by kernel_rfl) (ih _ _ H)
      · replace H := (ifF c2324).symm.trans H
        refine AWp.exit ?_
        obtain rfl := Option.some.inj H
        exact Exists.intro _ (And.intro (fun _ _ h => h.conv (inv := [(24, 32), (25, 33), (26, 34), (27, 35)]) (vk := []) (e0 := []) (t := ⟨[(2, .ptr 32 0 0), (3, .ptr 33 0 0), (4, .ptr 34 0 0), (5, .ptr 35 0 0)], [(32, some (.box 25 (aHist ⟨x2308, x2309, x2310, x2311, x2312, x2313, x2314, x2315⟩))), (33, some (.box 25 (aHist ⟨x2316, x2317, x2318, x2319, x2320, x2321, x2322, x2323⟩))), (34, some (.box 25 [iV .i64 0, iV .i64 0, iV .i64 0, iV .u64 0, iV .u64 0, iV .i64 0, .none0, .none0])), (35, some (.box 25 [iV .i64 0, iV .i64 0, iV .i64 0, iV .u64 0, iV .u64 0, iV .i64 0, .none0, .none0]))], 0⟩) (by kernel_rfl)) (And.intro rfl rfl))
    · obtain ⟨x2350, x2351, x2352, x2353, x2354, x2355, x2356, x2357, x2358, x2359, x2360, x2361, x2362, x2363, x2364, x2365⟩ := o2368
      rintro e s ⟨rfl, rfl⟩
      refine AWp.seq ?_
      refine reg hP hn hm [] [4, 5] [34, 35] ⟨[(4, .ptr 34 0 0), (5, .ptr 35 0 0)], [(34, some (.box 25 (aHist ⟨x2350, x2351, x2352, x2353, x2354, x2355, x2356, x2357⟩))), (35, some (.box 25 (aHist ⟨x2358, x2359, x2360, x2361, x2362, x2363, x2364, x2365⟩)))], 0⟩ [] (by kernel_rfl) trivial ?_
      refine AWp.conv (inv := [(34, 0), (35, 1)]) (vk := []) (e0 := []) (t := ⟨[(4, .ptr 0 0 0), (5, .ptr 1 0 0)], [(0, some (.box 25 (aHist ((⟨x2350, x2351, x2352, x2353, x2354, x2355, x2356, x2357⟩ : THist))))), (1, some (.box 25 (aHist ((⟨x2358, x2359, x2360, x2361, x2362, x2363, x2364, x2365⟩ : THist)))))], 0⟩) (by kernel_rfl) ?_
      refine AWp.ret ?_
      obtain rfl := Option.some.inj H
      exact Exists.intro _ (And.intro (fun _ _ h => h) (And.intro (.inl rfl) (And.intro rfl (And.intro (by kernel_rfl) (by kernel_rfl)))))
def f_num_AddInt.l0 (a0 : List Int) (x2423 : Int) (x2424 : Int) (x2425 : Int) : Option (Int × Int) := if (decide (x2425 < (a0.length : Int))) = true then ((at? a0 x2425) >>= fun b2430 => (chk (0 ≤ x2424 ∧ 0 ≤ (IntKind.u64.wrap (b2430)) ∧ 0 ≤ (0 : Int) ∧ (0 : Int) ≤ (1 : Int))) >>= fun _ => f_num_AddInt.l0 a0 (IntKind.i64.wrap (x2423 + (IntKind.i64.wrap ((Int.fdiv b2430 9223372036854775808) + (IntKind.i64.wrap ((x2424 + (IntKind.u64.wrap (b2430)) + (0 : Int)) / 18446744073709551616)))))) ((x2424 + (IntKind.u64.wrap (b2430)) + (0 : Int)) % 18446744073709551616) (IntKind.i64.wrap (x2425 + (1 : Int)))) else (some (x2423, x2424))
partial_fixpoint
def f_num_AddInt.f (a0 : List Int) : Option (Int × Int) := (f_num_AddInt.l0 a0 0 0 0) >>= fun oo => match oo with | (x2435, x2436) => (if (x2435 != (Int.fdiv (IntKind.i64.wrap (x2436)) 9223372036854775808)) = true then (some (0, 5)) else (some (IntKind.i64.wrap (x2436), 0)))
theorem f_num_AddInt.ok (a0 : List Int) (r : Int × Int) (H : f_num_AddInt.f a0 = some r) : Pv.Fn Try.prog 44 [.im (.row (a0.map (encInt .i64)))] [] 0 (fun x o => x = .tup [iV .i64 r.1, iV .i64 r.2] ∧ o = []) := by
  unfold f_num_AddInt.f at H
  refine Fn.bodyK [] Try.func44 rfl rfl (fun Γ hP hn => ?_)
  have hm : Try.prog.follows .mixedOrders = true := by kernel_rfl
  replace hn : Γ.n = 39 := hn
  refine AWp.seq ?_
  refine reg hP hn hm [] [0] [] ⟨[(0, .im (.row (a0.map (encInt .i64))))], [], 0⟩ [] (by kernel_rfl) trivial ?_
  refine AWp.seq ?_
  refine reg hP hn hm [] [0, 4, 5] [] ⟨[(0, .im (.row (a0.map (encInt .i64)))), (4, iV .i64 0), (5, iV .u64 0)], [], 0⟩ [] (by kernel_rfl) trivial ?_
  refine AWp.seq ?_
  refine AWp.seq ?_
  refine reg hP hn hm [(1, .any (iV .i64 (a0.length : Int)))] [4, 5, 10, 11, 12] [] ⟨[(4, iV .i64 0), (5, iV .u64 0), (10, .im (.row (a0.map (encInt .i64)))), (11, iV .i64 (a0.length : Int)), (12, iV .i64 0)], [], 0⟩ [((a0.map (encInt .i64)).length : Int) = (a0.length : Int)] (by kernel_rfl) ⟨by rw [len_map], trivial⟩ ?_
  refine AWp.block ?_
  obtain ⟨o2438, e2439, H⟩ := bind_of H
  refine AWp.loop (LWp.conv (inv := []) (vk := []) (e0 := []) (t := ⟨[(4, iV .i64 0), (5, iV .u64 0), (10, .im (.row (a0.map (encInt .i64)))), (11, iV .i64 (a0.length : Int)), (12, iV .i64 0)], [], 0⟩) (by kernel_rfl) ?_)
  refine LWp.mono (Q := fun e s => (match (generalizing := false) o2438 with | (x2435, x2436) => e = .exit 0 ∧ s = ⟨[(4, iV .i64 x2435), (5, iV .u64 x2436)], [], 0⟩)) (LWp.cv (withBody (fun body hbody => ?_))) ?_
  · refine f_num_AddInt.l0.partial_correctness a0 (motive := fun x2423 x2424 x2425 o2438 => LWp Γ body (fun e s => ∃ t, Cv Γ s t ∧ (match (generalizing := false) o2438 with | (x2435, x2436) => e = .exit 0 ∧ t = ⟨[(4, iV .i64 x2435), (5, iV .u64 x2436)], [], 0⟩)) ⟨[(4, iV .i64 x2423), (5, iV .u64 x2424), (10, .im (.row (a0.map (encInt .i64)))), (11, iV .i64 (a0.length : Int)), (12, iV .i64 x2425)], [], 0⟩) ?_ _ _ _ _ e2439
    clear H e2439 o2438; intro self ih x2423 x2424 x2425 o2438 H
    subst hbody
    refine LWp.round ?_
    refine AWp.seq ?_
    refine reg hP hn hm [] [4, 5, 10, 11, 12, 13] [] ⟨[(4, iV .i64 x2423), (5, iV .u64 x2424), (10, .im (.row (a0.map (encInt .i64)))), (11, iV .i64 (a0.length : Int)), (12, iV .i64 x2425), (13, bV (decide (x2425 < (a0.length : Int))))], [], 0⟩ [] (by kernel_rfl) trivial ?_
    refine AWp.seq ?_
    refine AWp.cond (decide (x2425 < (a0.length : Int))) rfl (fun c2426 => ?_) (fun c2426 => ?_)
    · replace H := (ifT c2426).symm.trans H
      refine AWp.skip ?_
      refine AWp.seq ?_
      refine AWp.block ?_
      refine AWp.seq ?_
      obtain ⟨b2430, p2431, q2432, H⟩ := at_of H
      refine reg hP hn hm [(0, .c ((encInt .i64) b2430))] [4, 5, 7, 10, 11, 12] [] ⟨[(4, iV .i64 x2423), (5, iV .u64 x2424), (7, iV .i64 b2430), (10, .im (.row (a0.map (encInt .i64)))), (11, iV .i64 (a0.length : Int)), (12, iV .i64 x2425)], [], 0⟩ [0 ≤ x2425, (a0.map (encInt .i64))[(Int.toNat (x2425))]? = some ((encInt .i64) b2430)] (by kernel_rfl) ⟨by exact p2431, by exact el_map (encInt .i64) q2432, trivial⟩ ?_
      refine AWp.seq ?_
      obtain ⟨c2434, H⟩ := chk_of H
      refine reg hP hn hm [(3, .ext (.tup [iV .u64 ((x2424 + (IntKind.u64.wrap (b2430)) + (0 : Int)) % 18446744073709551616), iV .u64 ((x2424 + (IntKind.u64.wrap (b2430)) + (0 : Int)) / 18446744073709551616)]))] [4, 7, 8, 9, 10, 11, 12] [] ⟨[(4, iV .i64 x2423), (7, iV .i64 b2430), (8, iV .u64 ((x2424 + (IntKind.u64.wrap (b2430)) + (0 : Int)) % 18446744073709551616)), (9, iV .u64 ((x2424 + (IntKind.u64.wrap (b2430)) + (0 : Int)) / 18446744073709551616)), (10, .im (.row (a0.map (encInt .i64)))), (11, iV .i64 (a0.length : Int)), (12, iV .i64 x2425)], [], 0⟩ [∀ w, (callFunc 65 ([.int .u64 x2424, .int .u64 (IntKind.u64.wrap (b2430)), .int .u64 (0 : Int)] : List Value).toArray).run Try.prog w = .ok (.value (.tuple #[.int .u64 ((x2424 + (IntKind.u64.wrap (b2430)) + (0 : Int)) % 18446744073709551616), .int .u64 ((x2424 + (IntKind.u64.wrap (b2430)) + (0 : Int)) / 18446744073709551616)])) w] (by kernel_rfl) ⟨by exact fun w => x_add64 (fn := Try.f65) Try.func65 (by kernel_rfl) rfl (by kernel_rfl) (by kernel_rfl) c2434 w, trivial⟩ ?_
      refine AWp.seq ?_
      refine reg hP hn hm [] [4, 5, 7, 9, 10, 11, 12] [] ⟨[(4, iV .i64 x2423), (5, iV .u64 ((x2424 + (IntKind.u64.wrap (b2430)) + (0 : Int)) % 18446744073709551616)), (7, iV .i64 b2430), (9, iV .u64 ((x2424 + (IntKind.u64.wrap (b2430)) + (0 : Int)) / 18446744073709551616)), (10, .im (.row (a0.map (encInt .i64)))), (11, iV .i64 (a0.length : Int)), (12, iV .i64 x2425)], [], 0⟩ [] (by kernel_rfl) trivial ?_
      refine reg hP hn hm [] [4, 5, 10, 11, 12] [] ⟨[(4, iV .i64 (IntKind.i64.wrap (x2423 + (IntKind.i64.wrap ((Int.fdiv b2430 9223372036854775808) + (IntKind.i64.wrap ((x2424 + (IntKind.u64.wrap (b2430)) + (0 : Int)) / 18446744073709551616))))))), (5, iV .u64 ((x2424 + (IntKind.u64.wrap (b2430)) + (0 : Int)) % 18446744073709551616)), (10, .im (.row (a0.map (encInt .i64)))), (11, iV .i64 (a0.length : Int)), (12, iV .i64 x2425)], [], 0⟩ [(0 : Int) ≤ 63] (by kernel_rfl) ⟨by decide, trivial⟩ ?_
      refine reg hP hn hm [] [4, 5, 10, 11, 12] [] ⟨[(4, iV .i64 (IntKind.i64.wrap (x2423 + (IntKind.i64.wrap ((Int.fdiv b2430 9223372036854775808) + (IntKind.i64.wrap ((x2424 + (IntKind.u64.wrap (b2430)) + (0 : Int)) / 18446744073709551616))))))), (5, iV .u64 ((x2424 + (IntKind.u64.wrap (b2430)) + (0 : Int)) % 18446744073709551616)), (10, .im (.row (a0.map (encInt .i64)))), (11, iV .i64 (a0.length : Int)), (12, iV .i64 (IntKind.i64.wrap (x2425 + (1 : Int))))], [], 0⟩ [] (by kernel_rfl) trivial ?_
      exact LWp.conv (inv := []) (vk := []) (e0 := []) (t := ⟨[(4, iV .i64 (IntKind.i64.wrap (x2423 + (IntKind.i64.wrap ((Int.fdiv b2430 9223372036854775808) + (IntKind.i64.wrap ((x2424 + (IntKind.u64.wrap (b2430)) + (0 : Int)) / 18446744073709551616))))))), (5, iV .u64 ((x2424 + (IntKind.u64.wrap (b2430)) + (0 : Int)) % 18446744073709551616)), (10, .im (.row (a0.map (encInt .i64)))), (11, iV .i64 (a0.length : Int)), (12, iV .i64 (IntKind.i64.wrap (x2425 + (1 : Int))))], [], 0⟩) (by kernel_rfl) (ih _ _ _ _ H)
    · replace H := (ifF c2426).symm.trans H
      refine AWp.exit ?_
      obtain rfl := Option.some.inj H
      exact Exists.intro _ (And.intro (fun _ _ h => h.conv (inv := []) (vk := []) (e0 := []) (t := ⟨[(4, iV .i64 x2423), (5, iV .u64 x2424)], [], 0⟩) (by kernel_rfl)) (And.intro rfl rfl))
  · obtain ⟨x2435, x2436⟩ := o2438
    rintro e s ⟨rfl, rfl⟩
    refine AWp.seq ?_
    refine AWp.seq ?_
    refine reg hP hn hm [] [5, 36] [] ⟨[(5, iV .u64 x2436), (36, bV (x2435 != (Int.fdiv (IntKind.i64.wrap (x2436)) 9223372036854775808)))], [], 0⟩ [(0 : Int) ≤ 63] (by kernel_rfl) ⟨by decide, trivial⟩ ?_
    refine AWp.cond (x2435 != (Int.fdiv (IntKind.i64.wrap (x2436)) 9223372036854775808)) rfl (fun c2437 => ?_) (fun c2437 => ?_)
    · replace H := (ifT c2437).symm.trans H
      refine AWp.seq ?_
      refine reg hP hn hm [] [2, 3] [] ⟨[(2, iV .i64 0), (3, iV .i64 5)], [], 0⟩ [] (by kernel_rfl) trivial ?_
      refine AWp.conv (inv := []) (vk := []) (e0 := []) (t := ⟨[(2, iV .i64 0), (3, iV .i64 5)], [], 0⟩) (by kernel_rfl) ?_
      refine AWp.ret ?_
      obtain rfl := Option.some.inj H
      exact Exists.intro _ (And.intro (fun _ _ h => h) (And.intro (.inl rfl) (And.intro rfl (And.intro (by kernel_rfl) (by kernel_rfl)))))
    · replace H := (ifF c2437).symm.trans H
      refine AWp.skip ?_
      refine AWp.seq ?_
      refine reg hP hn hm [] [2, 3] [] ⟨[(2, iV .i64 (IntKind.i64.wrap (x2436))), (3, iV .i64 0)], [], 0⟩ [] (by kernel_rfl) trivial ?_
      refine AWp.conv (inv := []) (vk := []) (e0 := []) (t := ⟨[(2, iV .i64 (IntKind.i64.wrap (x2436))), (3, iV .i64 0)], [], 0⟩) (by kernel_rfl) ?_
      refine AWp.ret ?_
      obtain rfl := Option.some.inj H
      exact Exists.intro _ (And.intro (fun _ _ h => h) (And.intro (.inl rfl) (And.intro rfl (And.intro (by kernel_rfl) (by kernel_rfl)))))
end Go.Proofs.Yticdbkmekkbiiaa.PvGB
