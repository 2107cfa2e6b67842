import Derived.Test.YtjfhobijgkccdaaProg
import Derived.Test.YtjfhobijgkccdaaPxLabelBack06
set_option linter.unusedVariables false
set_option linter.unnecessarySimpa false
set_option linter.unusedSimpArgs false
set_option maxRecDepth 10000
namespace Go.Proofs.Ytjfhobijgkccdaa.PvGA2
open Go Go.Pv
def f_strings_Join.l0 (a0 : List ByteArray) (a1 : ByteArray) (x667 : Int) (x668 : Int) : Option (Int) := if (decide (x668 < (a0.length : Int))) = true then ((at? a0 x668) >>= fun b673 => if (decide ((b673.size : Int) > (IntKind.i64.wrap ((9223372036854775807 : Int) - x667)))) = true then (none) else (f_strings_Join.l0 a0 a1 (IntKind.i64.wrap (x667 + (b673.size : Int))) (IntKind.i64.wrap (x668 + (1 : Int))))) else (some x667)
partial_fixpoint
def f_strings_Join.l1 (a0 : List ByteArray) (a1 : ByteArray) (x726 : List Int) (x727 : Int) : Option (List Int) := if (decide (x727 < (((a0.drop (Int.toNat ((1 : Int)))).take ((Int.toNat ((a0.length : Int))) - (Int.toNat ((1 : Int))))).length : Int))) = true then ((at? ((a0.drop (Int.toNat ((1 : Int)))).take ((Int.toNat ((a0.length : Int))) - (Int.toNat ((1 : Int))))) x727) >>= fun b732 => (f_strings_Builder_WriteString_378.f x726 a1) >>= fun t737 => (f_strings_Builder_WriteString_378.f t737 b732) >>= fun t741 => f_strings_Join.l1 a0 a1 t741 (IntKind.i64.wrap (x727 + (1 : Int)))) else (some x726)
partial_fixpoint
def f_strings_Join.f (a0 : List ByteArray) (a1 : ByteArray) : Option (ByteArray) := if ((a0.length : Int) == (0 : Int)) = true then (some (⟨#[]⟩ : ByteArray)) else (if ((a0.length : Int) == (1 : Int)) = true then ((at? a0 0) >>= fun b651 => some b651) else (((if (decide ((a1.size : Int) > (0 : Int))) = true then ((chk ((IntKind.i64.wrap ((a0.length : Int) - (1 : Int))) ≠ 0)) >>= fun _ => if (decide ((a1.size : Int) ≥ (IntKind.i64.wrap (Int.tdiv (9223372036854775807 : Int) (IntKind.i64.wrap ((a0.length : Int) - (1 : Int))))))) = true then (none) else (some (IntKind.i64.wrap ((0 : Int) + (IntKind.i64.wrap ((a1.size : Int) * (IntKind.i64.wrap ((a0.length : Int) - (1 : Int))))))))) else (some 0)) : Option (Int)) >>= fun x658 => (f_strings_Join.l0 a0 a1 x658 0) >>= fun x677 => (f_strings_Builder_Grow_1bc.f x677) >>= fun t697 => (at? a0 0) >>= fun b704 => (f_strings_Builder_WriteString_378.f t697 b704) >>= fun t707 => (chk (0 ≤ (1 : Int) ∧ (1 : Int) ≤ (a0.length : Int) ∧ (a0.length : Int) ≤ (a0.length : Int))) >>= fun _ => (f_strings_Join.l1 a0 a1 t707 0) >>= fun x743 => (f_strings_Builder_String_378.f x743) >>= fun t746 => some (strOf x743)))
theorem f_strings_Join.ok (a0 : List ByteArray) (a1 : ByteArray) (r : ByteArray) (H : f_strings_Join.f a0 a1 = some r) : Pv.Fn Try.prog 51 [.im (.row (a0.map encStr)), sV a1] [] 0 (fun x o => x = sV r ∧ o = []) := by
  unfold f_strings_Join.f at H
  refine Fn.bodyK [] Try.func51 rfl rfl (fun Γ hP hn => ?_)
  have hm : Try.prog.follows .mixedOrders = true := by kernel_rfl
  replace hn : Γ.n = 75 := hn
  refine AWp.seq ?_
  refine reg hP hn hm [] [0, 1] [] ⟨[(0, .im (.row (a0.map encStr))), (1, sV a1)], [], 0⟩ [] (by kernel_rfl) trivial ?_
  refine AWp.seq ?_
  refine AWp.seq ?_
  refine reg hP hn hm [(1, .any (iV .i64 (a0.length : Int)))] [0, 1, 12] [] ⟨[(0, .im (.row (a0.map encStr))), (1, sV a1), (12, iV .i64 (a0.length : Int))], [], 0⟩ [((a0.map encStr).length : Int) = (a0.length : Int)] (by kernel_rfl) ⟨by rw [len_map], trivial⟩ ?_
  refine AWp.block ?_
  refine AWp.seq ?_
  refine reg hP hn hm [] [0, 1, 12, 13] [] ⟨[(0, .im (.row (a0.map encStr))), (1, sV a1), (12, iV .i64 (a0.length : Int)), (13, bV ((a0.length : Int) == (0 : Int)))], [], 0⟩ [] (by kernel_rfl) trivial ?_
  refine AWp.cond ((a0.length : Int) == (0 : Int)) rfl (fun c646 => ?_) (fun c646 => ?_)
  · replace H := (ifT c646).symm.trans H
    refine AWp.seq ?_
    refine reg hP hn hm [] [4] [] ⟨[(4, sV (⟨#[]⟩ : ByteArray))], [], 0⟩ [] (by kernel_rfl) trivial ?_
    refine AWp.conv (inv := []) (vk := []) (e0 := []) (t := ⟨[(4, sV (⟨#[]⟩ : ByteArray))], [], 0⟩) (by kernel_rfl) ?_
    refine AWp.ret ?_
    obtain rfl := Option.some.inj H
    exact Exists.intro _ (And.intro (fun _ _ h => h) (And.intro (.inl rfl) (And.intro rfl (And.intro (by kernel_rfl) (by kernel_rfl)))))
  · replace H := (ifF c646).symm.trans H
    refine AWp.seq ?_
    refine reg hP hn hm [] [0, 1, 15] [] ⟨[(0, .im (.row (a0.map encStr))), (1, sV a1), (15, bV ((a0.length : Int) == (1 : Int)))], [], 0⟩ [] (by kernel_rfl) trivial ?_
    refine AWp.cond ((a0.length : Int) == (1 : Int)) rfl (fun c647 => ?_) (fun c647 => ?_)
    · replace H := (ifT c647).symm.trans H
      refine AWp.seq ?_
      obtain ⟨b651, p652, q653, H⟩ := at_of H
      refine reg hP hn hm [(1, .c (encStr b651))] [4] [] ⟨[(4, sV b651)], [], 0⟩ [0 ≤ (0 : Int), (a0.map encStr)[(Int.toNat (0))]? = some (encStr b651)] (by kernel_rfl) ⟨by exact p652, by exact el_map encStr q653, trivial⟩ ?_
      refine AWp.conv (inv := []) (vk := []) (e0 := []) (t := ⟨[(4, sV b651)], [], 0⟩) (by kernel_rfl) ?_
      refine AWp.ret ?_
      obtain rfl := Option.some.inj H
      exact Exists.intro _ (And.intro (fun _ _ h => h) (And.intro (.inl rfl) (And.intro rfl (And.intro (by kernel_rfl) (by kernel_rfl)))))
    · replace H := (ifF c647).symm.trans H
      refine AWp.skip ?_
      refine AWp.seq ?_
      refine reg hP hn hm [] [0, 1, 5] [] ⟨[(0, .im (.row (a0.map encStr))), (1, sV a1), (5, iV .i64 0)], [], 0⟩ [] (by kernel_rfl) trivial ?_
      refine AWp.seq ?_
      refine AWp.seq ?_
      refine reg hP hn hm [] [0, 1, 5, 22] [] ⟨[(0, .im (.row (a0.map encStr))), (1, sV a1), (5, iV .i64 0), (22, bV (decide ((a1.size : Int) > (0 : Int))))], [], 0⟩ [] (by kernel_rfl) trivial ?_
      obtain ⟨o748, e749, H⟩ := bind_of H
      refine AWp.mono (Q := fun e s => (match (generalizing := false) o748 with | x658 => e = .normal ∧ s = ⟨[(0, .im (.row (a0.map encStr))), (1, sV a1), (5, iV .i64 x658)], [], 0⟩)) (AWp.cv ?_) ?_
      · replace H := e749; clear e749
        refine AWp.cond (decide ((a1.size : Int) > (0 : Int))) rfl (fun c654 => ?_) (fun c654 => ?_)
        · replace H := (ifT c654).symm.trans H
          refine AWp.seq ?_
          refine AWp.seq ?_
          obtain ⟨c656, H⟩ := chk_of H
          refine reg hP hn hm [(3, .any (iV .i64 (a0.length : Int)))] [0, 1, 5, 29] [] ⟨[(0, .im (.row (a0.map encStr))), (1, sV a1), (5, iV .i64 0), (29, bV (decide ((a1.size : Int) ≥ (IntKind.i64.wrap (Int.tdiv (9223372036854775807 : Int) (IntKind.i64.wrap ((a0.length : Int) - (1 : Int))))))))], [], 0⟩ [((a0.map encStr).length : Int) = (a0.length : Int), (IntKind.i64.wrap ((a0.length : Int) - (1 : Int))) ≠ 0] (by kernel_rfl) ⟨by rw [len_map], by exact c656, trivial⟩ ?_
          refine AWp.cond (decide ((a1.size : Int) ≥ (IntKind.i64.wrap (Int.tdiv (9223372036854775807 : Int) (IntKind.i64.wrap ((a0.length : Int) - (1 : Int))))))) rfl (fun c657 => ?_) (fun c657 => ?_)
          · replace H := (ifT c657).symm.trans H
            exact nomatch H
          · replace H := (ifF c657).symm.trans H
            refine AWp.skip ?_
            refine reg hP hn hm [(4, .any (iV .i64 (a0.length : Int)))] [0, 1, 5] [] ⟨[(0, .im (.row (a0.map encStr))), (1, sV a1), (5, iV .i64 (IntKind.i64.wrap ((0 : Int) + (IntKind.i64.wrap ((a1.size : Int) * (IntKind.i64.wrap ((a0.length : Int) - (1 : Int))))))))], [], 0⟩ [((a0.map encStr).length : Int) = (a0.length : Int)] (by kernel_rfl) ⟨by rw [len_map], trivial⟩ ?_
            obtain rfl := Option.some.inj H
            exact Exists.intro _ (And.intro (fun _ _ h => h.conv (inv := []) (vk := []) (e0 := []) (t := ⟨[(0, .im (.row (a0.map encStr))), (1, sV a1), (5, iV .i64 (IntKind.i64.wrap ((0 : Int) + (IntKind.i64.wrap ((a1.size : Int) * (IntKind.i64.wrap ((a0.length : Int) - (1 : Int))))))))], [], 0⟩) (by kernel_rfl)) (And.intro rfl rfl))
        · replace H := (ifF c654).symm.trans H
          refine AWp.skip ?_
          obtain rfl := Option.some.inj H
          exact Exists.intro _ (And.intro (fun _ _ h => h.conv (inv := []) (vk := []) (e0 := []) (t := ⟨[(0, .im (.row (a0.map encStr))), (1, sV a1), (5, iV .i64 0)], [], 0⟩) (by kernel_rfl)) (And.intro rfl rfl))
      · obtain ⟨x658, rfl⟩ : ∃ z, z = o748 := ⟨_, rfl⟩
        rintro e s ⟨rfl, rfl⟩
        refine AWp.seq ?_
        refine AWp.seq ?_
        refine reg hP hn hm [(1, .any (iV .i64 (a0.length : Int)))] [0, 1, 5, 39, 40, 41] [] ⟨[(0, .im (.row (a0.map encStr))), (1, sV a1), (5, iV .i64 x658), (39, .im (.row (a0.map encStr))), (40, iV .i64 (a0.length : Int)), (41, iV .i64 0)], [], 0⟩ [((a0.map encStr).length : Int) = (a0.length : Int)] (by kernel_rfl) ⟨by rw [len_map], trivial⟩ ?_
        refine AWp.block ?_
        obtain ⟨o750, e751, H⟩ := bind_of H
        refine AWp.loop (LWp.conv (inv := []) (vk := []) (e0 := []) (t := ⟨[(0, .im (.row (a0.map encStr))), (1, sV a1), (5, iV .i64 x658), (39, .im (.row (a0.map encStr))), (40, iV .i64 (a0.length : Int)), (41, iV .i64 0)], [], 0⟩) (by kernel_rfl) ?_)
        refine LWp.mono (Q := fun e s => (match (generalizing := false) o750 with | x677 => e = .exit 1 ∧ s = ⟨[(0, .im (.row (a0.map encStr))), (1, sV a1), (5, iV .i64 x677)], [], 0⟩)) (LWp.cv (withBody (fun body hbody => ?_))) ?_
        · refine f_strings_Join.l0.partial_correctness a0 a1 (motive := fun x667 x668 o750 => LWp Γ body (fun e s => ∃ t, Cv Γ s t ∧ (match (generalizing := false) o750 with | x677 => e = .exit 1 ∧ t = ⟨[(0, .im (.row (a0.map encStr))), (1, sV a1), (5, iV .i64 x677)], [], 0⟩)) ⟨[(0, .im (.row (a0.map encStr))), (1, sV a1), (5, iV .i64 x667), (39, .im (.row (a0.map encStr))), (40, iV .i64 (a0.length : Int)), (41, iV .i64 x668)], [], 0⟩) ?_ _ _ _ e751
          clear H e751 o750; intro self ih x667 x668 o750 H
          subst hbody
          refine LWp.round ?_
          refine AWp.seq ?_
          refine reg hP hn hm [] [0, 1, 5, 39, 40, 41, 42] [] ⟨[(0, .im (.row (a0.map encStr))), (1, sV a1), (5, iV .i64 x667), (39, .im (.row (a0.map encStr))), (40, iV .i64 (a0.length : Int)), (41, iV .i64 x668), (42, bV (decide (x668 < (a0.length : Int))))], [], 0⟩ [] (by kernel_rfl) trivial ?_
          refine AWp.seq ?_
          refine AWp.cond (decide (x668 < (a0.length : Int))) rfl (fun c669 => ?_) (fun c669 => ?_)
          · replace H := (ifT c669).symm.trans H
            refine AWp.skip ?_
            refine AWp.seq ?_
            refine AWp.block ?_
            refine AWp.seq ?_
            obtain ⟨b673, p674, q675, H⟩ := at_of H
            refine reg hP hn hm [(0, .c (encStr b673))] [0, 1, 5, 7, 39, 40, 41] [] ⟨[(0, .im (.row (a0.map encStr))), (1, sV a1), (5, iV .i64 x667), (7, sV b673), (39, .im (.row (a0.map encStr))), (40, iV .i64 (a0.length : Int)), (41, iV .i64 x668)], [], 0⟩ [0 ≤ x668, (a0.map encStr)[(Int.toNat (x668))]? = some (encStr b673)] (by kernel_rfl) ⟨by exact p674, by exact el_map encStr q675, trivial⟩ ?_
            refine AWp.seq ?_
            refine AWp.seq ?_
            refine reg hP hn hm [] [0, 1, 5, 7, 39, 40, 41, 49] [] ⟨[(0, .im (.row (a0.map encStr))), (1, sV a1), (5, iV .i64 x667), (7, sV b673), (39, .im (.row (a0.map encStr))), (40, iV .i64 (a0.length : Int)), (41, iV .i64 x668), (49, bV (decide ((b673.size : Int) > (IntKind.i64.wrap ((9223372036854775807 : Int) - x667)))))], [], 0⟩ [] (by kernel_rfl) trivial ?_
            refine AWp.cond (decide ((b673.size : Int) > (IntKind.i64.wrap ((9223372036854775807 : Int) - x667)))) rfl (fun c676 => ?_) (fun c676 => ?_)
            · replace H := (ifT c676).symm.trans H
              exact nomatch H
            · replace H := (ifF c676).symm.trans H
              refine AWp.skip ?_
              refine reg hP hn hm [] [0, 1, 5, 39, 40, 41] [] ⟨[(0, .im (.row (a0.map encStr))), (1, sV a1), (5, iV .i64 (IntKind.i64.wrap (x667 + (b673.size : Int)))), (39, .im (.row (a0.map encStr))), (40, iV .i64 (a0.length : Int)), (41, iV .i64 x668)], [], 0⟩ [] (by kernel_rfl) trivial ?_
              refine reg hP hn hm [] [0, 1, 5, 39, 40, 41] [] ⟨[(0, .im (.row (a0.map encStr))), (1, sV a1), (5, iV .i64 (IntKind.i64.wrap (x667 + (b673.size : Int)))), (39, .im (.row (a0.map encStr))), (40, iV .i64 (a0.length : Int)), (41, iV .i64 (IntKind.i64.wrap (x668 + (1 : Int))))], [], 0⟩ [] (by kernel_rfl) trivial ?_
              exact LWp.conv (inv := []) (vk := []) (e0 := []) (t := ⟨[(0, .im (.row (a0.map encStr))), (1, sV a1), (5, iV .i64 (IntKind.i64.wrap (x667 + (b673.size : Int)))), (39, .im (.row (a0.map encStr))), (40, iV .i64 (a0.length : Int)), (41, iV .i64 (IntKind.i64.wrap (x668 + (1 : Int))))], [], 0⟩) (by kernel_rfl) (ih _ _ _ H)
          · replace H := (ifF c669).symm.trans H
            refine AWp.exit ?_
            obtain rfl := Option.some.inj H
            exact Exists.intro _ (And.intro (fun _ _ h => h.conv (inv := []) (vk := []) (e0 := []) (t := ⟨[(0, .im (.row (a0.map encStr))), (1, sV a1), (5, iV .i64 x667)], [], 0⟩) (by kernel_rfl)) (And.intro rfl rfl))
        · obtain ⟨x677, rfl⟩ : ∃ z, z = o750 := ⟨_, rfl⟩
          rintro e s ⟨rfl, rfl⟩
          refine AWp.seq ?_
          refine reg hP hn hm [(0, .k 0)] [0, 1, 5, 8] [0] ⟨[(0, .im (.row (a0.map encStr))), (1, sV a1), (5, iV .i64 x677), (8, .ptr 0 0 0)], [(0, some (.box 75 [.im (.sc (.pointer none)), .none0]))], 0⟩ [] (by kernel_rfl) trivial ?_
          refine AWp.seq ?_
          obtain ⟨t697, e698, H⟩ := bind_of H
          refine reg hP hn hm [(1, .call [(0, 0)] [(0, 0), (1, 1)] [] [1] 1 (.tup []) [(0, some (.box 75 [.ptr 0 0 0, .own 1])), (1, some (.row 1 5 (t697.map (encInt .u8))))])] [0, 1, 8] [0, 1] ⟨[(0, .im (.row (a0.map encStr))), (1, sV a1), (8, .ptr 0 0 0)], [(0, some (.box 75 [.ptr 0 0 0, .own 1])), (1, some (.row 1 5 (t697.map (encInt .u8))))], 0⟩ [Enters Try.prog 82, Pv.Fn Try.prog 82 [.ptr 0 0 0, iV .i64 x677] [(0, some (.box 75 [.im (.sc (.pointer none)), .none0]))] 1 (fun r o => r = .tup [] ∧ o = [(0, some (.box 75 [.ptr 0 0 0, .own 1])), (1, some (.row 1 5 (t697.map (encInt .u8))))])] (by kernel_rfl) ⟨by exact Try.call82, by exact f_strings_Builder_Grow_1bc.ok x677 t697 e698, trivial⟩ ?_
          refine AWp.seq ?_
          obtain ⟨b704, p705, q706, H⟩ := at_of H
          obtain ⟨t707, e708, H⟩ := bind_of H
          refine reg hP hn hm [(1, .c (encStr b704)), (3, .call [(0, 0), (1, 1)] [(0, 0), (2, 2)] [] [2] 2 (.tup [iV .i64 (b704.size : Int), .im (.sc (.nilIface))]) [(0, some (.box 75 [.ptr 0 0 0, .own 2])), (1, none), (2, some (.row 1 5 (t707.map (encInt .u8))))])] [0, 1, 8] [0, 2] ⟨[(0, .im (.row (a0.map encStr))), (1, sV a1), (8, .ptr 0 0 0)], [(0, some (.box 75 [.ptr 0 0 0, .own 2])), (2, some (.row 1 5 (t707.map (encInt .u8))))], 0⟩ [0 ≤ (0 : Int), (a0.map encStr)[(Int.toNat (0))]? = some (encStr b704), Enters Try.prog 43, Pv.Fn Try.prog 43 [.ptr 0 0 0, sV b704] [(0, some (.box 75 [.ptr 0 0 0, .own 1])), (1, some (.row 1 5 (t697.map (encInt .u8))))] 2 (fun r o => r = .tup [iV .i64 (b704.size : Int), .im (.sc (.nilIface))] ∧ o = [(0, some (.box 75 [.ptr 0 0 0, .own 2])), (1, none), (2, some (.row 1 5 (t707.map (encInt .u8))))])] (by kernel_rfl) ⟨by exact p705, by exact el_map encStr q706, by exact Try.call43, by exact f_strings_Builder_WriteString_378.ok t697 b704 t707 e708, trivial⟩ ?_
          refine AWp.seq ?_
          refine AWp.seq ?_
          obtain ⟨c710, H⟩ := chk_of H
          refine reg hP hn hm [(1, .rows (((a0.drop (Int.toNat ((1 : Int)))).take ((Int.toNat ((a0.length : Int))) - (Int.toNat ((1 : Int))))).map encStr)), (2, .any (iV .i64 (((a0.drop (Int.toNat ((1 : Int)))).take ((Int.toNat ((a0.length : Int))) - (Int.toNat ((1 : Int))))).length : Int)))] [1, 8, 63, 64, 65] [0, 2] ⟨[(1, sV a1), (8, .ptr 0 0 0), (63, .im (.row (((a0.drop (Int.toNat ((1 : Int)))).take ((Int.toNat ((a0.length : Int))) - (Int.toNat ((1 : Int))))).map encStr))), (64, iV .i64 (((a0.drop (Int.toNat ((1 : Int)))).take ((Int.toNat ((a0.length : Int))) - (Int.toNat ((1 : Int))))).length : Int)), (65, iV .i64 0)], [(0, some (.box 75 [.ptr 0 0 0, .own 2])), (2, some (.row 1 5 (t707.map (encInt .u8))))], 0⟩ [0 ≤ (1 : Int), (1 : Int) ≤ ((a0.map encStr).length : Int), ((a0.map encStr).length : Int) ≤ ((a0.map encStr).length : Int), ∀ c ∈ a0.map encStr, c.length = 1, ((a0.drop (Int.toNat ((1 : Int)))).take ((Int.toNat ((a0.length : Int))) - (Int.toNat ((1 : Int))))).map encStr = ((a0.map encStr).drop (Int.toNat ((1 : Int)))).take ((Int.toNat (((a0.map encStr).length : Int))) - (Int.toNat ((1 : Int)))), ((((a0.drop (Int.toNat ((1 : Int)))).take ((Int.toNat ((a0.length : Int))) - (Int.toNat ((1 : Int))))).map encStr).length : Int) = (((a0.drop (Int.toNat ((1 : Int)))).take ((Int.toNat ((a0.length : Int))) - (Int.toNat ((1 : Int))))).length : Int)] (by kernel_rfl) ⟨by exact c710.1, by simpa using c710.2.1, by simpa using c710.2.2, by exact all_len _ _ _ (fun _ => rfl), by simp [cut1], by rw [len_map], trivial⟩ ?_
          refine AWp.block ?_
          obtain ⟨o752, e753, H⟩ := bind_of H
          refine AWp.loop (LWp.conv (inv := [(0, 5), (2, 6)]) (vk := []) (e0 := []) (t := ⟨[(1, sV a1), (8, .ptr 5 0 0), (63, .im (.row (((a0.drop (Int.toNat ((1 : Int)))).take ((Int.toNat ((a0.length : Int))) - (Int.toNat ((1 : Int))))).map encStr))), (64, iV .i64 (((a0.drop (Int.toNat ((1 : Int)))).take ((Int.toNat ((a0.length : Int))) - (Int.toNat ((1 : Int))))).length : Int)), (65, iV .i64 0)], [(5, some (.box 75 [.ptr 5 0 0, .own 6])), (6, some (.row 1 5 (t707.map (encInt .u8))))], 0⟩) (by kernel_rfl) ?_)
          refine LWp.mono (Q := fun e s => (match (generalizing := false) o752 with | x743 => e = .exit 3 ∧ s = ⟨[(8, .ptr 9 0 0)], [(9, some (.box 75 [.ptr 9 0 0, .own 10])), (10, some (.row 1 5 (x743.map (encInt .u8))))], 0⟩)) (LWp.cv (withBody (fun body hbody => ?_))) ?_
          · refine f_strings_Join.l1.partial_correctness a0 a1 (motive := fun x726 x727 o752 => LWp Γ body (fun e s => ∃ t, Cv Γ s t ∧ (match (generalizing := false) o752 with | x743 => e = .exit 3 ∧ t = ⟨[(8, .ptr 9 0 0)], [(9, some (.box 75 [.ptr 9 0 0, .own 10])), (10, some (.row 1 5 (x743.map (encInt .u8))))], 0⟩)) ⟨[(1, sV a1), (8, .ptr 5 0 0), (63, .im (.row (((a0.drop (Int.toNat ((1 : Int)))).take ((Int.toNat ((a0.length : Int))) - (Int.toNat ((1 : Int))))).map encStr))), (64, iV .i64 (((a0.drop (Int.toNat ((1 : Int)))).take ((Int.toNat ((a0.length : Int))) - (Int.toNat ((1 : Int))))).length : Int)), (65, iV .i64 x727)], [(5, some (.box 75 [.ptr 5 0 0, .own 6])), (6, some (.row 1 5 (x726.map (encInt .u8))))], 0⟩) ?_ _ _ _ e753
            clear H e753 o752; intro self ih x726 x727 o752 H
            subst hbody
            refine LWp.round ?_
            refine AWp.seq ?_
            refine reg hP hn hm [] [1, 8, 63, 64, 65, 66] [5, 6] ⟨[(1, sV a1), (8, .ptr 5 0 0), (63, .im (.row (((a0.drop (Int.toNat ((1 : Int)))).take ((Int.toNat ((a0.length : Int))) - (Int.toNat ((1 : Int))))).map encStr))), (64, iV .i64 (((a0.drop (Int.toNat ((1 : Int)))).take ((Int.toNat ((a0.length : Int))) - (Int.toNat ((1 : Int))))).length : Int)), (65, iV .i64 x727), (66, bV (decide (x727 < (((a0.drop (Int.toNat ((1 : Int)))).take ((Int.toNat ((a0.length : Int))) - (Int.toNat ((1 : Int))))).length : Int))))], [(5, some (.box 75 [.ptr 5 0 0, .own 6])), (6, some (.row 1 5 (x726.map (encInt .u8))))], 0⟩ [] (by kernel_rfl) trivial ?_
            refine AWp.seq ?_
            refine AWp.cond (decide (x727 < (((a0.drop (Int.toNat ((1 : Int)))).take ((Int.toNat ((a0.length : Int))) - (Int.toNat ((1 : Int))))).length : Int))) rfl (fun c728 => ?_) (fun c728 => ?_)
            · replace H := (ifT c728).symm.trans H
              refine AWp.skip ?_
              refine AWp.seq ?_
              refine AWp.block ?_
              refine AWp.seq ?_
              obtain ⟨b732, p733, q734, H⟩ := at_of H
              refine reg hP hn hm [(0, .c (encStr b732))] [1, 8, 10, 63, 64, 65] [5, 6] ⟨[(1, sV a1), (8, .ptr 5 0 0), (10, sV b732), (63, .im (.row (((a0.drop (Int.toNat ((1 : Int)))).take ((Int.toNat ((a0.length : Int))) - (Int.toNat ((1 : Int))))).map encStr))), (64, iV .i64 (((a0.drop (Int.toNat ((1 : Int)))).take ((Int.toNat ((a0.length : Int))) - (Int.toNat ((1 : Int))))).length : Int)), (65, iV .i64 x727)], [(5, some (.box 75 [.ptr 5 0 0, .own 6])), (6, some (.row 1 5 (x726.map (encInt .u8))))], 0⟩ [0 ≤ x727, (((a0.drop (Int.toNat ((1 : Int)))).take ((Int.toNat ((a0.length : Int))) - (Int.toNat ((1 : Int))))).map encStr)[(Int.toNat (x727))]? = some (encStr b732)] (by kernel_rfl) ⟨by exact p733, by exact el_map encStr q734, trivial⟩ ?_
              refine AWp.seq ?_
              obtain ⟨t737, e738, H⟩ := bind_of H
              refine reg hP hn hm [(1, .call [(5, 0), (6, 1)] [(0, 5), (2, 7)] [] [7] 2 (.tup [iV .i64 (a1.size : Int), .im (.sc (.nilIface))]) [(0, some (.box 75 [.ptr 0 0 0, .own 2])), (1, none), (2, some (.row 1 5 (t737.map (encInt .u8))))])] [1, 8, 10, 63, 64, 65] [5, 7] ⟨[(1, sV a1), (8, .ptr 5 0 0), (10, sV b732), (63, .im (.row (((a0.drop (Int.toNat ((1 : Int)))).take ((Int.toNat ((a0.length : Int))) - (Int.toNat ((1 : Int))))).map encStr))), (64, iV .i64 (((a0.drop (Int.toNat ((1 : Int)))).take ((Int.toNat ((a0.length : Int))) - (Int.toNat ((1 : Int))))).length : Int)), (65, iV .i64 x727)], [(5, some (.box 75 [.ptr 5 0 0, .own 7])), (7, some (.row 1 5 (t737.map (encInt .u8))))], 0⟩ [Enters Try.prog 43, Pv.Fn Try.prog 43 [.ptr 0 0 0, sV a1] [(0, some (.box 75 [.ptr 0 0 0, .own 1])), (1, some (.row 1 5 (x726.map (encInt .u8))))] 2 (fun r o => r = .tup [iV .i64 (a1.size : Int), .im (.sc (.nilIface))] ∧ o = [(0, some (.box 75 [.ptr 0 0 0, .own 2])), (1, none), (2, some (.row 1 5 (t737.map (encInt .u8))))])] (by kernel_rfl) ⟨by exact Try.call43, by exact f_strings_Builder_WriteString_378.ok x726 a1 t737 e738, trivial⟩ ?_
              obtain ⟨t741, e742, H⟩ := bind_of H
              refine reg hP hn hm [(1, .call [(5, 0), (7, 1)] [(0, 5), (2, 8)] [] [8] 2 (.tup [iV .i64 (b732.size : Int), .im (.sc (.nilIface))]) [(0, some (.box 75 [.ptr 0 0 0, .own 2])), (1, none), (2, some (.row 1 5 (t741.map (encInt .u8))))])] [1, 8, 63, 64, 65] [5, 8] ⟨[(1, sV a1), (8, .ptr 5 0 0), (63, .im (.row (((a0.drop (Int.toNat ((1 : Int)))).take ((Int.toNat ((a0.length : Int))) - (Int.toNat ((1 : Int))))).map encStr))), (64, iV .i64 (((a0.drop (Int.toNat ((1 : Int)))).take ((Int.toNat ((a0.length : Int))) - (Int.toNat ((1 : Int))))).length : Int)), (65, iV .i64 x727)], [(5, some (.box 75 [.ptr 5 0 0, .own 8])), (8, some (.row 1 5 (t741.map (encInt .u8))))], 0⟩ [Enters Try.prog 43, Pv.Fn Try.prog 43 [.ptr 0 0 0, sV b732] [(0, some (.box 75 [.ptr 0 0 0, .own 1])), (1, some (.row 1 5 (t737.map (encInt .u8))))] 2 (fun r o => r = .tup [iV .i64 (b732.size : Int), .im (.sc (.nilIface))] ∧ o = [(0, some (.box 75 [.ptr 0 0 0, .own 2])), (1, none), (2, some (.row 1 5 (t741.map (encInt .u8))))])] (by kernel_rfl) ⟨by exact Try.call43, by exact f_strings_Builder_WriteString_378.ok t737 b732 t741 e742, trivial⟩ ?_
              refine reg hP hn hm [] [1, 8, 63, 64, 65] [5, 8] ⟨[(1, sV a1), (8, .ptr 5 0 0), (63, .im (.row (((a0.drop (Int.toNat ((1 : Int)))).take ((Int.toNat ((a0.length : Int))) - (Int.toNat ((1 : Int))))).map encStr))), (64, iV .i64 (((a0.drop (Int.toNat ((1 : Int)))).take ((Int.toNat ((a0.length : Int))) - (Int.toNat ((1 : Int))))).length : Int)), (65, iV .i64 (IntKind.i64.wrap (x727 + (1 : Int))))], [(5, some (.box 75 [.ptr 5 0 0, .own 8])), (8, some (.row 1 5 (t741.map (encInt .u8))))], 0⟩ [] (by kernel_rfl) trivial ?_
              exact LWp.conv (inv := [(5, 5), (8, 6)]) (vk := []) (e0 := []) (t := ⟨[(1, sV a1), (8, .ptr 5 0 0), (63, .im (.row (((a0.drop (Int.toNat ((1 : Int)))).take ((Int.toNat ((a0.length : Int))) - (Int.toNat ((1 : Int))))).map encStr))), (64, iV .i64 (((a0.drop (Int.toNat ((1 : Int)))).take ((Int.toNat ((a0.length : Int))) - (Int.toNat ((1 : Int))))).length : Int)), (65, iV .i64 (IntKind.i64.wrap (x727 + (1 : Int))))], [(5, some (.box 75 [.ptr 5 0 0, .own 6])), (6, some (.row 1 5 (t741.map (encInt .u8))))], 0⟩) (by kernel_rfl) (ih _ _ _ H)
            · replace H := (ifF c728).symm.trans H
              refine AWp.exit ?_
              obtain rfl := Option.some.inj H
              exact Exists.intro _ (And.intro (fun _ _ h => h.conv (inv := [(5, 9), (6, 10)]) (vk := []) (e0 := []) (t := ⟨[(8, .ptr 9 0 0)], [(9, some (.box 75 [.ptr 9 0 0, .own 10])), (10, some (.row 1 5 (x726.map (encInt .u8))))], 0⟩) (by kernel_rfl)) (And.intro rfl rfl))
          · obtain ⟨x743, rfl⟩ : ∃ z, z = o752 := ⟨_, rfl⟩
            rintro e s ⟨rfl, rfl⟩
            refine AWp.seq ?_
            obtain ⟨t746, e747, H⟩ := bind_of H
            refine reg hP hn hm [(0, .call [(9, 0), (10, 1)] [(0, 9)] [] [] 2 (sV (strOf x743)) [(0, some (.box 75 [.ptr 0 0 0, .top])), (1, none)])] [4] [] ⟨[(4, sV (strOf x743))], [], 0⟩ [Enters Try.prog 44, Pv.Fn Try.prog 44 [.ptr 0 0 0] [(0, some (.box 75 [.ptr 0 0 0, .own 1])), (1, some (.row 1 5 (x743.map (encInt .u8))))] 2 (fun r o => r = sV (strOf x743) ∧ o = [(0, some (.box 75 [.ptr 0 0 0, .top])), (1, none)])] (by kernel_rfl) ⟨by exact Try.call44, by exact f_strings_Builder_String_378.ok x743 t746 e747, trivial⟩ ?_
            refine AWp.conv (inv := []) (vk := []) (e0 := []) (t := ⟨[(4, sV (strOf x743))], [], 0⟩) (by kernel_rfl) ?_
            refine AWp.ret ?_
            obtain rfl := Option.some.inj H
            exact Exists.intro _ (And.intro (fun _ _ h => h) (And.intro (.inl rfl) (And.intro rfl (And.intro (by kernel_rfl) (by kernel_rfl)))))
def f_label_Print.l0 (a0 : List TLabel) (x626 : List ByteArray) (x627 : Int) : Option (List ByteArray) := if (decide (x627 < (a0.length : Int))) = true then ((at? a0 x627) >>= fun b632 => (chk (((b632.f0.size + (⟨#[61]⟩ : ByteArray).size : Nat) : Int) ≤ 9223372036854775807)) >>= fun _ => (f_label_Quote.f b632.f1) >>= fun t641 => (chk ((((b632.f0 ++ (⟨#[61]⟩ : ByteArray)).size + t641.size : Nat) : Int) ≤ 9223372036854775807)) >>= fun _ => (chk ((x626.length + [(b632.f0 ++ (⟨#[61]⟩ : ByteArray)) ++ t641].length) * 16 ≤ 140737488355328)) >>= fun _ => f_label_Print.l0 a0 (x626 ++ [(b632.f0 ++ (⟨#[61]⟩ : ByteArray)) ++ t641]) (IntKind.i64.wrap (x627 + (1 : Int)))) else (some x626)
partial_fixpoint
def f_label_Print.f (a0 : List TLabel) : Option (ByteArray) := (f_label_Print.l0 a0 [] 0) >>= fun x645 => (f_strings_Join.f x645 (⟨#[44]⟩ : ByteArray)) >>= fun t758 => (chk ((((⟨#[123]⟩ : ByteArray).size + t758.size : Nat) : Int) ≤ 9223372036854775807)) >>= fun _ => (chk (((((⟨#[123]⟩ : ByteArray) ++ t758).size + (⟨#[125]⟩ : ByteArray).size : Nat) : Int) ≤ 9223372036854775807)) >>= fun _ => some (((⟨#[123]⟩ : ByteArray) ++ t758) ++ (⟨#[125]⟩ : ByteArray))
theorem f_label_Print.ok (a0 : List TLabel) (r : ByteArray) (H : f_label_Print.f a0 = some r) : Pv.Fn Try.prog 23 [.im (.row (a0.map eLabel))] [] 0 (fun x o => x = sV r ∧ o = []) := by
  unfold f_label_Print.f at H
  refine Fn.bodyK [] Try.func23 rfl rfl (fun Γ hP hn => ?_)
  have hm : Try.prog.follows .mixedOrders = true := by kernel_rfl
  replace hn : Γ.n = 27 := hn
  refine AWp.seq ?_
  refine reg hP hn hm [] [0] [] ⟨[(0, .im (.row (a0.map eLabel)))], [], 0⟩ [] (by kernel_rfl) trivial ?_
  refine AWp.seq ?_
  refine reg hP hn hm [] [0, 3] [] ⟨[(0, .im (.row (a0.map eLabel))), (3, .none0)], [], 0⟩ [] (by kernel_rfl) trivial ?_
  refine AWp.seq ?_
  refine AWp.seq ?_
  refine reg hP hn hm [(1, .any (iV .i64 (a0.length : Int)))] [3, 6, 7, 8] [] ⟨[(3, .none0), (6, .im (.row (a0.map eLabel))), (7, iV .i64 (a0.length : Int)), (8, iV .i64 0)], [], 0⟩ [((a0.map eLabel).length : Int) = (a0.length : Int)] (by kernel_rfl) ⟨by rw [len_map], trivial⟩ ?_
  refine AWp.block ?_
  obtain ⟨o762, e763, H⟩ := bind_of H
  refine AWp.loop (LWp.conv (inv := []) (vk := []) (e0 := [3]) (t := ⟨[(3, .own 3), (6, .im (.row (a0.map eLabel))), (7, iV .i64 (a0.length : Int)), (8, iV .i64 0)], [(3, some (.row 1 9 ([].map encStr)))], 0⟩) (by kernel_rfl) ?_)
  refine LWp.mono (Q := fun e s => (match (generalizing := false) o762 with | x645 => e = .exit 0 ∧ s = ⟨[(3, .own 7)], [(7, some (.row 1 9 (x645.map encStr)))], 0⟩)) (LWp.cv (withBody (fun body hbody => ?_))) ?_
  · refine f_label_Print.l0.partial_correctness a0 (motive := fun x626 x627 o762 => LWp Γ body (fun e s => ∃ t, Cv Γ s t ∧ (match (generalizing := false) o762 with | x645 => e = .exit 0 ∧ t = ⟨[(3, .own 7)], [(7, some (.row 1 9 (x645.map encStr)))], 0⟩)) ⟨[(3, .own 3), (6, .im (.row (a0.map eLabel))), (7, iV .i64 (a0.length : Int)), (8, iV .i64 x627)], [(3, some (.row 1 9 (x626.map encStr)))], 0⟩) ?_ _ _ _ e763
    clear H e763 o762; intro self ih x626 x627 o762 H
    subst hbody
    refine LWp.round ?_
    refine AWp.seq ?_
    refine reg hP hn hm [] [3, 6, 7, 8, 9] [3] ⟨[(3, .own 3), (6, .im (.row (a0.map eLabel))), (7, iV .i64 (a0.length : Int)), (8, iV .i64 x627), (9, bV (decide (x627 < (a0.length : Int))))], [(3, some (.row 1 9 (x626.map encStr)))], 0⟩ [] (by kernel_rfl) trivial ?_
    refine AWp.seq ?_
    refine AWp.cond (decide (x627 < (a0.length : Int))) rfl (fun c628 => ?_) (fun c628 => ?_)
    · replace H := (ifT c628).symm.trans H
      refine AWp.skip ?_
      refine AWp.seq ?_
      refine AWp.block ?_
      refine AWp.seq ?_
      obtain ⟨b632, p633, q634, H⟩ := at_of H
      refine reg hP hn hm [(0, .c (eLabel b632)), (2, .k 4)] [3, 5, 6, 7, 8] [3, 4] ⟨[(3, .own 3), (5, .ptr 4 0 0), (6, .im (.row (a0.map eLabel))), (7, iV .i64 (a0.length : Int)), (8, iV .i64 x627)], [(3, some (.row 1 9 (x626.map encStr))), (4, some (.box 67 (aLabel b632)))], 0⟩ [0 ≤ x627, (a0.map eLabel)[(Int.toNat (x627))]? = some (eLabel b632)] (by kernel_rfl) ⟨by exact p633, by exact el_map eLabel q634, trivial⟩ ?_
      obtain ⟨c640, H⟩ := chk_of H
      obtain ⟨t641, e642, H⟩ := bind_of H
      obtain ⟨c643, H⟩ := chk_of H
      obtain ⟨c644, H⟩ := chk_of H
      refine reg hP hn hm [(6, .call [] [] [] [] 0 (sV t641) []), (8, .app 5 ([(b632.f0 ++ (⟨#[61]⟩ : ByteArray)) ++ t641].map encStr)), (9, .app 6 ((x626 ++ [(b632.f0 ++ (⟨#[61]⟩ : ByteArray)) ++ t641]).map encStr))] [3, 6, 7, 8] [6] ⟨[(3, .own 6), (6, .im (.row (a0.map eLabel))), (7, iV .i64 (a0.length : Int)), (8, iV .i64 x627)], [(6, some (.row 1 9 ((x626 ++ [(b632.f0 ++ (⟨#[61]⟩ : ByteArray)) ++ t641]).map encStr)))], 0⟩ [((b632.f0.size + (⟨#[61]⟩ : ByteArray).size : Nat) : Int) ≤ 9223372036854775807, Enters Try.prog 12, Pv.Fn Try.prog 12 [sV b632.f1] [] 0 (fun r o => r = sV t641 ∧ o = []), (((b632.f0 ++ (⟨#[61]⟩ : ByteArray)).size + t641.size : Nat) : Int) ≤ 9223372036854775807, [(b632.f0 ++ (⟨#[61]⟩ : ByteArray)) ++ t641].map encStr = [[sI ((b632.f0 ++ (⟨#[61]⟩ : ByteArray)) ++ t641)]], (x626 ++ [(b632.f0 ++ (⟨#[61]⟩ : ByteArray)) ++ t641]).map encStr = (x626.map encStr) ++ ([(b632.f0 ++ (⟨#[61]⟩ : ByteArray)) ++ t641].map encStr), ∀ c ∈ ([(b632.f0 ++ (⟨#[61]⟩ : ByteArray)) ++ t641].map encStr), c.length = 1, ∀ c ∈ ([(b632.f0 ++ (⟨#[61]⟩ : ByteArray)) ++ t641].map encStr), leaves (c.map .im) = true, ((x626.map encStr).length + ([(b632.f0 ++ (⟨#[61]⟩ : ByteArray)) ++ t641].map encStr).length) * 16 ≤ 140737488355328] (by kernel_rfl) ⟨by exact c640, by exact Try.call12, by exact f_label_Quote.ok b632.f1 t641 e642, by exact c643, by exact rfl, by simp, by exact all_len _ _ _ (fun _ => rfl), by exact all_leaf _ _ (fun _ => rfl), by simpa using c644, trivial⟩ ?_
      refine reg hP hn hm [] [3, 6, 7, 8] [6] ⟨[(3, .own 6), (6, .im (.row (a0.map eLabel))), (7, iV .i64 (a0.length : Int)), (8, iV .i64 (IntKind.i64.wrap (x627 + (1 : Int))))], [(6, some (.row 1 9 ((x626 ++ [(b632.f0 ++ (⟨#[61]⟩ : ByteArray)) ++ t641]).map encStr)))], 0⟩ [] (by kernel_rfl) trivial ?_
      exact LWp.conv (inv := [(6, 3)]) (vk := []) (e0 := []) (t := ⟨[(3, .own 3), (6, .im (.row (a0.map eLabel))), (7, iV .i64 (a0.length : Int)), (8, iV .i64 (IntKind.i64.wrap (x627 + (1 : Int))))], [(3, some (.row 1 9 ((x626 ++ [(b632.f0 ++ (⟨#[61]⟩ : ByteArray)) ++ t641]).map encStr)))], 0⟩) (by kernel_rfl) (ih _ _ _ H)
    · replace H := (ifF c628).symm.trans H
      refine AWp.exit ?_
      obtain rfl := Option.some.inj H
      exact Exists.intro _ (And.intro (fun _ _ h => h.conv (inv := [(3, 7)]) (vk := []) (e0 := []) (t := ⟨[(3, .own 7)], [(7, some (.row 1 9 (x626.map encStr)))], 0⟩) (by kernel_rfl)) (And.intro rfl rfl))
  · obtain ⟨x645, rfl⟩ : ∃ z, z = o762 := ⟨_, rfl⟩
    rintro e s ⟨rfl, rfl⟩
    refine AWp.seq ?_
    obtain ⟨t758, e759, H⟩ := bind_of H
    obtain ⟨c760, H⟩ := chk_of H
    obtain ⟨c761, H⟩ := chk_of H
    refine reg hP hn hm [(1, .call [] [] [7] [] 0 (sV t758) [])] [2] [] ⟨[(2, sV (((⟨#[123]⟩ : ByteArray) ++ t758) ++ (⟨#[125]⟩ : ByteArray)))], [], 0⟩ [Enters Try.prog 51, Pv.Fn Try.prog 51 [.im (.row (x645.map encStr)), sV (⟨#[44]⟩ : ByteArray)] [] 0 (fun r o => r = sV t758 ∧ o = []), (((⟨#[123]⟩ : ByteArray).size + t758.size : Nat) : Int) ≤ 9223372036854775807, ((((⟨#[123]⟩ : ByteArray) ++ t758).size + (⟨#[125]⟩ : ByteArray).size : Nat) : Int) ≤ 9223372036854775807] (by kernel_rfl) ⟨by exact Try.call51, by exact f_strings_Join.ok x645 (⟨#[44]⟩ : ByteArray) t758 e759, by exact c760, by exact c761, trivial⟩ ?_
    refine AWp.conv (inv := []) (vk := []) (e0 := []) (t := ⟨[(2, sV (((⟨#[123]⟩ : ByteArray) ++ t758) ++ (⟨#[125]⟩ : ByteArray)))], [], 0⟩) (by kernel_rfl) ?_
    refine AWp.ret ?_
    obtain rfl := Option.some.inj H
    exact Exists.intro _ (And.intro (fun _ _ h => h) (And.intro (.inl rfl) (And.intro rfl (And.intro (by kernel_rfl) (by kernel_rfl)))))
def f_label_From.l0 (x780 : ByteArray) (x781 : List ByteArray) : Option (((List TLabel) × Int) ⊕ (List ByteArray)) := if (decide ((x780.size : Int) > (0 : Int))) = true then ((chk (0 ≤ (0 : Int) ∧ (0 : Int) < (x780.size : Int))) >>= fun _ => if (decide ((IntKind.i64.wrap (bt x780 0)) > (IntKind.i64.wrap ((x780.size : Int) - (1 : Int))))) = true then (some (.inl ([], 6))) else ((chk (0 ≤ (1 : Int) ∧ (1 : Int) ≤ (IntKind.i64.wrap ((1 : Int) + (IntKind.i64.wrap (bt x780 0)))) ∧ (IntKind.i64.wrap ((1 : Int) + (IntKind.i64.wrap (bt x780 0)))) ≤ (x780.size : Int))) >>= fun _ => (chk ((x781.length + [x780.extract (Int.toNat ((1 : Int))) (Int.toNat ((IntKind.i64.wrap ((1 : Int) + (IntKind.i64.wrap (bt x780 0))))))].length) * 16 ≤ 140737488355328)) >>= fun _ => (chk (0 ≤ (IntKind.i64.wrap ((1 : Int) + (IntKind.i64.wrap (bt x780 0)))) ∧ (IntKind.i64.wrap ((1 : Int) + (IntKind.i64.wrap (bt x780 0)))) ≤ (x780.size : Int) ∧ (x780.size : Int) ≤ (x780.size : Int))) >>= fun _ => f_label_From.l0  (x780.extract (Int.toNat ((IntKind.i64.wrap ((1 : Int) + (IntKind.i64.wrap (bt x780 0)))))) (Int.toNat ((x780.size : Int)))) (x781 ++ [x780.extract (Int.toNat ((1 : Int))) (Int.toNat ((IntKind.i64.wrap ((1 : Int) + (IntKind.i64.wrap (bt x780 0))))))]))) else (some (.inr x781))
partial_fixpoint
def f_label_From.l1 (x792 : List ByteArray) (x809 : List TLabel) (x810 : Int) : Option (List TLabel) := if (decide (x810 < (x792.length : Int))) = true then ((at? x792 x810) >>= fun b819 => (at? x792 (IntKind.i64.wrap (x810 + (1 : Int)))) >>= fun b822 => (chk ((x809.length + [(⟨b819, b822⟩ : TLabel)].length) * 32 ≤ 140737488355328)) >>= fun _ => f_label_From.l1 x792 (x809 ++ [(⟨b819, b822⟩ : TLabel)]) (IntKind.i64.wrap (x810 + (2 : Int)))) else (some x809)
partial_fixpoint
def f_label_From.f (a0 : ByteArray) : Option ((List TLabel) × Int) := (f_label_From.l0  a0 []) >>= fun oo => match oo with | .inl rr => (some rr) | .inr x792 => (if ((Int.tmod (x792.length : Int) (2 : Int)) == (1 : Int)) = true then (some ([], 6)) else ((f_label_From.l1 x792 [] 0) >>= fun x826 => (f_label_Check.f x826) >>= fun t829 => if (t829 != (0 : Int)) = true then (some ([], 6)) else (some (x826, 0))))
theorem f_label_From.ok (a0 : ByteArray) (r : (List TLabel) × Int) (H : f_label_From.f a0 = some r) : Pv.Fn Try.prog 24 [sV a0] [] 0 (fun x o => x = .tup [.own 0, iV .i64 r.2] ∧ o = [(0, some (.row 2 67 (r.1.map eLabel)))]) := by
  unfold f_label_From.f at H
  refine Fn.bodyK [0] Try.func24 rfl rfl (fun Γ hP hn => ?_)
  have hm : Try.prog.follows .mixedOrders = true := by kernel_rfl
  replace hn : Γ.n = 57 := hn
  refine AWp.seq ?_
  refine reg hP hn hm [] [0] [] ⟨[(0, sV a0)], [], 0⟩ [] (by kernel_rfl) trivial ?_
  refine AWp.seq ?_
  refine reg hP hn hm [] [0, 4] [] ⟨[(0, sV a0), (4, .none0)], [], 0⟩ [] (by kernel_rfl) trivial ?_
  refine AWp.seq ?_
  refine AWp.block ?_
  obtain ⟨o832, e833, H⟩ := bind_of H
  refine AWp.loop (LWp.conv (inv := []) (vk := []) (e0 := [2]) (t := ⟨[(0, sV a0), (4, .own 2)], [(2, some (.row 1 9 ([].map encStr)))], 0⟩) (by kernel_rfl) ?_)
  refine LWp.mono (Q := fun e s => (match (generalizing := false) o832 with | .inl rr => e = .ret ∧ s.floor = 0 ∧ resOf Try.prog Try.f24 s = some (.tup [.own 0, iV .i64 rr.2]) ∧ ([(0, s.obj 0)] : List (Nat × Option MObj)) = [(0, some (.row 2 67 (rr.1.map eLabel)))] | .inr x792 => e = .exit 0 ∧ s = ⟨[(4, .own 5)], [(5, some (.row 1 9 (x792.map encStr)))], 0⟩)) (LWp.cv (withBody (fun body hbody => ?_))) ?_
  · refine f_label_From.l0.partial_correctness  (motive := fun x780 x781 o832 => LWp Γ body (fun e s => ∃ t, Cv Γ s t ∧ (match (generalizing := false) o832 with | .inl rr => e = .ret ∧ t.floor = 0 ∧ resOf Try.prog Try.f24 t = some (.tup [.own 0, iV .i64 rr.2]) ∧ ([(0, t.obj 0)] : List (Nat × Option MObj)) = [(0, some (.row 2 67 (rr.1.map eLabel)))] | .inr x792 => e = .exit 0 ∧ t = ⟨[(4, .own 5)], [(5, some (.row 1 9 (x792.map encStr)))], 0⟩)) ⟨[(0, sV x780), (4, .own 2)], [(2, some (.row 1 9 (x781.map encStr)))], 0⟩) ?_ _ _ _ e833
    clear H e833 o832; intro self ih x780 x781 o832 H
    subst hbody
    refine LWp.round ?_
    refine AWp.seq ?_
    refine AWp.seq ?_
    refine reg hP hn hm [] [0, 4, 10] [2] ⟨[(0, sV x780), (4, .own 2), (10, bV (decide ((x780.size : Int) > (0 : Int))))], [(2, some (.row 1 9 (x781.map encStr)))], 0⟩ [] (by kernel_rfl) trivial ?_
    refine AWp.cond (decide ((x780.size : Int) > (0 : Int))) rfl (fun c782 => ?_) (fun c782 => ?_)
    · replace H := (ifT c782).symm.trans H
      refine AWp.skip ?_
      refine AWp.block ?_
      refine AWp.seq ?_
      obtain ⟨c784, H⟩ := chk_of H
      refine reg hP hn hm [] [0, 4, 5] [2] ⟨[(0, sV x780), (4, .own 2), (5, iV .i64 (IntKind.i64.wrap (bt x780 0)))], [(2, some (.row 1 9 (x781.map encStr)))], 0⟩ [0 ≤ (0 : Int), (0 : Int) < (x780.size : Int)] (by kernel_rfl) ⟨by exact c784.1, by exact c784.2, trivial⟩ ?_
      refine AWp.seq ?_
      refine AWp.seq ?_
      refine reg hP hn hm [] [0, 4, 5, 18] [2] ⟨[(0, sV x780), (4, .own 2), (5, iV .i64 (IntKind.i64.wrap (bt x780 0))), (18, bV (decide ((IntKind.i64.wrap (bt x780 0)) > (IntKind.i64.wrap ((x780.size : Int) - (1 : Int))))))], [(2, some (.row 1 9 (x781.map encStr)))], 0⟩ [] (by kernel_rfl) trivial ?_
      refine AWp.cond (decide ((IntKind.i64.wrap (bt x780 0)) > (IntKind.i64.wrap ((x780.size : Int) - (1 : Int))))) rfl (fun c785 => ?_) (fun c785 => ?_)
      · replace H := (ifT c785).symm.trans H
        refine AWp.seq ?_
        refine reg hP hn hm [] [2, 3] [] ⟨[(2, .none0), (3, iV .i64 6)], [], 0⟩ [] (by kernel_rfl) trivial ?_
        refine AWp.conv (inv := []) (vk := []) (e0 := [0]) (t := ⟨[(2, .own 0), (3, iV .i64 6)], [(0, some (.row 2 67 ([].map eLabel)))], 0⟩) (by kernel_rfl) ?_
        refine AWp.ret ?_
        obtain rfl := Option.some.inj H
        exact Exists.intro _ (And.intro (fun _ _ h => h) (And.intro rfl (And.intro rfl (And.intro (by kernel_rfl) (by kernel_rfl)))))
      · replace H := (ifF c785).symm.trans H
        refine AWp.skip ?_
        refine AWp.seq ?_
        obtain ⟨c788, H⟩ := chk_of H
        obtain ⟨c789, H⟩ := chk_of H
        refine reg hP hn hm [(5, .app 3 ([x780.extract (Int.toNat ((1 : Int))) (Int.toNat ((IntKind.i64.wrap ((1 : Int) + (IntKind.i64.wrap (bt x780 0))))))].map encStr)), (6, .app 4 ((x781 ++ [x780.extract (Int.toNat ((1 : Int))) (Int.toNat ((IntKind.i64.wrap ((1 : Int) + (IntKind.i64.wrap (bt x780 0))))))]).map encStr))] [0, 4, 5] [4] ⟨[(0, sV x780), (4, .own 4), (5, iV .i64 (IntKind.i64.wrap (bt x780 0)))], [(4, some (.row 1 9 ((x781 ++ [x780.extract (Int.toNat ((1 : Int))) (Int.toNat ((IntKind.i64.wrap ((1 : Int) + (IntKind.i64.wrap (bt x780 0))))))]).map encStr)))], 0⟩ [0 ≤ (1 : Int), (1 : Int) ≤ (IntKind.i64.wrap ((1 : Int) + (IntKind.i64.wrap (bt x780 0)))), (IntKind.i64.wrap ((1 : Int) + (IntKind.i64.wrap (bt x780 0)))) ≤ (x780.size : Int), [x780.extract (Int.toNat ((1 : Int))) (Int.toNat ((IntKind.i64.wrap ((1 : Int) + (IntKind.i64.wrap (bt x780 0))))))].map encStr = [[sI (x780.extract (Int.toNat ((1 : Int))) (Int.toNat ((IntKind.i64.wrap ((1 : Int) + (IntKind.i64.wrap (bt x780 0)))))))]], (x781 ++ [x780.extract (Int.toNat ((1 : Int))) (Int.toNat ((IntKind.i64.wrap ((1 : Int) + (IntKind.i64.wrap (bt x780 0))))))]).map encStr = (x781.map encStr) ++ ([x780.extract (Int.toNat ((1 : Int))) (Int.toNat ((IntKind.i64.wrap ((1 : Int) + (IntKind.i64.wrap (bt x780 0))))))].map encStr), ∀ c ∈ ([x780.extract (Int.toNat ((1 : Int))) (Int.toNat ((IntKind.i64.wrap ((1 : Int) + (IntKind.i64.wrap (bt x780 0))))))].map encStr), c.length = 1, ∀ c ∈ ([x780.extract (Int.toNat ((1 : Int))) (Int.toNat ((IntKind.i64.wrap ((1 : Int) + (IntKind.i64.wrap (bt x780 0))))))].map encStr), leaves (c.map .im) = true, ((x781.map encStr).length + ([x780.extract (Int.toNat ((1 : Int))) (Int.toNat ((IntKind.i64.wrap ((1 : Int) + (IntKind.i64.wrap (bt x780 0))))))].map encStr).length) * 16 ≤ 140737488355328] (by kernel_rfl) ⟨by exact c788.1, by exact c788.2.1, by exact c788.2.2, by exact rfl, by simp, by exact all_len _ _ _ (fun _ => rfl), by exact all_leaf _ _ (fun _ => rfl), by simpa using c789, trivial⟩ ?_
        obtain ⟨c791, H⟩ := chk_of H
        refine reg hP hn hm [] [0, 4] [4] ⟨[(0, sV (x780.extract (Int.toNat ((IntKind.i64.wrap ((1 : Int) + (IntKind.i64.wrap (bt x780 0)))))) (Int.toNat ((x780.size : Int))))), (4, .own 4)], [(4, some (.row 1 9 ((x781 ++ [x780.extract (Int.toNat ((1 : Int))) (Int.toNat ((IntKind.i64.wrap ((1 : Int) + (IntKind.i64.wrap (bt x780 0))))))]).map encStr)))], 0⟩ [0 ≤ (IntKind.i64.wrap ((1 : Int) + (IntKind.i64.wrap (bt x780 0)))), (IntKind.i64.wrap ((1 : Int) + (IntKind.i64.wrap (bt x780 0)))) ≤ (x780.size : Int), (x780.size : Int) ≤ (x780.size : Int)] (by kernel_rfl) ⟨by exact c791.1, by exact c791.2.1, by exact c791.2.2, trivial⟩ ?_
        exact LWp.conv (inv := [(4, 2)]) (vk := []) (e0 := []) (t := ⟨[(0, sV (x780.extract (Int.toNat ((IntKind.i64.wrap ((1 : Int) + (IntKind.i64.wrap (bt x780 0)))))) (Int.toNat ((x780.size : Int))))), (4, .own 2)], [(2, some (.row 1 9 ((x781 ++ [x780.extract (Int.toNat ((1 : Int))) (Int.toNat ((IntKind.i64.wrap ((1 : Int) + (IntKind.i64.wrap (bt x780 0))))))]).map encStr)))], 0⟩) (by kernel_rfl) (ih _ _ _ H)
    · replace H := (ifF c782).symm.trans H
      refine AWp.exit ?_
      obtain rfl := Option.some.inj H
      exact Exists.intro _ (And.intro (fun _ _ h => h.conv (inv := [(2, 5)]) (vk := []) (e0 := []) (t := ⟨[(4, .own 5)], [(5, some (.row 1 9 (x781.map encStr)))], 0⟩) (by kernel_rfl)) (And.intro rfl rfl))
  · rcases o832 with rr | x792
    · skip
      rintro e s ⟨rfl, hfl, hres⟩
      obtain rfl := Option.some.inj H
      exact Exists.intro _ (And.intro (fun _ _ h => h) (And.intro (.inl rfl) (And.intro hfl hres)))
    · skip
      rintro e s ⟨rfl, rfl⟩
      refine AWp.seq ?_
      refine AWp.seq ?_
      refine reg hP hn hm [(1, .any (iV .i64 (x792.length : Int)))] [4, 33] [5] ⟨[(4, .own 5), (33, bV ((Int.tmod (x792.length : Int) (2 : Int)) == (1 : Int)))], [(5, some (.row 1 9 (x792.map encStr)))], 0⟩ [((x792.map encStr).length : Int) = (x792.length : Int), (2 : Int) ≠ 0] (by kernel_rfl) ⟨by rw [len_map], by decide, trivial⟩ ?_
      refine AWp.cond ((Int.tmod (x792.length : Int) (2 : Int)) == (1 : Int)) rfl (fun c793 => ?_) (fun c793 => ?_)
      · replace H := (ifT c793).symm.trans H
        refine AWp.seq ?_
        refine reg hP hn hm [] [2, 3] [] ⟨[(2, .none0), (3, iV .i64 6)], [], 0⟩ [] (by kernel_rfl) trivial ?_
        refine AWp.conv (inv := []) (vk := []) (e0 := [0]) (t := ⟨[(2, .own 0), (3, iV .i64 6)], [(0, some (.row 2 67 ([].map eLabel)))], 0⟩) (by kernel_rfl) ?_
        refine AWp.ret ?_
        obtain rfl := Option.some.inj H
        exact Exists.intro _ (And.intro (fun _ _ h => h) (And.intro (.inl rfl) (And.intro rfl (And.intro (by kernel_rfl) (by kernel_rfl)))))
      · replace H := (ifF c793).symm.trans H
        refine AWp.skip ?_
        refine AWp.seq ?_
        refine reg hP hn hm [] [4, 6] [5] ⟨[(4, .own 5), (6, .none0)], [(5, some (.row 1 9 (x792.map encStr)))], 0⟩ [] (by kernel_rfl) trivial ?_
        refine AWp.seq ?_
        refine AWp.seq ?_
        refine reg hP hn hm [] [4, 6, 7] [5] ⟨[(4, .own 5), (6, .none0), (7, iV .i64 0)], [(5, some (.row 1 9 (x792.map encStr)))], 0⟩ [] (by kernel_rfl) trivial ?_
        refine AWp.block ?_
        obtain ⟨o834, e835, H⟩ := bind_of H
        refine AWp.loop (LWp.conv (inv := [(5, 8)]) (vk := []) (e0 := [9]) (t := ⟨[(4, .own 8), (6, .own 9), (7, iV .i64 0)], [(8, some (.row 1 9 (x792.map encStr))), (9, some (.row 2 67 ([].map eLabel)))], 0⟩) (by kernel_rfl) ?_)
        refine LWp.mono (Q := fun e s => (match (generalizing := false) o834 with | x826 => e = .exit 2 ∧ s = ⟨[(6, .own 12)], [(12, some (.row 2 67 (x826.map eLabel)))], 0⟩)) (LWp.cv (withBody (fun body hbody => ?_))) ?_
        · refine f_label_From.l1.partial_correctness x792 (motive := fun x809 x810 o834 => LWp Γ body (fun e s => ∃ t, Cv Γ s t ∧ (match (generalizing := false) o834 with | x826 => e = .exit 2 ∧ t = ⟨[(6, .own 12)], [(12, some (.row 2 67 (x826.map eLabel)))], 0⟩)) ⟨[(4, .own 8), (6, .own 9), (7, iV .i64 x810)], [(8, some (.row 1 9 (x792.map encStr))), (9, some (.row 2 67 (x809.map eLabel)))], 0⟩) ?_ _ _ _ e835
          clear H e835 o834; intro self ih x809 x810 o834 H
          subst hbody
          refine LWp.round ?_
          refine AWp.seq ?_
          refine AWp.seq ?_
          refine reg hP hn hm [(2, .any (iV .i64 (x792.length : Int)))] [4, 6, 7, 37] [8, 9] ⟨[(4, .own 8), (6, .own 9), (7, iV .i64 x810), (37, bV (decide (x810 < (x792.length : Int))))], [(8, some (.row 1 9 (x792.map encStr))), (9, some (.row 2 67 (x809.map eLabel)))], 0⟩ [((x792.map encStr).length : Int) = (x792.length : Int)] (by kernel_rfl) ⟨by rw [len_map], trivial⟩ ?_
          refine AWp.cond (decide (x810 < (x792.length : Int))) rfl (fun c811 => ?_) (fun c811 => ?_)
          · replace H := (ifT c811).symm.trans H
            refine AWp.skip ?_
            refine AWp.seq ?_
            refine AWp.block ?_
            obtain ⟨b819, p820, q821, H⟩ := at_of H
            obtain ⟨b822, p823, q824, H⟩ := at_of H
            obtain ⟨c825, H⟩ := chk_of H
            refine reg hP hn hm [(4, .c (encStr b819)), (9, .c (encStr b822)), (11, .app 10 ([(⟨b819, b822⟩ : TLabel)].map eLabel)), (12, .app 11 ((x809 ++ [(⟨b819, b822⟩ : TLabel)]).map eLabel))] [4, 6, 7] [8, 11] ⟨[(4, .own 8), (6, .own 11), (7, iV .i64 x810)], [(8, some (.row 1 9 (x792.map encStr))), (11, some (.row 2 67 ((x809 ++ [(⟨b819, b822⟩ : TLabel)]).map eLabel)))], 0⟩ [0 ≤ x810, x810 < (((x792.map encStr).length : Nat) : Int), (x792.map encStr)[(Int.toNat (x810))]? = some (encStr b819), 0 ≤ (IntKind.i64.wrap (x810 + (1 : Int))), IntKind.i64.wrap (x810 + (1 : Int)) < (((x792.map encStr).length : Nat) : Int), (x792.map encStr)[(Int.toNat (IntKind.i64.wrap (x810 + (1 : Int))))]? = some (encStr b822), [(⟨b819, b822⟩ : TLabel)].map eLabel = [[sI b819, sI b822]], (x809 ++ [(⟨b819, b822⟩ : TLabel)]).map eLabel = (x809.map eLabel) ++ ([(⟨b819, b822⟩ : TLabel)].map eLabel), ∀ c ∈ ([(⟨b819, b822⟩ : TLabel)].map eLabel), c.length = 2, ∀ c ∈ ([(⟨b819, b822⟩ : TLabel)].map eLabel), leaves (c.map .im) = true, ((x809.map eLabel).length + ([(⟨b819, b822⟩ : TLabel)].map eLabel).length) * 32 ≤ 140737488355328] (by kernel_rfl) ⟨by exact p820, by exact el_lt encStr p820 q821, by exact el_map encStr q821, by exact p823, by exact el_lt encStr p823 q824, by exact el_map encStr q824, by exact rfl, by simp, by exact all_len _ _ _ (fun _ => rfl), by exact all_leaf _ _ (fun _ => rfl), by simpa using c825, trivial⟩ ?_
            refine reg hP hn hm [] [4, 6, 7] [8, 11] ⟨[(4, .own 8), (6, .own 11), (7, iV .i64 (IntKind.i64.wrap (x810 + (2 : Int))))], [(8, some (.row 1 9 (x792.map encStr))), (11, some (.row 2 67 ((x809 ++ [(⟨b819, b822⟩ : TLabel)]).map eLabel)))], 0⟩ [] (by kernel_rfl) trivial ?_
            exact LWp.conv (inv := [(8, 8), (11, 9)]) (vk := []) (e0 := []) (t := ⟨[(4, .own 8), (6, .own 9), (7, iV .i64 (IntKind.i64.wrap (x810 + (2 : Int))))], [(8, some (.row 1 9 (x792.map encStr))), (9, some (.row 2 67 ((x809 ++ [(⟨b819, b822⟩ : TLabel)]).map eLabel)))], 0⟩) (by kernel_rfl) (ih _ _ _ H)
          · replace H := (ifF c811).symm.trans H
            refine AWp.exit ?_
            obtain rfl := Option.some.inj H
            exact Exists.intro _ (And.intro (fun _ _ h => h.conv (inv := [(9, 12)]) (vk := []) (e0 := []) (t := ⟨[(6, .own 12)], [(12, some (.row 2 67 (x809.map eLabel)))], 0⟩) (by kernel_rfl)) (And.intro rfl rfl))
        · obtain ⟨x826, rfl⟩ : ∃ z, z = o834 := ⟨_, rfl⟩
          rintro e s ⟨rfl, rfl⟩
          refine AWp.seq ?_
          refine AWp.seq ?_
          obtain ⟨t829, e830, H⟩ := bind_of H
          refine reg hP hn hm [(1, .call [] [] [12] [] 0 (iV .i64 t829) [])] [6, 55] [12] ⟨[(6, .own 12), (55, bV (t829 != (0 : Int)))], [(12, some (.row 2 67 (x826.map eLabel)))], 0⟩ [Enters Try.prog 35, Pv.Fn Try.prog 35 [.im (.row (x826.map eLabel))] [] 0 (fun r o => r = iV .i64 t829 ∧ o = [])] (by kernel_rfl) ⟨by exact Try.call35, by exact f_label_Check.ok x826 t829 e830, trivial⟩ ?_
          refine AWp.cond (t829 != (0 : Int)) rfl (fun c831 => ?_) (fun c831 => ?_)
          · replace H := (ifT c831).symm.trans H
            refine AWp.seq ?_
            refine reg hP hn hm [] [2, 3] [] ⟨[(2, .none0), (3, iV .i64 6)], [], 0⟩ [] (by kernel_rfl) trivial ?_
            refine AWp.conv (inv := []) (vk := []) (e0 := [0]) (t := ⟨[(2, .own 0), (3, iV .i64 6)], [(0, some (.row 2 67 ([].map eLabel)))], 0⟩) (by kernel_rfl) ?_
            refine AWp.ret ?_
            obtain rfl := Option.some.inj H
            exact Exists.intro _ (And.intro (fun _ _ h => h) (And.intro (.inl rfl) (And.intro rfl (And.intro (by kernel_rfl) (by kernel_rfl)))))
          · replace H := (ifF c831).symm.trans H
            refine AWp.skip ?_
            refine AWp.seq ?_
            refine reg hP hn hm [] [2, 3] [12] ⟨[(2, .own 12), (3, iV .i64 0)], [(12, some (.row 2 67 (x826.map eLabel)))], 0⟩ [] (by kernel_rfl) trivial ?_
            refine AWp.conv (inv := [(12, 0)]) (vk := []) (e0 := []) (t := ⟨[(2, .own 0), (3, iV .i64 0)], [(0, some (.row 2 67 (x826.map eLabel)))], 0⟩) (by kernel_rfl) ?_
            refine AWp.ret ?_
            obtain rfl := Option.some.inj H
            exact Exists.intro _ (And.intro (fun _ _ h => h) (And.intro (.inl rfl) (And.intro rfl (And.intro (by kernel_rfl) (by kernel_rfl)))))
def f_pluvialref10_Key.l0 (a0 : List TLabel) (x859 : ByteArray) (x860 : Int) : Option (ByteArray) := if (decide (x860 < (a0.length : Int))) = true then ((at? a0 x860) >>= fun b869 => (chk (((x859.size + (strOf [IntKind.u8.wrap ((b869.f0.size : Int))]).size : Nat) : Int) ≤ 9223372036854775807)) >>= fun _ => (chk ((((x859 ++ (strOf [IntKind.u8.wrap ((b869.f0.size : Int))])).size + b869.f0.size : Nat) : Int) ≤ 9223372036854775807)) >>= fun _ => (chk (((((x859 ++ (strOf [IntKind.u8.wrap ((b869.f0.size : Int))])) ++ b869.f0).size + (strOf [IntKind.u8.wrap ((b869.f1.size : Int))]).size : Nat) : Int) ≤ 9223372036854775807)) >>= fun _ => (chk ((((((x859 ++ (strOf [IntKind.u8.wrap ((b869.f0.size : Int))])) ++ b869.f0) ++ (strOf [IntKind.u8.wrap ((b869.f1.size : Int))])).size + b869.f1.size : Nat) : Int) ≤ 9223372036854775807)) >>= fun _ => f_pluvialref10_Key.l0 a0 ((((x859 ++ (strOf [IntKind.u8.wrap ((b869.f0.size : Int))])) ++ b869.f0) ++ (strOf [IntKind.u8.wrap ((b869.f1.size : Int))])) ++ b869.f1) (IntKind.i64.wrap (x860 + (1 : Int)))) else (some x859)
partial_fixpoint
def f_pluvialref10_Key.f (a0 : List TLabel) : Option (ByteArray) := (f_pluvialref10_Key.l0 a0 (⟨#[]⟩ : ByteArray) 0) >>= fun x876 => some x876
theorem f_pluvialref10_Key.ok (a0 : List TLabel) (r : ByteArray) (H : f_pluvialref10_Key.f a0 = some r) : Pv.Fn Try.prog 26 [.im (.row (a0.map eLabel))] [] 0 (fun x o => x = sV r ∧ o = []) := by
  unfold f_pluvialref10_Key.f at H
  refine Fn.bodyK [] Try.func26 rfl rfl (fun Γ hP hn => ?_)
  have hm : Try.prog.follows .mixedOrders = true := by kernel_rfl
  replace hn : Γ.n = 45 := hn
  refine AWp.seq ?_
  refine reg hP hn hm [] [0] [] ⟨[(0, .im (.row (a0.map eLabel)))], [], 0⟩ [] (by kernel_rfl) trivial ?_
  refine AWp.seq ?_
  refine reg hP hn hm [] [0, 3] [] ⟨[(0, .im (.row (a0.map eLabel))), (3, sV (⟨#[]⟩ : ByteArray))], [], 0⟩ [] (by kernel_rfl) trivial ?_
  refine AWp.seq ?_
  refine AWp.seq ?_
  refine reg hP hn hm [] [0, 3, 4] [] ⟨[(0, .im (.row (a0.map eLabel))), (3, sV (⟨#[]⟩ : ByteArray)), (4, iV .i64 0)], [], 0⟩ [] (by kernel_rfl) trivial ?_
  refine AWp.block ?_
  obtain ⟨o877, e878, H⟩ := bind_of H
  refine AWp.loop (LWp.conv (inv := []) (vk := []) (e0 := []) (t := ⟨[(0, .im (.row (a0.map eLabel))), (3, sV (⟨#[]⟩ : ByteArray)), (4, iV .i64 0)], [], 0⟩) (by kernel_rfl) ?_)
  refine LWp.mono (Q := fun e s => (match (generalizing := false) o877 with | x876 => e = .exit 0 ∧ s = ⟨[(3, sV x876)], [], 0⟩)) (LWp.cv (withBody (fun body hbody => ?_))) ?_
  · refine f_pluvialref10_Key.l0.partial_correctness a0 (motive := fun x859 x860 o877 => LWp Γ body (fun e s => ∃ t, Cv Γ s t ∧ (match (generalizing := false) o877 with | x876 => e = .exit 0 ∧ t = ⟨[(3, sV x876)], [], 0⟩)) ⟨[(0, .im (.row (a0.map eLabel))), (3, sV x859), (4, iV .i64 x860)], [], 0⟩) ?_ _ _ _ e878
    clear H e878 o877; intro self ih x859 x860 o877 H
    subst hbody
    refine LWp.round ?_
    refine AWp.seq ?_
    refine AWp.seq ?_
    refine reg hP hn hm [(2, .any (iV .i64 (a0.length : Int)))] [0, 3, 4, 8] [] ⟨[(0, .im (.row (a0.map eLabel))), (3, sV x859), (4, iV .i64 x860), (8, bV (decide (x860 < (a0.length : Int))))], [], 0⟩ [((a0.map eLabel).length : Int) = (a0.length : Int)] (by kernel_rfl) ⟨by rw [len_map], trivial⟩ ?_
    refine AWp.cond (decide (x860 < (a0.length : Int))) rfl (fun c861 => ?_) (fun c861 => ?_)
    · replace H := (ifT c861).symm.trans H
      refine AWp.skip ?_
      refine AWp.seq ?_
      refine AWp.block ?_
      obtain ⟨b869, p870, q871, H⟩ := at_of H
      obtain ⟨c872, H⟩ := chk_of H
      obtain ⟨c873, H⟩ := chk_of H
      obtain ⟨c874, H⟩ := chk_of H
      obtain ⟨c875, H⟩ := chk_of H
      refine reg hP hn hm [(3, .c (eLabel b869)), (8, .app 2 ([IntKind.u8.wrap ((b869.f0.size : Int))].map (encInt .u8))), (9, .more (xStr [IntKind.u8.wrap ((b869.f0.size : Int))])), (13, .c (eLabel b869)), (19, .c (eLabel b869)), (24, .app 3 ([IntKind.u8.wrap ((b869.f1.size : Int))].map (encInt .u8))), (25, .more (xStr [IntKind.u8.wrap ((b869.f1.size : Int))])), (29, .c (eLabel b869))] [0, 3, 4] [] ⟨[(0, .im (.row (a0.map eLabel))), (3, sV ((((x859 ++ (strOf [IntKind.u8.wrap ((b869.f0.size : Int))])) ++ b869.f0) ++ (strOf [IntKind.u8.wrap ((b869.f1.size : Int))])) ++ b869.f1)), (4, iV .i64 x860)], [], 0⟩ [0 ≤ x860, (a0.map eLabel)[(Int.toNat (x860))]? = some (eLabel b869), [IntKind.u8.wrap ((b869.f0.size : Int))].map (encInt .u8) = [[iI .u8 (IntKind.u8.wrap ((b869.f0.size : Int)))]], [IntKind.u8.wrap ((b869.f0.size : Int))].map (encInt .u8) = [IntKind.u8.wrap ((b869.f0.size : Int))].map (encInt .u8), ((x859.size + (strOf [IntKind.u8.wrap ((b869.f0.size : Int))]).size : Nat) : Int) ≤ 9223372036854775807, 0 ≤ x860, (a0.map eLabel)[(Int.toNat (x860))]? = some (eLabel b869), (((x859 ++ (strOf [IntKind.u8.wrap ((b869.f0.size : Int))])).size + b869.f0.size : Nat) : Int) ≤ 9223372036854775807, 0 ≤ x860, (a0.map eLabel)[(Int.toNat (x860))]? = some (eLabel b869), [IntKind.u8.wrap ((b869.f1.size : Int))].map (encInt .u8) = [[iI .u8 (IntKind.u8.wrap ((b869.f1.size : Int)))]], [IntKind.u8.wrap ((b869.f1.size : Int))].map (encInt .u8) = [IntKind.u8.wrap ((b869.f1.size : Int))].map (encInt .u8), ((((x859 ++ (strOf [IntKind.u8.wrap ((b869.f0.size : Int))])) ++ b869.f0).size + (strOf [IntKind.u8.wrap ((b869.f1.size : Int))]).size : Nat) : Int) ≤ 9223372036854775807, 0 ≤ x860, (a0.map eLabel)[(Int.toNat (x860))]? = some (eLabel b869), (((((x859 ++ (strOf [IntKind.u8.wrap ((b869.f0.size : Int))])) ++ b869.f0) ++ (strOf [IntKind.u8.wrap ((b869.f1.size : Int))])).size + b869.f1.size : Nat) : Int) ≤ 9223372036854775807] (by kernel_rfl) ⟨by exact p870, by exact el_map eLabel q871, by exact rfl, by exact rfl, by exact c872, by exact p870, by exact el_map eLabel q871, by exact c873, by exact p870, by exact el_map eLabel q871, by exact rfl, by exact rfl, by exact c874, by exact p870, by exact el_map eLabel q871, by exact c875, trivial⟩ ?_
      refine reg hP hn hm [] [0, 3, 4] [] ⟨[(0, .im (.row (a0.map eLabel))), (3, sV ((((x859 ++ (strOf [IntKind.u8.wrap ((b869.f0.size : Int))])) ++ b869.f0) ++ (strOf [IntKind.u8.wrap ((b869.f1.size : Int))])) ++ b869.f1)), (4, iV .i64 (IntKind.i64.wrap (x860 + (1 : Int))))], [], 0⟩ [] (by kernel_rfl) trivial ?_
      exact LWp.conv (inv := []) (vk := []) (e0 := []) (t := ⟨[(0, .im (.row (a0.map eLabel))), (3, sV ((((x859 ++ (strOf [IntKind.u8.wrap ((b869.f0.size : Int))])) ++ b869.f0) ++ (strOf [IntKind.u8.wrap ((b869.f1.size : Int))])) ++ b869.f1)), (4, iV .i64 (IntKind.i64.wrap (x860 + (1 : Int))))], [], 0⟩) (by kernel_rfl) (ih _ _ _ H)
    · replace H := (ifF c861).symm.trans H
      refine AWp.exit ?_
      obtain rfl := Option.some.inj H
      exact Exists.intro _ (And.intro (fun _ _ h => h.conv (inv := []) (vk := []) (e0 := []) (t := ⟨[(3, sV x859)], [], 0⟩) (by kernel_rfl)) (And.intro rfl rfl))
  · obtain ⟨x876, rfl⟩ : ∃ z, z = o877 := ⟨_, rfl⟩
    rintro e s ⟨rfl, rfl⟩
    refine AWp.seq ?_
    refine reg hP hn hm [] [2] [] ⟨[(2, sV x876)], [], 0⟩ [] (by kernel_rfl) trivial ?_
    refine AWp.conv (inv := []) (vk := []) (e0 := []) (t := ⟨[(2, sV x876)], [], 0⟩) (by kernel_rfl) ?_
    refine AWp.ret ?_
    obtain rfl := Option.some.inj H
    exact Exists.intro _ (And.intro (fun _ _ h => h) (And.intro (.inl rfl) (And.intro rfl (And.intro (by kernel_rfl) (by kernel_rfl)))))
def f_pluvialref10_Quote.l0 (a0 : ByteArray) (x906 : ByteArray) (x907 : Int) : Option (ByteArray) := if (decide (x907 < (a0.size : Int))) = true then ((((chk (0 ≤ x907 ∧ x907 < (a0.size : Int))) >>= fun _ => if ((bt a0 x907) == (10 : Int)) = true then ((chk (((x906.size + (⟨#[92, 110]⟩ : ByteArray).size : Nat) : Int) ≤ 9223372036854775807)) >>= fun _ => some (x906 ++ (⟨#[92, 110]⟩ : ByteArray))) else (((if ((bt a0 x907) == (34 : Int)) = true then (some true) else (some ((bt a0 x907) == (92 : Int)))) : Option (Bool)) >>= fun x916 => ((if x916 = true then ((chk (((x906.size + (⟨#[92]⟩ : ByteArray).size : Nat) : Int) ≤ 9223372036854775807)) >>= fun _ => some (x906 ++ (⟨#[92]⟩ : ByteArray))) else (some x906)) : Option (ByteArray)) >>= fun x920 => (chk (0 ≤ x907 ∧ x907 ≤ (IntKind.i64.wrap (x907 + (1 : Int))) ∧ (IntKind.i64.wrap (x907 + (1 : Int))) ≤ (a0.size : Int))) >>= fun _ => (chk (((x920.size + (a0.extract (Int.toNat (x907)) (Int.toNat ((IntKind.i64.wrap (x907 + (1 : Int)))))).size : Nat) : Int) ≤ 9223372036854775807)) >>= fun _ => some (x920 ++ (a0.extract (Int.toNat (x907)) (Int.toNat ((IntKind.i64.wrap (x907 + (1 : Int))))))))) : Option (ByteArray)) >>= fun x925 => f_pluvialref10_Quote.l0 a0 x925 (IntKind.i64.wrap (x907 + (1 : Int)))) else (some x906)
partial_fixpoint
def f_pluvialref10_Quote.f (a0 : ByteArray) : Option (ByteArray) := (f_pluvialref10_Quote.l0 a0 (⟨#[34]⟩ : ByteArray) 0) >>= fun x926 => (chk (((x926.size + (⟨#[34]⟩ : ByteArray).size : Nat) : Int) ≤ 9223372036854775807)) >>= fun _ => some (x926 ++ (⟨#[34]⟩ : ByteArray))
theorem f_pluvialref10_Quote.ok (a0 : ByteArray) (r : ByteArray) (H : f_pluvialref10_Quote.f a0 = some r) : Pv.Fn Try.prog 14 [sV a0] [] 0 (fun x o => x = sV r ∧ o = []) := by
  unfold f_pluvialref10_Quote.f at H
  refine Fn.bodyK [] Try.func14 rfl rfl (fun Γ hP hn => ?_)
  have hm : Try.prog.follows .mixedOrders = true := by kernel_rfl
  replace hn : Γ.n = 38 := hn
  refine AWp.seq ?_
  refine reg hP hn hm [] [0] [] ⟨[(0, sV a0)], [], 0⟩ [] (by kernel_rfl) trivial ?_
  refine AWp.seq ?_
  refine reg hP hn hm [] [0, 3] [] ⟨[(0, sV a0), (3, sV (⟨#[34]⟩ : ByteArray))], [], 0⟩ [] (by kernel_rfl) trivial ?_
  refine AWp.seq ?_
  refine AWp.seq ?_
  refine reg hP hn hm [] [0, 3, 4] [] ⟨[(0, sV a0), (3, sV (⟨#[34]⟩ : ByteArray)), (4, iV .i64 0)], [], 0⟩ [] (by kernel_rfl) trivial ?_
  refine AWp.block ?_
  obtain ⟨o929, e930, H⟩ := bind_of H
  refine AWp.loop (LWp.conv (inv := []) (vk := []) (e0 := []) (t := ⟨[(0, sV a0), (3, sV (⟨#[34]⟩ : ByteArray)), (4, iV .i64 0)], [], 0⟩) (by kernel_rfl) ?_)
  refine LWp.mono (Q := fun e s => (match (generalizing := false) o929 with | x926 => e = .exit 0 ∧ s = ⟨[(3, sV x926)], [], 0⟩)) (LWp.cv (withBody (fun body hbody => ?_))) ?_
  · refine f_pluvialref10_Quote.l0.partial_correctness a0 (motive := fun x906 x907 o929 => LWp Γ body (fun e s => ∃ t, Cv Γ s t ∧ (match (generalizing := false) o929 with | x926 => e = .exit 0 ∧ t = ⟨[(3, sV x926)], [], 0⟩)) ⟨[(0, sV a0), (3, sV x906), (4, iV .i64 x907)], [], 0⟩) ?_ _ _ _ e930
    clear H e930 o929; intro self ih x906 x907 o929 H
    subst hbody
    refine LWp.round ?_
    refine AWp.seq ?_
    refine AWp.seq ?_
    refine reg hP hn hm [] [0, 3, 4, 8] [] ⟨[(0, sV a0), (3, sV x906), (4, iV .i64 x907), (8, bV (decide (x907 < (a0.size : Int))))], [], 0⟩ [] (by kernel_rfl) trivial ?_
    refine AWp.cond (decide (x907 < (a0.size : Int))) rfl (fun c908 => ?_) (fun c908 => ?_)
    · replace H := (ifT c908).symm.trans H
      refine AWp.skip ?_
      refine AWp.seq ?_
      obtain ⟨o931, e932, H⟩ := bind_of H
      refine AWp.mono (Q := fun e s => (match (generalizing := false) o931 with | x925 => e = .normal ∧ s = ⟨[(0, sV a0), (3, sV x925), (4, iV .i64 x907)], [], 0⟩)) (AWp.cv ?_) ?_
      · replace H := e932; clear e932
        refine AWp.block ?_
        refine AWp.seq ?_
        refine AWp.seq ?_
        obtain ⟨c910, H⟩ := chk_of H
        refine reg hP hn hm [] [0, 3, 4, 14] [] ⟨[(0, sV a0), (3, sV x906), (4, iV .i64 x907), (14, bV ((bt a0 x907) == (10 : Int)))], [], 0⟩ [0 ≤ x907, x907 < (a0.size : Int)] (by kernel_rfl) ⟨by exact c910.1, by exact c910.2, trivial⟩ ?_
        refine AWp.cond ((bt a0 x907) == (10 : Int)) rfl (fun c911 => ?_) (fun c911 => ?_)
        · replace H := (ifT c911).symm.trans H
          refine AWp.seq ?_
          obtain ⟨c913, H⟩ := chk_of H
          refine reg hP hn hm [] [0, 3, 4] [] ⟨[(0, sV a0), (3, sV (x906 ++ (⟨#[92, 110]⟩ : ByteArray))), (4, iV .i64 x907)], [], 0⟩ [((x906.size + (⟨#[92, 110]⟩ : ByteArray).size : Nat) : Int) ≤ 9223372036854775807] (by kernel_rfl) ⟨by exact c913, trivial⟩ ?_
          refine AWp.exit ?_
          obtain rfl := Option.some.inj H
          exact Exists.intro _ (And.intro (fun _ _ h => h.conv (inv := []) (vk := []) (e0 := []) (t := ⟨[(0, sV a0), (3, sV (x906 ++ (⟨#[92, 110]⟩ : ByteArray))), (4, iV .i64 x907)], [], 0⟩) (by kernel_rfl)) (And.intro rfl rfl))
        · replace H := (ifF c911).symm.trans H
          refine AWp.skip ?_
          refine AWp.seq ?_
          refine AWp.seq ?_
          obtain ⟨o933, e934, H⟩ := bind_of H
          refine AWp.mono (Q := fun e s => (match (generalizing := false) o933 with | x916 => e = .normal ∧ s = ⟨[(0, sV a0), (3, sV x906), (4, iV .i64 x907), (26, bV x916)], [], 0⟩)) (AWp.cv ?_) ?_
          · replace H := e934; clear e934
            rcases Bool.eq_false_or_eq_true ((bt a0 x907) == (34 : Int)) with c915 | c915
            · replace H := (ifT c915).symm.trans H
              refine reg hP hn hm [(4, .b true)] [0, 3, 4, 26] [] ⟨[(0, sV a0), (3, sV x906), (4, iV .i64 x907), (26, bV true)], [], 0⟩ [0 ≤ x907, x907 < (a0.size : Int), ((bt a0 x907) == (34 : Int)) = true] (by kernel_rfl) ⟨by exact c910.1, by exact c910.2, by exact c915, trivial⟩ ?_
              obtain rfl := Option.some.inj H
              exact Exists.intro _ (And.intro (fun _ _ h => h.conv (inv := []) (vk := []) (e0 := []) (t := ⟨[(0, sV a0), (3, sV x906), (4, iV .i64 x907), (26, bV true)], [], 0⟩) (by kernel_rfl)) (And.intro rfl rfl))
            · replace H := (ifF c915).symm.trans H
              refine reg hP hn hm [(4, .b false)] [0, 3, 4, 22, 23, 24, 25, 26] [] ⟨[(0, sV a0), (3, sV x906), (4, iV .i64 x907), (22, sV a0), (23, iV .i64 x907), (24, iV .u8 (bt a0 x907)), (25, bV ((bt a0 x907) == (92 : Int))), (26, bV ((bt a0 x907) == (92 : Int)))], [], 0⟩ [0 ≤ x907, x907 < (a0.size : Int), ((bt a0 x907) == (34 : Int)) = false, 0 ≤ x907, x907 < (a0.size : Int)] (by kernel_rfl) ⟨by exact c910.1, by exact c910.2, by exact c915, by exact c910.1, by exact c910.2, trivial⟩ ?_
              obtain rfl := Option.some.inj H
              exact Exists.intro _ (And.intro (fun _ _ h => h.conv (inv := []) (vk := []) (e0 := []) (t := ⟨[(0, sV a0), (3, sV x906), (4, iV .i64 x907), (26, bV ((bt a0 x907) == (92 : Int)))], [], 0⟩) (by kernel_rfl)) (And.intro rfl rfl))
          · obtain ⟨x916, rfl⟩ : ∃ z, z = o933 := ⟨_, rfl⟩
            rintro e s ⟨rfl, rfl⟩
            obtain ⟨o935, e936, H⟩ := bind_of H
            refine AWp.mono (Q := fun e s => (match (generalizing := false) o935 with | x920 => e = .normal ∧ s = ⟨[(0, sV a0), (3, sV x920), (4, iV .i64 x907)], [], 0⟩)) (AWp.cv ?_) ?_
            · replace H := e936; clear e936
              refine AWp.cond x916 rfl (fun c917 => ?_) (fun c917 => ?_)
              · replace H := (ifT c917).symm.trans H
                obtain ⟨c919, H⟩ := chk_of H
                refine reg hP hn hm [] [0, 3, 4] [] ⟨[(0, sV a0), (3, sV (x906 ++ (⟨#[92]⟩ : ByteArray))), (4, iV .i64 x907)], [], 0⟩ [((x906.size + (⟨#[92]⟩ : ByteArray).size : Nat) : Int) ≤ 9223372036854775807] (by kernel_rfl) ⟨by exact c919, trivial⟩ ?_
                obtain rfl := Option.some.inj H
                exact Exists.intro _ (And.intro (fun _ _ h => h.conv (inv := []) (vk := []) (e0 := []) (t := ⟨[(0, sV a0), (3, sV (x906 ++ (⟨#[92]⟩ : ByteArray))), (4, iV .i64 x907)], [], 0⟩) (by kernel_rfl)) (And.intro rfl rfl))
              · replace H := (ifF c917).symm.trans H
                refine AWp.skip ?_
                obtain rfl := Option.some.inj H
                exact Exists.intro _ (And.intro (fun _ _ h => h.conv (inv := []) (vk := []) (e0 := []) (t := ⟨[(0, sV a0), (3, sV x906), (4, iV .i64 x907)], [], 0⟩) (by kernel_rfl)) (And.intro rfl rfl))
            · obtain ⟨x920, rfl⟩ : ∃ z, z = o935 := ⟨_, rfl⟩
              rintro e s ⟨rfl, rfl⟩
              obtain ⟨c923, H⟩ := chk_of H
              obtain ⟨c924, H⟩ := chk_of H
              refine reg hP hn hm [] [0, 3, 4] [] ⟨[(0, sV a0), (3, sV (x920 ++ (a0.extract (Int.toNat (x907)) (Int.toNat ((IntKind.i64.wrap (x907 + (1 : Int)))))))), (4, iV .i64 x907)], [], 0⟩ [0 ≤ x907, x907 ≤ (IntKind.i64.wrap (x907 + (1 : Int))), (IntKind.i64.wrap (x907 + (1 : Int))) ≤ (a0.size : Int), ((x920.size + (a0.extract (Int.toNat (x907)) (Int.toNat ((IntKind.i64.wrap (x907 + (1 : Int)))))).size : Nat) : Int) ≤ 9223372036854775807] (by kernel_rfl) ⟨by exact c923.1, by exact c923.2.1, by exact c923.2.2, by exact c924, trivial⟩ ?_
              obtain rfl := Option.some.inj H
              exact Exists.intro _ (And.intro (fun _ _ h => h.conv (inv := []) (vk := []) (e0 := []) (t := ⟨[(0, sV a0), (3, sV (x920 ++ (a0.extract (Int.toNat (x907)) (Int.toNat ((IntKind.i64.wrap (x907 + (1 : Int)))))))), (4, iV .i64 x907)], [], 0⟩) (by kernel_rfl)) (And.intro rfl rfl))
      · obtain ⟨x925, rfl⟩ : ∃ z, z = o931 := ⟨_, rfl⟩
        rintro e s ⟨rfl, rfl⟩
        refine reg hP hn hm [] [0, 3, 4] [] ⟨[(0, sV a0), (3, sV x925), (4, iV .i64 (IntKind.i64.wrap (x907 + (1 : Int))))], [], 0⟩ [] (by kernel_rfl) trivial ?_
        exact LWp.conv (inv := []) (vk := []) (e0 := []) (t := ⟨[(0, sV a0), (3, sV x925), (4, iV .i64 (IntKind.i64.wrap (x907 + (1 : Int))))], [], 0⟩) (by kernel_rfl) (ih _ _ _ H)
    · replace H := (ifF c908).symm.trans H
      refine AWp.exit ?_
      obtain rfl := Option.some.inj H
      exact Exists.intro _ (And.intro (fun _ _ h => h.conv (inv := []) (vk := []) (e0 := []) (t := ⟨[(3, sV x906)], [], 0⟩) (by kernel_rfl)) (And.intro rfl rfl))
  · obtain ⟨x926, rfl⟩ : ∃ z, z = o929 := ⟨_, rfl⟩
    rintro e s ⟨rfl, rfl⟩
    refine AWp.seq ?_
    obtain ⟨c928, H⟩ := chk_of H
    refine reg hP hn hm [] [2] [] ⟨[(2, sV (x926 ++ (⟨#[34]⟩ : ByteArray)))], [], 0⟩ [((x926.size + (⟨#[34]⟩ : ByteArray).size : Nat) : Int) ≤ 9223372036854775807] (by kernel_rfl) ⟨by exact c928, trivial⟩ ?_
    refine AWp.conv (inv := []) (vk := []) (e0 := []) (t := ⟨[(2, sV (x926 ++ (⟨#[34]⟩ : ByteArray)))], [], 0⟩) (by kernel_rfl) ?_
    refine AWp.ret ?_
    obtain rfl := Option.some.inj H
    exact Exists.intro _ (And.intro (fun _ _ h => h) (And.intro (.inl rfl) (And.intro rfl (And.intro (by kernel_rfl) (by kernel_rfl)))))
def f_pluvialref10_Print.l0 (a0 : List TLabel) (x948 : ByteArray) (x949 : Int) : Option (ByteArray) := if (decide (x949 < (a0.length : Int))) = true then (((if (decide (x949 > (0 : Int))) = true then ((chk (((x948.size + (⟨#[44]⟩ : ByteArray).size : Nat) : Int) ≤ 9223372036854775807)) >>= fun _ => some (x948 ++ (⟨#[44]⟩ : ByteArray))) else (some x948)) : Option (ByteArray)) >>= fun x954 => (at? a0 x949) >>= fun b963 => (chk (((x954.size + b963.f0.size : Nat) : Int) ≤ 9223372036854775807)) >>= fun _ => (chk ((((x954 ++ b963.f0).size + (⟨#[61]⟩ : ByteArray).size : Nat) : Int) ≤ 9223372036854775807)) >>= fun _ => (f_pluvialref10_Quote.f b963.f1) >>= fun t968 => (chk (((((x954 ++ b963.f0) ++ (⟨#[61]⟩ : ByteArray)).size + t968.size : Nat) : Int) ≤ 9223372036854775807)) >>= fun _ => f_pluvialref10_Print.l0 a0 (((x954 ++ b963.f0) ++ (⟨#[61]⟩ : ByteArray)) ++ t968) (IntKind.i64.wrap (x949 + (1 : Int)))) else (some x948)
partial_fixpoint
def f_pluvialref10_Print.f (a0 : List TLabel) : Option (ByteArray) := (f_pluvialref10_Print.l0 a0 (⟨#[123]⟩ : ByteArray) 0) >>= fun x971 => (chk (((x971.size + (⟨#[125]⟩ : ByteArray).size : Nat) : Int) ≤ 9223372036854775807)) >>= fun _ => some (x971 ++ (⟨#[125]⟩ : ByteArray))
theorem f_pluvialref10_Print.ok (a0 : List TLabel) (r : ByteArray) (H : f_pluvialref10_Print.f a0 = some r) : Pv.Fn Try.prog 27 [.im (.row (a0.map eLabel))] [] 0 (fun x o => x = sV r ∧ o = []) := by
  unfold f_pluvialref10_Print.f at H
  refine Fn.bodyK [] Try.func27 rfl rfl (fun Γ hP hn => ?_)
  have hm : Try.prog.follows .mixedOrders = true := by kernel_rfl
  replace hn : Γ.n = 32 := hn
  refine AWp.seq ?_
  refine reg hP hn hm [] [0] [] ⟨[(0, .im (.row (a0.map eLabel)))], [], 0⟩ [] (by kernel_rfl) trivial ?_
  refine AWp.seq ?_
  refine reg hP hn hm [] [0, 3] [] ⟨[(0, .im (.row (a0.map eLabel))), (3, sV (⟨#[123]⟩ : ByteArray))], [], 0⟩ [] (by kernel_rfl) trivial ?_
  refine AWp.seq ?_
  refine AWp.seq ?_
  refine reg hP hn hm [] [0, 3, 4] [] ⟨[(0, .im (.row (a0.map eLabel))), (3, sV (⟨#[123]⟩ : ByteArray)), (4, iV .i64 0)], [], 0⟩ [] (by kernel_rfl) trivial ?_
  refine AWp.block ?_
  obtain ⟨o974, e975, H⟩ := bind_of H
  refine AWp.loop (LWp.conv (inv := []) (vk := []) (e0 := []) (t := ⟨[(0, .im (.row (a0.map eLabel))), (3, sV (⟨#[123]⟩ : ByteArray)), (4, iV .i64 0)], [], 0⟩) (by kernel_rfl) ?_)
  refine LWp.mono (Q := fun e s => (match (generalizing := false) o974 with | x971 => e = .exit 0 ∧ s = ⟨[(3, sV x971)], [], 0⟩)) (LWp.cv (withBody (fun body hbody => ?_))) ?_
  · refine f_pluvialref10_Print.l0.partial_correctness a0 (motive := fun x948 x949 o974 => LWp Γ body (fun e s => ∃ t, Cv Γ s t ∧ (match (generalizing := false) o974 with | x971 => e = .exit 0 ∧ t = ⟨[(3, sV x971)], [], 0⟩)) ⟨[(0, .im (.row (a0.map eLabel))), (3, sV x948), (4, iV .i64 x949)], [], 0⟩) ?_ _ _ _ e975
    clear H e975 o974; intro self ih x948 x949 o974 H
    subst hbody
    refine LWp.round ?_
    refine AWp.seq ?_
    refine AWp.seq ?_
    refine reg hP hn hm [(2, .any (iV .i64 (a0.length : Int)))] [0, 3, 4, 8] [] ⟨[(0, .im (.row (a0.map eLabel))), (3, sV x948), (4, iV .i64 x949), (8, bV (decide (x949 < (a0.length : Int))))], [], 0⟩ [((a0.map eLabel).length : Int) = (a0.length : Int)] (by kernel_rfl) ⟨by rw [len_map], trivial⟩ ?_
    refine AWp.cond (decide (x949 < (a0.length : Int))) rfl (fun c950 => ?_) (fun c950 => ?_)
    · replace H := (ifT c950).symm.trans H
      refine AWp.skip ?_
      refine AWp.seq ?_
      refine AWp.block ?_
      refine AWp.seq ?_
      refine AWp.seq ?_
      refine reg hP hn hm [] [0, 3, 4, 12] [] ⟨[(0, .im (.row (a0.map eLabel))), (3, sV x948), (4, iV .i64 x949), (12, bV (decide (x949 > (0 : Int))))], [], 0⟩ [] (by kernel_rfl) trivial ?_
      obtain ⟨o976, e977, H⟩ := bind_of H
      refine AWp.mono (Q := fun e s => (match (generalizing := false) o976 with | x954 => e = .normal ∧ s = ⟨[(0, .im (.row (a0.map eLabel))), (3, sV x954), (4, iV .i64 x949)], [], 0⟩)) (AWp.cv ?_) ?_
      · replace H := e977; clear e977
        refine AWp.cond (decide (x949 > (0 : Int))) rfl (fun c951 => ?_) (fun c951 => ?_)
        · replace H := (ifT c951).symm.trans H
          obtain ⟨c953, H⟩ := chk_of H
          refine reg hP hn hm [] [0, 3, 4] [] ⟨[(0, .im (.row (a0.map eLabel))), (3, sV (x948 ++ (⟨#[44]⟩ : ByteArray))), (4, iV .i64 x949)], [], 0⟩ [((x948.size + (⟨#[44]⟩ : ByteArray).size : Nat) : Int) ≤ 9223372036854775807] (by kernel_rfl) ⟨by exact c953, trivial⟩ ?_
          obtain rfl := Option.some.inj H
          exact Exists.intro _ (And.intro (fun _ _ h => h.conv (inv := []) (vk := []) (e0 := []) (t := ⟨[(0, .im (.row (a0.map eLabel))), (3, sV (x948 ++ (⟨#[44]⟩ : ByteArray))), (4, iV .i64 x949)], [], 0⟩) (by kernel_rfl)) (And.intro rfl rfl))
        · replace H := (ifF c951).symm.trans H
          refine AWp.skip ?_
          obtain rfl := Option.some.inj H
          exact Exists.intro _ (And.intro (fun _ _ h => h.conv (inv := []) (vk := []) (e0 := []) (t := ⟨[(0, .im (.row (a0.map eLabel))), (3, sV x948), (4, iV .i64 x949)], [], 0⟩) (by kernel_rfl)) (And.intro rfl rfl))
      · obtain ⟨x954, rfl⟩ : ∃ z, z = o976 := ⟨_, rfl⟩
        rintro e s ⟨rfl, rfl⟩
        obtain ⟨b963, p964, q965, H⟩ := at_of H
        obtain ⟨c966, H⟩ := chk_of H
        obtain ⟨c967, H⟩ := chk_of H
        obtain ⟨t968, e969, H⟩ := bind_of H
        obtain ⟨c970, H⟩ := chk_of H
        refine reg hP hn hm [(3, .c (eLabel b963)), (10, .c (eLabel b963)), (13, .call [] [] [] [] 0 (sV t968) [])] [0, 3, 4] [] ⟨[(0, .im (.row (a0.map eLabel))), (3, sV (((x954 ++ b963.f0) ++ (⟨#[61]⟩ : ByteArray)) ++ t968)), (4, iV .i64 x949)], [], 0⟩ [0 ≤ x949, (a0.map eLabel)[(Int.toNat (x949))]? = some (eLabel b963), ((x954.size + b963.f0.size : Nat) : Int) ≤ 9223372036854775807, (((x954 ++ b963.f0).size + (⟨#[61]⟩ : ByteArray).size : Nat) : Int) ≤ 9223372036854775807, 0 ≤ x949, (a0.map eLabel)[(Int.toNat (x949))]? = some (eLabel b963), Enters Try.prog 14, Pv.Fn Try.prog 14 [sV b963.f1] [] 0 (fun r o => r = sV t968 ∧ o = []), ((((x954 ++ b963.f0) ++ (⟨#[61]⟩ : ByteArray)).size + t968.size : Nat) : Int) ≤ 9223372036854775807] (by kernel_rfl) ⟨by exact p964, by exact el_map eLabel q965, by exact c966, by exact c967, by exact p964, by exact el_map eLabel q965, by exact Try.call14, by exact f_pluvialref10_Quote.ok b963.f1 t968 e969, by exact c970, trivial⟩ ?_
        refine reg hP hn hm [] [0, 3, 4] [] ⟨[(0, .im (.row (a0.map eLabel))), (3, sV (((x954 ++ b963.f0) ++ (⟨#[61]⟩ : ByteArray)) ++ t968)), (4, iV .i64 (IntKind.i64.wrap (x949 + (1 : Int))))], [], 0⟩ [] (by kernel_rfl) trivial ?_
        exact LWp.conv (inv := []) (vk := []) (e0 := []) (t := ⟨[(0, .im (.row (a0.map eLabel))), (3, sV (((x954 ++ b963.f0) ++ (⟨#[61]⟩ : ByteArray)) ++ t968)), (4, iV .i64 (IntKind.i64.wrap (x949 + (1 : Int))))], [], 0⟩) (by kernel_rfl) (ih _ _ _ H)
    · replace H := (ifF c950).symm.trans H
      refine AWp.exit ?_
      obtain rfl := Option.some.inj H
      exact Exists.intro _ (And.intro (fun _ _ h => h.conv (inv := []) (vk := []) (e0 := []) (t := ⟨[(3, sV x948)], [], 0⟩) (by kernel_rfl)) (And.intro rfl rfl))
  · obtain ⟨x971, rfl⟩ : ∃ z, z = o974 := ⟨_, rfl⟩
    rintro e s ⟨rfl, rfl⟩
    refine AWp.seq ?_
    obtain ⟨c973, H⟩ := chk_of H
    refine reg hP hn hm [] [2] [] ⟨[(2, sV (x971 ++ (⟨#[125]⟩ : ByteArray)))], [], 0⟩ [((x971.size + (⟨#[125]⟩ : ByteArray).size : Nat) : Int) ≤ 9223372036854775807] (by kernel_rfl) ⟨by exact c973, trivial⟩ ?_
    refine AWp.conv (inv := []) (vk := []) (e0 := []) (t := ⟨[(2, sV (x971 ++ (⟨#[125]⟩ : ByteArray)))], [], 0⟩) (by kernel_rfl) ?_
    refine AWp.ret ?_
    obtain rfl := Option.some.inj H
    exact Exists.intro _ (And.intro (fun _ _ h => h) (And.intro (.inl rfl) (And.intro rfl (And.intro (by kernel_rfl) (by kernel_rfl)))))
def f_pluvialref10_Compare.l0 (a0 : List TLabel) (a1 : List TLabel) (x1018 : Int) : Option (Int ⊕ Unit) := ((if (decide (x1018 < (a0.length : Int))) = true then (some (decide (x1018 < (a1.length : Int)))) else (some false)) : Option (Bool)) >>= fun x1021 => if x1021 = true then ((((at? a0 x1018) >>= fun b1031 => (at? a1 x1018) >>= fun b1034 => if (Op.bytesLess b1031.f0.toList b1034.f0.toList) = true then (some true) else (if (b1031.f0.toList == b1034.f0.toList) = true then (some (Op.bytesLess b1031.f1.toList b1034.f1.toList)) else (some false))) : Option (Bool)) >>= fun x1039 => if x1039 = true then (some (.inl (-1))) else ((at? a0 x1018) >>= fun b1047 => (at? a1 x1018) >>= fun b1050 => if (!((b1047.f0.toList == b1050.f0.toList) && ((b1047.f1.toList == b1050.f1.toList) && true))) = true then (some (.inl 1)) else (f_pluvialref10_Compare.l0 a0 a1 (IntKind.i64.wrap (x1018 + (1 : Int)))))) else (some (.inr ()))
partial_fixpoint
def f_pluvialref10_Compare.f (a0 : List TLabel) (a1 : List TLabel) : Option (Int) := (f_pluvialref10_Compare.l0 a0 a1 0) >>= fun oo => match oo with | .inl rr => (some rr) | .inr _ => (if (decide ((a0.length : Int) < (a1.length : Int))) = true then (some (-1)) else (if (decide ((a0.length : Int) > (a1.length : Int))) = true then (some 1) else (some 0)))
theorem f_pluvialref10_Compare.ok (a0 : List TLabel) (a1 : List TLabel) (r : Int) (H : f_pluvialref10_Compare.f a0 a1 = some r) : Pv.Fn Try.prog 37 [.im (.row (a0.map eLabel)), .im (.row (a1.map eLabel))] [] 0 (fun x o => x = iV .i64 r ∧ o = []) := by
  unfold f_pluvialref10_Compare.f at H
  refine Fn.bodyK [] Try.func37 rfl rfl (fun Γ hP hn => ?_)
  have hm : Try.prog.follows .mixedOrders = true := by kernel_rfl
  replace hn : Γ.n = 74 := hn
  refine AWp.seq ?_
  refine reg hP hn hm [] [0, 1] [] ⟨[(0, .im (.row (a0.map eLabel))), (1, .im (.row (a1.map eLabel)))], [], 0⟩ [] (by kernel_rfl) trivial ?_
  refine AWp.seq ?_
  refine AWp.seq ?_
  refine reg hP hn hm [] [0, 1, 5] [] ⟨[(0, .im (.row (a0.map eLabel))), (1, .im (.row (a1.map eLabel))), (5, iV .i64 0)], [], 0⟩ [] (by kernel_rfl) trivial ?_
  refine AWp.block ?_
  obtain ⟨o1056, e1057, H⟩ := bind_of H
  refine AWp.loop (LWp.conv (inv := []) (vk := []) (e0 := []) (t := ⟨[(0, .im (.row (a0.map eLabel))), (1, .im (.row (a1.map eLabel))), (5, iV .i64 0)], [], 0⟩) (by kernel_rfl) ?_)
  refine LWp.mono (Q := fun e s => (match (generalizing := false) o1056 with | .inl rr => e = .ret ∧ s.floor = 0 ∧ resOf Try.prog Try.f37 s = some (iV .i64 rr) ∧ ([] : List (Nat × Option MObj)) = [] | .inr _ => e = .exit 0 ∧ s = ⟨[(0, .im (.row (a0.map eLabel))), (1, .im (.row (a1.map eLabel)))], [], 0⟩)) (LWp.cv (withBody (fun body hbody => ?_))) ?_
  · refine f_pluvialref10_Compare.l0.partial_correctness a0 a1 (motive := fun x1018 o1056 => LWp Γ body (fun e s => ∃ t, Cv Γ s t ∧ (match (generalizing := false) o1056 with | .inl rr => e = .ret ∧ t.floor = 0 ∧ resOf Try.prog Try.f37 t = some (iV .i64 rr) ∧ ([] : List (Nat × Option MObj)) = [] | .inr _ => e = .exit 0 ∧ t = ⟨[(0, .im (.row (a0.map eLabel))), (1, .im (.row (a1.map eLabel)))], [], 0⟩)) ⟨[(0, .im (.row (a0.map eLabel))), (1, .im (.row (a1.map eLabel))), (5, iV .i64 x1018)], [], 0⟩) ?_ _ _ e1057
    clear H e1057 o1056; intro self ih x1018 o1056 H
    subst hbody
    refine LWp.round ?_
    refine AWp.seq ?_
    refine AWp.seq ?_
    obtain ⟨o1058, e1059, H⟩ := bind_of H
    refine AWp.mono (Q := fun e s => (match (generalizing := false) o1058 with | x1021 => e = .normal ∧ s = ⟨[(0, .im (.row (a0.map eLabel))), (1, .im (.row (a1.map eLabel))), (5, iV .i64 x1018), (15, bV x1021)], [], 0⟩)) (AWp.cv ?_) ?_
    · replace H := e1059; clear e1059
      rcases Bool.eq_false_or_eq_true (decide (x1018 < (a0.length : Int))) with c1020 | c1020
      · replace H := (ifT c1020).symm.trans H
        refine reg hP hn hm [(2, .any (iV .i64 (a0.length : Int))), (4, .b true), (7, .any (iV .i64 (a1.length : Int)))] [0, 1, 5, 11, 12, 13, 14, 15] [] ⟨[(0, .im (.row (a0.map eLabel))), (1, .im (.row (a1.map eLabel))), (5, iV .i64 x1018), (11, iV .i64 x1018), (12, .im (.row (a1.map eLabel))), (13, iV .i64 (a1.length : Int)), (14, bV (decide (x1018 < (a1.length : Int)))), (15, bV (decide (x1018 < (a1.length : Int))))], [], 0⟩ [((a0.map eLabel).length : Int) = (a0.length : Int), (decide (x1018 < (a0.length : Int))) = true, ((a1.map eLabel).length : Int) = (a1.length : Int)] (by kernel_rfl) ⟨by rw [len_map], by exact c1020, by rw [len_map], trivial⟩ ?_
        obtain rfl := Option.some.inj H
        exact Exists.intro _ (And.intro (fun _ _ h => h.conv (inv := []) (vk := []) (e0 := []) (t := ⟨[(0, .im (.row (a0.map eLabel))), (1, .im (.row (a1.map eLabel))), (5, iV .i64 x1018), (15, bV (decide (x1018 < (a1.length : Int))))], [], 0⟩) (by kernel_rfl)) (And.intro rfl rfl))
      · replace H := (ifF c1020).symm.trans H
        refine reg hP hn hm [(2, .any (iV .i64 (a0.length : Int))), (4, .b false)] [0, 1, 5, 15] [] ⟨[(0, .im (.row (a0.map eLabel))), (1, .im (.row (a1.map eLabel))), (5, iV .i64 x1018), (15, bV false)], [], 0⟩ [((a0.map eLabel).length : Int) = (a0.length : Int), (decide (x1018 < (a0.length : Int))) = false] (by kernel_rfl) ⟨by rw [len_map], by exact c1020, trivial⟩ ?_
        obtain rfl := Option.some.inj H
        exact Exists.intro _ (And.intro (fun _ _ h => h.conv (inv := []) (vk := []) (e0 := []) (t := ⟨[(0, .im (.row (a0.map eLabel))), (1, .im (.row (a1.map eLabel))), (5, iV .i64 x1018), (15, bV false)], [], 0⟩) (by kernel_rfl)) (And.intro rfl rfl))
    · obtain ⟨x1021, rfl⟩ : ∃ z, z = o1058 := ⟨_, rfl⟩
      rintro e s ⟨rfl, rfl⟩
      refine AWp.cond x1021 rfl (fun c1022 => ?_) (fun c1022 => ?_)
      · replace H := (ifT c1022).symm.trans H
        refine AWp.skip ?_
        refine AWp.seq ?_
        refine AWp.block ?_
        refine AWp.seq ?_
        refine AWp.seq ?_
        obtain ⟨o1060, e1061, H⟩ := bind_of H
        refine AWp.mono (Q := fun e s => (match (generalizing := false) o1060 with | x1039 => e = .normal ∧ s = ⟨[(0, .im (.row (a0.map eLabel))), (1, .im (.row (a1.map eLabel))), (5, iV .i64 x1018), (54, bV x1039)], [], 0⟩)) (AWp.cv ?_) ?_
        · replace H := e1061; clear e1061
          obtain ⟨b1031, p1032, q1033, H⟩ := at_of H
          obtain ⟨b1034, p1035, q1036, H⟩ := at_of H
          rcases Bool.eq_false_or_eq_true (Op.bytesLess b1031.f0.toList b1034.f0.toList) with c1037 | c1037
          · replace H := (ifT c1037).symm.trans H
            refine reg hP hn hm [(2, .c (eLabel b1031)), (7, .c (eLabel b1034)), (11, .b true)] [0, 1, 5, 54] [] ⟨[(0, .im (.row (a0.map eLabel))), (1, .im (.row (a1.map eLabel))), (5, iV .i64 x1018), (54, bV true)], [], 0⟩ [0 ≤ x1018, (a0.map eLabel)[(Int.toNat (x1018))]? = some (eLabel b1031), 0 ≤ x1018, (a1.map eLabel)[(Int.toNat (x1018))]? = some (eLabel b1034), (Op.bytesLess b1031.f0.toList b1034.f0.toList) = true] (by kernel_rfl) ⟨by exact p1032, by exact el_map eLabel q1033, by exact p1035, by exact el_map eLabel q1036, by exact c1037, trivial⟩ ?_
            obtain rfl := Option.some.inj H
            exact Exists.intro _ (And.intro (fun _ _ h => h.conv (inv := []) (vk := []) (e0 := []) (t := ⟨[(0, .im (.row (a0.map eLabel))), (1, .im (.row (a1.map eLabel))), (5, iV .i64 x1018), (54, bV true)], [], 0⟩) (by kernel_rfl)) (And.intro rfl rfl))
          · replace H := (ifF c1037).symm.trans H
            rcases Bool.eq_false_or_eq_true (b1031.f0.toList == b1034.f0.toList) with c1038 | c1038
            · replace H := (ifT c1038).symm.trans H
              refine reg hP hn hm [(2, .c (eLabel b1031)), (7, .c (eLabel b1034)), (11, .b false), (14, .c (eLabel b1031)), (19, .c (eLabel b1034)), (23, .b true), (26, .c (eLabel b1031)), (31, .c (eLabel b1034))] [0, 1, 5, 30, 31, 32, 33, 34, 35, 36, 37, 38, 39, 40, 41, 42, 43, 44, 45, 46, 47, 48, 49, 50, 51, 52, 53, 54] [] ⟨[(0, .im (.row (a0.map eLabel))), (1, .im (.row (a1.map eLabel))), (5, iV .i64 x1018), (30, .im (.row (a0.map eLabel))), (31, iV .i64 x1018), (32, .ip [sI b1031.f0, sI b1031.f1]), (33, .ip [sI b1031.f0, sI b1031.f1]), (34, sV b1031.f0), (35, .im (.row (a1.map eLabel))), (36, iV .i64 x1018), (37, .ip [sI b1034.f0, sI b1034.f1]), (38, .ip [sI b1034.f0, sI b1034.f1]), (39, sV b1034.f0), (40, bV (b1031.f0.toList == b1034.f0.toList)), (41, bV true), (42, .im (.row (a0.map eLabel))), (43, iV .i64 x1018), (44, .ip [sI b1031.f0, sI b1031.f1]), (45, .ip [sI b1031.f1]), (46, sV b1031.f1), (47, .im (.row (a1.map eLabel))), (48, iV .i64 x1018), (49, .ip [sI b1034.f0, sI b1034.f1]), (50, .ip [sI b1034.f1]), (51, sV b1034.f1), (52, bV (Op.bytesLess b1031.f1.toList b1034.f1.toList)), (53, bV (Op.bytesLess b1031.f1.toList b1034.f1.toList)), (54, bV (Op.bytesLess b1031.f1.toList b1034.f1.toList))], [], 0⟩ [0 ≤ x1018, (a0.map eLabel)[(Int.toNat (x1018))]? = some (eLabel b1031), 0 ≤ x1018, (a1.map eLabel)[(Int.toNat (x1018))]? = some (eLabel b1034), (Op.bytesLess b1031.f0.toList b1034.f0.toList) = false, 0 ≤ x1018, (a0.map eLabel)[(Int.toNat (x1018))]? = some (eLabel b1031), 0 ≤ x1018, (a1.map eLabel)[(Int.toNat (x1018))]? = some (eLabel b1034), (b1031.f0.toList == b1034.f0.toList) = true, 0 ≤ x1018, (a0.map eLabel)[(Int.toNat (x1018))]? = some (eLabel b1031), 0 ≤ x1018, (a1.map eLabel)[(Int.toNat (x1018))]? = some (eLabel b1034)] (by kernel_rfl) ⟨by exact p1032, by exact el_map eLabel q1033, by exact p1035, by exact el_map eLabel q1036, by exact c1037, by exact p1032, by exact el_map eLabel q1033, by exact p1035, by exact el_map eLabel q1036, by exact c1038, by exact p1032, by exact el_map eLabel q1033, by exact p1035, by exact el_map eLabel q1036, trivial⟩ ?_
              obtain rfl := Option.some.inj H
              exact Exists.intro _ (And.intro (fun _ _ h => h.conv (inv := []) (vk := []) (e0 := []) (t := ⟨[(0, .im (.row (a0.map eLabel))), (1, .im (.row (a1.map eLabel))), (5, iV .i64 x1018), (54, bV (Op.bytesLess b1031.f1.toList b1034.f1.toList))], [], 0⟩) (by kernel_rfl)) (And.intro rfl rfl))
            · replace H := (ifF c1038).symm.trans H
              refine reg hP hn hm [(2, .c (eLabel b1031)), (7, .c (eLabel b1034)), (11, .b false), (14, .c (eLabel b1031)), (19, .c (eLabel b1034)), (23, .b false)] [0, 1, 5, 30, 31, 32, 33, 34, 35, 36, 37, 38, 39, 40, 41, 53, 54] [] ⟨[(0, .im (.row (a0.map eLabel))), (1, .im (.row (a1.map eLabel))), (5, iV .i64 x1018), (30, .im (.row (a0.map eLabel))), (31, iV .i64 x1018), (32, .ip [sI b1031.f0, sI b1031.f1]), (33, .ip [sI b1031.f0, sI b1031.f1]), (34, sV b1031.f0), (35, .im (.row (a1.map eLabel))), (36, iV .i64 x1018), (37, .ip [sI b1034.f0, sI b1034.f1]), (38, .ip [sI b1034.f0, sI b1034.f1]), (39, sV b1034.f0), (40, bV (b1031.f0.toList == b1034.f0.toList)), (41, bV false), (53, bV false), (54, bV false)], [], 0⟩ [0 ≤ x1018, (a0.map eLabel)[(Int.toNat (x1018))]? = some (eLabel b1031), 0 ≤ x1018, (a1.map eLabel)[(Int.toNat (x1018))]? = some (eLabel b1034), (Op.bytesLess b1031.f0.toList b1034.f0.toList) = false, 0 ≤ x1018, (a0.map eLabel)[(Int.toNat (x1018))]? = some (eLabel b1031), 0 ≤ x1018, (a1.map eLabel)[(Int.toNat (x1018))]? = some (eLabel b1034), (b1031.f0.toList == b1034.f0.toList) = false] (by kernel_rfl) ⟨by exact p1032, by exact el_map eLabel q1033, by exact p1035, by exact el_map eLabel q1036, by exact c1037, by exact p1032, by exact el_map eLabel q1033, by exact p1035, by exact el_map eLabel q1036, by exact c1038, trivial⟩ ?_
              obtain rfl := Option.some.inj H
              exact Exists.intro _ (And.intro (fun _ _ h => h.conv (inv := []) (vk := []) (e0 := []) (t := ⟨[(0, .im (.row (a0.map eLabel))), (1, .im (.row (a1.map eLabel))), (5, iV .i64 x1018), (54, bV false)], [], 0⟩) (by kernel_rfl)) (And.intro rfl rfl))
        · obtain ⟨x1039, rfl⟩ : ∃ z, z = o1060 := ⟨_, rfl⟩
          rintro e s ⟨rfl, rfl⟩
          refine AWp.cond x1039 rfl (fun c1040 => ?_) (fun c1040 => ?_)
          · replace H := (ifT c1040).symm.trans H
            refine AWp.seq ?_
            refine reg hP hn hm [] [4] [] ⟨[(4, iV .i64 (-1))], [], 0⟩ [] (by kernel_rfl) trivial ?_
            refine AWp.conv (inv := []) (vk := []) (e0 := []) (t := ⟨[(4, iV .i64 (-1))], [], 0⟩) (by kernel_rfl) ?_
            refine AWp.ret ?_
            obtain rfl := Option.some.inj H
            exact Exists.intro _ (And.intro (fun _ _ h => h) (And.intro rfl (And.intro rfl (And.intro (by kernel_rfl) (by kernel_rfl)))))
          · replace H := (ifF c1040).symm.trans H
            refine AWp.skip ?_
            refine AWp.seq ?_
            obtain ⟨b1047, p1048, q1049, H⟩ := at_of H
            obtain ⟨b1050, p1051, q1052, H⟩ := at_of H
            refine reg hP hn hm [(2, .c (eLabel b1047)), (6, .c (eLabel b1050)), (8, .more (xAgg none))] [0, 1, 5, 63] [] ⟨[(0, .im (.row (a0.map eLabel))), (1, .im (.row (a1.map eLabel))), (5, iV .i64 x1018), (63, bV (!((b1047.f0.toList == b1050.f0.toList) && ((b1047.f1.toList == b1050.f1.toList) && true))))], [], 0⟩ [0 ≤ x1018, (a0.map eLabel)[(Int.toNat (x1018))]? = some (eLabel b1047), 0 ≤ x1018, (a1.map eLabel)[(Int.toNat (x1018))]? = some (eLabel b1050)] (by kernel_rfl) ⟨by exact p1048, by exact el_map eLabel q1049, by exact p1051, by exact el_map eLabel q1052, trivial⟩ ?_
            refine AWp.cond (!((b1047.f0.toList == b1050.f0.toList) && ((b1047.f1.toList == b1050.f1.toList) && true))) rfl (fun c1053 => ?_) (fun c1053 => ?_)
            · replace H := (ifT c1053).symm.trans H
              refine AWp.seq ?_
              refine reg hP hn hm [] [4] [] ⟨[(4, iV .i64 1)], [], 0⟩ [] (by kernel_rfl) trivial ?_
              refine AWp.conv (inv := []) (vk := []) (e0 := []) (t := ⟨[(4, iV .i64 1)], [], 0⟩) (by kernel_rfl) ?_
              refine AWp.ret ?_
              obtain rfl := Option.some.inj H
              exact Exists.intro _ (And.intro (fun _ _ h => h) (And.intro rfl (And.intro rfl (And.intro (by kernel_rfl) (by kernel_rfl)))))
            · replace H := (ifF c1053).symm.trans H
              refine AWp.skip ?_
              refine reg hP hn hm [] [0, 1, 5] [] ⟨[(0, .im (.row (a0.map eLabel))), (1, .im (.row (a1.map eLabel))), (5, iV .i64 (IntKind.i64.wrap (x1018 + (1 : Int))))], [], 0⟩ [] (by kernel_rfl) trivial ?_
              exact LWp.conv (inv := []) (vk := []) (e0 := []) (t := ⟨[(0, .im (.row (a0.map eLabel))), (1, .im (.row (a1.map eLabel))), (5, iV .i64 (IntKind.i64.wrap (x1018 + (1 : Int))))], [], 0⟩) (by kernel_rfl) (ih _ _ H)
      · replace H := (ifF c1022).symm.trans H
        refine AWp.exit ?_
        obtain rfl := Option.some.inj H
        exact Exists.intro _ (And.intro (fun _ _ h => h.conv (inv := []) (vk := []) (e0 := []) (t := ⟨[(0, .im (.row (a0.map eLabel))), (1, .im (.row (a1.map eLabel)))], [], 0⟩) (by kernel_rfl)) (And.intro rfl rfl))
  · rcases o1056 with rr | _
    · skip
      rintro e s ⟨rfl, hfl, hres⟩
      obtain rfl := Option.some.inj H
      exact Exists.intro _ (And.intro (fun _ _ h => h) (And.intro (.inl rfl) (And.intro hfl hres)))
    · skip
      rintro e s ⟨rfl, rfl⟩
      refine AWp.seq ?_
      refine AWp.seq ?_
      refine reg hP hn hm [(1, .any (iV .i64 (a0.length : Int))), (3, .any (iV .i64 (a1.length : Int)))] [0, 1, 68] [] ⟨[(0, .im (.row (a0.map eLabel))), (1, .im (.row (a1.map eLabel))), (68, bV (decide ((a0.length : Int) < (a1.length : Int))))], [], 0⟩ [((a0.map eLabel).length : Int) = (a0.length : Int), ((a1.map eLabel).length : Int) = (a1.length : Int)] (by kernel_rfl) ⟨by rw [len_map], by rw [len_map], trivial⟩ ?_
      refine AWp.cond (decide ((a0.length : Int) < (a1.length : Int))) rfl (fun c1054 => ?_) (fun c1054 => ?_)
      · replace H := (ifT c1054).symm.trans H
        refine AWp.seq ?_
        refine reg hP hn hm [] [4] [] ⟨[(4, iV .i64 (-1))], [], 0⟩ [] (by kernel_rfl) trivial ?_
        refine AWp.conv (inv := []) (vk := []) (e0 := []) (t := ⟨[(4, iV .i64 (-1))], [], 0⟩) (by kernel_rfl) ?_
        refine AWp.ret ?_
        obtain rfl := Option.some.inj H
        exact Exists.intro _ (And.intro (fun _ _ h => h) (And.intro (.inl rfl) (And.intro rfl (And.intro (by kernel_rfl) (by kernel_rfl)))))
      · replace H := (ifF c1054).symm.trans H
        refine AWp.skip ?_
        refine AWp.seq ?_
        refine AWp.seq ?_
        refine reg hP hn hm [(1, .any (iV .i64 (a0.length : Int))), (3, .any (iV .i64 (a1.length : Int)))] [73] [] ⟨[(73, bV (decide ((a0.length : Int) > (a1.length : Int))))], [], 0⟩ [((a0.map eLabel).length : Int) = (a0.length : Int), ((a1.map eLabel).length : Int) = (a1.length : Int)] (by kernel_rfl) ⟨by rw [len_map], by rw [len_map], trivial⟩ ?_
        refine AWp.cond (decide ((a0.length : Int) > (a1.length : Int))) rfl (fun c1055 => ?_) (fun c1055 => ?_)
        · replace H := (ifT c1055).symm.trans H
          refine AWp.seq ?_
          refine reg hP hn hm [] [4] [] ⟨[(4, iV .i64 1)], [], 0⟩ [] (by kernel_rfl) trivial ?_
          refine AWp.conv (inv := []) (vk := []) (e0 := []) (t := ⟨[(4, iV .i64 1)], [], 0⟩) (by kernel_rfl) ?_
          refine AWp.ret ?_
          obtain rfl := Option.some.inj H
          exact Exists.intro _ (And.intro (fun _ _ h => h) (And.intro (.inl rfl) (And.intro rfl (And.intro (by kernel_rfl) (by kernel_rfl)))))
        · replace H := (ifF c1055).symm.trans H
          refine AWp.skip ?_
          refine AWp.seq ?_
          refine reg hP hn hm [] [4] [] ⟨[(4, iV .i64 0)], [], 0⟩ [] (by kernel_rfl) trivial ?_
          refine AWp.conv (inv := []) (vk := []) (e0 := []) (t := ⟨[(4, iV .i64 0)], [], 0⟩) (by kernel_rfl) ?_
          refine AWp.ret ?_
          obtain rfl := Option.some.inj H
          exact Exists.intro _ (And.intro (fun _ _ h => h) (And.intro (.inl rfl) (And.intro rfl (And.intro (by kernel_rfl) (by kernel_rfl)))))
def f_pluviallaw10_same.f (a0 : List TLabel) (a1 : List TLabel) : Option (Bool) := (f_pluvialref10_Compare.f a0 a1) >>= fun t1064 => some (t1064 == (0 : Int))
theorem f_pluviallaw10_same.ok (a0 : List TLabel) (a1 : List TLabel) (r : Bool) (H : f_pluviallaw10_same.f a0 a1 = some r) : Pv.Fn Try.prog 28 [.im (.row (a0.map eLabel)), .im (.row (a1.map eLabel))] [] 0 (fun x o => x = bV r ∧ o = []) := by
  unfold f_pluviallaw10_same.f at H
  refine Fn.bodyK [] Try.func28 rfl rfl (fun Γ hP hn => ?_)
  have hm : Try.prog.follows .mixedOrders = true := by kernel_rfl
  replace hn : Γ.n = 9 := hn
  refine AWp.seq ?_
  refine reg hP hn hm [] [0, 1] [] ⟨[(0, .im (.row (a0.map eLabel))), (1, .im (.row (a1.map eLabel)))], [], 0⟩ [] (by kernel_rfl) trivial ?_
  refine AWp.seq ?_
  obtain ⟨t1064, e1065, H⟩ := bind_of H
  refine reg hP hn hm [(2, .call [] [] [] [] 0 (iV .i64 t1064) [])] [4] [] ⟨[(4, bV (t1064 == (0 : Int)))], [], 0⟩ [Enters Try.prog 37, Pv.Fn Try.prog 37 [.im (.row (a0.map eLabel)), .im (.row (a1.map eLabel))] [] 0 (fun r o => r = iV .i64 t1064 ∧ o = [])] (by kernel_rfl) ⟨by exact Try.call37, by exact f_pluvialref10_Compare.ok a0 a1 t1064 e1065, trivial⟩ ?_
  refine AWp.conv (inv := []) (vk := []) (e0 := []) (t := ⟨[(4, bV (t1064 == (0 : Int)))], [], 0⟩) (by kernel_rfl) ?_
  refine AWp.ret ?_
  obtain rfl := Option.some.inj H
  exact Exists.intro _ (And.intro (fun _ _ h => h) (And.intro (.inl rfl) (And.intro rfl (And.intro (by kernel_rfl) (by kernel_rfl)))))
def f_pluviallaw10_LabelBack.f (a0 : List TLabel) (a1 : ByteArray) : Option (Bool) := (((f_pluviallaw10_Light.f a0) >>= fun t23 => if (!t23) = true then (some true) else (some (decide ((a1.size : Int) > (2000 : Int))))) : Option (Bool)) >>= fun x26 => if x26 = true then ((f_pluviallaw10_awake.f) >>= fun t331 => some t331) else ((f_pluvialref10_Check.f a0) >>= fun t458 => ((if (t458 == (0 : Int)) = true then ((f_label_Key.f a0) >>= fun t766 => (f_label_Print.f a0) >>= fun t768 => (f_label_From.f t766) >>= fun t838 => (f_label_Parse.f t768) >>= fun t842 => (((f_pluvialref10_Key.f a0) >>= fun t1071 => if (!(t766.toList == t1071.toList)) = true then (some true) else ((f_pluvialref10_Print.f a0) >>= fun t1074 => if (!(t768.toList == t1074.toList)) = true then (some true) else (if (t838.2 != (0 : Int)) = true then (some true) else (if (t842.2 != (0 : Int)) = true then (some true) else ((f_pluviallaw10_same.f t838.1 a0) >>= fun t1079 => if (!t1079) = true then (some true) else ((f_pluviallaw10_same.f t842.1 a0) >>= fun t1082 => some (!t1082))))))) : Option (Bool)) >>= fun x1084 => if x1084 = true then (some (.inl false)) else (some (.inr ()))) else (some (.inr ()))) : Option (Bool ⊕ Unit)) >>= fun oo => match oo with | .inl rr => (some rr) | .inr _ => ((f_label_From.f a1) >>= fun t1088 => ((if (t1088.2 == (0 : Int)) = true then ((f_pluvialref10_Check.f t1088.1) >>= fun t1100 => if (t1100 != (0 : Int)) = true then (some true) else ((f_pluvialref10_Key.f t1088.1) >>= fun t1103 => if (!(t1103.toList == a1.toList)) = true then (some true) else (if (t1088.2 != (0 : Int)) = true then (some (t1088.2 != (6 : Int))) else (some false)))) else (if (t1088.2 != (0 : Int)) = true then (some (t1088.2 != (6 : Int))) else (some false))) : Option (Bool)) >>= fun x1108 => if x1108 = true then (some false) else ((f_label_Parse.f a1) >>= fun t1112 => if (t1112.2 == (0 : Int)) = true then ((((f_pluviallaw10_awake.f) >>= fun t1123 => if t1123 = true then ((f_pluvialref10_Check.f t1112.1) >>= fun t1126 => if (t1126 == (0 : Int)) = true then ((f_pluvialref10_Print.f t1112.1) >>= fun t1129 => some (t1129.toList == a1.toList)) else (some false)) else (some false)) : Option (Bool)) >>= fun x1131 => some x1131) else (((if (t1112.2 == (6 : Int)) = true then (some (t1112.2 == (6 : Int))) else (((if (t1112.2 == (9 : Int)) = true then (some (t1112.2 == (9 : Int))) else (some (t1112.2 == (26 : Int)))) : Option (Bool)) >>= fun x1134 => some x1134)) : Option (Bool)) >>= fun x1135 => if x1135 = true then ((((f_pluviallaw10_awake.f) >>= fun t1140 => if t1140 = true then (some ((t1112.1.length : Int) == (0 : Int))) else (some false)) : Option (Bool)) >>= fun x1143 => some x1143) else (some false)))))
theorem f_pluviallaw10_LabelBack.ok (a0 : List TLabel) (a1 : ByteArray) (r : Bool) (H : f_pluviallaw10_LabelBack.f a0 a1 = some r) : Pv.Fn Try.prog 5 [.im (.row (a0.map eLabel)), sV a1] [] 0 (fun x o => x = bV r ∧ o = []) := by
  unfold f_pluviallaw10_LabelBack.f at H
  refine Fn.bodyK [] Try.func5 rfl rfl (fun Γ hP hn => ?_)
  have hm : Try.prog.follows .mixedOrders = true := by kernel_rfl
  replace hn : Γ.n = 127 := hn
  refine AWp.seq ?_
  refine reg hP hn hm [] [0, 1] [] ⟨[(0, .im (.row (a0.map eLabel))), (1, sV a1)], [], 0⟩ [] (by kernel_rfl) trivial ?_
  refine AWp.seq ?_
  refine AWp.seq ?_
  obtain ⟨o1144, e1145, H⟩ := bind_of H
  refine AWp.mono (Q := fun e s => (match (generalizing := false) o1144 with | x26 => e = .normal ∧ s = ⟨[(0, .im (.row (a0.map eLabel))), (1, sV a1), (22, bV x26)], [], 0⟩)) (AWp.cv ?_) ?_
  · replace H := e1145; clear e1145
    obtain ⟨t23, e24, H⟩ := bind_of H
    rcases Bool.eq_false_or_eq_true (!t23) with c25 | c25
    · replace H := (ifT c25).symm.trans H
      refine reg hP hn hm [(1, .call [] [] [] [] 0 (bV t23) []), (3, .b true)] [0, 1, 22] [] ⟨[(0, .im (.row (a0.map eLabel))), (1, sV a1), (22, bV true)], [], 0⟩ [Enters Try.prog 20, Pv.Fn Try.prog 20 [.im (.row (a0.map eLabel))] [] 0 (fun r o => r = bV t23 ∧ o = []), (!t23) = true] (by kernel_rfl) ⟨by exact Try.call20, by exact f_pluviallaw10_Light.ok a0 t23 e24, by exact c25, trivial⟩ ?_
      obtain rfl := Option.some.inj H
      exact Exists.intro _ (And.intro (fun _ _ h => h.conv (inv := []) (vk := []) (e0 := []) (t := ⟨[(0, .im (.row (a0.map eLabel))), (1, sV a1), (22, bV true)], [], 0⟩) (by kernel_rfl)) (And.intro rfl rfl))
    · replace H := (ifF c25).symm.trans H
      refine reg hP hn hm [(1, .call [] [] [] [] 0 (bV t23) []), (3, .b false)] [0, 1, 22] [] ⟨[(0, .im (.row (a0.map eLabel))), (1, sV a1), (22, bV (decide ((a1.size : Int) > (2000 : Int))))], [], 0⟩ [Enters Try.prog 20, Pv.Fn Try.prog 20 [.im (.row (a0.map eLabel))] [] 0 (fun r o => r = bV t23 ∧ o = []), (!t23) = false] (by kernel_rfl) ⟨by exact Try.call20, by exact f_pluviallaw10_Light.ok a0 t23 e24, by exact c25, trivial⟩ ?_
      obtain rfl := Option.some.inj H
      exact Exists.intro _ (And.intro (fun _ _ h => h.conv (inv := []) (vk := []) (e0 := []) (t := ⟨[(0, .im (.row (a0.map eLabel))), (1, sV a1), (22, bV (decide ((a1.size : Int) > (2000 : Int))))], [], 0⟩) (by kernel_rfl)) (And.intro rfl rfl))
  · obtain ⟨x26, rfl⟩ : ∃ z, z = o1144 := ⟨_, rfl⟩
    rintro e s ⟨rfl, rfl⟩
    refine AWp.cond x26 rfl (fun c27 => ?_) (fun c27 => ?_)
    · replace H := (ifT c27).symm.trans H
      refine AWp.seq ?_
      obtain ⟨t331, e332, H⟩ := bind_of H
      refine reg hP hn hm [(0, .call [] [] [] [] 0 (bV t331) [])] [4] [] ⟨[(4, bV t331)], [], 0⟩ [Enters Try.prog 11, Pv.Fn Try.prog 11 [] [] 0 (fun r o => r = bV t331 ∧ o = [])] (by kernel_rfl) ⟨by exact Try.call11, by exact f_pluviallaw10_awake.ok  t331 e332, trivial⟩ ?_
      refine AWp.conv (inv := []) (vk := []) (e0 := []) (t := ⟨[(4, bV t331)], [], 0⟩) (by kernel_rfl) ?_
      refine AWp.ret ?_
      obtain rfl := Option.some.inj H
      exact Exists.intro _ (And.intro (fun _ _ h => h) (And.intro (.inl rfl) (And.intro rfl (And.intro (by kernel_rfl) (by kernel_rfl)))))
    · replace H := (ifF c27).symm.trans H
      refine AWp.skip ?_
      refine AWp.seq ?_
      refine AWp.seq ?_
      obtain ⟨t458, e459, H⟩ := bind_of H
      refine reg hP hn hm [(1, .call [] [] [] [] 0 (iV .i64 t458) [])] [0, 1, 26] [] ⟨[(0, .im (.row (a0.map eLabel))), (1, sV a1), (26, bV (t458 == (0 : Int)))], [], 0⟩ [Enters Try.prog 21, Pv.Fn Try.prog 21 [.im (.row (a0.map eLabel))] [] 0 (fun r o => r = iV .i64 t458 ∧ o = [])] (by kernel_rfl) ⟨by exact Try.call21, by exact f_pluvialref10_Check.ok a0 t458 e459, trivial⟩ ?_
      obtain ⟨o1146, e1147, H⟩ := bind_of H
      refine AWp.mono (Q := fun e s => (match (generalizing := false) o1146 with | .inl rr => e = .ret ∧ s.floor = 0 ∧ resOf Try.prog Try.f5 s = some (bV rr) ∧ ([] : List (Nat × Option MObj)) = [] | .inr _ => e = .normal ∧ s = ⟨[(1, sV a1)], [], 0⟩)) (AWp.cv ?_) ?_
      · replace H := e1147; clear e1147
        refine AWp.cond (t458 == (0 : Int)) rfl (fun c460 => ?_) (fun c460 => ?_)
        · replace H := (ifT c460).symm.trans H
          refine AWp.seq ?_
          obtain ⟨t766, e767, H⟩ := bind_of H
          obtain ⟨t768, e769, H⟩ := bind_of H
          refine reg hP hn hm [(1, .call [] [] [] [] 0 (sV t766) []), (3, .call [] [] [] [] 0 (sV t768) [])] [0, 1, 5, 6] [] ⟨[(0, .im (.row (a0.map eLabel))), (1, sV a1), (5, sV t766), (6, sV t768)], [], 0⟩ [Enters Try.prog 22, Pv.Fn Try.prog 22 [.im (.row (a0.map eLabel))] [] 0 (fun r o => r = sV t766 ∧ o = []), Enters Try.prog 23, Pv.Fn Try.prog 23 [.im (.row (a0.map eLabel))] [] 0 (fun r o => r = sV t768 ∧ o = [])] (by kernel_rfl) ⟨by exact Try.call22, by exact f_label_Key.ok a0 t766 e767, by exact Try.call23, by exact f_label_Print.ok a0 t768 e769, trivial⟩ ?_
          refine AWp.seq ?_
          obtain ⟨t838, e839, H⟩ := bind_of H
          refine reg hP hn hm [(1, .call [] [(0, 0)] [] [0] 0 (.tup [.own 0, iV .i64 t838.2]) [(0, some (.row 2 67 (t838.1.map eLabel)))])] [0, 1, 5, 6, 7, 8] [0] ⟨[(0, .im (.row (a0.map eLabel))), (1, sV a1), (5, sV t766), (6, sV t768), (7, .own 0), (8, iV .i64 t838.2)], [(0, some (.row 2 67 (t838.1.map eLabel)))], 0⟩ [Enters Try.prog 24, Pv.Fn Try.prog 24 [sV t766] [] 0 (fun r o => r = .tup [.own 0, iV .i64 t838.2] ∧ o = [(0, some (.row 2 67 (t838.1.map eLabel)))])] (by kernel_rfl) ⟨by exact Try.call24, by exact f_label_From.ok t766 t838 e839, trivial⟩ ?_
          refine AWp.seq ?_
          obtain ⟨t842, e843, H⟩ := bind_of H
          refine reg hP hn hm [(1, .call [] [(0, 1)] [] [1] 0 (.tup [.own 0, iV .i64 t842.2]) [(0, some (.row 2 67 (t842.1.map eLabel)))])] [0, 1, 5, 6, 7, 8, 9, 10] [0, 1] ⟨[(0, .im (.row (a0.map eLabel))), (1, sV a1), (5, sV t766), (6, sV t768), (7, .own 0), (8, iV .i64 t838.2), (9, .own 1), (10, iV .i64 t842.2)], [(0, some (.row 2 67 (t838.1.map eLabel))), (1, some (.row 2 67 (t842.1.map eLabel)))], 0⟩ [Enters Try.prog 25, Pv.Fn Try.prog 25 [sV t768] [] 0 (fun r o => r = .tup [.own 0, iV .i64 t842.2] ∧ o = [(0, some (.row 2 67 (t842.1.map eLabel)))])] (by kernel_rfl) ⟨by exact Try.call25, by exact f_label_Parse.ok t768 t842 e843, trivial⟩ ?_
          refine AWp.seq ?_
          obtain ⟨o1148, e1149, H⟩ := bind_of H
          refine AWp.mono (Q := fun e s => (match (generalizing := false) o1148 with | x1084 => e = .normal ∧ s = ⟨[(1, sV a1), (70, bV x1084)], [], 0⟩)) (AWp.cv ?_) ?_
          · replace H := e1149; clear e1149
            obtain ⟨t1071, e1072, H⟩ := bind_of H
            rcases Bool.eq_false_or_eq_true (!(t766.toList == t1071.toList)) with c1073 | c1073
            · replace H := (ifT c1073).symm.trans H
              refine reg hP hn hm [(2, .call [] [] [] [] 0 (sV t1071) []), (4, .b true)] [1, 70] [] ⟨[(1, sV a1), (70, bV true)], [], 0⟩ [Enters Try.prog 26, Pv.Fn Try.prog 26 [.im (.row (a0.map eLabel))] [] 0 (fun r o => r = sV t1071 ∧ o = []), (!(t766.toList == t1071.toList)) = true] (by kernel_rfl) ⟨by exact Try.call26, by exact f_pluvialref10_Key.ok a0 t1071 e1072, by exact c1073, trivial⟩ ?_
              obtain rfl := Option.some.inj H
              exact Exists.intro _ (And.intro (fun _ _ h => h.conv (inv := []) (vk := []) (e0 := []) (t := ⟨[(1, sV a1), (70, bV true)], [], 0⟩) (by kernel_rfl)) (And.intro rfl rfl))
            · replace H := (ifF c1073).symm.trans H
              obtain ⟨t1074, e1075, H⟩ := bind_of H
              rcases Bool.eq_false_or_eq_true (!(t768.toList == t1074.toList)) with c1076 | c1076
              · replace H := (ifT c1076).symm.trans H
                refine reg hP hn hm [(2, .call [] [] [] [] 0 (sV t1071) []), (4, .b false), (7, .call [] [] [] [] 0 (sV t1074) []), (10, .b true)] [1, 70] [] ⟨[(1, sV a1), (70, bV true)], [], 0⟩ [Enters Try.prog 26, Pv.Fn Try.prog 26 [.im (.row (a0.map eLabel))] [] 0 (fun r o => r = sV t1071 ∧ o = []), (!(t766.toList == t1071.toList)) = false, Enters Try.prog 27, Pv.Fn Try.prog 27 [.im (.row (a0.map eLabel))] [] 0 (fun r o => r = sV t1074 ∧ o = []), (!(t768.toList == t1074.toList)) = true] (by kernel_rfl) ⟨by exact Try.call26, by exact f_pluvialref10_Key.ok a0 t1071 e1072, by exact c1073, by exact Try.call27, by exact f_pluvialref10_Print.ok a0 t1074 e1075, by exact c1076, trivial⟩ ?_
                obtain rfl := Option.some.inj H
                exact Exists.intro _ (And.intro (fun _ _ h => h.conv (inv := []) (vk := []) (e0 := []) (t := ⟨[(1, sV a1), (70, bV true)], [], 0⟩) (by kernel_rfl)) (And.intro rfl rfl))
              · replace H := (ifF c1076).symm.trans H
                rcases Bool.eq_false_or_eq_true (t838.2 != (0 : Int)) with c1077 | c1077
                · replace H := (ifT c1077).symm.trans H
                  refine reg hP hn hm [(2, .call [] [] [] [] 0 (sV t1071) []), (4, .b false), (7, .call [] [] [] [] 0 (sV t1074) []), (10, .b false), (14, .b true)] [1, 70] [] ⟨[(1, sV a1), (70, bV true)], [], 0⟩ [Enters Try.prog 26, Pv.Fn Try.prog 26 [.im (.row (a0.map eLabel))] [] 0 (fun r o => r = sV t1071 ∧ o = []), (!(t766.toList == t1071.toList)) = false, Enters Try.prog 27, Pv.Fn Try.prog 27 [.im (.row (a0.map eLabel))] [] 0 (fun r o => r = sV t1074 ∧ o = []), (!(t768.toList == t1074.toList)) = false, (t838.2 != (0 : Int)) = true] (by kernel_rfl) ⟨by exact Try.call26, by exact f_pluvialref10_Key.ok a0 t1071 e1072, by exact c1073, by exact Try.call27, by exact f_pluvialref10_Print.ok a0 t1074 e1075, by exact c1076, by exact c1077, trivial⟩ ?_
                  obtain rfl := Option.some.inj H
                  exact Exists.intro _ (And.intro (fun _ _ h => h.conv (inv := []) (vk := []) (e0 := []) (t := ⟨[(1, sV a1), (70, bV true)], [], 0⟩) (by kernel_rfl)) (And.intro rfl rfl))
                · replace H := (ifF c1077).symm.trans H
                  rcases Bool.eq_false_or_eq_true (t842.2 != (0 : Int)) with c1078 | c1078
                  · replace H := (ifT c1078).symm.trans H
                    refine reg hP hn hm [(2, .call [] [] [] [] 0 (sV t1071) []), (4, .b false), (7, .call [] [] [] [] 0 (sV t1074) []), (10, .b false), (14, .b false), (18, .b true)] [1, 70] [] ⟨[(1, sV a1), (70, bV true)], [], 0⟩ [Enters Try.prog 26, Pv.Fn Try.prog 26 [.im (.row (a0.map eLabel))] [] 0 (fun r o => r = sV t1071 ∧ o = []), (!(t766.toList == t1071.toList)) = false, Enters Try.prog 27, Pv.Fn Try.prog 27 [.im (.row (a0.map eLabel))] [] 0 (fun r o => r = sV t1074 ∧ o = []), (!(t768.toList == t1074.toList)) = false, (t838.2 != (0 : Int)) = false, (t842.2 != (0 : Int)) = true] (by kernel_rfl) ⟨by exact Try.call26, by exact f_pluvialref10_Key.ok a0 t1071 e1072, by exact c1073, by exact Try.call27, by exact f_pluvialref10_Print.ok a0 t1074 e1075, by exact c1076, by exact c1077, by exact c1078, trivial⟩ ?_
                    obtain rfl := Option.some.inj H
                    exact Exists.intro _ (And.intro (fun _ _ h => h.conv (inv := []) (vk := []) (e0 := []) (t := ⟨[(1, sV a1), (70, bV true)], [], 0⟩) (by kernel_rfl)) (And.intro rfl rfl))
                  · replace H := (ifF c1078).symm.trans H
                    obtain ⟨t1079, e1080, H⟩ := bind_of H
                    rcases Bool.eq_false_or_eq_true (!t1079) with c1081 | c1081
                    · replace H := (ifT c1081).symm.trans H
                      refine reg hP hn hm [(2, .call [] [] [] [] 0 (sV t1071) []), (4, .b false), (7, .call [] [] [] [] 0 (sV t1074) []), (10, .b false), (14, .b false), (18, .b false), (21, .call [] [] [0] [] 0 (bV t1079) []), (24, .b true)] [1, 70] [] ⟨[(1, sV a1), (70, bV true)], [], 0⟩ [Enters Try.prog 26, Pv.Fn Try.prog 26 [.im (.row (a0.map eLabel))] [] 0 (fun r o => r = sV t1071 ∧ o = []), (!(t766.toList == t1071.toList)) = false, Enters Try.prog 27, Pv.Fn Try.prog 27 [.im (.row (a0.map eLabel))] [] 0 (fun r o => r = sV t1074 ∧ o = []), (!(t768.toList == t1074.toList)) = false, (t838.2 != (0 : Int)) = false, (t842.2 != (0 : Int)) = false, Enters Try.prog 28, Pv.Fn Try.prog 28 [.im (.row (t838.1.map eLabel)), .im (.row (a0.map eLabel))] [] 0 (fun r o => r = bV t1079 ∧ o = []), (!t1079) = true] (by kernel_rfl) ⟨by exact Try.call26, by exact f_pluvialref10_Key.ok a0 t1071 e1072, by exact c1073, by exact Try.call27, by exact f_pluvialref10_Print.ok a0 t1074 e1075, by exact c1076, by exact c1077, by exact c1078, by exact Try.call28, by exact f_pluviallaw10_same.ok t838.1 a0 t1079 e1080, by exact c1081, trivial⟩ ?_
                      obtain rfl := Option.some.inj H
                      exact Exists.intro _ (And.intro (fun _ _ h => h.conv (inv := []) (vk := []) (e0 := []) (t := ⟨[(1, sV a1), (70, bV true)], [], 0⟩) (by kernel_rfl)) (And.intro rfl rfl))
                    · replace H := (ifF c1081).symm.trans H
                      obtain ⟨t1082, e1083, H⟩ := bind_of H
                      refine reg hP hn hm [(2, .call [] [] [] [] 0 (sV t1071) []), (4, .b false), (7, .call [] [] [] [] 0 (sV t1074) []), (10, .b false), (14, .b false), (18, .b false), (21, .call [] [] [0] [] 0 (bV t1079) []), (24, .b false), (27, .call [] [] [1] [] 0 (bV t1082) [])] [1, 70] [] ⟨[(1, sV a1), (70, bV (!t1082))], [], 0⟩ [Enters Try.prog 26, Pv.Fn Try.prog 26 [.im (.row (a0.map eLabel))] [] 0 (fun r o => r = sV t1071 ∧ o = []), (!(t766.toList == t1071.toList)) = false, Enters Try.prog 27, Pv.Fn Try.prog 27 [.im (.row (a0.map eLabel))] [] 0 (fun r o => r = sV t1074 ∧ o = []), (!(t768.toList == t1074.toList)) = false, (t838.2 != (0 : Int)) = false, (t842.2 != (0 : Int)) = false, Enters Try.prog 28, Pv.Fn Try.prog 28 [.im (.row (t838.1.map eLabel)), .im (.row (a0.map eLabel))] [] 0 (fun r o => r = bV t1079 ∧ o = []), (!t1079) = false, Enters Try.prog 28, Pv.Fn Try.prog 28 [.im (.row (t842.1.map eLabel)), .im (.row (a0.map eLabel))] [] 0 (fun r o => r = bV t1082 ∧ o = [])] (by kernel_rfl) ⟨by exact Try.call26, by exact f_pluvialref10_Key.ok a0 t1071 e1072, by exact c1073, by exact Try.call27, by exact f_pluvialref10_Print.ok a0 t1074 e1075, by exact c1076, by exact c1077, by exact c1078, by exact Try.call28, by exact f_pluviallaw10_same.ok t838.1 a0 t1079 e1080, by exact c1081, by exact Try.call28, by exact f_pluviallaw10_same.ok t842.1 a0 t1082 e1083, trivial⟩ ?_
                      obtain rfl := Option.some.inj H
                      exact Exists.intro _ (And.intro (fun _ _ h => h.conv (inv := []) (vk := []) (e0 := []) (t := ⟨[(1, sV a1), (70, bV (!t1082))], [], 0⟩) (by kernel_rfl)) (And.intro rfl rfl))
          · obtain ⟨x1084, rfl⟩ : ∃ z, z = o1148 := ⟨_, rfl⟩
            rintro e s ⟨rfl, rfl⟩
            refine AWp.cond x1084 rfl (fun c1085 => ?_) (fun c1085 => ?_)
            · replace H := (ifT c1085).symm.trans H
              refine AWp.seq ?_
              refine reg hP hn hm [] [4] [] ⟨[(4, bV false)], [], 0⟩ [] (by kernel_rfl) trivial ?_
              refine AWp.conv (inv := []) (vk := []) (e0 := []) (t := ⟨[(4, bV false)], [], 0⟩) (by kernel_rfl) ?_
              refine AWp.ret ?_
              obtain rfl := Option.some.inj H
              exact Exists.intro _ (And.intro (fun _ _ h => h) (And.intro rfl (And.intro rfl (And.intro (by kernel_rfl) (by kernel_rfl)))))
            · replace H := (ifF c1085).symm.trans H
              refine AWp.skip ?_
              obtain rfl := Option.some.inj H
              exact Exists.intro _ (And.intro (fun _ _ h => h.conv (inv := []) (vk := []) (e0 := []) (t := ⟨[(1, sV a1)], [], 0⟩) (by kernel_rfl)) (And.intro rfl rfl))
        · replace H := (ifF c460).symm.trans H
          refine AWp.skip ?_
          obtain rfl := Option.some.inj H
          exact Exists.intro _ (And.intro (fun _ _ h => h.conv (inv := []) (vk := []) (e0 := []) (t := ⟨[(1, sV a1)], [], 0⟩) (by kernel_rfl)) (And.intro rfl rfl))
      · rcases o1146 with rr | _
        · skip
          rintro e s ⟨rfl, hfl, hres⟩
          obtain rfl := Option.some.inj H
          exact Exists.intro _ (And.intro (fun _ _ h => h) (And.intro (.inl rfl) (And.intro hfl hres)))
        · skip
          rintro e s ⟨rfl, rfl⟩
          refine AWp.seq ?_
          obtain ⟨t1088, e1089, H⟩ := bind_of H
          refine reg hP hn hm [(1, .call [] [(0, 2)] [] [2] 0 (.tup [.own 0, iV .i64 t1088.2]) [(0, some (.row 2 67 (t1088.1.map eLabel)))])] [1, 11, 12] [2] ⟨[(1, sV a1), (11, .own 2), (12, iV .i64 t1088.2)], [(2, some (.row 2 67 (t1088.1.map eLabel)))], 0⟩ [Enters Try.prog 24, Pv.Fn Try.prog 24 [sV a1] [] 0 (fun r o => r = .tup [.own 0, iV .i64 t1088.2] ∧ o = [(0, some (.row 2 67 (t1088.1.map eLabel)))])] (by kernel_rfl) ⟨by exact Try.call24, by exact f_label_From.ok a1 t1088 e1089, trivial⟩ ?_
          refine AWp.seq ?_
          refine AWp.seq ?_
          obtain ⟨o1150, e1151, H⟩ := bind_of H
          refine AWp.mono (Q := fun e s => (match (generalizing := false) o1150 with | x1108 => e = .normal ∧ s = ⟨[(1, sV a1), (96, bV x1108)], [], 0⟩)) (AWp.cv ?_) ?_
          · replace H := e1151; clear e1151
            rcases Bool.eq_false_or_eq_true (t1088.2 == (0 : Int)) with c1099 | c1099
            · replace H := (ifT c1099).symm.trans H
              obtain ⟨t1100, e1101, H⟩ := bind_of H
              rcases Bool.eq_false_or_eq_true (t1100 != (0 : Int)) with c1102 | c1102
              · replace H := (ifT c1102).symm.trans H
                refine reg hP hn hm [(2, .b true), (4, .call [] [] [2] [] 0 (iV .i64 t1100) []), (6, .b true)] [1, 96] [] ⟨[(1, sV a1), (96, bV true)], [], 0⟩ [(t1088.2 == (0 : Int)) = true, Enters Try.prog 21, Pv.Fn Try.prog 21 [.im (.row (t1088.1.map eLabel))] [] 0 (fun r o => r = iV .i64 t1100 ∧ o = []), (t1100 != (0 : Int)) = true] (by kernel_rfl) ⟨by exact c1099, by exact Try.call21, by exact f_pluvialref10_Check.ok t1088.1 t1100 e1101, by exact c1102, trivial⟩ ?_
                obtain rfl := Option.some.inj H
                exact Exists.intro _ (And.intro (fun _ _ h => h.conv (inv := []) (vk := []) (e0 := []) (t := ⟨[(1, sV a1), (96, bV true)], [], 0⟩) (by kernel_rfl)) (And.intro rfl rfl))
              · replace H := (ifF c1102).symm.trans H
                obtain ⟨t1103, e1104, H⟩ := bind_of H
                rcases Bool.eq_false_or_eq_true (!(t1103.toList == a1.toList)) with c1105 | c1105
                · replace H := (ifT c1105).symm.trans H
                  refine reg hP hn hm [(2, .b true), (4, .call [] [] [2] [] 0 (iV .i64 t1100) []), (6, .b false), (8, .call [] [] [2] [] 0 (sV t1103) []), (13, .b true)] [1, 96] [] ⟨[(1, sV a1), (96, bV true)], [], 0⟩ [(t1088.2 == (0 : Int)) = true, Enters Try.prog 21, Pv.Fn Try.prog 21 [.im (.row (t1088.1.map eLabel))] [] 0 (fun r o => r = iV .i64 t1100 ∧ o = []), (t1100 != (0 : Int)) = false, Enters Try.prog 26, Pv.Fn Try.prog 26 [.im (.row (t1088.1.map eLabel))] [] 0 (fun r o => r = sV t1103 ∧ o = []), (!(t1103.toList == a1.toList)) = true] (by kernel_rfl) ⟨by exact c1099, by exact Try.call21, by exact f_pluvialref10_Check.ok t1088.1 t1100 e1101, by exact c1102, by exact Try.call26, by exact f_pluvialref10_Key.ok t1088.1 t1103 e1104, by exact c1105, trivial⟩ ?_
                  obtain rfl := Option.some.inj H
                  exact Exists.intro _ (And.intro (fun _ _ h => h.conv (inv := []) (vk := []) (e0 := []) (t := ⟨[(1, sV a1), (96, bV true)], [], 0⟩) (by kernel_rfl)) (And.intro rfl rfl))
                · replace H := (ifF c1105).symm.trans H
                  rcases Bool.eq_false_or_eq_true (t1088.2 != (0 : Int)) with c1106 | c1106
                  · replace H := (ifT c1106).symm.trans H
                    refine reg hP hn hm [(2, .b true), (4, .call [] [] [2] [] 0 (iV .i64 t1100) []), (6, .b false), (8, .call [] [] [2] [] 0 (sV t1103) []), (13, .b false), (16, .b true)] [1, 96] [] ⟨[(1, sV a1), (96, bV (t1088.2 != (6 : Int)))], [], 0⟩ [(t1088.2 == (0 : Int)) = true, Enters Try.prog 21, Pv.Fn Try.prog 21 [.im (.row (t1088.1.map eLabel))] [] 0 (fun r o => r = iV .i64 t1100 ∧ o = []), (t1100 != (0 : Int)) = false, Enters Try.prog 26, Pv.Fn Try.prog 26 [.im (.row (t1088.1.map eLabel))] [] 0 (fun r o => r = sV t1103 ∧ o = []), (!(t1103.toList == a1.toList)) = false, (t1088.2 != (0 : Int)) = true] (by kernel_rfl) ⟨by exact c1099, by exact Try.call21, by exact f_pluvialref10_Check.ok t1088.1 t1100 e1101, by exact c1102, by exact Try.call26, by exact f_pluvialref10_Key.ok t1088.1 t1103 e1104, by exact c1105, by exact c1106, trivial⟩ ?_
                    obtain rfl := Option.some.inj H
                    exact Exists.intro _ (And.intro (fun _ _ h => h.conv (inv := []) (vk := []) (e0 := []) (t := ⟨[(1, sV a1), (96, bV (t1088.2 != (6 : Int)))], [], 0⟩) (by kernel_rfl)) (And.intro rfl rfl))
                  · replace H := (ifF c1106).symm.trans H
                    refine reg hP hn hm [(2, .b true), (4, .call [] [] [2] [] 0 (iV .i64 t1100) []), (6, .b false), (8, .call [] [] [2] [] 0 (sV t1103) []), (13, .b false), (16, .b false)] [1, 96] [] ⟨[(1, sV a1), (96, bV false)], [], 0⟩ [(t1088.2 == (0 : Int)) = true, Enters Try.prog 21, Pv.Fn Try.prog 21 [.im (.row (t1088.1.map eLabel))] [] 0 (fun r o => r = iV .i64 t1100 ∧ o = []), (t1100 != (0 : Int)) = false, Enters Try.prog 26, Pv.Fn Try.prog 26 [.im (.row (t1088.1.map eLabel))] [] 0 (fun r o => r = sV t1103 ∧ o = []), (!(t1103.toList == a1.toList)) = false, (t1088.2 != (0 : Int)) = false] (by kernel_rfl) ⟨by exact c1099, by exact Try.call21, by exact f_pluvialref10_Check.ok t1088.1 t1100 e1101, by exact c1102, by exact Try.call26, by exact f_pluvialref10_Key.ok t1088.1 t1103 e1104, by exact c1105, by exact c1106, trivial⟩ ?_
                    obtain rfl := Option.some.inj H
                    exact Exists.intro _ (And.intro (fun _ _ h => h.conv (inv := []) (vk := []) (e0 := []) (t := ⟨[(1, sV a1), (96, bV false)], [], 0⟩) (by kernel_rfl)) (And.intro rfl rfl))
            · replace H := (ifF c1099).symm.trans H
              rcases Bool.eq_false_or_eq_true (t1088.2 != (0 : Int)) with c1107 | c1107
              · replace H := (ifT c1107).symm.trans H
                refine reg hP hn hm [(2, .b false), (16, .b true)] [1, 96] [] ⟨[(1, sV a1), (96, bV (t1088.2 != (6 : Int)))], [], 0⟩ [(t1088.2 == (0 : Int)) = false, (t1088.2 != (0 : Int)) = true] (by kernel_rfl) ⟨by exact c1099, by exact c1107, trivial⟩ ?_
                obtain rfl := Option.some.inj H
                exact Exists.intro _ (And.intro (fun _ _ h => h.conv (inv := []) (vk := []) (e0 := []) (t := ⟨[(1, sV a1), (96, bV (t1088.2 != (6 : Int)))], [], 0⟩) (by kernel_rfl)) (And.intro rfl rfl))
              · replace H := (ifF c1107).symm.trans H
                refine reg hP hn hm [(2, .b false), (16, .b false)] [1, 96] [] ⟨[(1, sV a1), (96, bV false)], [], 0⟩ [(t1088.2 == (0 : Int)) = false, (t1088.2 != (0 : Int)) = false] (by kernel_rfl) ⟨by exact c1099, by exact c1107, trivial⟩ ?_
                obtain rfl := Option.some.inj H
                exact Exists.intro _ (And.intro (fun _ _ h => h.conv (inv := []) (vk := []) (e0 := []) (t := ⟨[(1, sV a1), (96, bV false)], [], 0⟩) (by kernel_rfl)) (And.intro rfl rfl))
          · obtain ⟨x1108, rfl⟩ : ∃ z, z = o1150 := ⟨_, rfl⟩
            rintro e s ⟨rfl, rfl⟩
            refine AWp.cond x1108 rfl (fun c1109 => ?_) (fun c1109 => ?_)
            · replace H := (ifT c1109).symm.trans H
              refine AWp.seq ?_
              refine reg hP hn hm [] [4] [] ⟨[(4, bV false)], [], 0⟩ [] (by kernel_rfl) trivial ?_
              refine AWp.conv (inv := []) (vk := []) (e0 := []) (t := ⟨[(4, bV false)], [], 0⟩) (by kernel_rfl) ?_
              refine AWp.ret ?_
              obtain rfl := Option.some.inj H
              exact Exists.intro _ (And.intro (fun _ _ h => h) (And.intro (.inl rfl) (And.intro rfl (And.intro (by kernel_rfl) (by kernel_rfl)))))
            · replace H := (ifF c1109).symm.trans H
              refine AWp.skip ?_
              refine AWp.seq ?_
              obtain ⟨t1112, e1113, H⟩ := bind_of H
              refine reg hP hn hm [(1, .call [] [(0, 3)] [] [3] 0 (.tup [.own 0, iV .i64 t1112.2]) [(0, some (.row 2 67 (t1112.1.map eLabel)))])] [1, 13, 14] [3] ⟨[(1, sV a1), (13, .own 3), (14, iV .i64 t1112.2)], [(3, some (.row 2 67 (t1112.1.map eLabel)))], 0⟩ [Enters Try.prog 25, Pv.Fn Try.prog 25 [sV a1] [] 0 (fun r o => r = .tup [.own 0, iV .i64 t1112.2] ∧ o = [(0, some (.row 2 67 (t1112.1.map eLabel)))])] (by kernel_rfl) ⟨by exact Try.call25, by exact f_label_Parse.ok a1 t1112 e1113, trivial⟩ ?_
              refine AWp.seq ?_
              refine AWp.seq ?_
              refine reg hP hn hm [] [1, 13, 102] [3] ⟨[(1, sV a1), (13, .own 3), (102, iV .i64 t1112.2)], [(3, some (.row 2 67 (t1112.1.map eLabel)))], 0⟩ [] (by kernel_rfl) trivial ?_
              refine AWp.block ?_
              refine AWp.seq ?_
              refine reg hP hn hm [] [1, 13, 102, 103] [3] ⟨[(1, sV a1), (13, .own 3), (102, iV .i64 t1112.2), (103, bV (t1112.2 == (0 : Int)))], [(3, some (.row 2 67 (t1112.1.map eLabel)))], 0⟩ [] (by kernel_rfl) trivial ?_
              refine AWp.cond (t1112.2 == (0 : Int)) rfl (fun c1114 => ?_) (fun c1114 => ?_)
              · replace H := (ifT c1114).symm.trans H
                refine AWp.seq ?_
                obtain ⟨o1152, e1153, H⟩ := bind_of H
                refine AWp.mono (Q := fun e s => (match (generalizing := false) o1152 with | x1131 => e = .normal ∧ s = ⟨[(4, bV x1131)], [], 0⟩)) (AWp.cv ?_) ?_
                · replace H := e1153; clear e1153
                  obtain ⟨t1123, e1124, H⟩ := bind_of H
                  rcases Bool.eq_false_or_eq_true t1123 with c1125 | c1125
                  · replace H := (ifT c1125).symm.trans H
                    obtain ⟨t1126, e1127, H⟩ := bind_of H
                    rcases Bool.eq_false_or_eq_true (t1126 == (0 : Int)) with c1128 | c1128
                    · replace H := (ifT c1128).symm.trans H
                      obtain ⟨t1129, e1130, H⟩ := bind_of H
                      refine reg hP hn hm [(0, .call [] [] [] [] 0 (bV t1123) []), (1, .b true), (3, .call [] [] [3] [] 0 (iV .i64 t1126) []), (6, .b true), (8, .call [] [] [3] [] 0 (sV t1129) [])] [4] [] ⟨[(4, bV (t1129.toList == a1.toList))], [], 0⟩ [Enters Try.prog 11, Pv.Fn Try.prog 11 [] [] 0 (fun r o => r = bV t1123 ∧ o = []), t1123 = true, Enters Try.prog 21, Pv.Fn Try.prog 21 [.im (.row (t1112.1.map eLabel))] [] 0 (fun r o => r = iV .i64 t1126 ∧ o = []), (t1126 == (0 : Int)) = true, Enters Try.prog 27, Pv.Fn Try.prog 27 [.im (.row (t1112.1.map eLabel))] [] 0 (fun r o => r = sV t1129 ∧ o = [])] (by kernel_rfl) ⟨by exact Try.call11, by exact f_pluviallaw10_awake.ok  t1123 e1124, by exact c1125, by exact Try.call21, by exact f_pluvialref10_Check.ok t1112.1 t1126 e1127, by exact c1128, by exact Try.call27, by exact f_pluvialref10_Print.ok t1112.1 t1129 e1130, trivial⟩ ?_
                      obtain rfl := Option.some.inj H
                      exact Exists.intro _ (And.intro (fun _ _ h => h.conv (inv := []) (vk := []) (e0 := []) (t := ⟨[(4, bV (t1129.toList == a1.toList))], [], 0⟩) (by kernel_rfl)) (And.intro rfl rfl))
                    · replace H := (ifF c1128).symm.trans H
                      refine reg hP hn hm [(0, .call [] [] [] [] 0 (bV t1123) []), (1, .b true), (3, .call [] [] [3] [] 0 (iV .i64 t1126) []), (6, .b false)] [4] [] ⟨[(4, bV false)], [], 0⟩ [Enters Try.prog 11, Pv.Fn Try.prog 11 [] [] 0 (fun r o => r = bV t1123 ∧ o = []), t1123 = true, Enters Try.prog 21, Pv.Fn Try.prog 21 [.im (.row (t1112.1.map eLabel))] [] 0 (fun r o => r = iV .i64 t1126 ∧ o = []), (t1126 == (0 : Int)) = false] (by kernel_rfl) ⟨by exact Try.call11, by exact f_pluviallaw10_awake.ok  t1123 e1124, by exact c1125, by exact Try.call21, by exact f_pluvialref10_Check.ok t1112.1 t1126 e1127, by exact c1128, trivial⟩ ?_
                      obtain rfl := Option.some.inj H
                      exact Exists.intro _ (And.intro (fun _ _ h => h.conv (inv := []) (vk := []) (e0 := []) (t := ⟨[(4, bV false)], [], 0⟩) (by kernel_rfl)) (And.intro rfl rfl))
                  · replace H := (ifF c1125).symm.trans H
                    refine reg hP hn hm [(0, .call [] [] [] [] 0 (bV t1123) []), (1, .b false)] [4] [] ⟨[(4, bV false)], [], 0⟩ [Enters Try.prog 11, Pv.Fn Try.prog 11 [] [] 0 (fun r o => r = bV t1123 ∧ o = []), t1123 = false] (by kernel_rfl) ⟨by exact Try.call11, by exact f_pluviallaw10_awake.ok  t1123 e1124, by exact c1125, trivial⟩ ?_
                    obtain rfl := Option.some.inj H
                    exact Exists.intro _ (And.intro (fun _ _ h => h.conv (inv := []) (vk := []) (e0 := []) (t := ⟨[(4, bV false)], [], 0⟩) (by kernel_rfl)) (And.intro rfl rfl))
                · obtain ⟨x1131, rfl⟩ : ∃ z, z = o1152 := ⟨_, rfl⟩
                  rintro e s ⟨rfl, rfl⟩
                  refine AWp.conv (inv := []) (vk := []) (e0 := []) (t := ⟨[(4, bV x1131)], [], 0⟩) (by kernel_rfl) ?_
                  refine AWp.ret ?_
                  obtain rfl := Option.some.inj H
                  exact Exists.intro _ (And.intro (fun _ _ h => h) (And.intro (.inl rfl) (And.intro rfl (And.intro (by kernel_rfl) (by kernel_rfl)))))
              · replace H := (ifF c1114).symm.trans H
                refine AWp.seq ?_
                refine AWp.seq ?_
                refine reg hP hn hm [] [13, 102, 117] [3] ⟨[(13, .own 3), (102, iV .i64 t1112.2), (117, bV (t1112.2 == (6 : Int)))], [(3, some (.row 2 67 (t1112.1.map eLabel)))], 0⟩ [] (by kernel_rfl) trivial ?_
                obtain ⟨o1154, e1155, H⟩ := bind_of H
                refine AWp.mono (Q := fun e s => (match (generalizing := false) o1154 with | x1135 => e = .normal ∧ s = ⟨[(13, .own 5), (117, bV x1135)], [(5, some (.row 2 67 (t1112.1.map eLabel)))], 0⟩)) (AWp.cv ?_) ?_
                · replace H := e1155; clear e1155
                  refine AWp.cond (t1112.2 == (6 : Int)) rfl (fun c1132 => ?_) (fun c1132 => ?_)
                  · replace H := (ifT c1132).symm.trans H
                    refine AWp.skip ?_
                    obtain rfl := Option.some.inj H
                    exact Exists.intro _ (And.intro (fun _ _ h => h.conv (inv := [(3, 5)]) (vk := []) (e0 := []) (t := ⟨[(13, .own 5), (117, bV (t1112.2 == (6 : Int)))], [(5, some (.row 2 67 (t1112.1.map eLabel)))], 0⟩) (by kernel_rfl)) (And.intro rfl rfl))
                  · replace H := (ifF c1132).symm.trans H
                    refine AWp.seq ?_
                    refine reg hP hn hm [] [13, 102, 117] [3] ⟨[(13, .own 3), (102, iV .i64 t1112.2), (117, bV (t1112.2 == (9 : Int)))], [(3, some (.row 2 67 (t1112.1.map eLabel)))], 0⟩ [] (by kernel_rfl) trivial ?_
                    obtain ⟨o1156, e1157, H⟩ := bind_of H
                    refine AWp.mono (Q := fun e s => (match (generalizing := false) o1156 with | x1134 => e = .normal ∧ s = ⟨[(13, .own 4), (117, bV x1134)], [(4, some (.row 2 67 (t1112.1.map eLabel)))], 0⟩)) (AWp.cv ?_) ?_
                    · replace H := e1157; clear e1157
                      refine AWp.cond (t1112.2 == (9 : Int)) rfl (fun c1133 => ?_) (fun c1133 => ?_)
                      · replace H := (ifT c1133).symm.trans H
                        refine AWp.skip ?_
                        obtain rfl := Option.some.inj H
                        exact Exists.intro _ (And.intro (fun _ _ h => h.conv (inv := [(3, 4)]) (vk := []) (e0 := []) (t := ⟨[(13, .own 4), (117, bV (t1112.2 == (9 : Int)))], [(4, some (.row 2 67 (t1112.1.map eLabel)))], 0⟩) (by kernel_rfl)) (And.intro rfl rfl))
                      · replace H := (ifF c1133).symm.trans H
                        refine reg hP hn hm [] [13, 117] [3] ⟨[(13, .own 3), (117, bV (t1112.2 == (26 : Int)))], [(3, some (.row 2 67 (t1112.1.map eLabel)))], 0⟩ [] (by kernel_rfl) trivial ?_
                        obtain rfl := Option.some.inj H
                        exact Exists.intro _ (And.intro (fun _ _ h => h.conv (inv := [(3, 4)]) (vk := []) (e0 := []) (t := ⟨[(13, .own 4), (117, bV (t1112.2 == (26 : Int)))], [(4, some (.row 2 67 (t1112.1.map eLabel)))], 0⟩) (by kernel_rfl)) (And.intro rfl rfl))
                    · obtain ⟨x1134, rfl⟩ : ∃ z, z = o1156 := ⟨_, rfl⟩
                      rintro e s ⟨rfl, rfl⟩
                      obtain rfl := Option.some.inj H
                      exact Exists.intro _ (And.intro (fun _ _ h => h.conv (inv := [(4, 5)]) (vk := []) (e0 := []) (t := ⟨[(13, .own 5), (117, bV x1134)], [(5, some (.row 2 67 (t1112.1.map eLabel)))], 0⟩) (by kernel_rfl)) (And.intro rfl rfl))
                · obtain ⟨x1135, rfl⟩ : ∃ z, z = o1154 := ⟨_, rfl⟩
                  rintro e s ⟨rfl, rfl⟩
                  refine AWp.cond x1135 rfl (fun c1136 => ?_) (fun c1136 => ?_)
                  · replace H := (ifT c1136).symm.trans H
                    refine AWp.seq ?_
                    obtain ⟨o1158, e1159, H⟩ := bind_of H
                    refine AWp.mono (Q := fun e s => (match (generalizing := false) o1158 with | x1143 => e = .normal ∧ s = ⟨[(4, bV x1143)], [], 0⟩)) (AWp.cv ?_) ?_
                    · replace H := e1159; clear e1159
                      obtain ⟨t1140, e1141, H⟩ := bind_of H
                      rcases Bool.eq_false_or_eq_true t1140 with c1142 | c1142
                      · replace H := (ifT c1142).symm.trans H
                        refine reg hP hn hm [(0, .call [] [] [] [] 0 (bV t1140) []), (1, .b true), (3, .any (iV .i64 (t1112.1.length : Int)))] [4] [] ⟨[(4, bV ((t1112.1.length : Int) == (0 : Int)))], [], 0⟩ [Enters Try.prog 11, Pv.Fn Try.prog 11 [] [] 0 (fun r o => r = bV t1140 ∧ o = []), t1140 = true, ((t1112.1.map eLabel).length : Int) = (t1112.1.length : Int)] (by kernel_rfl) ⟨by exact Try.call11, by exact f_pluviallaw10_awake.ok  t1140 e1141, by exact c1142, by rw [len_map], trivial⟩ ?_
                        obtain rfl := Option.some.inj H
                        exact Exists.intro _ (And.intro (fun _ _ h => h.conv (inv := []) (vk := []) (e0 := []) (t := ⟨[(4, bV ((t1112.1.length : Int) == (0 : Int)))], [], 0⟩) (by kernel_rfl)) (And.intro rfl rfl))
                      · replace H := (ifF c1142).symm.trans H
                        refine reg hP hn hm [(0, .call [] [] [] [] 0 (bV t1140) []), (1, .b false)] [4] [] ⟨[(4, bV false)], [], 0⟩ [Enters Try.prog 11, Pv.Fn Try.prog 11 [] [] 0 (fun r o => r = bV t1140 ∧ o = []), t1140 = false] (by kernel_rfl) ⟨by exact Try.call11, by exact f_pluviallaw10_awake.ok  t1140 e1141, by exact c1142, trivial⟩ ?_
                        obtain rfl := Option.some.inj H
                        exact Exists.intro _ (And.intro (fun _ _ h => h.conv (inv := []) (vk := []) (e0 := []) (t := ⟨[(4, bV false)], [], 0⟩) (by kernel_rfl)) (And.intro rfl rfl))
                    · obtain ⟨x1143, rfl⟩ : ∃ z, z = o1158 := ⟨_, rfl⟩
                      rintro e s ⟨rfl, rfl⟩
                      refine AWp.conv (inv := []) (vk := []) (e0 := []) (t := ⟨[(4, bV x1143)], [], 0⟩) (by kernel_rfl) ?_
                      refine AWp.ret ?_
                      obtain rfl := Option.some.inj H
                      exact Exists.intro _ (And.intro (fun _ _ h => h) (And.intro (.inl rfl) (And.intro rfl (And.intro (by kernel_rfl) (by kernel_rfl)))))
                  · replace H := (ifF c1136).symm.trans H
                    refine AWp.skip ?_
                    refine AWp.seq ?_
                    refine reg hP hn hm [] [4] [] ⟨[(4, bV false)], [], 0⟩ [] (by kernel_rfl) trivial ?_
                    refine AWp.conv (inv := []) (vk := []) (e0 := []) (t := ⟨[(4, bV false)], [], 0⟩) (by kernel_rfl) ?_
                    refine AWp.ret ?_
                    obtain rfl := Option.some.inj H
                    exact Exists.intro _ (And.intro (fun _ _ h => h) (And.intro (.inl rfl) (And.intro rfl (And.intro (by kernel_rfl) (by kernel_rfl)))))
end Go.Proofs.Ytjfhobijgkccdaa.PvGA2
