import Derived.Test.YtjfhobijgkccdaaProg
import Derived.Test.YtjfhobijgkccdaaPxLabelKeys07
set_option linter.unusedVariables false
set_option linter.unnecessarySimpa false
set_option linter.unusedSimpArgs false
set_option maxRecDepth 10000
namespace Go.Proofs.Ytjfhobijgkccdaa.PvGA1
open Go Go.Pv
def f_label_Key.l1 (a0 : List TLabel) (b2021 : TLabel) (x2016 : Int) (x2028 : List Int) (x2029 : Int) : Option (List Int) := if (decide (x2029 < (2 : Int))) = true then ((((chk (0 ≤ x2029 ∧ x2029 < (2 : Int))) >>= fun _ => if (x2029 == (0 : Int)) = true then (some b2021.f0) else (some b2021.f1)) : Option (ByteArray)) >>= fun x2035 => (chk ((x2028.length + [IntKind.u8.wrap ((x2035.size : Int))].length) * 1 ≤ 140737488355328)) >>= fun _ => (chk (((x2028 ++ [IntKind.u8.wrap ((x2035.size : Int))]).length + x2035.size) * 1 ≤ 140737488355328)) >>= fun _ => f_label_Key.l1 a0 b2021 x2016 ((x2028 ++ [IntKind.u8.wrap ((x2035.size : Int))]) ++ bytesL x2035) (IntKind.i64.wrap (x2029 + (1 : Int)))) else (some x2028)
partial_fixpoint
def f_label_Key.l0 (a0 : List TLabel) (x2015 : List Int) (x2016 : Int) : Option (List Int) := if (decide (x2016 < (a0.length : Int))) = true then ((at? a0 x2016) >>= fun b2021 => (f_label_Key.l1 a0 b2021 x2016 x2015 0) >>= fun x2040 => f_label_Key.l0 a0 x2040 (IntKind.i64.wrap (x2016 + (1 : Int)))) else (some x2015)
partial_fixpoint
def f_label_Key.f (a0 : List TLabel) : Option (ByteArray) := (f_label_Key.l0 a0 [] 0) >>= fun x2041 => some (strOf x2041)
theorem f_label_Key.ok (a0 : List TLabel) (r : ByteArray) (H : f_label_Key.f a0 = some r) : Pv.Fn Try.prog 22 [.im (.row (a0.map eLabel))] [] 0 (fun x o => x = sV r ∧ o = []) := by
  unfold f_label_Key.f at H
  refine Fn.bodyK [] Try.func22 rfl rfl (fun Γ hP hn => ?_)
  have hm : Try.prog.follows .mixedOrders = true := by kernel_rfl
  replace hn : Γ.n = 34 := hn
  refine AWp.seq ?_
  refine reg hP hn hm [] [0] [] ⟨[(0, .im (.row (a0.map eLabel)))], [], 0⟩ [] (by kernel_rfl) trivial ?_
  refine AWp.seq ?_
  refine reg hP hn hm [] [0, 3] [] ⟨[(0, .im (.row (a0.map eLabel))), (3, .none0)], [], 0⟩ [] (by kernel_rfl) trivial ?_
  refine AWp.seq ?_
  refine AWp.seq ?_
  refine reg hP hn hm [(1, .any (iV .i64 (a0.length : Int)))] [3, 8, 9, 10] [] ⟨[(3, .none0), (8, .im (.row (a0.map eLabel))), (9, iV .i64 (a0.length : Int)), (10, iV .i64 0)], [], 0⟩ [((a0.map eLabel).length : Int) = (a0.length : Int)] (by kernel_rfl) ⟨by rw [len_map], trivial⟩ ?_
  refine AWp.block ?_
  obtain ⟨o2042, e2043, H⟩ := bind_of H
  refine AWp.loop (LWp.conv (inv := []) (vk := []) (e0 := [10]) (t := ⟨[(3, .own 10), (8, .im (.row (a0.map eLabel))), (9, iV .i64 (a0.length : Int)), (10, iV .i64 0)], [(10, some (.row 1 5 ([].map (encInt .u8))))], 0⟩) (by kernel_rfl) ?_)
  refine LWp.mono (Q := fun e s => (match (generalizing := false) o2042 with | x2041 => e = .exit 0 ∧ s = ⟨[(3, .own 21)], [(21, some (.row 1 5 (x2041.map (encInt .u8))))], 0⟩)) (LWp.cv (withBody (fun body hbody => ?_))) ?_
  · refine f_label_Key.l0.partial_correctness a0 (motive := fun x2015 x2016 o2042 => LWp Γ body (fun e s => ∃ t, Cv Γ s t ∧ (match (generalizing := false) o2042 with | x2041 => e = .exit 0 ∧ t = ⟨[(3, .own 21)], [(21, some (.row 1 5 (x2041.map (encInt .u8))))], 0⟩)) ⟨[(3, .own 10), (8, .im (.row (a0.map eLabel))), (9, iV .i64 (a0.length : Int)), (10, iV .i64 x2016)], [(10, some (.row 1 5 (x2015.map (encInt .u8))))], 0⟩) ?_ _ _ _ e2043
    clear H e2043 o2042; intro self ih x2015 x2016 o2042 H
    subst hbody
    refine LWp.round ?_
    refine AWp.seq ?_
    refine reg hP hn hm [] [3, 8, 9, 10, 11] [10] ⟨[(3, .own 10), (8, .im (.row (a0.map eLabel))), (9, iV .i64 (a0.length : Int)), (10, iV .i64 x2016), (11, bV (decide (x2016 < (a0.length : Int))))], [(10, some (.row 1 5 (x2015.map (encInt .u8))))], 0⟩ [] (by kernel_rfl) trivial ?_
    refine AWp.seq ?_
    refine AWp.cond (decide (x2016 < (a0.length : Int))) rfl (fun c2017 => ?_) (fun c2017 => ?_)
    · replace H := (ifT c2017).symm.trans H
      refine AWp.skip ?_
      refine AWp.seq ?_
      refine AWp.block ?_
      refine AWp.seq ?_
      obtain ⟨b2021, p2022, q2023, H⟩ := at_of H
      refine reg hP hn hm [(0, .c (eLabel b2021)), (2, .k 11)] [3, 5, 8, 9, 10] [10, 11] ⟨[(3, .own 10), (5, .ptr 11 0 0), (8, .im (.row (a0.map eLabel))), (9, iV .i64 (a0.length : Int)), (10, iV .i64 x2016)], [(10, some (.row 1 5 (x2015.map (encInt .u8)))), (11, some (.box 67 (aLabel b2021)))], 0⟩ [0 ≤ x2016, (a0.map eLabel)[(Int.toNat (x2016))]? = some (eLabel b2021)] (by kernel_rfl) ⟨by exact p2022, by exact el_map eLabel q2023, trivial⟩ ?_
      refine AWp.seq ?_
      refine reg hP hn hm [] [3, 8, 9, 10, 18, 19] [10] ⟨[(3, .own 10), (8, .im (.row (a0.map eLabel))), (9, iV .i64 (a0.length : Int)), (10, iV .i64 x2016), (18, .agg (aLabel b2021)), (19, iV .i64 0)], [(10, some (.row 1 5 (x2015.map (encInt .u8))))], 0⟩ [] (by kernel_rfl) trivial ?_
      refine AWp.block ?_
      obtain ⟨o2044, e2045, H⟩ := bind_of H
      refine AWp.loop (LWp.conv (inv := [(10, 15)]) (vk := []) (e0 := []) (t := ⟨[(3, .own 15), (8, .im (.row (a0.map eLabel))), (9, iV .i64 (a0.length : Int)), (10, iV .i64 x2016), (18, .agg (aLabel b2021)), (19, iV .i64 0)], [(15, some (.row 1 5 (x2015.map (encInt .u8))))], 0⟩) (by kernel_rfl) ?_)
      refine LWp.mono (Q := fun e s => (match (generalizing := false) o2044 with | x2040 => e = .exit 2 ∧ s = ⟨[(3, .own 20), (8, .im (.row (a0.map eLabel))), (9, iV .i64 (a0.length : Int)), (10, iV .i64 x2016)], [(20, some (.row 1 5 (x2040.map (encInt .u8))))], 0⟩)) (LWp.cv (withBody (fun body hbody => ?_))) ?_
      · refine f_label_Key.l1.partial_correctness a0 b2021 x2016 (motive := fun x2028 x2029 o2044 => LWp Γ body (fun e s => ∃ t, Cv Γ s t ∧ (match (generalizing := false) o2044 with | x2040 => e = .exit 2 ∧ t = ⟨[(3, .own 20), (8, .im (.row (a0.map eLabel))), (9, iV .i64 (a0.length : Int)), (10, iV .i64 x2016)], [(20, some (.row 1 5 (x2040.map (encInt .u8))))], 0⟩)) ⟨[(3, .own 15), (8, .im (.row (a0.map eLabel))), (9, iV .i64 (a0.length : Int)), (10, iV .i64 x2016), (18, .agg (aLabel b2021)), (19, iV .i64 x2029)], [(15, some (.row 1 5 (x2028.map (encInt .u8))))], 0⟩) ?_ _ _ _ e2045
        clear H e2045 o2044; intro self ih x2028 x2029 o2044 H
        subst hbody
        refine LWp.round ?_
        refine AWp.seq ?_
        refine reg hP hn hm [] [3, 8, 9, 10, 18, 19, 20] [15] ⟨[(3, .own 15), (8, .im (.row (a0.map eLabel))), (9, iV .i64 (a0.length : Int)), (10, iV .i64 x2016), (18, .agg (aLabel b2021)), (19, iV .i64 x2029), (20, bV (decide (x2029 < (2 : Int))))], [(15, some (.row 1 5 (x2028.map (encInt .u8))))], 0⟩ [] (by kernel_rfl) trivial ?_
        refine AWp.seq ?_
        refine AWp.cond (decide (x2029 < (2 : Int))) rfl (fun c2030 => ?_) (fun c2030 => ?_)
        · replace H := (ifT c2030).symm.trans H
          refine AWp.skip ?_
          refine AWp.seq ?_
          refine AWp.block ?_
          refine AWp.seq ?_
          obtain ⟨o2046, e2047, H⟩ := bind_of H
          refine AWp.mono (Q := fun e s => (match (generalizing := false) o2046 with | x2035 => e = .normal ∧ s = ⟨[(3, .own 16), (7, sV x2035), (8, .im (.row (a0.map eLabel))), (9, iV .i64 (a0.length : Int)), (10, iV .i64 x2016), (18, .agg (aLabel b2021)), (19, iV .i64 x2029)], [(16, some (.row 1 5 (x2028.map (encInt .u8))))], 0⟩)) (AWp.cv ?_) ?_
          · replace H := e2047; clear e2047
            obtain ⟨c2033, H⟩ := chk_of H
            rcases Bool.eq_false_or_eq_true (x2029 == (0 : Int)) with c2034 | c2034
            · replace H := (ifT c2034).symm.trans H
              refine reg hP hn hm [(0, .more (xIdx 0))] [3, 7, 8, 9, 10, 18, 19] [15] ⟨[(3, .own 15), (7, sV b2021.f0), (8, .im (.row (a0.map eLabel))), (9, iV .i64 (a0.length : Int)), (10, iV .i64 x2016), (18, .agg (aLabel b2021)), (19, iV .i64 x2029)], [(15, some (.row 1 5 (x2028.map (encInt .u8))))], 0⟩ [x2029 = ((0 : Nat) : Int)] (by kernel_rfl) ⟨by exact (by simpa using c2034), trivial⟩ ?_
              obtain rfl := Option.some.inj H
              exact Exists.intro _ (And.intro (fun _ _ h => h.conv (inv := [(15, 16)]) (vk := []) (e0 := []) (t := ⟨[(3, .own 16), (7, sV b2021.f0), (8, .im (.row (a0.map eLabel))), (9, iV .i64 (a0.length : Int)), (10, iV .i64 x2016), (18, .agg (aLabel b2021)), (19, iV .i64 x2029)], [(16, some (.row 1 5 (x2028.map (encInt .u8))))], 0⟩) (by kernel_rfl)) (And.intro rfl rfl))
            · replace H := (ifF c2034).symm.trans H
              refine reg hP hn hm [(0, .more (xIdx 1))] [3, 7, 8, 9, 10, 18, 19] [15] ⟨[(3, .own 15), (7, sV b2021.f1), (8, .im (.row (a0.map eLabel))), (9, iV .i64 (a0.length : Int)), (10, iV .i64 x2016), (18, .agg (aLabel b2021)), (19, iV .i64 x2029)], [(15, some (.row 1 5 (x2028.map (encInt .u8))))], 0⟩ [x2029 = ((1 : Nat) : Int)] (by kernel_rfl) ⟨by have := c2033; simp only [beq_eq_false_iff_ne] at *; omega, trivial⟩ ?_
              obtain rfl := Option.some.inj H
              exact Exists.intro _ (And.intro (fun _ _ h => h.conv (inv := [(15, 16)]) (vk := []) (e0 := []) (t := ⟨[(3, .own 16), (7, sV b2021.f1), (8, .im (.row (a0.map eLabel))), (9, iV .i64 (a0.length : Int)), (10, iV .i64 x2016), (18, .agg (aLabel b2021)), (19, iV .i64 x2029)], [(16, some (.row 1 5 (x2028.map (encInt .u8))))], 0⟩) (by kernel_rfl)) (And.intro rfl rfl))
          · obtain ⟨x2035, rfl⟩ : ∃ z, z = o2046 := ⟨_, rfl⟩
            rintro e s ⟨rfl, rfl⟩
            obtain ⟨c2038, H⟩ := chk_of H
            obtain ⟨c2039, H⟩ := chk_of H
            refine reg hP hn hm [(4, .app 17 ([IntKind.u8.wrap ((x2035.size : Int))].map (encInt .u8))), (5, .app 18 ((x2028 ++ [IntKind.u8.wrap ((x2035.size : Int))]).map (encInt .u8))), (7, .more (xAppStr 19 (((x2028 ++ [IntKind.u8.wrap ((x2035.size : Int))]) ++ bytesL x2035).map (encInt .u8))))] [3, 8, 9, 10, 18, 19] [19] ⟨[(3, .own 19), (8, .im (.row (a0.map eLabel))), (9, iV .i64 (a0.length : Int)), (10, iV .i64 x2016), (18, .agg (aLabel b2021)), (19, iV .i64 x2029)], [(19, some (.row 1 5 (((x2028 ++ [IntKind.u8.wrap ((x2035.size : Int))]) ++ bytesL x2035).map (encInt .u8))))], 0⟩ [[IntKind.u8.wrap ((x2035.size : Int))].map (encInt .u8) = [[iI .u8 (IntKind.u8.wrap ((x2035.size : Int)))]], (x2028 ++ [IntKind.u8.wrap ((x2035.size : Int))]).map (encInt .u8) = (x2028.map (encInt .u8)) ++ ([IntKind.u8.wrap ((x2035.size : Int))].map (encInt .u8)), ∀ c ∈ ([IntKind.u8.wrap ((x2035.size : Int))].map (encInt .u8)), c.length = 1, ∀ c ∈ ([IntKind.u8.wrap ((x2035.size : Int))].map (encInt .u8)), leaves (c.map .im) = true, ((x2028.map (encInt .u8)).length + ([IntKind.u8.wrap ((x2035.size : Int))].map (encInt .u8)).length) * 1 ≤ 140737488355328, ((x2028 ++ [IntKind.u8.wrap ((x2035.size : Int))]) ++ bytesL x2035).map (encInt .u8) = (x2028 ++ [IntKind.u8.wrap ((x2035.size : Int))]).map (encInt .u8) ++ (bytesL x2035).map (encInt .u8), (((x2028 ++ [IntKind.u8.wrap ((x2035.size : Int))]).map (encInt .u8)).length + x2035.size) * 1 ≤ 140737488355328] (by kernel_rfl) ⟨by exact rfl, by simp, by exact all_len _ _ _ (fun _ => rfl), by exact all_leaf _ _ (fun _ => rfl), by simpa using c2038, by simp, by simpa using c2039, trivial⟩ ?_
            refine reg hP hn hm [] [3, 8, 9, 10, 18, 19] [19] ⟨[(3, .own 19), (8, .im (.row (a0.map eLabel))), (9, iV .i64 (a0.length : Int)), (10, iV .i64 x2016), (18, .agg (aLabel b2021)), (19, iV .i64 (IntKind.i64.wrap (x2029 + (1 : Int))))], [(19, some (.row 1 5 (((x2028 ++ [IntKind.u8.wrap ((x2035.size : Int))]) ++ bytesL x2035).map (encInt .u8))))], 0⟩ [] (by kernel_rfl) trivial ?_
            exact LWp.conv (inv := [(19, 15)]) (vk := []) (e0 := []) (t := ⟨[(3, .own 15), (8, .im (.row (a0.map eLabel))), (9, iV .i64 (a0.length : Int)), (10, iV .i64 x2016), (18, .agg (aLabel b2021)), (19, iV .i64 (IntKind.i64.wrap (x2029 + (1 : Int))))], [(15, some (.row 1 5 (((x2028 ++ [IntKind.u8.wrap ((x2035.size : Int))]) ++ bytesL x2035).map (encInt .u8))))], 0⟩) (by kernel_rfl) (ih _ _ _ H)
        · replace H := (ifF c2030).symm.trans H
          refine AWp.exit ?_
          obtain rfl := Option.some.inj H
          exact Exists.intro _ (And.intro (fun _ _ h => h.conv (inv := [(15, 20)]) (vk := []) (e0 := []) (t := ⟨[(3, .own 20), (8, .im (.row (a0.map eLabel))), (9, iV .i64 (a0.length : Int)), (10, iV .i64 x2016)], [(20, some (.row 1 5 (x2028.map (encInt .u8))))], 0⟩) (by kernel_rfl)) (And.intro rfl rfl))
      · obtain ⟨x2040, rfl⟩ : ∃ z, z = o2044 := ⟨_, rfl⟩
        rintro e s ⟨rfl, rfl⟩
        refine reg hP hn hm [] [3, 8, 9, 10] [20] ⟨[(3, .own 20), (8, .im (.row (a0.map eLabel))), (9, iV .i64 (a0.length : Int)), (10, iV .i64 (IntKind.i64.wrap (x2016 + (1 : Int))))], [(20, some (.row 1 5 (x2040.map (encInt .u8))))], 0⟩ [] (by kernel_rfl) trivial ?_
        exact LWp.conv (inv := [(20, 10)]) (vk := []) (e0 := []) (t := ⟨[(3, .own 10), (8, .im (.row (a0.map eLabel))), (9, iV .i64 (a0.length : Int)), (10, iV .i64 (IntKind.i64.wrap (x2016 + (1 : Int))))], [(10, some (.row 1 5 (x2040.map (encInt .u8))))], 0⟩) (by kernel_rfl) (ih _ _ _ H)
    · replace H := (ifF c2017).symm.trans H
      refine AWp.exit ?_
      obtain rfl := Option.some.inj H
      exact Exists.intro _ (And.intro (fun _ _ h => h.conv (inv := [(10, 21)]) (vk := []) (e0 := []) (t := ⟨[(3, .own 21)], [(21, some (.row 1 5 (x2015.map (encInt .u8))))], 0⟩) (by kernel_rfl)) (And.intro rfl rfl))
  · obtain ⟨x2041, rfl⟩ : ∃ z, z = o2042 := ⟨_, rfl⟩
    rintro e s ⟨rfl, rfl⟩
    refine AWp.seq ?_
    refine reg hP hn hm [(1, .more (xStr x2041))] [2] [] ⟨[(2, sV (strOf x2041))], [], 0⟩ [x2041.map (encInt .u8) = x2041.map (encInt .u8)] (by kernel_rfl) ⟨by exact rfl, trivial⟩ ?_
    refine AWp.conv (inv := []) (vk := []) (e0 := []) (t := ⟨[(2, sV (strOf x2041))], [], 0⟩) (by kernel_rfl) ?_
    refine AWp.ret ?_
    obtain rfl := Option.some.inj H
    exact Exists.intro _ (And.intro (fun _ _ h => h) (And.intro (.inl rfl) (And.intro rfl (And.intro (by kernel_rfl) (by kernel_rfl)))))
def f_pluviallaw10_LabelKeys.l0 (a0 : List TLabel) (a1 : List TLabel) (a2 : Int) (x1874 : List TLabel) (x1875 : List ByteArray) (x1876 : Int) : Option ((List TLabel) × (List ByteArray)) := if (decide (x1876 < (a0.length : Int))) = true then ((chk ((a0.length : Int) ≠ 0)) >>= fun _ => (at? a0 (Int.tmod (IntKind.i64.wrap (x1876 + (IntKind.i64.wrap (a2)))) (a0.length : Int))) >>= fun b1884 => (chk ((x1874.length + [b1884].length) * 32 ≤ 140737488355328)) >>= fun _ => (at? a0 x1876) >>= fun b1892 => (chk ((x1875.length + [b1892.f0].length) * 16 ≤ 140737488355328)) >>= fun _ => f_pluviallaw10_LabelKeys.l0 a0 a1 a2 (x1874 ++ [b1884]) (x1875 ++ [b1892.f0]) (IntKind.i64.wrap (x1876 + (1 : Int)))) else (some (x1874, x1875))
partial_fixpoint
def f_pluviallaw10_LabelKeys.f (a0 : List TLabel) (a1 : List TLabel) (a2 : Int) : Option (Bool) := (((f_pluviallaw10_Light.f a0) >>= fun t1843 => if (!t1843) = true then (some true) else ((f_pluviallaw10_Light.f a1) >>= fun t1846 => if (!t1846) = true then (some true) else (some ((a0.length : Int) == (0 : Int))))) : Option (Bool)) >>= fun x1849 => if x1849 = true then ((f_pluviallaw10_awake.f) >>= fun t1853 => some t1853) else ((f_pluviallaw10_LabelKeys.l0 a0 a1 a2 [] [] 0) >>= fun oo => match oo with | (x1896, x1897) => ((f_label_Make.f a0) >>= fun t1900 => (f_label_Make.f x1896) >>= fun t1906 => ((if (t1900.2 != t1906.2) = true then (some true) else (if (t1900.2 == (0 : Int)) = true then ((f_pluviallaw10_same.f t1900.1 t1906.1) >>= fun t1953 => if (!t1953) = true then (some true) else ((f_label_By.f a0 x1897) >>= fun t1956 => (f_pluviallaw10_same.f t1956 a0) >>= fun t1958 => if (!t1958) = true then (some true) else ((f_label_By.f a0 ([] : List ByteArray)) >>= fun t1961 => some ((t1961.length : Int) != (0 : Int))))) else ((f_label_By.f a0 x1897) >>= fun t1963 => (f_pluviallaw10_same.f t1963 a0) >>= fun t1965 => if (!t1965) = true then (some true) else ((f_label_By.f a0 ([] : List ByteArray)) >>= fun t1968 => some ((t1968.length : Int) != (0 : Int)))))) : Option (Bool)) >>= fun x1970 => if x1970 = true then (some false) else ((((f_pluvialref10_Check.f a0) >>= fun t1977 => if (t1977 != (0 : Int)) = true then (some true) else ((f_pluvialref10_Check.f a1) >>= fun t1980 => some (t1980 != (0 : Int)))) : Option (Bool)) >>= fun x1982 => if x1982 = true then ((f_pluviallaw10_awake.f) >>= fun t1986 => some t1986) else ((((f_pluviallaw10_awake.f) >>= fun t2059 => if t2059 = true then ((f_label_Key.f a0) >>= fun t2062 => (f_label_Key.f a1) >>= fun t2064 => (f_label_Compare.f a0 a1) >>= fun t2066 => if ((t2062.toList == t2064.toList) == (t2066 == (0 : Int))) = true then ((f_label_Compare.f a0 a1) >>= fun t2069 => (f_label_Compare.f a1 a0) >>= fun t2071 => some (t2069 == (IntKind.i64.wrap (0 - t2071)))) else (some false)) else (some false)) : Option (Bool)) >>= fun x2073 => some x2073))))
theorem f_pluviallaw10_LabelKeys.ok (a0 : List TLabel) (a1 : List TLabel) (a2 : Int) (r : Bool) (H : f_pluviallaw10_LabelKeys.f a0 a1 a2 = some r) : Pv.Fn Try.prog 10 [.im (.row (a0.map eLabel)), .im (.row (a1.map eLabel)), iV .u8 a2] [] 0 (fun x o => x = bV r ∧ o = []) := by
  unfold f_pluviallaw10_LabelKeys.f at H
  refine Fn.bodyK [] Try.func10 rfl rfl (fun Γ hP hn => ?_)
  have hm : Try.prog.follows .mixedOrders = true := by kernel_rfl
  replace hn : Γ.n = 124 := hn
  refine AWp.seq ?_
  refine reg hP hn hm [] [0, 1, 2] [] ⟨[(0, .im (.row (a0.map eLabel))), (1, .im (.row (a1.map eLabel))), (2, iV .u8 a2)], [], 0⟩ [] (by kernel_rfl) trivial ?_
  refine AWp.seq ?_
  refine AWp.seq ?_
  obtain ⟨o2074, e2075, H⟩ := bind_of H
  refine AWp.mono (Q := fun e s => (match (generalizing := false) o2074 with | x1849 => e = .normal ∧ s = ⟨[(0, .im (.row (a0.map eLabel))), (1, .im (.row (a1.map eLabel))), (2, iV .u8 a2), (26, bV x1849)], [], 0⟩)) (AWp.cv ?_) ?_
  · replace H := e2075; clear e2075
    obtain ⟨t1843, e1844, H⟩ := bind_of H
    rcases Bool.eq_false_or_eq_true (!t1843) with c1845 | c1845
    · replace H := (ifT c1845).symm.trans H
      refine reg hP hn hm [(1, .call [] [] [] [] 0 (bV t1843) []), (3, .b true)] [0, 1, 2, 26] [] ⟨[(0, .im (.row (a0.map eLabel))), (1, .im (.row (a1.map eLabel))), (2, iV .u8 a2), (26, bV true)], [], 0⟩ [Enters Try.prog 20, Pv.Fn Try.prog 20 [.im (.row (a0.map eLabel))] [] 0 (fun r o => r = bV t1843 ∧ o = []), (!t1843) = true] (by kernel_rfl) ⟨by exact Try.call20, by exact f_pluviallaw10_Light.ok a0 t1843 e1844, by exact c1845, trivial⟩ ?_
      obtain rfl := Option.some.inj H
      exact Exists.intro _ (And.intro (fun _ _ h => h.conv (inv := []) (vk := []) (e0 := []) (t := ⟨[(0, .im (.row (a0.map eLabel))), (1, .im (.row (a1.map eLabel))), (2, iV .u8 a2), (26, bV true)], [], 0⟩) (by kernel_rfl)) (And.intro rfl rfl))
    · replace H := (ifF c1845).symm.trans H
      obtain ⟨t1846, e1847, H⟩ := bind_of H
      rcases Bool.eq_false_or_eq_true (!t1846) with c1848 | c1848
      · replace H := (ifT c1848).symm.trans H
        refine reg hP hn hm [(1, .call [] [] [] [] 0 (bV t1843) []), (3, .b false), (5, .call [] [] [] [] 0 (bV t1846) []), (8, .b true)] [0, 1, 2, 26] [] ⟨[(0, .im (.row (a0.map eLabel))), (1, .im (.row (a1.map eLabel))), (2, iV .u8 a2), (26, bV true)], [], 0⟩ [Enters Try.prog 20, Pv.Fn Try.prog 20 [.im (.row (a0.map eLabel))] [] 0 (fun r o => r = bV t1843 ∧ o = []), (!t1843) = false, Enters Try.prog 20, Pv.Fn Try.prog 20 [.im (.row (a1.map eLabel))] [] 0 (fun r o => r = bV t1846 ∧ o = []), (!t1846) = true] (by kernel_rfl) ⟨by exact Try.call20, by exact f_pluviallaw10_Light.ok a0 t1843 e1844, by exact c1845, by exact Try.call20, by exact f_pluviallaw10_Light.ok a1 t1846 e1847, by exact c1848, trivial⟩ ?_
        obtain rfl := Option.some.inj H
        exact Exists.intro _ (And.intro (fun _ _ h => h.conv (inv := []) (vk := []) (e0 := []) (t := ⟨[(0, .im (.row (a0.map eLabel))), (1, .im (.row (a1.map eLabel))), (2, iV .u8 a2), (26, bV true)], [], 0⟩) (by kernel_rfl)) (And.intro rfl rfl))
      · replace H := (ifF c1848).symm.trans H
        refine reg hP hn hm [(1, .call [] [] [] [] 0 (bV t1843) []), (3, .b false), (5, .call [] [] [] [] 0 (bV t1846) []), (8, .b false), (10, .any (iV .i64 (a0.length : Int)))] [0, 1, 2, 26] [] ⟨[(0, .im (.row (a0.map eLabel))), (1, .im (.row (a1.map eLabel))), (2, iV .u8 a2), (26, bV ((a0.length : Int) == (0 : Int)))], [], 0⟩ [Enters Try.prog 20, Pv.Fn Try.prog 20 [.im (.row (a0.map eLabel))] [] 0 (fun r o => r = bV t1843 ∧ o = []), (!t1843) = false, Enters Try.prog 20, Pv.Fn Try.prog 20 [.im (.row (a1.map eLabel))] [] 0 (fun r o => r = bV t1846 ∧ o = []), (!t1846) = false, ((a0.map eLabel).length : Int) = (a0.length : Int)] (by kernel_rfl) ⟨by exact Try.call20, by exact f_pluviallaw10_Light.ok a0 t1843 e1844, by exact c1845, by exact Try.call20, by exact f_pluviallaw10_Light.ok a1 t1846 e1847, by exact c1848, by rw [len_map], trivial⟩ ?_
        obtain rfl := Option.some.inj H
        exact Exists.intro _ (And.intro (fun _ _ h => h.conv (inv := []) (vk := []) (e0 := []) (t := ⟨[(0, .im (.row (a0.map eLabel))), (1, .im (.row (a1.map eLabel))), (2, iV .u8 a2), (26, bV ((a0.length : Int) == (0 : Int)))], [], 0⟩) (by kernel_rfl)) (And.intro rfl rfl))
  · obtain ⟨x1849, rfl⟩ : ∃ z, z = o2074 := ⟨_, rfl⟩
    rintro e s ⟨rfl, rfl⟩
    refine AWp.cond x1849 rfl (fun c1850 => ?_) (fun c1850 => ?_)
    · replace H := (ifT c1850).symm.trans H
      refine AWp.seq ?_
      obtain ⟨t1853, e1854, H⟩ := bind_of H
      refine reg hP hn hm [(0, .call [] [] [] [] 0 (bV t1853) [])] [6] [] ⟨[(6, bV t1853)], [], 0⟩ [Enters Try.prog 11, Pv.Fn Try.prog 11 [] [] 0 (fun r o => r = bV t1853 ∧ o = [])] (by kernel_rfl) ⟨by exact Try.call11, by exact f_pluviallaw10_awake.ok  t1853 e1854, trivial⟩ ?_
      refine AWp.conv (inv := []) (vk := []) (e0 := []) (t := ⟨[(6, bV t1853)], [], 0⟩) (by kernel_rfl) ?_
      refine AWp.ret ?_
      obtain rfl := Option.some.inj H
      exact Exists.intro _ (And.intro (fun _ _ h => h) (And.intro (.inl rfl) (And.intro rfl (And.intro (by kernel_rfl) (by kernel_rfl)))))
    · replace H := (ifF c1850).symm.trans H
      refine AWp.skip ?_
      refine AWp.seq ?_
      refine reg hP hn hm [] [0, 1, 2, 7] [] ⟨[(0, .im (.row (a0.map eLabel))), (1, .im (.row (a1.map eLabel))), (2, iV .u8 a2), (7, .none0)], [], 0⟩ [] (by kernel_rfl) trivial ?_
      refine AWp.seq ?_
      refine reg hP hn hm [] [0, 1, 2, 7, 8] [] ⟨[(0, .im (.row (a0.map eLabel))), (1, .im (.row (a1.map eLabel))), (2, iV .u8 a2), (7, .none0), (8, .none0)], [], 0⟩ [] (by kernel_rfl) trivial ?_
      refine AWp.seq ?_
      refine AWp.seq ?_
      refine reg hP hn hm [(1, .any (iV .i64 (a0.length : Int)))] [0, 1, 2, 7, 8, 29, 30] [] ⟨[(0, .im (.row (a0.map eLabel))), (1, .im (.row (a1.map eLabel))), (2, iV .u8 a2), (7, .none0), (8, .none0), (29, iV .i64 (a0.length : Int)), (30, iV .i64 0)], [], 0⟩ [((a0.map eLabel).length : Int) = (a0.length : Int)] (by kernel_rfl) ⟨by rw [len_map], trivial⟩ ?_
      refine AWp.block ?_
      obtain ⟨o2076, e2077, H⟩ := bind_of H
      refine AWp.loop (LWp.conv (inv := []) (vk := []) (e0 := [4, 5]) (t := ⟨[(0, .im (.row (a0.map eLabel))), (1, .im (.row (a1.map eLabel))), (2, iV .u8 a2), (7, .own 4), (8, .own 5), (29, iV .i64 (a0.length : Int)), (30, iV .i64 0)], [(4, some (.row 2 67 ([].map eLabel))), (5, some (.row 1 9 ([].map encStr)))], 0⟩) (by kernel_rfl) ?_)
      refine LWp.mono (Q := fun e s => (match (generalizing := false) o2076 with | (x1896, x1897) => e = .exit 0 ∧ s = ⟨[(0, .im (.row (a0.map eLabel))), (1, .im (.row (a1.map eLabel))), (7, .own 10), (8, .own 11)], [(10, some (.row 2 67 (x1896.map eLabel))), (11, some (.row 1 9 (x1897.map encStr)))], 0⟩)) (LWp.cv (withBody (fun body hbody => ?_))) ?_
      · refine f_pluviallaw10_LabelKeys.l0.partial_correctness a0 a1 a2 (motive := fun x1874 x1875 x1876 o2076 => LWp Γ body (fun e s => ∃ t, Cv Γ s t ∧ (match (generalizing := false) o2076 with | (x1896, x1897) => e = .exit 0 ∧ t = ⟨[(0, .im (.row (a0.map eLabel))), (1, .im (.row (a1.map eLabel))), (7, .own 10), (8, .own 11)], [(10, some (.row 2 67 (x1896.map eLabel))), (11, some (.row 1 9 (x1897.map encStr)))], 0⟩)) ⟨[(0, .im (.row (a0.map eLabel))), (1, .im (.row (a1.map eLabel))), (2, iV .u8 a2), (7, .own 4), (8, .own 5), (29, iV .i64 (a0.length : Int)), (30, iV .i64 x1876)], [(4, some (.row 2 67 (x1874.map eLabel))), (5, some (.row 1 9 (x1875.map encStr)))], 0⟩) ?_ _ _ _ _ e2077
        clear H e2077 o2076; intro self ih x1874 x1875 x1876 o2076 H
        subst hbody
        refine LWp.round ?_
        refine AWp.seq ?_
        refine reg hP hn hm [] [0, 1, 2, 7, 8, 29, 30, 31] [4, 5] ⟨[(0, .im (.row (a0.map eLabel))), (1, .im (.row (a1.map eLabel))), (2, iV .u8 a2), (7, .own 4), (8, .own 5), (29, iV .i64 (a0.length : Int)), (30, iV .i64 x1876), (31, bV (decide (x1876 < (a0.length : Int))))], [(4, some (.row 2 67 (x1874.map eLabel))), (5, some (.row 1 9 (x1875.map encStr)))], 0⟩ [] (by kernel_rfl) trivial ?_
        refine AWp.seq ?_
        refine AWp.cond (decide (x1876 < (a0.length : Int))) rfl (fun c1877 => ?_) (fun c1877 => ?_)
        · replace H := (ifT c1877).symm.trans H
          refine AWp.skip ?_
          refine AWp.seq ?_
          refine AWp.block ?_
          refine AWp.seq ?_
          refine reg hP hn hm [] [0, 1, 2, 7, 8, 9, 29, 30] [4, 5] ⟨[(0, .im (.row (a0.map eLabel))), (1, .im (.row (a1.map eLabel))), (2, iV .u8 a2), (7, .own 4), (8, .own 5), (9, iV .i64 x1876), (29, iV .i64 (a0.length : Int)), (30, iV .i64 x1876)], [(4, some (.row 2 67 (x1874.map eLabel))), (5, some (.row 1 9 (x1875.map encStr)))], 0⟩ [] (by kernel_rfl) trivial ?_
          refine AWp.seq ?_
          obtain ⟨c1883, H⟩ := chk_of H
          obtain ⟨b1884, p1885, q1886, H⟩ := at_of H
          obtain ⟨c1887, H⟩ := chk_of H
          refine reg hP hn hm [(7, .any (iV .i64 (a0.length : Int))), (9, .c (eLabel b1884)), (11, .app 6 ([b1884].map eLabel)), (12, .app 7 ((x1874 ++ [b1884]).map eLabel))] [0, 1, 2, 7, 8, 9, 29, 30] [5, 7] ⟨[(0, .im (.row (a0.map eLabel))), (1, .im (.row (a1.map eLabel))), (2, iV .u8 a2), (7, .own 7), (8, .own 5), (9, iV .i64 x1876), (29, iV .i64 (a0.length : Int)), (30, iV .i64 x1876)], [(5, some (.row 1 9 (x1875.map encStr))), (7, some (.row 2 67 ((x1874 ++ [b1884]).map eLabel)))], 0⟩ [((a0.map eLabel).length : Int) = (a0.length : Int), (a0.length : Int) ≠ 0, 0 ≤ (Int.tmod (IntKind.i64.wrap (x1876 + (IntKind.i64.wrap (a2)))) (a0.length : Int)), (a0.map eLabel)[(Int.toNat (Int.tmod (IntKind.i64.wrap (x1876 + (IntKind.i64.wrap (a2)))) (a0.length : Int)))]? = some (eLabel b1884), [b1884].map eLabel = [[sI b1884.f0, sI b1884.f1]], (x1874 ++ [b1884]).map eLabel = (x1874.map eLabel) ++ ([b1884].map eLabel), ∀ c ∈ ([b1884].map eLabel), c.length = 2, ∀ c ∈ ([b1884].map eLabel), leaves (c.map .im) = true, ((x1874.map eLabel).length + ([b1884].map eLabel).length) * 32 ≤ 140737488355328] (by kernel_rfl) ⟨by rw [len_map], by exact c1883, by exact p1885, by exact el_map eLabel q1886, by exact rfl, by simp, by exact all_len _ _ _ (fun _ => rfl), by exact all_leaf _ _ (fun _ => rfl), by simpa using c1887, trivial⟩ ?_
          obtain ⟨b1892, p1893, q1894, H⟩ := at_of H
          obtain ⟨c1895, H⟩ := chk_of H
          refine reg hP hn hm [(3, .c (eLabel b1892)), (6, .app 8 ([b1892.f0].map encStr)), (7, .app 9 ((x1875 ++ [b1892.f0]).map encStr))] [0, 1, 2, 7, 8, 29, 30] [7, 9] ⟨[(0, .im (.row (a0.map eLabel))), (1, .im (.row (a1.map eLabel))), (2, iV .u8 a2), (7, .own 7), (8, .own 9), (29, iV .i64 (a0.length : Int)), (30, iV .i64 x1876)], [(7, some (.row 2 67 ((x1874 ++ [b1884]).map eLabel))), (9, some (.row 1 9 ((x1875 ++ [b1892.f0]).map encStr)))], 0⟩ [0 ≤ x1876, (a0.map eLabel)[(Int.toNat (x1876))]? = some (eLabel b1892), [b1892.f0].map encStr = [[sI b1892.f0]], (x1875 ++ [b1892.f0]).map encStr = (x1875.map encStr) ++ ([b1892.f0].map encStr), ∀ c ∈ ([b1892.f0].map encStr), c.length = 1, ∀ c ∈ ([b1892.f0].map encStr), leaves (c.map .im) = true, ((x1875.map encStr).length + ([b1892.f0].map encStr).length) * 16 ≤ 140737488355328] (by kernel_rfl) ⟨by exact p1893, by exact el_map eLabel q1894, by exact rfl, by simp, by exact all_len _ _ _ (fun _ => rfl), by exact all_leaf _ _ (fun _ => rfl), by simpa using c1895, trivial⟩ ?_
          refine reg hP hn hm [] [0, 1, 2, 7, 8, 29, 30] [7, 9] ⟨[(0, .im (.row (a0.map eLabel))), (1, .im (.row (a1.map eLabel))), (2, iV .u8 a2), (7, .own 7), (8, .own 9), (29, iV .i64 (a0.length : Int)), (30, iV .i64 (IntKind.i64.wrap (x1876 + (1 : Int))))], [(7, some (.row 2 67 ((x1874 ++ [b1884]).map eLabel))), (9, some (.row 1 9 ((x1875 ++ [b1892.f0]).map encStr)))], 0⟩ [] (by kernel_rfl) trivial ?_
          exact LWp.conv (inv := [(7, 4), (9, 5)]) (vk := []) (e0 := []) (t := ⟨[(0, .im (.row (a0.map eLabel))), (1, .im (.row (a1.map eLabel))), (2, iV .u8 a2), (7, .own 4), (8, .own 5), (29, iV .i64 (a0.length : Int)), (30, iV .i64 (IntKind.i64.wrap (x1876 + (1 : Int))))], [(4, some (.row 2 67 ((x1874 ++ [b1884]).map eLabel))), (5, some (.row 1 9 ((x1875 ++ [b1892.f0]).map encStr)))], 0⟩) (by kernel_rfl) (ih _ _ _ _ H)
        · replace H := (ifF c1877).symm.trans H
          refine AWp.exit ?_
          obtain rfl := Option.some.inj H
          exact Exists.intro _ (And.intro (fun _ _ h => h.conv (inv := [(4, 10), (5, 11)]) (vk := []) (e0 := []) (t := ⟨[(0, .im (.row (a0.map eLabel))), (1, .im (.row (a1.map eLabel))), (7, .own 10), (8, .own 11)], [(10, some (.row 2 67 (x1874.map eLabel))), (11, some (.row 1 9 (x1875.map encStr)))], 0⟩) (by kernel_rfl)) (And.intro rfl rfl))
      · obtain ⟨x1896, x1897⟩ := o2076
        rintro e s ⟨rfl, rfl⟩
        refine AWp.seq ?_
        obtain ⟨t1900, e1901, H⟩ := bind_of H
        refine reg hP hn hm [(1, .call [] [(0, 12)] [] [12] 0 (.tup [.own 0, iV .i64 t1900.2]) [(0, some (.row 2 67 (t1900.1.map eLabel)))])] [0, 1, 7, 8, 10, 11] [10, 11, 12] ⟨[(0, .im (.row (a0.map eLabel))), (1, .im (.row (a1.map eLabel))), (7, .own 10), (8, .own 11), (10, .own 12), (11, iV .i64 t1900.2)], [(10, some (.row 2 67 (x1896.map eLabel))), (11, some (.row 1 9 (x1897.map encStr))), (12, some (.row 2 67 (t1900.1.map eLabel)))], 0⟩ [Enters Try.prog 38, Pv.Fn Try.prog 38 [.im (.row (a0.map eLabel))] [] 0 (fun r o => r = .tup [.own 0, iV .i64 t1900.2] ∧ o = [(0, some (.row 2 67 (t1900.1.map eLabel)))])] (by kernel_rfl) ⟨by exact Try.call38, by exact f_label_Make.ok a0 t1900 e1901, trivial⟩ ?_
        refine AWp.seq ?_
        refine AWp.conv (inv := [(11, 11), (12, 12)]) (vk := [10]) (e0 := []) (t := ⟨[(0, .im (.row (a0.map eLabel))), (1, .im (.row (a1.map eLabel))), (7, .im (.row (x1896.map eLabel))), (8, .own 11), (10, .own 12), (11, iV .i64 t1900.2)], [(11, some (.row 1 9 (x1897.map encStr))), (12, some (.row 2 67 (t1900.1.map eLabel)))], 0⟩) (by kernel_rfl) ?_
        obtain ⟨t1906, e1907, H⟩ := bind_of H
        refine reg hP hn hm [(1, .call [] [(0, 13)] [] [13] 0 (.tup [.own 0, iV .i64 t1906.2]) [(0, some (.row 2 67 (t1906.1.map eLabel)))])] [0, 1, 8, 10, 11, 12, 13] [11, 12, 13] ⟨[(0, .im (.row (a0.map eLabel))), (1, .im (.row (a1.map eLabel))), (8, .own 11), (10, .own 12), (11, iV .i64 t1900.2), (12, .own 13), (13, iV .i64 t1906.2)], [(11, some (.row 1 9 (x1897.map encStr))), (12, some (.row 2 67 (t1900.1.map eLabel))), (13, some (.row 2 67 (t1906.1.map eLabel)))], 0⟩ [Enters Try.prog 38, Pv.Fn Try.prog 38 [.im (.row (x1896.map eLabel))] [] 0 (fun r o => r = .tup [.own 0, iV .i64 t1906.2] ∧ o = [(0, some (.row 2 67 (t1906.1.map eLabel)))])] (by kernel_rfl) ⟨by exact Try.call38, by exact f_label_Make.ok x1896 t1906 e1907, trivial⟩ ?_
        refine AWp.seq ?_
        refine AWp.seq ?_
        refine AWp.conv (inv := [(12, 12), (13, 13)]) (vk := [11]) (e0 := []) (t := ⟨[(0, .im (.row (a0.map eLabel))), (1, .im (.row (a1.map eLabel))), (8, .im (.row (x1897.map encStr))), (10, .own 12), (11, iV .i64 t1900.2), (12, .own 13), (13, iV .i64 t1906.2)], [(12, some (.row 2 67 (t1900.1.map eLabel))), (13, some (.row 2 67 (t1906.1.map eLabel)))], 0⟩) (by kernel_rfl) ?_
        obtain ⟨o2078, e2079, H⟩ := bind_of H
        refine AWp.mono (Q := fun e s => (match (generalizing := false) o2078 with | x1970 => e = .normal ∧ s = ⟨[(0, .im (.row (a0.map eLabel))), (1, .im (.row (a1.map eLabel))), (91, bV x1970)], [], 0⟩)) (AWp.cv ?_) ?_
        · replace H := e2079; clear e2079
          rcases Bool.eq_false_or_eq_true (t1900.2 != t1906.2) with c1951 | c1951
          · replace H := (ifT c1951).symm.trans H
            refine reg hP hn hm [(3, .b true)] [0, 1, 91] [] ⟨[(0, .im (.row (a0.map eLabel))), (1, .im (.row (a1.map eLabel))), (91, bV true)], [], 0⟩ [(t1900.2 != t1906.2) = true] (by kernel_rfl) ⟨by exact c1951, trivial⟩ ?_
            obtain rfl := Option.some.inj H
            exact Exists.intro _ (And.intro (fun _ _ h => h.conv (inv := []) (vk := []) (e0 := []) (t := ⟨[(0, .im (.row (a0.map eLabel))), (1, .im (.row (a1.map eLabel))), (91, bV true)], [], 0⟩) (by kernel_rfl)) (And.intro rfl rfl))
          · replace H := (ifF c1951).symm.trans H
            rcases Bool.eq_false_or_eq_true (t1900.2 == (0 : Int)) with c1952 | c1952
            · replace H := (ifT c1952).symm.trans H
              obtain ⟨t1953, e1954, H⟩ := bind_of H
              rcases Bool.eq_false_or_eq_true (!t1953) with c1955 | c1955
              · replace H := (ifT c1955).symm.trans H
                refine reg hP hn hm [(3, .b false), (6, .b true), (9, .call [] [] [12, 13] [] 0 (bV t1953) []), (13, .b true)] [0, 1, 91] [] ⟨[(0, .im (.row (a0.map eLabel))), (1, .im (.row (a1.map eLabel))), (91, bV true)], [], 0⟩ [(t1900.2 != t1906.2) = false, (t1900.2 == (0 : Int)) = true, Enters Try.prog 28, Pv.Fn Try.prog 28 [.im (.row (t1900.1.map eLabel)), .im (.row (t1906.1.map eLabel))] [] 0 (fun r o => r = bV t1953 ∧ o = []), (!t1953) = true] (by kernel_rfl) ⟨by exact c1951, by exact c1952, by exact Try.call28, by exact f_pluviallaw10_same.ok t1900.1 t1906.1 t1953 e1954, by exact c1955, trivial⟩ ?_
                obtain rfl := Option.some.inj H
                exact Exists.intro _ (And.intro (fun _ _ h => h.conv (inv := []) (vk := []) (e0 := []) (t := ⟨[(0, .im (.row (a0.map eLabel))), (1, .im (.row (a1.map eLabel))), (91, bV true)], [], 0⟩) (by kernel_rfl)) (And.intro rfl rfl))
              · replace H := (ifF c1955).symm.trans H
                obtain ⟨t1956, e1957, H⟩ := bind_of H
                obtain ⟨t1958, e1959, H⟩ := bind_of H
                rcases Bool.eq_false_or_eq_true (!t1958) with c1960 | c1960
                · replace H := (ifT c1960).symm.trans H
                  refine reg hP hn hm [(3, .b false), (6, .b true), (9, .call [] [] [12, 13] [] 0 (bV t1953) []), (13, .b false), (16, .call [] [(0, 14)] [] [14] 0 (.own 0) [(0, some (.row 2 67 (t1956.map eLabel)))]), (18, .call [] [] [14] [] 0 (bV t1958) []), (21, .b true)] [0, 1, 91] [] ⟨[(0, .im (.row (a0.map eLabel))), (1, .im (.row (a1.map eLabel))), (91, bV true)], [], 0⟩ [(t1900.2 != t1906.2) = false, (t1900.2 == (0 : Int)) = true, Enters Try.prog 28, Pv.Fn Try.prog 28 [.im (.row (t1900.1.map eLabel)), .im (.row (t1906.1.map eLabel))] [] 0 (fun r o => r = bV t1953 ∧ o = []), (!t1953) = false, Enters Try.prog 41, Pv.Fn Try.prog 41 [.im (.row (a0.map eLabel)), .im (.row (x1897.map encStr))] [] 0 (fun r o => r = .own 0 ∧ o = [(0, some (.row 2 67 (t1956.map eLabel)))]), Enters Try.prog 28, Pv.Fn Try.prog 28 [.im (.row (t1956.map eLabel)), .im (.row (a0.map eLabel))] [] 0 (fun r o => r = bV t1958 ∧ o = []), (!t1958) = true] (by kernel_rfl) ⟨by exact c1951, by exact c1952, by exact Try.call28, by exact f_pluviallaw10_same.ok t1900.1 t1906.1 t1953 e1954, by exact c1955, by exact Try.call41, by exact f_label_By.ok a0 x1897 t1956 e1957, by exact Try.call28, by exact f_pluviallaw10_same.ok t1956 a0 t1958 e1959, by exact c1960, trivial⟩ ?_
                  obtain rfl := Option.some.inj H
                  exact Exists.intro _ (And.intro (fun _ _ h => h.conv (inv := []) (vk := []) (e0 := []) (t := ⟨[(0, .im (.row (a0.map eLabel))), (1, .im (.row (a1.map eLabel))), (91, bV true)], [], 0⟩) (by kernel_rfl)) (And.intro rfl rfl))
                · replace H := (ifF c1960).symm.trans H
                  obtain ⟨t1961, e1962, H⟩ := bind_of H
                  refine reg hP hn hm [(3, .b false), (6, .b true), (9, .call [] [] [12, 13] [] 0 (bV t1953) []), (13, .b false), (16, .call [] [(0, 14)] [] [14] 0 (.own 0) [(0, some (.row 2 67 (t1956.map eLabel)))]), (18, .call [] [] [14] [] 0 (bV t1958) []), (21, .b false), (23, .call [] [(0, 15)] [] [15] 0 (.own 0) [(0, some (.row 2 67 (t1961.map eLabel)))]), (24, .any (iV .i64 (t1961.length : Int)))] [0, 1, 91] [] ⟨[(0, .im (.row (a0.map eLabel))), (1, .im (.row (a1.map eLabel))), (91, bV ((t1961.length : Int) != (0 : Int)))], [], 0⟩ [(t1900.2 != t1906.2) = false, (t1900.2 == (0 : Int)) = true, Enters Try.prog 28, Pv.Fn Try.prog 28 [.im (.row (t1900.1.map eLabel)), .im (.row (t1906.1.map eLabel))] [] 0 (fun r o => r = bV t1953 ∧ o = []), (!t1953) = false, Enters Try.prog 41, Pv.Fn Try.prog 41 [.im (.row (a0.map eLabel)), .im (.row (x1897.map encStr))] [] 0 (fun r o => r = .own 0 ∧ o = [(0, some (.row 2 67 (t1956.map eLabel)))]), Enters Try.prog 28, Pv.Fn Try.prog 28 [.im (.row (t1956.map eLabel)), .im (.row (a0.map eLabel))] [] 0 (fun r o => r = bV t1958 ∧ o = []), (!t1958) = false, Enters Try.prog 41, Pv.Fn Try.prog 41 [.im (.row (a0.map eLabel)), .im (.row (([] : List ByteArray).map encStr))] [] 0 (fun r o => r = .own 0 ∧ o = [(0, some (.row 2 67 (t1961.map eLabel)))]), ((t1961.map eLabel).length : Int) = (t1961.length : Int)] (by kernel_rfl) ⟨by exact c1951, by exact c1952, by exact Try.call28, by exact f_pluviallaw10_same.ok t1900.1 t1906.1 t1953 e1954, by exact c1955, by exact Try.call41, by exact f_label_By.ok a0 x1897 t1956 e1957, by exact Try.call28, by exact f_pluviallaw10_same.ok t1956 a0 t1958 e1959, by exact c1960, by exact Try.call41, by exact f_label_By.ok a0 ([] : List ByteArray) t1961 e1962, by rw [len_map], trivial⟩ ?_
                  obtain rfl := Option.some.inj H
                  exact Exists.intro _ (And.intro (fun _ _ h => h.conv (inv := []) (vk := []) (e0 := []) (t := ⟨[(0, .im (.row (a0.map eLabel))), (1, .im (.row (a1.map eLabel))), (91, bV ((t1961.length : Int) != (0 : Int)))], [], 0⟩) (by kernel_rfl)) (And.intro rfl rfl))
            · replace H := (ifF c1952).symm.trans H
              obtain ⟨t1963, e1964, H⟩ := bind_of H
              obtain ⟨t1965, e1966, H⟩ := bind_of H
              rcases Bool.eq_false_or_eq_true (!t1965) with c1967 | c1967
              · replace H := (ifT c1967).symm.trans H
                refine reg hP hn hm [(3, .b false), (6, .b false), (16, .call [] [(0, 16)] [] [16] 0 (.own 0) [(0, some (.row 2 67 (t1963.map eLabel)))]), (18, .call [] [] [16] [] 0 (bV t1965) []), (21, .b true)] [0, 1, 91] [] ⟨[(0, .im (.row (a0.map eLabel))), (1, .im (.row (a1.map eLabel))), (91, bV true)], [], 0⟩ [(t1900.2 != t1906.2) = false, (t1900.2 == (0 : Int)) = false, Enters Try.prog 41, Pv.Fn Try.prog 41 [.im (.row (a0.map eLabel)), .im (.row (x1897.map encStr))] [] 0 (fun r o => r = .own 0 ∧ o = [(0, some (.row 2 67 (t1963.map eLabel)))]), Enters Try.prog 28, Pv.Fn Try.prog 28 [.im (.row (t1963.map eLabel)), .im (.row (a0.map eLabel))] [] 0 (fun r o => r = bV t1965 ∧ o = []), (!t1965) = true] (by kernel_rfl) ⟨by exact c1951, by exact c1952, by exact Try.call41, by exact f_label_By.ok a0 x1897 t1963 e1964, by exact Try.call28, by exact f_pluviallaw10_same.ok t1963 a0 t1965 e1966, by exact c1967, trivial⟩ ?_
                obtain rfl := Option.some.inj H
                exact Exists.intro _ (And.intro (fun _ _ h => h.conv (inv := []) (vk := []) (e0 := []) (t := ⟨[(0, .im (.row (a0.map eLabel))), (1, .im (.row (a1.map eLabel))), (91, bV true)], [], 0⟩) (by kernel_rfl)) (And.intro rfl rfl))
              · replace H := (ifF c1967).symm.trans H
                obtain ⟨t1968, e1969, H⟩ := bind_of H
                refine reg hP hn hm [(3, .b false), (6, .b false), (16, .call [] [(0, 16)] [] [16] 0 (.own 0) [(0, some (.row 2 67 (t1963.map eLabel)))]), (18, .call [] [] [16] [] 0 (bV t1965) []), (21, .b false), (23, .call [] [(0, 17)] [] [17] 0 (.own 0) [(0, some (.row 2 67 (t1968.map eLabel)))]), (24, .any (iV .i64 (t1968.length : Int)))] [0, 1, 91] [] ⟨[(0, .im (.row (a0.map eLabel))), (1, .im (.row (a1.map eLabel))), (91, bV ((t1968.length : Int) != (0 : Int)))], [], 0⟩ [(t1900.2 != t1906.2) = false, (t1900.2 == (0 : Int)) = false, Enters Try.prog 41, Pv.Fn Try.prog 41 [.im (.row (a0.map eLabel)), .im (.row (x1897.map encStr))] [] 0 (fun r o => r = .own 0 ∧ o = [(0, some (.row 2 67 (t1963.map eLabel)))]), Enters Try.prog 28, Pv.Fn Try.prog 28 [.im (.row (t1963.map eLabel)), .im (.row (a0.map eLabel))] [] 0 (fun r o => r = bV t1965 ∧ o = []), (!t1965) = false, Enters Try.prog 41, Pv.Fn Try.prog 41 [.im (.row (a0.map eLabel)), .im (.row (([] : List ByteArray).map encStr))] [] 0 (fun r o => r = .own 0 ∧ o = [(0, some (.row 2 67 (t1968.map eLabel)))]), ((t1968.map eLabel).length : Int) = (t1968.length : Int)] (by kernel_rfl) ⟨by exact c1951, by exact c1952, by exact Try.call41, by exact f_label_By.ok a0 x1897 t1963 e1964, by exact Try.call28, by exact f_pluviallaw10_same.ok t1963 a0 t1965 e1966, by exact c1967, by exact Try.call41, by exact f_label_By.ok a0 ([] : List ByteArray) t1968 e1969, by rw [len_map], trivial⟩ ?_
                obtain rfl := Option.some.inj H
                exact Exists.intro _ (And.intro (fun _ _ h => h.conv (inv := []) (vk := []) (e0 := []) (t := ⟨[(0, .im (.row (a0.map eLabel))), (1, .im (.row (a1.map eLabel))), (91, bV ((t1968.length : Int) != (0 : Int)))], [], 0⟩) (by kernel_rfl)) (And.intro rfl rfl))
        · obtain ⟨x1970, rfl⟩ : ∃ z, z = o2078 := ⟨_, rfl⟩
          rintro e s ⟨rfl, rfl⟩
          refine AWp.cond x1970 rfl (fun c1971 => ?_) (fun c1971 => ?_)
          · replace H := (ifT c1971).symm.trans H
            refine AWp.seq ?_
            refine reg hP hn hm [] [6] [] ⟨[(6, bV false)], [], 0⟩ [] (by kernel_rfl) trivial ?_
            refine AWp.conv (inv := []) (vk := []) (e0 := []) (t := ⟨[(6, bV false)], [], 0⟩) (by kernel_rfl) ?_
            refine AWp.ret ?_
            obtain rfl := Option.some.inj H
            exact Exists.intro _ (And.intro (fun _ _ h => h) (And.intro (.inl rfl) (And.intro rfl (And.intro (by kernel_rfl) (by kernel_rfl)))))
          · replace H := (ifF c1971).symm.trans H
            refine AWp.skip ?_
            refine AWp.seq ?_
            refine AWp.seq ?_
            obtain ⟨o2080, e2081, H⟩ := bind_of H
            refine AWp.mono (Q := fun e s => (match (generalizing := false) o2080 with | x1982 => e = .normal ∧ s = ⟨[(0, .im (.row (a0.map eLabel))), (1, .im (.row (a1.map eLabel))), (99, bV x1982)], [], 0⟩)) (AWp.cv ?_) ?_
            · replace H := e2081; clear e2081
              obtain ⟨t1977, e1978, H⟩ := bind_of H
              rcases Bool.eq_false_or_eq_true (t1977 != (0 : Int)) with c1979 | c1979
              · replace H := (ifT c1979).symm.trans H
                refine reg hP hn hm [(1, .call [] [] [] [] 0 (iV .i64 t1977) []), (3, .b true)] [0, 1, 99] [] ⟨[(0, .im (.row (a0.map eLabel))), (1, .im (.row (a1.map eLabel))), (99, bV true)], [], 0⟩ [Enters Try.prog 21, Pv.Fn Try.prog 21 [.im (.row (a0.map eLabel))] [] 0 (fun r o => r = iV .i64 t1977 ∧ o = []), (t1977 != (0 : Int)) = true] (by kernel_rfl) ⟨by exact Try.call21, by exact f_pluvialref10_Check.ok a0 t1977 e1978, by exact c1979, trivial⟩ ?_
                obtain rfl := Option.some.inj H
                exact Exists.intro _ (And.intro (fun _ _ h => h.conv (inv := []) (vk := []) (e0 := []) (t := ⟨[(0, .im (.row (a0.map eLabel))), (1, .im (.row (a1.map eLabel))), (99, bV true)], [], 0⟩) (by kernel_rfl)) (And.intro rfl rfl))
              · replace H := (ifF c1979).symm.trans H
                obtain ⟨t1980, e1981, H⟩ := bind_of H
                refine reg hP hn hm [(1, .call [] [] [] [] 0 (iV .i64 t1977) []), (3, .b false), (5, .call [] [] [] [] 0 (iV .i64 t1980) [])] [0, 1, 99] [] ⟨[(0, .im (.row (a0.map eLabel))), (1, .im (.row (a1.map eLabel))), (99, bV (t1980 != (0 : Int)))], [], 0⟩ [Enters Try.prog 21, Pv.Fn Try.prog 21 [.im (.row (a0.map eLabel))] [] 0 (fun r o => r = iV .i64 t1977 ∧ o = []), (t1977 != (0 : Int)) = false, Enters Try.prog 21, Pv.Fn Try.prog 21 [.im (.row (a1.map eLabel))] [] 0 (fun r o => r = iV .i64 t1980 ∧ o = [])] (by kernel_rfl) ⟨by exact Try.call21, by exact f_pluvialref10_Check.ok a0 t1977 e1978, by exact c1979, by exact Try.call21, by exact f_pluvialref10_Check.ok a1 t1980 e1981, trivial⟩ ?_
                obtain rfl := Option.some.inj H
                exact Exists.intro _ (And.intro (fun _ _ h => h.conv (inv := []) (vk := []) (e0 := []) (t := ⟨[(0, .im (.row (a0.map eLabel))), (1, .im (.row (a1.map eLabel))), (99, bV (t1980 != (0 : Int)))], [], 0⟩) (by kernel_rfl)) (And.intro rfl rfl))
            · obtain ⟨x1982, rfl⟩ : ∃ z, z = o2080 := ⟨_, rfl⟩
              rintro e s ⟨rfl, rfl⟩
              refine AWp.cond x1982 rfl (fun c1983 => ?_) (fun c1983 => ?_)
              · replace H := (ifT c1983).symm.trans H
                refine AWp.seq ?_
                obtain ⟨t1986, e1987, H⟩ := bind_of H
                refine reg hP hn hm [(0, .call [] [] [] [] 0 (bV t1986) [])] [6] [] ⟨[(6, bV t1986)], [], 0⟩ [Enters Try.prog 11, Pv.Fn Try.prog 11 [] [] 0 (fun r o => r = bV t1986 ∧ o = [])] (by kernel_rfl) ⟨by exact Try.call11, by exact f_pluviallaw10_awake.ok  t1986 e1987, trivial⟩ ?_
                refine AWp.conv (inv := []) (vk := []) (e0 := []) (t := ⟨[(6, bV t1986)], [], 0⟩) (by kernel_rfl) ?_
                refine AWp.ret ?_
                obtain rfl := Option.some.inj H
                exact Exists.intro _ (And.intro (fun _ _ h => h) (And.intro (.inl rfl) (And.intro rfl (And.intro (by kernel_rfl) (by kernel_rfl)))))
              · replace H := (ifF c1983).symm.trans H
                refine AWp.skip ?_
                refine AWp.seq ?_
                obtain ⟨o2082, e2083, H⟩ := bind_of H
                refine AWp.mono (Q := fun e s => (match (generalizing := false) o2082 with | x2073 => e = .normal ∧ s = ⟨[(6, bV x2073)], [], 0⟩)) (AWp.cv ?_) ?_
                · replace H := e2083; clear e2083
                  obtain ⟨t2059, e2060, H⟩ := bind_of H
                  rcases Bool.eq_false_or_eq_true t2059 with c2061 | c2061
                  · replace H := (ifT c2061).symm.trans H
                    obtain ⟨t2062, e2063, H⟩ := bind_of H
                    obtain ⟨t2064, e2065, H⟩ := bind_of H
                    obtain ⟨t2066, e2067, H⟩ := bind_of H
                    rcases Bool.eq_false_or_eq_true ((t2062.toList == t2064.toList) == (t2066 == (0 : Int))) with c2068 | c2068
                    · replace H := (ifT c2068).symm.trans H
                      obtain ⟨t2069, e2070, H⟩ := bind_of H
                      obtain ⟨t2071, e2072, H⟩ := bind_of H
                      refine reg hP hn hm [(0, .call [] [] [] [] 0 (bV t2059) []), (1, .b true), (3, .call [] [] [] [] 0 (sV t2062) []), (5, .call [] [] [] [] 0 (sV t2064) []), (9, .call [] [] [] [] 0 (iV .i64 t2066) []), (13, .b true), (16, .call [] [] [] [] 0 (iV .i64 t2069) []), (19, .call [] [] [] [] 0 (iV .i64 t2071) [])] [6] [] ⟨[(6, bV (t2069 == (IntKind.i64.wrap (0 - t2071))))], [], 0⟩ [Enters Try.prog 11, Pv.Fn Try.prog 11 [] [] 0 (fun r o => r = bV t2059 ∧ o = []), t2059 = true, Enters Try.prog 22, Pv.Fn Try.prog 22 [.im (.row (a0.map eLabel))] [] 0 (fun r o => r = sV t2062 ∧ o = []), Enters Try.prog 22, Pv.Fn Try.prog 22 [.im (.row (a1.map eLabel))] [] 0 (fun r o => r = sV t2064 ∧ o = []), Enters Try.prog 36, Pv.Fn Try.prog 36 [.im (.row (a0.map eLabel)), .im (.row (a1.map eLabel))] [] 0 (fun r o => r = iV .i64 t2066 ∧ o = []), ((t2062.toList == t2064.toList) == (t2066 == (0 : Int))) = true, Enters Try.prog 36, Pv.Fn Try.prog 36 [.im (.row (a0.map eLabel)), .im (.row (a1.map eLabel))] [] 0 (fun r o => r = iV .i64 t2069 ∧ o = []), Enters Try.prog 36, Pv.Fn Try.prog 36 [.im (.row (a1.map eLabel)), .im (.row (a0.map eLabel))] [] 0 (fun r o => r = iV .i64 t2071 ∧ o = [])] (by kernel_rfl) ⟨by exact Try.call11, by exact f_pluviallaw10_awake.ok  t2059 e2060, by exact c2061, by exact Try.call22, by exact f_label_Key.ok a0 t2062 e2063, by exact Try.call22, by exact f_label_Key.ok a1 t2064 e2065, by exact Try.call36, by exact f_label_Compare.ok a0 a1 t2066 e2067, by exact c2068, by exact Try.call36, by exact f_label_Compare.ok a0 a1 t2069 e2070, by exact Try.call36, by exact f_label_Compare.ok a1 a0 t2071 e2072, trivial⟩ ?_
                      obtain rfl := Option.some.inj H
                      exact Exists.intro _ (And.intro (fun _ _ h => h.conv (inv := []) (vk := []) (e0 := []) (t := ⟨[(6, bV (t2069 == (IntKind.i64.wrap (0 - t2071))))], [], 0⟩) (by kernel_rfl)) (And.intro rfl rfl))
                    · replace H := (ifF c2068).symm.trans H
                      refine reg hP hn hm [(0, .call [] [] [] [] 0 (bV t2059) []), (1, .b true), (3, .call [] [] [] [] 0 (sV t2062) []), (5, .call [] [] [] [] 0 (sV t2064) []), (9, .call [] [] [] [] 0 (iV .i64 t2066) []), (13, .b false)] [6] [] ⟨[(6, bV false)], [], 0⟩ [Enters Try.prog 11, Pv.Fn Try.prog 11 [] [] 0 (fun r o => r = bV t2059 ∧ o = []), t2059 = true, Enters Try.prog 22, Pv.Fn Try.prog 22 [.im (.row (a0.map eLabel))] [] 0 (fun r o => r = sV t2062 ∧ o = []), Enters Try.prog 22, Pv.Fn Try.prog 22 [.im (.row (a1.map eLabel))] [] 0 (fun r o => r = sV t2064 ∧ o = []), Enters Try.prog 36, Pv.Fn Try.prog 36 [.im (.row (a0.map eLabel)), .im (.row (a1.map eLabel))] [] 0 (fun r o => r = iV .i64 t2066 ∧ o = []), ((t2062.toList == t2064.toList) == (t2066 == (0 : Int))) = false] (by kernel_rfl) ⟨by exact Try.call11, by exact f_pluviallaw10_awake.ok  t2059 e2060, by exact c2061, by exact Try.call22, by exact f_label_Key.ok a0 t2062 e2063, by exact Try.call22, by exact f_label_Key.ok a1 t2064 e2065, by exact Try.call36, by exact f_label_Compare.ok a0 a1 t2066 e2067, by exact c2068, trivial⟩ ?_
                      obtain rfl := Option.some.inj H
                      exact Exists.intro _ (And.intro (fun _ _ h => h.conv (inv := []) (vk := []) (e0 := []) (t := ⟨[(6, bV false)], [], 0⟩) (by kernel_rfl)) (And.intro rfl rfl))
                  · replace H := (ifF c2061).symm.trans H
                    refine reg hP hn hm [(0, .call [] [] [] [] 0 (bV t2059) []), (1, .b false)] [6] [] ⟨[(6, bV false)], [], 0⟩ [Enters Try.prog 11, Pv.Fn Try.prog 11 [] [] 0 (fun r o => r = bV t2059 ∧ o = []), t2059 = false] (by kernel_rfl) ⟨by exact Try.call11, by exact f_pluviallaw10_awake.ok  t2059 e2060, by exact c2061, trivial⟩ ?_
                    obtain rfl := Option.some.inj H
                    exact Exists.intro _ (And.intro (fun _ _ h => h.conv (inv := []) (vk := []) (e0 := []) (t := ⟨[(6, bV false)], [], 0⟩) (by kernel_rfl)) (And.intro rfl rfl))
                · obtain ⟨x2073, rfl⟩ : ∃ z, z = o2082 := ⟨_, rfl⟩
                  rintro e s ⟨rfl, rfl⟩
                  refine AWp.conv (inv := []) (vk := []) (e0 := []) (t := ⟨[(6, bV x2073)], [], 0⟩) (by kernel_rfl) ?_
                  refine AWp.ret ?_
                  obtain rfl := Option.some.inj H
                  exact Exists.intro _ (And.intro (fun _ _ h => h) (And.intro (.inl rfl) (And.intro rfl (And.intro (by kernel_rfl) (by kernel_rfl)))))
end Go.Proofs.Ytjfhobijgkccdaa.PvGA1
