import Derived.Test.YteogljahemehkaaProg
import Derived.Test.YteogljahemehkaaPxTombKeeps07
set_option linter.unusedVariables false
set_option linter.unnecessarySimpa false
set_option linter.unusedSimpArgs false
set_option maxRecDepth 10000
namespace Go.Proofs.Yteogljahemehkaa.PvGC1
open Go Go.Pv
def f_slices_DeleteFunc_api_Sample_tomb_Set_Keep_1_28a.l0 (a1_f0_c0 : List Ttomb_Range) (x2219 : List TSample) (x2220 : Int) (x2221 : Int) : Option ((List TSample) × Int) := if (decide (x2221 < (x2219.length : Int))) = true then ((at? x2219 x2221) >>= fun b2226 => (f_tomb_Set_Keep_1_79b.f b2226 a1_f0_c0) >>= fun t2231 => ((if (!t2231) = true then ((at? x2219 x2220) >>= fun b2237 => some (x2219.set (Int.toNat (x2220)) b2226, IntKind.i64.wrap (x2220 + (1 : Int)))) else (some (x2219, x2220))) : Option ((List TSample) × Int)) >>= fun oo => match oo with | (x2240, x2241) => (f_slices_DeleteFunc_api_Sample_tomb_Set_Keep_1_28a.l0 a1_f0_c0 x2240 x2241 (IntKind.i64.wrap (x2221 + (1 : Int))))) else (some (x2219, x2220))
partial_fixpoint
def f_slices_DeleteFunc_api_Sample_tomb_Set_Keep_1_28a.f (a0 : List TSample) (a1_f0_c0 : List Ttomb_Range) : Option (List TSample) := (f_slices_IndexFunc_api_Sample_tomb_Set_Keep_1_28a.f a0 a1_f0_c0) >>= fun t2196 => if (t2196 == (-1)) = true then (some a0) else ((f_slices_DeleteFunc_api_Sample_tomb_Set_Keep_1_28a.l0 a1_f0_c0 a0 t2196 (IntKind.i64.wrap (t2196 + (1 : Int)))) >>= fun oo => match oo with | (x2242, x2243) => ((chk (0 ≤ x2243 ∧ x2243 ≤ (x2242.length : Int))) >>= fun _ => (chk (0 ≤ x2243 ∧ x2243 ≤ ((x2242.take (Int.toNat x2243) ++ List.replicate (x2242.length - (Int.toNat x2243)) (⟨0, (⟨0, 0, 0, 0, 0, 0, [], []⟩ : THist)⟩ : TSample)).length : Int))) >>= fun _ => some ((x2242.take (Int.toNat x2243) ++ List.replicate (x2242.length - (Int.toNat x2243)) (⟨0, (⟨0, 0, 0, 0, 0, 0, [], []⟩ : THist)⟩ : TSample)).take (Int.toNat (x2243)))))
theorem f_slices_DeleteFunc_api_Sample_tomb_Set_Keep_1_28a.ok (a0 : List TSample) (a1_f0_c0 : List Ttomb_Range) (r : List TSample) (H : f_slices_DeleteFunc_api_Sample_tomb_Set_Keep_1_28a.f a0 a1_f0_c0 = some r) : Pv.Fn Try.prog 62 [.own 0, .fn 64 [.ptr 1 0 0]] [(0, some (.row 9 37 (a0.map eSample))), (1, some (.box 27 [.im (.row (a1_f0_c0.map etomb_Range))]))] 2 (fun x o => x = .own 2 ∧ o = [(0, none), (1, some (.box 27 [.im (.row (a1_f0_c0.map etomb_Range))])), (2, some (.row 9 37 (r.map eSample)))]) := by
  unfold f_slices_DeleteFunc_api_Sample_tomb_Set_Keep_1_28a.f at H
  refine Fn.bodyK [0, 1, 2] Try.func62 rfl rfl (fun Γ hP hn => ?_)
  have hm : Try.prog.follows .mixedOrders = true := by kernel_rfl
  replace hn : Γ.n = 42 := hn
  refine AWp.seq ?_
  refine reg hP hn hm [] [0, 1] [0, 1] ⟨[(0, .own 0), (1, .fn 64 [.ptr 1 0 0])], [(0, some (.row 9 37 (a0.map eSample))), (1, some (.box 27 [.im (.row (a1_f0_c0.map etomb_Range))]))], 2⟩ [] (by kernel_rfl) trivial ?_
  refine AWp.seq ?_
  obtain ⟨t2196, e2197, H⟩ := bind_of H
  refine reg hP hn hm [(2, .call [(0, 0), (1, 1)] [(0, 0), (1, 1)] [] [] 2 (iV .i64 t2196) [(0, some (.row 9 37 (a0.map eSample))), (1, some (.box 27 [.im (.row (a1_f0_c0.map etomb_Range))]))])] [0, 1, 5] [0, 1] ⟨[(0, .own 0), (1, .fn 64 [.ptr 1 0 0]), (5, iV .i64 t2196)], [(0, some (.row 9 37 (a0.map eSample))), (1, some (.box 27 [.im (.row (a1_f0_c0.map etomb_Range))]))], 2⟩ [Enters Try.prog 97, Pv.Fn Try.prog 97 [.own 0, .fn 64 [.ptr 1 0 0]] [(0, some (.row 9 37 (a0.map eSample))), (1, some (.box 27 [.im (.row (a1_f0_c0.map etomb_Range))]))] 2 (fun r o => r = iV .i64 t2196 ∧ o = [(0, some (.row 9 37 (a0.map eSample))), (1, some (.box 27 [.im (.row (a1_f0_c0.map etomb_Range))]))])] (by kernel_rfl) ⟨by exact Try.call97, by exact f_slices_IndexFunc_api_Sample_tomb_Set_Keep_1_28a.ok a0 a1_f0_c0 t2196 e2197, trivial⟩ ?_
  refine AWp.seq ?_
  refine AWp.seq ?_
  refine reg hP hn hm [] [0, 1, 5, 12] [0, 1] ⟨[(0, .own 0), (1, .fn 64 [.ptr 1 0 0]), (5, iV .i64 t2196), (12, bV (t2196 == (-1)))], [(0, some (.row 9 37 (a0.map eSample))), (1, some (.box 27 [.im (.row (a1_f0_c0.map etomb_Range))]))], 2⟩ [] (by kernel_rfl) trivial ?_
  refine AWp.cond (t2196 == (-1)) rfl (fun c2198 => ?_) (fun c2198 => ?_)
  · replace H := (ifT c2198).symm.trans H
    refine AWp.seq ?_
    refine reg hP hn hm [] [4] [0, 1] ⟨[(4, .own 0)], [(0, some (.row 9 37 (a0.map eSample))), (1, some (.box 27 [.im (.row (a1_f0_c0.map etomb_Range))]))], 2⟩ [] (by kernel_rfl) trivial ?_
    refine AWp.conv (inv := [(0, 2), (1, 1)]) (vk := []) (e0 := []) (t := ⟨[(4, .own 2)], [(1, some (.box 27 [.im (.row (a1_f0_c0.map etomb_Range))])), (2, some (.row 9 37 (a0.map eSample)))], 2⟩) (by kernel_rfl) ?_
    refine AWp.ret ?_
    obtain rfl := Option.some.inj H
    exact Exists.intro _ (And.intro (fun _ _ h => h) (And.intro (.inl rfl) (And.intro rfl (And.intro (by kernel_rfl) (by kernel_rfl)))))
  · replace H := (ifF c2198).symm.trans H
    refine AWp.skip ?_
    refine AWp.seq ?_
    refine AWp.seq ?_
    refine reg hP hn hm [] [0, 1, 5, 6] [0, 1] ⟨[(0, .own 0), (1, .fn 64 [.ptr 1 0 0]), (5, iV .i64 t2196), (6, iV .i64 (IntKind.i64.wrap (t2196 + (1 : Int))))], [(0, some (.row 9 37 (a0.map eSample))), (1, some (.box 27 [.im (.row (a1_f0_c0.map etomb_Range))]))], 2⟩ [] (by kernel_rfl) trivial ?_
    refine AWp.block ?_
    obtain ⟨o2248, e2249, H⟩ := bind_of H
    refine AWp.loop (LWp.conv (inv := [(0, 0), (1, 1)]) (vk := []) (e0 := []) (t := ⟨[(0, .own 0), (1, .fn 64 [.ptr 1 0 0]), (5, iV .i64 t2196), (6, iV .i64 (IntKind.i64.wrap (t2196 + (1 : Int))))], [(0, some (.row 9 37 (a0.map eSample))), (1, some (.box 27 [.im (.row (a1_f0_c0.map etomb_Range))]))], 2⟩) (by kernel_rfl) ?_)
    refine LWp.mono (Q := fun e s => (match (generalizing := false) o2248 with | (x2242, x2243) => e = .exit 0 ∧ s = ⟨[(0, .own 0), (5, iV .i64 x2243)], [(0, some (.row 9 37 (x2242.map eSample))), (1, some (.box 27 [.im (.row (a1_f0_c0.map etomb_Range))]))], 2⟩)) (LWp.cv (withBody (fun body hbody => ?_))) ?_
    · refine f_slices_DeleteFunc_api_Sample_tomb_Set_Keep_1_28a.l0.partial_correctness a1_f0_c0 (motive := fun x2219 x2220 x2221 o2248 => LWp Γ body (fun e s => ∃ t, Cv Γ s t ∧ (match (generalizing := false) o2248 with | (x2242, x2243) => e = .exit 0 ∧ t = ⟨[(0, .own 0), (5, iV .i64 x2243)], [(0, some (.row 9 37 (x2242.map eSample))), (1, some (.box 27 [.im (.row (a1_f0_c0.map etomb_Range))]))], 2⟩)) ⟨[(0, .own 0), (1, .fn 64 [.ptr 1 0 0]), (5, iV .i64 x2220), (6, iV .i64 x2221)], [(0, some (.row 9 37 (x2219.map eSample))), (1, some (.box 27 [.im (.row (a1_f0_c0.map etomb_Range))]))], 2⟩) ?_ _ _ _ _ e2249
      clear H e2249 o2248; intro self ih x2219 x2220 x2221 o2248 H
      subst hbody
      refine LWp.round ?_
      refine AWp.seq ?_
      refine AWp.seq ?_
      refine reg hP hn hm [(2, .any (iV .i64 (x2219.length : Int)))] [0, 1, 5, 6, 19] [0, 1] ⟨[(0, .own 0), (1, .fn 64 [.ptr 1 0 0]), (5, iV .i64 x2220), (6, iV .i64 x2221), (19, bV (decide (x2221 < (x2219.length : Int))))], [(0, some (.row 9 37 (x2219.map eSample))), (1, some (.box 27 [.im (.row (a1_f0_c0.map etomb_Range))]))], 2⟩ [((x2219.map eSample).length : Int) = (x2219.length : Int)] (by kernel_rfl) ⟨by rw [len_map], trivial⟩ ?_
      refine AWp.cond (decide (x2221 < (x2219.length : Int))) rfl (fun c2222 => ?_) (fun c2222 => ?_)
      · replace H := (ifT c2222).symm.trans H
        refine AWp.skip ?_
        refine AWp.seq ?_
        refine AWp.block ?_
        refine AWp.seq ?_
        obtain ⟨b2226, p2227, q2228, H⟩ := at_of H
        refine reg hP hn hm [(3, .c (eSample b2226)), (4, .k 3)] [0, 1, 5, 6, 7] [0, 1, 3] ⟨[(0, .own 0), (1, .fn 64 [.ptr 1 0 0]), (5, iV .i64 x2220), (6, iV .i64 x2221), (7, .ptr 3 0 0)], [(0, some (.row 9 37 (x2219.map eSample))), (1, some (.box 27 [.im (.row (a1_f0_c0.map etomb_Range))])), (3, some (.box 37 [iV .i64 b2226.f0, iV .i64 b2226.f1.f0, iV .i64 b2226.f1.f1, iV .i64 b2226.f1.f2, iV .u64 b2226.f1.f3, iV .u64 b2226.f1.f4, iV .i64 b2226.f1.f5, .im (.row (b2226.f1.f6.map eBucket)), .im (.row (b2226.f1.f7.map eBucket))]))], 2⟩ [0 ≤ x2221, x2221 < (((x2219.map eSample).length : Nat) : Int), (x2219.map eSample)[(Int.toNat (x2221))]? = some (eSample b2226)] (by kernel_rfl) ⟨by exact p2227, by exact el_lt eSample p2227 q2228, by exact el_map eSample q2228, trivial⟩ ?_
        refine AWp.seq ?_
        obtain ⟨t2231, e2232, H⟩ := bind_of H
        refine reg hP hn hm [(2, .call [(1, 0)] [(0, 1)] [] [] 1 (bV t2231) [(0, some (.box 27 [.im (.row (a1_f0_c0.map etomb_Range))]))])] [0, 1, 5, 6, 7, 29] [0, 1, 3] ⟨[(0, .own 0), (1, .fn 64 [.ptr 1 0 0]), (5, iV .i64 x2220), (6, iV .i64 x2221), (7, .ptr 3 0 0), (29, bV (!t2231))], [(0, some (.row 9 37 (x2219.map eSample))), (1, some (.box 27 [.im (.row (a1_f0_c0.map etomb_Range))])), (3, some (.box 37 [iV .i64 b2226.f0, iV .i64 b2226.f1.f0, iV .i64 b2226.f1.f1, iV .i64 b2226.f1.f2, iV .u64 b2226.f1.f3, iV .u64 b2226.f1.f4, iV .i64 b2226.f1.f5, .im (.row (b2226.f1.f6.map eBucket)), .im (.row (b2226.f1.f7.map eBucket))]))], 2⟩ [Enters Try.prog 64, Pv.Fn Try.prog 64 [.agg [iV .i64 b2226.f0, iV .i64 b2226.f1.f0, iV .i64 b2226.f1.f1, iV .i64 b2226.f1.f2, iV .u64 b2226.f1.f3, iV .u64 b2226.f1.f4, iV .i64 b2226.f1.f5, .im (.row (b2226.f1.f6.map eBucket)), .im (.row (b2226.f1.f7.map eBucket))], .ptr 0 0 0] [(0, some (.box 27 [.im (.row (a1_f0_c0.map etomb_Range))]))] 1 (fun r o => r = bV t2231 ∧ o = [(0, some (.box 27 [.im (.row (a1_f0_c0.map etomb_Range))]))])] (by kernel_rfl) ⟨by exact Try.call64, by exact f_tomb_Set_Keep_1_79b.ok b2226 a1_f0_c0 t2231 e2232, trivial⟩ ?_
        obtain ⟨o2250, e2251, H⟩ := bind_of H
        refine AWp.mono (Q := fun e s => (match (generalizing := false) o2250 with | (x2240, x2241) => e = .normal ∧ s = ⟨[(0, .own 0), (1, .fn 64 [.ptr 1 0 0]), (5, iV .i64 x2241), (6, iV .i64 x2221)], [(0, some (.row 9 37 (x2240.map eSample))), (1, some (.box 27 [.im (.row (a1_f0_c0.map etomb_Range))]))], 2⟩)) (AWp.cv ?_) ?_
        · replace H := e2251; clear e2251
          refine AWp.cond (!t2231) rfl (fun c2233 => ?_) (fun c2233 => ?_)
          · replace H := (ifT c2233).symm.trans H
            refine AWp.seq ?_
            obtain ⟨b2237, p2238, q2239, H⟩ := at_of H
            refine reg hP hn hm [(4, .put (eSample b2237) ((x2219.set (Int.toNat (x2220)) b2226).map eSample))] [0, 1, 5, 6] [0, 1] ⟨[(0, .own 0), (1, .fn 64 [.ptr 1 0 0]), (5, iV .i64 x2220), (6, iV .i64 x2221)], [(0, some (.row 9 37 ((x2219.set (Int.toNat (x2220)) b2226).map eSample))), (1, some (.box 27 [.im (.row (a1_f0_c0.map etomb_Range))]))], 2⟩ [0 ≤ x2220, x2220 < (((x2219.map eSample).length : Nat) : Int), (x2219.map eSample)[(Int.toNat (x2220))]? = some (eSample b2237), (x2219.set (Int.toNat (x2220)) b2226).map eSample = (x2219.map eSample).set (Int.toNat (x2220)) (splice (eSample b2237) 0 [iI .i64 b2226.f0, iI .i64 b2226.f1.f0, iI .i64 b2226.f1.f1, iI .i64 b2226.f1.f2, iI .u64 b2226.f1.f3, iI .u64 b2226.f1.f4, iI .i64 b2226.f1.f5, .row (b2226.f1.f6.map eBucket), .row (b2226.f1.f7.map eBucket)])] (by kernel_rfl) ⟨by exact p2238, by exact el_lt eSample p2238 q2239, by exact el_map eSample q2239, by exact set1 _ _ _ _, trivial⟩ ?_
            refine reg hP hn hm [] [0, 1, 5, 6] [0, 1] ⟨[(0, .own 0), (1, .fn 64 [.ptr 1 0 0]), (5, iV .i64 (IntKind.i64.wrap (x2220 + (1 : Int)))), (6, iV .i64 x2221)], [(0, some (.row 9 37 ((x2219.set (Int.toNat (x2220)) b2226).map eSample))), (1, some (.box 27 [.im (.row (a1_f0_c0.map etomb_Range))]))], 2⟩ [] (by kernel_rfl) trivial ?_
            obtain rfl := Option.some.inj H
            exact Exists.intro _ (And.intro (fun _ _ h => h.conv (inv := [(0, 0), (1, 1)]) (vk := []) (e0 := []) (t := ⟨[(0, .own 0), (1, .fn 64 [.ptr 1 0 0]), (5, iV .i64 (IntKind.i64.wrap (x2220 + (1 : Int)))), (6, iV .i64 x2221)], [(0, some (.row 9 37 ((x2219.set (Int.toNat (x2220)) b2226).map eSample))), (1, some (.box 27 [.im (.row (a1_f0_c0.map etomb_Range))]))], 2⟩) (by kernel_rfl)) (And.intro rfl rfl))
          · replace H := (ifF c2233).symm.trans H
            refine AWp.skip ?_
            obtain rfl := Option.some.inj H
            exact Exists.intro _ (And.intro (fun _ _ h => h.conv (inv := [(0, 0), (1, 1)]) (vk := []) (e0 := []) (t := ⟨[(0, .own 0), (1, .fn 64 [.ptr 1 0 0]), (5, iV .i64 x2220), (6, iV .i64 x2221)], [(0, some (.row 9 37 (x2219.map eSample))), (1, some (.box 27 [.im (.row (a1_f0_c0.map etomb_Range))]))], 2⟩) (by kernel_rfl)) (And.intro rfl rfl))
        · obtain ⟨x2240, x2241⟩ := o2250
          rintro e s ⟨rfl, rfl⟩
          refine reg hP hn hm [] [0, 1, 5, 6] [0, 1] ⟨[(0, .own 0), (1, .fn 64 [.ptr 1 0 0]), (5, iV .i64 x2241), (6, iV .i64 (IntKind.i64.wrap (x2221 + (1 : Int))))], [(0, some (.row 9 37 (x2240.map eSample))), (1, some (.box 27 [.im (.row (a1_f0_c0.map etomb_Range))]))], 2⟩ [] (by kernel_rfl) trivial ?_
          exact LWp.conv (inv := [(0, 0), (1, 1)]) (vk := []) (e0 := []) (t := ⟨[(0, .own 0), (1, .fn 64 [.ptr 1 0 0]), (5, iV .i64 x2241), (6, iV .i64 (IntKind.i64.wrap (x2221 + (1 : Int))))], [(0, some (.row 9 37 (x2240.map eSample))), (1, some (.box 27 [.im (.row (a1_f0_c0.map etomb_Range))]))], 2⟩) (by kernel_rfl) (ih _ _ _ _ H)
      · replace H := (ifF c2222).symm.trans H
        refine AWp.exit ?_
        obtain rfl := Option.some.inj H
        exact Exists.intro _ (And.intro (fun _ _ h => h.conv (inv := [(0, 0), (1, 1)]) (vk := []) (e0 := []) (t := ⟨[(0, .own 0), (5, iV .i64 x2220)], [(0, some (.row 9 37 (x2219.map eSample))), (1, some (.box 27 [.im (.row (a1_f0_c0.map etomb_Range))]))], 2⟩) (by kernel_rfl)) (And.intro rfl rfl))
    · obtain ⟨x2242, x2243⟩ := o2248
      rintro e s ⟨rfl, rfl⟩
      refine AWp.seq ?_
      obtain ⟨c2245, H⟩ := chk_of H
      refine reg hP hn hm [(2, .more (xCutOwn (Int.toNat x2243) (x2242.length - (Int.toNat x2243)))), (3, .more (xClear ((x2242.take (Int.toNat x2243) ++ List.replicate (x2242.length - (Int.toNat x2243)) (⟨0, (⟨0, 0, 0, 0, 0, 0, [], []⟩ : THist)⟩ : TSample)).map eSample)))] [0, 5] [0, 1] ⟨[(0, .own 0), (5, iV .i64 x2243)], [(0, some (.row 9 37 ((x2242.take (Int.toNat x2243) ++ List.replicate (x2242.length - (Int.toNat x2243)) (⟨0, (⟨0, 0, 0, 0, 0, 0, [], []⟩ : THist)⟩ : TSample)).map eSample))), (1, some (.box 27 [.im (.row (a1_f0_c0.map etomb_Range))]))], 2⟩ [x2243 = (((Int.toNat x2243) : Nat) : Int), (Int.toNat x2243) + (x2242.length - (Int.toNat x2243)) = (x2242.map eSample).length, (x2242.take (Int.toNat x2243) ++ List.replicate (x2242.length - (Int.toNat x2243)) (⟨0, (⟨0, 0, 0, 0, 0, 0, [], []⟩ : THist)⟩ : TSample)).map eSample = (x2242.map eSample).take (Int.toNat x2243) ++ List.replicate (x2242.length - (Int.toNat x2243)) [iI .i64 0, iI .i64 0, iI .i64 0, iI .i64 0, iI .u64 0, iI .u64 0, iI .i64 0, .row [], .row []], (Int.toNat x2243) + (x2242.length - (Int.toNat x2243)) = (x2242.map eSample).length] (by kernel_rfl) ⟨by exact (Int.toNat_of_nonneg c2245.1).symm, by have h := c2245; rw [List.length_map]; omega, by simp, by have h := c2245; rw [List.length_map]; omega, trivial⟩ ?_
      refine AWp.seq ?_
      obtain ⟨c2247, H⟩ := chk_of H
      refine reg hP hn hm [(2, .more (xTake 4 (((x2242.take (Int.toNat x2243) ++ List.replicate (x2242.length - (Int.toNat x2243)) (⟨0, (⟨0, 0, 0, 0, 0, 0, [], []⟩ : THist)⟩ : TSample)).take (Int.toNat (x2243))).map eSample)))] [4] [1, 4] ⟨[(4, .own 4)], [(1, some (.box 27 [.im (.row (a1_f0_c0.map etomb_Range))])), (4, some (.row 9 37 (((x2242.take (Int.toNat x2243) ++ List.replicate (x2242.length - (Int.toNat x2243)) (⟨0, (⟨0, 0, 0, 0, 0, 0, [], []⟩ : THist)⟩ : TSample)).take (Int.toNat (x2243))).map eSample)))], 2⟩ [0 ≤ x2243, x2243 ≤ (((x2242.take (Int.toNat x2243) ++ List.replicate (x2242.length - (Int.toNat x2243)) (⟨0, (⟨0, 0, 0, 0, 0, 0, [], []⟩ : THist)⟩ : TSample)).map eSample).length : Int), ((x2242.take (Int.toNat x2243) ++ List.replicate (x2242.length - (Int.toNat x2243)) (⟨0, (⟨0, 0, 0, 0, 0, 0, [], []⟩ : THist)⟩ : TSample)).take (Int.toNat (x2243))).map eSample = ((x2242.take (Int.toNat x2243) ++ List.replicate (x2242.length - (Int.toNat x2243)) (⟨0, (⟨0, 0, 0, 0, 0, 0, [], []⟩ : THist)⟩ : TSample)).map eSample).take (Int.toNat (x2243))] (by kernel_rfl) ⟨by exact c2247.1, by simpa using c2247.2, by simp, trivial⟩ ?_
      refine AWp.conv (inv := [(1, 1), (4, 2)]) (vk := []) (e0 := []) (t := ⟨[(4, .own 2)], [(1, some (.box 27 [.im (.row (a1_f0_c0.map etomb_Range))])), (2, some (.row 9 37 (((x2242.take (Int.toNat x2243) ++ List.replicate (x2242.length - (Int.toNat x2243)) (⟨0, (⟨0, 0, 0, 0, 0, 0, [], []⟩ : THist)⟩ : TSample)).take (Int.toNat (x2243))).map eSample)))], 2⟩) (by kernel_rfl) ?_
      refine AWp.ret ?_
      obtain rfl := Option.some.inj H
      exact Exists.intro _ (And.intro (fun _ _ h => h) (And.intro (.inl rfl) (And.intro rfl (And.intro (by kernel_rfl) (by kernel_rfl)))))
def f_tomb_Set_Keep.f (a0 : Ttomb_Set) (a1 : List TSample) : Option (List TSample) := (f_slices_Clone_api_Sample.f a1) >>= fun t2254 => (f_slices_DeleteFunc_api_Sample_tomb_Set_Keep_1_28a.f t2254 a0.f0) >>= fun t2256 => some t2256
theorem f_tomb_Set_Keep.ok (a0 : Ttomb_Set) (a1 : List TSample) (r : List TSample) (H : f_tomb_Set_Keep.f a0 a1 = some r) : Pv.Fn Try.prog 16 [.agg [.im (.row (a0.f0.map etomb_Range))], .im (.row (a1.map eSample))] [] 0 (fun x o => x = .own 0 ∧ o = [(0, some (.row 9 37 (r.map eSample)))]) := by
  unfold f_tomb_Set_Keep.f at H
  refine Fn.bodyK [0] Try.func16 rfl rfl (fun Γ hP hn => ?_)
  have hm : Try.prog.follows .mixedOrders = true := by kernel_rfl
  replace hn : Γ.n = 9 := hn
  refine AWp.seq ?_
  refine reg hP hn hm [(0, .k 0)] [1, 2] [0] ⟨[(1, .im (.row (a1.map eSample))), (2, .ptr 0 0 0)], [(0, some (.box 27 [.im (.row (a0.f0.map etomb_Range))]))], 0⟩ [] (by kernel_rfl) trivial ?_
  refine AWp.seq ?_
  obtain ⟨t2254, e2255, H⟩ := bind_of H
  obtain ⟨t2256, e2257, H⟩ := bind_of H
  refine reg hP hn hm [(1, .call [] [(0, 1)] [] [1] 0 (.own 0) [(0, some (.row 9 37 (t2254.map eSample)))]), (2, .more xFunc), (3, .call [(1, 0), (0, 1)] [(1, 0), (2, 2)] [] [2] 2 (.own 2) [(0, none), (1, some (.box 27 [.im (.row (a0.f0.map etomb_Range))])), (2, some (.row 9 37 (t2256.map eSample)))])] [4] [2] ⟨[(4, .own 2)], [(2, some (.row 9 37 (t2256.map eSample)))], 0⟩ [Enters Try.prog 63, Pv.Fn Try.prog 63 [.im (.row (a1.map eSample))] [] 0 (fun r o => r = .own 0 ∧ o = [(0, some (.row 9 37 (t2254.map eSample)))]), Enters Try.prog 62, Pv.Fn Try.prog 62 [.own 0, .fn 64 [.ptr 1 0 0]] [(0, some (.row 9 37 (t2254.map eSample))), (1, some (.box 27 [.im (.row (a0.f0.map etomb_Range))]))] 2 (fun r o => r = .own 2 ∧ o = [(0, none), (1, some (.box 27 [.im (.row (a0.f0.map etomb_Range))])), (2, some (.row 9 37 (t2256.map eSample)))])] (by kernel_rfl) ⟨by exact Try.call63, by exact f_slices_Clone_api_Sample.ok a1 t2254 e2255, by exact Try.call62, by exact f_slices_DeleteFunc_api_Sample_tomb_Set_Keep_1_28a.ok t2254 a0.f0 t2256 e2257, trivial⟩ ?_
  refine AWp.conv (inv := [(2, 0)]) (vk := []) (e0 := []) (t := ⟨[(4, .own 0)], [(0, some (.row 9 37 (t2256.map eSample)))], 0⟩) (by kernel_rfl) ?_
  refine AWp.ret ?_
  obtain rfl := Option.some.inj H
  exact Exists.intro _ (And.intro (fun _ _ h => h) (And.intro (.inl rfl) (And.intro rfl (And.intro (by kernel_rfl) (by kernel_rfl)))))
def f_tomb_Set_Empty.f (a0 : Ttomb_Set) : Option (Unit) := some ()
theorem f_tomb_Set_Empty.ok (a0 : Ttomb_Set) (r : Unit) (H : f_tomb_Set_Empty.f a0 = some r) : Pv.Fn Try.prog 18 [.agg [.im (.row (a0.f0.map etomb_Range))]] [] 0 (fun x o => x = bV ((a0.f0.length : Int) == (0 : Int)) ∧ o = []) := by
  unfold f_tomb_Set_Empty.f at H
  refine Fn.bodyK [] Try.func18 rfl rfl (fun Γ hP hn => ?_)
  have hm : Try.prog.follows .mixedOrders = true := by kernel_rfl
  replace hn : Γ.n = 7 := hn
  refine AWp.seq ?_
  refine reg hP hn hm [(0, .k 0)] [1] [0] ⟨[(1, .ptr 0 0 0)], [(0, some (.box 27 [.im (.row (a0.f0.map etomb_Range))]))], 0⟩ [] (by kernel_rfl) trivial ?_
  refine AWp.seq ?_
  refine reg hP hn hm [(2, .any (iV .i64 (a0.f0.length : Int)))] [2] [] ⟨[(2, bV ((a0.f0.length : Int) == (0 : Int)))], [], 0⟩ [((a0.f0.map etomb_Range).length : Int) = (a0.f0.length : Int)] (by kernel_rfl) ⟨by rw [len_map], trivial⟩ ?_
  refine AWp.conv (inv := []) (vk := []) (e0 := []) (t := ⟨[(2, bV ((a0.f0.length : Int) == (0 : Int)))], [], 0⟩) (by kernel_rfl) ?_
  refine AWp.ret ?_
  obtain rfl := Option.some.inj H
  exact Exists.intro _ (And.intro (fun _ _ h => h) (And.intro (.inl rfl) (And.intro rfl (And.intro (by kernel_rfl) (by kernel_rfl)))))
def f_pluviallaw14_TombKeeps.l0 (a1 : List Int) (t2067 : Ttomb_Set) (x2078 : List TSample) (x2079 : Int) : Option (List TSample) := if (decide (x2079 < (a1.length : Int))) = true then ((at? a1 x2079) >>= fun b2084 => (chk ((x2078.length + [(⟨IntKind.i64.wrap (b2084), (⟨0, 0, 0, 0, 0, x2079, [], []⟩ : THist)⟩ : TSample)].length) * 104 ≤ 140737488355328)) >>= fun _ => f_pluviallaw14_TombKeeps.l0 a1 t2067 (x2078 ++ [(⟨IntKind.i64.wrap (b2084), (⟨0, 0, 0, 0, 0, x2079, [], []⟩ : THist)⟩ : TSample)]) (IntKind.i64.wrap (x2079 + (1 : Int)))) else (some x2078)
partial_fixpoint
def f_pluviallaw14_TombKeeps.l1 (t2067 : Ttomb_Set) (t2262 : List TSample) (t2268 : List TSample) (x2089 : List TSample) (x2295 : Int) (x2296 : Int) : Option (Bool ⊕ Int) := if (decide (x2296 < (x2089.length : Int))) = true then ((at? x2089 x2296) >>= fun b2301 => (f_tomb_Set_Has.f (t2067) b2301.f0) >>= fun t2306 => ((if (!t2306) = true then (((if (decide (x2295 ≥ (t2262.length : Int))) = true then (some true) else ((at? t2262 x2295) >>= fun b2315 => if (b2315.f0 != b2301.f0) = true then (some true) else (some (b2315.f1.f5 != b2301.f1.f5)))) : Option (Bool)) >>= fun x2319 => if x2319 = true then (some (.inl false)) else (some (.inr (IntKind.i64.wrap (x2295 + (1 : Int)))))) else (some (.inr x2295))) : Option (Bool ⊕ Int)) >>= fun oo => match oo with | .inl rr => (some (.inl rr)) | .inr x2321 => (f_pluviallaw14_TombKeeps.l1 t2067 t2262 t2268 x2089 x2321 (IntKind.i64.wrap (x2296 + (1 : Int))))) else (some (.inr x2295))
partial_fixpoint
def f_pluviallaw14_TombKeeps.f (a0 : List Ttomb_Range) (a1 : List Int) : Option (Bool) := ((if (decide ((a0.length : Int) > (60 : Int))) = true then (some true) else (some (decide ((a1.length : Int) > (100 : Int))))) : Option (Bool)) >>= fun x3 => if x3 = true then ((f_pluviallaw14_awake.f) >>= fun t2036 => some t2036) else ((f_pluviallaw14_To.f a0) >>= fun t2065 => (f_tomb_Of.f t2065) >>= fun t2067 => (f_pluviallaw14_TombKeeps.l0 a1 t2067 [] 0) >>= fun x2089 => (f_tomb_Set_Keep.f (t2067) x2089) >>= fun t2262 => (f_tomb_Set_Keep.f (t2067) t2262) >>= fun t2268 => (f_pluviallaw14_TombKeeps.l1 t2067 t2262 t2268 x2089 0 0) >>= fun oo => match oo with | .inl rr => (some rr) | .inr x2322 => ((((f_pluviallaw14_awake.f) >>= fun t2336 => if t2336 = true then (if (x2322 == (t2262.length : Int)) = true then (if ((t2268.length : Int) == x2322) = true then ((f_tomb_Set_Keep.f (⟨[]⟩ : Ttomb_Set) x2089) >>= fun t2341 => if ((t2341.length : Int) == (x2089.length : Int)) = true then ((f_tomb_Set_Empty.f (⟨[]⟩ : Ttomb_Set)) >>= fun t2344 => if (((⟨[]⟩ : Ttomb_Set).f0.length : Int) == (0 : Int)) = true then ((f_tomb_Set_Has.f (⟨[]⟩ : Ttomb_Set) 0) >>= fun t2347 => some (!t2347)) else (some false)) else (some false)) else (some false)) else (some false)) else (some false)) : Option (Bool)) >>= fun x2349 => some x2349))
theorem f_pluviallaw14_TombKeeps.ok (a0 : List Ttomb_Range) (a1 : List Int) (r : Bool) (H : f_pluviallaw14_TombKeeps.f a0 a1 = some r) : Pv.Fn Try.prog 3 [.im (.row (a0.map etomb_Range)), .im (.row (a1.map (encInt .u16)))] [] 0 (fun x o => x = bV r ∧ o = []) := by
  unfold f_pluviallaw14_TombKeeps.f at H
  refine Fn.bodyK [] Try.func3 rfl rfl (fun Γ hP hn => ?_)
  have hm : Try.prog.follows .mixedOrders = true := by kernel_rfl
  replace hn : Γ.n = 120 := hn
  refine AWp.seq ?_
  refine reg hP hn hm [] [0, 1] [] ⟨[(0, .im (.row (a0.map etomb_Range))), (1, .im (.row (a1.map (encInt .u16))))], [], 0⟩ [] (by kernel_rfl) trivial ?_
  refine AWp.seq ?_
  refine AWp.seq ?_
  obtain ⟨o2350, e2351, H⟩ := bind_of H
  refine AWp.mono (Q := fun e s => (match (generalizing := false) o2350 with | x3 => e = .normal ∧ s = ⟨[(0, .im (.row (a0.map etomb_Range))), (1, .im (.row (a1.map (encInt .u16)))), (22, bV x3)], [], 0⟩)) (AWp.cv ?_) ?_
  · replace H := e2351; clear e2351
    rcases Bool.eq_false_or_eq_true (decide ((a0.length : Int) > (60 : Int))) with c2 | c2
    · replace H := (ifT c2).symm.trans H
      refine reg hP hn hm [(1, .any (iV .i64 (a0.length : Int))), (3, .b true)] [0, 1, 22] [] ⟨[(0, .im (.row (a0.map etomb_Range))), (1, .im (.row (a1.map (encInt .u16)))), (22, bV true)], [], 0⟩ [((a0.map etomb_Range).length : Int) = (a0.length : Int), (decide ((a0.length : Int) > (60 : Int))) = true] (by kernel_rfl) ⟨by rw [len_map], by exact c2, trivial⟩ ?_
      obtain rfl := Option.some.inj H
      exact Exists.intro _ (And.intro (fun _ _ h => h.conv (inv := []) (vk := []) (e0 := []) (t := ⟨[(0, .im (.row (a0.map etomb_Range))), (1, .im (.row (a1.map (encInt .u16)))), (22, bV true)], [], 0⟩) (by kernel_rfl)) (And.intro rfl rfl))
    · replace H := (ifF c2).symm.trans H
      refine reg hP hn hm [(1, .any (iV .i64 (a0.length : Int))), (3, .b false), (5, .any (iV .i64 (a1.length : Int)))] [0, 1, 22] [] ⟨[(0, .im (.row (a0.map etomb_Range))), (1, .im (.row (a1.map (encInt .u16)))), (22, bV (decide ((a1.length : Int) > (100 : Int))))], [], 0⟩ [((a0.map etomb_Range).length : Int) = (a0.length : Int), (decide ((a0.length : Int) > (60 : Int))) = false, ((a1.map (encInt .u16)).length : Int) = (a1.length : Int)] (by kernel_rfl) ⟨by rw [len_map], by exact c2, by rw [len_map], trivial⟩ ?_
      obtain rfl := Option.some.inj H
      exact Exists.intro _ (And.intro (fun _ _ h => h.conv (inv := []) (vk := []) (e0 := []) (t := ⟨[(0, .im (.row (a0.map etomb_Range))), (1, .im (.row (a1.map (encInt .u16)))), (22, bV (decide ((a1.length : Int) > (100 : Int))))], [], 0⟩) (by kernel_rfl)) (And.intro rfl rfl))
  · obtain ⟨x3, rfl⟩ : ∃ z, z = o2350 := ⟨_, rfl⟩
    rintro e s ⟨rfl, rfl⟩
    refine AWp.cond x3 rfl (fun c4 => ?_) (fun c4 => ?_)
    · replace H := (ifT c4).symm.trans H
      refine AWp.seq ?_
      obtain ⟨t2036, e2037, H⟩ := bind_of H
      refine reg hP hn hm [(0, .call [] [] [] [] 0 (bV t2036) [])] [4] [] ⟨[(4, bV t2036)], [], 0⟩ [Enters Try.prog 13, Pv.Fn Try.prog 13 [] [] 0 (fun r o => r = bV t2036 ∧ o = [])] (by kernel_rfl) ⟨by exact Try.call13, by exact f_pluviallaw14_awake.ok  t2036 e2037, trivial⟩ ?_
      refine AWp.conv (inv := []) (vk := []) (e0 := []) (t := ⟨[(4, bV t2036)], [], 0⟩) (by kernel_rfl) ?_
      refine AWp.ret ?_
      obtain rfl := Option.some.inj H
      exact Exists.intro _ (And.intro (fun _ _ h => h) (And.intro (.inl rfl) (And.intro rfl (And.intro (by kernel_rfl) (by kernel_rfl)))))
    · replace H := (ifF c4).symm.trans H
      refine AWp.skip ?_
      refine AWp.seq ?_
      obtain ⟨t2065, e2066, H⟩ := bind_of H
      obtain ⟨t2067, e2068, H⟩ := bind_of H
      refine reg hP hn hm [(1, .call [] [(0, 0)] [] [0] 0 (.own 0) [(0, some (.row 2 64 (t2065.map etomb_Range)))]), (2, .call [] [(0, 1)] [0] [1] 0 (.agg [.own 0]) [(0, some (.row 2 64 (((t2067).f0).map etomb_Range)))]), (3, .k 2)] [1, 5] [1, 2] ⟨[(1, .im (.row (a1.map (encInt .u16)))), (5, .ptr 2 0 0)], [(1, some (.row 2 64 (((t2067).f0).map etomb_Range))), (2, some (.box 27 [.own 1]))], 0⟩ [Enters Try.prog 15, Pv.Fn Try.prog 15 [.im (.row (a0.map etomb_Range))] [] 0 (fun r o => r = .own 0 ∧ o = [(0, some (.row 2 64 (t2065.map etomb_Range)))]), Enters Try.prog 14, Pv.Fn Try.prog 14 [.im (.row (t2065.map etomb_Range))] [] 0 (fun r o => r = .agg [.own 0] ∧ o = [(0, some (.row 2 64 (((t2067).f0).map etomb_Range)))])] (by kernel_rfl) ⟨by exact Try.call15, by exact f_pluviallaw14_To.ok a0 t2065 e2066, by exact Try.call14, by exact f_tomb_Of.ok t2065 t2067 e2068, trivial⟩ ?_
      refine AWp.seq ?_
      refine reg hP hn hm [] [1, 5, 6] [1, 2] ⟨[(1, .im (.row (a1.map (encInt .u16)))), (5, .ptr 2 0 0), (6, .none0)], [(1, some (.row 2 64 (((t2067).f0).map etomb_Range))), (2, some (.box 27 [.own 1]))], 0⟩ [] (by kernel_rfl) trivial ?_
      refine AWp.seq ?_
      refine AWp.seq ?_
      refine reg hP hn hm [(1, .any (iV .i64 (a1.length : Int)))] [5, 6, 27, 28, 29] [1, 2] ⟨[(5, .ptr 2 0 0), (6, .none0), (27, .im (.row (a1.map (encInt .u16)))), (28, iV .i64 (a1.length : Int)), (29, iV .i64 0)], [(1, some (.row 2 64 (((t2067).f0).map etomb_Range))), (2, some (.box 27 [.own 1]))], 0⟩ [((a1.map (encInt .u16)).length : Int) = (a1.length : Int)] (by kernel_rfl) ⟨by rw [len_map], trivial⟩ ?_
      refine AWp.block ?_
      obtain ⟨o2352, e2353, H⟩ := bind_of H
      refine AWp.loop (LWp.conv (inv := [(1, 6), (2, 5)]) (vk := []) (e0 := [7]) (t := ⟨[(5, .ptr 5 0 0), (6, .own 7), (27, .im (.row (a1.map (encInt .u16)))), (28, iV .i64 (a1.length : Int)), (29, iV .i64 0)], [(5, some (.box 27 [.own 6])), (6, some (.row 2 64 (((t2067).f0).map etomb_Range))), (7, some (.row 9 37 ([].map eSample)))], 0⟩) (by kernel_rfl) ?_)
      refine LWp.mono (Q := fun e s => (match (generalizing := false) o2352 with | x2089 => e = .exit 0 ∧ s = ⟨[(5, .ptr 10 0 0), (6, .own 12)], [(10, some (.box 27 [.own 11])), (11, some (.row 2 64 (((t2067).f0).map etomb_Range))), (12, some (.row 9 37 (x2089.map eSample)))], 0⟩)) (LWp.cv (withBody (fun body hbody => ?_))) ?_
      · refine f_pluviallaw14_TombKeeps.l0.partial_correctness a1 t2067 (motive := fun x2078 x2079 o2352 => LWp Γ body (fun e s => ∃ t, Cv Γ s t ∧ (match (generalizing := false) o2352 with | x2089 => e = .exit 0 ∧ t = ⟨[(5, .ptr 10 0 0), (6, .own 12)], [(10, some (.box 27 [.own 11])), (11, some (.row 2 64 (((t2067).f0).map etomb_Range))), (12, some (.row 9 37 (x2089.map eSample)))], 0⟩)) ⟨[(5, .ptr 5 0 0), (6, .own 7), (27, .im (.row (a1.map (encInt .u16)))), (28, iV .i64 (a1.length : Int)), (29, iV .i64 x2079)], [(5, some (.box 27 [.own 6])), (6, some (.row 2 64 (((t2067).f0).map etomb_Range))), (7, some (.row 9 37 (x2078.map eSample)))], 0⟩) ?_ _ _ _ e2353
        clear H e2353 o2352; intro self ih x2078 x2079 o2352 H
        subst hbody
        refine LWp.round ?_
        refine AWp.seq ?_
        refine reg hP hn hm [] [5, 6, 27, 28, 29, 30] [5, 6, 7] ⟨[(5, .ptr 5 0 0), (6, .own 7), (27, .im (.row (a1.map (encInt .u16)))), (28, iV .i64 (a1.length : Int)), (29, iV .i64 x2079), (30, bV (decide (x2079 < (a1.length : Int))))], [(5, some (.box 27 [.own 6])), (6, some (.row 2 64 (((t2067).f0).map etomb_Range))), (7, some (.row 9 37 (x2078.map eSample)))], 0⟩ [] (by kernel_rfl) trivial ?_
        refine AWp.seq ?_
        refine AWp.cond (decide (x2079 < (a1.length : Int))) rfl (fun c2080 => ?_) (fun c2080 => ?_)
        · replace H := (ifT c2080).symm.trans H
          refine AWp.skip ?_
          refine AWp.seq ?_
          refine AWp.block ?_
          refine AWp.seq ?_
          obtain ⟨b2084, p2085, q2086, H⟩ := at_of H
          refine reg hP hn hm [(1, .c ((encInt .u16) b2084))] [5, 6, 7, 8, 27, 28, 29] [5, 6, 7] ⟨[(5, .ptr 5 0 0), (6, .own 7), (7, iV .i64 x2079), (8, iV .u16 b2084), (27, .im (.row (a1.map (encInt .u16)))), (28, iV .i64 (a1.length : Int)), (29, iV .i64 x2079)], [(5, some (.box 27 [.own 6])), (6, some (.row 2 64 (((t2067).f0).map etomb_Range))), (7, some (.row 9 37 (x2078.map eSample)))], 0⟩ [0 ≤ x2079, (a1.map (encInt .u16))[(Int.toNat (x2079))]? = some ((encInt .u16) b2084)] (by kernel_rfl) ⟨by exact p2085, by exact el_map (encInt .u16) q2086, trivial⟩ ?_
          obtain ⟨c2088, H⟩ := chk_of H
          refine reg hP hn hm [(6, .app 8 ([(⟨IntKind.i64.wrap (b2084), (⟨0, 0, 0, 0, 0, x2079, [], []⟩ : THist)⟩ : TSample)].map eSample)), (7, .app 9 ((x2078 ++ [(⟨IntKind.i64.wrap (b2084), (⟨0, 0, 0, 0, 0, x2079, [], []⟩ : THist)⟩ : TSample)]).map eSample))] [5, 6, 27, 28, 29] [5, 6, 9] ⟨[(5, .ptr 5 0 0), (6, .own 9), (27, .im (.row (a1.map (encInt .u16)))), (28, iV .i64 (a1.length : Int)), (29, iV .i64 x2079)], [(5, some (.box 27 [.own 6])), (6, some (.row 2 64 (((t2067).f0).map etomb_Range))), (9, some (.row 9 37 ((x2078 ++ [(⟨IntKind.i64.wrap (b2084), (⟨0, 0, 0, 0, 0, x2079, [], []⟩ : THist)⟩ : TSample)]).map eSample)))], 0⟩ [[(⟨IntKind.i64.wrap (b2084), (⟨0, 0, 0, 0, 0, x2079, [], []⟩ : THist)⟩ : TSample)].map eSample = [[iI .i64 (IntKind.i64.wrap (b2084)), iI .i64 0, iI .i64 0, iI .i64 0, iI .u64 0, iI .u64 0, iI .i64 x2079, .row [], .row []]], (x2078 ++ [(⟨IntKind.i64.wrap (b2084), (⟨0, 0, 0, 0, 0, x2079, [], []⟩ : THist)⟩ : TSample)]).map eSample = (x2078.map eSample) ++ ([(⟨IntKind.i64.wrap (b2084), (⟨0, 0, 0, 0, 0, x2079, [], []⟩ : THist)⟩ : TSample)].map eSample), ∀ c ∈ ([(⟨IntKind.i64.wrap (b2084), (⟨0, 0, 0, 0, 0, x2079, [], []⟩ : THist)⟩ : TSample)].map eSample), c.length = 9, ∀ c ∈ ([(⟨IntKind.i64.wrap (b2084), (⟨0, 0, 0, 0, 0, x2079, [], []⟩ : THist)⟩ : TSample)].map eSample), leaves (c.map .im) = true, ((x2078.map eSample).length + ([(⟨IntKind.i64.wrap (b2084), (⟨0, 0, 0, 0, 0, x2079, [], []⟩ : THist)⟩ : TSample)].map eSample).length) * 104 ≤ 140737488355328] (by kernel_rfl) ⟨by exact rfl, by simp, by exact all_len _ _ _ (fun _ => rfl), by exact all_leaf _ _ (fun _ => rfl), by simpa using c2088, trivial⟩ ?_
          refine reg hP hn hm [] [5, 6, 27, 28, 29] [5, 6, 9] ⟨[(5, .ptr 5 0 0), (6, .own 9), (27, .im (.row (a1.map (encInt .u16)))), (28, iV .i64 (a1.length : Int)), (29, iV .i64 (IntKind.i64.wrap (x2079 + (1 : Int))))], [(5, some (.box 27 [.own 6])), (6, some (.row 2 64 (((t2067).f0).map etomb_Range))), (9, some (.row 9 37 ((x2078 ++ [(⟨IntKind.i64.wrap (b2084), (⟨0, 0, 0, 0, 0, x2079, [], []⟩ : THist)⟩ : TSample)]).map eSample)))], 0⟩ [] (by kernel_rfl) trivial ?_
          exact LWp.conv (inv := [(5, 5), (6, 6), (9, 7)]) (vk := []) (e0 := []) (t := ⟨[(5, .ptr 5 0 0), (6, .own 7), (27, .im (.row (a1.map (encInt .u16)))), (28, iV .i64 (a1.length : Int)), (29, iV .i64 (IntKind.i64.wrap (x2079 + (1 : Int))))], [(5, some (.box 27 [.own 6])), (6, some (.row 2 64 (((t2067).f0).map etomb_Range))), (7, some (.row 9 37 ((x2078 ++ [(⟨IntKind.i64.wrap (b2084), (⟨0, 0, 0, 0, 0, x2079, [], []⟩ : THist)⟩ : TSample)]).map eSample)))], 0⟩) (by kernel_rfl) (ih _ _ _ H)
        · replace H := (ifF c2080).symm.trans H
          refine AWp.exit ?_
          obtain rfl := Option.some.inj H
          exact Exists.intro _ (And.intro (fun _ _ h => h.conv (inv := [(5, 10), (6, 11), (7, 12)]) (vk := []) (e0 := []) (t := ⟨[(5, .ptr 10 0 0), (6, .own 12)], [(10, some (.box 27 [.own 11])), (11, some (.row 2 64 (((t2067).f0).map etomb_Range))), (12, some (.row 9 37 (x2078.map eSample)))], 0⟩) (by kernel_rfl)) (And.intro rfl rfl))
      · obtain ⟨x2089, rfl⟩ : ∃ z, z = o2352 := ⟨_, rfl⟩
        rintro e s ⟨rfl, rfl⟩
        refine AWp.seq ?_
        refine AWp.conv (inv := [(10, 10)]) (vk := [11, 12]) (e0 := []) (t := ⟨[(5, .ptr 10 0 0), (6, .im (.row (x2089.map eSample)))], [(10, some (.box 27 [.im (.row (((t2067).f0).map etomb_Range))]))], 0⟩) (by kernel_rfl) ?_
        obtain ⟨t2262, e2263, H⟩ := bind_of H
        refine reg hP hn hm [(2, .call [] [(0, 13)] [] [13] 0 (.own 0) [(0, some (.row 9 37 (t2262.map eSample)))])] [5, 6, 9] [10, 13] ⟨[(5, .ptr 10 0 0), (6, .im (.row (x2089.map eSample))), (9, .own 13)], [(10, some (.box 27 [.im (.row (((t2067).f0).map etomb_Range))])), (13, some (.row 9 37 (t2262.map eSample)))], 0⟩ [Enters Try.prog 16, Pv.Fn Try.prog 16 [.agg [.im (.row (((t2067).f0).map etomb_Range))], .im (.row (x2089.map eSample))] [] 0 (fun r o => r = .own 0 ∧ o = [(0, some (.row 9 37 (t2262.map eSample)))])] (by kernel_rfl) ⟨by exact Try.call16, by exact f_tomb_Set_Keep.ok (t2067) x2089 t2262 e2263, trivial⟩ ?_
        refine AWp.seq ?_
        refine AWp.conv (inv := [(10, 10)]) (vk := [13]) (e0 := []) (t := ⟨[(5, .ptr 10 0 0), (6, .im (.row (x2089.map eSample))), (9, .im (.row (t2262.map eSample)))], [(10, some (.box 27 [.im (.row (((t2067).f0).map etomb_Range))]))], 0⟩) (by kernel_rfl) ?_
        obtain ⟨t2268, e2269, H⟩ := bind_of H
        refine reg hP hn hm [(2, .call [] [(0, 14)] [] [14] 0 (.own 0) [(0, some (.row 9 37 (t2268.map eSample)))])] [5, 6, 9, 10] [10, 14] ⟨[(5, .ptr 10 0 0), (6, .im (.row (x2089.map eSample))), (9, .im (.row (t2262.map eSample))), (10, .own 14)], [(10, some (.box 27 [.im (.row (((t2067).f0).map etomb_Range))])), (14, some (.row 9 37 (t2268.map eSample)))], 0⟩ [Enters Try.prog 16, Pv.Fn Try.prog 16 [.agg [.im (.row (((t2067).f0).map etomb_Range))], .im (.row (t2262.map eSample))] [] 0 (fun r o => r = .own 0 ∧ o = [(0, some (.row 9 37 (t2268.map eSample)))])] (by kernel_rfl) ⟨by exact Try.call16, by exact f_tomb_Set_Keep.ok (t2067) t2262 t2268 e2269, trivial⟩ ?_
        refine AWp.seq ?_
        refine reg hP hn hm [] [5, 6, 9, 10, 11] [10, 14] ⟨[(5, .ptr 10 0 0), (6, .im (.row (x2089.map eSample))), (9, .im (.row (t2262.map eSample))), (10, .own 14), (11, iV .i64 0)], [(10, some (.box 27 [.im (.row (((t2067).f0).map etomb_Range))])), (14, some (.row 9 37 (t2268.map eSample)))], 0⟩ [] (by kernel_rfl) trivial ?_
        refine AWp.seq ?_
        refine AWp.seq ?_
        refine reg hP hn hm [(1, .any (iV .i64 (x2089.length : Int)))] [5, 6, 9, 10, 11, 49, 50, 51] [10, 14] ⟨[(5, .ptr 10 0 0), (6, .im (.row (x2089.map eSample))), (9, .im (.row (t2262.map eSample))), (10, .own 14), (11, iV .i64 0), (49, .im (.row (x2089.map eSample))), (50, iV .i64 (x2089.length : Int)), (51, iV .i64 0)], [(10, some (.box 27 [.im (.row (((t2067).f0).map etomb_Range))])), (14, some (.row 9 37 (t2268.map eSample)))], 0⟩ [((x2089.map eSample).length : Int) = (x2089.length : Int)] (by kernel_rfl) ⟨by rw [len_map], trivial⟩ ?_
        refine AWp.block ?_
        obtain ⟨o2354, e2355, H⟩ := bind_of H
        refine AWp.loop (LWp.conv (inv := [(10, 20), (14, 21)]) (vk := []) (e0 := []) (t := ⟨[(5, .ptr 20 0 0), (6, .im (.row (x2089.map eSample))), (9, .im (.row (t2262.map eSample))), (10, .own 21), (11, iV .i64 0), (49, .im (.row (x2089.map eSample))), (50, iV .i64 (x2089.length : Int)), (51, iV .i64 0)], [(20, some (.box 27 [.im (.row (((t2067).f0).map etomb_Range))])), (21, some (.row 9 37 (t2268.map eSample)))], 0⟩) (by kernel_rfl) ?_)
        refine LWp.mono (Q := fun e s => (match (generalizing := false) o2354 with | .inl rr => e = .ret ∧ s.floor = 0 ∧ resOf Try.prog Try.f3 s = some (bV rr) ∧ ([] : List (Nat × Option MObj)) = [] | .inr x2322 => e = .exit 2 ∧ s = ⟨[(6, .im (.row (x2089.map eSample))), (9, .im (.row (t2262.map eSample))), (10, .own 27), (11, iV .i64 x2322)], [(27, some (.row 9 37 (t2268.map eSample)))], 0⟩)) (LWp.cv (withBody (fun body hbody => ?_))) ?_
        · refine f_pluviallaw14_TombKeeps.l1.partial_correctness t2067 t2262 t2268 x2089 (motive := fun x2295 x2296 o2354 => LWp Γ body (fun e s => ∃ t, Cv Γ s t ∧ (match (generalizing := false) o2354 with | .inl rr => e = .ret ∧ t.floor = 0 ∧ resOf Try.prog Try.f3 t = some (bV rr) ∧ ([] : List (Nat × Option MObj)) = [] | .inr x2322 => e = .exit 2 ∧ t = ⟨[(6, .im (.row (x2089.map eSample))), (9, .im (.row (t2262.map eSample))), (10, .own 27), (11, iV .i64 x2322)], [(27, some (.row 9 37 (t2268.map eSample)))], 0⟩)) ⟨[(5, .ptr 20 0 0), (6, .im (.row (x2089.map eSample))), (9, .im (.row (t2262.map eSample))), (10, .own 21), (11, iV .i64 x2295), (49, .im (.row (x2089.map eSample))), (50, iV .i64 (x2089.length : Int)), (51, iV .i64 x2296)], [(20, some (.box 27 [.im (.row (((t2067).f0).map etomb_Range))])), (21, some (.row 9 37 (t2268.map eSample)))], 0⟩) ?_ _ _ _ e2355
          clear H e2355 o2354; intro self ih x2295 x2296 o2354 H
          subst hbody
          refine LWp.round ?_
          refine AWp.seq ?_
          refine reg hP hn hm [] [5, 6, 9, 10, 11, 49, 50, 51, 52] [20, 21] ⟨[(5, .ptr 20 0 0), (6, .im (.row (x2089.map eSample))), (9, .im (.row (t2262.map eSample))), (10, .own 21), (11, iV .i64 x2295), (49, .im (.row (x2089.map eSample))), (50, iV .i64 (x2089.length : Int)), (51, iV .i64 x2296), (52, bV (decide (x2296 < (x2089.length : Int))))], [(20, some (.box 27 [.im (.row (((t2067).f0).map etomb_Range))])), (21, some (.row 9 37 (t2268.map eSample)))], 0⟩ [] (by kernel_rfl) trivial ?_
          refine AWp.seq ?_
          refine AWp.cond (decide (x2296 < (x2089.length : Int))) rfl (fun c2297 => ?_) (fun c2297 => ?_)
          · replace H := (ifT c2297).symm.trans H
            refine AWp.skip ?_
            refine AWp.seq ?_
            refine AWp.block ?_
            refine AWp.seq ?_
            obtain ⟨b2301, p2302, q2303, H⟩ := at_of H
            refine reg hP hn hm [(0, .c (eSample b2301)), (2, .k 22)] [5, 6, 9, 10, 11, 13, 49, 50, 51] [20, 21, 22] ⟨[(5, .ptr 20 0 0), (6, .im (.row (x2089.map eSample))), (9, .im (.row (t2262.map eSample))), (10, .own 21), (11, iV .i64 x2295), (13, .ptr 22 0 0), (49, .im (.row (x2089.map eSample))), (50, iV .i64 (x2089.length : Int)), (51, iV .i64 x2296)], [(20, some (.box 27 [.im (.row (((t2067).f0).map etomb_Range))])), (21, some (.row 9 37 (t2268.map eSample))), (22, some (.box 37 [iV .i64 b2301.f0, iV .i64 b2301.f1.f0, iV .i64 b2301.f1.f1, iV .i64 b2301.f1.f2, iV .u64 b2301.f1.f3, iV .u64 b2301.f1.f4, iV .i64 b2301.f1.f5, .im (.row (b2301.f1.f6.map eBucket)), .im (.row (b2301.f1.f7.map eBucket))]))], 0⟩ [0 ≤ x2296, (x2089.map eSample)[(Int.toNat (x2296))]? = some (eSample b2301)] (by kernel_rfl) ⟨by exact p2302, by exact el_map eSample q2303, trivial⟩ ?_
            refine AWp.seq ?_
            obtain ⟨t2306, e2307, H⟩ := bind_of H
            refine reg hP hn hm [(3, .call [] [] [] [] 0 (bV t2306) [])] [5, 6, 9, 10, 11, 13, 49, 50, 51, 59] [20, 21, 22] ⟨[(5, .ptr 20 0 0), (6, .im (.row (x2089.map eSample))), (9, .im (.row (t2262.map eSample))), (10, .own 21), (11, iV .i64 x2295), (13, .ptr 22 0 0), (49, .im (.row (x2089.map eSample))), (50, iV .i64 (x2089.length : Int)), (51, iV .i64 x2296), (59, bV (!t2306))], [(20, some (.box 27 [.im (.row (((t2067).f0).map etomb_Range))])), (21, some (.row 9 37 (t2268.map eSample))), (22, some (.box 37 [iV .i64 b2301.f0, iV .i64 b2301.f1.f0, iV .i64 b2301.f1.f1, iV .i64 b2301.f1.f2, iV .u64 b2301.f1.f3, iV .u64 b2301.f1.f4, iV .i64 b2301.f1.f5, .im (.row (b2301.f1.f6.map eBucket)), .im (.row (b2301.f1.f7.map eBucket))]))], 0⟩ [Enters Try.prog 17, Pv.Fn Try.prog 17 [.agg [.im (.row (((t2067).f0).map etomb_Range))], iV .i64 b2301.f0] [] 0 (fun r o => r = bV t2306 ∧ o = [])] (by kernel_rfl) ⟨by exact Try.call17, by exact f_tomb_Set_Has.ok (t2067) b2301.f0 t2306 e2307, trivial⟩ ?_
            obtain ⟨o2356, e2357, H⟩ := bind_of H
            refine AWp.mono (Q := fun e s => (match (generalizing := false) o2356 with | .inl rr => e = .ret ∧ s.floor = 0 ∧ resOf Try.prog Try.f3 s = some (bV rr) ∧ ([] : List (Nat × Option MObj)) = [] | .inr x2321 => e = .normal ∧ s = ⟨[(5, .ptr 25 0 0), (6, .im (.row (x2089.map eSample))), (9, .im (.row (t2262.map eSample))), (10, .own 26), (11, iV .i64 x2321), (49, .im (.row (x2089.map eSample))), (50, iV .i64 (x2089.length : Int)), (51, iV .i64 x2296)], [(25, some (.box 27 [.im (.row (((t2067).f0).map etomb_Range))])), (26, some (.row 9 37 (t2268.map eSample)))], 0⟩)) (AWp.cv ?_) ?_
            · replace H := e2357; clear e2357
              refine AWp.cond (!t2306) rfl (fun c2308 => ?_) (fun c2308 => ?_)
              · replace H := (ifT c2308).symm.trans H
                refine AWp.seq ?_
                refine AWp.seq ?_
                obtain ⟨o2358, e2359, H⟩ := bind_of H
                refine AWp.mono (Q := fun e s => (match (generalizing := false) o2358 with | x2319 => e = .normal ∧ s = ⟨[(5, .ptr 23 0 0), (6, .im (.row (x2089.map eSample))), (9, .im (.row (t2262.map eSample))), (10, .own 24), (11, iV .i64 x2295), (49, .im (.row (x2089.map eSample))), (50, iV .i64 (x2089.length : Int)), (51, iV .i64 x2296), (85, bV x2319)], [(23, some (.box 27 [.im (.row (((t2067).f0).map etomb_Range))])), (24, some (.row 9 37 (t2268.map eSample)))], 0⟩)) (AWp.cv ?_) ?_
                · replace H := e2359; clear e2359
                  rcases Bool.eq_false_or_eq_true (decide (x2295 ≥ (t2262.length : Int))) with c2314 | c2314
                  · replace H := (ifT c2314).symm.trans H
                    refine reg hP hn hm [(2, .any (iV .i64 (t2262.length : Int))), (4, .b true)] [5, 6, 9, 10, 11, 49, 50, 51, 85] [20, 21] ⟨[(5, .ptr 20 0 0), (6, .im (.row (x2089.map eSample))), (9, .im (.row (t2262.map eSample))), (10, .own 21), (11, iV .i64 x2295), (49, .im (.row (x2089.map eSample))), (50, iV .i64 (x2089.length : Int)), (51, iV .i64 x2296), (85, bV true)], [(20, some (.box 27 [.im (.row (((t2067).f0).map etomb_Range))])), (21, some (.row 9 37 (t2268.map eSample)))], 0⟩ [((t2262.map eSample).length : Int) = (t2262.length : Int), (decide (x2295 ≥ (t2262.length : Int))) = true] (by kernel_rfl) ⟨by rw [len_map], by exact c2314, trivial⟩ ?_
                    obtain rfl := Option.some.inj H
                    exact Exists.intro _ (And.intro (fun _ _ h => h.conv (inv := [(20, 23), (21, 24)]) (vk := []) (e0 := []) (t := ⟨[(5, .ptr 23 0 0), (6, .im (.row (x2089.map eSample))), (9, .im (.row (t2262.map eSample))), (10, .own 24), (11, iV .i64 x2295), (49, .im (.row (x2089.map eSample))), (50, iV .i64 (x2089.length : Int)), (51, iV .i64 x2296), (85, bV true)], [(23, some (.box 27 [.im (.row (((t2067).f0).map etomb_Range))])), (24, some (.row 9 37 (t2268.map eSample)))], 0⟩) (by kernel_rfl)) (And.intro rfl rfl))
                  · replace H := (ifF c2314).symm.trans H
                    obtain ⟨b2315, p2316, q2317, H⟩ := at_of H
                    rcases Bool.eq_false_or_eq_true (b2315.f0 != b2301.f0) with c2318 | c2318
                    · replace H := (ifT c2318).symm.trans H
                      refine reg hP hn hm [(2, .any (iV .i64 (t2262.length : Int))), (4, .b false), (7, .c (eSample b2315)), (14, .b true)] [5, 6, 9, 10, 11, 49, 50, 51, 65, 66, 67, 68, 69, 70, 71, 72, 85] [20, 21, 22] ⟨[(5, .ptr 20 0 0), (6, .im (.row (x2089.map eSample))), (9, .im (.row (t2262.map eSample))), (10, .own 21), (11, iV .i64 x2295), (49, .im (.row (x2089.map eSample))), (50, iV .i64 (x2089.length : Int)), (51, iV .i64 x2296), (65, .im (.row (t2262.map eSample))), (66, iV .i64 x2295), (67, .ip [iI .i64 b2315.f0, iI .i64 b2315.f1.f0, iI .i64 b2315.f1.f1, iI .i64 b2315.f1.f2, iI .u64 b2315.f1.f3, iI .u64 b2315.f1.f4, iI .i64 b2315.f1.f5, .row (b2315.f1.f6.map eBucket), .row (b2315.f1.f7.map eBucket)]), (68, .ip [iI .i64 b2315.f0, iI .i64 b2315.f1.f0, iI .i64 b2315.f1.f1, iI .i64 b2315.f1.f2, iI .u64 b2315.f1.f3, iI .u64 b2315.f1.f4, iI .i64 b2315.f1.f5, .row (b2315.f1.f6.map eBucket), .row (b2315.f1.f7.map eBucket)]), (69, iV .i64 b2315.f0), (70, .ptr 22 0 0), (71, iV .i64 b2301.f0), (72, bV (b2315.f0 != b2301.f0)), (85, bV true)], [(20, some (.box 27 [.im (.row (((t2067).f0).map etomb_Range))])), (21, some (.row 9 37 (t2268.map eSample))), (22, some (.box 37 [iV .i64 b2301.f0, iV .i64 b2301.f1.f0, iV .i64 b2301.f1.f1, iV .i64 b2301.f1.f2, iV .u64 b2301.f1.f3, iV .u64 b2301.f1.f4, iV .i64 b2301.f1.f5, .im (.row (b2301.f1.f6.map eBucket)), .im (.row (b2301.f1.f7.map eBucket))]))], 0⟩ [((t2262.map eSample).length : Int) = (t2262.length : Int), (decide (x2295 ≥ (t2262.length : Int))) = false, 0 ≤ x2295, (t2262.map eSample)[(Int.toNat (x2295))]? = some (eSample b2315), (b2315.f0 != b2301.f0) = true] (by kernel_rfl) ⟨by rw [len_map], by exact c2314, by exact p2316, by exact el_map eSample q2317, by exact c2318, trivial⟩ ?_
                      obtain rfl := Option.some.inj H
                      exact Exists.intro _ (And.intro (fun _ _ h => h.conv (inv := [(20, 23), (21, 24)]) (vk := []) (e0 := []) (t := ⟨[(5, .ptr 23 0 0), (6, .im (.row (x2089.map eSample))), (9, .im (.row (t2262.map eSample))), (10, .own 24), (11, iV .i64 x2295), (49, .im (.row (x2089.map eSample))), (50, iV .i64 (x2089.length : Int)), (51, iV .i64 x2296), (85, bV true)], [(23, some (.box 27 [.im (.row (((t2067).f0).map etomb_Range))])), (24, some (.row 9 37 (t2268.map eSample)))], 0⟩) (by kernel_rfl)) (And.intro rfl rfl))
                    · replace H := (ifF c2318).symm.trans H
                      refine reg hP hn hm [(2, .any (iV .i64 (t2262.length : Int))), (4, .b false), (7, .c (eSample b2315)), (14, .b false), (17, .c (eSample b2315))] [5, 6, 9, 10, 11, 49, 50, 51, 65, 66, 67, 68, 69, 70, 71, 72, 75, 76, 77, 78, 79, 80, 81, 82, 83, 84, 85] [20, 21, 22] ⟨[(5, .ptr 20 0 0), (6, .im (.row (x2089.map eSample))), (9, .im (.row (t2262.map eSample))), (10, .own 21), (11, iV .i64 x2295), (49, .im (.row (x2089.map eSample))), (50, iV .i64 (x2089.length : Int)), (51, iV .i64 x2296), (65, .im (.row (t2262.map eSample))), (66, iV .i64 x2295), (67, .ip [iI .i64 b2315.f0, iI .i64 b2315.f1.f0, iI .i64 b2315.f1.f1, iI .i64 b2315.f1.f2, iI .u64 b2315.f1.f3, iI .u64 b2315.f1.f4, iI .i64 b2315.f1.f5, .row (b2315.f1.f6.map eBucket), .row (b2315.f1.f7.map eBucket)]), (68, .ip [iI .i64 b2315.f0, iI .i64 b2315.f1.f0, iI .i64 b2315.f1.f1, iI .i64 b2315.f1.f2, iI .u64 b2315.f1.f3, iI .u64 b2315.f1.f4, iI .i64 b2315.f1.f5, .row (b2315.f1.f6.map eBucket), .row (b2315.f1.f7.map eBucket)]), (69, iV .i64 b2315.f0), (70, .ptr 22 0 0), (71, iV .i64 b2301.f0), (72, bV (b2315.f0 != b2301.f0)), (75, .im (.row (t2262.map eSample))), (76, iV .i64 x2295), (77, .ip [iI .i64 b2315.f0, iI .i64 b2315.f1.f0, iI .i64 b2315.f1.f1, iI .i64 b2315.f1.f2, iI .u64 b2315.f1.f3, iI .u64 b2315.f1.f4, iI .i64 b2315.f1.f5, .row (b2315.f1.f6.map eBucket), .row (b2315.f1.f7.map eBucket)]), (78, .ip [iI .i64 b2315.f1.f0, iI .i64 b2315.f1.f1, iI .i64 b2315.f1.f2, iI .u64 b2315.f1.f3, iI .u64 b2315.f1.f4, iI .i64 b2315.f1.f5, .row (b2315.f1.f6.map eBucket), .row (b2315.f1.f7.map eBucket)]), (79, .ip [iI .i64 b2315.f1.f5, .row (b2315.f1.f6.map eBucket), .row (b2315.f1.f7.map eBucket)]), (80, iV .i64 b2315.f1.f5), (81, .ptr 22 0 1), (82, .ptr 22 0 6), (83, iV .i64 b2301.f1.f5), (84, bV (b2315.f1.f5 != b2301.f1.f5)), (85, bV (b2315.f1.f5 != b2301.f1.f5))], [(20, some (.box 27 [.im (.row (((t2067).f0).map etomb_Range))])), (21, some (.row 9 37 (t2268.map eSample))), (22, some (.box 37 [iV .i64 b2301.f0, iV .i64 b2301.f1.f0, iV .i64 b2301.f1.f1, iV .i64 b2301.f1.f2, iV .u64 b2301.f1.f3, iV .u64 b2301.f1.f4, iV .i64 b2301.f1.f5, .im (.row (b2301.f1.f6.map eBucket)), .im (.row (b2301.f1.f7.map eBucket))]))], 0⟩ [((t2262.map eSample).length : Int) = (t2262.length : Int), (decide (x2295 ≥ (t2262.length : Int))) = false, 0 ≤ x2295, (t2262.map eSample)[(Int.toNat (x2295))]? = some (eSample b2315), (b2315.f0 != b2301.f0) = false, 0 ≤ x2295, (t2262.map eSample)[(Int.toNat (x2295))]? = some (eSample b2315)] (by kernel_rfl) ⟨by rw [len_map], by exact c2314, by exact p2316, by exact el_map eSample q2317, by exact c2318, by exact p2316, by exact el_map eSample q2317, trivial⟩ ?_
                      obtain rfl := Option.some.inj H
                      exact Exists.intro _ (And.intro (fun _ _ h => h.conv (inv := [(20, 23), (21, 24)]) (vk := []) (e0 := []) (t := ⟨[(5, .ptr 23 0 0), (6, .im (.row (x2089.map eSample))), (9, .im (.row (t2262.map eSample))), (10, .own 24), (11, iV .i64 x2295), (49, .im (.row (x2089.map eSample))), (50, iV .i64 (x2089.length : Int)), (51, iV .i64 x2296), (85, bV (b2315.f1.f5 != b2301.f1.f5))], [(23, some (.box 27 [.im (.row (((t2067).f0).map etomb_Range))])), (24, some (.row 9 37 (t2268.map eSample)))], 0⟩) (by kernel_rfl)) (And.intro rfl rfl))
                · obtain ⟨x2319, rfl⟩ : ∃ z, z = o2358 := ⟨_, rfl⟩
                  rintro e s ⟨rfl, rfl⟩
                  refine AWp.cond x2319 rfl (fun c2320 => ?_) (fun c2320 => ?_)
                  · replace H := (ifT c2320).symm.trans H
                    refine AWp.seq ?_
                    refine reg hP hn hm [] [4] [] ⟨[(4, bV false)], [], 0⟩ [] (by kernel_rfl) trivial ?_
                    refine AWp.conv (inv := []) (vk := []) (e0 := []) (t := ⟨[(4, bV false)], [], 0⟩) (by kernel_rfl) ?_
                    refine AWp.ret ?_
                    obtain rfl := Option.some.inj H
                    exact Exists.intro _ (And.intro (fun _ _ h => h) (And.intro rfl (And.intro rfl (And.intro (by kernel_rfl) (by kernel_rfl)))))
                  · replace H := (ifF c2320).symm.trans H
                    refine AWp.skip ?_
                    refine reg hP hn hm [] [5, 6, 9, 10, 11, 49, 50, 51] [23, 24] ⟨[(5, .ptr 23 0 0), (6, .im (.row (x2089.map eSample))), (9, .im (.row (t2262.map eSample))), (10, .own 24), (11, iV .i64 (IntKind.i64.wrap (x2295 + (1 : Int)))), (49, .im (.row (x2089.map eSample))), (50, iV .i64 (x2089.length : Int)), (51, iV .i64 x2296)], [(23, some (.box 27 [.im (.row (((t2067).f0).map etomb_Range))])), (24, some (.row 9 37 (t2268.map eSample)))], 0⟩ [] (by kernel_rfl) trivial ?_
                    obtain rfl := Option.some.inj H
                    exact Exists.intro _ (And.intro (fun _ _ h => h.conv (inv := [(23, 25), (24, 26)]) (vk := []) (e0 := []) (t := ⟨[(5, .ptr 25 0 0), (6, .im (.row (x2089.map eSample))), (9, .im (.row (t2262.map eSample))), (10, .own 26), (11, iV .i64 (IntKind.i64.wrap (x2295 + (1 : Int)))), (49, .im (.row (x2089.map eSample))), (50, iV .i64 (x2089.length : Int)), (51, iV .i64 x2296)], [(25, some (.box 27 [.im (.row (((t2067).f0).map etomb_Range))])), (26, some (.row 9 37 (t2268.map eSample)))], 0⟩) (by kernel_rfl)) (And.intro rfl rfl))
              · replace H := (ifF c2308).symm.trans H
                refine AWp.skip ?_
                obtain rfl := Option.some.inj H
                exact Exists.intro _ (And.intro (fun _ _ h => h.conv (inv := [(20, 25), (21, 26)]) (vk := []) (e0 := []) (t := ⟨[(5, .ptr 25 0 0), (6, .im (.row (x2089.map eSample))), (9, .im (.row (t2262.map eSample))), (10, .own 26), (11, iV .i64 x2295), (49, .im (.row (x2089.map eSample))), (50, iV .i64 (x2089.length : Int)), (51, iV .i64 x2296)], [(25, some (.box 27 [.im (.row (((t2067).f0).map etomb_Range))])), (26, some (.row 9 37 (t2268.map eSample)))], 0⟩) (by kernel_rfl)) (And.intro rfl rfl))
            · rcases o2356 with rr | x2321
              · skip
                rintro e s ⟨rfl, hfl, hres⟩
                obtain rfl := Option.some.inj H
                exact Exists.intro _ (And.intro (fun _ _ h => h) (And.intro rfl (And.intro hfl hres)))
              · skip
                rintro e s ⟨rfl, rfl⟩
                refine reg hP hn hm [] [5, 6, 9, 10, 11, 49, 50, 51] [25, 26] ⟨[(5, .ptr 25 0 0), (6, .im (.row (x2089.map eSample))), (9, .im (.row (t2262.map eSample))), (10, .own 26), (11, iV .i64 x2321), (49, .im (.row (x2089.map eSample))), (50, iV .i64 (x2089.length : Int)), (51, iV .i64 (IntKind.i64.wrap (x2296 + (1 : Int))))], [(25, some (.box 27 [.im (.row (((t2067).f0).map etomb_Range))])), (26, some (.row 9 37 (t2268.map eSample)))], 0⟩ [] (by kernel_rfl) trivial ?_
                exact LWp.conv (inv := [(25, 20), (26, 21)]) (vk := []) (e0 := []) (t := ⟨[(5, .ptr 20 0 0), (6, .im (.row (x2089.map eSample))), (9, .im (.row (t2262.map eSample))), (10, .own 21), (11, iV .i64 x2321), (49, .im (.row (x2089.map eSample))), (50, iV .i64 (x2089.length : Int)), (51, iV .i64 (IntKind.i64.wrap (x2296 + (1 : Int))))], [(20, some (.box 27 [.im (.row (((t2067).f0).map etomb_Range))])), (21, some (.row 9 37 (t2268.map eSample)))], 0⟩) (by kernel_rfl) (ih _ _ _ H)
          · replace H := (ifF c2297).symm.trans H
            refine AWp.exit ?_
            obtain rfl := Option.some.inj H
            exact Exists.intro _ (And.intro (fun _ _ h => h.conv (inv := [(21, 27)]) (vk := []) (e0 := []) (t := ⟨[(6, .im (.row (x2089.map eSample))), (9, .im (.row (t2262.map eSample))), (10, .own 27), (11, iV .i64 x2295)], [(27, some (.row 9 37 (t2268.map eSample)))], 0⟩) (by kernel_rfl)) (And.intro rfl rfl))
        · rcases o2354 with rr | x2322
          · skip
            rintro e s ⟨rfl, hfl, hres⟩
            obtain rfl := Option.some.inj H
            exact Exists.intro _ (And.intro (fun _ _ h => h) (And.intro (.inl rfl) (And.intro hfl hres)))
          · skip
            rintro e s ⟨rfl, rfl⟩
            refine AWp.seq ?_
            refine reg hP hn hm [(0, .k 28)] [6, 9, 10, 11, 14] [27, 28] ⟨[(6, .im (.row (x2089.map eSample))), (9, .im (.row (t2262.map eSample))), (10, .own 27), (11, iV .i64 x2322), (14, .ptr 28 0 0)], [(27, some (.row 9 37 (t2268.map eSample))), (28, some (.box 27 [.none0]))], 0⟩ [] (by kernel_rfl) trivial ?_
            refine AWp.seq ?_
            obtain ⟨o2360, e2361, H⟩ := bind_of H
            refine AWp.mono (Q := fun e s => (match (generalizing := false) o2360 with | x2349 => e = .normal ∧ s = ⟨[(4, bV x2349)], [], 0⟩)) (AWp.cv ?_) ?_
            · replace H := e2361; clear e2361
              obtain ⟨t2336, e2337, H⟩ := bind_of H
              rcases Bool.eq_false_or_eq_true t2336 with c2338 | c2338
              · replace H := (ifT c2338).symm.trans H
                rcases Bool.eq_false_or_eq_true (x2322 == (t2262.length : Int)) with c2339 | c2339
                · replace H := (ifT c2339).symm.trans H
                  rcases Bool.eq_false_or_eq_true ((t2268.length : Int) == x2322) with c2340 | c2340
                  · replace H := (ifT c2340).symm.trans H
                    obtain ⟨t2341, e2342, H⟩ := bind_of H
                    rcases Bool.eq_false_or_eq_true ((t2341.length : Int) == (x2089.length : Int)) with c2343 | c2343
                    · replace H := (ifT c2343).symm.trans H
                      obtain ⟨t2344, e2345, H⟩ := bind_of H
                      rcases Bool.eq_false_or_eq_true (((⟨[]⟩ : Ttomb_Set).f0.length : Int) == (0 : Int)) with c2346 | c2346
                      · replace H := (ifT c2346).symm.trans H
                        obtain ⟨t2347, e2348, H⟩ := bind_of H
                        refine reg hP hn hm [(0, .call [] [] [] [] 0 (bV t2336) []), (1, .b true), (4, .any (iV .i64 (t2262.length : Int))), (7, .b true), (9, .any (iV .i64 (t2268.length : Int))), (13, .b true), (16, .call [] [(0, 29)] [] [29] 0 (.own 0) [(0, some (.row 9 37 (t2341.map eSample)))]), (17, .any (iV .i64 (t2341.length : Int))), (19, .any (iV .i64 (x2089.length : Int))), (22, .b true), (24, .call [] [] [] [] 0 (bV (((⟨[]⟩ : Ttomb_Set).f0.length : Int) == (0 : Int))) []), (26, .b true), (28, .call [] [] [] [] 0 (bV t2347) [])] [4] [] ⟨[(4, bV (!t2347))], [], 0⟩ [Enters Try.prog 13, Pv.Fn Try.prog 13 [] [] 0 (fun r o => r = bV t2336 ∧ o = []), t2336 = true, ((t2262.map eSample).length : Int) = (t2262.length : Int), (x2322 == (t2262.length : Int)) = true, ((t2268.map eSample).length : Int) = (t2268.length : Int), ((t2268.length : Int) == x2322) = true, Enters Try.prog 16, Pv.Fn Try.prog 16 [.agg [.im (.row (((⟨[]⟩ : Ttomb_Set).f0).map etomb_Range))], .im (.row (x2089.map eSample))] [] 0 (fun r o => r = .own 0 ∧ o = [(0, some (.row 9 37 (t2341.map eSample)))]), ((t2341.map eSample).length : Int) = (t2341.length : Int), ((x2089.map eSample).length : Int) = (x2089.length : Int), ((t2341.length : Int) == (x2089.length : Int)) = true, Enters Try.prog 18, Pv.Fn Try.prog 18 [.agg [.im (.row (((⟨[]⟩ : Ttomb_Set).f0).map etomb_Range))]] [] 0 (fun r o => r = bV (((⟨[]⟩ : Ttomb_Set).f0.length : Int) == (0 : Int)) ∧ o = []), (((⟨[]⟩ : Ttomb_Set).f0.length : Int) == (0 : Int)) = true, Enters Try.prog 17, Pv.Fn Try.prog 17 [.agg [.im (.row (((⟨[]⟩ : Ttomb_Set).f0).map etomb_Range))], iV .i64 0] [] 0 (fun r o => r = bV t2347 ∧ o = [])] (by kernel_rfl) ⟨by exact Try.call13, by exact f_pluviallaw14_awake.ok  t2336 e2337, by exact c2338, by rw [len_map], by exact c2339, by rw [len_map], by exact c2340, by exact Try.call16, by exact f_tomb_Set_Keep.ok (⟨[]⟩ : Ttomb_Set) x2089 t2341 e2342, by rw [len_map], by rw [len_map], by exact c2343, by exact Try.call18, by exact f_tomb_Set_Empty.ok (⟨[]⟩ : Ttomb_Set) t2344 e2345, by exact c2346, by exact Try.call17, by exact f_tomb_Set_Has.ok (⟨[]⟩ : Ttomb_Set) 0 t2347 e2348, trivial⟩ ?_
                        obtain rfl := Option.some.inj H
                        exact Exists.intro _ (And.intro (fun _ _ h => h.conv (inv := []) (vk := []) (e0 := []) (t := ⟨[(4, bV (!t2347))], [], 0⟩) (by kernel_rfl)) (And.intro rfl rfl))
                      · replace H := (ifF c2346).symm.trans H
                        refine reg hP hn hm [(0, .call [] [] [] [] 0 (bV t2336) []), (1, .b true), (4, .any (iV .i64 (t2262.length : Int))), (7, .b true), (9, .any (iV .i64 (t2268.length : Int))), (13, .b true), (16, .call [] [(0, 29)] [] [29] 0 (.own 0) [(0, some (.row 9 37 (t2341.map eSample)))]), (17, .any (iV .i64 (t2341.length : Int))), (19, .any (iV .i64 (x2089.length : Int))), (22, .b true), (24, .call [] [] [] [] 0 (bV (((⟨[]⟩ : Ttomb_Set).f0.length : Int) == (0 : Int))) []), (26, .b false)] [4] [] ⟨[(4, bV false)], [], 0⟩ [Enters Try.prog 13, Pv.Fn Try.prog 13 [] [] 0 (fun r o => r = bV t2336 ∧ o = []), t2336 = true, ((t2262.map eSample).length : Int) = (t2262.length : Int), (x2322 == (t2262.length : Int)) = true, ((t2268.map eSample).length : Int) = (t2268.length : Int), ((t2268.length : Int) == x2322) = true, Enters Try.prog 16, Pv.Fn Try.prog 16 [.agg [.im (.row (((⟨[]⟩ : Ttomb_Set).f0).map etomb_Range))], .im (.row (x2089.map eSample))] [] 0 (fun r o => r = .own 0 ∧ o = [(0, some (.row 9 37 (t2341.map eSample)))]), ((t2341.map eSample).length : Int) = (t2341.length : Int), ((x2089.map eSample).length : Int) = (x2089.length : Int), ((t2341.length : Int) == (x2089.length : Int)) = true, Enters Try.prog 18, Pv.Fn Try.prog 18 [.agg [.im (.row (((⟨[]⟩ : Ttomb_Set).f0).map etomb_Range))]] [] 0 (fun r o => r = bV (((⟨[]⟩ : Ttomb_Set).f0.length : Int) == (0 : Int)) ∧ o = []), (((⟨[]⟩ : Ttomb_Set).f0.length : Int) == (0 : Int)) = false] (by kernel_rfl) ⟨by exact Try.call13, by exact f_pluviallaw14_awake.ok  t2336 e2337, by exact c2338, by rw [len_map], by exact c2339, by rw [len_map], by exact c2340, by exact Try.call16, by exact f_tomb_Set_Keep.ok (⟨[]⟩ : Ttomb_Set) x2089 t2341 e2342, by rw [len_map], by rw [len_map], by exact c2343, by exact Try.call18, by exact f_tomb_Set_Empty.ok (⟨[]⟩ : Ttomb_Set) t2344 e2345, by exact c2346, trivial⟩ ?_
                        obtain rfl := Option.some.inj H
                        exact Exists.intro _ (And.intro (fun _ _ h => h.conv (inv := []) (vk := []) (e0 := []) (t := ⟨[(4, bV false)], [], 0⟩) (by kernel_rfl)) (And.intro rfl rfl))
                    · replace H := (ifF c2343).symm.trans H
                      refine reg hP hn hm [(0, .call [] [] [] [] 0 (bV t2336) []), (1, .b true), (4, .any (iV .i64 (t2262.length : Int))), (7, .b true), (9, .any (iV .i64 (t2268.length : Int))), (13, .b true), (16, .call [] [(0, 29)] [] [29] 0 (.own 0) [(0, some (.row 9 37 (t2341.map eSample)))]), (17, .any (iV .i64 (t2341.length : Int))), (19, .any (iV .i64 (x2089.length : Int))), (22, .b false)] [4] [] ⟨[(4, bV false)], [], 0⟩ [Enters Try.prog 13, Pv.Fn Try.prog 13 [] [] 0 (fun r o => r = bV t2336 ∧ o = []), t2336 = true, ((t2262.map eSample).length : Int) = (t2262.length : Int), (x2322 == (t2262.length : Int)) = true, ((t2268.map eSample).length : Int) = (t2268.length : Int), ((t2268.length : Int) == x2322) = true, Enters Try.prog 16, Pv.Fn Try.prog 16 [.agg [.im (.row (((⟨[]⟩ : Ttomb_Set).f0).map etomb_Range))], .im (.row (x2089.map eSample))] [] 0 (fun r o => r = .own 0 ∧ o = [(0, some (.row 9 37 (t2341.map eSample)))]), ((t2341.map eSample).length : Int) = (t2341.length : Int), ((x2089.map eSample).length : Int) = (x2089.length : Int), ((t2341.length : Int) == (x2089.length : Int)) = false] (by kernel_rfl) ⟨by exact Try.call13, by exact f_pluviallaw14_awake.ok  t2336 e2337, by exact c2338, by rw [len_map], by exact c2339, by rw [len_map], by exact c2340, by exact Try.call16, by exact f_tomb_Set_Keep.ok (⟨[]⟩ : Ttomb_Set) x2089 t2341 e2342, by rw [len_map], by rw [len_map], by exact c2343, trivial⟩ ?_
                      obtain rfl := Option.some.inj H
                      exact Exists.intro _ (And.intro (fun _ _ h => h.conv (inv := []) (vk := []) (e0 := []) (t := ⟨[(4, bV false)], [], 0⟩) (by kernel_rfl)) (And.intro rfl rfl))
                  · replace H := (ifF c2340).symm.trans H
                    refine reg hP hn hm [(0, .call [] [] [] [] 0 (bV t2336) []), (1, .b true), (4, .any (iV .i64 (t2262.length : Int))), (7, .b true), (9, .any (iV .i64 (t2268.length : Int))), (13, .b false)] [4] [] ⟨[(4, bV false)], [], 0⟩ [Enters Try.prog 13, Pv.Fn Try.prog 13 [] [] 0 (fun r o => r = bV t2336 ∧ o = []), t2336 = true, ((t2262.map eSample).length : Int) = (t2262.length : Int), (x2322 == (t2262.length : Int)) = true, ((t2268.map eSample).length : Int) = (t2268.length : Int), ((t2268.length : Int) == x2322) = false] (by kernel_rfl) ⟨by exact Try.call13, by exact f_pluviallaw14_awake.ok  t2336 e2337, by exact c2338, by rw [len_map], by exact c2339, by rw [len_map], by exact c2340, trivial⟩ ?_
                    obtain rfl := Option.some.inj H
                    exact Exists.intro _ (And.intro (fun _ _ h => h.conv (inv := []) (vk := []) (e0 := []) (t := ⟨[(4, bV false)], [], 0⟩) (by kernel_rfl)) (And.intro rfl rfl))
                · replace H := (ifF c2339).symm.trans H
                  refine reg hP hn hm [(0, .call [] [] [] [] 0 (bV t2336) []), (1, .b true), (4, .any (iV .i64 (t2262.length : Int))), (7, .b false)] [4] [] ⟨[(4, bV false)], [], 0⟩ [Enters Try.prog 13, Pv.Fn Try.prog 13 [] [] 0 (fun r o => r = bV t2336 ∧ o = []), t2336 = true, ((t2262.map eSample).length : Int) = (t2262.length : Int), (x2322 == (t2262.length : Int)) = false] (by kernel_rfl) ⟨by exact Try.call13, by exact f_pluviallaw14_awake.ok  t2336 e2337, by exact c2338, by rw [len_map], by exact c2339, trivial⟩ ?_
                  obtain rfl := Option.some.inj H
                  exact Exists.intro _ (And.intro (fun _ _ h => h.conv (inv := []) (vk := []) (e0 := []) (t := ⟨[(4, bV false)], [], 0⟩) (by kernel_rfl)) (And.intro rfl rfl))
              · replace H := (ifF c2338).symm.trans H
                refine reg hP hn hm [(0, .call [] [] [] [] 0 (bV t2336) []), (1, .b false)] [4] [] ⟨[(4, bV false)], [], 0⟩ [Enters Try.prog 13, Pv.Fn Try.prog 13 [] [] 0 (fun r o => r = bV t2336 ∧ o = []), t2336 = false] (by kernel_rfl) ⟨by exact Try.call13, by exact f_pluviallaw14_awake.ok  t2336 e2337, by exact c2338, trivial⟩ ?_
                obtain rfl := Option.some.inj H
                exact Exists.intro _ (And.intro (fun _ _ h => h.conv (inv := []) (vk := []) (e0 := []) (t := ⟨[(4, bV false)], [], 0⟩) (by kernel_rfl)) (And.intro rfl rfl))
            · obtain ⟨x2349, rfl⟩ : ∃ z, z = o2360 := ⟨_, rfl⟩
              rintro e s ⟨rfl, rfl⟩
              refine AWp.conv (inv := []) (vk := []) (e0 := []) (t := ⟨[(4, bV x2349)], [], 0⟩) (by kernel_rfl) ?_
              refine AWp.ret ?_
              obtain rfl := Option.some.inj H
              exact Exists.intro _ (And.intro (fun _ _ h => h) (And.intro (.inl rfl) (And.intro rfl (And.intro (by kernel_rfl) (by kernel_rfl)))))
end Go.Proofs.Yteogljahemehkaa.PvGC1
