import Derived.Test.YteogljahemehkaaProg
import Derived.Test.YteogljahemehkaaPxTombHas07
set_option linter.unusedVariables false
set_option linter.unnecessarySimpa false
set_option linter.unusedSimpArgs false
set_option maxRecDepth 10000
namespace Go.Proofs.Yteogljahemehkaa.PvGC1
open Go Go.Pv
def f_slices_DeleteFunc_api_Sample_tomb_Set_Keep_1_28a.l0 (a1_f0_c0 : List Ttomb_Range) (x2219 : List TSample) (x2220 : Int) (x2221 : Int) : Option ((List TSample) × Int) := if (decide (x2221 < (x2219.length : Int))) = true then ((at? x2219 x2221) >>= fun b2226 => (f_tomb_Set_Keep_1_79b.f b2226 a1_f0_c0) >>= fun t2231 => ((if (!t2231) = true then ((at? x2219 x2220) >>= fun b2237 => some (x2219.set (Int.toNat (x2220)) b2226, IntKind.i64.wrap (x2220 + (1 : Int)))) else (some (x2219, x2220))) : Option ((List TSample) × Int)) >>= fun oo => match oo with | (x2240, x2241) => (f_slices_DeleteFunc_api_Sample_tomb_Set_Keep_1_28a.l0 a1_f0_c0 x2240 x2241 (IntKind.i64.wrap (x2221 + (1 : Int))))) else (some (x2219, x2220))
partial_fixpoint
def f_slices_DeleteFunc_api_Sample_tomb_Set_Keep_1_28a.f (a0 : List TSample) (a1_f0_c0 : List Ttomb_Range) : Option (List TSample) := (f_slices_IndexFunc_api_Sample_tomb_Set_Keep_1_28a.f a0 a1_f0_c0) >>= fun t2196 => if (t2196 == (-1)) = true then (some a0) else ((f_slices_DeleteFunc_api_Sample_tomb_Set_Keep_1_28a.l0 a1_f0_c0 a0 t2196 (IntKind.i64.wrap (t2196 + (1 : Int)))) >>= fun oo => match oo with | (x2242, x2243) => ((chk (0 ≤ x2243 ∧ x2243 ≤ (x2242.length : Int))) >>= fun _ => (chk (0 ≤ x2243 ∧ x2243 ≤ ((x2242.take (Int.toNat x2243) ++ List.replicate (x2242.length - (Int.toNat x2243)) (⟨0, (⟨0, 0, 0, 0, 0, 0, [], []⟩ : THist)⟩ : TSample)).length : Int))) >>= fun _ => some ((x2242.take (Int.toNat x2243) ++ List.replicate (x2242.length - (Int.toNat x2243)) (⟨0, (⟨0, 0, 0, 0, 0, 0, [], []⟩ : THist)⟩ : TSample)).take (Int.toNat (x2243)))))
theorem f_slices_DeleteFunc_api_Sample_tomb_Set_Keep_1_28a.ok (a0 : List TSample) (a1_f0_c0 : List Ttomb_Range) (r : List TSample) (H : f_slices_DeleteFunc_api_Sample_tomb_Set_Keep_1_28a.f a0 a1_f0_c0 = some r) : Pv.Fn Try.prog 62 [.own 0, .fn 64 [.ptr 1 0 0]] [(0, some (.row 9 37 (a0.map eSample))), (1, some (.box 27 [.im (.row (a1_f0_c0.map etomb_Range))]))] 2 (fun x o => x = .own 2 ∧ o = [(0, none), (1, some (.box 27 [.im (.row (a1_f0_c0.map etomb_Range))])), (2, some (.row 9 37 (r.map eSample)))]) := by
  unfold f_slices_DeleteFunc_api_Sample_tomb_Set_Keep_1_28a.f at H
  refine Fn.bodyK [0, 1, 2] Try.func62 rfl rfl (fun Γ hP hn => ?_)
  have hm : Try.prog.follows .mixedOrders = true := by kernel_rfl
  replace hn : Γ.n = 42 := hn
  refine AWp.seq ?_
  refine reg hP hn hm [] [0, 1] [0, 1] ⟨[(0, .own 0), (1, .fn 64 [.ptr 1 0 0])], [(0, some (.row 9 37 (a0.map eSample))), (1, some (.box 27 [.im (.row (a1_f0_c0.map etomb_Range))]))], 2⟩ [] (by kernel_rfl) trivial ?_
  refine AWp.seq ?_
  obtain ⟨t2196, e2197, H⟩ := bind_of H
  refine reg hP hn hm [(2, .call [(0, 0), (1, 1)] [(0, 0), (1, 1)] [] [] 2 (iV .i64 t2196) [(0, some (.row 9 37 (a0.map eSample))), (1, some (.box 27 [.im (.row (a1_f0_c0.map etomb_Range))]))])] [0, 1, 5] [0, 1] ⟨[(0, .own 0), (1, .fn 64 [.ptr 1 0 0]), (5, iV .i64 t2196)], [(0, some (.row 9 37 (a0.map eSample))), (1, some (.box 27 [.im (.row (a1_f0_c0.map etomb_Range))]))], 2⟩ [Enters Try.prog 97, Pv.Fn Try.prog 97 [.own 0, .fn 64 [.ptr 1 0 0]] [(0, some (.row 9 37 (a0.map eSample))), (1, some (.box 27 [.im (.row (a1_f0_c0.map etomb_Range))]))] 2 (fun r o => r = iV .i64 t2196 ∧ o = [(0, some (.row 9 37 (a0.map eSample))), (1, some (.box 27 [.im (.row (a1_f0_c0.map etomb_Range))]))])] (by kernel_rfl) ⟨by exact Try.call97, by exact f_slices_IndexFunc_api_Sample_tomb_Set_Keep_1_28a.ok a0 a1_f0_c0 t2196 e2197, trivial⟩ ?_
  refine AWp.seq ?_
  refine AWp.seq ?_
  refine reg hP hn hm [] [0, 1, 5, 12] [0, 1] ⟨[(0, .own 0), (1, .fn 64 [.ptr 1 0 0]), (5, iV .i64 t2196), (12, bV (t2196 == (-1)))], [(0, some (.row 9 37 (a0.map eSample))), (1, some (.box 27 [.im (.row (a1_f0_c0.map etomb_Range))]))], 2⟩ [] (by kernel_rfl) trivial ?_
  refine AWp.cond (t2196 == (-1)) rfl (fun c2198 => ?_) (fun c2198 => ?_)
  · replace H := (ifT c2198).symm.trans H
    refine AWp.seq ?_
    refine reg hP hn hm [] [4] [0, 1] ⟨[(4, .own 0)], [(0, some (.row 9 37 (a0.map eSample))), (1, some (.box 27 [.im (.row (a1_f0_c0.map etomb_Range))]))], 2⟩ [] (by kernel_rfl) trivial ?_
    refine AWp.conv (inv := [(0, 2), (1, 1)]) (vk := []) (e0 := []) (t := ⟨[(4, .own 2)], [(1, some (.box 27 [.im (.row (a1_f0_c0.map etomb_Range))])), (2, some (.row 9 37 (a0.map eSample)))], 2⟩) (by kernel_rfl) ?_
    refine AWp.ret ?_
    obtain rfl := Option.some.inj H
    exact Exists.intro _ (And.intro (fun _ _ h => h) (And.intro (.inl rfl) (And.intro rfl (And.intro (by kernel_rfl) (by kernel_rfl)))))
  · replace H := (ifF c2198).symm.trans H
    refine AWp.skip ?_
    refine AWp.seq ?_
    refine AWp.seq ?_
    refine reg hP hn hm [] [0, 1, 5, 6] [0, 1] ⟨[(0, .own 0), (1, .fn 64 [.ptr 1 0 0]), (5, iV .i64 t2196), (6, iV .i64 (IntKind.i64.wrap (t2196 + (1 : Int))))], [(0, some (.row 9 37 (a0.map eSample))), (1, some (.box 27 [.im (.row (a1_f0_c0.map etomb_Range))]))], 2⟩ [] (by kernel_rfl) trivial ?_
    refine AWp.block ?_
    obtain ⟨o2248, e2249, H⟩ := bind_of H
    refine AWp.loop (LWp.conv (inv := [(0, 0), (1, 1)]) (vk := []) (e0 := []) (t := ⟨[(0, .own 0), (1, .fn 64 [.ptr 1 0 0]), (5, iV .i64 t2196), (6, iV .i64 (IntKind.i64.wrap (t2196 + (1 : Int))))], [(0, some (.row 9 37 (a0.map eSample))), (1, some (.box 27 [.im (.row (a1_f0_c0.map etomb_Range))]))], 2⟩) (by kernel_rfl) ?_)
    refine LWp.mono (Q := fun e s => (match (generalizing := false) o2248 with | (x2242, x2243) => e = .exit 0 ∧ s = ⟨[(0, .own 0), (5, iV .i64 x2243)], [(0, some (.row 9 37 (x2242.map eSample))), (1, some (.box 27 [.im (.row (a1_f0_c0.map etomb_Range))]))], 2⟩)) (LWp.cv (withBody (fun body hbody => ?_))) ?_
    · refine f_slices_DeleteFunc_api_Sample_tomb_Set_Keep_1_28a.l0.partial_correctness a1_f0_c0 (motive := fun x2219 x2220 x2221 o2248 => LWp Γ body (fun e s => ∃ t, Cv Γ s t ∧ (match (generalizing := false) o2248 with | (x2242, x2243) => e = .exit 0 ∧ t = ⟨[(0, .own 0), (5, iV .i64 x2243)], [(0, some (.row 9 37 (x2242.map eSample))), (1, some (.box 27 [.im (.row (a1_f0_c0.map etomb_Range))]))], 2⟩)) ⟨[(0, .own 0), (1, .fn 64 [.ptr 1 0 0]), (5, iV .i64 x2220), (6, iV .i64 x2221)], [(0, some (.row 9 37 (x2219.map eSample))), (1, some (.box 27 [.im (.row (a1_f0_c0.map etomb_Range))]))], 2⟩) ?_ _ _ _ _ e2249
      clear H e2249 o2248; intro self ih x2219 x2220 x2221 o2248 H
      subst hbody
      refine LWp.round ?_
      refine AWp.seq ?_
      refine AWp.seq ?_
      refine reg hP hn hm [(2, .any (iV .i64 (x2219.length : Int)))] [0, 1, 5, 6, 19] [0, 1] ⟨[(0, .own 0), (1, .fn 64 [.ptr 1 0 0]), (5, iV .i64 x2220), (6, iV .i64 x2221), (19, bV (decide (x2221 < (x2219.length : Int))))], [(0, some (.row 9 37 (x2219.map eSample))), (1, some (.box 27 [.im (.row (a1_f0_c0.map etomb_Range))]))], 2⟩ [((x2219.map eSample).length : Int) = (x2219.length : Int)] (by kernel_rfl) ⟨by rw [len_map], trivial⟩ ?_
      refine AWp.cond (decide (x2221 < (x2219.length : Int))) rfl (fun c2222 => ?_) (fun c2222 => ?_)
      · replace H := (ifT c2222).symm.trans H
        refine AWp.skip ?_
        refine AWp.seq ?_
        refine AWp.block ?_
        refine AWp.seq ?_
        obtain ⟨b2226, p2227, q2228, H⟩ := at_of H
        refine reg hP hn hm [(3, .c (eSample b2226)), (4, .k 3)] [0, 1, 5, 6, 7] [0, 1, 3] ⟨[(0, .own 0), (1, .fn 64 [.ptr 1 0 0]), (5, iV .i64 x2220), (6, iV .i64 x2221), (7, .ptr 3 0 0)], [(0, some (.row 9 37 (x2219.map eSample))), (1, some (.box 27 [.im (.row (a1_f0_c0.map etomb_Range))])), (3, some (.box 37 [iV .i64 b2226.f0, iV .i64 b2226.f1.f0, iV .i64 b2226.f1.f1, iV .i64 b2226.f1.f2, iV .u64 b2226.f1.f3, iV .u64 b2226.f1.f4, iV .i64 b2226.f1.f5, .im (.row (b2226.f1.f6.map eBucket)), .im (.row (b2226.f1.f7.map eBucket))]))], 2⟩ [0 ≤ x2221, x2221 < (((x2219.map eSample).length : Nat) : Int), (x2219.map eSample)[(Int.toNat (x2221))]? = some (eSample b2226)] (by kernel_rfl) ⟨by exact p2227, by exact el_lt eSample p2227 q2228, by exact el_map eSample q2228, trivial⟩ ?_
        refine AWp.seq ?_
        obtain ⟨t2231, e2232, H⟩ := bind_of H
        refine reg hP hn hm [(2, .call [(1, 0)] [(0, 1)] [] [] 1 (bV t2231) [(0, some (.box 27 [.im (.row (a1_f0_c0.map etomb_Range))]))])] [0, 1, 5, 6, 7, 29] [0, 1, 3] ⟨[(0, .own 0), (1, .fn 64 [.ptr 1 0 0]), (5, iV .i64 x2220), (6, iV .i64 x2221), (7, .ptr 3 0 0), (29, bV (!t2231))], [(0, some (.row 9 37 (x2219.map eSample))), (1, some (.box 27 [.im (.row (a1_f0_c0.map etomb_Range))])), (3, some (.box 37 [iV .i64 b2226.f0, iV .i64 b2226.f1.f0, iV .i64 b2226.f1.f1, iV .i64 b2226.f1.f2, iV .u64 b2226.f1.f3, iV .u64 b2226.f1.f4, iV .i64 b2226.f1.f5, .im (.row (b2226.f1.f6.map eBucket)), .im (.row (b2226.f1.f7.map eBucket))]))], 2⟩ [Enters Try.prog 64, Pv.Fn Try.prog 64 [.agg [iV .i64 b2226.f0, iV .i64 b2226.f1.f0, iV .i64 b2226.f1.f1, iV .i64 b2226.f1.f2, iV .u64 b2226.f1.f3, iV .u64 b2226.f1.f4, iV .i64 b2226.f1.f5, .im (.row (b2226.f1.f6.map eBucket)), .im (.row (b2226.f1.f7.map eBucket))], .ptr 0 0 0] [(0, some (.box 27 [.im (.row (a1_f0_c0.map etomb_Range))]))] 1 (fun r o => r = bV t2231 ∧ o = [(0, some (.box 27 [.im (.row (a1_f0_c0.map etomb_Range))]))])] (by kernel_rfl) ⟨by exact Try.call64, by exact f_tomb_Set_Keep_1_79b.ok b2226 a1_f0_c0 t2231 e2232, trivial⟩ ?_
        obtain ⟨o2250, e2251, H⟩ := bind_of H
        refine AWp.mono (Q := fun e s => (match (generalizing := false) o2250 with | (x2240, x2241) => e = .normal ∧ s = ⟨[(0, .own 0), (1, .fn 64 [.ptr 1 0 0]), (5, iV .i64 x2241), (6, iV .i64 x2221)], [(0, some (.row 9 37 (x2240.map eSample))), (1, some (.box 27 [.im (.row (a1_f0_c0.map etomb_Range))]))], 2⟩)) (AWp.cv ?_) ?_
        · replace H := e2251; clear e2251
          refine AWp.cond (!t2231) rfl (fun c2233 => ?_) (fun c2233 => ?_)
          · replace H := (ifT c2233).symm.trans H
            refine AWp.seq ?_
            obtain ⟨b2237, p2238, q2239, H⟩ := at_of H
            refine reg hP hn hm [(4, .put (eSample b2237) ((x2219.set (Int.toNat (x2220)) b2226).map eSample))] [0, 1, 5, 6] [0, 1] ⟨[(0, .own 0), (1, .fn 64 [.ptr 1 0 0]), (5, iV .i64 x2220), (6, iV .i64 x2221)], [(0, some (.row 9 37 ((x2219.set (Int.toNat (x2220)) b2226).map eSample))), (1, some (.box 27 [.im (.row (a1_f0_c0.map etomb_Range))]))], 2⟩ [0 ≤ x2220, x2220 < (((x2219.map eSample).length : Nat) : Int), (x2219.map eSample)[(Int.toNat (x2220))]? = some (eSample b2237), (x2219.set (Int.toNat (x2220)) b2226).map eSample = (x2219.map eSample).set (Int.toNat (x2220)) (splice (eSample b2237) 0 [iI .i64 b2226.f0, iI .i64 b2226.f1.f0, iI .i64 b2226.f1.f1, iI .i64 b2226.f1.f2, iI .u64 b2226.f1.f3, iI .u64 b2226.f1.f4, iI .i64 b2226.f1.f5, .row (b2226.f1.f6.map eBucket), .row (b2226.f1.f7.map eBucket)])] (by kernel_rfl) ⟨by exact p2238, by exact el_lt eSample p2238 q2239, by exact el_map eSample q2239, by exact set1 _ _ _ _, trivial⟩ ?_
            refine reg hP hn hm [] [0, 1, 5, 6] [0, 1] ⟨[(0, .own 0), (1, .fn 64 [.ptr 1 0 0]), (5, iV .i64 (IntKind.i64.wrap (x2220 + (1 : Int)))), (6, iV .i64 x2221)], [(0, some (.row 9 37 ((x2219.set (Int.toNat (x2220)) b2226).map eSample))), (1, some (.box 27 [.im (.row (a1_f0_c0.map etomb_Range))]))], 2⟩ [] (by kernel_rfl) trivial ?_
            obtain rfl := Option.some.inj H
            exact Exists.intro _ (And.intro (fun _ _ h => h.conv (inv := [(0, 0), (1, 1)]) (vk := []) (e0 := []) (t := ⟨[(0, .own 0), (1, .fn 64 [.ptr 1 0 0]), (5, iV .i64 (IntKind.i64.wrap (x2220 + (1 : Int)))), (6, iV .i64 x2221)], [(0, some (.row 9 37 ((x2219.set (Int.toNat (x2220)) b2226).map eSample))), (1, some (.box 27 [.im (.row (a1_f0_c0.map etomb_Range))]))], 2⟩) (by kernel_rfl)) (And.intro rfl rfl))
          · replace H := (ifF c2233).symm.trans H
            refine AWp.skip ?_
            obtain rfl := Option.some.inj H
            exact Exists.intro _ (And.intro (fun _ _ h => h.conv (inv := [(0, 0), (1, 1)]) (vk := []) (e0 := []) (t := ⟨[(0, .own 0), (1, .fn 64 [.ptr 1 0 0]), (5, iV .i64 x2220), (6, iV .i64 x2221)], [(0, some (.row 9 37 (x2219.map eSample))), (1, some (.box 27 [.im (.row (a1_f0_c0.map etomb_Range))]))], 2⟩) (by kernel_rfl)) (And.intro rfl rfl))
        · obtain ⟨x2240, x2241⟩ := o2250
          rintro e s ⟨rfl, rfl⟩
          refine reg hP hn hm [] [0, 1, 5, 6] [0, 1] ⟨[(0, .own 0), (1, .fn 64 [.ptr 1 0 0]), (5, iV .i64 x2241), (6, iV .i64 (IntKind.i64.wrap (x2221 + (1 : Int))))], [(0, some (.row 9 37 (x2240.map eSample))), (1, some (.box 27 [.im (.row (a1_f0_c0.map etomb_Range))]))], 2⟩ [] (by kernel_rfl) trivial ?_
          exact LWp.conv (inv := [(0, 0), (1, 1)]) (vk := []) (e0 := []) (t := ⟨[(0, .own 0), (1, .fn 64 [.ptr 1 0 0]), (5, iV .i64 x2241), (6, iV .i64 (IntKind.i64.wrap (x2221 + (1 : Int))))], [(0, some (.row 9 37 (x2240.map eSample))), (1, some (.box 27 [.im (.row (a1_f0_c0.map etomb_Range))]))], 2⟩) (by kernel_rfl) (ih _ _ _ _ H)
      · replace H := (ifF c2222).symm.trans H
        refine AWp.exit ?_
        obtain rfl := Option.some.inj H
        exact Exists.intro _ (And.intro (fun _ _ h => h.conv (inv := [(0, 0), (1, 1)]) (vk := []) (e0 := []) (t := ⟨[(0, .own 0), (5, iV .i64 x2220)], [(0, some (.row 9 37 (x2219.map eSample))), (1, some (.box 27 [.im (.row (a1_f0_c0.map etomb_Range))]))], 2⟩) (by kernel_rfl)) (And.intro rfl rfl))
    · obtain ⟨x2242, x2243⟩ := o2248
      rintro e s ⟨rfl, rfl⟩
      refine AWp.seq ?_
      obtain ⟨c2245, H⟩ := chk_of H
      refine reg hP hn hm [(2, .more (xCutOwn (Int.toNat x2243) (x2242.length - (Int.toNat x2243)))), (3, .more (xClear ((x2242.take (Int.toNat x2243) ++ List.replicate (x2242.length - (Int.toNat x2243)) (⟨0, (⟨0, 0, 0, 0, 0, 0, [], []⟩ : THist)⟩ : TSample)).map eSample)))] [0, 5] [0, 1] ⟨[(0, .own 0), (5, iV .i64 x2243)], [(0, some (.row 9 37 ((x2242.take (Int.toNat x2243) ++ List.replicate (x2242.length - (Int.toNat x2243)) (⟨0, (⟨0, 0, 0, 0, 0, 0, [], []⟩ : THist)⟩ : TSample)).map eSample))), (1, some (.box 27 [.im (.row (a1_f0_c0.map etomb_Range))]))], 2⟩ [x2243 = (((Int.toNat x2243) : Nat) : Int), (Int.toNat x2243) + (x2242.length - (Int.toNat x2243)) = (x2242.map eSample).length, (x2242.take (Int.toNat x2243) ++ List.replicate (x2242.length - (Int.toNat x2243)) (⟨0, (⟨0, 0, 0, 0, 0, 0, [], []⟩ : THist)⟩ : TSample)).map eSample = (x2242.map eSample).take (Int.toNat x2243) ++ List.replicate (x2242.length - (Int.toNat x2243)) [iI .i64 0, iI .i64 0, iI .i64 0, iI .i64 0, iI .u64 0, iI .u64 0, iI .i64 0, .row [], .row []], (Int.toNat x2243) + (x2242.length - (Int.toNat x2243)) = (x2242.map eSample).length] (by kernel_rfl) ⟨by exact (Int.toNat_of_nonneg c2245.1).symm, by have h := c2245; rw [List.length_map]; omega, by simp, by have h := c2245; rw [List.length_map]; omega, trivial⟩ ?_
      refine AWp.seq ?_
      obtain ⟨c2247, H⟩ := chk_of H
      refine reg hP hn hm [(2, .more (xTake 4 (((x2242.take (Int.toNat x2243) ++ List.replicate (x2242.length - (Int.toNat x2243)) (⟨0, (⟨0, 0, 0, 0, 0, 0, [], []⟩ : THist)⟩ : TSample)).take (Int.toNat (x2243))).map eSample)))] [4] [1, 4] ⟨[(4, .own 4)], [(1, some (.box 27 [.im (.row (a1_f0_c0.map etomb_Range))])), (4, some (.row 9 37 (((x2242.take (Int.toNat x2243) ++ List.replicate (x2242.length - (Int.toNat x2243)) (⟨0, (⟨0, 0, 0, 0, 0, 0, [], []⟩ : THist)⟩ : TSample)).take (Int.toNat (x2243))).map eSample)))], 2⟩ [0 ≤ x2243, x2243 ≤ (((x2242.take (Int.toNat x2243) ++ List.replicate (x2242.length - (Int.toNat x2243)) (⟨0, (⟨0, 0, 0, 0, 0, 0, [], []⟩ : THist)⟩ : TSample)).map eSample).length : Int), ((x2242.take (Int.toNat x2243) ++ List.replicate (x2242.length - (Int.toNat x2243)) (⟨0, (⟨0, 0, 0, 0, 0, 0, [], []⟩ : THist)⟩ : TSample)).take (Int.toNat (x2243))).map eSample = ((x2242.take (Int.toNat x2243) ++ List.replicate (x2242.length - (Int.toNat x2243)) (⟨0, (⟨0, 0, 0, 0, 0, 0, [], []⟩ : THist)⟩ : TSample)).map eSample).take (Int.toNat (x2243))] (by kernel_rfl) ⟨by exact c2247.1, by simpa using c2247.2, by simp, trivial⟩ ?_
      refine AWp.conv (inv := [(1, 1), (4, 2)]) (vk := []) (e0 := []) (t := ⟨[(4, .own 2)], [(1, some (.box 27 [.im (.row (a1_f0_c0.map etomb_Range))])), (2, some (.row 9 37 (((x2242.take (Int.toNat x2243) ++ List.replicate (x2242.length - (Int.toNat x2243)) (⟨0, (⟨0, 0, 0, 0, 0, 0, [], []⟩ : THist)⟩ : TSample)).take (Int.toNat (x2243))).map eSample)))], 2⟩) (by kernel_rfl) ?_
      refine AWp.ret ?_
      obtain rfl := Option.some.inj H
      exact Exists.intro _ (And.intro (fun _ _ h => h) (And.intro (.inl rfl) (And.intro rfl (And.intro (by kernel_rfl) (by kernel_rfl)))))
def f_tomb_Set_Keep.f (a0 : Ttomb_Set) (a1 : List TSample) : Option (List TSample) := (f_slices_Clone_api_Sample.f a1) >>= fun t2254 => (f_slices_DeleteFunc_api_Sample_tomb_Set_Keep_1_28a.f t2254 a0.f0) >>= fun t2256 => some t2256
theorem f_tomb_Set_Keep.ok (a0 : Ttomb_Set) (a1 : List TSample) (r : List TSample) (H : f_tomb_Set_Keep.f a0 a1 = some r) : Pv.Fn Try.prog 16 [.agg [.im (.row (a0.f0.map etomb_Range))], .im (.row (a1.map eSample))] [] 0 (fun x o => x = .own 0 ∧ o = [(0, some (.row 9 37 (r.map eSample)))]) := by
  unfold f_tomb_Set_Keep.f at H
  refine Fn.bodyK [0] Try.func16 rfl rfl (fun Γ hP hn => ?_)
  have hm : Try.prog.follows .mixedOrders = true := by kernel_rfl
  replace hn : Γ.n = 9 := hn
  refine AWp.seq ?_
  refine reg hP hn hm [(0, .k 0)] [1, 2] [0] ⟨[(1, .im (.row (a1.map eSample))), (2, .ptr 0 0 0)], [(0, some (.box 27 [.im (.row (a0.f0.map etomb_Range))]))], 0⟩ [] (by kernel_rfl) trivial ?_
  refine AWp.seq ?_
  obtain ⟨t2254, e2255, H⟩ := bind_of H
  obtain ⟨t2256, e2257, H⟩ := bind_of H
  refine reg hP hn hm [(1, .call [] [(0, 1)] [] [1] 0 (.own 0) [(0, some (.row 9 37 (t2254.map eSample)))]), (2, .more xFunc), (3, .call [(1, 0), (0, 1)] [(1, 0), (2, 2)] [] [2] 2 (.own 2) [(0, none), (1, some (.box 27 [.im (.row (a0.f0.map etomb_Range))])), (2, some (.row 9 37 (t2256.map eSample)))])] [4] [2] ⟨[(4, .own 2)], [(2, some (.row 9 37 (t2256.map eSample)))], 0⟩ [Enters Try.prog 63, Pv.Fn Try.prog 63 [.im (.row (a1.map eSample))] [] 0 (fun r o => r = .own 0 ∧ o = [(0, some (.row 9 37 (t2254.map eSample)))]), Enters Try.prog 62, Pv.Fn Try.prog 62 [.own 0, .fn 64 [.ptr 1 0 0]] [(0, some (.row 9 37 (t2254.map eSample))), (1, some (.box 27 [.im (.row (a0.f0.map etomb_Range))]))] 2 (fun r o => r = .own 2 ∧ o = [(0, none), (1, some (.box 27 [.im (.row (a0.f0.map etomb_Range))])), (2, some (.row 9 37 (t2256.map eSample)))])] (by kernel_rfl) ⟨by exact Try.call63, by exact f_slices_Clone_api_Sample.ok a1 t2254 e2255, by exact Try.call62, by exact f_slices_DeleteFunc_api_Sample_tomb_Set_Keep_1_28a.ok t2254 a0.f0 t2256 e2257, trivial⟩ ?_
  refine AWp.conv (inv := [(2, 0)]) (vk := []) (e0 := []) (t := ⟨[(4, .own 0)], [(0, some (.row 9 37 (t2256.map eSample)))], 0⟩) (by kernel_rfl) ?_
  refine AWp.ret ?_
  obtain rfl := Option.some.inj H
  exact Exists.intro _ (And.intro (fun _ _ h => h) (And.intro (.inl rfl) (And.intro rfl (And.intro (by kernel_rfl) (by kernel_rfl)))))
def f_tomb_Set_Empty.f (a0 : Ttomb_Set) : Option (Unit) := some ()
theorem f_tomb_Set_Empty.ok (a0 : Ttomb_Set) (r : Unit) (H : f_tomb_Set_Empty.f a0 = some r) : Pv.Fn Try.prog 18 [.agg [.im (.row (a0.f0.map etomb_Range))]] [] 0 (fun x o => x = bV ((a0.f0.length : Int) == (0 : Int)) ∧ o = []) := by
  unfold f_tomb_Set_Empty.f at H
  refine Fn.bodyK [] Try.func18 rfl rfl (fun Γ hP hn => ?_)
  have hm : Try.prog.follows .mixedOrders = true := by kernel_rfl
  replace hn : Γ.n = 7 := hn
  refine AWp.seq ?_
  refine reg hP hn hm [(0, .k 0)] [1] [0] ⟨[(1, .ptr 0 0 0)], [(0, some (.box 27 [.im (.row (a0.f0.map etomb_Range))]))], 0⟩ [] (by kernel_rfl) trivial ?_
  refine AWp.seq ?_
  refine reg hP hn hm [(2, .any (iV .i64 (a0.f0.length : Int)))] [2] [] ⟨[(2, bV ((a0.f0.length : Int) == (0 : Int)))], [], 0⟩ [((a0.f0.map etomb_Range).length : Int) = (a0.f0.length : Int)] (by kernel_rfl) ⟨by rw [len_map], trivial⟩ ?_
  refine AWp.conv (inv := []) (vk := []) (e0 := []) (t := ⟨[(2, bV ((a0.f0.length : Int) == (0 : Int)))], [], 0⟩) (by kernel_rfl) ?_
  refine AWp.ret ?_
  obtain rfl := Option.some.inj H
  exact Exists.intro _ (And.intro (fun _ _ h => h) (And.intro (.inl rfl) (And.intro rfl (And.intro (by kernel_rfl) (by kernel_rfl)))))
def f_slices_Grow_tomb_Range_906.f (a1 : Int) : Option (List Ttomb_Range) := if (decide (a1 < (0 : Int))) = true then (none) else (((if (decide ((IntKind.i64.wrap (a1 - (0 : Int))) > (0 : Int))) = true then ((chk ((0 : Int) = (0 : Int) ∧ (0 : Int) = (0 : Int))) >>= fun _ => (chk (0 < (IntKind.i64.wrap (a1 - (0 : Int))) ∧ Int.toNat (IntKind.i64.wrap (a1 - (0 : Int))) * 16 ≤ 140737488355328)) >>= fun _ => (chk (0 ≤ (0 : Int) ∧ (0 : Int) ≤ ((List.replicate (Int.toNat (IntKind.i64.wrap (a1 - (0 : Int)))) (⟨0, 0⟩ : Ttomb_Range)).length : Int))) >>= fun _ => some ((List.replicate (Int.toNat (IntKind.i64.wrap (a1 - (0 : Int)))) (⟨0, 0⟩ : Ttomb_Range)).take (Int.toNat ((0 : Int))))) else (some [])) : Option (List Ttomb_Range)) >>= fun x2413 => some x2413)
theorem f_slices_Grow_tomb_Range_906.ok (a1 : Int) (r : List Ttomb_Range) (H : f_slices_Grow_tomb_Range_906.f a1 = some r) : Pv.Fn Try.prog 108 [.none0, iV .i64 a1] [] 0 (fun x o => x = .own 0 ∧ o = [(0, some (.row 2 64 (r.map etomb_Range)))]) := by
  unfold f_slices_Grow_tomb_Range_906.f at H
  refine Fn.bodyK [0] Try.func108 rfl rfl (fun Γ hP hn => ?_)
  have hm : Try.prog.follows .mixedOrders = true := by kernel_rfl
  replace hn : Γ.n = 27 := hn
  refine AWp.seq ?_
  refine reg hP hn hm [] [0, 1] [] ⟨[(0, .none0), (1, iV .i64 a1)], [], 0⟩ [] (by kernel_rfl) trivial ?_
  refine AWp.seq ?_
  refine AWp.seq ?_
  refine reg hP hn hm [] [0, 1, 6] [] ⟨[(0, .none0), (1, iV .i64 a1), (6, bV (decide (a1 < (0 : Int))))], [], 0⟩ [] (by kernel_rfl) trivial ?_
  refine AWp.cond (decide (a1 < (0 : Int))) rfl (fun c2405 => ?_) (fun c2405 => ?_)
  · replace H := (ifT c2405).symm.trans H
    exact nomatch H
  · replace H := (ifF c2405).symm.trans H
    refine AWp.skip ?_
    refine AWp.seq ?_
    refine AWp.seq ?_
    refine reg hP hn hm [(2, .more xCapNil)] [0, 1] [] ⟨[(0, .none0), (1, iV .i64 (IntKind.i64.wrap (a1 - (0 : Int))))], [], 0⟩ [] (by kernel_rfl) trivial ?_
    refine AWp.seq ?_
    refine reg hP hn hm [] [0, 1, 16] [] ⟨[(0, .none0), (1, iV .i64 (IntKind.i64.wrap (a1 - (0 : Int)))), (16, bV (decide ((IntKind.i64.wrap (a1 - (0 : Int))) > (0 : Int))))], [], 0⟩ [] (by kernel_rfl) trivial ?_
    obtain ⟨o2414, e2415, H⟩ := bind_of H
    refine AWp.mono (Q := fun e s => (match (generalizing := false) o2414 with | x2413 => e = .normal ∧ s = ⟨[(0, .own 2)], [(2, some (.row 2 64 (x2413.map etomb_Range)))], 0⟩)) (AWp.cv ?_) ?_
    · replace H := e2415; clear e2415
      refine AWp.cond (decide ((IntKind.i64.wrap (a1 - (0 : Int))) > (0 : Int))) rfl (fun c2406 => ?_) (fun c2406 => ?_)
      · replace H := (ifT c2406).symm.trans H
        obtain ⟨c2410, H⟩ := chk_of H
        obtain ⟨c2411, H⟩ := chk_of H
        obtain ⟨c2412, H⟩ := chk_of H
        refine reg hP hn hm [(2, .more xCapNil), (3, .more xCutNil), (5, .more (xAppZero 0 ((List.replicate (Int.toNat (IntKind.i64.wrap (a1 - (0 : Int)))) (⟨0, 0⟩ : Ttomb_Range)).map etomb_Range))), (8, .more (xTake 1 (((List.replicate (Int.toNat (IntKind.i64.wrap (a1 - (0 : Int)))) (⟨0, 0⟩ : Ttomb_Range)).take (Int.toNat ((0 : Int)))).map etomb_Range)))] [0] [1] ⟨[(0, .own 1)], [(1, some (.row 2 64 (((List.replicate (Int.toNat (IntKind.i64.wrap (a1 - (0 : Int)))) (⟨0, 0⟩ : Ttomb_Range)).take (Int.toNat ((0 : Int)))).map etomb_Range)))], 0⟩ [(0 : Int) = 0, (0 : Int) = 0, (List.replicate (Int.toNat (IntKind.i64.wrap (a1 - (0 : Int)))) (⟨0, 0⟩ : Ttomb_Range)).map etomb_Range = List.replicate (Int.toNat (IntKind.i64.wrap (a1 - (0 : Int)))) [iI .i64 0, iI .i64 0], 0 < (IntKind.i64.wrap (a1 - (0 : Int))), Int.toNat (IntKind.i64.wrap (a1 - (0 : Int))) * 16 ≤ 140737488355328, 0 ≤ (0 : Int), (0 : Int) ≤ (((List.replicate (Int.toNat (IntKind.i64.wrap (a1 - (0 : Int)))) (⟨0, 0⟩ : Ttomb_Range)).map etomb_Range).length : Int), ((List.replicate (Int.toNat (IntKind.i64.wrap (a1 - (0 : Int)))) (⟨0, 0⟩ : Ttomb_Range)).take (Int.toNat ((0 : Int)))).map etomb_Range = ((List.replicate (Int.toNat (IntKind.i64.wrap (a1 - (0 : Int)))) (⟨0, 0⟩ : Ttomb_Range)).map etomb_Range).take (Int.toNat ((0 : Int)))] (by kernel_rfl) ⟨by exact c2410.1, by exact c2410.2, by simp, by exact c2411.1, by exact c2411.2, by exact c2412.1, by simpa using c2412.2, by simp, trivial⟩ ?_
        obtain rfl := Option.some.inj H
        exact Exists.intro _ (And.intro (fun _ _ h => h.conv (inv := [(1, 2)]) (vk := []) (e0 := []) (t := ⟨[(0, .own 2)], [(2, some (.row 2 64 (((List.replicate (Int.toNat (IntKind.i64.wrap (a1 - (0 : Int)))) (⟨0, 0⟩ : Ttomb_Range)).take (Int.toNat ((0 : Int)))).map etomb_Range)))], 0⟩) (by kernel_rfl)) (And.intro rfl rfl))
      · replace H := (ifF c2406).symm.trans H
        refine AWp.skip ?_
        obtain rfl := Option.some.inj H
        exact Exists.intro _ (And.intro (fun _ _ h => h.conv (inv := []) (vk := []) (e0 := [2]) (t := ⟨[(0, .own 2)], [(2, some (.row 2 64 ([].map etomb_Range)))], 0⟩) (by kernel_rfl)) (And.intro rfl rfl))
    · obtain ⟨x2413, rfl⟩ : ∃ z, z = o2414 := ⟨_, rfl⟩
      rintro e s ⟨rfl, rfl⟩
      refine AWp.seq ?_
      refine reg hP hn hm [] [4] [2] ⟨[(4, .own 2)], [(2, some (.row 2 64 (x2413.map etomb_Range)))], 0⟩ [] (by kernel_rfl) trivial ?_
      refine AWp.conv (inv := [(2, 0)]) (vk := []) (e0 := []) (t := ⟨[(4, .own 0)], [(0, some (.row 2 64 (x2413.map etomb_Range)))], 0⟩) (by kernel_rfl) ?_
      refine AWp.ret ?_
      obtain rfl := Option.some.inj H
      exact Exists.intro _ (And.intro (fun _ _ h => h) (And.intro (.inl rfl) (And.intro rfl (And.intro (by kernel_rfl) (by kernel_rfl)))))
def f_slices_Concat_tomb_Range.l0 (a0 : List (List Ttomb_Range)) (x2394 : Int) (x2395 : Int) : Option (Int) := if (decide (x2395 < (a0.length : Int))) = true then ((at? a0 x2395) >>= fun b2400 => if (decide ((IntKind.i64.wrap (x2394 + (b2400.length : Int))) < (0 : Int))) = true then (none) else (f_slices_Concat_tomb_Range.l0 a0 (IntKind.i64.wrap (x2394 + (b2400.length : Int))) (IntKind.i64.wrap (x2395 + (1 : Int))))) else (some x2394)
partial_fixpoint
def f_slices_Concat_tomb_Range.l1 (a0 : List (List Ttomb_Range)) (x2429 : List Ttomb_Range) (x2430 : Int) : Option (List Ttomb_Range) := if (decide (x2430 < (a0.length : Int))) = true then ((at? a0 x2430) >>= fun b2435 => (chk ((x2429.length + b2435.length) * 16 ≤ 140737488355328)) >>= fun _ => f_slices_Concat_tomb_Range.l1 a0 (x2429 ++ b2435) (IntKind.i64.wrap (x2430 + (1 : Int)))) else (some x2429)
partial_fixpoint
def f_slices_Concat_tomb_Range.f (a0 : List (List Ttomb_Range)) : Option (List Ttomb_Range) := (f_slices_Concat_tomb_Range.l0 a0 0 0) >>= fun x2404 => (f_slices_Grow_tomb_Range_906.f x2404) >>= fun t2418 => (f_slices_Concat_tomb_Range.l1 a0 t2418 0) >>= fun x2440 => some x2440
theorem f_slices_Concat_tomb_Range.ok (a0 : List (List Ttomb_Range)) (r : List Ttomb_Range) (H : f_slices_Concat_tomb_Range.f a0 = some r) : Pv.Fn Try.prog 74 [.im (.row (a0.map (encRow etomb_Range)))] [] 0 (fun x o => x = .own 0 ∧ o = [(0, some (.row 2 64 (r.map etomb_Range)))]) := by
  unfold f_slices_Concat_tomb_Range.f at H
  refine Fn.bodyK [0] Try.func74 rfl rfl (fun Γ hP hn => ?_)
  have hm : Try.prog.follows .mixedOrders = true := by kernel_rfl
  replace hn : Γ.n = 36 := hn
  refine AWp.seq ?_
  refine reg hP hn hm [] [0] [] ⟨[(0, .im (.row (a0.map (encRow etomb_Range))))], [], 0⟩ [] (by kernel_rfl) trivial ?_
  refine AWp.seq ?_
  refine reg hP hn hm [] [0, 3] [] ⟨[(0, .im (.row (a0.map (encRow etomb_Range)))), (3, iV .i64 0)], [], 0⟩ [] (by kernel_rfl) trivial ?_
  refine AWp.seq ?_
  refine AWp.seq ?_
  refine reg hP hn hm [(1, .any (iV .i64 (a0.length : Int)))] [0, 3, 9, 10, 11] [] ⟨[(0, .im (.row (a0.map (encRow etomb_Range)))), (3, iV .i64 0), (9, .im (.row (a0.map (encRow etomb_Range)))), (10, iV .i64 (a0.length : Int)), (11, iV .i64 0)], [], 0⟩ [((a0.map (encRow etomb_Range)).length : Int) = (a0.length : Int)] (by kernel_rfl) ⟨by rw [len_map], trivial⟩ ?_
  refine AWp.block ?_
  obtain ⟨o2441, e2442, H⟩ := bind_of H
  refine AWp.loop (LWp.conv (inv := []) (vk := []) (e0 := []) (t := ⟨[(0, .im (.row (a0.map (encRow etomb_Range)))), (3, iV .i64 0), (9, .im (.row (a0.map (encRow etomb_Range)))), (10, iV .i64 (a0.length : Int)), (11, iV .i64 0)], [], 0⟩) (by kernel_rfl) ?_)
  refine LWp.mono (Q := fun e s => (match (generalizing := false) o2441 with | x2404 => e = .exit 0 ∧ s = ⟨[(0, .im (.row (a0.map (encRow etomb_Range)))), (3, iV .i64 x2404)], [], 0⟩)) (LWp.cv (withBody (fun body hbody => ?_))) ?_
  · refine f_slices_Concat_tomb_Range.l0.partial_correctness a0 (motive := fun x2394 x2395 o2441 => LWp Γ body (fun e s => ∃ t, Cv Γ s t ∧ (match (generalizing := false) o2441 with | x2404 => e = .exit 0 ∧ t = ⟨[(0, .im (.row (a0.map (encRow etomb_Range)))), (3, iV .i64 x2404)], [], 0⟩)) ⟨[(0, .im (.row (a0.map (encRow etomb_Range)))), (3, iV .i64 x2394), (9, .im (.row (a0.map (encRow etomb_Range)))), (10, iV .i64 (a0.length : Int)), (11, iV .i64 x2395)], [], 0⟩) ?_ _ _ _ e2442
    clear H e2442 o2441; intro self ih x2394 x2395 o2441 H
    subst hbody
    refine LWp.round ?_
    refine AWp.seq ?_
    refine reg hP hn hm [] [0, 3, 9, 10, 11, 12] [] ⟨[(0, .im (.row (a0.map (encRow etomb_Range)))), (3, iV .i64 x2394), (9, .im (.row (a0.map (encRow etomb_Range)))), (10, iV .i64 (a0.length : Int)), (11, iV .i64 x2395), (12, bV (decide (x2395 < (a0.length : Int))))], [], 0⟩ [] (by kernel_rfl) trivial ?_
    refine AWp.seq ?_
    refine AWp.cond (decide (x2395 < (a0.length : Int))) rfl (fun c2396 => ?_) (fun c2396 => ?_)
    · replace H := (ifT c2396).symm.trans H
      refine AWp.skip ?_
      refine AWp.seq ?_
      refine AWp.block ?_
      refine AWp.seq ?_
      obtain ⟨b2400, p2401, q2402, H⟩ := at_of H
      refine reg hP hn hm [(0, .c ((encRow etomb_Range) b2400))] [0, 3, 5, 9, 10, 11] [] ⟨[(0, .im (.row (a0.map (encRow etomb_Range)))), (3, iV .i64 x2394), (5, .im (.row (b2400.map etomb_Range))), (9, .im (.row (a0.map (encRow etomb_Range)))), (10, iV .i64 (a0.length : Int)), (11, iV .i64 x2395)], [], 0⟩ [0 ≤ x2395, (a0.map (encRow etomb_Range))[(Int.toNat (x2395))]? = some ((encRow etomb_Range) b2400)] (by kernel_rfl) ⟨by exact p2401, by exact el_map (encRow etomb_Range) q2402, trivial⟩ ?_
      refine AWp.seq ?_
      refine reg hP hn hm [(2, .any (iV .i64 (b2400.length : Int)))] [0, 3, 9, 10, 11] [] ⟨[(0, .im (.row (a0.map (encRow etomb_Range)))), (3, iV .i64 (IntKind.i64.wrap (x2394 + (b2400.length : Int)))), (9, .im (.row (a0.map (encRow etomb_Range)))), (10, iV .i64 (a0.length : Int)), (11, iV .i64 x2395)], [], 0⟩ [((b2400.map etomb_Range).length : Int) = (b2400.length : Int)] (by kernel_rfl) ⟨by rw [len_map], trivial⟩ ?_
      refine AWp.seq ?_
      refine reg hP hn hm [] [0, 3, 9, 10, 11, 20] [] ⟨[(0, .im (.row (a0.map (encRow etomb_Range)))), (3, iV .i64 (IntKind.i64.wrap (x2394 + (b2400.length : Int)))), (9, .im (.row (a0.map (encRow etomb_Range)))), (10, iV .i64 (a0.length : Int)), (11, iV .i64 x2395), (20, bV (decide ((IntKind.i64.wrap (x2394 + (b2400.length : Int))) < (0 : Int))))], [], 0⟩ [] (by kernel_rfl) trivial ?_
      refine AWp.cond (decide ((IntKind.i64.wrap (x2394 + (b2400.length : Int))) < (0 : Int))) rfl (fun c2403 => ?_) (fun c2403 => ?_)
      · replace H := (ifT c2403).symm.trans H
        exact nomatch H
      · replace H := (ifF c2403).symm.trans H
        refine AWp.skip ?_
        refine reg hP hn hm [] [0, 3, 9, 10, 11] [] ⟨[(0, .im (.row (a0.map (encRow etomb_Range)))), (3, iV .i64 (IntKind.i64.wrap (x2394 + (b2400.length : Int)))), (9, .im (.row (a0.map (encRow etomb_Range)))), (10, iV .i64 (a0.length : Int)), (11, iV .i64 (IntKind.i64.wrap (x2395 + (1 : Int))))], [], 0⟩ [] (by kernel_rfl) trivial ?_
        exact LWp.conv (inv := []) (vk := []) (e0 := []) (t := ⟨[(0, .im (.row (a0.map (encRow etomb_Range)))), (3, iV .i64 (IntKind.i64.wrap (x2394 + (b2400.length : Int)))), (9, .im (.row (a0.map (encRow etomb_Range)))), (10, iV .i64 (a0.length : Int)), (11, iV .i64 (IntKind.i64.wrap (x2395 + (1 : Int))))], [], 0⟩) (by kernel_rfl) (ih _ _ _ H)
    · replace H := (ifF c2396).symm.trans H
      refine AWp.exit ?_
      obtain rfl := Option.some.inj H
      exact Exists.intro _ (And.intro (fun _ _ h => h.conv (inv := []) (vk := []) (e0 := []) (t := ⟨[(0, .im (.row (a0.map (encRow etomb_Range)))), (3, iV .i64 x2394)], [], 0⟩) (by kernel_rfl)) (And.intro rfl rfl))
  · obtain ⟨x2404, rfl⟩ : ∃ z, z = o2441 := ⟨_, rfl⟩
    rintro e s ⟨rfl, rfl⟩
    refine AWp.seq ?_
    obtain ⟨t2418, e2419, H⟩ := bind_of H
    refine reg hP hn hm [(1, .callz [] [(0, 0)] [] [0] 0 (.own 0) [(0, some (.row 2 64 (t2418.map etomb_Range)))])] [0, 6] [0] ⟨[(0, .im (.row (a0.map (encRow etomb_Range)))), (6, .own 0)], [(0, some (.row 2 64 (t2418.map etomb_Range)))], 0⟩ [Enters Try.prog 108, Pv.Fn Try.prog 108 [.none0, iV .i64 x2404] [] 0 (fun r o => r = .own 0 ∧ o = [(0, some (.row 2 64 (t2418.map etomb_Range)))])] (by kernel_rfl) ⟨by exact Try.call108, by exact f_slices_Grow_tomb_Range_906.ok x2404 t2418 e2419, trivial⟩ ?_
    refine AWp.seq ?_
    refine AWp.seq ?_
    refine reg hP hn hm [(1, .any (iV .i64 (a0.length : Int)))] [6, 25, 26, 27] [0] ⟨[(6, .own 0), (25, .im (.row (a0.map (encRow etomb_Range)))), (26, iV .i64 (a0.length : Int)), (27, iV .i64 0)], [(0, some (.row 2 64 (t2418.map etomb_Range)))], 0⟩ [((a0.map (encRow etomb_Range)).length : Int) = (a0.length : Int)] (by kernel_rfl) ⟨by rw [len_map], trivial⟩ ?_
    refine AWp.block ?_
    obtain ⟨o2443, e2444, H⟩ := bind_of H
    refine AWp.loop (LWp.conv (inv := [(0, 2)]) (vk := []) (e0 := []) (t := ⟨[(6, .own 2), (25, .im (.row (a0.map (encRow etomb_Range)))), (26, iV .i64 (a0.length : Int)), (27, iV .i64 0)], [(2, some (.row 2 64 (t2418.map etomb_Range)))], 0⟩) (by kernel_rfl) ?_)
    refine LWp.mono (Q := fun e s => (match (generalizing := false) o2443 with | x2440 => e = .exit 2 ∧ s = ⟨[(6, .own 4)], [(4, some (.row 2 64 (x2440.map etomb_Range)))], 0⟩)) (LWp.cv (withBody (fun body hbody => ?_))) ?_
    · refine f_slices_Concat_tomb_Range.l1.partial_correctness a0 (motive := fun x2429 x2430 o2443 => LWp Γ body (fun e s => ∃ t, Cv Γ s t ∧ (match (generalizing := false) o2443 with | x2440 => e = .exit 2 ∧ t = ⟨[(6, .own 4)], [(4, some (.row 2 64 (x2440.map etomb_Range)))], 0⟩)) ⟨[(6, .own 2), (25, .im (.row (a0.map (encRow etomb_Range)))), (26, iV .i64 (a0.length : Int)), (27, iV .i64 x2430)], [(2, some (.row 2 64 (x2429.map etomb_Range)))], 0⟩) ?_ _ _ _ e2444
      clear H e2444 o2443; intro self ih x2429 x2430 o2443 H
      subst hbody
      refine LWp.round ?_
      refine AWp.seq ?_
      refine reg hP hn hm [] [6, 25, 26, 27, 28] [2] ⟨[(6, .own 2), (25, .im (.row (a0.map (encRow etomb_Range)))), (26, iV .i64 (a0.length : Int)), (27, iV .i64 x2430), (28, bV (decide (x2430 < (a0.length : Int))))], [(2, some (.row 2 64 (x2429.map etomb_Range)))], 0⟩ [] (by kernel_rfl) trivial ?_
      refine AWp.seq ?_
      refine AWp.cond (decide (x2430 < (a0.length : Int))) rfl (fun c2431 => ?_) (fun c2431 => ?_)
      · replace H := (ifT c2431).symm.trans H
        refine AWp.skip ?_
        refine AWp.seq ?_
        refine AWp.block ?_
        refine AWp.seq ?_
        obtain ⟨b2435, p2436, q2437, H⟩ := at_of H
        refine reg hP hn hm [(0, .c ((encRow etomb_Range) b2435))] [6, 8, 25, 26, 27] [2] ⟨[(6, .own 2), (8, .im (.row (b2435.map etomb_Range))), (25, .im (.row (a0.map (encRow etomb_Range)))), (26, iV .i64 (a0.length : Int)), (27, iV .i64 x2430)], [(2, some (.row 2 64 (x2429.map etomb_Range)))], 0⟩ [0 ≤ x2430, (a0.map (encRow etomb_Range))[(Int.toNat (x2430))]? = some ((encRow etomb_Range) b2435)] (by kernel_rfl) ⟨by exact p2436, by exact el_map (encRow etomb_Range) q2437, trivial⟩ ?_
        obtain ⟨c2439, H⟩ := chk_of H
        refine reg hP hn hm [(2, .app 3 ((x2429 ++ b2435).map etomb_Range))] [6, 25, 26, 27] [3] ⟨[(6, .own 3), (25, .im (.row (a0.map (encRow etomb_Range)))), (26, iV .i64 (a0.length : Int)), (27, iV .i64 x2430)], [(3, some (.row 2 64 ((x2429 ++ b2435).map etomb_Range)))], 0⟩ [(x2429 ++ b2435).map etomb_Range = (x2429.map etomb_Range) ++ (b2435.map etomb_Range), ∀ c ∈ (b2435.map etomb_Range), c.length = 2, ∀ c ∈ (b2435.map etomb_Range), leaves (c.map .im) = true, ((x2429.map etomb_Range).length + (b2435.map etomb_Range).length) * 16 ≤ 140737488355328] (by kernel_rfl) ⟨by simp, by exact all_len _ _ _ (fun _ => rfl), by exact all_leaf _ _ (fun _ => rfl), by simpa using c2439, trivial⟩ ?_
        refine reg hP hn hm [] [6, 25, 26, 27] [3] ⟨[(6, .own 3), (25, .im (.row (a0.map (encRow etomb_Range)))), (26, iV .i64 (a0.length : Int)), (27, iV .i64 (IntKind.i64.wrap (x2430 + (1 : Int))))], [(3, some (.row 2 64 ((x2429 ++ b2435).map etomb_Range)))], 0⟩ [] (by kernel_rfl) trivial ?_
        exact LWp.conv (inv := [(3, 2)]) (vk := []) (e0 := []) (t := ⟨[(6, .own 2), (25, .im (.row (a0.map (encRow etomb_Range)))), (26, iV .i64 (a0.length : Int)), (27, iV .i64 (IntKind.i64.wrap (x2430 + (1 : Int))))], [(2, some (.row 2 64 ((x2429 ++ b2435).map etomb_Range)))], 0⟩) (by kernel_rfl) (ih _ _ _ H)
      · replace H := (ifF c2431).symm.trans H
        refine AWp.exit ?_
        obtain rfl := Option.some.inj H
        exact Exists.intro _ (And.intro (fun _ _ h => h.conv (inv := [(2, 4)]) (vk := []) (e0 := []) (t := ⟨[(6, .own 4)], [(4, some (.row 2 64 (x2429.map etomb_Range)))], 0⟩) (by kernel_rfl)) (And.intro rfl rfl))
    · obtain ⟨x2440, rfl⟩ : ∃ z, z = o2443 := ⟨_, rfl⟩
      rintro e s ⟨rfl, rfl⟩
      refine AWp.seq ?_
      refine reg hP hn hm [] [2] [4] ⟨[(2, .own 4)], [(4, some (.row 2 64 (x2440.map etomb_Range)))], 0⟩ [] (by kernel_rfl) trivial ?_
      refine AWp.conv (inv := [(4, 0)]) (vk := []) (e0 := []) (t := ⟨[(2, .own 0)], [(0, some (.row 2 64 (x2440.map etomb_Range)))], 0⟩) (by kernel_rfl) ?_
      refine AWp.ret ?_
      obtain rfl := Option.some.inj H
      exact Exists.intro _ (And.intro (fun _ _ h => h) (And.intro (.inl rfl) (And.intro rfl (And.intro (by kernel_rfl) (by kernel_rfl)))))
def f_tomb_Set_And.f (a0 : Ttomb_Set) (a1 : Ttomb_Set) : Option (Ttomb_Set) := (f_slices_Concat_tomb_Range.f [a0.f0, a1.f0]) >>= fun t2449 => (f_tomb_Of.f t2449) >>= fun t2451 => some (t2451)
theorem f_tomb_Set_And.ok (a0 : Ttomb_Set) (a1 : Ttomb_Set) (r : Ttomb_Set) (H : f_tomb_Set_And.f a0 a1 = some r) : Pv.Fn Try.prog 30 [.agg [.im (.row (a0.f0.map etomb_Range))], .agg [.im (.row (a1.f0.map etomb_Range))]] [] 0 (fun x o => x = .agg [.own 0] ∧ o = [(0, some (.row 2 64 (((r).f0).map etomb_Range)))]) := by
  unfold f_tomb_Set_And.f at H
  refine Fn.bodyK [0] Try.func30 rfl rfl (fun Γ hP hn => ?_)
  have hm : Try.prog.follows .mixedOrders = true := by kernel_rfl
  replace hn : Γ.n = 12 := hn
  refine AWp.seq ?_
  refine reg hP hn hm [(0, .k 0), (1, .k 1), (2, .k 2)] [2, 3, 4] [0, 1, 2] ⟨[(2, .ptr 0 0 0), (3, .ptr 1 0 0), (4, .ptr 2 0 0)], [(0, some (.box 27 [.im (.row (a0.f0.map etomb_Range))])), (1, some (.box 27 [.im (.row (a1.f0.map etomb_Range))])), (2, some (.box 27 [.none0]))], 0⟩ [] (by kernel_rfl) trivial ?_
  refine AWp.seq ?_
  obtain ⟨t2449, e2450, H⟩ := bind_of H
  obtain ⟨t2451, e2452, H⟩ := bind_of H
  refine reg hP hn hm [(4, .app 3 ([a0.f0, a1.f0].map (encRow etomb_Range))), (5, .call [] [(0, 4)] [3] [4] 0 (.own 0) [(0, some (.row 2 64 (t2449.map etomb_Range)))]), (6, .call [] [(0, 5)] [4] [5] 0 (.agg [.own 0]) [(0, some (.row 2 64 (((t2451).f0).map etomb_Range)))])] [4] [2, 5] ⟨[(4, .ptr 2 0 0)], [(2, some (.box 27 [.own 5])), (5, some (.row 2 64 (((t2451).f0).map etomb_Range)))], 0⟩ [[a0.f0, a1.f0].map (encRow etomb_Range) = [[.row (a0.f0.map etomb_Range)], [.row (a1.f0.map etomb_Range)]], Enters Try.prog 74, Pv.Fn Try.prog 74 [.im (.row ([a0.f0, a1.f0].map (encRow etomb_Range)))] [] 0 (fun r o => r = .own 0 ∧ o = [(0, some (.row 2 64 (t2449.map etomb_Range)))]), Enters Try.prog 14, Pv.Fn Try.prog 14 [.im (.row (t2449.map etomb_Range))] [] 0 (fun r o => r = .agg [.own 0] ∧ o = [(0, some (.row 2 64 (((t2451).f0).map etomb_Range)))])] (by kernel_rfl) ⟨by exact rfl, by exact Try.call74, by exact f_slices_Concat_tomb_Range.ok [a0.f0, a1.f0] t2449 e2450, by exact Try.call14, by exact f_tomb_Of.ok t2449 t2451 e2452, trivial⟩ ?_
  refine AWp.conv (inv := [(2, 1), (5, 0)]) (vk := []) (e0 := []) (t := ⟨[(4, .ptr 1 0 0)], [(0, some (.row 2 64 ((((t2451)).f0).map etomb_Range))), (1, some (.box 27 [.own 0]))], 0⟩) (by kernel_rfl) ?_
  refine AWp.ret ?_
  obtain rfl := Option.some.inj H
  exact Exists.intro _ (And.intro (fun _ _ h => h) (And.intro (.inl rfl) (And.intro rfl (And.intro (by kernel_rfl) (by kernel_rfl)))))
def f_pluviallaw14_same.l0 (t2461 : List Ttomb_Range) (t2463 : List Ttomb_Range) (x2480 : Int) : Option (Bool ⊕ Unit) := if (decide (x2480 < (t2461.length : Int))) = true then ((at? t2461 x2480) >>= fun b2488 => (at? t2463 x2480) >>= fun b2491 => if (!((b2488.f0 == b2491.f0) && ((b2488.f1 == b2491.f1) && true))) = true then (some (.inl false)) else (f_pluviallaw14_same.l0 t2461 t2463 (IntKind.i64.wrap (x2480 + (1 : Int))))) else (some (.inr ()))
partial_fixpoint
def f_pluviallaw14_same.f (a0 : Ttomb_Set) (a1 : Ttomb_Set) : Option (Bool) := (f_tomb_Set_Ranges.f a0) >>= fun t2461 => (f_tomb_Set_Ranges.f a1) >>= fun t2463 => if ((t2461.length : Int) != (t2463.length : Int)) = true then (some false) else ((f_pluviallaw14_same.l0 t2461 t2463 0) >>= fun oo => match oo with | .inl rr => (some rr) | .inr _ => (some true))
theorem f_pluviallaw14_same.ok (a0 : Ttomb_Set) (a1 : Ttomb_Set) (r : Bool) (H : f_pluviallaw14_same.f a0 a1 = some r) : Pv.Fn Try.prog 29 [.agg [.im (.row (a0.f0.map etomb_Range))], .agg [.im (.row (a1.f0.map etomb_Range))]] [] 0 (fun x o => x = bV r ∧ o = []) := by
  unfold f_pluviallaw14_same.f at H
  refine Fn.bodyK [] Try.func29 rfl rfl (fun Γ hP hn => ?_)
  have hm : Try.prog.follows .mixedOrders = true := by kernel_rfl
  replace hn : Γ.n = 32 := hn
  refine AWp.seq ?_
  refine reg hP hn hm [(0, .k 0), (1, .k 1)] [2, 3] [0, 1] ⟨[(2, .ptr 0 0 0), (3, .ptr 1 0 0)], [(0, some (.box 27 [.im (.row (a0.f0.map etomb_Range))])), (1, some (.box 27 [.im (.row (a1.f0.map etomb_Range))]))], 0⟩ [] (by kernel_rfl) trivial ?_
  refine AWp.seq ?_
  obtain ⟨t2461, e2462, H⟩ := bind_of H
  obtain ⟨t2463, e2464, H⟩ := bind_of H
  refine reg hP hn hm [(1, .call [] [(0, 2)] [] [2] 0 (.own 0) [(0, some (.row 2 64 (t2461.map etomb_Range)))]), (3, .call [] [(0, 3)] [] [3] 0 (.own 0) [(0, some (.row 2 64 (t2463.map etomb_Range)))])] [5, 6] [2, 3] ⟨[(5, .own 2), (6, .own 3)], [(2, some (.row 2 64 (t2461.map etomb_Range))), (3, some (.row 2 64 (t2463.map etomb_Range)))], 0⟩ [Enters Try.prog 31, Pv.Fn Try.prog 31 [.agg [.im (.row (a0.f0.map etomb_Range))]] [] 0 (fun r o => r = .own 0 ∧ o = [(0, some (.row 2 64 (t2461.map etomb_Range)))]), Enters Try.prog 31, Pv.Fn Try.prog 31 [.agg [.im (.row (a1.f0.map etomb_Range))]] [] 0 (fun r o => r = .own 0 ∧ o = [(0, some (.row 2 64 (t2463.map etomb_Range)))])] (by kernel_rfl) ⟨by exact Try.call31, by exact f_tomb_Set_Ranges.ok a0 t2461 e2462, by exact Try.call31, by exact f_tomb_Set_Ranges.ok a1 t2463 e2464, trivial⟩ ?_
  refine AWp.seq ?_
  refine AWp.seq ?_
  refine reg hP hn hm [(1, .any (iV .i64 (t2461.length : Int))), (3, .any (iV .i64 (t2463.length : Int)))] [5, 6, 16] [2, 3] ⟨[(5, .own 2), (6, .own 3), (16, bV ((t2461.length : Int) != (t2463.length : Int)))], [(2, some (.row 2 64 (t2461.map etomb_Range))), (3, some (.row 2 64 (t2463.map etomb_Range)))], 0⟩ [((t2461.map etomb_Range).length : Int) = (t2461.length : Int), ((t2463.map etomb_Range).length : Int) = (t2463.length : Int)] (by kernel_rfl) ⟨by rw [len_map], by rw [len_map], trivial⟩ ?_
  refine AWp.cond ((t2461.length : Int) != (t2463.length : Int)) rfl (fun c2465 => ?_) (fun c2465 => ?_)
  · replace H := (ifT c2465).symm.trans H
    refine AWp.seq ?_
    refine reg hP hn hm [] [4] [] ⟨[(4, bV false)], [], 0⟩ [] (by kernel_rfl) trivial ?_
    refine AWp.conv (inv := []) (vk := []) (e0 := []) (t := ⟨[(4, bV false)], [], 0⟩) (by kernel_rfl) ?_
    refine AWp.ret ?_
    obtain rfl := Option.some.inj H
    exact Exists.intro _ (And.intro (fun _ _ h => h) (And.intro (.inl rfl) (And.intro rfl (And.intro (by kernel_rfl) (by kernel_rfl)))))
  · replace H := (ifF c2465).symm.trans H
    refine AWp.skip ?_
    refine AWp.seq ?_
    refine AWp.seq ?_
    refine reg hP hn hm [(1, .any (iV .i64 (t2461.length : Int)))] [5, 6, 18, 19] [2, 3] ⟨[(5, .own 2), (6, .own 3), (18, iV .i64 (t2461.length : Int)), (19, iV .i64 0)], [(2, some (.row 2 64 (t2461.map etomb_Range))), (3, some (.row 2 64 (t2463.map etomb_Range)))], 0⟩ [((t2461.map etomb_Range).length : Int) = (t2461.length : Int)] (by kernel_rfl) ⟨by rw [len_map], trivial⟩ ?_
    refine AWp.block ?_
    obtain ⟨o2495, e2496, H⟩ := bind_of H
    refine AWp.loop (LWp.conv (inv := [(2, 4), (3, 5)]) (vk := []) (e0 := []) (t := ⟨[(5, .own 4), (6, .own 5), (18, iV .i64 (t2461.length : Int)), (19, iV .i64 0)], [(4, some (.row 2 64 (t2461.map etomb_Range))), (5, some (.row 2 64 (t2463.map etomb_Range)))], 0⟩) (by kernel_rfl) ?_)
    refine LWp.mono (Q := fun e s => (match (generalizing := false) o2495 with | .inl rr => e = .ret ∧ s.floor = 0 ∧ resOf Try.prog Try.f29 s = some (bV rr) ∧ ([] : List (Nat × Option MObj)) = [] | .inr _ => e = .exit 0 ∧ s = ⟨[], [], 0⟩)) (LWp.cv (withBody (fun body hbody => ?_))) ?_
    · refine f_pluviallaw14_same.l0.partial_correctness t2461 t2463 (motive := fun x2480 o2495 => LWp Γ body (fun e s => ∃ t, Cv Γ s t ∧ (match (generalizing := false) o2495 with | .inl rr => e = .ret ∧ t.floor = 0 ∧ resOf Try.prog Try.f29 t = some (bV rr) ∧ ([] : List (Nat × Option MObj)) = [] | .inr _ => e = .exit 0 ∧ t = ⟨[], [], 0⟩)) ⟨[(5, .own 4), (6, .own 5), (18, iV .i64 (t2461.length : Int)), (19, iV .i64 x2480)], [(4, some (.row 2 64 (t2461.map etomb_Range))), (5, some (.row 2 64 (t2463.map etomb_Range)))], 0⟩) ?_ _ _ e2496
      clear H e2496 o2495; intro self ih x2480 o2495 H
      subst hbody
      refine LWp.round ?_
      refine AWp.seq ?_
      refine reg hP hn hm [] [5, 6, 18, 19, 20] [4, 5] ⟨[(5, .own 4), (6, .own 5), (18, iV .i64 (t2461.length : Int)), (19, iV .i64 x2480), (20, bV (decide (x2480 < (t2461.length : Int))))], [(4, some (.row 2 64 (t2461.map etomb_Range))), (5, some (.row 2 64 (t2463.map etomb_Range)))], 0⟩ [] (by kernel_rfl) trivial ?_
      refine AWp.seq ?_
      refine AWp.cond (decide (x2480 < (t2461.length : Int))) rfl (fun c2481 => ?_) (fun c2481 => ?_)
      · replace H := (ifT c2481).symm.trans H
        refine AWp.skip ?_
        refine AWp.seq ?_
        refine AWp.block ?_
        refine AWp.seq ?_
        refine reg hP hn hm [] [5, 6, 7, 18, 19] [4, 5] ⟨[(5, .own 4), (6, .own 5), (7, iV .i64 x2480), (18, iV .i64 (t2461.length : Int)), (19, iV .i64 x2480)], [(4, some (.row 2 64 (t2461.map etomb_Range))), (5, some (.row 2 64 (t2463.map etomb_Range)))], 0⟩ [] (by kernel_rfl) trivial ?_
        refine AWp.seq ?_
        obtain ⟨b2488, p2489, q2490, H⟩ := at_of H
        obtain ⟨b2491, p2492, q2493, H⟩ := at_of H
        refine reg hP hn hm [(3, .c (etomb_Range b2488)), (7, .c (etomb_Range b2491)), (8, .more (xAgg none))] [5, 6, 18, 19, 30] [4, 5] ⟨[(5, .own 4), (6, .own 5), (18, iV .i64 (t2461.length : Int)), (19, iV .i64 x2480), (30, bV (!((b2488.f0 == b2491.f0) && ((b2488.f1 == b2491.f1) && true))))], [(4, some (.row 2 64 (t2461.map etomb_Range))), (5, some (.row 2 64 (t2463.map etomb_Range)))], 0⟩ [0 ≤ x2480, x2480 < (((t2461.map etomb_Range).length : Nat) : Int), (t2461.map etomb_Range)[(Int.toNat (x2480))]? = some (etomb_Range b2488), 0 ≤ x2480, x2480 < (((t2463.map etomb_Range).length : Nat) : Int), (t2463.map etomb_Range)[(Int.toNat (x2480))]? = some (etomb_Range b2491)] (by kernel_rfl) ⟨by exact p2489, by exact el_lt etomb_Range p2489 q2490, by exact el_map etomb_Range q2490, by exact p2492, by exact el_lt etomb_Range p2492 q2493, by exact el_map etomb_Range q2493, trivial⟩ ?_
        refine AWp.cond (!((b2488.f0 == b2491.f0) && ((b2488.f1 == b2491.f1) && true))) rfl (fun c2494 => ?_) (fun c2494 => ?_)
        · replace H := (ifT c2494).symm.trans H
          refine AWp.seq ?_
          refine reg hP hn hm [] [4] [] ⟨[(4, bV false)], [], 0⟩ [] (by kernel_rfl) trivial ?_
          refine AWp.conv (inv := []) (vk := []) (e0 := []) (t := ⟨[(4, bV false)], [], 0⟩) (by kernel_rfl) ?_
          refine AWp.ret ?_
          obtain rfl := Option.some.inj H
          exact Exists.intro _ (And.intro (fun _ _ h => h) (And.intro rfl (And.intro rfl (And.intro (by kernel_rfl) (by kernel_rfl)))))
        · replace H := (ifF c2494).symm.trans H
          refine AWp.skip ?_
          refine reg hP hn hm [] [5, 6, 18, 19] [4, 5] ⟨[(5, .own 4), (6, .own 5), (18, iV .i64 (t2461.length : Int)), (19, iV .i64 (IntKind.i64.wrap (x2480 + (1 : Int))))], [(4, some (.row 2 64 (t2461.map etomb_Range))), (5, some (.row 2 64 (t2463.map etomb_Range)))], 0⟩ [] (by kernel_rfl) trivial ?_
          exact LWp.conv (inv := [(4, 4), (5, 5)]) (vk := []) (e0 := []) (t := ⟨[(5, .own 4), (6, .own 5), (18, iV .i64 (t2461.length : Int)), (19, iV .i64 (IntKind.i64.wrap (x2480 + (1 : Int))))], [(4, some (.row 2 64 (t2461.map etomb_Range))), (5, some (.row 2 64 (t2463.map etomb_Range)))], 0⟩) (by kernel_rfl) (ih _ _ H)
      · replace H := (ifF c2481).symm.trans H
        refine AWp.exit ?_
        obtain rfl := Option.some.inj H
        exact Exists.intro _ (And.intro (fun _ _ h => h.conv (inv := []) (vk := []) (e0 := []) (t := ⟨[], [], 0⟩) (by kernel_rfl)) (And.intro rfl rfl))
    · rcases o2495 with rr | _
      · skip
        rintro e s ⟨rfl, hfl, hres⟩
        obtain rfl := Option.some.inj H
        exact Exists.intro _ (And.intro (fun _ _ h => h) (And.intro (.inl rfl) (And.intro hfl hres)))
      · skip
        rintro e s ⟨rfl, rfl⟩
        refine AWp.seq ?_
        refine reg hP hn hm [] [4] [] ⟨[(4, bV true)], [], 0⟩ [] (by kernel_rfl) trivial ?_
        refine AWp.conv (inv := []) (vk := []) (e0 := []) (t := ⟨[(4, bV true)], [], 0⟩) (by kernel_rfl) ?_
        refine AWp.ret ?_
        obtain rfl := Option.some.inj H
        exact Exists.intro _ (And.intro (fun _ _ h => h) (And.intro (.inl rfl) (And.intro rfl (And.intro (by kernel_rfl) (by kernel_rfl)))))
def f_tomb_Set_Without.l0 (a0 : Ttomb_Set) (a1 : Ttomb_Range) (x2594 : List Ttomb_Range) (x2595 : Int) : Option (List Ttomb_Range) := if (decide (x2595 < (a0.f0.length : Int))) = true then ((((at? a0.f0 x2595) >>= fun b2600 => (((f_tomb_Right.f a1) >>= fun t2607 => if (!t2607) = true then (some true) else (if (decide (b2600.f1 < a1.f0)) = true then (some true) else (some (decide (b2600.f0 > a1.f1))))) : Option (Bool)) >>= fun x2611 => if x2611 = true then ((chk ((x2594.length + [b2600].length) * 16 ≤ 140737488355328)) >>= fun _ => some (x2594 ++ [b2600])) else ((chk ((x2594.length + [(⟨b2600.f0, IntKind.i64.wrap (a1.f0 - (1 : Int))⟩ : Ttomb_Range), (⟨IntKind.i64.wrap (a1.f1 + (1 : Int)), b2600.f1⟩ : Ttomb_Range)].length) * 16 ≤ 140737488355328)) >>= fun _ => some (x2594 ++ [(⟨b2600.f0, IntKind.i64.wrap (a1.f0 - (1 : Int))⟩ : Ttomb_Range), (⟨IntKind.i64.wrap (a1.f1 + (1 : Int)), b2600.f1⟩ : Ttomb_Range)]))) : Option (List Ttomb_Range)) >>= fun x2617 => f_tomb_Set_Without.l0 a0 a1 x2617 (IntKind.i64.wrap (x2595 + (1 : Int)))) else (some x2594)
partial_fixpoint
def f_tomb_Set_Without.f (a0 : Ttomb_Set) (a1 : Ttomb_Range) : Option (Ttomb_Set) := (f_tomb_Set_Without.l0 a0 a1 [] 0) >>= fun x2618 => (f_tomb_Of.f x2618) >>= fun t2623 => some (t2623)
theorem f_tomb_Set_Without.ok (a0 : Ttomb_Set) (a1 : Ttomb_Range) (r : Ttomb_Set) (H : f_tomb_Set_Without.f a0 a1 = some r) : Pv.Fn Try.prog 33 [.agg [.im (.row (a0.f0.map etomb_Range))], .agg (atomb_Range a1)] [] 0 (fun x o => x = .agg [.own 0] ∧ o = [(0, some (.row 2 64 (((r).f0).map etomb_Range)))]) := by
  unfold f_tomb_Set_Without.f at H
  refine Fn.bodyK [0] Try.func33 rfl rfl (fun Γ hP hn => ?_)
  have hm : Try.prog.follows .mixedOrders = true := by kernel_rfl
  replace hn : Γ.n = 54 := hn
  refine AWp.seq ?_
  refine reg hP hn hm [(0, .k 0), (1, .k 1), (2, .k 2)] [2, 3, 4] [0, 1, 2] ⟨[(2, .ptr 0 0 0), (3, .ptr 1 0 0), (4, .ptr 2 0 0)], [(0, some (.box 27 [.im (.row (a0.f0.map etomb_Range))])), (1, some (.box 64 (atomb_Range a1))), (2, some (.box 27 [.none0]))], 0⟩ [] (by kernel_rfl) trivial ?_
  refine AWp.seq ?_
  refine reg hP hn hm [] [2, 3, 4, 5] [0, 1, 2] ⟨[(2, .ptr 0 0 0), (3, .ptr 1 0 0), (4, .ptr 2 0 0), (5, .none0)], [(0, some (.box 27 [.im (.row (a0.f0.map etomb_Range))])), (1, some (.box 64 (atomb_Range a1))), (2, some (.box 27 [.none0]))], 0⟩ [] (by kernel_rfl) trivial ?_
  refine AWp.seq ?_
  refine AWp.seq ?_
  refine reg hP hn hm [(2, .any (iV .i64 (a0.f0.length : Int)))] [3, 4, 5, 9, 10, 11] [1, 2] ⟨[(3, .ptr 1 0 0), (4, .ptr 2 0 0), (5, .none0), (9, .im (.row (a0.f0.map etomb_Range))), (10, iV .i64 (a0.f0.length : Int)), (11, iV .i64 0)], [(1, some (.box 64 (atomb_Range a1))), (2, some (.box 27 [.none0]))], 0⟩ [((a0.f0.map etomb_Range).length : Int) = (a0.f0.length : Int)] (by kernel_rfl) ⟨by rw [len_map], trivial⟩ ?_
  refine AWp.block ?_
  obtain ⟨o2625, e2626, H⟩ := bind_of H
  refine AWp.loop (LWp.conv (inv := [(1, 14), (2, 15)]) (vk := []) (e0 := [16]) (t := ⟨[(3, .ptr 14 0 0), (4, .ptr 15 0 0), (5, .own 16), (9, .im (.row (a0.f0.map etomb_Range))), (10, iV .i64 (a0.f0.length : Int)), (11, iV .i64 0)], [(14, some (.box 64 (atomb_Range a1))), (15, some (.box 27 [.none0])), (16, some (.row 2 64 ([].map etomb_Range)))], 0⟩) (by kernel_rfl) ?_)
  refine LWp.mono (Q := fun e s => (match (generalizing := false) o2625 with | x2618 => e = .exit 0 ∧ s = ⟨[(4, .ptr 29 0 0), (5, .own 30)], [(29, some (.box 27 [.none0])), (30, some (.row 2 64 (x2618.map etomb_Range)))], 0⟩)) (LWp.cv (withBody (fun body hbody => ?_))) ?_
  · refine f_tomb_Set_Without.l0.partial_correctness a0 a1 (motive := fun x2594 x2595 o2625 => LWp Γ body (fun e s => ∃ t, Cv Γ s t ∧ (match (generalizing := false) o2625 with | x2618 => e = .exit 0 ∧ t = ⟨[(4, .ptr 29 0 0), (5, .own 30)], [(29, some (.box 27 [.none0])), (30, some (.row 2 64 (x2618.map etomb_Range)))], 0⟩)) ⟨[(3, .ptr 14 0 0), (4, .ptr 15 0 0), (5, .own 16), (9, .im (.row (a0.f0.map etomb_Range))), (10, iV .i64 (a0.f0.length : Int)), (11, iV .i64 x2595)], [(14, some (.box 64 (atomb_Range a1))), (15, some (.box 27 [.none0])), (16, some (.row 2 64 (x2594.map etomb_Range)))], 0⟩) ?_ _ _ _ e2626
    clear H e2626 o2625; intro self ih x2594 x2595 o2625 H
    subst hbody
    refine LWp.round ?_
    refine AWp.seq ?_
    refine reg hP hn hm [] [3, 4, 5, 9, 10, 11, 12] [14, 15, 16] ⟨[(3, .ptr 14 0 0), (4, .ptr 15 0 0), (5, .own 16), (9, .im (.row (a0.f0.map etomb_Range))), (10, iV .i64 (a0.f0.length : Int)), (11, iV .i64 x2595), (12, bV (decide (x2595 < (a0.f0.length : Int))))], [(14, some (.box 64 (atomb_Range a1))), (15, some (.box 27 [.none0])), (16, some (.row 2 64 (x2594.map etomb_Range)))], 0⟩ [] (by kernel_rfl) trivial ?_
    refine AWp.seq ?_
    refine AWp.cond (decide (x2595 < (a0.f0.length : Int))) rfl (fun c2596 => ?_) (fun c2596 => ?_)
    · replace H := (ifT c2596).symm.trans H
      refine AWp.skip ?_
      refine AWp.seq ?_
      obtain ⟨o2627, e2628, H⟩ := bind_of H
      refine AWp.mono (Q := fun e s => (match (generalizing := false) o2627 with | x2617 => e = .normal ∧ s = ⟨[(3, .ptr 26 0 0), (4, .ptr 27 0 0), (5, .own 28), (9, .im (.row (a0.f0.map etomb_Range))), (10, iV .i64 (a0.f0.length : Int)), (11, iV .i64 x2595)], [(26, some (.box 64 (atomb_Range a1))), (27, some (.box 27 [.none0])), (28, some (.row 2 64 (x2617.map etomb_Range)))], 0⟩)) (AWp.cv ?_) ?_
      · replace H := e2628; clear e2628
        refine AWp.block ?_
        refine AWp.seq ?_
        obtain ⟨b2600, p2601, q2602, H⟩ := at_of H
        refine reg hP hn hm [(0, .c (etomb_Range b2600)), (2, .k 17)] [3, 4, 5, 7, 9, 10, 11] [14, 15, 16, 17] ⟨[(3, .ptr 14 0 0), (4, .ptr 15 0 0), (5, .own 16), (7, .ptr 17 0 0), (9, .im (.row (a0.f0.map etomb_Range))), (10, iV .i64 (a0.f0.length : Int)), (11, iV .i64 x2595)], [(14, some (.box 64 (atomb_Range a1))), (15, some (.box 27 [.none0])), (16, some (.row 2 64 (x2594.map etomb_Range))), (17, some (.box 64 (atomb_Range b2600)))], 0⟩ [0 ≤ x2595, (a0.f0.map etomb_Range)[(Int.toNat (x2595))]? = some (etomb_Range b2600)] (by kernel_rfl) ⟨by exact p2601, by exact el_map etomb_Range q2602, trivial⟩ ?_
        refine AWp.seq ?_
        refine AWp.seq ?_
        obtain ⟨o2629, e2630, H⟩ := bind_of H
        refine AWp.mono (Q := fun e s => (match (generalizing := false) o2629 with | x2611 => e = .normal ∧ s = ⟨[(3, .ptr 18 0 0), (4, .ptr 19 0 0), (5, .own 20), (7, .ptr 21 0 0), (9, .im (.row (a0.f0.map etomb_Range))), (10, iV .i64 (a0.f0.length : Int)), (11, iV .i64 x2595), (31, bV x2611)], [(18, some (.box 64 (atomb_Range a1))), (19, some (.box 27 [.none0])), (20, some (.row 2 64 (x2594.map etomb_Range))), (21, some (.box 64 (atomb_Range b2600)))], 0⟩)) (AWp.cv ?_) ?_
        · replace H := e2630; clear e2630
          obtain ⟨t2607, e2608, H⟩ := bind_of H
          rcases Bool.eq_false_or_eq_true (!t2607) with c2609 | c2609
          · replace H := (ifT c2609).symm.trans H
            refine reg hP hn hm [(1, .call [] [] [] [] 0 (bV t2607) []), (3, .b true)] [3, 4, 5, 7, 9, 10, 11, 31] [14, 15, 16, 17] ⟨[(3, .ptr 14 0 0), (4, .ptr 15 0 0), (5, .own 16), (7, .ptr 17 0 0), (9, .im (.row (a0.f0.map etomb_Range))), (10, iV .i64 (a0.f0.length : Int)), (11, iV .i64 x2595), (31, bV true)], [(14, some (.box 64 (atomb_Range a1))), (15, some (.box 27 [.none0])), (16, some (.row 2 64 (x2594.map etomb_Range))), (17, some (.box 64 (atomb_Range b2600)))], 0⟩ [Enters Try.prog 32, Pv.Fn Try.prog 32 [.agg (atomb_Range a1)] [] 0 (fun r o => r = bV t2607 ∧ o = []), (!t2607) = true] (by kernel_rfl) ⟨by exact Try.call32, by exact f_tomb_Right.ok a1 t2607 e2608, by exact c2609, trivial⟩ ?_
            obtain rfl := Option.some.inj H
            exact Exists.intro _ (And.intro (fun _ _ h => h.conv (inv := [(14, 18), (15, 19), (16, 20), (17, 21)]) (vk := []) (e0 := []) (t := ⟨[(3, .ptr 18 0 0), (4, .ptr 19 0 0), (5, .own 20), (7, .ptr 21 0 0), (9, .im (.row (a0.f0.map etomb_Range))), (10, iV .i64 (a0.f0.length : Int)), (11, iV .i64 x2595), (31, bV true)], [(18, some (.box 64 (atomb_Range a1))), (19, some (.box 27 [.none0])), (20, some (.row 2 64 (x2594.map etomb_Range))), (21, some (.box 64 (atomb_Range b2600)))], 0⟩) (by kernel_rfl)) (And.intro rfl rfl))
          · replace H := (ifF c2609).symm.trans H
            rcases Bool.eq_false_or_eq_true (decide (b2600.f1 < a1.f0)) with c2610 | c2610
            · replace H := (ifT c2610).symm.trans H
              refine reg hP hn hm [(1, .call [] [] [] [] 0 (bV t2607) []), (3, .b false), (10, .b true)] [3, 4, 5, 7, 9, 10, 11, 19, 20, 21, 22, 23, 31] [14, 15, 16, 17] ⟨[(3, .ptr 14 0 0), (4, .ptr 15 0 0), (5, .own 16), (7, .ptr 17 0 0), (9, .im (.row (a0.f0.map etomb_Range))), (10, iV .i64 (a0.f0.length : Int)), (11, iV .i64 x2595), (19, .ptr 17 0 1), (20, iV .i64 b2600.f1), (21, .ptr 14 0 0), (22, iV .i64 a1.f0), (23, bV (decide (b2600.f1 < a1.f0))), (31, bV true)], [(14, some (.box 64 (atomb_Range a1))), (15, some (.box 27 [.none0])), (16, some (.row 2 64 (x2594.map etomb_Range))), (17, some (.box 64 (atomb_Range b2600)))], 0⟩ [Enters Try.prog 32, Pv.Fn Try.prog 32 [.agg (atomb_Range a1)] [] 0 (fun r o => r = bV t2607 ∧ o = []), (!t2607) = false, (decide (b2600.f1 < a1.f0)) = true] (by kernel_rfl) ⟨by exact Try.call32, by exact f_tomb_Right.ok a1 t2607 e2608, by exact c2609, by exact c2610, trivial⟩ ?_
              obtain rfl := Option.some.inj H
              exact Exists.intro _ (And.intro (fun _ _ h => h.conv (inv := [(14, 18), (15, 19), (16, 20), (17, 21)]) (vk := []) (e0 := []) (t := ⟨[(3, .ptr 18 0 0), (4, .ptr 19 0 0), (5, .own 20), (7, .ptr 21 0 0), (9, .im (.row (a0.f0.map etomb_Range))), (10, iV .i64 (a0.f0.length : Int)), (11, iV .i64 x2595), (31, bV true)], [(18, some (.box 64 (atomb_Range a1))), (19, some (.box 27 [.none0])), (20, some (.row 2 64 (x2594.map etomb_Range))), (21, some (.box 64 (atomb_Range b2600)))], 0⟩) (by kernel_rfl)) (And.intro rfl rfl))
            · replace H := (ifF c2610).symm.trans H
              refine reg hP hn hm [(1, .call [] [] [] [] 0 (bV t2607) []), (3, .b false), (10, .b false)] [3, 4, 5, 7, 9, 10, 11, 19, 20, 21, 22, 23, 26, 27, 28, 29, 30, 31] [14, 15, 16, 17] ⟨[(3, .ptr 14 0 0), (4, .ptr 15 0 0), (5, .own 16), (7, .ptr 17 0 0), (9, .im (.row (a0.f0.map etomb_Range))), (10, iV .i64 (a0.f0.length : Int)), (11, iV .i64 x2595), (19, .ptr 17 0 1), (20, iV .i64 b2600.f1), (21, .ptr 14 0 0), (22, iV .i64 a1.f0), (23, bV (decide (b2600.f1 < a1.f0))), (26, .ptr 17 0 0), (27, iV .i64 b2600.f0), (28, .ptr 14 0 1), (29, iV .i64 a1.f1), (30, bV (decide (b2600.f0 > a1.f1))), (31, bV (decide (b2600.f0 > a1.f1)))], [(14, some (.box 64 (atomb_Range a1))), (15, some (.box 27 [.none0])), (16, some (.row 2 64 (x2594.map etomb_Range))), (17, some (.box 64 (atomb_Range b2600)))], 0⟩ [Enters Try.prog 32, Pv.Fn Try.prog 32 [.agg (atomb_Range a1)] [] 0 (fun r o => r = bV t2607 ∧ o = []), (!t2607) = false, (decide (b2600.f1 < a1.f0)) = false] (by kernel_rfl) ⟨by exact Try.call32, by exact f_tomb_Right.ok a1 t2607 e2608, by exact c2609, by exact c2610, trivial⟩ ?_
              obtain rfl := Option.some.inj H
              exact Exists.intro _ (And.intro (fun _ _ h => h.conv (inv := [(14, 18), (15, 19), (16, 20), (17, 21)]) (vk := []) (e0 := []) (t := ⟨[(3, .ptr 18 0 0), (4, .ptr 19 0 0), (5, .own 20), (7, .ptr 21 0 0), (9, .im (.row (a0.f0.map etomb_Range))), (10, iV .i64 (a0.f0.length : Int)), (11, iV .i64 x2595), (31, bV (decide (b2600.f0 > a1.f1)))], [(18, some (.box 64 (atomb_Range a1))), (19, some (.box 27 [.none0])), (20, some (.row 2 64 (x2594.map etomb_Range))), (21, some (.box 64 (atomb_Range b2600)))], 0⟩) (by kernel_rfl)) (And.intro rfl rfl))
        · obtain ⟨x2611, rfl⟩ : ∃ z, z = o2629 := ⟨_, rfl⟩
          rintro e s ⟨rfl, rfl⟩
          refine AWp.cond x2611 rfl (fun c2612 => ?_) (fun c2612 => ?_)
          · replace H := (ifT c2612).symm.trans H
            refine AWp.seq ?_
            obtain ⟨c2614, H⟩ := chk_of H
            refine reg hP hn hm [(2, .app 22 ([b2600].map etomb_Range)), (3, .app 23 ((x2594 ++ [b2600]).map etomb_Range))] [3, 4, 5, 9, 10, 11] [18, 19, 23] ⟨[(3, .ptr 18 0 0), (4, .ptr 19 0 0), (5, .own 23), (9, .im (.row (a0.f0.map etomb_Range))), (10, iV .i64 (a0.f0.length : Int)), (11, iV .i64 x2595)], [(18, some (.box 64 (atomb_Range a1))), (19, some (.box 27 [.none0])), (23, some (.row 2 64 ((x2594 ++ [b2600]).map etomb_Range)))], 0⟩ [[b2600].map etomb_Range = [[iI .i64 b2600.f0, iI .i64 b2600.f1]], (x2594 ++ [b2600]).map etomb_Range = (x2594.map etomb_Range) ++ ([b2600].map etomb_Range), ∀ c ∈ ([b2600].map etomb_Range), c.length = 2, ∀ c ∈ ([b2600].map etomb_Range), leaves (c.map .im) = true, ((x2594.map etomb_Range).length + ([b2600].map etomb_Range).length) * 16 ≤ 140737488355328] (by kernel_rfl) ⟨by exact rfl, by simp, by exact all_len _ _ _ (fun _ => rfl), by exact all_leaf _ _ (fun _ => rfl), by simpa using c2614, trivial⟩ ?_
            refine AWp.exit ?_
            obtain rfl := Option.some.inj H
            exact Exists.intro _ (And.intro (fun _ _ h => h.conv (inv := [(18, 26), (19, 27), (23, 28)]) (vk := []) (e0 := []) (t := ⟨[(3, .ptr 26 0 0), (4, .ptr 27 0 0), (5, .own 28), (9, .im (.row (a0.f0.map etomb_Range))), (10, iV .i64 (a0.f0.length : Int)), (11, iV .i64 x2595)], [(26, some (.box 64 (atomb_Range a1))), (27, some (.box 27 [.none0])), (28, some (.row 2 64 ((x2594 ++ [b2600]).map etomb_Range)))], 0⟩) (by kernel_rfl)) (And.intro rfl rfl))
          · replace H := (ifF c2612).symm.trans H
            refine AWp.skip ?_
            obtain ⟨c2616, H⟩ := chk_of H
            refine reg hP hn hm [(13, .app 24 ([(⟨b2600.f0, IntKind.i64.wrap (a1.f0 - (1 : Int))⟩ : Ttomb_Range), (⟨IntKind.i64.wrap (a1.f1 + (1 : Int)), b2600.f1⟩ : Ttomb_Range)].map etomb_Range)), (14, .app 25 ((x2594 ++ [(⟨b2600.f0, IntKind.i64.wrap (a1.f0 - (1 : Int))⟩ : Ttomb_Range), (⟨IntKind.i64.wrap (a1.f1 + (1 : Int)), b2600.f1⟩ : Ttomb_Range)]).map etomb_Range))] [3, 4, 5, 9, 10, 11] [18, 19, 25] ⟨[(3, .ptr 18 0 0), (4, .ptr 19 0 0), (5, .own 25), (9, .im (.row (a0.f0.map etomb_Range))), (10, iV .i64 (a0.f0.length : Int)), (11, iV .i64 x2595)], [(18, some (.box 64 (atomb_Range a1))), (19, some (.box 27 [.none0])), (25, some (.row 2 64 ((x2594 ++ [(⟨b2600.f0, IntKind.i64.wrap (a1.f0 - (1 : Int))⟩ : Ttomb_Range), (⟨IntKind.i64.wrap (a1.f1 + (1 : Int)), b2600.f1⟩ : Ttomb_Range)]).map etomb_Range)))], 0⟩ [[(⟨b2600.f0, IntKind.i64.wrap (a1.f0 - (1 : Int))⟩ : Ttomb_Range), (⟨IntKind.i64.wrap (a1.f1 + (1 : Int)), b2600.f1⟩ : Ttomb_Range)].map etomb_Range = [[iI .i64 b2600.f0, iI .i64 (IntKind.i64.wrap (a1.f0 - (1 : Int)))], [iI .i64 (IntKind.i64.wrap (a1.f1 + (1 : Int))), iI .i64 b2600.f1]], (x2594 ++ [(⟨b2600.f0, IntKind.i64.wrap (a1.f0 - (1 : Int))⟩ : Ttomb_Range), (⟨IntKind.i64.wrap (a1.f1 + (1 : Int)), b2600.f1⟩ : Ttomb_Range)]).map etomb_Range = (x2594.map etomb_Range) ++ ([(⟨b2600.f0, IntKind.i64.wrap (a1.f0 - (1 : Int))⟩ : Ttomb_Range), (⟨IntKind.i64.wrap (a1.f1 + (1 : Int)), b2600.f1⟩ : Ttomb_Range)].map etomb_Range), ∀ c ∈ ([(⟨b2600.f0, IntKind.i64.wrap (a1.f0 - (1 : Int))⟩ : Ttomb_Range), (⟨IntKind.i64.wrap (a1.f1 + (1 : Int)), b2600.f1⟩ : Ttomb_Range)].map etomb_Range), c.length = 2, ∀ c ∈ ([(⟨b2600.f0, IntKind.i64.wrap (a1.f0 - (1 : Int))⟩ : Ttomb_Range), (⟨IntKind.i64.wrap (a1.f1 + (1 : Int)), b2600.f1⟩ : Ttomb_Range)].map etomb_Range), leaves (c.map .im) = true, ((x2594.map etomb_Range).length + ([(⟨b2600.f0, IntKind.i64.wrap (a1.f0 - (1 : Int))⟩ : Ttomb_Range), (⟨IntKind.i64.wrap (a1.f1 + (1 : Int)), b2600.f1⟩ : Ttomb_Range)].map etomb_Range).length) * 16 ≤ 140737488355328] (by kernel_rfl) ⟨by exact rfl, by simp, by exact all_len _ _ _ (fun _ => rfl), by exact all_leaf _ _ (fun _ => rfl), by simpa using c2616, trivial⟩ ?_
            obtain rfl := Option.some.inj H
            exact Exists.intro _ (And.intro (fun _ _ h => h.conv (inv := [(18, 26), (19, 27), (25, 28)]) (vk := []) (e0 := []) (t := ⟨[(3, .ptr 26 0 0), (4, .ptr 27 0 0), (5, .own 28), (9, .im (.row (a0.f0.map etomb_Range))), (10, iV .i64 (a0.f0.length : Int)), (11, iV .i64 x2595)], [(26, some (.box 64 (atomb_Range a1))), (27, some (.box 27 [.none0])), (28, some (.row 2 64 ((x2594 ++ [(⟨b2600.f0, IntKind.i64.wrap (a1.f0 - (1 : Int))⟩ : Ttomb_Range), (⟨IntKind.i64.wrap (a1.f1 + (1 : Int)), b2600.f1⟩ : Ttomb_Range)]).map etomb_Range)))], 0⟩) (by kernel_rfl)) (And.intro rfl rfl))
      · obtain ⟨x2617, rfl⟩ : ∃ z, z = o2627 := ⟨_, rfl⟩
        rintro e s ⟨rfl, rfl⟩
        refine reg hP hn hm [] [3, 4, 5, 9, 10, 11] [26, 27, 28] ⟨[(3, .ptr 26 0 0), (4, .ptr 27 0 0), (5, .own 28), (9, .im (.row (a0.f0.map etomb_Range))), (10, iV .i64 (a0.f0.length : Int)), (11, iV .i64 (IntKind.i64.wrap (x2595 + (1 : Int))))], [(26, some (.box 64 (atomb_Range a1))), (27, some (.box 27 [.none0])), (28, some (.row 2 64 (x2617.map etomb_Range)))], 0⟩ [] (by kernel_rfl) trivial ?_
        exact LWp.conv (inv := [(26, 14), (27, 15), (28, 16)]) (vk := []) (e0 := []) (t := ⟨[(3, .ptr 14 0 0), (4, .ptr 15 0 0), (5, .own 16), (9, .im (.row (a0.f0.map etomb_Range))), (10, iV .i64 (a0.f0.length : Int)), (11, iV .i64 (IntKind.i64.wrap (x2595 + (1 : Int))))], [(14, some (.box 64 (atomb_Range a1))), (15, some (.box 27 [.none0])), (16, some (.row 2 64 (x2617.map etomb_Range)))], 0⟩) (by kernel_rfl) (ih _ _ _ H)
    · replace H := (ifF c2596).symm.trans H
      refine AWp.exit ?_
      obtain rfl := Option.some.inj H
      exact Exists.intro _ (And.intro (fun _ _ h => h.conv (inv := [(15, 29), (16, 30)]) (vk := []) (e0 := []) (t := ⟨[(4, .ptr 29 0 0), (5, .own 30)], [(29, some (.box 27 [.none0])), (30, some (.row 2 64 (x2594.map etomb_Range)))], 0⟩) (by kernel_rfl)) (And.intro rfl rfl))
  · obtain ⟨x2618, rfl⟩ : ∃ z, z = o2625 := ⟨_, rfl⟩
    rintro e s ⟨rfl, rfl⟩
    refine AWp.seq ?_
    refine AWp.conv (inv := [(29, 29)]) (vk := [30]) (e0 := []) (t := ⟨[(4, .ptr 29 0 0), (5, .im (.row (x2618.map etomb_Range)))], [(29, some (.box 27 [.none0]))], 0⟩) (by kernel_rfl) ?_
    obtain ⟨t2623, e2624, H⟩ := bind_of H
    refine reg hP hn hm [(1, .call [] [(0, 31)] [] [31] 0 (.agg [.own 0]) [(0, some (.row 2 64 (((t2623).f0).map etomb_Range)))])] [4] [29, 31] ⟨[(4, .ptr 29 0 0)], [(29, some (.box 27 [.own 31])), (31, some (.row 2 64 (((t2623).f0).map etomb_Range)))], 0⟩ [Enters Try.prog 14, Pv.Fn Try.prog 14 [.im (.row (x2618.map etomb_Range))] [] 0 (fun r o => r = .agg [.own 0] ∧ o = [(0, some (.row 2 64 (((t2623).f0).map etomb_Range)))])] (by kernel_rfl) ⟨by exact Try.call14, by exact f_tomb_Of.ok x2618 t2623 e2624, trivial⟩ ?_
    refine AWp.conv (inv := [(29, 1), (31, 0)]) (vk := []) (e0 := []) (t := ⟨[(4, .ptr 1 0 0)], [(0, some (.row 2 64 ((((t2623)).f0).map etomb_Range))), (1, some (.box 27 [.own 0]))], 0⟩) (by kernel_rfl) ?_
    refine AWp.ret ?_
    obtain rfl := Option.some.inj H
    exact Exists.intro _ (And.intro (fun _ _ h => h) (And.intro (.inl rfl) (And.intro rfl (And.intro (by kernel_rfl) (by kernel_rfl)))))
def f_pluvialref14_Right.f (a0 : Ttomb_Range) : Option (Bool) := ((if (decide (a0.f0 ≥ (0 : Int))) = true then (if (decide (a0.f1 ≥ a0.f0)) = true then (some (decide (a0.f1 ≤ (1099511627776 : Int)))) else (some false)) else (some false)) : Option (Bool)) >>= fun x2765 => some x2765
theorem f_pluvialref14_Right.ok (a0 : Ttomb_Range) (r : Bool) (H : f_pluvialref14_Right.f a0 = some r) : Pv.Fn Try.prog 37 [.agg (atomb_Range a0)] [] 0 (fun x o => x = bV r ∧ o = []) := by
  unfold f_pluvialref14_Right.f at H
  refine Fn.bodyK [] Try.func37 rfl rfl (fun Γ hP hn => ?_)
  have hm : Try.prog.follows .mixedOrders = true := by kernel_rfl
  replace hn : Γ.n = 18 := hn
  refine AWp.seq ?_
  refine reg hP hn hm [(0, .k 0)] [1] [0] ⟨[(1, .ptr 0 0 0)], [(0, some (.box 63 (atomb_Range a0)))], 0⟩ [] (by kernel_rfl) trivial ?_
  refine AWp.seq ?_
  obtain ⟨o2766, e2767, H⟩ := bind_of H
  refine AWp.mono (Q := fun e s => (match (generalizing := false) o2766 with | x2765 => e = .normal ∧ s = ⟨[(2, bV x2765)], [], 0⟩)) (AWp.cv ?_) ?_
  · replace H := e2767; clear e2767
    rcases Bool.eq_false_or_eq_true (decide (a0.f0 ≥ (0 : Int))) with c2763 | c2763
    · replace H := (ifT c2763).symm.trans H
      rcases Bool.eq_false_or_eq_true (decide (a0.f1 ≥ a0.f0)) with c2764 | c2764
      · replace H := (ifT c2764).symm.trans H
        refine reg hP hn hm [(3, .b true), (10, .b true)] [2] [] ⟨[(2, bV (decide (a0.f1 ≤ (1099511627776 : Int))))], [], 0⟩ [(decide (a0.f0 ≥ (0 : Int))) = true, (decide (a0.f1 ≥ a0.f0)) = true] (by kernel_rfl) ⟨by exact c2763, by exact c2764, trivial⟩ ?_
        obtain rfl := Option.some.inj H
        exact Exists.intro _ (And.intro (fun _ _ h => h.conv (inv := []) (vk := []) (e0 := []) (t := ⟨[(2, bV (decide (a0.f1 ≤ (1099511627776 : Int))))], [], 0⟩) (by kernel_rfl)) (And.intro rfl rfl))
      · replace H := (ifF c2764).symm.trans H
        refine reg hP hn hm [(3, .b true), (10, .b false)] [2] [] ⟨[(2, bV false)], [], 0⟩ [(decide (a0.f0 ≥ (0 : Int))) = true, (decide (a0.f1 ≥ a0.f0)) = false] (by kernel_rfl) ⟨by exact c2763, by exact c2764, trivial⟩ ?_
        obtain rfl := Option.some.inj H
        exact Exists.intro _ (And.intro (fun _ _ h => h.conv (inv := []) (vk := []) (e0 := []) (t := ⟨[(2, bV false)], [], 0⟩) (by kernel_rfl)) (And.intro rfl rfl))
    · replace H := (ifF c2763).symm.trans H
      refine reg hP hn hm [(3, .b false)] [2] [] ⟨[(2, bV false)], [], 0⟩ [(decide (a0.f0 ≥ (0 : Int))) = false] (by kernel_rfl) ⟨by exact c2763, trivial⟩ ?_
      obtain rfl := Option.some.inj H
      exact Exists.intro _ (And.intro (fun _ _ h => h.conv (inv := []) (vk := []) (e0 := []) (t := ⟨[(2, bV false)], [], 0⟩) (by kernel_rfl)) (And.intro rfl rfl))
  · obtain ⟨x2765, rfl⟩ : ∃ z, z = o2766 := ⟨_, rfl⟩
    rintro e s ⟨rfl, rfl⟩
    refine AWp.conv (inv := []) (vk := []) (e0 := []) (t := ⟨[(2, bV x2765)], [], 0⟩) (by kernel_rfl) ?_
    refine AWp.ret ?_
    obtain rfl := Option.some.inj H
    exact Exists.intro _ (And.intro (fun _ _ h => h) (And.intro (.inl rfl) (And.intro rfl (And.intro (by kernel_rfl) (by kernel_rfl)))))
def f_pluviallaw14_apart.l0 (a0 : List Ttomb_Range) (x2776 : Int) : Option (Bool ⊕ Unit) := if (decide (x2776 < (a0.length : Int))) = true then ((at? a0 x2776) >>= fun b2781 => (((f_pluvialref14_Right.f b2781) >>= fun t2791 => if (!t2791) = true then (some true) else (if (decide (x2776 > (0 : Int))) = true then ((at? a0 (IntKind.i64.wrap (x2776 - (1 : Int)))) >>= fun b2795 => some (decide ((IntKind.i64.wrap (b2795.f1 + (1 : Int))) ≥ b2781.f0))) else (some false))) : Option (Bool)) >>= fun x2798 => if x2798 = true then (some (.inl false)) else (f_pluviallaw14_apart.l0 a0 (IntKind.i64.wrap (x2776 + (1 : Int))))) else (some (.inr ()))
partial_fixpoint
def f_pluviallaw14_apart.f (a0 : List Ttomb_Range) : Option (Bool) := (f_pluviallaw14_apart.l0 a0 0) >>= fun oo => match oo with | .inl rr => (some rr) | .inr _ => (some true)
theorem f_pluviallaw14_apart.ok (a0 : List Ttomb_Range) (r : Bool) (H : f_pluviallaw14_apart.f a0 = some r) : Pv.Fn Try.prog 36 [.im (.row (a0.map etomb_Range))] [] 0 (fun x o => x = bV r ∧ o = []) := by
  unfold f_pluviallaw14_apart.f at H
  refine Fn.bodyK [] Try.func36 rfl rfl (fun Γ hP hn => ?_)
  have hm : Try.prog.follows .mixedOrders = true := by kernel_rfl
  replace hn : Γ.n = 32 := hn
  refine AWp.seq ?_
  refine reg hP hn hm [] [0] [] ⟨[(0, .im (.row (a0.map etomb_Range)))], [], 0⟩ [] (by kernel_rfl) trivial ?_
  refine AWp.seq ?_
  refine AWp.seq ?_
  refine reg hP hn hm [(1, .any (iV .i64 (a0.length : Int)))] [0, 5, 6, 7] [] ⟨[(0, .im (.row (a0.map etomb_Range))), (5, .im (.row (a0.map etomb_Range))), (6, iV .i64 (a0.length : Int)), (7, iV .i64 0)], [], 0⟩ [((a0.map etomb_Range).length : Int) = (a0.length : Int)] (by kernel_rfl) ⟨by rw [len_map], trivial⟩ ?_
  refine AWp.block ?_
  obtain ⟨o2800, e2801, H⟩ := bind_of H
  refine AWp.loop (LWp.conv (inv := []) (vk := []) (e0 := []) (t := ⟨[(0, .im (.row (a0.map etomb_Range))), (5, .im (.row (a0.map etomb_Range))), (6, iV .i64 (a0.length : Int)), (7, iV .i64 0)], [], 0⟩) (by kernel_rfl) ?_)
  refine LWp.mono (Q := fun e s => (match (generalizing := false) o2800 with | .inl rr => e = .ret ∧ s.floor = 0 ∧ resOf Try.prog Try.f36 s = some (bV rr) ∧ ([] : List (Nat × Option MObj)) = [] | .inr _ => e = .exit 0 ∧ s = ⟨[], [], 0⟩)) (LWp.cv (withBody (fun body hbody => ?_))) ?_
  · refine f_pluviallaw14_apart.l0.partial_correctness a0 (motive := fun x2776 o2800 => LWp Γ body (fun e s => ∃ t, Cv Γ s t ∧ (match (generalizing := false) o2800 with | .inl rr => e = .ret ∧ t.floor = 0 ∧ resOf Try.prog Try.f36 t = some (bV rr) ∧ ([] : List (Nat × Option MObj)) = [] | .inr _ => e = .exit 0 ∧ t = ⟨[], [], 0⟩)) ⟨[(0, .im (.row (a0.map etomb_Range))), (5, .im (.row (a0.map etomb_Range))), (6, iV .i64 (a0.length : Int)), (7, iV .i64 x2776)], [], 0⟩) ?_ _ _ e2801
    clear H e2801 o2800; intro self ih x2776 o2800 H
    subst hbody
    refine LWp.round ?_
    refine AWp.seq ?_
    refine reg hP hn hm [] [0, 5, 6, 7, 8] [] ⟨[(0, .im (.row (a0.map etomb_Range))), (5, .im (.row (a0.map etomb_Range))), (6, iV .i64 (a0.length : Int)), (7, iV .i64 x2776), (8, bV (decide (x2776 < (a0.length : Int))))], [], 0⟩ [] (by kernel_rfl) trivial ?_
    refine AWp.seq ?_
    refine AWp.cond (decide (x2776 < (a0.length : Int))) rfl (fun c2777 => ?_) (fun c2777 => ?_)
    · replace H := (ifT c2777).symm.trans H
      refine AWp.skip ?_
      refine AWp.seq ?_
      refine AWp.block ?_
      refine AWp.seq ?_
      obtain ⟨b2781, p2782, q2783, H⟩ := at_of H
      refine reg hP hn hm [(1, .c (etomb_Range b2781)), (3, .k 1)] [0, 3, 4, 5, 6, 7] [1] ⟨[(0, .im (.row (a0.map etomb_Range))), (3, iV .i64 x2776), (4, .ptr 1 0 0), (5, .im (.row (a0.map etomb_Range))), (6, iV .i64 (a0.length : Int)), (7, iV .i64 x2776)], [(1, some (.box 64 (atomb_Range b2781)))], 0⟩ [0 ≤ x2776, (a0.map etomb_Range)[(Int.toNat (x2776))]? = some (etomb_Range b2781)] (by kernel_rfl) ⟨by exact p2782, by exact el_map etomb_Range q2783, trivial⟩ ?_
      refine AWp.seq ?_
      obtain ⟨o2802, e2803, H⟩ := bind_of H
      refine AWp.mono (Q := fun e s => (match (generalizing := false) o2802 with | x2798 => e = .normal ∧ s = ⟨[(0, .im (.row (a0.map etomb_Range))), (5, .im (.row (a0.map etomb_Range))), (6, iV .i64 (a0.length : Int)), (7, iV .i64 x2776), (30, bV x2798)], [], 0⟩)) (AWp.cv ?_) ?_
      · replace H := e2803; clear e2803
        obtain ⟨t2791, e2792, H⟩ := bind_of H
        rcases Bool.eq_false_or_eq_true (!t2791) with c2793 | c2793
        · replace H := (ifT c2793).symm.trans H
          refine reg hP hn hm [(1, .call [] [] [] [] 0 (bV t2791) []), (3, .b true)] [0, 5, 6, 7, 30] [] ⟨[(0, .im (.row (a0.map etomb_Range))), (5, .im (.row (a0.map etomb_Range))), (6, iV .i64 (a0.length : Int)), (7, iV .i64 x2776), (30, bV true)], [], 0⟩ [Enters Try.prog 37, Pv.Fn Try.prog 37 [.agg (atomb_Range b2781)] [] 0 (fun r o => r = bV t2791 ∧ o = []), (!t2791) = true] (by kernel_rfl) ⟨by exact Try.call37, by exact f_pluvialref14_Right.ok b2781 t2791 e2792, by exact c2793, trivial⟩ ?_
          obtain rfl := Option.some.inj H
          exact Exists.intro _ (And.intro (fun _ _ h => h.conv (inv := []) (vk := []) (e0 := []) (t := ⟨[(0, .im (.row (a0.map etomb_Range))), (5, .im (.row (a0.map etomb_Range))), (6, iV .i64 (a0.length : Int)), (7, iV .i64 x2776), (30, bV true)], [], 0⟩) (by kernel_rfl)) (And.intro rfl rfl))
        · replace H := (ifF c2793).symm.trans H
          rcases Bool.eq_false_or_eq_true (decide (x2776 > (0 : Int))) with c2794 | c2794
          · replace H := (ifT c2794).symm.trans H
            obtain ⟨b2795, p2796, q2797, H⟩ := at_of H
            refine reg hP hn hm [(1, .call [] [] [] [] 0 (bV t2791) []), (3, .b false), (6, .b true), (10, .c (etomb_Range b2795))] [0, 5, 6, 7, 16, 17, 18, 19, 20, 21, 22, 23, 24, 25, 26, 27, 28, 29, 30] [1] ⟨[(0, .im (.row (a0.map etomb_Range))), (5, .im (.row (a0.map etomb_Range))), (6, iV .i64 (a0.length : Int)), (7, iV .i64 x2776), (16, iV .i64 x2776), (17, bV (decide (x2776 > (0 : Int)))), (18, bV true), (19, .im (.row (a0.map etomb_Range))), (20, iV .i64 x2776), (21, iV .i64 (IntKind.i64.wrap (x2776 - (1 : Int)))), (22, .ip [iI .i64 b2795.f0, iI .i64 b2795.f1]), (23, .ip [iI .i64 b2795.f1]), (24, iV .i64 b2795.f1), (25, iV .i64 (IntKind.i64.wrap (b2795.f1 + (1 : Int)))), (26, .ptr 1 0 0), (27, iV .i64 b2781.f0), (28, bV (decide ((IntKind.i64.wrap (b2795.f1 + (1 : Int))) ≥ b2781.f0))), (29, bV (decide ((IntKind.i64.wrap (b2795.f1 + (1 : Int))) ≥ b2781.f0))), (30, bV (decide ((IntKind.i64.wrap (b2795.f1 + (1 : Int))) ≥ b2781.f0)))], [(1, some (.box 64 (atomb_Range b2781)))], 0⟩ [Enters Try.prog 37, Pv.Fn Try.prog 37 [.agg (atomb_Range b2781)] [] 0 (fun r o => r = bV t2791 ∧ o = []), (!t2791) = false, (decide (x2776 > (0 : Int))) = true, 0 ≤ (IntKind.i64.wrap (x2776 - (1 : Int))), (a0.map etomb_Range)[(Int.toNat (IntKind.i64.wrap (x2776 - (1 : Int))))]? = some (etomb_Range b2795)] (by kernel_rfl) ⟨by exact Try.call37, by exact f_pluvialref14_Right.ok b2781 t2791 e2792, by exact c2793, by exact c2794, by exact p2796, by exact el_map etomb_Range q2797, trivial⟩ ?_
            obtain rfl := Option.some.inj H
            exact Exists.intro _ (And.intro (fun _ _ h => h.conv (inv := []) (vk := []) (e0 := []) (t := ⟨[(0, .im (.row (a0.map etomb_Range))), (5, .im (.row (a0.map etomb_Range))), (6, iV .i64 (a0.length : Int)), (7, iV .i64 x2776), (30, bV (decide ((IntKind.i64.wrap (b2795.f1 + (1 : Int))) ≥ b2781.f0)))], [], 0⟩) (by kernel_rfl)) (And.intro rfl rfl))
          · replace H := (ifF c2794).symm.trans H
            refine reg hP hn hm [(1, .call [] [] [] [] 0 (bV t2791) []), (3, .b false), (6, .b false)] [0, 5, 6, 7, 16, 17, 18, 29, 30] [] ⟨[(0, .im (.row (a0.map etomb_Range))), (5, .im (.row (a0.map etomb_Range))), (6, iV .i64 (a0.length : Int)), (7, iV .i64 x2776), (16, iV .i64 x2776), (17, bV (decide (x2776 > (0 : Int)))), (18, bV false), (29, bV false), (30, bV false)], [], 0⟩ [Enters Try.prog 37, Pv.Fn Try.prog 37 [.agg (atomb_Range b2781)] [] 0 (fun r o => r = bV t2791 ∧ o = []), (!t2791) = false, (decide (x2776 > (0 : Int))) = false] (by kernel_rfl) ⟨by exact Try.call37, by exact f_pluvialref14_Right.ok b2781 t2791 e2792, by exact c2793, by exact c2794, trivial⟩ ?_
            obtain rfl := Option.some.inj H
            exact Exists.intro _ (And.intro (fun _ _ h => h.conv (inv := []) (vk := []) (e0 := []) (t := ⟨[(0, .im (.row (a0.map etomb_Range))), (5, .im (.row (a0.map etomb_Range))), (6, iV .i64 (a0.length : Int)), (7, iV .i64 x2776), (30, bV false)], [], 0⟩) (by kernel_rfl)) (And.intro rfl rfl))
      · obtain ⟨x2798, rfl⟩ : ∃ z, z = o2802 := ⟨_, rfl⟩
        rintro e s ⟨rfl, rfl⟩
        refine AWp.cond x2798 rfl (fun c2799 => ?_) (fun c2799 => ?_)
        · replace H := (ifT c2799).symm.trans H
          refine AWp.seq ?_
          refine reg hP hn hm [] [2] [] ⟨[(2, bV false)], [], 0⟩ [] (by kernel_rfl) trivial ?_
          refine AWp.conv (inv := []) (vk := []) (e0 := []) (t := ⟨[(2, bV false)], [], 0⟩) (by kernel_rfl) ?_
          refine AWp.ret ?_
          obtain rfl := Option.some.inj H
          exact Exists.intro _ (And.intro (fun _ _ h => h) (And.intro rfl (And.intro rfl (And.intro (by kernel_rfl) (by kernel_rfl)))))
        · replace H := (ifF c2799).symm.trans H
          refine AWp.skip ?_
          refine reg hP hn hm [] [0, 5, 6, 7] [] ⟨[(0, .im (.row (a0.map etomb_Range))), (5, .im (.row (a0.map etomb_Range))), (6, iV .i64 (a0.length : Int)), (7, iV .i64 (IntKind.i64.wrap (x2776 + (1 : Int))))], [], 0⟩ [] (by kernel_rfl) trivial ?_
          exact LWp.conv (inv := []) (vk := []) (e0 := []) (t := ⟨[(0, .im (.row (a0.map etomb_Range))), (5, .im (.row (a0.map etomb_Range))), (6, iV .i64 (a0.length : Int)), (7, iV .i64 (IntKind.i64.wrap (x2776 + (1 : Int))))], [], 0⟩) (by kernel_rfl) (ih _ _ H)
    · replace H := (ifF c2777).symm.trans H
      refine AWp.exit ?_
      obtain rfl := Option.some.inj H
      exact Exists.intro _ (And.intro (fun _ _ h => h.conv (inv := []) (vk := []) (e0 := []) (t := ⟨[], [], 0⟩) (by kernel_rfl)) (And.intro rfl rfl))
  · rcases o2800 with rr | _
    · skip
      rintro e s ⟨rfl, hfl, hres⟩
      obtain rfl := Option.some.inj H
      exact Exists.intro _ (And.intro (fun _ _ h => h) (And.intro (.inl rfl) (And.intro hfl hres)))
    · skip
      rintro e s ⟨rfl, rfl⟩
      refine AWp.seq ?_
      refine reg hP hn hm [] [2] [] ⟨[(2, bV true)], [], 0⟩ [] (by kernel_rfl) trivial ?_
      refine AWp.conv (inv := []) (vk := []) (e0 := []) (t := ⟨[(2, bV true)], [], 0⟩) (by kernel_rfl) ?_
      refine AWp.ret ?_
      obtain rfl := Option.some.inj H
      exact Exists.intro _ (And.intro (fun _ _ h => h) (And.intro (.inl rfl) (And.intro rfl (And.intro (by kernel_rfl) (by kernel_rfl)))))
def f_pluvialref14_Edges.l0 (a0 : List Ttomb_Range) (x2891 : List Int) (x2892 : Int) : Option (List Int) := if (decide (x2892 < (a0.length : Int))) = true then ((at? a0 x2892) >>= fun b2899 => (f_pluvialref14_Right.f b2899) >>= fun t2902 => ((if t2902 = true then ((chk ((x2891.length + [IntKind.i64.wrap (b2899.f0 - (1 : Int)), b2899.f0, b2899.f1, IntKind.i64.wrap (b2899.f1 + (1 : Int))].length) * 8 ≤ 140737488355328)) >>= fun _ => some (x2891 ++ [IntKind.i64.wrap (b2899.f0 - (1 : Int)), b2899.f0, b2899.f1, IntKind.i64.wrap (b2899.f1 + (1 : Int))])) else (some x2891)) : Option (List Int)) >>= fun x2907 => f_pluvialref14_Edges.l0 a0 x2907 (IntKind.i64.wrap (x2892 + (1 : Int)))) else (some x2891)
partial_fixpoint
def f_pluvialref14_Edges.f (a0 : List Ttomb_Range) : Option (List Int) := (f_pluvialref14_Edges.l0 a0 [] 0) >>= fun x2908 => some x2908
theorem f_pluvialref14_Edges.ok (a0 : List Ttomb_Range) (r : List Int) (H : f_pluvialref14_Edges.f a0 = some r) : Pv.Fn Try.prog 38 [.im (.row (a0.map etomb_Range))] [] 0 (fun x o => x = .own 0 ∧ o = [(0, some (.row 1 2 (r.map (encInt .i64))))]) := by
  unfold f_pluvialref14_Edges.f at H
  refine Fn.bodyK [0] Try.func38 rfl rfl (fun Γ hP hn => ?_)
  have hm : Try.prog.follows .mixedOrders = true := by kernel_rfl
  replace hn : Γ.n = 42 := hn
  refine AWp.seq ?_
  refine reg hP hn hm [] [0] [] ⟨[(0, .im (.row (a0.map etomb_Range)))], [], 0⟩ [] (by kernel_rfl) trivial ?_
  refine AWp.seq ?_
  refine reg hP hn hm [] [0, 3] [] ⟨[(0, .im (.row (a0.map etomb_Range))), (3, .none0)], [], 0⟩ [] (by kernel_rfl) trivial ?_
  refine AWp.seq ?_
  refine AWp.seq ?_
  refine reg hP hn hm [] [0, 3, 4] [] ⟨[(0, .im (.row (a0.map etomb_Range))), (3, .none0), (4, iV .i64 0)], [], 0⟩ [] (by kernel_rfl) trivial ?_
  refine AWp.block ?_
  obtain ⟨o2909, e2910, H⟩ := bind_of H
  refine AWp.loop (LWp.conv (inv := []) (vk := []) (e0 := [3]) (t := ⟨[(0, .im (.row (a0.map etomb_Range))), (3, .own 3), (4, iV .i64 0)], [(3, some (.row 1 2 ([].map (encInt .i64))))], 0⟩) (by kernel_rfl) ?_)
  refine LWp.mono (Q := fun e s => (match (generalizing := false) o2909 with | x2908 => e = .exit 0 ∧ s = ⟨[(3, .own 7)], [(7, some (.row 1 2 (x2908.map (encInt .i64))))], 0⟩)) (LWp.cv (withBody (fun body hbody => ?_))) ?_
  · refine f_pluvialref14_Edges.l0.partial_correctness a0 (motive := fun x2891 x2892 o2909 => LWp Γ body (fun e s => ∃ t, Cv Γ s t ∧ (match (generalizing := false) o2909 with | x2908 => e = .exit 0 ∧ t = ⟨[(3, .own 7)], [(7, some (.row 1 2 (x2908.map (encInt .i64))))], 0⟩)) ⟨[(0, .im (.row (a0.map etomb_Range))), (3, .own 3), (4, iV .i64 x2892)], [(3, some (.row 1 2 (x2891.map (encInt .i64))))], 0⟩) ?_ _ _ _ e2910
    clear H e2910 o2909; intro self ih x2891 x2892 o2909 H
    subst hbody
    refine LWp.round ?_
    refine AWp.seq ?_
    refine AWp.seq ?_
    refine reg hP hn hm [(2, .any (iV .i64 (a0.length : Int)))] [0, 3, 4, 8] [3] ⟨[(0, .im (.row (a0.map etomb_Range))), (3, .own 3), (4, iV .i64 x2892), (8, bV (decide (x2892 < (a0.length : Int))))], [(3, some (.row 1 2 (x2891.map (encInt .i64))))], 0⟩ [((a0.map etomb_Range).length : Int) = (a0.length : Int)] (by kernel_rfl) ⟨by rw [len_map], trivial⟩ ?_
    refine AWp.cond (decide (x2892 < (a0.length : Int))) rfl (fun c2893 => ?_) (fun c2893 => ?_)
    · replace H := (ifT c2893).symm.trans H
      refine AWp.skip ?_
      refine AWp.seq ?_
      refine AWp.block ?_
      refine AWp.seq ?_
      obtain ⟨b2899, p2900, q2901, H⟩ := at_of H
      obtain ⟨t2902, e2903, H⟩ := bind_of H
      refine reg hP hn hm [(2, .c (etomb_Range b2899)), (4, .call [] [] [] [] 0 (bV t2902) [])] [0, 3, 4, 15] [3] ⟨[(0, .im (.row (a0.map etomb_Range))), (3, .own 3), (4, iV .i64 x2892), (15, bV t2902)], [(3, some (.row 1 2 (x2891.map (encInt .i64))))], 0⟩ [0 ≤ x2892, (a0.map etomb_Range)[(Int.toNat (x2892))]? = some (etomb_Range b2899), Enters Try.prog 37, Pv.Fn Try.prog 37 [.agg (atomb_Range b2899)] [] 0 (fun r o => r = bV t2902 ∧ o = [])] (by kernel_rfl) ⟨by exact p2900, by exact el_map etomb_Range q2901, by exact Try.call37, by exact f_pluvialref14_Right.ok b2899 t2902 e2903, trivial⟩ ?_
      obtain ⟨o2911, e2912, H⟩ := bind_of H
      refine AWp.mono (Q := fun e s => (match (generalizing := false) o2911 with | x2907 => e = .normal ∧ s = ⟨[(0, .im (.row (a0.map etomb_Range))), (3, .own 6), (4, iV .i64 x2892)], [(6, some (.row 1 2 (x2907.map (encInt .i64))))], 0⟩)) (AWp.cv ?_) ?_
      · replace H := e2912; clear e2912
        refine AWp.cond t2902 rfl (fun c2904 => ?_) (fun c2904 => ?_)
        · replace H := (ifT c2904).symm.trans H
          obtain ⟨c2906, H⟩ := chk_of H
          refine reg hP hn hm [(3, .c (etomb_Range b2899)), (9, .c (etomb_Range b2899)), (14, .c (etomb_Range b2899)), (19, .c (etomb_Range b2899)), (23, .app 4 ([IntKind.i64.wrap (b2899.f0 - (1 : Int)), b2899.f0, b2899.f1, IntKind.i64.wrap (b2899.f1 + (1 : Int))].map (encInt .i64))), (24, .app 5 ((x2891 ++ [IntKind.i64.wrap (b2899.f0 - (1 : Int)), b2899.f0, b2899.f1, IntKind.i64.wrap (b2899.f1 + (1 : Int))]).map (encInt .i64)))] [0, 3, 4] [5] ⟨[(0, .im (.row (a0.map etomb_Range))), (3, .own 5), (4, iV .i64 x2892)], [(5, some (.row 1 2 ((x2891 ++ [IntKind.i64.wrap (b2899.f0 - (1 : Int)), b2899.f0, b2899.f1, IntKind.i64.wrap (b2899.f1 + (1 : Int))]).map (encInt .i64))))], 0⟩ [0 ≤ x2892, (a0.map etomb_Range)[(Int.toNat (x2892))]? = some (etomb_Range b2899), 0 ≤ x2892, (a0.map etomb_Range)[(Int.toNat (x2892))]? = some (etomb_Range b2899), 0 ≤ x2892, (a0.map etomb_Range)[(Int.toNat (x2892))]? = some (etomb_Range b2899), 0 ≤ x2892, (a0.map etomb_Range)[(Int.toNat (x2892))]? = some (etomb_Range b2899), [IntKind.i64.wrap (b2899.f0 - (1 : Int)), b2899.f0, b2899.f1, IntKind.i64.wrap (b2899.f1 + (1 : Int))].map (encInt .i64) = [[iI .i64 (IntKind.i64.wrap (b2899.f0 - (1 : Int)))], [iI .i64 b2899.f0], [iI .i64 b2899.f1], [iI .i64 (IntKind.i64.wrap (b2899.f1 + (1 : Int)))]], (x2891 ++ [IntKind.i64.wrap (b2899.f0 - (1 : Int)), b2899.f0, b2899.f1, IntKind.i64.wrap (b2899.f1 + (1 : Int))]).map (encInt .i64) = (x2891.map (encInt .i64)) ++ ([IntKind.i64.wrap (b2899.f0 - (1 : Int)), b2899.f0, b2899.f1, IntKind.i64.wrap (b2899.f1 + (1 : Int))].map (encInt .i64)), ∀ c ∈ ([IntKind.i64.wrap (b2899.f0 - (1 : Int)), b2899.f0, b2899.f1, IntKind.i64.wrap (b2899.f1 + (1 : Int))].map (encInt .i64)), c.length = 1, ∀ c ∈ ([IntKind.i64.wrap (b2899.f0 - (1 : Int)), b2899.f0, b2899.f1, IntKind.i64.wrap (b2899.f1 + (1 : Int))].map (encInt .i64)), leaves (c.map .im) = true, ((x2891.map (encInt .i64)).length + ([IntKind.i64.wrap (b2899.f0 - (1 : Int)), b2899.f0, b2899.f1, IntKind.i64.wrap (b2899.f1 + (1 : Int))].map (encInt .i64)).length) * 8 ≤ 140737488355328] (by kernel_rfl) ⟨by exact p2900, by exact el_map etomb_Range q2901, by exact p2900, by exact el_map etomb_Range q2901, by exact p2900, by exact el_map etomb_Range q2901, by exact p2900, by exact el_map etomb_Range q2901, by exact rfl, by simp, by exact all_len _ _ _ (fun _ => rfl), by exact all_leaf _ _ (fun _ => rfl), by simpa using c2906, trivial⟩ ?_
          obtain rfl := Option.some.inj H
          exact Exists.intro _ (And.intro (fun _ _ h => h.conv (inv := [(5, 6)]) (vk := []) (e0 := []) (t := ⟨[(0, .im (.row (a0.map etomb_Range))), (3, .own 6), (4, iV .i64 x2892)], [(6, some (.row 1 2 ((x2891 ++ [IntKind.i64.wrap (b2899.f0 - (1 : Int)), b2899.f0, b2899.f1, IntKind.i64.wrap (b2899.f1 + (1 : Int))]).map (encInt .i64))))], 0⟩) (by kernel_rfl)) (And.intro rfl rfl))
        · replace H := (ifF c2904).symm.trans H
          refine AWp.skip ?_
          obtain rfl := Option.some.inj H
          exact Exists.intro _ (And.intro (fun _ _ h => h.conv (inv := [(3, 6)]) (vk := []) (e0 := []) (t := ⟨[(0, .im (.row (a0.map etomb_Range))), (3, .own 6), (4, iV .i64 x2892)], [(6, some (.row 1 2 (x2891.map (encInt .i64))))], 0⟩) (by kernel_rfl)) (And.intro rfl rfl))
      · obtain ⟨x2907, rfl⟩ : ∃ z, z = o2911 := ⟨_, rfl⟩
        rintro e s ⟨rfl, rfl⟩
        refine reg hP hn hm [] [0, 3, 4] [6] ⟨[(0, .im (.row (a0.map etomb_Range))), (3, .own 6), (4, iV .i64 (IntKind.i64.wrap (x2892 + (1 : Int))))], [(6, some (.row 1 2 (x2907.map (encInt .i64))))], 0⟩ [] (by kernel_rfl) trivial ?_
        exact LWp.conv (inv := [(6, 3)]) (vk := []) (e0 := []) (t := ⟨[(0, .im (.row (a0.map etomb_Range))), (3, .own 3), (4, iV .i64 (IntKind.i64.wrap (x2892 + (1 : Int))))], [(3, some (.row 1 2 (x2907.map (encInt .i64))))], 0⟩) (by kernel_rfl) (ih _ _ _ H)
    · replace H := (ifF c2893).symm.trans H
      refine AWp.exit ?_
      obtain rfl := Option.some.inj H
      exact Exists.intro _ (And.intro (fun _ _ h => h.conv (inv := [(3, 7)]) (vk := []) (e0 := []) (t := ⟨[(3, .own 7)], [(7, some (.row 1 2 (x2891.map (encInt .i64))))], 0⟩) (by kernel_rfl)) (And.intro rfl rfl))
  · obtain ⟨x2908, rfl⟩ : ∃ z, z = o2909 := ⟨_, rfl⟩
    rintro e s ⟨rfl, rfl⟩
    refine AWp.seq ?_
    refine reg hP hn hm [] [2] [7] ⟨[(2, .own 7)], [(7, some (.row 1 2 (x2908.map (encInt .i64))))], 0⟩ [] (by kernel_rfl) trivial ?_
    refine AWp.conv (inv := [(7, 0)]) (vk := []) (e0 := []) (t := ⟨[(2, .own 0)], [(0, some (.row 1 2 (x2908.map (encInt .i64))))], 0⟩) (by kernel_rfl) ?_
    refine AWp.ret ?_
    obtain rfl := Option.some.inj H
    exact Exists.intro _ (And.intro (fun _ _ h => h) (And.intro (.inl rfl) (And.intro rfl (And.intro (by kernel_rfl) (by kernel_rfl)))))
def f_pluvialref14_Has.l0 (a0 : List Ttomb_Range) (a1 : Int) (x2955 : Int) : Option (Bool ⊕ Unit) := if (decide (x2955 < (a0.length : Int))) = true then ((((at? a0 x2955) >>= fun b2964 => (f_pluvialref14_Right.f b2964) >>= fun t2967 => if t2967 = true then (if (decide (b2964.f0 ≤ a1)) = true then (some (decide (a1 ≤ b2964.f1))) else (some false)) else (some false)) : Option (Bool)) >>= fun x2971 => if x2971 = true then (some (.inl true)) else (f_pluvialref14_Has.l0 a0 a1 (IntKind.i64.wrap (x2955 + (1 : Int))))) else (some (.inr ()))
partial_fixpoint
def f_pluvialref14_Has.f (a0 : List Ttomb_Range) (a1 : Int) : Option (Bool) := (f_pluvialref14_Has.l0 a0 a1 0) >>= fun oo => match oo with | .inl rr => (some rr) | .inr _ => (some false)
theorem f_pluvialref14_Has.ok (a0 : List Ttomb_Range) (a1 : Int) (r : Bool) (H : f_pluvialref14_Has.f a0 a1 = some r) : Pv.Fn Try.prog 39 [.im (.row (a0.map etomb_Range)), iV .i64 a1] [] 0 (fun x o => x = bV r ∧ o = []) := by
  unfold f_pluvialref14_Has.f at H
  refine Fn.bodyK [] Try.func39 rfl rfl (fun Γ hP hn => ?_)
  have hm : Try.prog.follows .mixedOrders = true := by kernel_rfl
  replace hn : Γ.n = 35 := hn
  refine AWp.seq ?_
  refine reg hP hn hm [] [0, 1] [] ⟨[(0, .im (.row (a0.map etomb_Range))), (1, iV .i64 a1)], [], 0⟩ [] (by kernel_rfl) trivial ?_
  refine AWp.seq ?_
  refine AWp.seq ?_
  refine reg hP hn hm [] [0, 1, 5] [] ⟨[(0, .im (.row (a0.map etomb_Range))), (1, iV .i64 a1), (5, iV .i64 0)], [], 0⟩ [] (by kernel_rfl) trivial ?_
  refine AWp.block ?_
  obtain ⟨o2973, e2974, H⟩ := bind_of H
  refine AWp.loop (LWp.conv (inv := []) (vk := []) (e0 := []) (t := ⟨[(0, .im (.row (a0.map etomb_Range))), (1, iV .i64 a1), (5, iV .i64 0)], [], 0⟩) (by kernel_rfl) ?_)
  refine LWp.mono (Q := fun e s => (match (generalizing := false) o2973 with | .inl rr => e = .ret ∧ s.floor = 0 ∧ resOf Try.prog Try.f39 s = some (bV rr) ∧ ([] : List (Nat × Option MObj)) = [] | .inr _ => e = .exit 0 ∧ s = ⟨[], [], 0⟩)) (LWp.cv (withBody (fun body hbody => ?_))) ?_
  · refine f_pluvialref14_Has.l0.partial_correctness a0 a1 (motive := fun x2955 o2973 => LWp Γ body (fun e s => ∃ t, Cv Γ s t ∧ (match (generalizing := false) o2973 with | .inl rr => e = .ret ∧ t.floor = 0 ∧ resOf Try.prog Try.f39 t = some (bV rr) ∧ ([] : List (Nat × Option MObj)) = [] | .inr _ => e = .exit 0 ∧ t = ⟨[], [], 0⟩)) ⟨[(0, .im (.row (a0.map etomb_Range))), (1, iV .i64 a1), (5, iV .i64 x2955)], [], 0⟩) ?_ _ _ e2974
    clear H e2974 o2973; intro self ih x2955 o2973 H
    subst hbody
    refine LWp.round ?_
    refine AWp.seq ?_
    refine AWp.seq ?_
    refine reg hP hn hm [(2, .any (iV .i64 (a0.length : Int)))] [0, 1, 5, 9] [] ⟨[(0, .im (.row (a0.map etomb_Range))), (1, iV .i64 a1), (5, iV .i64 x2955), (9, bV (decide (x2955 < (a0.length : Int))))], [], 0⟩ [((a0.map etomb_Range).length : Int) = (a0.length : Int)] (by kernel_rfl) ⟨by rw [len_map], trivial⟩ ?_
    refine AWp.cond (decide (x2955 < (a0.length : Int))) rfl (fun c2956 => ?_) (fun c2956 => ?_)
    · replace H := (ifT c2956).symm.trans H
      refine AWp.skip ?_
      refine AWp.seq ?_
      refine AWp.block ?_
      refine AWp.seq ?_
      obtain ⟨o2975, e2976, H⟩ := bind_of H
      refine AWp.mono (Q := fun e s => (match (generalizing := false) o2975 with | x2971 => e = .normal ∧ s = ⟨[(0, .im (.row (a0.map etomb_Range))), (1, iV .i64 a1), (5, iV .i64 x2955), (34, bV x2971)], [], 0⟩)) (AWp.cv ?_) ?_
      · replace H := e2976; clear e2976
        obtain ⟨b2964, p2965, q2966, H⟩ := at_of H
        obtain ⟨t2967, e2968, H⟩ := bind_of H
        rcases Bool.eq_false_or_eq_true t2967 with c2969 | c2969
        · replace H := (ifT c2969).symm.trans H
          rcases Bool.eq_false_or_eq_true (decide (b2964.f0 ≤ a1)) with c2970 | c2970
          · replace H := (ifT c2970).symm.trans H
            refine reg hP hn hm [(2, .c (etomb_Range b2964)), (4, .call [] [] [] [] 0 (bV t2967) []), (5, .b true), (8, .c (etomb_Range b2964)), (14, .b true), (18, .c (etomb_Range b2964))] [0, 1, 5, 18, 19, 20, 21, 22, 23, 24, 27, 28, 29, 30, 31, 32, 33, 34] [] ⟨[(0, .im (.row (a0.map etomb_Range))), (1, iV .i64 a1), (5, iV .i64 x2955), (18, .im (.row (a0.map etomb_Range))), (19, iV .i64 x2955), (20, .ip [iI .i64 b2964.f0, iI .i64 b2964.f1]), (21, .ip [iI .i64 b2964.f0, iI .i64 b2964.f1]), (22, iV .i64 b2964.f0), (23, iV .i64 a1), (24, bV (decide (b2964.f0 ≤ a1))), (27, iV .i64 a1), (28, .im (.row (a0.map etomb_Range))), (29, iV .i64 x2955), (30, .ip [iI .i64 b2964.f0, iI .i64 b2964.f1]), (31, .ip [iI .i64 b2964.f1]), (32, iV .i64 b2964.f1), (33, bV (decide (a1 ≤ b2964.f1))), (34, bV (decide (a1 ≤ b2964.f1)))], [], 0⟩ [0 ≤ x2955, (a0.map etomb_Range)[(Int.toNat (x2955))]? = some (etomb_Range b2964), Enters Try.prog 37, Pv.Fn Try.prog 37 [.agg (atomb_Range b2964)] [] 0 (fun r o => r = bV t2967 ∧ o = []), t2967 = true, 0 ≤ x2955, (a0.map etomb_Range)[(Int.toNat (x2955))]? = some (etomb_Range b2964), (decide (b2964.f0 ≤ a1)) = true, 0 ≤ x2955, (a0.map etomb_Range)[(Int.toNat (x2955))]? = some (etomb_Range b2964)] (by kernel_rfl) ⟨by exact p2965, by exact el_map etomb_Range q2966, by exact Try.call37, by exact f_pluvialref14_Right.ok b2964 t2967 e2968, by exact c2969, by exact p2965, by exact el_map etomb_Range q2966, by exact c2970, by exact p2965, by exact el_map etomb_Range q2966, trivial⟩ ?_
            obtain rfl := Option.some.inj H
            exact Exists.intro _ (And.intro (fun _ _ h => h.conv (inv := []) (vk := []) (e0 := []) (t := ⟨[(0, .im (.row (a0.map etomb_Range))), (1, iV .i64 a1), (5, iV .i64 x2955), (34, bV (decide (a1 ≤ b2964.f1)))], [], 0⟩) (by kernel_rfl)) (And.intro rfl rfl))
          · replace H := (ifF c2970).symm.trans H
            refine reg hP hn hm [(2, .c (etomb_Range b2964)), (4, .call [] [] [] [] 0 (bV t2967) []), (5, .b true), (8, .c (etomb_Range b2964)), (14, .b false)] [0, 1, 5, 18, 19, 20, 21, 22, 23, 24, 34] [] ⟨[(0, .im (.row (a0.map etomb_Range))), (1, iV .i64 a1), (5, iV .i64 x2955), (18, .im (.row (a0.map etomb_Range))), (19, iV .i64 x2955), (20, .ip [iI .i64 b2964.f0, iI .i64 b2964.f1]), (21, .ip [iI .i64 b2964.f0, iI .i64 b2964.f1]), (22, iV .i64 b2964.f0), (23, iV .i64 a1), (24, bV (decide (b2964.f0 ≤ a1))), (34, bV false)], [], 0⟩ [0 ≤ x2955, (a0.map etomb_Range)[(Int.toNat (x2955))]? = some (etomb_Range b2964), Enters Try.prog 37, Pv.Fn Try.prog 37 [.agg (atomb_Range b2964)] [] 0 (fun r o => r = bV t2967 ∧ o = []), t2967 = true, 0 ≤ x2955, (a0.map etomb_Range)[(Int.toNat (x2955))]? = some (etomb_Range b2964), (decide (b2964.f0 ≤ a1)) = false] (by kernel_rfl) ⟨by exact p2965, by exact el_map etomb_Range q2966, by exact Try.call37, by exact f_pluvialref14_Right.ok b2964 t2967 e2968, by exact c2969, by exact p2965, by exact el_map etomb_Range q2966, by exact c2970, trivial⟩ ?_
            obtain rfl := Option.some.inj H
            exact Exists.intro _ (And.intro (fun _ _ h => h.conv (inv := []) (vk := []) (e0 := []) (t := ⟨[(0, .im (.row (a0.map etomb_Range))), (1, iV .i64 a1), (5, iV .i64 x2955), (34, bV false)], [], 0⟩) (by kernel_rfl)) (And.intro rfl rfl))
        · replace H := (ifF c2969).symm.trans H
          refine reg hP hn hm [(2, .c (etomb_Range b2964)), (4, .call [] [] [] [] 0 (bV t2967) []), (5, .b false)] [0, 1, 5, 34] [] ⟨[(0, .im (.row (a0.map etomb_Range))), (1, iV .i64 a1), (5, iV .i64 x2955), (34, bV false)], [], 0⟩ [0 ≤ x2955, (a0.map etomb_Range)[(Int.toNat (x2955))]? = some (etomb_Range b2964), Enters Try.prog 37, Pv.Fn Try.prog 37 [.agg (atomb_Range b2964)] [] 0 (fun r o => r = bV t2967 ∧ o = []), t2967 = false] (by kernel_rfl) ⟨by exact p2965, by exact el_map etomb_Range q2966, by exact Try.call37, by exact f_pluvialref14_Right.ok b2964 t2967 e2968, by exact c2969, trivial⟩ ?_
          obtain rfl := Option.some.inj H
          exact Exists.intro _ (And.intro (fun _ _ h => h.conv (inv := []) (vk := []) (e0 := []) (t := ⟨[(0, .im (.row (a0.map etomb_Range))), (1, iV .i64 a1), (5, iV .i64 x2955), (34, bV false)], [], 0⟩) (by kernel_rfl)) (And.intro rfl rfl))
      · obtain ⟨x2971, rfl⟩ : ∃ z, z = o2975 := ⟨_, rfl⟩
        rintro e s ⟨rfl, rfl⟩
        refine AWp.cond x2971 rfl (fun c2972 => ?_) (fun c2972 => ?_)
        · replace H := (ifT c2972).symm.trans H
          refine AWp.seq ?_
          refine reg hP hn hm [] [4] [] ⟨[(4, bV true)], [], 0⟩ [] (by kernel_rfl) trivial ?_
          refine AWp.conv (inv := []) (vk := []) (e0 := []) (t := ⟨[(4, bV true)], [], 0⟩) (by kernel_rfl) ?_
          refine AWp.ret ?_
          obtain rfl := Option.some.inj H
          exact Exists.intro _ (And.intro (fun _ _ h => h) (And.intro rfl (And.intro rfl (And.intro (by kernel_rfl) (by kernel_rfl)))))
        · replace H := (ifF c2972).symm.trans H
          refine AWp.skip ?_
          refine reg hP hn hm [] [0, 1, 5] [] ⟨[(0, .im (.row (a0.map etomb_Range))), (1, iV .i64 a1), (5, iV .i64 (IntKind.i64.wrap (x2955 + (1 : Int))))], [], 0⟩ [] (by kernel_rfl) trivial ?_
          exact LWp.conv (inv := []) (vk := []) (e0 := []) (t := ⟨[(0, .im (.row (a0.map etomb_Range))), (1, iV .i64 a1), (5, iV .i64 (IntKind.i64.wrap (x2955 + (1 : Int))))], [], 0⟩) (by kernel_rfl) (ih _ _ H)
    · replace H := (ifF c2956).symm.trans H
      refine AWp.exit ?_
      obtain rfl := Option.some.inj H
      exact Exists.intro _ (And.intro (fun _ _ h => h.conv (inv := []) (vk := []) (e0 := []) (t := ⟨[], [], 0⟩) (by kernel_rfl)) (And.intro rfl rfl))
  · rcases o2973 with rr | _
    · skip
      rintro e s ⟨rfl, hfl, hres⟩
      obtain rfl := Option.some.inj H
      exact Exists.intro _ (And.intro (fun _ _ h => h) (And.intro (.inl rfl) (And.intro hfl hres)))
    · skip
      rintro e s ⟨rfl, rfl⟩
      refine AWp.seq ?_
      refine reg hP hn hm [] [4] [] ⟨[(4, bV false)], [], 0⟩ [] (by kernel_rfl) trivial ?_
      refine AWp.conv (inv := []) (vk := []) (e0 := []) (t := ⟨[(4, bV false)], [], 0⟩) (by kernel_rfl) ?_
      refine AWp.ret ?_
      obtain rfl := Option.some.inj H
      exact Exists.intro _ (And.intro (fun _ _ h => h) (And.intro (.inl rfl) (And.intro rfl (And.intro (by kernel_rfl) (by kernel_rfl)))))
def f_slices_Equal_tomb_Range.l0 (a0 : List Ttomb_Range) (a1 : List Ttomb_Range) (x3141 : Int) : Option (Bool ⊕ Unit) := if (decide (x3141 < (a0.length : Int))) = true then ((at? a0 x3141) >>= fun b3149 => (at? a1 x3141) >>= fun b3152 => if (!((b3149.f0 == b3152.f0) && ((b3149.f1 == b3152.f1) && true))) = true then (some (.inl false)) else (f_slices_Equal_tomb_Range.l0 a0 a1 (IntKind.i64.wrap (x3141 + (1 : Int))))) else (some (.inr ()))
partial_fixpoint
def f_slices_Equal_tomb_Range.f (a0 : List Ttomb_Range) (a1 : List Ttomb_Range) : Option (Bool) := if ((a0.length : Int) != (a1.length : Int)) = true then (some false) else ((f_slices_Equal_tomb_Range.l0 a0 a1 0) >>= fun oo => match oo with | .inl rr => (some rr) | .inr _ => (some true))
theorem f_slices_Equal_tomb_Range.ok (a0 : List Ttomb_Range) (a1 : List Ttomb_Range) (r : Bool) (H : f_slices_Equal_tomb_Range.f a0 a1 = some r) : Pv.Fn Try.prog 79 [.im (.row (a0.map etomb_Range)), .im (.row (a1.map etomb_Range))] [] 0 (fun x o => x = bV r ∧ o = []) := by
  unfold f_slices_Equal_tomb_Range.f at H
  refine Fn.bodyK [] Try.func79 rfl rfl (fun Γ hP hn => ?_)
  have hm : Try.prog.follows .mixedOrders = true := by kernel_rfl
  replace hn : Γ.n = 26 := hn
  refine AWp.seq ?_
  refine reg hP hn hm [] [0, 1] [] ⟨[(0, .im (.row (a0.map etomb_Range))), (1, .im (.row (a1.map etomb_Range)))], [], 0⟩ [] (by kernel_rfl) trivial ?_
  refine AWp.seq ?_
  refine AWp.seq ?_
  refine reg hP hn hm [(1, .any (iV .i64 (a0.length : Int))), (3, .any (iV .i64 (a1.length : Int)))] [0, 1, 10] [] ⟨[(0, .im (.row (a0.map etomb_Range))), (1, .im (.row (a1.map etomb_Range))), (10, bV ((a0.length : Int) != (a1.length : Int)))], [], 0⟩ [((a0.map etomb_Range).length : Int) = (a0.length : Int), ((a1.map etomb_Range).length : Int) = (a1.length : Int)] (by kernel_rfl) ⟨by rw [len_map], by rw [len_map], trivial⟩ ?_
  refine AWp.cond ((a0.length : Int) != (a1.length : Int)) rfl (fun c3126 => ?_) (fun c3126 => ?_)
  · replace H := (ifT c3126).symm.trans H
    refine AWp.seq ?_
    refine reg hP hn hm [] [4] [] ⟨[(4, bV false)], [], 0⟩ [] (by kernel_rfl) trivial ?_
    refine AWp.conv (inv := []) (vk := []) (e0 := []) (t := ⟨[(4, bV false)], [], 0⟩) (by kernel_rfl) ?_
    refine AWp.ret ?_
    obtain rfl := Option.some.inj H
    exact Exists.intro _ (And.intro (fun _ _ h => h) (And.intro (.inl rfl) (And.intro rfl (And.intro (by kernel_rfl) (by kernel_rfl)))))
  · replace H := (ifF c3126).symm.trans H
    refine AWp.skip ?_
    refine AWp.seq ?_
    refine AWp.seq ?_
    refine reg hP hn hm [(1, .any (iV .i64 (a0.length : Int)))] [0, 1, 12, 13] [] ⟨[(0, .im (.row (a0.map etomb_Range))), (1, .im (.row (a1.map etomb_Range))), (12, iV .i64 (a0.length : Int)), (13, iV .i64 0)], [], 0⟩ [((a0.map etomb_Range).length : Int) = (a0.length : Int)] (by kernel_rfl) ⟨by rw [len_map], trivial⟩ ?_
    refine AWp.block ?_
    obtain ⟨o3156, e3157, H⟩ := bind_of H
    refine AWp.loop (LWp.conv (inv := []) (vk := []) (e0 := []) (t := ⟨[(0, .im (.row (a0.map etomb_Range))), (1, .im (.row (a1.map etomb_Range))), (12, iV .i64 (a0.length : Int)), (13, iV .i64 0)], [], 0⟩) (by kernel_rfl) ?_)
    refine LWp.mono (Q := fun e s => (match (generalizing := false) o3156 with | .inl rr => e = .ret ∧ s.floor = 0 ∧ resOf Try.prog Try.f79 s = some (bV rr) ∧ ([] : List (Nat × Option MObj)) = [] | .inr _ => e = .exit 0 ∧ s = ⟨[], [], 0⟩)) (LWp.cv (withBody (fun body hbody => ?_))) ?_
    · refine f_slices_Equal_tomb_Range.l0.partial_correctness a0 a1 (motive := fun x3141 o3156 => LWp Γ body (fun e s => ∃ t, Cv Γ s t ∧ (match (generalizing := false) o3156 with | .inl rr => e = .ret ∧ t.floor = 0 ∧ resOf Try.prog Try.f79 t = some (bV rr) ∧ ([] : List (Nat × Option MObj)) = [] | .inr _ => e = .exit 0 ∧ t = ⟨[], [], 0⟩)) ⟨[(0, .im (.row (a0.map etomb_Range))), (1, .im (.row (a1.map etomb_Range))), (12, iV .i64 (a0.length : Int)), (13, iV .i64 x3141)], [], 0⟩) ?_ _ _ e3157
      clear H e3157 o3156; intro self ih x3141 o3156 H
      subst hbody
      refine LWp.round ?_
      refine AWp.seq ?_
      refine reg hP hn hm [] [0, 1, 12, 13, 14] [] ⟨[(0, .im (.row (a0.map etomb_Range))), (1, .im (.row (a1.map etomb_Range))), (12, iV .i64 (a0.length : Int)), (13, iV .i64 x3141), (14, bV (decide (x3141 < (a0.length : Int))))], [], 0⟩ [] (by kernel_rfl) trivial ?_
      refine AWp.seq ?_
      refine AWp.cond (decide (x3141 < (a0.length : Int))) rfl (fun c3142 => ?_) (fun c3142 => ?_)
      · replace H := (ifT c3142).symm.trans H
        refine AWp.skip ?_
        refine AWp.seq ?_
        refine AWp.block ?_
        refine AWp.seq ?_
        refine reg hP hn hm [] [0, 1, 5, 12, 13] [] ⟨[(0, .im (.row (a0.map etomb_Range))), (1, .im (.row (a1.map etomb_Range))), (5, iV .i64 x3141), (12, iV .i64 (a0.length : Int)), (13, iV .i64 x3141)], [], 0⟩ [] (by kernel_rfl) trivial ?_
        refine AWp.seq ?_
        obtain ⟨b3149, p3150, q3151, H⟩ := at_of H
        obtain ⟨b3152, p3153, q3154, H⟩ := at_of H
        refine reg hP hn hm [(2, .c (etomb_Range b3149)), (6, .c (etomb_Range b3152)), (8, .more (xAgg none))] [0, 1, 12, 13, 24] [] ⟨[(0, .im (.row (a0.map etomb_Range))), (1, .im (.row (a1.map etomb_Range))), (12, iV .i64 (a0.length : Int)), (13, iV .i64 x3141), (24, bV (!((b3149.f0 == b3152.f0) && ((b3149.f1 == b3152.f1) && true))))], [], 0⟩ [0 ≤ x3141, (a0.map etomb_Range)[(Int.toNat (x3141))]? = some (etomb_Range b3149), 0 ≤ x3141, (a1.map etomb_Range)[(Int.toNat (x3141))]? = some (etomb_Range b3152)] (by kernel_rfl) ⟨by exact p3150, by exact el_map etomb_Range q3151, by exact p3153, by exact el_map etomb_Range q3154, trivial⟩ ?_
        refine AWp.cond (!((b3149.f0 == b3152.f0) && ((b3149.f1 == b3152.f1) && true))) rfl (fun c3155 => ?_) (fun c3155 => ?_)
        · replace H := (ifT c3155).symm.trans H
          refine AWp.seq ?_
          refine reg hP hn hm [] [4] [] ⟨[(4, bV false)], [], 0⟩ [] (by kernel_rfl) trivial ?_
          refine AWp.conv (inv := []) (vk := []) (e0 := []) (t := ⟨[(4, bV false)], [], 0⟩) (by kernel_rfl) ?_
          refine AWp.ret ?_
          obtain rfl := Option.some.inj H
          exact Exists.intro _ (And.intro (fun _ _ h => h) (And.intro rfl (And.intro rfl (And.intro (by kernel_rfl) (by kernel_rfl)))))
        · replace H := (ifF c3155).symm.trans H
          refine AWp.skip ?_
          refine reg hP hn hm [] [0, 1, 12, 13] [] ⟨[(0, .im (.row (a0.map etomb_Range))), (1, .im (.row (a1.map etomb_Range))), (12, iV .i64 (a0.length : Int)), (13, iV .i64 (IntKind.i64.wrap (x3141 + (1 : Int))))], [], 0⟩ [] (by kernel_rfl) trivial ?_
          exact LWp.conv (inv := []) (vk := []) (e0 := []) (t := ⟨[(0, .im (.row (a0.map etomb_Range))), (1, .im (.row (a1.map etomb_Range))), (12, iV .i64 (a0.length : Int)), (13, iV .i64 (IntKind.i64.wrap (x3141 + (1 : Int))))], [], 0⟩) (by kernel_rfl) (ih _ _ H)
      · replace H := (ifF c3142).symm.trans H
        refine AWp.exit ?_
        obtain rfl := Option.some.inj H
        exact Exists.intro _ (And.intro (fun _ _ h => h.conv (inv := []) (vk := []) (e0 := []) (t := ⟨[], [], 0⟩) (by kernel_rfl)) (And.intro rfl rfl))
    · rcases o3156 with rr | _
      · skip
        rintro e s ⟨rfl, hfl, hres⟩
        obtain rfl := Option.some.inj H
        exact Exists.intro _ (And.intro (fun _ _ h => h) (And.intro (.inl rfl) (And.intro hfl hres)))
      · skip
        rintro e s ⟨rfl, rfl⟩
        refine AWp.seq ?_
        refine reg hP hn hm [] [4] [] ⟨[(4, bV true)], [], 0⟩ [] (by kernel_rfl) trivial ?_
        refine AWp.conv (inv := []) (vk := []) (e0 := []) (t := ⟨[(4, bV true)], [], 0⟩) (by kernel_rfl) ?_
        refine AWp.ret ?_
        obtain rfl := Option.some.inj H
        exact Exists.intro _ (And.intro (fun _ _ h => h) (And.intro (.inl rfl) (And.intro rfl (And.intro (by kernel_rfl) (by kernel_rfl)))))
def f_tomb_Same.f (a0 : Ttomb_Set) (a1 : Ttomb_Set) : Option (Bool) := (f_slices_Equal_tomb_Range.f a0.f0 a1.f0) >>= fun t3160 => some t3160
theorem f_tomb_Same.ok (a0 : Ttomb_Set) (a1 : Ttomb_Set) (r : Bool) (H : f_tomb_Same.f a0 a1 = some r) : Pv.Fn Try.prog 40 [.agg [.im (.row (a0.f0.map etomb_Range))], .agg [.im (.row (a1.f0.map etomb_Range))]] [] 0 (fun x o => x = bV r ∧ o = []) := by
  unfold f_tomb_Same.f at H
  refine Fn.bodyK [] Try.func40 rfl rfl (fun Γ hP hn => ?_)
  have hm : Try.prog.follows .mixedOrders = true := by kernel_rfl
  replace hn : Γ.n = 10 := hn
  refine AWp.seq ?_
  refine reg hP hn hm [(0, .k 0), (1, .k 1)] [2, 3] [0, 1] ⟨[(2, .ptr 0 0 0), (3, .ptr 1 0 0)], [(0, some (.box 27 [.im (.row (a0.f0.map etomb_Range))])), (1, some (.box 27 [.im (.row (a1.f0.map etomb_Range))]))], 0⟩ [] (by kernel_rfl) trivial ?_
  refine AWp.seq ?_
  obtain ⟨t3160, e3161, H⟩ := bind_of H
  refine reg hP hn hm [(4, .call [] [] [] [] 0 (bV t3160) [])] [4] [] ⟨[(4, bV t3160)], [], 0⟩ [Enters Try.prog 79, Pv.Fn Try.prog 79 [.im (.row (a0.f0.map etomb_Range)), .im (.row (a1.f0.map etomb_Range))] [] 0 (fun r o => r = bV t3160 ∧ o = [])] (by kernel_rfl) ⟨by exact Try.call79, by exact f_slices_Equal_tomb_Range.ok a0.f0 a1.f0 t3160 e3161, trivial⟩ ?_
  refine AWp.conv (inv := []) (vk := []) (e0 := []) (t := ⟨[(4, bV t3160)], [], 0⟩) (by kernel_rfl) ?_
  refine AWp.ret ?_
  obtain rfl := Option.some.inj H
  exact Exists.intro _ (And.intro (fun _ _ h => h) (And.intro (.inl rfl) (And.intro rfl (And.intro (by kernel_rfl) (by kernel_rfl)))))
end Go.Proofs.Yteogljahemehkaa.PvGC1
