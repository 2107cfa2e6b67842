import Derived.Test.YtjfhobijgkccdaaProg
import Derived.Test.YtjfhobijgkccdaaPvTake
set_option linter.unusedVariables false
set_option linter.unnecessarySimpa false
set_option linter.unusedSimpArgs false
set_option maxRecDepth 10000
namespace Go.Proofs.Ytjfhobijgkccdaa.PvGA
open Go Go.Pv
structure TBucket where
  f0 : Int
  f1 : Int
  deriving DecidableEq, Inhabited
abbrev eBucket (x : TBucket) : List Im := [iI .i64 x.f0, iI .u64 x.f1]
structure RBucket (x : TBucket) : Prop where
  r0 : I64 x.f0
  r1 : U64 x.f1
structure THist where
  f0 : Int
  f1 : Int
  f2 : Int
  f3 : Int
  f4 : Int
  f5 : Int
  f6 : List TBucket
  f7 : List TBucket
  deriving DecidableEq, Inhabited
abbrev eHist (x : THist) : List Im := [iI .i64 x.f0, iI .i64 x.f1, iI .i64 x.f2, iI .u64 x.f3, iI .u64 x.f4, iI .i64 x.f5, .row (x.f6.map eBucket), .row (x.f7.map eBucket)]
structure RHist (x : THist) : Prop where
  r0 : I64 x.f0
  r1 : I64 x.f1
  r2 : I64 x.f2
  r3 : U64 x.f3
  r4 : U64 x.f4
  r5 : I64 x.f5
  r6 : x.f6.length ≤ maxLen ∧ ∀ y ∈ x.f6, RBucket y
  r7 : x.f7.length ≤ maxLen ∧ ∀ y ∈ x.f7, RBucket y
def f_pluviallaw05_Light.f (a0 : THist) : Option (Bool) := ((if (decide ((a0.f6.length : Int) ≤ (600 : Int))) = true then (some (decide ((a0.f7.length : Int) ≤ (600 : Int)))) else (some false)) : Option (Bool)) >>= fun x3 => some x3
theorem f_pluviallaw05_Light.ok (a0 : THist) (r : Bool) (H : f_pluviallaw05_Light.f a0 = some r) : Pv.Fn Try.prog 15 [.agg [iV .i64 a0.f0, iV .i64 a0.f1, iV .i64 a0.f2, iV .u64 a0.f3, iV .u64 a0.f4, iV .i64 a0.f5, .im (.row (a0.f6.map eBucket)), .im (.row (a0.f7.map eBucket))]] [] 0 (fun x o => x = bV r ∧ o = []) := by
  unfold f_pluviallaw05_Light.f at H
  refine Fn.bodyK [] Try.func15 rfl rfl (fun Γ hP hn => ?_)
  have hm : Try.prog.follows .mixedOrders = true := by kernel_rfl
  replace hn : Γ.n = 13 := hn
  refine AWp.seq ?_
  refine reg hP hn hm [(0, .k 0)] [1] [0] ⟨[(1, .ptr 0 0 0)], [(0, some (.box 30 [iV .i64 a0.f0, iV .i64 a0.f1, iV .i64 a0.f2, iV .u64 a0.f3, iV .u64 a0.f4, iV .i64 a0.f5, .im (.row (a0.f6.map eBucket)), .im (.row (a0.f7.map eBucket))]))], 0⟩ [] (by kernel_rfl) trivial ?_
  refine AWp.seq ?_
  obtain ⟨o4, e5, H⟩ := bind_of H
  refine AWp.mono (Q := fun e s => (match (generalizing := false) o4 with | x3 => e = .normal ∧ s = ⟨[(2, bV x3)], [], 0⟩)) (AWp.cv ?_) ?_
  · replace H := e5; clear e5
    rcases Bool.eq_false_or_eq_true (decide ((a0.f6.length : Int) ≤ (600 : Int))) with c2 | c2
    · replace H := (ifT c2).symm.trans H
      refine reg hP hn hm [(2, .any (iV .i64 (a0.f6.length : Int))), (4, .b true), (7, .any (iV .i64 (a0.f7.length : Int)))] [2] [] ⟨[(2, bV (decide ((a0.f7.length : Int) ≤ (600 : Int))))], [], 0⟩ [((a0.f6.map eBucket).length : Int) = (a0.f6.length : Int), (decide ((a0.f6.length : Int) ≤ (600 : Int))) = true, ((a0.f7.map eBucket).length : Int) = (a0.f7.length : Int)] (by kernel_rfl) ⟨by rw [len_map], by exact c2, by rw [len_map], trivial⟩ ?_
      obtain rfl := Option.some.inj H
      exact Exists.intro _ (And.intro (fun _ _ h => h.conv (inv := []) (vk := []) (e0 := []) (t := ⟨[(2, bV (decide ((a0.f7.length : Int) ≤ (600 : Int))))], [], 0⟩) (by kernel_rfl)) (And.intro rfl rfl))
    · replace H := (ifF c2).symm.trans H
      refine reg hP hn hm [(2, .any (iV .i64 (a0.f6.length : Int))), (4, .b false)] [2] [] ⟨[(2, bV false)], [], 0⟩ [((a0.f6.map eBucket).length : Int) = (a0.f6.length : Int), (decide ((a0.f6.length : Int) ≤ (600 : Int))) = false] (by kernel_rfl) ⟨by rw [len_map], by exact c2, trivial⟩ ?_
      obtain rfl := Option.some.inj H
      exact Exists.intro _ (And.intro (fun _ _ h => h.conv (inv := []) (vk := []) (e0 := []) (t := ⟨[(2, bV false)], [], 0⟩) (by kernel_rfl)) (And.intro rfl rfl))
  · obtain ⟨x3, rfl⟩ : ∃ z, z = o4 := ⟨_, rfl⟩
    rintro e s ⟨rfl, rfl⟩
    refine AWp.conv (inv := []) (vk := []) (e0 := []) (t := ⟨[(2, bV x3)], [], 0⟩) (by kernel_rfl) ?_
    refine AWp.ret ?_
    obtain rfl := Option.some.inj H
    exact Exists.intro _ (And.intro (fun _ _ h => h) (And.intro (.inl rfl) (And.intro rfl (And.intro (by kernel_rfl) (by kernel_rfl)))))
def f_hist_Empty.f (a0 : Int) (a1 : Int) : Option (THist) := some (⟨a0, a1, (-524288), 0, 0, 0, [], []⟩ : THist)
theorem f_hist_Empty.ok (a0 : Int) (a1 : Int) (r : THist) (H : f_hist_Empty.f a0 a1 = some r) : Pv.Fn Try.prog 33 [iV .i64 a0, iV .i64 a1] [] 0 (fun x o => x = .agg [iV .i64 ((r).f0), iV .i64 ((r).f1), iV .i64 ((r).f2), iV .u64 ((r).f3), iV .u64 ((r).f4), iV .i64 ((r).f5), .im (.row (((r).f6).map eBucket)), .im (.row (((r).f7).map eBucket))] ∧ o = []) := by
  unfold f_hist_Empty.f at H
  refine Fn.bodyK [] Try.func33 rfl rfl (fun Γ hP hn => ?_)
  have hm : Try.prog.follows .mixedOrders = true := by kernel_rfl
  replace hn : Γ.n = 8 := hn
  refine AWp.seq ?_
  refine reg hP hn hm [(0, .k 0)] [0, 1, 4] [0] ⟨[(0, iV .i64 a0), (1, iV .i64 a1), (4, .ptr 0 0 0)], [(0, some (.box 30 [iV .i64 0, iV .i64 0, iV .i64 0, iV .u64 0, iV .u64 0, iV .i64 0, .none0, .none0]))], 0⟩ [] (by kernel_rfl) trivial ?_
  refine AWp.seq ?_
  refine reg hP hn hm [] [4] [0] ⟨[(4, .ptr 0 0 0)], [(0, some (.box 30 [iV .i64 a0, iV .i64 a1, iV .i64 (-524288), iV .u64 0, iV .u64 0, iV .i64 0, .none0, .none0]))], 0⟩ [] (by kernel_rfl) trivial ?_
  refine AWp.conv (inv := [(0, 0)]) (vk := []) (e0 := []) (t := ⟨[(4, .ptr 0 0 0)], [(0, some (.box 30 [iV .i64 (((⟨a0, a1, (-524288), 0, 0, 0, [], []⟩ : THist)).f0), iV .i64 (((⟨a0, a1, (-524288), 0, 0, 0, [], []⟩ : THist)).f1), iV .i64 (((⟨a0, a1, (-524288), 0, 0, 0, [], []⟩ : THist)).f2), iV .u64 (((⟨a0, a1, (-524288), 0, 0, 0, [], []⟩ : THist)).f3), iV .u64 (((⟨a0, a1, (-524288), 0, 0, 0, [], []⟩ : THist)).f4), iV .i64 (((⟨a0, a1, (-524288), 0, 0, 0, [], []⟩ : THist)).f5), .im (.row ((((⟨a0, a1, (-524288), 0, 0, 0, [], []⟩ : THist)).f6).map eBucket)), .im (.row ((((⟨a0, a1, (-524288), 0, 0, 0, [], []⟩ : THist)).f7).map eBucket))]))], 0⟩) (by kernel_rfl) ?_
  refine AWp.ret ?_
  obtain rfl := Option.some.inj H
  exact Exists.intro _ (And.intro (fun _ _ h => h) (And.intro (.inl rfl) (And.intro rfl (And.intro (by kernel_rfl) (by kernel_rfl)))))
def f_slices_Clone_api_Bucket.f (a0 : List TBucket) : Option (List TBucket) := (chk ((([] : List TBucket).length + a0.length) * 16 ≤ 140737488355328)) >>= fun _ => some a0
theorem f_slices_Clone_api_Bucket.ok (a0 r : List TBucket) (H : f_slices_Clone_api_Bucket.f a0 = some r) : Pv.Fn Try.prog 55 [.im (.row (a0.map eBucket))] [] 0 (fun x o => x = .own 0 ∧ o = [(0, some (.row 2 36 (r.map eBucket)))]) := by
  unfold f_slices_Clone_api_Bucket.f at H
  obtain ⟨c1, H⟩ := chk_of H
  obtain rfl := Option.some.inj H
  refine Fn.bodyK [0] Try.func55 rfl rfl (fun Γ hP hn => ?_)
  have hm : Try.prog.follows .mixedOrders = true := by kernel_rfl
  replace hn : Γ.n = 8 := hn
  refine AWp.seq ?_
  refine reg hP hn hm [] [0, 2] [] ⟨[(0, .im (.row (a0.map eBucket))), (2, .none0)], [], 0⟩ [] (by kernel_rfl) trivial ?_
  refine AWp.seq ?_
  cases a0 with
  | nil =>
    refine AWp.nilSplit 0 rfl (fun b m => ?_)
    refine AWp.seq ?_
    cases b with
    | none =>
      refine reg hP hn hm [(1, .more xNil)] [2, 4] [] ⟨[(2, .none0), (4, bV true)], [], 0⟩ [] (by kernel_rfl) trivial ?_
      refine AWp.cond true rfl (fun _ => ?_) (fun h => nomatch h)
      refine AWp.seq ?_
      refine reg hP hn hm [] [2] [] ⟨[(2, .none0)], [], 0⟩ [] (by kernel_rfl) trivial ?_
      refine AWp.conv (inv := []) (vk := []) (e0 := [0]) (t := ⟨[(2, .own 0)], [(0, some (.row 2 36 []))], 0⟩) (by kernel_rfl) ?_
      refine AWp.ret ?_
      exact Exists.intro _ (And.intro (fun _ _ h => h) (And.intro (.inl rfl) (And.intro rfl (And.intro (by kernel_rfl) (by kernel_rfl)))))
    | some b =>
      refine reg hP hn hm [(1, .more xNil)] [0, 2, 4] [] ⟨[(0, .im (.sc (.slice (some b) 0 m))), (2, .none0), (4, bV false)], [], 0⟩ [] (by kernel_rfl) trivial ?_
      refine AWp.cond false rfl (fun h => nomatch h) (fun _ => ?_)
      refine AWp.skip ?_
      refine AWp.unsplit 0 rfl ?_
      refine AWp.seq ?_
      refine reg hP hn hm [(0, .app 0 ([] : List (List Im))), (2, .app 1 (([] : List TBucket).map eBucket))] [2] [1] ⟨[(2, .own 1)], [(1, some (.row 2 36 (([] : List TBucket).map eBucket)))], 0⟩ [([] : List (List Im)) = [], ([] : List TBucket).map eBucket = ([] : List (List Im)) ++ ([] : List TBucket).map eBucket, ∀ c ∈ ([] : List TBucket).map eBucket, c.length = 2, ∀ c ∈ ([] : List TBucket).map eBucket, leaves (c.map .im) = true, (([] : List (List Im)).length + (([] : List TBucket).map eBucket).length) * 16 ≤ 140737488355328] (by kernel_rfl) ⟨rfl, by simp, by exact all_len _ _ _ (fun _ => rfl), by exact all_leaf _ _ (fun _ => rfl), by simpa using c1, trivial⟩ ?_
      refine AWp.conv (inv := [(1, 0)]) (vk := []) (e0 := []) (t := ⟨[(2, .own 0)], [(0, some (.row 2 36 (([] : List TBucket).map eBucket)))], 0⟩) (by kernel_rfl) ?_
      refine AWp.ret ?_
      exact Exists.intro _ (And.intro (fun _ _ h => h) (And.intro (.inl rfl) (And.intro rfl (And.intro (by kernel_rfl) (by kernel_rfl)))))
  | cons y l =>
    refine AWp.seq ?_
    refine reg hP hn hm [(1, .more xNil)] [0, 2, 4] [] ⟨[(0, .im (.row ((y :: l).map eBucket))), (2, .none0), (4, bV false)], [], 0⟩ [] (by kernel_rfl) trivial ?_
    refine AWp.cond false rfl (fun h => nomatch h) (fun _ => ?_)
    refine AWp.skip ?_
    refine AWp.seq ?_
    refine reg hP hn hm [(0, .app 0 ([] : List (List Im))), (2, .app 1 ((y :: l).map eBucket))] [2] [1] ⟨[(2, .own 1)], [(1, some (.row 2 36 ((y :: l).map eBucket)))], 0⟩ [([] : List (List Im)) = [], (y :: l).map eBucket = ([] : List (List Im)) ++ (y :: l).map eBucket, ∀ c ∈ (y :: l).map eBucket, c.length = 2, ∀ c ∈ (y :: l).map eBucket, leaves (c.map .im) = true, (([] : List (List Im)).length + ((y :: l).map eBucket).length) * 16 ≤ 140737488355328] (by kernel_rfl) ⟨rfl, by simp, by exact all_len _ _ _ (fun _ => rfl), by exact all_leaf _ _ (fun _ => rfl), by simpa using c1, trivial⟩ ?_
    refine AWp.conv (inv := [(1, 0)]) (vk := []) (e0 := []) (t := ⟨[(2, .own 0)], [(0, some (.row 2 36 ((y :: l).map eBucket)))], 0⟩) (by kernel_rfl) ?_
    refine AWp.ret ?_
    exact Exists.intro _ (And.intro (fun _ _ h => h) (And.intro (.inl rfl) (And.intro rfl (And.intro (by kernel_rfl) (by kernel_rfl)))))
def f_cmp_isNaN_int.f (a0 : Int) : Option (Unit) := some ()
theorem f_cmp_isNaN_int.ok (a0 : Int) (r : Unit) (H : f_cmp_isNaN_int.f a0 = some r) : Pv.Fn Try.prog 86 [iV .i64 a0] [] 0 (fun x o => x = bV (a0 != a0) ∧ o = []) := by
  unfold f_cmp_isNaN_int.f at H
  refine Fn.bodyK [] Try.func86 rfl rfl (fun Γ hP hn => ?_)
  have hm : Try.prog.follows .mixedOrders = true := by kernel_rfl
  replace hn : Γ.n = 6 := hn
  refine AWp.seq ?_
  refine reg hP hn hm [] [0] [] ⟨[(0, iV .i64 a0)], [], 0⟩ [] (by kernel_rfl) trivial ?_
  refine AWp.seq ?_
  refine reg hP hn hm [] [2] [] ⟨[(2, bV (a0 != a0))], [], 0⟩ [] (by kernel_rfl) trivial ?_
  refine AWp.conv (inv := []) (vk := []) (e0 := []) (t := ⟨[(2, bV (a0 != a0))], [], 0⟩) (by kernel_rfl) ?_
  refine AWp.ret ?_
  obtain rfl := Option.some.inj H
  exact Exists.intro _ (And.intro (fun _ _ h => h) (And.intro (.inl rfl) (And.intro rfl (And.intro (by kernel_rfl) (by kernel_rfl)))))
def f_cmp_Compare_int.f (a0 : Int) (a1 : Int) : Option (Int) := (f_cmp_isNaN_int.f a0) >>= fun t33 => (f_cmp_isNaN_int.f a1) >>= fun t37 => if (a0 != a0) = true then (if (a1 != a1) = true then (some 0) else (some (-1))) else (if (a1 != a1) = true then (some 1) else (if (decide (a0 < a1)) = true then (some (-1)) else (if (decide (a0 > a1)) = true then (some 1) else (some 0))))
theorem f_cmp_Compare_int.ok (a0 : Int) (a1 : Int) (r : Int) (H : f_cmp_Compare_int.f a0 a1 = some r) : Pv.Fn Try.prog 62 [iV .i64 a0, iV .i64 a1] [] 0 (fun x o => x = iV .i64 r ∧ o = []) := by
  unfold f_cmp_Compare_int.f at H
  refine Fn.bodyK [] Try.func62 rfl rfl (fun Γ hP hn => ?_)
  have hm : Try.prog.follows .mixedOrders = true := by kernel_rfl
  replace hn : Γ.n = 20 := hn
  refine AWp.seq ?_
  refine reg hP hn hm [] [0, 1] [] ⟨[(0, iV .i64 a0), (1, iV .i64 a1)], [], 0⟩ [] (by kernel_rfl) trivial ?_
  refine AWp.seq ?_
  obtain ⟨t33, e34, H⟩ := bind_of H
  refine reg hP hn hm [(1, .call [] [] [] [] 0 (bV (a0 != a0)) [])] [0, 1, 5] [] ⟨[(0, iV .i64 a0), (1, iV .i64 a1), (5, bV (a0 != a0))], [], 0⟩ [Enters Try.prog 86, Pv.Fn Try.prog 86 [iV .i64 a0] [] 0 (fun r o => r = bV (a0 != a0) ∧ o = [])] (by kernel_rfl) ⟨by exact Try.call86, by exact f_cmp_isNaN_int.ok a0 t33 e34, trivial⟩ ?_
  refine AWp.seq ?_
  obtain ⟨t37, e38, H⟩ := bind_of H
  refine reg hP hn hm [(1, .call [] [] [] [] 0 (bV (a1 != a1)) [])] [0, 1, 5, 6] [] ⟨[(0, iV .i64 a0), (1, iV .i64 a1), (5, bV (a0 != a0)), (6, bV (a1 != a1))], [], 0⟩ [Enters Try.prog 86, Pv.Fn Try.prog 86 [iV .i64 a1] [] 0 (fun r o => r = bV (a1 != a1) ∧ o = [])] (by kernel_rfl) ⟨by exact Try.call86, by exact f_cmp_isNaN_int.ok a1 t37 e38, trivial⟩ ?_
  refine AWp.seq ?_
  refine AWp.seq ?_
  refine reg hP hn hm [] [0, 1, 6, 11] [] ⟨[(0, iV .i64 a0), (1, iV .i64 a1), (6, bV (a1 != a1)), (11, bV (a0 != a0))], [], 0⟩ [] (by kernel_rfl) trivial ?_
  refine AWp.cond (a0 != a0) rfl (fun c39 => ?_) (fun c39 => ?_)
  · replace H := (ifT c39).symm.trans H
    refine AWp.seq ?_
    refine AWp.seq ?_
    refine reg hP hn hm [] [12] [] ⟨[(12, bV (a1 != a1))], [], 0⟩ [] (by kernel_rfl) trivial ?_
    refine AWp.cond (a1 != a1) rfl (fun c40 => ?_) (fun c40 => ?_)
    · replace H := (ifT c40).symm.trans H
      refine AWp.seq ?_
      refine reg hP hn hm [] [4] [] ⟨[(4, iV .i64 0)], [], 0⟩ [] (by kernel_rfl) trivial ?_
      refine AWp.conv (inv := []) (vk := []) (e0 := []) (t := ⟨[(4, iV .i64 0)], [], 0⟩) (by kernel_rfl) ?_
      refine AWp.ret ?_
      obtain rfl := Option.some.inj H
      exact Exists.intro _ (And.intro (fun _ _ h => h) (And.intro (.inl rfl) (And.intro rfl (And.intro (by kernel_rfl) (by kernel_rfl)))))
    · replace H := (ifF c40).symm.trans H
      refine AWp.skip ?_
      refine AWp.seq ?_
      refine reg hP hn hm [] [4] [] ⟨[(4, iV .i64 (-1))], [], 0⟩ [] (by kernel_rfl) trivial ?_
      refine AWp.conv (inv := []) (vk := []) (e0 := []) (t := ⟨[(4, iV .i64 (-1))], [], 0⟩) (by kernel_rfl) ?_
      refine AWp.ret ?_
      obtain rfl := Option.some.inj H
      exact Exists.intro _ (And.intro (fun _ _ h => h) (And.intro (.inl rfl) (And.intro rfl (And.intro (by kernel_rfl) (by kernel_rfl)))))
  · replace H := (ifF c39).symm.trans H
    refine AWp.skip ?_
    refine AWp.seq ?_
    refine AWp.seq ?_
    refine reg hP hn hm [] [0, 1, 13] [] ⟨[(0, iV .i64 a0), (1, iV .i64 a1), (13, bV (a1 != a1))], [], 0⟩ [] (by kernel_rfl) trivial ?_
    refine AWp.cond (a1 != a1) rfl (fun c41 => ?_) (fun c41 => ?_)
    · replace H := (ifT c41).symm.trans H
      refine AWp.seq ?_
      refine reg hP hn hm [] [4] [] ⟨[(4, iV .i64 1)], [], 0⟩ [] (by kernel_rfl) trivial ?_
      refine AWp.conv (inv := []) (vk := []) (e0 := []) (t := ⟨[(4, iV .i64 1)], [], 0⟩) (by kernel_rfl) ?_
      refine AWp.ret ?_
      obtain rfl := Option.some.inj H
      exact Exists.intro _ (And.intro (fun _ _ h => h) (And.intro (.inl rfl) (And.intro rfl (And.intro (by kernel_rfl) (by kernel_rfl)))))
    · replace H := (ifF c41).symm.trans H
      refine AWp.skip ?_
      refine AWp.seq ?_
      refine AWp.seq ?_
      refine reg hP hn hm [] [0, 1, 16] [] ⟨[(0, iV .i64 a0), (1, iV .i64 a1), (16, bV (decide (a0 < a1)))], [], 0⟩ [] (by kernel_rfl) trivial ?_
      refine AWp.cond (decide (a0 < a1)) rfl (fun c42 => ?_) (fun c42 => ?_)
      · replace H := (ifT c42).symm.trans H
        refine AWp.seq ?_
        refine reg hP hn hm [] [4] [] ⟨[(4, iV .i64 (-1))], [], 0⟩ [] (by kernel_rfl) trivial ?_
        refine AWp.conv (inv := []) (vk := []) (e0 := []) (t := ⟨[(4, iV .i64 (-1))], [], 0⟩) (by kernel_rfl) ?_
        refine AWp.ret ?_
        obtain rfl := Option.some.inj H
        exact Exists.intro _ (And.intro (fun _ _ h => h) (And.intro (.inl rfl) (And.intro rfl (And.intro (by kernel_rfl) (by kernel_rfl)))))
      · replace H := (ifF c42).symm.trans H
        refine AWp.skip ?_
        refine AWp.seq ?_
        refine AWp.seq ?_
        refine reg hP hn hm [] [19] [] ⟨[(19, bV (decide (a0 > a1)))], [], 0⟩ [] (by kernel_rfl) trivial ?_
        refine AWp.cond (decide (a0 > a1)) rfl (fun c43 => ?_) (fun c43 => ?_)
        · replace H := (ifT c43).symm.trans H
          refine AWp.seq ?_
          refine reg hP hn hm [] [4] [] ⟨[(4, iV .i64 1)], [], 0⟩ [] (by kernel_rfl) trivial ?_
          refine AWp.conv (inv := []) (vk := []) (e0 := []) (t := ⟨[(4, iV .i64 1)], [], 0⟩) (by kernel_rfl) ?_
          refine AWp.ret ?_
          obtain rfl := Option.some.inj H
          exact Exists.intro _ (And.intro (fun _ _ h => h) (And.intro (.inl rfl) (And.intro rfl (And.intro (by kernel_rfl) (by kernel_rfl)))))
        · replace H := (ifF c43).symm.trans H
          refine AWp.skip ?_
          refine AWp.seq ?_
          refine reg hP hn hm [] [4] [] ⟨[(4, iV .i64 0)], [], 0⟩ [] (by kernel_rfl) trivial ?_
          refine AWp.conv (inv := []) (vk := []) (e0 := []) (t := ⟨[(4, iV .i64 0)], [], 0⟩) (by kernel_rfl) ?_
          refine AWp.ret ?_
          obtain rfl := Option.some.inj H
          exact Exists.intro _ (And.intro (fun _ _ h => h) (And.intro (.inl rfl) (And.intro rfl (And.intro (by kernel_rfl) (by kernel_rfl)))))
def f_hist_tidy_1.f (a0 : TBucket) (a1 : TBucket) : Option (Int) := (f_cmp_Compare_int.f a0.f0 a1.f0) >>= fun t46 => some t46
theorem f_hist_tidy_1.ok (a0 : TBucket) (a1 : TBucket) (r : Int) (H : f_hist_tidy_1.f a0 a1 = some r) : Pv.Fn Try.prog 78 [.agg [iV .i64 a0.f0, iV .u64 a0.f1], .agg [iV .i64 a1.f0, iV .u64 a1.f1]] [] 0 (fun x o => x = iV .i64 r ∧ o = []) := by
  unfold f_hist_tidy_1.f at H
  refine Fn.bodyK [] Try.func78 rfl rfl (fun Γ hP hn => ?_)
  have hm : Try.prog.follows .mixedOrders = true := by kernel_rfl
  replace hn : Γ.n = 10 := hn
  refine AWp.seq ?_
  refine reg hP hn hm [(0, .k 0), (1, .k 1)] [2, 3] [0, 1] ⟨[(2, .ptr 0 0 0), (3, .ptr 1 0 0)], [(0, some (.box 36 [iV .i64 a0.f0, iV .u64 a0.f1])), (1, some (.box 36 [iV .i64 a1.f0, iV .u64 a1.f1]))], 0⟩ [] (by kernel_rfl) trivial ?_
  refine AWp.seq ?_
  obtain ⟨t46, e47, H⟩ := bind_of H
  refine reg hP hn hm [(4, .call [] [] [] [] 0 (iV .i64 t46) [])] [4] [] ⟨[(4, iV .i64 t46)], [], 0⟩ [Enters Try.prog 62, Pv.Fn Try.prog 62 [iV .i64 a0.f0, iV .i64 a1.f0] [] 0 (fun r o => r = iV .i64 t46 ∧ o = [])] (by kernel_rfl) ⟨by exact Try.call62, by exact f_cmp_Compare_int.ok a0.f0 a1.f0 t46 e47, trivial⟩ ?_
  refine AWp.conv (inv := []) (vk := []) (e0 := []) (t := ⟨[(4, iV .i64 t46)], [], 0⟩) (by kernel_rfl) ?_
  refine AWp.ret ?_
  obtain rfl := Option.some.inj H
  exact Exists.intro _ (And.intro (fun _ _ h => h) (And.intro (.inl rfl) (And.intro rfl (And.intro (by kernel_rfl) (by kernel_rfl)))))
def f_slices_insertionSortCmpFunc_api_Bucket_hist_tidy_1.l1 (a1 : Int) (a2 : Int) (x121 : Int) (x161 : List TBucket) (x162 : Int) : Option (List TBucket) := ((if (decide (x162 > a1)) = true then ((at? x161 x162) >>= fun b173 => (at? x161 (IntKind.i64.wrap (x162 - (1 : Int)))) >>= fun b176 => (f_hist_tidy_1.f b173 b176) >>= fun t179 => some (decide (t179 < (0 : Int)))) else (some false)) : Option (Bool)) >>= fun x181 => if x181 = true then ((at? x161 (IntKind.i64.wrap (x162 - (1 : Int)))) >>= fun b192 => (at? x161 x162) >>= fun b195 => (at? (x161.set (Int.toNat (x162)) b192) (IntKind.i64.wrap (x162 - (1 : Int)))) >>= fun b198 => f_slices_insertionSortCmpFunc_api_Bucket_hist_tidy_1.l1 a1 a2 x121 ((x161.set (Int.toNat (x162)) b192).set (Int.toNat (IntKind.i64.wrap (x162 - (1 : Int)))) b195) (IntKind.i64.wrap (x162 - (1 : Int)))) else (some x161)
partial_fixpoint
def f_slices_insertionSortCmpFunc_api_Bucket_hist_tidy_1.l0 (a1 : Int) (a2 : Int) (x120 : List TBucket) (x121 : Int) : Option (List TBucket) := if (decide (x121 < a2)) = true then ((f_slices_insertionSortCmpFunc_api_Bucket_hist_tidy_1.l1 a1 a2 x121 x120 x121) >>= fun x201 => f_slices_insertionSortCmpFunc_api_Bucket_hist_tidy_1.l0 a1 a2 x201 (IntKind.i64.wrap (x121 + (1 : Int)))) else (some x120)
partial_fixpoint
def f_slices_insertionSortCmpFunc_api_Bucket_hist_tidy_1.f (a0 : List TBucket) (a1 : Int) (a2 : Int) : Option (List TBucket) := (f_slices_insertionSortCmpFunc_api_Bucket_hist_tidy_1.l0 a1 a2 a0 (IntKind.i64.wrap (a1 + (1 : Int)))) >>= fun x202 => some x202
theorem f_slices_insertionSortCmpFunc_api_Bucket_hist_tidy_1.ok (a0 : List TBucket) (a1 : Int) (a2 : Int) (r : List TBucket) (H : f_slices_insertionSortCmpFunc_api_Bucket_hist_tidy_1.f a0 a1 a2 = some r) : Pv.Fn Try.prog 102 [.own 0, iV .i64 a1, iV .i64 a2, .im (.sc (.func (.func 78) #[] #[]))] [(0, some (.row 2 36 (a0.map eBucket)))] 1 (fun x o => x = .tup [] ∧ o = [(0, some (.row 2 36 (r.map eBucket)))]) := by
  unfold f_slices_insertionSortCmpFunc_api_Bucket_hist_tidy_1.f at H
  refine Fn.bodyK [0] Try.func102 rfl rfl (fun Γ hP hn => ?_)
  have hm : Try.prog.follows .mixedOrders = true := by kernel_rfl
  replace hn : Γ.n = 53 := hn
  refine AWp.seq ?_
  refine reg hP hn hm [] [0, 1, 2, 3, 8] [0] ⟨[(0, .own 0), (1, iV .i64 a1), (2, iV .i64 a2), (3, .im (.sc (.func (.func 78) #[] #[]))), (8, iV .i64 (IntKind.i64.wrap (a1 + (1 : Int))))], [(0, some (.row 2 36 (a0.map eBucket)))], 1⟩ [] (by kernel_rfl) trivial ?_
  refine AWp.block ?_
  obtain ⟨o203, e204, H⟩ := bind_of H
  refine AWp.loop (LWp.conv (inv := [(0, 0)]) (vk := []) (e0 := []) (t := ⟨[(0, .own 0), (1, iV .i64 a1), (2, iV .i64 a2), (3, .im (.sc (.func (.func 78) #[] #[]))), (8, iV .i64 (IntKind.i64.wrap (a1 + (1 : Int))))], [(0, some (.row 2 36 (a0.map eBucket)))], 1⟩) (by kernel_rfl) ?_)
  refine LWp.mono (Q := fun e s => (match (generalizing := false) o203 with | x202 => e = .exit 0 ∧ s = ⟨[], [(0, some (.row 2 36 (x202.map eBucket)))], 1⟩)) (LWp.cv (withBody (fun body hbody => ?_))) ?_
  · refine f_slices_insertionSortCmpFunc_api_Bucket_hist_tidy_1.l0.partial_correctness a1 a2 (motive := fun x120 x121 o203 => LWp Γ body (fun e s => ∃ t, Cv Γ s t ∧ (match (generalizing := false) o203 with | x202 => e = .exit 0 ∧ t = ⟨[], [(0, some (.row 2 36 (x202.map eBucket)))], 1⟩)) ⟨[(0, .own 0), (1, iV .i64 a1), (2, iV .i64 a2), (3, .im (.sc (.func (.func 78) #[] #[]))), (8, iV .i64 x121)], [(0, some (.row 2 36 (x120.map eBucket)))], 1⟩) ?_ _ _ _ e204
    clear H e204 o203; intro self ih x120 x121 o203 H
    subst hbody
    refine LWp.round ?_
    refine AWp.seq ?_
    refine AWp.seq ?_
    refine reg hP hn hm [] [0, 1, 2, 3, 8, 14] [0] ⟨[(0, .own 0), (1, iV .i64 a1), (2, iV .i64 a2), (3, .im (.sc (.func (.func 78) #[] #[]))), (8, iV .i64 x121), (14, bV (decide (x121 < a2)))], [(0, some (.row 2 36 (x120.map eBucket)))], 1⟩ [] (by kernel_rfl) trivial ?_
    refine AWp.cond (decide (x121 < a2)) rfl (fun c122 => ?_) (fun c122 => ?_)
    · replace H := (ifT c122).symm.trans H
      refine AWp.skip ?_
      refine AWp.seq ?_
      refine AWp.block ?_
      refine AWp.seq ?_
      refine reg hP hn hm [] [0, 1, 2, 3, 8, 9] [0] ⟨[(0, .own 0), (1, iV .i64 a1), (2, iV .i64 a2), (3, .im (.sc (.func (.func 78) #[] #[]))), (8, iV .i64 x121), (9, iV .i64 x121)], [(0, some (.row 2 36 (x120.map eBucket)))], 1⟩ [] (by kernel_rfl) trivial ?_
      refine AWp.block ?_
      obtain ⟨o205, e206, H⟩ := bind_of H
      refine AWp.loop (LWp.conv (inv := [(0, 0)]) (vk := []) (e0 := []) (t := ⟨[(0, .own 0), (1, iV .i64 a1), (2, iV .i64 a2), (3, .im (.sc (.func (.func 78) #[] #[]))), (8, iV .i64 x121), (9, iV .i64 x121)], [(0, some (.row 2 36 (x120.map eBucket)))], 1⟩) (by kernel_rfl) ?_)
      refine LWp.mono (Q := fun e s => (match (generalizing := false) o205 with | x201 => e = .exit 2 ∧ s = ⟨[(0, .own 0), (1, iV .i64 a1), (2, iV .i64 a2), (3, .im (.sc (.func (.func 78) #[] #[]))), (8, iV .i64 x121)], [(0, some (.row 2 36 (x201.map eBucket)))], 1⟩)) (LWp.cv (withBody (fun body hbody => ?_))) ?_
      · refine f_slices_insertionSortCmpFunc_api_Bucket_hist_tidy_1.l1.partial_correctness a1 a2 x121 (motive := fun x161 x162 o205 => LWp Γ body (fun e s => ∃ t, Cv Γ s t ∧ (match (generalizing := false) o205 with | x201 => e = .exit 2 ∧ t = ⟨[(0, .own 0), (1, iV .i64 a1), (2, iV .i64 a2), (3, .im (.sc (.func (.func 78) #[] #[]))), (8, iV .i64 x121)], [(0, some (.row 2 36 (x201.map eBucket)))], 1⟩)) ⟨[(0, .own 0), (1, iV .i64 a1), (2, iV .i64 a2), (3, .im (.sc (.func (.func 78) #[] #[]))), (8, iV .i64 x121), (9, iV .i64 x162)], [(0, some (.row 2 36 (x161.map eBucket)))], 1⟩) ?_ _ _ _ e206
        clear H e206 o205; intro self ih x161 x162 o205 H
        subst hbody
        refine LWp.round ?_
        refine AWp.seq ?_
        refine AWp.seq ?_
        obtain ⟨o207, e208, H⟩ := bind_of H
        refine AWp.mono (Q := fun e s => (match (generalizing := false) o207 with | x181 => e = .normal ∧ s = ⟨[(0, .own 0), (1, iV .i64 a1), (2, iV .i64 a2), (3, .im (.sc (.func (.func 78) #[] #[]))), (8, iV .i64 x121), (9, iV .i64 x162), (34, bV x181)], [(0, some (.row 2 36 (x161.map eBucket)))], 1⟩)) (AWp.cv ?_) ?_
        · replace H := e208; clear e208
          rcases Bool.eq_false_or_eq_true (decide (x162 > a1)) with c172 | c172
          · replace H := (ifT c172).symm.trans H
            obtain ⟨b173, p174, q175, H⟩ := at_of H
            obtain ⟨b176, p177, q178, H⟩ := at_of H
            obtain ⟨t179, e180, H⟩ := bind_of H
            refine reg hP hn hm [(3, .b true), (8, .c (eBucket b173)), (13, .c (eBucket b176)), (14, .call [] [] [] [] 0 (iV .i64 t179) [])] [0, 1, 2, 3, 8, 9, 22, 23, 24, 25, 26, 27, 28, 29, 30, 31, 32, 33, 34] [0] ⟨[(0, .own 0), (1, iV .i64 a1), (2, iV .i64 a2), (3, .im (.sc (.func (.func 78) #[] #[]))), (8, iV .i64 x121), (9, iV .i64 x162), (22, .im (.sc (.func (.func 78) #[] #[]))), (23, .own 0), (24, iV .i64 x162), (25, .ptr 0 (Int.toNat (x162)) 0), (26, .agg [iV .i64 b173.f0, iV .u64 b173.f1]), (27, .own 0), (28, iV .i64 x162), (29, iV .i64 (IntKind.i64.wrap (x162 - (1 : Int)))), (30, .ptr 0 (Int.toNat (IntKind.i64.wrap (x162 - (1 : Int)))) 0), (31, .agg [iV .i64 b176.f0, iV .u64 b176.f1]), (32, iV .i64 t179), (33, bV (decide (t179 < (0 : Int)))), (34, bV (decide (t179 < (0 : Int))))], [(0, some (.row 2 36 (x161.map eBucket)))], 1⟩ [(decide (x162 > a1)) = true, 0 ≤ x162, x162 < (((x161.map eBucket).length : Nat) : Int), (x161.map eBucket)[(Int.toNat (x162))]? = some (eBucket b173), 0 ≤ (IntKind.i64.wrap (x162 - (1 : Int))), IntKind.i64.wrap (x162 - (1 : Int)) < (((x161.map eBucket).length : Nat) : Int), (x161.map eBucket)[(Int.toNat (IntKind.i64.wrap (x162 - (1 : Int))))]? = some (eBucket b176), Enters Try.prog 78, Pv.Fn Try.prog 78 [.agg [iV .i64 b173.f0, iV .u64 b173.f1], .agg [iV .i64 b176.f0, iV .u64 b176.f1]] [] 0 (fun r o => r = iV .i64 t179 ∧ o = [])] (by kernel_rfl) ⟨by exact c172, by exact p174, by exact el_lt eBucket p174 q175, by exact el_map eBucket q175, by exact p177, by exact el_lt eBucket p177 q178, by exact el_map eBucket q178, by exact Try.call78, by exact f_hist_tidy_1.ok b173 b176 t179 e180, trivial⟩ ?_
            obtain rfl := Option.some.inj H
            exact Exists.intro _ (And.intro (fun _ _ h => h.conv (inv := [(0, 0)]) (vk := []) (e0 := []) (t := ⟨[(0, .own 0), (1, iV .i64 a1), (2, iV .i64 a2), (3, .im (.sc (.func (.func 78) #[] #[]))), (8, iV .i64 x121), (9, iV .i64 x162), (34, bV (decide (t179 < (0 : Int))))], [(0, some (.row 2 36 (x161.map eBucket)))], 1⟩) (by kernel_rfl)) (And.intro rfl rfl))
          · replace H := (ifF c172).symm.trans H
            refine reg hP hn hm [(3, .b false)] [0, 1, 2, 3, 8, 9, 34] [0] ⟨[(0, .own 0), (1, iV .i64 a1), (2, iV .i64 a2), (3, .im (.sc (.func (.func 78) #[] #[]))), (8, iV .i64 x121), (9, iV .i64 x162), (34, bV false)], [(0, some (.row 2 36 (x161.map eBucket)))], 1⟩ [(decide (x162 > a1)) = false] (by kernel_rfl) ⟨by exact c172, trivial⟩ ?_
            obtain rfl := Option.some.inj H
            exact Exists.intro _ (And.intro (fun _ _ h => h.conv (inv := [(0, 0)]) (vk := []) (e0 := []) (t := ⟨[(0, .own 0), (1, iV .i64 a1), (2, iV .i64 a2), (3, .im (.sc (.func (.func 78) #[] #[]))), (8, iV .i64 x121), (9, iV .i64 x162), (34, bV false)], [(0, some (.row 2 36 (x161.map eBucket)))], 1⟩) (by kernel_rfl)) (And.intro rfl rfl))
        · obtain ⟨x181, rfl⟩ : ∃ z, z = o207 := ⟨_, rfl⟩
          rintro e s ⟨rfl, rfl⟩
          refine AWp.cond x181 rfl (fun c182 => ?_) (fun c182 => ?_)
          · replace H := (ifT c182).symm.trans H
            refine AWp.skip ?_
            refine AWp.seq ?_
            refine AWp.block ?_
            obtain ⟨b192, p193, q194, H⟩ := at_of H
            obtain ⟨b195, p196, q197, H⟩ := at_of H
            obtain ⟨b198, p199, q200, H⟩ := at_of H
            refine reg hP hn hm [(9, .c (eBucket b192)), (13, .c (eBucket b195)), (15, .put (eBucket b195) ((x161.set (Int.toNat (x162)) b192).map eBucket)), (17, .put (eBucket b198) (((x161.set (Int.toNat (x162)) b192).set (Int.toNat (IntKind.i64.wrap (x162 - (1 : Int)))) b195).map eBucket))] [0, 1, 2, 3, 8, 9] [0] ⟨[(0, .own 0), (1, iV .i64 a1), (2, iV .i64 a2), (3, .im (.sc (.func (.func 78) #[] #[]))), (8, iV .i64 x121), (9, iV .i64 x162)], [(0, some (.row 2 36 (((x161.set (Int.toNat (x162)) b192).set (Int.toNat (IntKind.i64.wrap (x162 - (1 : Int)))) b195).map eBucket)))], 1⟩ [0 ≤ (IntKind.i64.wrap (x162 - (1 : Int))), IntKind.i64.wrap (x162 - (1 : Int)) < (((x161.map eBucket).length : Nat) : Int), (x161.map eBucket)[(Int.toNat (IntKind.i64.wrap (x162 - (1 : Int))))]? = some (eBucket b192), 0 ≤ x162, x162 < (((x161.map eBucket).length : Nat) : Int), (x161.map eBucket)[(Int.toNat (x162))]? = some (eBucket b195), 0 ≤ x162, x162 < (((x161.map eBucket).length : Nat) : Int), (x161.map eBucket)[(Int.toNat (x162))]? = some (eBucket b195), (x161.set (Int.toNat (x162)) b192).map eBucket = (x161.map eBucket).set (Int.toNat (x162)) (splice (eBucket b195) 0 [iI .i64 b192.f0, iI .u64 b192.f1]), 0 ≤ (IntKind.i64.wrap (x162 - (1 : Int))), IntKind.i64.wrap (x162 - (1 : Int)) < ((((x161.set (Int.toNat (x162)) b192).map eBucket).length : Nat) : Int), ((x161.set (Int.toNat (x162)) b192).map eBucket)[(Int.toNat (IntKind.i64.wrap (x162 - (1 : Int))))]? = some (eBucket b198), ((x161.set (Int.toNat (x162)) b192).set (Int.toNat (IntKind.i64.wrap (x162 - (1 : Int)))) b195).map eBucket = ((x161.set (Int.toNat (x162)) b192).map eBucket).set (Int.toNat (IntKind.i64.wrap (x162 - (1 : Int)))) (splice (eBucket b198) 0 [iI .i64 b195.f0, iI .u64 b195.f1])] (by kernel_rfl) ⟨by exact p193, by exact el_lt eBucket p193 q194, by exact el_map eBucket q194, by exact p196, by exact el_lt eBucket p196 q197, by exact el_map eBucket q197, by exact p196, by exact el_lt eBucket p196 q197, by exact el_map eBucket q197, by exact set1 _ _ _ _, by exact p199, by exact el_lt eBucket p199 q200, by exact el_map eBucket q200, by exact set1 _ _ _ _, trivial⟩ ?_
            refine reg hP hn hm [] [0, 1, 2, 3, 8, 9] [0] ⟨[(0, .own 0), (1, iV .i64 a1), (2, iV .i64 a2), (3, .im (.sc (.func (.func 78) #[] #[]))), (8, iV .i64 x121), (9, iV .i64 (IntKind.i64.wrap (x162 - (1 : Int))))], [(0, some (.row 2 36 (((x161.set (Int.toNat (x162)) b192).set (Int.toNat (IntKind.i64.wrap (x162 - (1 : Int)))) b195).map eBucket)))], 1⟩ [] (by kernel_rfl) trivial ?_
            exact LWp.conv (inv := [(0, 0)]) (vk := []) (e0 := []) (t := ⟨[(0, .own 0), (1, iV .i64 a1), (2, iV .i64 a2), (3, .im (.sc (.func (.func 78) #[] #[]))), (8, iV .i64 x121), (9, iV .i64 (IntKind.i64.wrap (x162 - (1 : Int))))], [(0, some (.row 2 36 (((x161.set (Int.toNat (x162)) b192).set (Int.toNat (IntKind.i64.wrap (x162 - (1 : Int)))) b195).map eBucket)))], 1⟩) (by kernel_rfl) (ih _ _ _ H)
          · replace H := (ifF c182).symm.trans H
            refine AWp.exit ?_
            obtain rfl := Option.some.inj H
            exact Exists.intro _ (And.intro (fun _ _ h => h.conv (inv := [(0, 0)]) (vk := []) (e0 := []) (t := ⟨[(0, .own 0), (1, iV .i64 a1), (2, iV .i64 a2), (3, .im (.sc (.func (.func 78) #[] #[]))), (8, iV .i64 x121)], [(0, some (.row 2 36 (x161.map eBucket)))], 1⟩) (by kernel_rfl)) (And.intro rfl rfl))
      · obtain ⟨x201, rfl⟩ : ∃ z, z = o205 := ⟨_, rfl⟩
        rintro e s ⟨rfl, rfl⟩
        refine reg hP hn hm [] [0, 1, 2, 3, 8] [0] ⟨[(0, .own 0), (1, iV .i64 a1), (2, iV .i64 a2), (3, .im (.sc (.func (.func 78) #[] #[]))), (8, iV .i64 (IntKind.i64.wrap (x121 + (1 : Int))))], [(0, some (.row 2 36 (x201.map eBucket)))], 1⟩ [] (by kernel_rfl) trivial ?_
        exact LWp.conv (inv := [(0, 0)]) (vk := []) (e0 := []) (t := ⟨[(0, .own 0), (1, iV .i64 a1), (2, iV .i64 a2), (3, .im (.sc (.func (.func 78) #[] #[]))), (8, iV .i64 (IntKind.i64.wrap (x121 + (1 : Int))))], [(0, some (.row 2 36 (x201.map eBucket)))], 1⟩) (by kernel_rfl) (ih _ _ _ H)
    · replace H := (ifF c122).symm.trans H
      refine AWp.exit ?_
      obtain rfl := Option.some.inj H
      exact Exists.intro _ (And.intro (fun _ _ h => h.conv (inv := [(0, 0)]) (vk := []) (e0 := []) (t := ⟨[], [(0, some (.row 2 36 (x120.map eBucket)))], 1⟩) (by kernel_rfl)) (And.intro rfl rfl))
  · obtain ⟨x202, rfl⟩ : ∃ z, z = o203 := ⟨_, rfl⟩
    rintro e s ⟨rfl, rfl⟩
    obtain rfl := Option.some.inj H
    exact Exists.intro ⟨[], [(0, some (.row 2 36 (x202.map eBucket)))], 1⟩ (And.intro (fun _ _ h => h.conv (inv := [(0, 0)]) (vk := []) (e0 := []) (t := ⟨[], [(0, some (.row 2 36 (x202.map eBucket)))], 1⟩) (by kernel_rfl)) (And.intro (.inr rfl) (And.intro rfl (And.intro (by kernel_rfl) (by kernel_rfl)))))
def f_slices_swapRangeCmpFunc_api_Bucket_hist_tidy_1.l0 (a1 : Int) (a2 : Int) (a3 : Int) (x470 : List TBucket) (x471 : Int) : Option (List TBucket) := if (decide (x471 < a3)) = true then ((at? x470 (IntKind.i64.wrap (a2 + x471))) >>= fun b482 => (at? x470 (IntKind.i64.wrap (a1 + x471))) >>= fun b485 => (at? (x470.set (Int.toNat (IntKind.i64.wrap (a1 + x471))) b482) (IntKind.i64.wrap (a2 + x471))) >>= fun b488 => f_slices_swapRangeCmpFunc_api_Bucket_hist_tidy_1.l0 a1 a2 a3 ((x470.set (Int.toNat (IntKind.i64.wrap (a1 + x471))) b482).set (Int.toNat (IntKind.i64.wrap (a2 + x471))) b485) (IntKind.i64.wrap (x471 + (1 : Int)))) else (some x470)
partial_fixpoint
def f_slices_swapRangeCmpFunc_api_Bucket_hist_tidy_1.f (a0 : List TBucket) (a1 : Int) (a2 : Int) (a3 : Int) : Option (List TBucket) := (f_slices_swapRangeCmpFunc_api_Bucket_hist_tidy_1.l0 a1 a2 a3 a0 0) >>= fun x491 => some x491
theorem f_slices_swapRangeCmpFunc_api_Bucket_hist_tidy_1.ok (a0 : List TBucket) (a1 : Int) (a2 : Int) (a3 : Int) (r : List TBucket) (H : f_slices_swapRangeCmpFunc_api_Bucket_hist_tidy_1.f a0 a1 a2 a3 = some r) : Pv.Fn Try.prog 115 [.own 0, iV .i64 a1, iV .i64 a2, iV .i64 a3, .im (.sc (.func (.func 78) #[] #[]))] [(0, some (.row 2 36 (a0.map eBucket)))] 1 (fun x o => x = .tup [] ∧ o = [(0, some (.row 2 36 (r.map eBucket)))]) := by
  unfold f_slices_swapRangeCmpFunc_api_Bucket_hist_tidy_1.f at H
  refine Fn.bodyK [0] Try.func115 rfl rfl (fun Γ hP hn => ?_)
  have hm : Try.prog.follows .mixedOrders = true := by kernel_rfl
  replace hn : Γ.n = 38 := hn
  refine AWp.seq ?_
  refine reg hP hn hm [] [0, 1, 2, 3, 10] [0] ⟨[(0, .own 0), (1, iV .i64 a1), (2, iV .i64 a2), (3, iV .i64 a3), (10, iV .i64 0)], [(0, some (.row 2 36 (a0.map eBucket)))], 1⟩ [] (by kernel_rfl) trivial ?_
  refine AWp.block ?_
  obtain ⟨o492, e493, H⟩ := bind_of H
  refine AWp.loop (LWp.conv (inv := [(0, 0)]) (vk := []) (e0 := []) (t := ⟨[(0, .own 0), (1, iV .i64 a1), (2, iV .i64 a2), (3, iV .i64 a3), (10, iV .i64 0)], [(0, some (.row 2 36 (a0.map eBucket)))], 1⟩) (by kernel_rfl) ?_)
  refine LWp.mono (Q := fun e s => (match (generalizing := false) o492 with | x491 => e = .exit 0 ∧ s = ⟨[], [(0, some (.row 2 36 (x491.map eBucket)))], 1⟩)) (LWp.cv (withBody (fun body hbody => ?_))) ?_
  · refine f_slices_swapRangeCmpFunc_api_Bucket_hist_tidy_1.l0.partial_correctness a1 a2 a3 (motive := fun x470 x471 o492 => LWp Γ body (fun e s => ∃ t, Cv Γ s t ∧ (match (generalizing := false) o492 with | x491 => e = .exit 0 ∧ t = ⟨[], [(0, some (.row 2 36 (x491.map eBucket)))], 1⟩)) ⟨[(0, .own 0), (1, iV .i64 a1), (2, iV .i64 a2), (3, iV .i64 a3), (10, iV .i64 x471)], [(0, some (.row 2 36 (x470.map eBucket)))], 1⟩) ?_ _ _ _ e493
    clear H e493 o492; intro self ih x470 x471 o492 H
    subst hbody
    refine LWp.round ?_
    refine AWp.seq ?_
    refine AWp.seq ?_
    refine reg hP hn hm [] [0, 1, 2, 3, 10, 13] [0] ⟨[(0, .own 0), (1, iV .i64 a1), (2, iV .i64 a2), (3, iV .i64 a3), (10, iV .i64 x471), (13, bV (decide (x471 < a3)))], [(0, some (.row 2 36 (x470.map eBucket)))], 1⟩ [] (by kernel_rfl) trivial ?_
    refine AWp.cond (decide (x471 < a3)) rfl (fun c472 => ?_) (fun c472 => ?_)
    · replace H := (ifT c472).symm.trans H
      refine AWp.skip ?_
      refine AWp.seq ?_
      refine AWp.block ?_
      obtain ⟨b482, p483, q484, H⟩ := at_of H
      obtain ⟨b485, p486, q487, H⟩ := at_of H
      obtain ⟨b488, p489, q490, H⟩ := at_of H
      refine reg hP hn hm [(13, .c (eBucket b482)), (19, .c (eBucket b485)), (21, .put (eBucket b485) ((x470.set (Int.toNat (IntKind.i64.wrap (a1 + x471))) b482).map eBucket)), (23, .put (eBucket b488) (((x470.set (Int.toNat (IntKind.i64.wrap (a1 + x471))) b482).set (Int.toNat (IntKind.i64.wrap (a2 + x471))) b485).map eBucket))] [0, 1, 2, 3, 10] [0] ⟨[(0, .own 0), (1, iV .i64 a1), (2, iV .i64 a2), (3, iV .i64 a3), (10, iV .i64 x471)], [(0, some (.row 2 36 (((x470.set (Int.toNat (IntKind.i64.wrap (a1 + x471))) b482).set (Int.toNat (IntKind.i64.wrap (a2 + x471))) b485).map eBucket)))], 1⟩ [0 ≤ (IntKind.i64.wrap (a2 + x471)), IntKind.i64.wrap (a2 + x471) < (((x470.map eBucket).length : Nat) : Int), (x470.map eBucket)[(Int.toNat (IntKind.i64.wrap (a2 + x471)))]? = some (eBucket b482), 0 ≤ (IntKind.i64.wrap (a1 + x471)), IntKind.i64.wrap (a1 + x471) < (((x470.map eBucket).length : Nat) : Int), (x470.map eBucket)[(Int.toNat (IntKind.i64.wrap (a1 + x471)))]? = some (eBucket b485), 0 ≤ (IntKind.i64.wrap (a1 + x471)), IntKind.i64.wrap (a1 + x471) < (((x470.map eBucket).length : Nat) : Int), (x470.map eBucket)[(Int.toNat (IntKind.i64.wrap (a1 + x471)))]? = some (eBucket b485), (x470.set (Int.toNat (IntKind.i64.wrap (a1 + x471))) b482).map eBucket = (x470.map eBucket).set (Int.toNat (IntKind.i64.wrap (a1 + x471))) (splice (eBucket b485) 0 [iI .i64 b482.f0, iI .u64 b482.f1]), 0 ≤ (IntKind.i64.wrap (a2 + x471)), IntKind.i64.wrap (a2 + x471) < ((((x470.set (Int.toNat (IntKind.i64.wrap (a1 + x471))) b482).map eBucket).length : Nat) : Int), ((x470.set (Int.toNat (IntKind.i64.wrap (a1 + x471))) b482).map eBucket)[(Int.toNat (IntKind.i64.wrap (a2 + x471)))]? = some (eBucket b488), ((x470.set (Int.toNat (IntKind.i64.wrap (a1 + x471))) b482).set (Int.toNat (IntKind.i64.wrap (a2 + x471))) b485).map eBucket = ((x470.set (Int.toNat (IntKind.i64.wrap (a1 + x471))) b482).map eBucket).set (Int.toNat (IntKind.i64.wrap (a2 + x471))) (splice (eBucket b488) 0 [iI .i64 b485.f0, iI .u64 b485.f1])] (by kernel_rfl) ⟨by exact p483, by exact el_lt eBucket p483 q484, by exact el_map eBucket q484, by exact p486, by exact el_lt eBucket p486 q487, by exact el_map eBucket q487, by exact p486, by exact el_lt eBucket p486 q487, by exact el_map eBucket q487, by exact set1 _ _ _ _, by exact p489, by exact el_lt eBucket p489 q490, by exact el_map eBucket q490, by exact set1 _ _ _ _, trivial⟩ ?_
      refine reg hP hn hm [] [0, 1, 2, 3, 10] [0] ⟨[(0, .own 0), (1, iV .i64 a1), (2, iV .i64 a2), (3, iV .i64 a3), (10, iV .i64 (IntKind.i64.wrap (x471 + (1 : Int))))], [(0, some (.row 2 36 (((x470.set (Int.toNat (IntKind.i64.wrap (a1 + x471))) b482).set (Int.toNat (IntKind.i64.wrap (a2 + x471))) b485).map eBucket)))], 1⟩ [] (by kernel_rfl) trivial ?_
      exact LWp.conv (inv := [(0, 0)]) (vk := []) (e0 := []) (t := ⟨[(0, .own 0), (1, iV .i64 a1), (2, iV .i64 a2), (3, iV .i64 a3), (10, iV .i64 (IntKind.i64.wrap (x471 + (1 : Int))))], [(0, some (.row 2 36 (((x470.set (Int.toNat (IntKind.i64.wrap (a1 + x471))) b482).set (Int.toNat (IntKind.i64.wrap (a2 + x471))) b485).map eBucket)))], 1⟩) (by kernel_rfl) (ih _ _ _ H)
    · replace H := (ifF c472).symm.trans H
      refine AWp.exit ?_
      obtain rfl := Option.some.inj H
      exact Exists.intro _ (And.intro (fun _ _ h => h.conv (inv := [(0, 0)]) (vk := []) (e0 := []) (t := ⟨[], [(0, some (.row 2 36 (x470.map eBucket)))], 1⟩) (by kernel_rfl)) (And.intro rfl rfl))
  · obtain ⟨x491, rfl⟩ : ∃ z, z = o492 := ⟨_, rfl⟩
    rintro e s ⟨rfl, rfl⟩
    obtain rfl := Option.some.inj H
    exact Exists.intro ⟨[], [(0, some (.row 2 36 (x491.map eBucket)))], 1⟩ (And.intro (fun _ _ h => h.conv (inv := [(0, 0)]) (vk := []) (e0 := []) (t := ⟨[], [(0, some (.row 2 36 (x491.map eBucket)))], 1⟩) (by kernel_rfl)) (And.intro (.inr rfl) (And.intro rfl (And.intro (by kernel_rfl) (by kernel_rfl)))))
def f_slices_rotateCmpFunc_api_Bucket_hist_tidy_1.l0 (a2 : Int) (x505 : List TBucket) (x506 : Int) (x507 : Int) : Option ((List TBucket) × Int) := if (x506 != x507) = true then (((if (decide (x506 > x507)) = true then ((f_slices_swapRangeCmpFunc_api_Bucket_hist_tidy_1.f x505 (IntKind.i64.wrap (a2 - x506)) a2 x507) >>= fun t512 => some (t512, IntKind.i64.wrap (x506 - x507), x507)) else ((f_slices_swapRangeCmpFunc_api_Bucket_hist_tidy_1.f x505 (IntKind.i64.wrap (a2 - x506)) (IntKind.i64.wrap ((IntKind.i64.wrap (a2 + x507)) - x506)) x506) >>= fun t516 => some (t516, x506, IntKind.i64.wrap (x507 - x506)))) : Option ((List TBucket) × Int × Int)) >>= fun oo => match oo with | (x518, x519, x520) => (f_slices_rotateCmpFunc_api_Bucket_hist_tidy_1.l0 a2 x518 x519 x520)) else (some (x505, x506))
partial_fixpoint
def f_slices_rotateCmpFunc_api_Bucket_hist_tidy_1.f (a0 : List TBucket) (a1 : Int) (a2 : Int) (a3 : Int) : Option (List TBucket) := (f_slices_rotateCmpFunc_api_Bucket_hist_tidy_1.l0 a2 a0 (IntKind.i64.wrap (a2 - a1)) (IntKind.i64.wrap (a3 - a2))) >>= fun oo => match oo with | (x521, x522) => ((f_slices_swapRangeCmpFunc_api_Bucket_hist_tidy_1.f x521 (IntKind.i64.wrap (a2 - x522)) a2 x522) >>= fun t525 => some t525)
theorem f_slices_rotateCmpFunc_api_Bucket_hist_tidy_1.ok (a0 : List TBucket) (a1 : Int) (a2 : Int) (a3 : Int) (r : List TBucket) (H : f_slices_rotateCmpFunc_api_Bucket_hist_tidy_1.f a0 a1 a2 a3 = some r) : Pv.Fn Try.prog 111 [.own 0, iV .i64 a1, iV .i64 a2, iV .i64 a3, .im (.sc (.func (.func 78) #[] #[]))] [(0, some (.row 2 36 (a0.map eBucket)))] 1 (fun x o => x = .tup [] ∧ o = [(0, some (.row 2 36 (r.map eBucket)))]) := by
  unfold f_slices_rotateCmpFunc_api_Bucket_hist_tidy_1.f at H
  refine Fn.bodyK [0] Try.func111 rfl rfl (fun Γ hP hn => ?_)
  have hm : Try.prog.follows .mixedOrders = true := by kernel_rfl
  replace hn : Γ.n = 58 := hn
  refine AWp.seq ?_
  refine reg hP hn hm [] [0, 2, 3, 4, 10] [0] ⟨[(0, .own 0), (2, iV .i64 a2), (3, iV .i64 a3), (4, .im (.sc (.func (.func 78) #[] #[]))), (10, iV .i64 (IntKind.i64.wrap (a2 - a1)))], [(0, some (.row 2 36 (a0.map eBucket)))], 1⟩ [] (by kernel_rfl) trivial ?_
  refine AWp.seq ?_
  refine reg hP hn hm [] [0, 2, 4, 10, 11] [0] ⟨[(0, .own 0), (2, iV .i64 a2), (4, .im (.sc (.func (.func 78) #[] #[]))), (10, iV .i64 (IntKind.i64.wrap (a2 - a1))), (11, iV .i64 (IntKind.i64.wrap (a3 - a2)))], [(0, some (.row 2 36 (a0.map eBucket)))], 1⟩ [] (by kernel_rfl) trivial ?_
  refine AWp.seq ?_
  refine AWp.block ?_
  obtain ⟨o527, e528, H⟩ := bind_of H
  refine AWp.loop (LWp.conv (inv := [(0, 0)]) (vk := []) (e0 := []) (t := ⟨[(0, .own 0), (2, iV .i64 a2), (4, .im (.sc (.func (.func 78) #[] #[]))), (10, iV .i64 (IntKind.i64.wrap (a2 - a1))), (11, iV .i64 (IntKind.i64.wrap (a3 - a2)))], [(0, some (.row 2 36 (a0.map eBucket)))], 1⟩) (by kernel_rfl) ?_)
  refine LWp.mono (Q := fun e s => (match (generalizing := false) o527 with | (x521, x522) => e = .exit 0 ∧ s = ⟨[(0, .own 0), (2, iV .i64 a2), (4, .im (.sc (.func (.func 78) #[] #[]))), (10, iV .i64 x522)], [(0, some (.row 2 36 (x521.map eBucket)))], 1⟩)) (LWp.cv (withBody (fun body hbody => ?_))) ?_
  · refine f_slices_rotateCmpFunc_api_Bucket_hist_tidy_1.l0.partial_correctness a2 (motive := fun x505 x506 x507 o527 => LWp Γ body (fun e s => ∃ t, Cv Γ s t ∧ (match (generalizing := false) o527 with | (x521, x522) => e = .exit 0 ∧ t = ⟨[(0, .own 0), (2, iV .i64 a2), (4, .im (.sc (.func (.func 78) #[] #[]))), (10, iV .i64 x522)], [(0, some (.row 2 36 (x521.map eBucket)))], 1⟩)) ⟨[(0, .own 0), (2, iV .i64 a2), (4, .im (.sc (.func (.func 78) #[] #[]))), (10, iV .i64 x506), (11, iV .i64 x507)], [(0, some (.row 2 36 (x505.map eBucket)))], 1⟩) ?_ _ _ _ _ e528
    clear H e528 o527; intro self ih x505 x506 x507 o527 H
    subst hbody
    refine LWp.round ?_
    refine AWp.seq ?_
    refine AWp.seq ?_
    refine reg hP hn hm [] [0, 2, 4, 10, 11, 20] [0] ⟨[(0, .own 0), (2, iV .i64 a2), (4, .im (.sc (.func (.func 78) #[] #[]))), (10, iV .i64 x506), (11, iV .i64 x507), (20, bV (x506 != x507))], [(0, some (.row 2 36 (x505.map eBucket)))], 1⟩ [] (by kernel_rfl) trivial ?_
    refine AWp.cond (x506 != x507) rfl (fun c508 => ?_) (fun c508 => ?_)
    · replace H := (ifT c508).symm.trans H
      refine AWp.skip ?_
      refine AWp.block ?_
      refine AWp.seq ?_
      refine reg hP hn hm [] [0, 2, 4, 10, 11, 23] [0] ⟨[(0, .own 0), (2, iV .i64 a2), (4, .im (.sc (.func (.func 78) #[] #[]))), (10, iV .i64 x506), (11, iV .i64 x507), (23, bV (decide (x506 > x507)))], [(0, some (.row 2 36 (x505.map eBucket)))], 1⟩ [] (by kernel_rfl) trivial ?_
      obtain ⟨o529, e530, H⟩ := bind_of H
      refine AWp.mono (Q := fun e s => (match (generalizing := false) o529 with | (x518, x519, x520) => e = .normal ∧ s = ⟨[(0, .own 0), (2, iV .i64 a2), (4, .im (.sc (.func (.func 78) #[] #[]))), (10, iV .i64 x519), (11, iV .i64 x520)], [(0, some (.row 2 36 (x518.map eBucket)))], 1⟩)) (AWp.cv ?_) ?_
      · replace H := e530; clear e530
        refine AWp.cond (decide (x506 > x507)) rfl (fun c509 => ?_) (fun c509 => ?_)
        · replace H := (ifT c509).symm.trans H
          refine AWp.seq ?_
          obtain ⟨t512, e513, H⟩ := bind_of H
          refine reg hP hn hm [(7, .call [(0, 0)] [(0, 0)] [] [] 1 (.tup []) [(0, some (.row 2 36 (t512.map eBucket)))])] [0, 2, 4, 10, 11] [0] ⟨[(0, .own 0), (2, iV .i64 a2), (4, .im (.sc (.func (.func 78) #[] #[]))), (10, iV .i64 x506), (11, iV .i64 x507)], [(0, some (.row 2 36 (t512.map eBucket)))], 1⟩ [Enters Try.prog 115, Pv.Fn Try.prog 115 [.own 0, iV .i64 (IntKind.i64.wrap (a2 - x506)), iV .i64 a2, iV .i64 x507, .im (.sc (.func (.func 78) #[] #[]))] [(0, some (.row 2 36 (x505.map eBucket)))] 1 (fun r o => r = .tup [] ∧ o = [(0, some (.row 2 36 (t512.map eBucket)))])] (by kernel_rfl) ⟨by exact Try.call115, by exact f_slices_swapRangeCmpFunc_api_Bucket_hist_tidy_1.ok x505 (IntKind.i64.wrap (a2 - x506)) a2 x507 t512 e513, trivial⟩ ?_
          refine reg hP hn hm [] [0, 2, 4, 10, 11] [0] ⟨[(0, .own 0), (2, iV .i64 a2), (4, .im (.sc (.func (.func 78) #[] #[]))), (10, iV .i64 (IntKind.i64.wrap (x506 - x507))), (11, iV .i64 x507)], [(0, some (.row 2 36 (t512.map eBucket)))], 1⟩ [] (by kernel_rfl) trivial ?_
          obtain rfl := Option.some.inj H
          exact Exists.intro _ (And.intro (fun _ _ h => h.conv (inv := [(0, 0)]) (vk := []) (e0 := []) (t := ⟨[(0, .own 0), (2, iV .i64 a2), (4, .im (.sc (.func (.func 78) #[] #[]))), (10, iV .i64 (IntKind.i64.wrap (x506 - x507))), (11, iV .i64 x507)], [(0, some (.row 2 36 (t512.map eBucket)))], 1⟩) (by kernel_rfl)) (And.intro rfl rfl))
        · replace H := (ifF c509).symm.trans H
          refine AWp.seq ?_
          obtain ⟨t516, e517, H⟩ := bind_of H
          refine reg hP hn hm [(11, .call [(0, 0)] [(0, 0)] [] [] 1 (.tup []) [(0, some (.row 2 36 (t516.map eBucket)))])] [0, 2, 4, 10, 11] [0] ⟨[(0, .own 0), (2, iV .i64 a2), (4, .im (.sc (.func (.func 78) #[] #[]))), (10, iV .i64 x506), (11, iV .i64 x507)], [(0, some (.row 2 36 (t516.map eBucket)))], 1⟩ [Enters Try.prog 115, Pv.Fn Try.prog 115 [.own 0, iV .i64 (IntKind.i64.wrap (a2 - x506)), iV .i64 (IntKind.i64.wrap ((IntKind.i64.wrap (a2 + x507)) - x506)), iV .i64 x506, .im (.sc (.func (.func 78) #[] #[]))] [(0, some (.row 2 36 (x505.map eBucket)))] 1 (fun r o => r = .tup [] ∧ o = [(0, some (.row 2 36 (t516.map eBucket)))])] (by kernel_rfl) ⟨by exact Try.call115, by exact f_slices_swapRangeCmpFunc_api_Bucket_hist_tidy_1.ok x505 (IntKind.i64.wrap (a2 - x506)) (IntKind.i64.wrap ((IntKind.i64.wrap (a2 + x507)) - x506)) x506 t516 e517, trivial⟩ ?_
          refine reg hP hn hm [] [0, 2, 4, 10, 11] [0] ⟨[(0, .own 0), (2, iV .i64 a2), (4, .im (.sc (.func (.func 78) #[] #[]))), (10, iV .i64 x506), (11, iV .i64 (IntKind.i64.wrap (x507 - x506)))], [(0, some (.row 2 36 (t516.map eBucket)))], 1⟩ [] (by kernel_rfl) trivial ?_
          obtain rfl := Option.some.inj H
          exact Exists.intro _ (And.intro (fun _ _ h => h.conv (inv := [(0, 0)]) (vk := []) (e0 := []) (t := ⟨[(0, .own 0), (2, iV .i64 a2), (4, .im (.sc (.func (.func 78) #[] #[]))), (10, iV .i64 x506), (11, iV .i64 (IntKind.i64.wrap (x507 - x506)))], [(0, some (.row 2 36 (t516.map eBucket)))], 1⟩) (by kernel_rfl)) (And.intro rfl rfl))
      · obtain ⟨x518, x519, x520⟩ := o529
        rintro e s ⟨rfl, rfl⟩
        exact LWp.conv (inv := [(0, 0)]) (vk := []) (e0 := []) (t := ⟨[(0, .own 0), (2, iV .i64 a2), (4, .im (.sc (.func (.func 78) #[] #[]))), (10, iV .i64 x519), (11, iV .i64 x520)], [(0, some (.row 2 36 (x518.map eBucket)))], 1⟩) (by kernel_rfl) (ih _ _ _ _ H)
    · replace H := (ifF c508).symm.trans H
      refine AWp.exit ?_
      obtain rfl := Option.some.inj H
      exact Exists.intro _ (And.intro (fun _ _ h => h.conv (inv := [(0, 0)]) (vk := []) (e0 := []) (t := ⟨[(0, .own 0), (2, iV .i64 a2), (4, .im (.sc (.func (.func 78) #[] #[]))), (10, iV .i64 x506)], [(0, some (.row 2 36 (x505.map eBucket)))], 1⟩) (by kernel_rfl)) (And.intro rfl rfl))
  · obtain ⟨x521, x522⟩ := o527
    rintro e s ⟨rfl, rfl⟩
    obtain ⟨t525, e526, H⟩ := bind_of H
    refine reg hP hn hm [(7, .call [(0, 0)] [(0, 0)] [] [] 1 (.tup []) [(0, some (.row 2 36 (t525.map eBucket)))])] [] [0] ⟨[], [(0, some (.row 2 36 (t525.map eBucket)))], 1⟩ [Enters Try.prog 115, Pv.Fn Try.prog 115 [.own 0, iV .i64 (IntKind.i64.wrap (a2 - x522)), iV .i64 a2, iV .i64 x522, .im (.sc (.func (.func 78) #[] #[]))] [(0, some (.row 2 36 (x521.map eBucket)))] 1 (fun r o => r = .tup [] ∧ o = [(0, some (.row 2 36 (t525.map eBucket)))])] (by kernel_rfl) ⟨by exact Try.call115, by exact f_slices_swapRangeCmpFunc_api_Bucket_hist_tidy_1.ok x521 (IntKind.i64.wrap (a2 - x522)) a2 x522 t525 e526, trivial⟩ ?_
    obtain rfl := Option.some.inj H
    exact Exists.intro ⟨[], [(0, some (.row 2 36 (t525.map eBucket)))], 1⟩ (And.intro (fun _ _ h => h.conv (inv := [(0, 0)]) (vk := []) (e0 := []) (t := ⟨[], [(0, some (.row 2 36 (t525.map eBucket)))], 1⟩) (by kernel_rfl)) (And.intro (.inr rfl) (And.intro rfl (And.intro (by kernel_rfl) (by kernel_rfl)))))
def f_slices_symMergeCmpFunc_api_Bucket_hist_tidy_1.l0 (a0 : List TBucket) (a1 : Int) (x250 : Int) (x251 : Int) : Option (Int) := if (decide (x250 < x251)) = true then ((at? a0 (IntKind.i64.wrap (Int.fdiv (IntKind.u64.wrap (IntKind.i64.wrap (x250 + x251))) 2))) >>= fun b261 => (at? a0 a1) >>= fun b264 => (f_hist_tidy_1.f b261 b264) >>= fun t267 => ((if (decide (t267 < (0 : Int))) = true then (some (IntKind.i64.wrap ((IntKind.i64.wrap (Int.fdiv (IntKind.u64.wrap (IntKind.i64.wrap (x250 + x251))) 2)) + (1 : Int)), x251)) else (some (x250, IntKind.i64.wrap (Int.fdiv (IntKind.u64.wrap (IntKind.i64.wrap (x250 + x251))) 2)))) : Option (Int × Int)) >>= fun oo => match oo with | (x270, x271) => (f_slices_symMergeCmpFunc_api_Bucket_hist_tidy_1.l0 a0 a1 x270 x271)) else (some x250)
partial_fixpoint
def f_slices_symMergeCmpFunc_api_Bucket_hist_tidy_1.l1 (x272 : Int) (x292 : List TBucket) (x293 : Int) : Option (List TBucket) := if (decide (x293 < (IntKind.i64.wrap (x272 - (1 : Int))))) = true then ((at? x292 (IntKind.i64.wrap (x293 + (1 : Int)))) >>= fun b304 => (at? x292 x293) >>= fun b307 => (at? (x292.set (Int.toNat (x293)) b304) (IntKind.i64.wrap (x293 + (1 : Int)))) >>= fun b310 => f_slices_symMergeCmpFunc_api_Bucket_hist_tidy_1.l1 x272 ((x292.set (Int.toNat (x293)) b304).set (Int.toNat (IntKind.i64.wrap (x293 + (1 : Int)))) b307) (IntKind.i64.wrap (x293 + (1 : Int)))) else (some x292)
partial_fixpoint
def f_slices_symMergeCmpFunc_api_Bucket_hist_tidy_1.l2 (a0 : List TBucket) (a2 : Int) (x335 : Int) (x336 : Int) : Option (Int) := if (decide (x335 < x336)) = true then ((at? a0 a2) >>= fun b346 => (at? a0 (IntKind.i64.wrap (Int.fdiv (IntKind.u64.wrap (IntKind.i64.wrap (x335 + x336))) 2))) >>= fun b349 => (f_hist_tidy_1.f b346 b349) >>= fun t352 => ((if (!(decide (t352 < (0 : Int)))) = true then (some (IntKind.i64.wrap ((IntKind.i64.wrap (Int.fdiv (IntKind.u64.wrap (IntKind.i64.wrap (x335 + x336))) 2)) + (1 : Int)), x336)) else (some (x335, IntKind.i64.wrap (Int.fdiv (IntKind.u64.wrap (IntKind.i64.wrap (x335 + x336))) 2)))) : Option (Int × Int)) >>= fun oo => match oo with | (x355, x356) => (f_slices_symMergeCmpFunc_api_Bucket_hist_tidy_1.l2 a0 a2 x355 x356)) else (some x335)
partial_fixpoint
def f_slices_symMergeCmpFunc_api_Bucket_hist_tidy_1.l3 (x357 : Int) (x377 : List TBucket) (x378 : Int) : Option (List TBucket) := if (decide (x378 > x357)) = true then ((at? x377 (IntKind.i64.wrap (x378 - (1 : Int)))) >>= fun b389 => (at? x377 x378) >>= fun b392 => (at? (x377.set (Int.toNat (x378)) b389) (IntKind.i64.wrap (x378 - (1 : Int)))) >>= fun b395 => f_slices_symMergeCmpFunc_api_Bucket_hist_tidy_1.l3 x357 ((x377.set (Int.toNat (x378)) b389).set (Int.toNat (IntKind.i64.wrap (x378 - (1 : Int)))) b392) (IntKind.i64.wrap (x378 - (1 : Int)))) else (some x377)
partial_fixpoint
def f_slices_symMergeCmpFunc_api_Bucket_hist_tidy_1.l4 (a0 : List TBucket) (a1 : Int) (a2 : Int) (a3 : Int) (x422 : Int) (x423 : Int) : Option (Int) := if (decide (x422 < x423)) = true then ((at? a0 (IntKind.i64.wrap ((IntKind.i64.wrap ((IntKind.i64.wrap ((IntKind.i64.wrap (Int.fdiv (IntKind.u64.wrap (IntKind.i64.wrap (a1 + a3))) 2)) + a2)) - (1 : Int))) - (IntKind.i64.wrap (Int.fdiv (IntKind.u64.wrap (IntKind.i64.wrap (x422 + x423))) 2))))) >>= fun b433 => (at? a0 (IntKind.i64.wrap (Int.fdiv (IntKind.u64.wrap (IntKind.i64.wrap (x422 + x423))) 2))) >>= fun b436 => (f_hist_tidy_1.f b433 b436) >>= fun t439 => ((if (!(decide (t439 < (0 : Int)))) = true then (some (IntKind.i64.wrap ((IntKind.i64.wrap (Int.fdiv (IntKind.u64.wrap (IntKind.i64.wrap (x422 + x423))) 2)) + (1 : Int)), x423)) else (some (x422, IntKind.i64.wrap (Int.fdiv (IntKind.u64.wrap (IntKind.i64.wrap (x422 + x423))) 2)))) : Option (Int × Int)) >>= fun oo => match oo with | (x442, x443) => (f_slices_symMergeCmpFunc_api_Bucket_hist_tidy_1.l4 a0 a1 a2 a3 x442 x443)) else (some x422)
partial_fixpoint
def f_slices_symMergeCmpFunc_api_Bucket_hist_tidy_1.f (a0 : List TBucket) (a1 : Int) (a2 : Int) (a3 : Int) : Option (List TBucket) := if ((IntKind.i64.wrap (a2 - a1)) == (1 : Int)) = true then ((f_slices_symMergeCmpFunc_api_Bucket_hist_tidy_1.l0 a0 a1 a2 a3) >>= fun x272 => (f_slices_symMergeCmpFunc_api_Bucket_hist_tidy_1.l1 x272 a0 a1) >>= fun x313 => some x313) else (if ((IntKind.i64.wrap (a3 - a2)) == (1 : Int)) = true then ((f_slices_symMergeCmpFunc_api_Bucket_hist_tidy_1.l2 a0 a2 a1 a2) >>= fun x357 => (f_slices_symMergeCmpFunc_api_Bucket_hist_tidy_1.l3 x357 a0 a2) >>= fun x398 => some x398) else (((if (decide (a2 > (IntKind.i64.wrap (Int.fdiv (IntKind.u64.wrap (IntKind.i64.wrap (a1 + a3))) 2)))) = true then (some (IntKind.i64.wrap ((IntKind.i64.wrap ((IntKind.i64.wrap (Int.fdiv (IntKind.u64.wrap (IntKind.i64.wrap (a1 + a3))) 2)) + a2)) - a3), IntKind.i64.wrap (Int.fdiv (IntKind.u64.wrap (IntKind.i64.wrap (a1 + a3))) 2))) else (some (a1, a2))) : Option (Int × Int)) >>= fun oo => match oo with | (x400, x401) => ((f_slices_symMergeCmpFunc_api_Bucket_hist_tidy_1.l4 a0 a1 a2 a3 x400 x401) >>= fun x444 => ((if (decide (x444 < a2)) = true then (some (decide (a2 < (IntKind.i64.wrap ((IntKind.i64.wrap ((IntKind.i64.wrap (Int.fdiv (IntKind.u64.wrap (IntKind.i64.wrap (a1 + a3))) 2)) + a2)) - x444))))) else (some false)) : Option (Bool)) >>= fun x447 => ((if x447 = true then ((f_slices_rotateCmpFunc_api_Bucket_hist_tidy_1.f a0 x444 a2 (IntKind.i64.wrap ((IntKind.i64.wrap ((IntKind.i64.wrap (Int.fdiv (IntKind.u64.wrap (IntKind.i64.wrap (a1 + a3))) 2)) + a2)) - x444))) >>= fun t533 => some t533) else (some a0)) : Option (List TBucket)) >>= fun x535 => ((if (decide (a1 < x444)) = true then (some (decide (x444 < (IntKind.i64.wrap (Int.fdiv (IntKind.u64.wrap (IntKind.i64.wrap (a1 + a3))) 2))))) else (some false)) : Option (Bool)) >>= fun x538 => ((if x538 = true then ((f_slices_symMergeCmpFunc_api_Bucket_hist_tidy_1.f x535 a1 x444 (IntKind.i64.wrap (Int.fdiv (IntKind.u64.wrap (IntKind.i64.wrap (a1 + a3))) 2))) >>= fun t542 => some t542) else (some x535)) : Option (List TBucket)) >>= fun x544 => ((if (decide ((IntKind.i64.wrap (Int.fdiv (IntKind.u64.wrap (IntKind.i64.wrap (a1 + a3))) 2)) < (IntKind.i64.wrap ((IntKind.i64.wrap ((IntKind.i64.wrap (Int.fdiv (IntKind.u64.wrap (IntKind.i64.wrap (a1 + a3))) 2)) + a2)) - x444)))) = true then (some (decide ((IntKind.i64.wrap ((IntKind.i64.wrap ((IntKind.i64.wrap (Int.fdiv (IntKind.u64.wrap (IntKind.i64.wrap (a1 + a3))) 2)) + a2)) - x444)) < a3))) else (some false)) : Option (Bool)) >>= fun x547 => ((if x547 = true then ((f_slices_symMergeCmpFunc_api_Bucket_hist_tidy_1.f x544 (IntKind.i64.wrap (Int.fdiv (IntKind.u64.wrap (IntKind.i64.wrap (a1 + a3))) 2)) (IntKind.i64.wrap ((IntKind.i64.wrap ((IntKind.i64.wrap (Int.fdiv (IntKind.u64.wrap (IntKind.i64.wrap (a1 + a3))) 2)) + a2)) - x444)) a3) >>= fun t551 => some t551) else (some x544)) : Option (List TBucket)) >>= fun x553 => some x553)))
partial_fixpoint
theorem f_slices_symMergeCmpFunc_api_Bucket_hist_tidy_1.ok (a0 : List TBucket) (a1 : Int) (a2 : Int) (a3 : Int) (r : List TBucket) (H : f_slices_symMergeCmpFunc_api_Bucket_hist_tidy_1.f a0 a1 a2 a3 = some r) : Pv.Fn Try.prog 103 [.own 0, iV .i64 a1, iV .i64 a2, iV .i64 a3, .im (.sc (.func (.func 78) #[] #[]))] [(0, some (.row 2 36 (a0.map eBucket)))] 1 (fun x o => x = .tup [] ∧ o = [(0, some (.row 2 36 (r.map eBucket)))]) := by
  refine f_slices_symMergeCmpFunc_api_Bucket_hist_tidy_1.f.partial_correctness (motive := fun a0 a1 a2 a3 r => Pv.Fn Try.prog 103 [.own 0, iV .i64 a1, iV .i64 a2, iV .i64 a3, .im (.sc (.func (.func 78) #[] #[]))] [(0, some (.row 2 36 (a0.map eBucket)))] 1 (fun x o => x = .tup [] ∧ o = [(0, some (.row 2 36 (r.map eBucket)))])) ?_ a0 a1 a2 a3 r H
  clear H a0 a1 a2 a3 r; intro self ih a0 a1 a2 a3 r H
  refine Fn.bodyK [0] Try.func103 rfl rfl (fun Γ hP hn => ?_)
  have hm : Try.prog.follows .mixedOrders = true := by kernel_rfl
  replace hn : Γ.n = 220 := hn
  refine AWp.seq ?_
  refine AWp.seq ?_
  refine reg hP hn hm [] [0, 1, 2, 3, 4, 28] [0] ⟨[(0, .own 0), (1, iV .i64 a1), (2, iV .i64 a2), (3, iV .i64 a3), (4, .im (.sc (.func (.func 78) #[] #[]))), (28, bV ((IntKind.i64.wrap (a2 - a1)) == (1 : Int)))], [(0, some (.row 2 36 (a0.map eBucket)))], 1⟩ [] (by kernel_rfl) trivial ?_
  refine AWp.cond ((IntKind.i64.wrap (a2 - a1)) == (1 : Int)) rfl (fun c229 => ?_) (fun c229 => ?_)
  · replace H := (ifT c229).symm.trans H
    refine AWp.seq ?_
    refine reg hP hn hm [] [0, 1, 3, 4, 10] [0] ⟨[(0, .own 0), (1, iV .i64 a1), (3, iV .i64 a3), (4, .im (.sc (.func (.func 78) #[] #[]))), (10, iV .i64 a2)], [(0, some (.row 2 36 (a0.map eBucket)))], 1⟩ [] (by kernel_rfl) trivial ?_
    refine AWp.seq ?_
    refine reg hP hn hm [] [0, 1, 4, 10, 11] [0] ⟨[(0, .own 0), (1, iV .i64 a1), (4, .im (.sc (.func (.func 78) #[] #[]))), (10, iV .i64 a2), (11, iV .i64 a3)], [(0, some (.row 2 36 (a0.map eBucket)))], 1⟩ [] (by kernel_rfl) trivial ?_
    refine AWp.seq ?_
    refine AWp.block ?_
    obtain ⟨o554, e555, H⟩ := bind_of H
    refine AWp.loop (LWp.conv (inv := [(0, 0)]) (vk := []) (e0 := []) (t := ⟨[(0, .own 0), (1, iV .i64 a1), (4, .im (.sc (.func (.func 78) #[] #[]))), (10, iV .i64 a2), (11, iV .i64 a3)], [(0, some (.row 2 36 (a0.map eBucket)))], 1⟩) (by kernel_rfl) ?_)
    refine LWp.mono (Q := fun e s => (match (generalizing := false) o554 with | x272 => e = .exit 0 ∧ s = ⟨[(0, .own 0), (1, iV .i64 a1), (10, iV .i64 x272)], [(0, some (.row 2 36 (a0.map eBucket)))], 1⟩)) (LWp.cv (withBody (fun body hbody => ?_))) ?_
    · refine f_slices_symMergeCmpFunc_api_Bucket_hist_tidy_1.l0.partial_correctness a0 a1 (motive := fun x250 x251 o554 => LWp Γ body (fun e s => ∃ t, Cv Γ s t ∧ (match (generalizing := false) o554 with | x272 => e = .exit 0 ∧ t = ⟨[(0, .own 0), (1, iV .i64 a1), (10, iV .i64 x272)], [(0, some (.row 2 36 (a0.map eBucket)))], 1⟩)) ⟨[(0, .own 0), (1, iV .i64 a1), (4, .im (.sc (.func (.func 78) #[] #[]))), (10, iV .i64 x250), (11, iV .i64 x251)], [(0, some (.row 2 36 (a0.map eBucket)))], 1⟩) ?_ _ _ _ e555
      clear H e555 o554; intro self ih x250 x251 o554 H
      subst hbody
      refine LWp.round ?_
      refine AWp.seq ?_
      refine AWp.seq ?_
      refine reg hP hn hm [] [0, 1, 4, 10, 11, 33] [0] ⟨[(0, .own 0), (1, iV .i64 a1), (4, .im (.sc (.func (.func 78) #[] #[]))), (10, iV .i64 x250), (11, iV .i64 x251), (33, bV (decide (x250 < x251)))], [(0, some (.row 2 36 (a0.map eBucket)))], 1⟩ [] (by kernel_rfl) trivial ?_
      refine AWp.cond (decide (x250 < x251)) rfl (fun c252 => ?_) (fun c252 => ?_)
      · replace H := (ifT c252).symm.trans H
        refine AWp.skip ?_
        refine AWp.block ?_
        refine AWp.seq ?_
        refine reg hP hn hm [] [0, 1, 4, 10, 11, 12] [0] ⟨[(0, .own 0), (1, iV .i64 a1), (4, .im (.sc (.func (.func 78) #[] #[]))), (10, iV .i64 x250), (11, iV .i64 x251), (12, iV .i64 (IntKind.i64.wrap (Int.fdiv (IntKind.u64.wrap (IntKind.i64.wrap (x250 + x251))) 2)))], [(0, some (.row 2 36 (a0.map eBucket)))], 1⟩ [(0 : Int) ≤ 1] (by kernel_rfl) ⟨by decide, trivial⟩ ?_
        refine AWp.seq ?_
        obtain ⟨b261, p262, q263, H⟩ := at_of H
        obtain ⟨b264, p265, q266, H⟩ := at_of H
        obtain ⟨t267, e268, H⟩ := bind_of H
        refine reg hP hn hm [(4, .c (eBucket b261)), (8, .c (eBucket b264)), (9, .call [] [] [] [] 0 (iV .i64 t267) [])] [0, 1, 4, 10, 11, 12, 50] [0] ⟨[(0, .own 0), (1, iV .i64 a1), (4, .im (.sc (.func (.func 78) #[] #[]))), (10, iV .i64 x250), (11, iV .i64 x251), (12, iV .i64 (IntKind.i64.wrap (Int.fdiv (IntKind.u64.wrap (IntKind.i64.wrap (x250 + x251))) 2))), (50, bV (decide (t267 < (0 : Int))))], [(0, some (.row 2 36 (a0.map eBucket)))], 1⟩ [0 ≤ (IntKind.i64.wrap (Int.fdiv (IntKind.u64.wrap (IntKind.i64.wrap (x250 + x251))) 2)), IntKind.i64.wrap (Int.fdiv (IntKind.u64.wrap (IntKind.i64.wrap (x250 + x251))) 2) < (((a0.map eBucket).length : Nat) : Int), (a0.map eBucket)[(Int.toNat (IntKind.i64.wrap (Int.fdiv (IntKind.u64.wrap (IntKind.i64.wrap (x250 + x251))) 2)))]? = some (eBucket b261), 0 ≤ a1, a1 < (((a0.map eBucket).length : Nat) : Int), (a0.map eBucket)[(Int.toNat (a1))]? = some (eBucket b264), Enters Try.prog 78, Pv.Fn Try.prog 78 [.agg [iV .i64 b261.f0, iV .u64 b261.f1], .agg [iV .i64 b264.f0, iV .u64 b264.f1]] [] 0 (fun r o => r = iV .i64 t267 ∧ o = [])] (by kernel_rfl) ⟨by exact p262, by exact el_lt eBucket p262 q263, by exact el_map eBucket q263, by exact p265, by exact el_lt eBucket p265 q266, by exact el_map eBucket q266, by exact Try.call78, by exact f_hist_tidy_1.ok b261 b264 t267 e268, trivial⟩ ?_
        obtain ⟨o556, e557, H⟩ := bind_of H
        refine AWp.mono (Q := fun e s => (match (generalizing := false) o556 with | (x270, x271) => e = .normal ∧ s = ⟨[(0, .own 0), (1, iV .i64 a1), (4, .im (.sc (.func (.func 78) #[] #[]))), (10, iV .i64 x270), (11, iV .i64 x271)], [(0, some (.row 2 36 (a0.map eBucket)))], 1⟩)) (AWp.cv ?_) ?_
        · replace H := e557; clear e557
          refine AWp.cond (decide (t267 < (0 : Int))) rfl (fun c269 => ?_) (fun c269 => ?_)
          · replace H := (ifT c269).symm.trans H
            refine reg hP hn hm [] [0, 1, 4, 10, 11] [0] ⟨[(0, .own 0), (1, iV .i64 a1), (4, .im (.sc (.func (.func 78) #[] #[]))), (10, iV .i64 (IntKind.i64.wrap ((IntKind.i64.wrap (Int.fdiv (IntKind.u64.wrap (IntKind.i64.wrap (x250 + x251))) 2)) + (1 : Int)))), (11, iV .i64 x251)], [(0, some (.row 2 36 (a0.map eBucket)))], 1⟩ [] (by kernel_rfl) trivial ?_
            obtain rfl := Option.some.inj H
            exact Exists.intro _ (And.intro (fun _ _ h => h.conv (inv := [(0, 0)]) (vk := []) (e0 := []) (t := ⟨[(0, .own 0), (1, iV .i64 a1), (4, .im (.sc (.func (.func 78) #[] #[]))), (10, iV .i64 (IntKind.i64.wrap ((IntKind.i64.wrap (Int.fdiv (IntKind.u64.wrap (IntKind.i64.wrap (x250 + x251))) 2)) + (1 : Int)))), (11, iV .i64 x251)], [(0, some (.row 2 36 (a0.map eBucket)))], 1⟩) (by kernel_rfl)) (And.intro rfl rfl))
          · replace H := (ifF c269).symm.trans H
            refine reg hP hn hm [] [0, 1, 4, 10, 11] [0] ⟨[(0, .own 0), (1, iV .i64 a1), (4, .im (.sc (.func (.func 78) #[] #[]))), (10, iV .i64 x250), (11, iV .i64 (IntKind.i64.wrap (Int.fdiv (IntKind.u64.wrap (IntKind.i64.wrap (x250 + x251))) 2)))], [(0, some (.row 2 36 (a0.map eBucket)))], 1⟩ [] (by kernel_rfl) trivial ?_
            obtain rfl := Option.some.inj H
            exact Exists.intro _ (And.intro (fun _ _ h => h.conv (inv := [(0, 0)]) (vk := []) (e0 := []) (t := ⟨[(0, .own 0), (1, iV .i64 a1), (4, .im (.sc (.func (.func 78) #[] #[]))), (10, iV .i64 x250), (11, iV .i64 (IntKind.i64.wrap (Int.fdiv (IntKind.u64.wrap (IntKind.i64.wrap (x250 + x251))) 2)))], [(0, some (.row 2 36 (a0.map eBucket)))], 1⟩) (by kernel_rfl)) (And.intro rfl rfl))
        · obtain ⟨x270, x271⟩ := o556
          rintro e s ⟨rfl, rfl⟩
          exact LWp.conv (inv := [(0, 0)]) (vk := []) (e0 := []) (t := ⟨[(0, .own 0), (1, iV .i64 a1), (4, .im (.sc (.func (.func 78) #[] #[]))), (10, iV .i64 x270), (11, iV .i64 x271)], [(0, some (.row 2 36 (a0.map eBucket)))], 1⟩) (by kernel_rfl) (ih _ _ _ H)
      · replace H := (ifF c252).symm.trans H
        refine AWp.exit ?_
        obtain rfl := Option.some.inj H
        exact Exists.intro _ (And.intro (fun _ _ h => h.conv (inv := [(0, 0)]) (vk := []) (e0 := []) (t := ⟨[(0, .own 0), (1, iV .i64 a1), (10, iV .i64 x250)], [(0, some (.row 2 36 (a0.map eBucket)))], 1⟩) (by kernel_rfl)) (And.intro rfl rfl))
    · obtain ⟨x272, rfl⟩ : ∃ z, z = o554 := ⟨_, rfl⟩
      rintro e s ⟨rfl, rfl⟩
      refine AWp.seq ?_
      refine AWp.seq ?_
      refine reg hP hn hm [] [0, 10, 13] [0] ⟨[(0, .own 0), (10, iV .i64 x272), (13, iV .i64 a1)], [(0, some (.row 2 36 (a0.map eBucket)))], 1⟩ [] (by kernel_rfl) trivial ?_
      refine AWp.block ?_
      obtain ⟨o558, e559, H⟩ := bind_of H
      refine AWp.loop (LWp.conv (inv := [(0, 0)]) (vk := []) (e0 := []) (t := ⟨[(0, .own 0), (10, iV .i64 x272), (13, iV .i64 a1)], [(0, some (.row 2 36 (a0.map eBucket)))], 1⟩) (by kernel_rfl) ?_)
      refine LWp.mono (Q := fun e s => (match (generalizing := false) o558 with | x313 => e = .exit 2 ∧ s = ⟨[], [(0, some (.row 2 36 (x313.map eBucket)))], 1⟩)) (LWp.cv (withBody (fun body hbody => ?_))) ?_
      · refine f_slices_symMergeCmpFunc_api_Bucket_hist_tidy_1.l1.partial_correctness x272 (motive := fun x292 x293 o558 => LWp Γ body (fun e s => ∃ t, Cv Γ s t ∧ (match (generalizing := false) o558 with | x313 => e = .exit 2 ∧ t = ⟨[], [(0, some (.row 2 36 (x313.map eBucket)))], 1⟩)) ⟨[(0, .own 0), (10, iV .i64 x272), (13, iV .i64 x293)], [(0, some (.row 2 36 (x292.map eBucket)))], 1⟩) ?_ _ _ _ e559
        clear H e559 o558; intro self ih x292 x293 o558 H
        subst hbody
        refine LWp.round ?_
        refine AWp.seq ?_
        refine AWp.seq ?_
        refine reg hP hn hm [] [0, 10, 13, 58] [0] ⟨[(0, .own 0), (10, iV .i64 x272), (13, iV .i64 x293), (58, bV (decide (x293 < (IntKind.i64.wrap (x272 - (1 : Int))))))], [(0, some (.row 2 36 (x292.map eBucket)))], 1⟩ [] (by kernel_rfl) trivial ?_
        refine AWp.cond (decide (x293 < (IntKind.i64.wrap (x272 - (1 : Int))))) rfl (fun c294 => ?_) (fun c294 => ?_)
        · replace H := (ifT c294).symm.trans H
          refine AWp.skip ?_
          refine AWp.seq ?_
          refine AWp.block ?_
          obtain ⟨b304, p305, q306, H⟩ := at_of H
          obtain ⟨b307, p308, q309, H⟩ := at_of H
          obtain ⟨b310, p311, q312, H⟩ := at_of H
          refine reg hP hn hm [(9, .c (eBucket b304)), (13, .c (eBucket b307)), (15, .put (eBucket b307) ((x292.set (Int.toNat (x293)) b304).map eBucket)), (17, .put (eBucket b310) (((x292.set (Int.toNat (x293)) b304).set (Int.toNat (IntKind.i64.wrap (x293 + (1 : Int)))) b307).map eBucket))] [0, 10, 13] [0] ⟨[(0, .own 0), (10, iV .i64 x272), (13, iV .i64 x293)], [(0, some (.row 2 36 (((x292.set (Int.toNat (x293)) b304).set (Int.toNat (IntKind.i64.wrap (x293 + (1 : Int)))) b307).map eBucket)))], 1⟩ [0 ≤ (IntKind.i64.wrap (x293 + (1 : Int))), IntKind.i64.wrap (x293 + (1 : Int)) < (((x292.map eBucket).length : Nat) : Int), (x292.map eBucket)[(Int.toNat (IntKind.i64.wrap (x293 + (1 : Int))))]? = some (eBucket b304), 0 ≤ x293, x293 < (((x292.map eBucket).length : Nat) : Int), (x292.map eBucket)[(Int.toNat (x293))]? = some (eBucket b307), 0 ≤ x293, x293 < (((x292.map eBucket).length : Nat) : Int), (x292.map eBucket)[(Int.toNat (x293))]? = some (eBucket b307), (x292.set (Int.toNat (x293)) b304).map eBucket = (x292.map eBucket).set (Int.toNat (x293)) (splice (eBucket b307) 0 [iI .i64 b304.f0, iI .u64 b304.f1]), 0 ≤ (IntKind.i64.wrap (x293 + (1 : Int))), IntKind.i64.wrap (x293 + (1 : Int)) < ((((x292.set (Int.toNat (x293)) b304).map eBucket).length : Nat) : Int), ((x292.set (Int.toNat (x293)) b304).map eBucket)[(Int.toNat (IntKind.i64.wrap (x293 + (1 : Int))))]? = some (eBucket b310), ((x292.set (Int.toNat (x293)) b304).set (Int.toNat (IntKind.i64.wrap (x293 + (1 : Int)))) b307).map eBucket = ((x292.set (Int.toNat (x293)) b304).map eBucket).set (Int.toNat (IntKind.i64.wrap (x293 + (1 : Int)))) (splice (eBucket b310) 0 [iI .i64 b307.f0, iI .u64 b307.f1])] (by kernel_rfl) ⟨by exact p305, by exact el_lt eBucket p305 q306, by exact el_map eBucket q306, by exact p308, by exact el_lt eBucket p308 q309, by exact el_map eBucket q309, by exact p308, by exact el_lt eBucket p308 q309, by exact el_map eBucket q309, by exact set1 _ _ _ _, by exact p311, by exact el_lt eBucket p311 q312, by exact el_map eBucket q312, by exact set1 _ _ _ _, trivial⟩ ?_
          refine reg hP hn hm [] [0, 10, 13] [0] ⟨[(0, .own 0), (10, iV .i64 x272), (13, iV .i64 (IntKind.i64.wrap (x293 + (1 : Int))))], [(0, some (.row 2 36 (((x292.set (Int.toNat (x293)) b304).set (Int.toNat (IntKind.i64.wrap (x293 + (1 : Int)))) b307).map eBucket)))], 1⟩ [] (by kernel_rfl) trivial ?_
          exact LWp.conv (inv := [(0, 0)]) (vk := []) (e0 := []) (t := ⟨[(0, .own 0), (10, iV .i64 x272), (13, iV .i64 (IntKind.i64.wrap (x293 + (1 : Int))))], [(0, some (.row 2 36 (((x292.set (Int.toNat (x293)) b304).set (Int.toNat (IntKind.i64.wrap (x293 + (1 : Int)))) b307).map eBucket)))], 1⟩) (by kernel_rfl) (ih _ _ _ H)
        · replace H := (ifF c294).symm.trans H
          refine AWp.exit ?_
          obtain rfl := Option.some.inj H
          exact Exists.intro _ (And.intro (fun _ _ h => h.conv (inv := [(0, 0)]) (vk := []) (e0 := []) (t := ⟨[], [(0, some (.row 2 36 (x292.map eBucket)))], 1⟩) (by kernel_rfl)) (And.intro rfl rfl))
      · obtain ⟨x313, rfl⟩ : ∃ z, z = o558 := ⟨_, rfl⟩
        rintro e s ⟨rfl, rfl⟩
        refine AWp.conv (inv := [(0, 0)]) (vk := []) (e0 := []) (t := ⟨[], [(0, some (.row 2 36 (x313.map eBucket)))], 1⟩) (by kernel_rfl) ?_
        refine AWp.ret ?_
        obtain rfl := Option.some.inj H
        exact Exists.intro _ (And.intro (fun _ _ h => h) (And.intro (.inl rfl) (And.intro rfl (And.intro (by kernel_rfl) (by kernel_rfl)))))
  · replace H := (ifF c229).symm.trans H
    refine AWp.skip ?_
    refine AWp.seq ?_
    refine AWp.seq ?_
    refine reg hP hn hm [] [0, 1, 2, 3, 4, 80] [0] ⟨[(0, .own 0), (1, iV .i64 a1), (2, iV .i64 a2), (3, iV .i64 a3), (4, .im (.sc (.func (.func 78) #[] #[]))), (80, bV ((IntKind.i64.wrap (a3 - a2)) == (1 : Int)))], [(0, some (.row 2 36 (a0.map eBucket)))], 1⟩ [] (by kernel_rfl) trivial ?_
    refine AWp.cond ((IntKind.i64.wrap (a3 - a2)) == (1 : Int)) rfl (fun c314 => ?_) (fun c314 => ?_)
    · replace H := (ifT c314).symm.trans H
      refine AWp.seq ?_
      refine reg hP hn hm [] [0, 2, 4, 14] [0] ⟨[(0, .own 0), (2, iV .i64 a2), (4, .im (.sc (.func (.func 78) #[] #[]))), (14, iV .i64 a1)], [(0, some (.row 2 36 (a0.map eBucket)))], 1⟩ [] (by kernel_rfl) trivial ?_
      refine AWp.seq ?_
      refine reg hP hn hm [] [0, 2, 4, 14, 15] [0] ⟨[(0, .own 0), (2, iV .i64 a2), (4, .im (.sc (.func (.func 78) #[] #[]))), (14, iV .i64 a1), (15, iV .i64 a2)], [(0, some (.row 2 36 (a0.map eBucket)))], 1⟩ [] (by kernel_rfl) trivial ?_
      refine AWp.seq ?_
      refine AWp.block ?_
      obtain ⟨o560, e561, H⟩ := bind_of H
      refine AWp.loop (LWp.conv (inv := [(0, 0)]) (vk := []) (e0 := []) (t := ⟨[(0, .own 0), (2, iV .i64 a2), (4, .im (.sc (.func (.func 78) #[] #[]))), (14, iV .i64 a1), (15, iV .i64 a2)], [(0, some (.row 2 36 (a0.map eBucket)))], 1⟩) (by kernel_rfl) ?_)
      refine LWp.mono (Q := fun e s => (match (generalizing := false) o560 with | x357 => e = .exit 4 ∧ s = ⟨[(0, .own 0), (2, iV .i64 a2), (14, iV .i64 x357)], [(0, some (.row 2 36 (a0.map eBucket)))], 1⟩)) (LWp.cv (withBody (fun body hbody => ?_))) ?_
      · refine f_slices_symMergeCmpFunc_api_Bucket_hist_tidy_1.l2.partial_correctness a0 a2 (motive := fun x335 x336 o560 => LWp Γ body (fun e s => ∃ t, Cv Γ s t ∧ (match (generalizing := false) o560 with | x357 => e = .exit 4 ∧ t = ⟨[(0, .own 0), (2, iV .i64 a2), (14, iV .i64 x357)], [(0, some (.row 2 36 (a0.map eBucket)))], 1⟩)) ⟨[(0, .own 0), (2, iV .i64 a2), (4, .im (.sc (.func (.func 78) #[] #[]))), (14, iV .i64 x335), (15, iV .i64 x336)], [(0, some (.row 2 36 (a0.map eBucket)))], 1⟩) ?_ _ _ _ e561
        clear H e561 o560; intro self ih x335 x336 o560 H
        subst hbody
        refine LWp.round ?_
        refine AWp.seq ?_
        refine AWp.seq ?_
        refine reg hP hn hm [] [0, 2, 4, 14, 15, 85] [0] ⟨[(0, .own 0), (2, iV .i64 a2), (4, .im (.sc (.func (.func 78) #[] #[]))), (14, iV .i64 x335), (15, iV .i64 x336), (85, bV (decide (x335 < x336)))], [(0, some (.row 2 36 (a0.map eBucket)))], 1⟩ [] (by kernel_rfl) trivial ?_
        refine AWp.cond (decide (x335 < x336)) rfl (fun c337 => ?_) (fun c337 => ?_)
        · replace H := (ifT c337).symm.trans H
          refine AWp.skip ?_
          refine AWp.block ?_
          refine AWp.seq ?_
          refine reg hP hn hm [] [0, 2, 4, 14, 15, 16] [0] ⟨[(0, .own 0), (2, iV .i64 a2), (4, .im (.sc (.func (.func 78) #[] #[]))), (14, iV .i64 x335), (15, iV .i64 x336), (16, iV .i64 (IntKind.i64.wrap (Int.fdiv (IntKind.u64.wrap (IntKind.i64.wrap (x335 + x336))) 2)))], [(0, some (.row 2 36 (a0.map eBucket)))], 1⟩ [(0 : Int) ≤ 1] (by kernel_rfl) ⟨by decide, trivial⟩ ?_
          refine AWp.seq ?_
          obtain ⟨b346, p347, q348, H⟩ := at_of H
          obtain ⟨b349, p350, q351, H⟩ := at_of H
          obtain ⟨t352, e353, H⟩ := bind_of H
          refine reg hP hn hm [(4, .c (eBucket b346)), (8, .c (eBucket b349)), (9, .call [] [] [] [] 0 (iV .i64 t352) [])] [0, 2, 4, 14, 15, 16, 103] [0] ⟨[(0, .own 0), (2, iV .i64 a2), (4, .im (.sc (.func (.func 78) #[] #[]))), (14, iV .i64 x335), (15, iV .i64 x336), (16, iV .i64 (IntKind.i64.wrap (Int.fdiv (IntKind.u64.wrap (IntKind.i64.wrap (x335 + x336))) 2))), (103, bV (!(decide (t352 < (0 : Int)))))], [(0, some (.row 2 36 (a0.map eBucket)))], 1⟩ [0 ≤ a2, a2 < (((a0.map eBucket).length : Nat) : Int), (a0.map eBucket)[(Int.toNat (a2))]? = some (eBucket b346), 0 ≤ (IntKind.i64.wrap (Int.fdiv (IntKind.u64.wrap (IntKind.i64.wrap (x335 + x336))) 2)), IntKind.i64.wrap (Int.fdiv (IntKind.u64.wrap (IntKind.i64.wrap (x335 + x336))) 2) < (((a0.map eBucket).length : Nat) : Int), (a0.map eBucket)[(Int.toNat (IntKind.i64.wrap (Int.fdiv (IntKind.u64.wrap (IntKind.i64.wrap (x335 + x336))) 2)))]? = some (eBucket b349), Enters Try.prog 78, Pv.Fn Try.prog 78 [.agg [iV .i64 b346.f0, iV .u64 b346.f1], .agg [iV .i64 b349.f0, iV .u64 b349.f1]] [] 0 (fun r o => r = iV .i64 t352 ∧ o = [])] (by kernel_rfl) ⟨by exact p347, by exact el_lt eBucket p347 q348, by exact el_map eBucket q348, by exact p350, by exact el_lt eBucket p350 q351, by exact el_map eBucket q351, by exact Try.call78, by exact f_hist_tidy_1.ok b346 b349 t352 e353, trivial⟩ ?_
          obtain ⟨o562, e563, H⟩ := bind_of H
          refine AWp.mono (Q := fun e s => (match (generalizing := false) o562 with | (x355, x356) => e = .normal ∧ s = ⟨[(0, .own 0), (2, iV .i64 a2), (4, .im (.sc (.func (.func 78) #[] #[]))), (14, iV .i64 x355), (15, iV .i64 x356)], [(0, some (.row 2 36 (a0.map eBucket)))], 1⟩)) (AWp.cv ?_) ?_
          · replace H := e563; clear e563
            refine AWp.cond (!(decide (t352 < (0 : Int)))) rfl (fun c354 => ?_) (fun c354 => ?_)
            · replace H := (ifT c354).symm.trans H
              refine reg hP hn hm [] [0, 2, 4, 14, 15] [0] ⟨[(0, .own 0), (2, iV .i64 a2), (4, .im (.sc (.func (.func 78) #[] #[]))), (14, iV .i64 (IntKind.i64.wrap ((IntKind.i64.wrap (Int.fdiv (IntKind.u64.wrap (IntKind.i64.wrap (x335 + x336))) 2)) + (1 : Int)))), (15, iV .i64 x336)], [(0, some (.row 2 36 (a0.map eBucket)))], 1⟩ [] (by kernel_rfl) trivial ?_
              obtain rfl := Option.some.inj H
              exact Exists.intro _ (And.intro (fun _ _ h => h.conv (inv := [(0, 0)]) (vk := []) (e0 := []) (t := ⟨[(0, .own 0), (2, iV .i64 a2), (4, .im (.sc (.func (.func 78) #[] #[]))), (14, iV .i64 (IntKind.i64.wrap ((IntKind.i64.wrap (Int.fdiv (IntKind.u64.wrap (IntKind.i64.wrap (x335 + x336))) 2)) + (1 : Int)))), (15, iV .i64 x336)], [(0, some (.row 2 36 (a0.map eBucket)))], 1⟩) (by kernel_rfl)) (And.intro rfl rfl))
            · replace H := (ifF c354).symm.trans H
              refine reg hP hn hm [] [0, 2, 4, 14, 15] [0] ⟨[(0, .own 0), (2, iV .i64 a2), (4, .im (.sc (.func (.func 78) #[] #[]))), (14, iV .i64 x335), (15, iV .i64 (IntKind.i64.wrap (Int.fdiv (IntKind.u64.wrap (IntKind.i64.wrap (x335 + x336))) 2)))], [(0, some (.row 2 36 (a0.map eBucket)))], 1⟩ [] (by kernel_rfl) trivial ?_
              obtain rfl := Option.some.inj H
              exact Exists.intro _ (And.intro (fun _ _ h => h.conv (inv := [(0, 0)]) (vk := []) (e0 := []) (t := ⟨[(0, .own 0), (2, iV .i64 a2), (4, .im (.sc (.func (.func 78) #[] #[]))), (14, iV .i64 x335), (15, iV .i64 (IntKind.i64.wrap (Int.fdiv (IntKind.u64.wrap (IntKind.i64.wrap (x335 + x336))) 2)))], [(0, some (.row 2 36 (a0.map eBucket)))], 1⟩) (by kernel_rfl)) (And.intro rfl rfl))
          · obtain ⟨x355, x356⟩ := o562
            rintro e s ⟨rfl, rfl⟩
            exact LWp.conv (inv := [(0, 0)]) (vk := []) (e0 := []) (t := ⟨[(0, .own 0), (2, iV .i64 a2), (4, .im (.sc (.func (.func 78) #[] #[]))), (14, iV .i64 x355), (15, iV .i64 x356)], [(0, some (.row 2 36 (a0.map eBucket)))], 1⟩) (by kernel_rfl) (ih _ _ _ H)
        · replace H := (ifF c337).symm.trans H
          refine AWp.exit ?_
          obtain rfl := Option.some.inj H
          exact Exists.intro _ (And.intro (fun _ _ h => h.conv (inv := [(0, 0)]) (vk := []) (e0 := []) (t := ⟨[(0, .own 0), (2, iV .i64 a2), (14, iV .i64 x335)], [(0, some (.row 2 36 (a0.map eBucket)))], 1⟩) (by kernel_rfl)) (And.intro rfl rfl))
      · obtain ⟨x357, rfl⟩ : ∃ z, z = o560 := ⟨_, rfl⟩
        rintro e s ⟨rfl, rfl⟩
        refine AWp.seq ?_
        refine AWp.seq ?_
        refine reg hP hn hm [] [0, 14, 17] [0] ⟨[(0, .own 0), (14, iV .i64 x357), (17, iV .i64 a2)], [(0, some (.row 2 36 (a0.map eBucket)))], 1⟩ [] (by kernel_rfl) trivial ?_
        refine AWp.block ?_
        obtain ⟨o564, e565, H⟩ := bind_of H
        refine AWp.loop (LWp.conv (inv := [(0, 0)]) (vk := []) (e0 := []) (t := ⟨[(0, .own 0), (14, iV .i64 x357), (17, iV .i64 a2)], [(0, some (.row 2 36 (a0.map eBucket)))], 1⟩) (by kernel_rfl) ?_)
        refine LWp.mono (Q := fun e s => (match (generalizing := false) o564 with | x398 => e = .exit 6 ∧ s = ⟨[], [(0, some (.row 2 36 (x398.map eBucket)))], 1⟩)) (LWp.cv (withBody (fun body hbody => ?_))) ?_
        · refine f_slices_symMergeCmpFunc_api_Bucket_hist_tidy_1.l3.partial_correctness x357 (motive := fun x377 x378 o564 => LWp Γ body (fun e s => ∃ t, Cv Γ s t ∧ (match (generalizing := false) o564 with | x398 => e = .exit 6 ∧ t = ⟨[], [(0, some (.row 2 36 (x398.map eBucket)))], 1⟩)) ⟨[(0, .own 0), (14, iV .i64 x357), (17, iV .i64 x378)], [(0, some (.row 2 36 (x377.map eBucket)))], 1⟩) ?_ _ _ _ e565
          clear H e565 o564; intro self ih x377 x378 o564 H
          subst hbody
          refine LWp.round ?_
          refine AWp.seq ?_
          refine AWp.seq ?_
          refine reg hP hn hm [] [0, 14, 17, 110] [0] ⟨[(0, .own 0), (14, iV .i64 x357), (17, iV .i64 x378), (110, bV (decide (x378 > x357)))], [(0, some (.row 2 36 (x377.map eBucket)))], 1⟩ [] (by kernel_rfl) trivial ?_
          refine AWp.cond (decide (x378 > x357)) rfl (fun c379 => ?_) (fun c379 => ?_)
          · replace H := (ifT c379).symm.trans H
            refine AWp.skip ?_
            refine AWp.seq ?_
            refine AWp.block ?_
            obtain ⟨b389, p390, q391, H⟩ := at_of H
            obtain ⟨b392, p393, q394, H⟩ := at_of H
            obtain ⟨b395, p396, q397, H⟩ := at_of H
            refine reg hP hn hm [(9, .c (eBucket b389)), (13, .c (eBucket b392)), (15, .put (eBucket b392) ((x377.set (Int.toNat (x378)) b389).map eBucket)), (17, .put (eBucket b395) (((x377.set (Int.toNat (x378)) b389).set (Int.toNat (IntKind.i64.wrap (x378 - (1 : Int)))) b392).map eBucket))] [0, 14, 17] [0] ⟨[(0, .own 0), (14, iV .i64 x357), (17, iV .i64 x378)], [(0, some (.row 2 36 (((x377.set (Int.toNat (x378)) b389).set (Int.toNat (IntKind.i64.wrap (x378 - (1 : Int)))) b392).map eBucket)))], 1⟩ [0 ≤ (IntKind.i64.wrap (x378 - (1 : Int))), IntKind.i64.wrap (x378 - (1 : Int)) < (((x377.map eBucket).length : Nat) : Int), (x377.map eBucket)[(Int.toNat (IntKind.i64.wrap (x378 - (1 : Int))))]? = some (eBucket b389), 0 ≤ x378, x378 < (((x377.map eBucket).length : Nat) : Int), (x377.map eBucket)[(Int.toNat (x378))]? = some (eBucket b392), 0 ≤ x378, x378 < (((x377.map eBucket).length : Nat) : Int), (x377.map eBucket)[(Int.toNat (x378))]? = some (eBucket b392), (x377.set (Int.toNat (x378)) b389).map eBucket = (x377.map eBucket).set (Int.toNat (x378)) (splice (eBucket b392) 0 [iI .i64 b389.f0, iI .u64 b389.f1]), 0 ≤ (IntKind.i64.wrap (x378 - (1 : Int))), IntKind.i64.wrap (x378 - (1 : Int)) < ((((x377.set (Int.toNat (x378)) b389).map eBucket).length : Nat) : Int), ((x377.set (Int.toNat (x378)) b389).map eBucket)[(Int.toNat (IntKind.i64.wrap (x378 - (1 : Int))))]? = some (eBucket b395), ((x377.set (Int.toNat (x378)) b389).set (Int.toNat (IntKind.i64.wrap (x378 - (1 : Int)))) b392).map eBucket = ((x377.set (Int.toNat (x378)) b389).map eBucket).set (Int.toNat (IntKind.i64.wrap (x378 - (1 : Int)))) (splice (eBucket b395) 0 [iI .i64 b392.f0, iI .u64 b392.f1])] (by kernel_rfl) ⟨by exact p390, by exact el_lt eBucket p390 q391, by exact el_map eBucket q391, by exact p393, by exact el_lt eBucket p393 q394, by exact el_map eBucket q394, by exact p393, by exact el_lt eBucket p393 q394, by exact el_map eBucket q394, by exact set1 _ _ _ _, by exact p396, by exact el_lt eBucket p396 q397, by exact el_map eBucket q397, by exact set1 _ _ _ _, trivial⟩ ?_
            refine reg hP hn hm [] [0, 14, 17] [0] ⟨[(0, .own 0), (14, iV .i64 x357), (17, iV .i64 (IntKind.i64.wrap (x378 - (1 : Int))))], [(0, some (.row 2 36 (((x377.set (Int.toNat (x378)) b389).set (Int.toNat (IntKind.i64.wrap (x378 - (1 : Int)))) b392).map eBucket)))], 1⟩ [] (by kernel_rfl) trivial ?_
            exact LWp.conv (inv := [(0, 0)]) (vk := []) (e0 := []) (t := ⟨[(0, .own 0), (14, iV .i64 x357), (17, iV .i64 (IntKind.i64.wrap (x378 - (1 : Int))))], [(0, some (.row 2 36 (((x377.set (Int.toNat (x378)) b389).set (Int.toNat (IntKind.i64.wrap (x378 - (1 : Int)))) b392).map eBucket)))], 1⟩) (by kernel_rfl) (ih _ _ _ H)
          · replace H := (ifF c379).symm.trans H
            refine AWp.exit ?_
            obtain rfl := Option.some.inj H
            exact Exists.intro _ (And.intro (fun _ _ h => h.conv (inv := [(0, 0)]) (vk := []) (e0 := []) (t := ⟨[], [(0, some (.row 2 36 (x377.map eBucket)))], 1⟩) (by kernel_rfl)) (And.intro rfl rfl))
        · obtain ⟨x398, rfl⟩ : ∃ z, z = o564 := ⟨_, rfl⟩
          rintro e s ⟨rfl, rfl⟩
          refine AWp.conv (inv := [(0, 0)]) (vk := []) (e0 := []) (t := ⟨[], [(0, some (.row 2 36 (x398.map eBucket)))], 1⟩) (by kernel_rfl) ?_
          refine AWp.ret ?_
          obtain rfl := Option.some.inj H
          exact Exists.intro _ (And.intro (fun _ _ h => h) (And.intro (.inl rfl) (And.intro rfl (And.intro (by kernel_rfl) (by kernel_rfl)))))
    · replace H := (ifF c314).symm.trans H
      refine AWp.skip ?_
      refine AWp.seq ?_
      refine reg hP hn hm [] [0, 1, 2, 3, 4, 18] [0] ⟨[(0, .own 0), (1, iV .i64 a1), (2, iV .i64 a2), (3, iV .i64 a3), (4, .im (.sc (.func (.func 78) #[] #[]))), (18, iV .i64 (IntKind.i64.wrap (Int.fdiv (IntKind.u64.wrap (IntKind.i64.wrap (a1 + a3))) 2)))], [(0, some (.row 2 36 (a0.map eBucket)))], 1⟩ [(0 : Int) ≤ 1] (by kernel_rfl) ⟨by decide, trivial⟩ ?_
      refine AWp.seq ?_
      refine reg hP hn hm [] [0, 1, 2, 3, 4, 18, 19] [0] ⟨[(0, .own 0), (1, iV .i64 a1), (2, iV .i64 a2), (3, iV .i64 a3), (4, .im (.sc (.func (.func 78) #[] #[]))), (18, iV .i64 (IntKind.i64.wrap (Int.fdiv (IntKind.u64.wrap (IntKind.i64.wrap (a1 + a3))) 2))), (19, iV .i64 (IntKind.i64.wrap ((IntKind.i64.wrap (Int.fdiv (IntKind.u64.wrap (IntKind.i64.wrap (a1 + a3))) 2)) + a2)))], [(0, some (.row 2 36 (a0.map eBucket)))], 1⟩ [] (by kernel_rfl) trivial ?_
      refine AWp.seq ?_
      refine reg hP hn hm [] [0, 1, 2, 3, 4, 18, 19] [0] ⟨[(0, .own 0), (1, iV .i64 a1), (2, iV .i64 a2), (3, iV .i64 a3), (4, .im (.sc (.func (.func 78) #[] #[]))), (18, iV .i64 (IntKind.i64.wrap (Int.fdiv (IntKind.u64.wrap (IntKind.i64.wrap (a1 + a3))) 2))), (19, iV .i64 (IntKind.i64.wrap ((IntKind.i64.wrap (Int.fdiv (IntKind.u64.wrap (IntKind.i64.wrap (a1 + a3))) 2)) + a2)))], [(0, some (.row 2 36 (a0.map eBucket)))], 1⟩ [] (by kernel_rfl) trivial ?_
      refine AWp.seq ?_
      refine AWp.seq ?_
      refine reg hP hn hm [] [0, 1, 2, 3, 4, 18, 19, 140] [0] ⟨[(0, .own 0), (1, iV .i64 a1), (2, iV .i64 a2), (3, iV .i64 a3), (4, .im (.sc (.func (.func 78) #[] #[]))), (18, iV .i64 (IntKind.i64.wrap (Int.fdiv (IntKind.u64.wrap (IntKind.i64.wrap (a1 + a3))) 2))), (19, iV .i64 (IntKind.i64.wrap ((IntKind.i64.wrap (Int.fdiv (IntKind.u64.wrap (IntKind.i64.wrap (a1 + a3))) 2)) + a2))), (140, bV (decide (a2 > (IntKind.i64.wrap (Int.fdiv (IntKind.u64.wrap (IntKind.i64.wrap (a1 + a3))) 2)))))], [(0, some (.row 2 36 (a0.map eBucket)))], 1⟩ [] (by kernel_rfl) trivial ?_
      obtain ⟨o566, e567, H⟩ := bind_of H
      refine AWp.mono (Q := fun e s => (match (generalizing := false) o566 with | (x400, x401) => e = .normal ∧ s = ⟨[(0, .own 0), (1, iV .i64 a1), (2, iV .i64 a2), (3, iV .i64 a3), (4, .im (.sc (.func (.func 78) #[] #[]))), (18, iV .i64 (IntKind.i64.wrap (Int.fdiv (IntKind.u64.wrap (IntKind.i64.wrap (a1 + a3))) 2))), (19, iV .i64 (IntKind.i64.wrap ((IntKind.i64.wrap (Int.fdiv (IntKind.u64.wrap (IntKind.i64.wrap (a1 + a3))) 2)) + a2))), (20, iV .i64 x400), (21, iV .i64 x401)], [(0, some (.row 2 36 (a0.map eBucket)))], 1⟩)) (AWp.cv ?_) ?_
      · replace H := e567; clear e567
        refine AWp.cond (decide (a2 > (IntKind.i64.wrap (Int.fdiv (IntKind.u64.wrap (IntKind.i64.wrap (a1 + a3))) 2)))) rfl (fun c399 => ?_) (fun c399 => ?_)
        · replace H := (ifT c399).symm.trans H
          refine AWp.seq ?_
          refine reg hP hn hm [] [0, 1, 2, 3, 4, 18, 19, 20] [0] ⟨[(0, .own 0), (1, iV .i64 a1), (2, iV .i64 a2), (3, iV .i64 a3), (4, .im (.sc (.func (.func 78) #[] #[]))), (18, iV .i64 (IntKind.i64.wrap (Int.fdiv (IntKind.u64.wrap (IntKind.i64.wrap (a1 + a3))) 2))), (19, iV .i64 (IntKind.i64.wrap ((IntKind.i64.wrap (Int.fdiv (IntKind.u64.wrap (IntKind.i64.wrap (a1 + a3))) 2)) + a2))), (20, iV .i64 (IntKind.i64.wrap ((IntKind.i64.wrap ((IntKind.i64.wrap (Int.fdiv (IntKind.u64.wrap (IntKind.i64.wrap (a1 + a3))) 2)) + a2)) - a3)))], [(0, some (.row 2 36 (a0.map eBucket)))], 1⟩ [] (by kernel_rfl) trivial ?_
          refine reg hP hn hm [] [0, 1, 2, 3, 4, 18, 19, 20, 21] [0] ⟨[(0, .own 0), (1, iV .i64 a1), (2, iV .i64 a2), (3, iV .i64 a3), (4, .im (.sc (.func (.func 78) #[] #[]))), (18, iV .i64 (IntKind.i64.wrap (Int.fdiv (IntKind.u64.wrap (IntKind.i64.wrap (a1 + a3))) 2))), (19, iV .i64 (IntKind.i64.wrap ((IntKind.i64.wrap (Int.fdiv (IntKind.u64.wrap (IntKind.i64.wrap (a1 + a3))) 2)) + a2))), (20, iV .i64 (IntKind.i64.wrap ((IntKind.i64.wrap ((IntKind.i64.wrap (Int.fdiv (IntKind.u64.wrap (IntKind.i64.wrap (a1 + a3))) 2)) + a2)) - a3))), (21, iV .i64 (IntKind.i64.wrap (Int.fdiv (IntKind.u64.wrap (IntKind.i64.wrap (a1 + a3))) 2)))], [(0, some (.row 2 36 (a0.map eBucket)))], 1⟩ [] (by kernel_rfl) trivial ?_
          obtain rfl := Option.some.inj H
          exact Exists.intro _ (And.intro (fun _ _ h => h.conv (inv := [(0, 0)]) (vk := []) (e0 := []) (t := ⟨[(0, .own 0), (1, iV .i64 a1), (2, iV .i64 a2), (3, iV .i64 a3), (4, .im (.sc (.func (.func 78) #[] #[]))), (18, iV .i64 (IntKind.i64.wrap (Int.fdiv (IntKind.u64.wrap (IntKind.i64.wrap (a1 + a3))) 2))), (19, iV .i64 (IntKind.i64.wrap ((IntKind.i64.wrap (Int.fdiv (IntKind.u64.wrap (IntKind.i64.wrap (a1 + a3))) 2)) + a2))), (20, iV .i64 (IntKind.i64.wrap ((IntKind.i64.wrap ((IntKind.i64.wrap (Int.fdiv (IntKind.u64.wrap (IntKind.i64.wrap (a1 + a3))) 2)) + a2)) - a3))), (21, iV .i64 (IntKind.i64.wrap (Int.fdiv (IntKind.u64.wrap (IntKind.i64.wrap (a1 + a3))) 2)))], [(0, some (.row 2 36 (a0.map eBucket)))], 1⟩) (by kernel_rfl)) (And.intro rfl rfl))
        · replace H := (ifF c399).symm.trans H
          refine AWp.seq ?_
          refine reg hP hn hm [] [0, 1, 2, 3, 4, 18, 19, 20] [0] ⟨[(0, .own 0), (1, iV .i64 a1), (2, iV .i64 a2), (3, iV .i64 a3), (4, .im (.sc (.func (.func 78) #[] #[]))), (18, iV .i64 (IntKind.i64.wrap (Int.fdiv (IntKind.u64.wrap (IntKind.i64.wrap (a1 + a3))) 2))), (19, iV .i64 (IntKind.i64.wrap ((IntKind.i64.wrap (Int.fdiv (IntKind.u64.wrap (IntKind.i64.wrap (a1 + a3))) 2)) + a2))), (20, iV .i64 a1)], [(0, some (.row 2 36 (a0.map eBucket)))], 1⟩ [] (by kernel_rfl) trivial ?_
          refine reg hP hn hm [] [0, 1, 2, 3, 4, 18, 19, 20, 21] [0] ⟨[(0, .own 0), (1, iV .i64 a1), (2, iV .i64 a2), (3, iV .i64 a3), (4, .im (.sc (.func (.func 78) #[] #[]))), (18, iV .i64 (IntKind.i64.wrap (Int.fdiv (IntKind.u64.wrap (IntKind.i64.wrap (a1 + a3))) 2))), (19, iV .i64 (IntKind.i64.wrap ((IntKind.i64.wrap (Int.fdiv (IntKind.u64.wrap (IntKind.i64.wrap (a1 + a3))) 2)) + a2))), (20, iV .i64 a1), (21, iV .i64 a2)], [(0, some (.row 2 36 (a0.map eBucket)))], 1⟩ [] (by kernel_rfl) trivial ?_
          obtain rfl := Option.some.inj H
          exact Exists.intro _ (And.intro (fun _ _ h => h.conv (inv := [(0, 0)]) (vk := []) (e0 := []) (t := ⟨[(0, .own 0), (1, iV .i64 a1), (2, iV .i64 a2), (3, iV .i64 a3), (4, .im (.sc (.func (.func 78) #[] #[]))), (18, iV .i64 (IntKind.i64.wrap (Int.fdiv (IntKind.u64.wrap (IntKind.i64.wrap (a1 + a3))) 2))), (19, iV .i64 (IntKind.i64.wrap ((IntKind.i64.wrap (Int.fdiv (IntKind.u64.wrap (IntKind.i64.wrap (a1 + a3))) 2)) + a2))), (20, iV .i64 a1), (21, iV .i64 a2)], [(0, some (.row 2 36 (a0.map eBucket)))], 1⟩) (by kernel_rfl)) (And.intro rfl rfl))
      · obtain ⟨x400, x401⟩ := o566
        rintro e s ⟨rfl, rfl⟩
        refine AWp.seq ?_
        refine reg hP hn hm [] [0, 1, 2, 3, 4, 18, 19, 20, 21, 22] [0] ⟨[(0, .own 0), (1, iV .i64 a1), (2, iV .i64 a2), (3, iV .i64 a3), (4, .im (.sc (.func (.func 78) #[] #[]))), (18, iV .i64 (IntKind.i64.wrap (Int.fdiv (IntKind.u64.wrap (IntKind.i64.wrap (a1 + a3))) 2))), (19, iV .i64 (IntKind.i64.wrap ((IntKind.i64.wrap (Int.fdiv (IntKind.u64.wrap (IntKind.i64.wrap (a1 + a3))) 2)) + a2))), (20, iV .i64 x400), (21, iV .i64 x401), (22, iV .i64 (IntKind.i64.wrap ((IntKind.i64.wrap ((IntKind.i64.wrap (Int.fdiv (IntKind.u64.wrap (IntKind.i64.wrap (a1 + a3))) 2)) + a2)) - (1 : Int))))], [(0, some (.row 2 36 (a0.map eBucket)))], 1⟩ [] (by kernel_rfl) trivial ?_
        refine AWp.seq ?_
        refine AWp.block ?_
        obtain ⟨o568, e569, H⟩ := bind_of H
        refine AWp.loop (LWp.conv (inv := [(0, 0)]) (vk := []) (e0 := []) (t := ⟨[(0, .own 0), (1, iV .i64 a1), (2, iV .i64 a2), (3, iV .i64 a3), (4, .im (.sc (.func (.func 78) #[] #[]))), (18, iV .i64 (IntKind.i64.wrap (Int.fdiv (IntKind.u64.wrap (IntKind.i64.wrap (a1 + a3))) 2))), (19, iV .i64 (IntKind.i64.wrap ((IntKind.i64.wrap (Int.fdiv (IntKind.u64.wrap (IntKind.i64.wrap (a1 + a3))) 2)) + a2))), (20, iV .i64 x400), (21, iV .i64 x401), (22, iV .i64 (IntKind.i64.wrap ((IntKind.i64.wrap ((IntKind.i64.wrap (Int.fdiv (IntKind.u64.wrap (IntKind.i64.wrap (a1 + a3))) 2)) + a2)) - (1 : Int))))], [(0, some (.row 2 36 (a0.map eBucket)))], 1⟩) (by kernel_rfl) ?_)
        refine LWp.mono (Q := fun e s => (match (generalizing := false) o568 with | x444 => e = .exit 8 ∧ s = ⟨[(0, .own 0), (1, iV .i64 a1), (2, iV .i64 a2), (3, iV .i64 a3), (4, .im (.sc (.func (.func 78) #[] #[]))), (18, iV .i64 (IntKind.i64.wrap (Int.fdiv (IntKind.u64.wrap (IntKind.i64.wrap (a1 + a3))) 2))), (19, iV .i64 (IntKind.i64.wrap ((IntKind.i64.wrap (Int.fdiv (IntKind.u64.wrap (IntKind.i64.wrap (a1 + a3))) 2)) + a2))), (20, iV .i64 x444)], [(0, some (.row 2 36 (a0.map eBucket)))], 1⟩)) (LWp.cv (withBody (fun body hbody => ?_))) ?_
        · refine f_slices_symMergeCmpFunc_api_Bucket_hist_tidy_1.l4.partial_correctness a0 a1 a2 a3 (motive := fun x422 x423 o568 => LWp Γ body (fun e s => ∃ t, Cv Γ s t ∧ (match (generalizing := false) o568 with | x444 => e = .exit 8 ∧ t = ⟨[(0, .own 0), (1, iV .i64 a1), (2, iV .i64 a2), (3, iV .i64 a3), (4, .im (.sc (.func (.func 78) #[] #[]))), (18, iV .i64 (IntKind.i64.wrap (Int.fdiv (IntKind.u64.wrap (IntKind.i64.wrap (a1 + a3))) 2))), (19, iV .i64 (IntKind.i64.wrap ((IntKind.i64.wrap (Int.fdiv (IntKind.u64.wrap (IntKind.i64.wrap (a1 + a3))) 2)) + a2))), (20, iV .i64 x444)], [(0, some (.row 2 36 (a0.map eBucket)))], 1⟩)) ⟨[(0, .own 0), (1, iV .i64 a1), (2, iV .i64 a2), (3, iV .i64 a3), (4, .im (.sc (.func (.func 78) #[] #[]))), (18, iV .i64 (IntKind.i64.wrap (Int.fdiv (IntKind.u64.wrap (IntKind.i64.wrap (a1 + a3))) 2))), (19, iV .i64 (IntKind.i64.wrap ((IntKind.i64.wrap (Int.fdiv (IntKind.u64.wrap (IntKind.i64.wrap (a1 + a3))) 2)) + a2))), (20, iV .i64 x422), (21, iV .i64 x423), (22, iV .i64 (IntKind.i64.wrap ((IntKind.i64.wrap ((IntKind.i64.wrap (Int.fdiv (IntKind.u64.wrap (IntKind.i64.wrap (a1 + a3))) 2)) + a2)) - (1 : Int))))], [(0, some (.row 2 36 (a0.map eBucket)))], 1⟩) ?_ _ _ _ e569
          clear H e569 o568; intro self ih x422 x423 o568 H
          subst hbody
          refine LWp.round ?_
          refine AWp.seq ?_
          refine AWp.seq ?_
          refine reg hP hn hm [] [0, 1, 2, 3, 4, 18, 19, 20, 21, 22, 151] [0] ⟨[(0, .own 0), (1, iV .i64 a1), (2, iV .i64 a2), (3, iV .i64 a3), (4, .im (.sc (.func (.func 78) #[] #[]))), (18, iV .i64 (IntKind.i64.wrap (Int.fdiv (IntKind.u64.wrap (IntKind.i64.wrap (a1 + a3))) 2))), (19, iV .i64 (IntKind.i64.wrap ((IntKind.i64.wrap (Int.fdiv (IntKind.u64.wrap (IntKind.i64.wrap (a1 + a3))) 2)) + a2))), (20, iV .i64 x422), (21, iV .i64 x423), (22, iV .i64 (IntKind.i64.wrap ((IntKind.i64.wrap ((IntKind.i64.wrap (Int.fdiv (IntKind.u64.wrap (IntKind.i64.wrap (a1 + a3))) 2)) + a2)) - (1 : Int)))), (151, bV (decide (x422 < x423)))], [(0, some (.row 2 36 (a0.map eBucket)))], 1⟩ [] (by kernel_rfl) trivial ?_
          refine AWp.cond (decide (x422 < x423)) rfl (fun c424 => ?_) (fun c424 => ?_)
          · replace H := (ifT c424).symm.trans H
            refine AWp.skip ?_
            refine AWp.block ?_
            refine AWp.seq ?_
            refine reg hP hn hm [] [0, 1, 2, 3, 4, 18, 19, 20, 21, 22, 23] [0] ⟨[(0, .own 0), (1, iV .i64 a1), (2, iV .i64 a2), (3, iV .i64 a3), (4, .im (.sc (.func (.func 78) #[] #[]))), (18, iV .i64 (IntKind.i64.wrap (Int.fdiv (IntKind.u64.wrap (IntKind.i64.wrap (a1 + a3))) 2))), (19, iV .i64 (IntKind.i64.wrap ((IntKind.i64.wrap (Int.fdiv (IntKind.u64.wrap (IntKind.i64.wrap (a1 + a3))) 2)) + a2))), (20, iV .i64 x422), (21, iV .i64 x423), (22, iV .i64 (IntKind.i64.wrap ((IntKind.i64.wrap ((IntKind.i64.wrap (Int.fdiv (IntKind.u64.wrap (IntKind.i64.wrap (a1 + a3))) 2)) + a2)) - (1 : Int)))), (23, iV .i64 (IntKind.i64.wrap (Int.fdiv (IntKind.u64.wrap (IntKind.i64.wrap (x422 + x423))) 2)))], [(0, some (.row 2 36 (a0.map eBucket)))], 1⟩ [(0 : Int) ≤ 1] (by kernel_rfl) ⟨by decide, trivial⟩ ?_
            refine AWp.seq ?_
            obtain ⟨b433, p434, q435, H⟩ := at_of H
            obtain ⟨b436, p437, q438, H⟩ := at_of H
            obtain ⟨t439, e440, H⟩ := bind_of H
            refine reg hP hn hm [(6, .c (eBucket b433)), (10, .c (eBucket b436)), (11, .call [] [] [] [] 0 (iV .i64 t439) [])] [0, 1, 2, 3, 4, 18, 19, 20, 21, 22, 23, 171] [0] ⟨[(0, .own 0), (1, iV .i64 a1), (2, iV .i64 a2), (3, iV .i64 a3), (4, .im (.sc (.func (.func 78) #[] #[]))), (18, iV .i64 (IntKind.i64.wrap (Int.fdiv (IntKind.u64.wrap (IntKind.i64.wrap (a1 + a3))) 2))), (19, iV .i64 (IntKind.i64.wrap ((IntKind.i64.wrap (Int.fdiv (IntKind.u64.wrap (IntKind.i64.wrap (a1 + a3))) 2)) + a2))), (20, iV .i64 x422), (21, iV .i64 x423), (22, iV .i64 (IntKind.i64.wrap ((IntKind.i64.wrap ((IntKind.i64.wrap (Int.fdiv (IntKind.u64.wrap (IntKind.i64.wrap (a1 + a3))) 2)) + a2)) - (1 : Int)))), (23, iV .i64 (IntKind.i64.wrap (Int.fdiv (IntKind.u64.wrap (IntKind.i64.wrap (x422 + x423))) 2))), (171, bV (!(decide (t439 < (0 : Int)))))], [(0, some (.row 2 36 (a0.map eBucket)))], 1⟩ [0 ≤ (IntKind.i64.wrap ((IntKind.i64.wrap ((IntKind.i64.wrap ((IntKind.i64.wrap (Int.fdiv (IntKind.u64.wrap (IntKind.i64.wrap (a1 + a3))) 2)) + a2)) - (1 : Int))) - (IntKind.i64.wrap (Int.fdiv (IntKind.u64.wrap (IntKind.i64.wrap (x422 + x423))) 2)))), IntKind.i64.wrap ((IntKind.i64.wrap ((IntKind.i64.wrap ((IntKind.i64.wrap (Int.fdiv (IntKind.u64.wrap (IntKind.i64.wrap (a1 + a3))) 2)) + a2)) - (1 : Int))) - (IntKind.i64.wrap (Int.fdiv (IntKind.u64.wrap (IntKind.i64.wrap (x422 + x423))) 2))) < (((a0.map eBucket).length : Nat) : Int), (a0.map eBucket)[(Int.toNat (IntKind.i64.wrap ((IntKind.i64.wrap ((IntKind.i64.wrap ((IntKind.i64.wrap (Int.fdiv (IntKind.u64.wrap (IntKind.i64.wrap (a1 + a3))) 2)) + a2)) - (1 : Int))) - (IntKind.i64.wrap (Int.fdiv (IntKind.u64.wrap (IntKind.i64.wrap (x422 + x423))) 2)))))]? = some (eBucket b433), 0 ≤ (IntKind.i64.wrap (Int.fdiv (IntKind.u64.wrap (IntKind.i64.wrap (x422 + x423))) 2)), IntKind.i64.wrap (Int.fdiv (IntKind.u64.wrap (IntKind.i64.wrap (x422 + x423))) 2) < (((a0.map eBucket).length : Nat) : Int), (a0.map eBucket)[(Int.toNat (IntKind.i64.wrap (Int.fdiv (IntKind.u64.wrap (IntKind.i64.wrap (x422 + x423))) 2)))]? = some (eBucket b436), Enters Try.prog 78, Pv.Fn Try.prog 78 [.agg [iV .i64 b433.f0, iV .u64 b433.f1], .agg [iV .i64 b436.f0, iV .u64 b436.f1]] [] 0 (fun r o => r = iV .i64 t439 ∧ o = [])] (by kernel_rfl) ⟨by exact p434, by exact el_lt eBucket p434 q435, by exact el_map eBucket q435, by exact p437, by exact el_lt eBucket p437 q438, by exact el_map eBucket q438, by exact Try.call78, by exact f_hist_tidy_1.ok b433 b436 t439 e440, trivial⟩ ?_
            obtain ⟨o570, e571, H⟩ := bind_of H
            refine AWp.mono (Q := fun e s => (match (generalizing := false) o570 with | (x442, x443) => e = .normal ∧ s = ⟨[(0, .own 0), (1, iV .i64 a1), (2, iV .i64 a2), (3, iV .i64 a3), (4, .im (.sc (.func (.func 78) #[] #[]))), (18, iV .i64 (IntKind.i64.wrap (Int.fdiv (IntKind.u64.wrap (IntKind.i64.wrap (a1 + a3))) 2))), (19, iV .i64 (IntKind.i64.wrap ((IntKind.i64.wrap (Int.fdiv (IntKind.u64.wrap (IntKind.i64.wrap (a1 + a3))) 2)) + a2))), (20, iV .i64 x442), (21, iV .i64 x443), (22, iV .i64 (IntKind.i64.wrap ((IntKind.i64.wrap ((IntKind.i64.wrap (Int.fdiv (IntKind.u64.wrap (IntKind.i64.wrap (a1 + a3))) 2)) + a2)) - (1 : Int))))], [(0, some (.row 2 36 (a0.map eBucket)))], 1⟩)) (AWp.cv ?_) ?_
            · replace H := e571; clear e571
              refine AWp.cond (!(decide (t439 < (0 : Int)))) rfl (fun c441 => ?_) (fun c441 => ?_)
              · replace H := (ifT c441).symm.trans H
                refine reg hP hn hm [] [0, 1, 2, 3, 4, 18, 19, 20, 21, 22] [0] ⟨[(0, .own 0), (1, iV .i64 a1), (2, iV .i64 a2), (3, iV .i64 a3), (4, .im (.sc (.func (.func 78) #[] #[]))), (18, iV .i64 (IntKind.i64.wrap (Int.fdiv (IntKind.u64.wrap (IntKind.i64.wrap (a1 + a3))) 2))), (19, iV .i64 (IntKind.i64.wrap ((IntKind.i64.wrap (Int.fdiv (IntKind.u64.wrap (IntKind.i64.wrap (a1 + a3))) 2)) + a2))), (20, iV .i64 (IntKind.i64.wrap ((IntKind.i64.wrap (Int.fdiv (IntKind.u64.wrap (IntKind.i64.wrap (x422 + x423))) 2)) + (1 : Int)))), (21, iV .i64 x423), (22, iV .i64 (IntKind.i64.wrap ((IntKind.i64.wrap ((IntKind.i64.wrap (Int.fdiv (IntKind.u64.wrap (IntKind.i64.wrap (a1 + a3))) 2)) + a2)) - (1 : Int))))], [(0, some (.row 2 36 (a0.map eBucket)))], 1⟩ [] (by kernel_rfl) trivial ?_
                obtain rfl := Option.some.inj H
                exact Exists.intro _ (And.intro (fun _ _ h => h.conv (inv := [(0, 0)]) (vk := []) (e0 := []) (t := ⟨[(0, .own 0), (1, iV .i64 a1), (2, iV .i64 a2), (3, iV .i64 a3), (4, .im (.sc (.func (.func 78) #[] #[]))), (18, iV .i64 (IntKind.i64.wrap (Int.fdiv (IntKind.u64.wrap (IntKind.i64.wrap (a1 + a3))) 2))), (19, iV .i64 (IntKind.i64.wrap ((IntKind.i64.wrap (Int.fdiv (IntKind.u64.wrap (IntKind.i64.wrap (a1 + a3))) 2)) + a2))), (20, iV .i64 (IntKind.i64.wrap ((IntKind.i64.wrap (Int.fdiv (IntKind.u64.wrap (IntKind.i64.wrap (x422 + x423))) 2)) + (1 : Int)))), (21, iV .i64 x423), (22, iV .i64 (IntKind.i64.wrap ((IntKind.i64.wrap ((IntKind.i64.wrap (Int.fdiv (IntKind.u64.wrap (IntKind.i64.wrap (a1 + a3))) 2)) + a2)) - (1 : Int))))], [(0, some (.row 2 36 (a0.map eBucket)))], 1⟩) (by kernel_rfl)) (And.intro rfl rfl))
              · replace H := (ifF c441).symm.trans H
                refine reg hP hn hm [] [0, 1, 2, 3, 4, 18, 19, 20, 21, 22] [0] ⟨[(0, .own 0), (1, iV .i64 a1), (2, iV .i64 a2), (3, iV .i64 a3), (4, .im (.sc (.func (.func 78) #[] #[]))), (18, iV .i64 (IntKind.i64.wrap (Int.fdiv (IntKind.u64.wrap (IntKind.i64.wrap (a1 + a3))) 2))), (19, iV .i64 (IntKind.i64.wrap ((IntKind.i64.wrap (Int.fdiv (IntKind.u64.wrap (IntKind.i64.wrap (a1 + a3))) 2)) + a2))), (20, iV .i64 x422), (21, iV .i64 (IntKind.i64.wrap (Int.fdiv (IntKind.u64.wrap (IntKind.i64.wrap (x422 + x423))) 2))), (22, iV .i64 (IntKind.i64.wrap ((IntKind.i64.wrap ((IntKind.i64.wrap (Int.fdiv (IntKind.u64.wrap (IntKind.i64.wrap (a1 + a3))) 2)) + a2)) - (1 : Int))))], [(0, some (.row 2 36 (a0.map eBucket)))], 1⟩ [] (by kernel_rfl) trivial ?_
                obtain rfl := Option.some.inj H
                exact Exists.intro _ (And.intro (fun _ _ h => h.conv (inv := [(0, 0)]) (vk := []) (e0 := []) (t := ⟨[(0, .own 0), (1, iV .i64 a1), (2, iV .i64 a2), (3, iV .i64 a3), (4, .im (.sc (.func (.func 78) #[] #[]))), (18, iV .i64 (IntKind.i64.wrap (Int.fdiv (IntKind.u64.wrap (IntKind.i64.wrap (a1 + a3))) 2))), (19, iV .i64 (IntKind.i64.wrap ((IntKind.i64.wrap (Int.fdiv (IntKind.u64.wrap (IntKind.i64.wrap (a1 + a3))) 2)) + a2))), (20, iV .i64 x422), (21, iV .i64 (IntKind.i64.wrap (Int.fdiv (IntKind.u64.wrap (IntKind.i64.wrap (x422 + x423))) 2))), (22, iV .i64 (IntKind.i64.wrap ((IntKind.i64.wrap ((IntKind.i64.wrap (Int.fdiv (IntKind.u64.wrap (IntKind.i64.wrap (a1 + a3))) 2)) + a2)) - (1 : Int))))], [(0, some (.row 2 36 (a0.map eBucket)))], 1⟩) (by kernel_rfl)) (And.intro rfl rfl))
            · obtain ⟨x442, x443⟩ := o570
              rintro e s ⟨rfl, rfl⟩
              exact LWp.conv (inv := [(0, 0)]) (vk := []) (e0 := []) (t := ⟨[(0, .own 0), (1, iV .i64 a1), (2, iV .i64 a2), (3, iV .i64 a3), (4, .im (.sc (.func (.func 78) #[] #[]))), (18, iV .i64 (IntKind.i64.wrap (Int.fdiv (IntKind.u64.wrap (IntKind.i64.wrap (a1 + a3))) 2))), (19, iV .i64 (IntKind.i64.wrap ((IntKind.i64.wrap (Int.fdiv (IntKind.u64.wrap (IntKind.i64.wrap (a1 + a3))) 2)) + a2))), (20, iV .i64 x442), (21, iV .i64 x443), (22, iV .i64 (IntKind.i64.wrap ((IntKind.i64.wrap ((IntKind.i64.wrap (Int.fdiv (IntKind.u64.wrap (IntKind.i64.wrap (a1 + a3))) 2)) + a2)) - (1 : Int))))], [(0, some (.row 2 36 (a0.map eBucket)))], 1⟩) (by kernel_rfl) (ih _ _ _ H)
          · replace H := (ifF c424).symm.trans H
            refine AWp.exit ?_
            obtain rfl := Option.some.inj H
            exact Exists.intro _ (And.intro (fun _ _ h => h.conv (inv := [(0, 0)]) (vk := []) (e0 := []) (t := ⟨[(0, .own 0), (1, iV .i64 a1), (2, iV .i64 a2), (3, iV .i64 a3), (4, .im (.sc (.func (.func 78) #[] #[]))), (18, iV .i64 (IntKind.i64.wrap (Int.fdiv (IntKind.u64.wrap (IntKind.i64.wrap (a1 + a3))) 2))), (19, iV .i64 (IntKind.i64.wrap ((IntKind.i64.wrap (Int.fdiv (IntKind.u64.wrap (IntKind.i64.wrap (a1 + a3))) 2)) + a2))), (20, iV .i64 x422)], [(0, some (.row 2 36 (a0.map eBucket)))], 1⟩) (by kernel_rfl)) (And.intro rfl rfl))
        · obtain ⟨x444, rfl⟩ : ∃ z, z = o568 := ⟨_, rfl⟩
          rintro e s ⟨rfl, rfl⟩
          refine AWp.seq ?_
          refine reg hP hn hm [] [0, 1, 2, 3, 4, 18, 20, 24] [0] ⟨[(0, .own 0), (1, iV .i64 a1), (2, iV .i64 a2), (3, iV .i64 a3), (4, .im (.sc (.func (.func 78) #[] #[]))), (18, iV .i64 (IntKind.i64.wrap (Int.fdiv (IntKind.u64.wrap (IntKind.i64.wrap (a1 + a3))) 2))), (20, iV .i64 x444), (24, iV .i64 (IntKind.i64.wrap ((IntKind.i64.wrap ((IntKind.i64.wrap (Int.fdiv (IntKind.u64.wrap (IntKind.i64.wrap (a1 + a3))) 2)) + a2)) - x444)))], [(0, some (.row 2 36 (a0.map eBucket)))], 1⟩ [] (by kernel_rfl) trivial ?_
          refine AWp.seq ?_
          refine AWp.seq ?_
          obtain ⟨o572, e573, H⟩ := bind_of H
          refine AWp.mono (Q := fun e s => (match (generalizing := false) o572 with | x447 => e = .normal ∧ s = ⟨[(0, .own 0), (1, iV .i64 a1), (2, iV .i64 a2), (3, iV .i64 a3), (4, .im (.sc (.func (.func 78) #[] #[]))), (18, iV .i64 (IntKind.i64.wrap (Int.fdiv (IntKind.u64.wrap (IntKind.i64.wrap (a1 + a3))) 2))), (20, iV .i64 x444), (24, iV .i64 (IntKind.i64.wrap ((IntKind.i64.wrap ((IntKind.i64.wrap (Int.fdiv (IntKind.u64.wrap (IntKind.i64.wrap (a1 + a3))) 2)) + a2)) - x444))), (185, bV x447)], [(0, some (.row 2 36 (a0.map eBucket)))], 1⟩)) (AWp.cv ?_) ?_
          · replace H := e573; clear e573
            rcases Bool.eq_false_or_eq_true (decide (x444 < a2)) with c446 | c446
            · replace H := (ifT c446).symm.trans H
              refine reg hP hn hm [(3, .b true)] [0, 1, 2, 3, 4, 18, 20, 24, 185] [0] ⟨[(0, .own 0), (1, iV .i64 a1), (2, iV .i64 a2), (3, iV .i64 a3), (4, .im (.sc (.func (.func 78) #[] #[]))), (18, iV .i64 (IntKind.i64.wrap (Int.fdiv (IntKind.u64.wrap (IntKind.i64.wrap (a1 + a3))) 2))), (20, iV .i64 x444), (24, iV .i64 (IntKind.i64.wrap ((IntKind.i64.wrap ((IntKind.i64.wrap (Int.fdiv (IntKind.u64.wrap (IntKind.i64.wrap (a1 + a3))) 2)) + a2)) - x444))), (185, bV (decide (a2 < (IntKind.i64.wrap ((IntKind.i64.wrap ((IntKind.i64.wrap (Int.fdiv (IntKind.u64.wrap (IntKind.i64.wrap (a1 + a3))) 2)) + a2)) - x444)))))], [(0, some (.row 2 36 (a0.map eBucket)))], 1⟩ [(decide (x444 < a2)) = true] (by kernel_rfl) ⟨by exact c446, trivial⟩ ?_
              obtain rfl := Option.some.inj H
              exact Exists.intro _ (And.intro (fun _ _ h => h.conv (inv := [(0, 0)]) (vk := []) (e0 := []) (t := ⟨[(0, .own 0), (1, iV .i64 a1), (2, iV .i64 a2), (3, iV .i64 a3), (4, .im (.sc (.func (.func 78) #[] #[]))), (18, iV .i64 (IntKind.i64.wrap (Int.fdiv (IntKind.u64.wrap (IntKind.i64.wrap (a1 + a3))) 2))), (20, iV .i64 x444), (24, iV .i64 (IntKind.i64.wrap ((IntKind.i64.wrap ((IntKind.i64.wrap (Int.fdiv (IntKind.u64.wrap (IntKind.i64.wrap (a1 + a3))) 2)) + a2)) - x444))), (185, bV (decide (a2 < (IntKind.i64.wrap ((IntKind.i64.wrap ((IntKind.i64.wrap (Int.fdiv (IntKind.u64.wrap (IntKind.i64.wrap (a1 + a3))) 2)) + a2)) - x444)))))], [(0, some (.row 2 36 (a0.map eBucket)))], 1⟩) (by kernel_rfl)) (And.intro rfl rfl))
            · replace H := (ifF c446).symm.trans H
              refine reg hP hn hm [(3, .b false)] [0, 1, 2, 3, 4, 18, 20, 24, 185] [0] ⟨[(0, .own 0), (1, iV .i64 a1), (2, iV .i64 a2), (3, iV .i64 a3), (4, .im (.sc (.func (.func 78) #[] #[]))), (18, iV .i64 (IntKind.i64.wrap (Int.fdiv (IntKind.u64.wrap (IntKind.i64.wrap (a1 + a3))) 2))), (20, iV .i64 x444), (24, iV .i64 (IntKind.i64.wrap ((IntKind.i64.wrap ((IntKind.i64.wrap (Int.fdiv (IntKind.u64.wrap (IntKind.i64.wrap (a1 + a3))) 2)) + a2)) - x444))), (185, bV false)], [(0, some (.row 2 36 (a0.map eBucket)))], 1⟩ [(decide (x444 < a2)) = false] (by kernel_rfl) ⟨by exact c446, trivial⟩ ?_
              obtain rfl := Option.some.inj H
              exact Exists.intro _ (And.intro (fun _ _ h => h.conv (inv := [(0, 0)]) (vk := []) (e0 := []) (t := ⟨[(0, .own 0), (1, iV .i64 a1), (2, iV .i64 a2), (3, iV .i64 a3), (4, .im (.sc (.func (.func 78) #[] #[]))), (18, iV .i64 (IntKind.i64.wrap (Int.fdiv (IntKind.u64.wrap (IntKind.i64.wrap (a1 + a3))) 2))), (20, iV .i64 x444), (24, iV .i64 (IntKind.i64.wrap ((IntKind.i64.wrap ((IntKind.i64.wrap (Int.fdiv (IntKind.u64.wrap (IntKind.i64.wrap (a1 + a3))) 2)) + a2)) - x444))), (185, bV false)], [(0, some (.row 2 36 (a0.map eBucket)))], 1⟩) (by kernel_rfl)) (And.intro rfl rfl))
          · obtain ⟨x447, rfl⟩ : ∃ z, z = o572 := ⟨_, rfl⟩
            rintro e s ⟨rfl, rfl⟩
            obtain ⟨o574, e575, H⟩ := bind_of H
            refine AWp.mono (Q := fun e s => (match (generalizing := false) o574 with | x535 => e = .normal ∧ s = ⟨[(0, .own 0), (1, iV .i64 a1), (3, iV .i64 a3), (4, .im (.sc (.func (.func 78) #[] #[]))), (18, iV .i64 (IntKind.i64.wrap (Int.fdiv (IntKind.u64.wrap (IntKind.i64.wrap (a1 + a3))) 2))), (20, iV .i64 x444), (24, iV .i64 (IntKind.i64.wrap ((IntKind.i64.wrap ((IntKind.i64.wrap (Int.fdiv (IntKind.u64.wrap (IntKind.i64.wrap (a1 + a3))) 2)) + a2)) - x444)))], [(0, some (.row 2 36 (x535.map eBucket)))], 1⟩)) (AWp.cv ?_) ?_
            · replace H := e575; clear e575
              refine AWp.cond x447 rfl (fun c448 => ?_) (fun c448 => ?_)
              · replace H := (ifT c448).symm.trans H
                obtain ⟨t533, e534, H⟩ := bind_of H
                refine reg hP hn hm [(5, .call [(0, 0)] [(0, 0)] [] [] 1 (.tup []) [(0, some (.row 2 36 (t533.map eBucket)))])] [0, 1, 3, 4, 18, 20, 24] [0] ⟨[(0, .own 0), (1, iV .i64 a1), (3, iV .i64 a3), (4, .im (.sc (.func (.func 78) #[] #[]))), (18, iV .i64 (IntKind.i64.wrap (Int.fdiv (IntKind.u64.wrap (IntKind.i64.wrap (a1 + a3))) 2))), (20, iV .i64 x444), (24, iV .i64 (IntKind.i64.wrap ((IntKind.i64.wrap ((IntKind.i64.wrap (Int.fdiv (IntKind.u64.wrap (IntKind.i64.wrap (a1 + a3))) 2)) + a2)) - x444)))], [(0, some (.row 2 36 (t533.map eBucket)))], 1⟩ [Enters Try.prog 111, Pv.Fn Try.prog 111 [.own 0, iV .i64 x444, iV .i64 a2, iV .i64 (IntKind.i64.wrap ((IntKind.i64.wrap ((IntKind.i64.wrap (Int.fdiv (IntKind.u64.wrap (IntKind.i64.wrap (a1 + a3))) 2)) + a2)) - x444)), .im (.sc (.func (.func 78) #[] #[]))] [(0, some (.row 2 36 (a0.map eBucket)))] 1 (fun r o => r = .tup [] ∧ o = [(0, some (.row 2 36 (t533.map eBucket)))])] (by kernel_rfl) ⟨by exact Try.call111, by exact f_slices_rotateCmpFunc_api_Bucket_hist_tidy_1.ok a0 x444 a2 (IntKind.i64.wrap ((IntKind.i64.wrap ((IntKind.i64.wrap (Int.fdiv (IntKind.u64.wrap (IntKind.i64.wrap (a1 + a3))) 2)) + a2)) - x444)) t533 e534, trivial⟩ ?_
                obtain rfl := Option.some.inj H
                exact Exists.intro _ (And.intro (fun _ _ h => h.conv (inv := [(0, 0)]) (vk := []) (e0 := []) (t := ⟨[(0, .own 0), (1, iV .i64 a1), (3, iV .i64 a3), (4, .im (.sc (.func (.func 78) #[] #[]))), (18, iV .i64 (IntKind.i64.wrap (Int.fdiv (IntKind.u64.wrap (IntKind.i64.wrap (a1 + a3))) 2))), (20, iV .i64 x444), (24, iV .i64 (IntKind.i64.wrap ((IntKind.i64.wrap ((IntKind.i64.wrap (Int.fdiv (IntKind.u64.wrap (IntKind.i64.wrap (a1 + a3))) 2)) + a2)) - x444)))], [(0, some (.row 2 36 (t533.map eBucket)))], 1⟩) (by kernel_rfl)) (And.intro rfl rfl))
              · replace H := (ifF c448).symm.trans H
                refine AWp.skip ?_
                obtain rfl := Option.some.inj H
                exact Exists.intro _ (And.intro (fun _ _ h => h.conv (inv := [(0, 0)]) (vk := []) (e0 := []) (t := ⟨[(0, .own 0), (1, iV .i64 a1), (3, iV .i64 a3), (4, .im (.sc (.func (.func 78) #[] #[]))), (18, iV .i64 (IntKind.i64.wrap (Int.fdiv (IntKind.u64.wrap (IntKind.i64.wrap (a1 + a3))) 2))), (20, iV .i64 x444), (24, iV .i64 (IntKind.i64.wrap ((IntKind.i64.wrap ((IntKind.i64.wrap (Int.fdiv (IntKind.u64.wrap (IntKind.i64.wrap (a1 + a3))) 2)) + a2)) - x444)))], [(0, some (.row 2 36 (a0.map eBucket)))], 1⟩) (by kernel_rfl)) (And.intro rfl rfl))
            · obtain ⟨x535, rfl⟩ : ∃ z, z = o574 := ⟨_, rfl⟩
              rintro e s ⟨rfl, rfl⟩
              refine AWp.seq ?_
              refine AWp.seq ?_
              obtain ⟨o576, e577, H⟩ := bind_of H
              refine AWp.mono (Q := fun e s => (match (generalizing := false) o576 with | x538 => e = .normal ∧ s = ⟨[(0, .own 0), (1, iV .i64 a1), (3, iV .i64 a3), (4, .im (.sc (.func (.func 78) #[] #[]))), (18, iV .i64 (IntKind.i64.wrap (Int.fdiv (IntKind.u64.wrap (IntKind.i64.wrap (a1 + a3))) 2))), (20, iV .i64 x444), (24, iV .i64 (IntKind.i64.wrap ((IntKind.i64.wrap ((IntKind.i64.wrap (Int.fdiv (IntKind.u64.wrap (IntKind.i64.wrap (a1 + a3))) 2)) + a2)) - x444))), (199, bV x538)], [(0, some (.row 2 36 (x535.map eBucket)))], 1⟩)) (AWp.cv ?_) ?_
              · replace H := e577; clear e577
                rcases Bool.eq_false_or_eq_true (decide (a1 < x444)) with c537 | c537
                · replace H := (ifT c537).symm.trans H
                  refine reg hP hn hm [(3, .b true)] [0, 1, 3, 4, 18, 20, 24, 199] [0] ⟨[(0, .own 0), (1, iV .i64 a1), (3, iV .i64 a3), (4, .im (.sc (.func (.func 78) #[] #[]))), (18, iV .i64 (IntKind.i64.wrap (Int.fdiv (IntKind.u64.wrap (IntKind.i64.wrap (a1 + a3))) 2))), (20, iV .i64 x444), (24, iV .i64 (IntKind.i64.wrap ((IntKind.i64.wrap ((IntKind.i64.wrap (Int.fdiv (IntKind.u64.wrap (IntKind.i64.wrap (a1 + a3))) 2)) + a2)) - x444))), (199, bV (decide (x444 < (IntKind.i64.wrap (Int.fdiv (IntKind.u64.wrap (IntKind.i64.wrap (a1 + a3))) 2)))))], [(0, some (.row 2 36 (x535.map eBucket)))], 1⟩ [(decide (a1 < x444)) = true] (by kernel_rfl) ⟨by exact c537, trivial⟩ ?_
                  obtain rfl := Option.some.inj H
                  exact Exists.intro _ (And.intro (fun _ _ h => h.conv (inv := [(0, 0)]) (vk := []) (e0 := []) (t := ⟨[(0, .own 0), (1, iV .i64 a1), (3, iV .i64 a3), (4, .im (.sc (.func (.func 78) #[] #[]))), (18, iV .i64 (IntKind.i64.wrap (Int.fdiv (IntKind.u64.wrap (IntKind.i64.wrap (a1 + a3))) 2))), (20, iV .i64 x444), (24, iV .i64 (IntKind.i64.wrap ((IntKind.i64.wrap ((IntKind.i64.wrap (Int.fdiv (IntKind.u64.wrap (IntKind.i64.wrap (a1 + a3))) 2)) + a2)) - x444))), (199, bV (decide (x444 < (IntKind.i64.wrap (Int.fdiv (IntKind.u64.wrap (IntKind.i64.wrap (a1 + a3))) 2)))))], [(0, some (.row 2 36 (x535.map eBucket)))], 1⟩) (by kernel_rfl)) (And.intro rfl rfl))
                · replace H := (ifF c537).symm.trans H
                  refine reg hP hn hm [(3, .b false)] [0, 1, 3, 4, 18, 20, 24, 199] [0] ⟨[(0, .own 0), (1, iV .i64 a1), (3, iV .i64 a3), (4, .im (.sc (.func (.func 78) #[] #[]))), (18, iV .i64 (IntKind.i64.wrap (Int.fdiv (IntKind.u64.wrap (IntKind.i64.wrap (a1 + a3))) 2))), (20, iV .i64 x444), (24, iV .i64 (IntKind.i64.wrap ((IntKind.i64.wrap ((IntKind.i64.wrap (Int.fdiv (IntKind.u64.wrap (IntKind.i64.wrap (a1 + a3))) 2)) + a2)) - x444))), (199, bV false)], [(0, some (.row 2 36 (x535.map eBucket)))], 1⟩ [(decide (a1 < x444)) = false] (by kernel_rfl) ⟨by exact c537, trivial⟩ ?_
                  obtain rfl := Option.some.inj H
                  exact Exists.intro _ (And.intro (fun _ _ h => h.conv (inv := [(0, 0)]) (vk := []) (e0 := []) (t := ⟨[(0, .own 0), (1, iV .i64 a1), (3, iV .i64 a3), (4, .im (.sc (.func (.func 78) #[] #[]))), (18, iV .i64 (IntKind.i64.wrap (Int.fdiv (IntKind.u64.wrap (IntKind.i64.wrap (a1 + a3))) 2))), (20, iV .i64 x444), (24, iV .i64 (IntKind.i64.wrap ((IntKind.i64.wrap ((IntKind.i64.wrap (Int.fdiv (IntKind.u64.wrap (IntKind.i64.wrap (a1 + a3))) 2)) + a2)) - x444))), (199, bV false)], [(0, some (.row 2 36 (x535.map eBucket)))], 1⟩) (by kernel_rfl)) (And.intro rfl rfl))
              · obtain ⟨x538, rfl⟩ : ∃ z, z = o576 := ⟨_, rfl⟩
                rintro e s ⟨rfl, rfl⟩
                obtain ⟨o578, e579, H⟩ := bind_of H
                refine AWp.mono (Q := fun e s => (match (generalizing := false) o578 with | x544 => e = .normal ∧ s = ⟨[(0, .own 0), (3, iV .i64 a3), (4, .im (.sc (.func (.func 78) #[] #[]))), (18, iV .i64 (IntKind.i64.wrap (Int.fdiv (IntKind.u64.wrap (IntKind.i64.wrap (a1 + a3))) 2))), (24, iV .i64 (IntKind.i64.wrap ((IntKind.i64.wrap ((IntKind.i64.wrap (Int.fdiv (IntKind.u64.wrap (IntKind.i64.wrap (a1 + a3))) 2)) + a2)) - x444)))], [(0, some (.row 2 36 (x544.map eBucket)))], 1⟩)) (AWp.cv ?_) ?_
                · replace H := e579; clear e579
                  refine AWp.cond x538 rfl (fun c539 => ?_) (fun c539 => ?_)
                  · replace H := (ifT c539).symm.trans H
                    obtain ⟨t542, e543, H⟩ := bind_of H
                    refine reg hP hn hm [(5, .call [(0, 0)] [(0, 0)] [] [] 1 (.tup []) [(0, some (.row 2 36 (t542.map eBucket)))])] [0, 3, 4, 18, 24] [0] ⟨[(0, .own 0), (3, iV .i64 a3), (4, .im (.sc (.func (.func 78) #[] #[]))), (18, iV .i64 (IntKind.i64.wrap (Int.fdiv (IntKind.u64.wrap (IntKind.i64.wrap (a1 + a3))) 2))), (24, iV .i64 (IntKind.i64.wrap ((IntKind.i64.wrap ((IntKind.i64.wrap (Int.fdiv (IntKind.u64.wrap (IntKind.i64.wrap (a1 + a3))) 2)) + a2)) - x444)))], [(0, some (.row 2 36 (t542.map eBucket)))], 1⟩ [Enters Try.prog 103, Pv.Fn Try.prog 103 [.own 0, iV .i64 a1, iV .i64 x444, iV .i64 (IntKind.i64.wrap (Int.fdiv (IntKind.u64.wrap (IntKind.i64.wrap (a1 + a3))) 2)), .im (.sc (.func (.func 78) #[] #[]))] [(0, some (.row 2 36 (x535.map eBucket)))] 1 (fun r o => r = .tup [] ∧ o = [(0, some (.row 2 36 (t542.map eBucket)))])] (by kernel_rfl) ⟨by exact Try.call103, by exact ih x535 a1 x444 (IntKind.i64.wrap (Int.fdiv (IntKind.u64.wrap (IntKind.i64.wrap (a1 + a3))) 2)) _ e543, trivial⟩ ?_
                    obtain rfl := Option.some.inj H
                    exact Exists.intro _ (And.intro (fun _ _ h => h.conv (inv := [(0, 0)]) (vk := []) (e0 := []) (t := ⟨[(0, .own 0), (3, iV .i64 a3), (4, .im (.sc (.func (.func 78) #[] #[]))), (18, iV .i64 (IntKind.i64.wrap (Int.fdiv (IntKind.u64.wrap (IntKind.i64.wrap (a1 + a3))) 2))), (24, iV .i64 (IntKind.i64.wrap ((IntKind.i64.wrap ((IntKind.i64.wrap (Int.fdiv (IntKind.u64.wrap (IntKind.i64.wrap (a1 + a3))) 2)) + a2)) - x444)))], [(0, some (.row 2 36 (t542.map eBucket)))], 1⟩) (by kernel_rfl)) (And.intro rfl rfl))
                  · replace H := (ifF c539).symm.trans H
                    refine AWp.skip ?_
                    obtain rfl := Option.some.inj H
                    exact Exists.intro _ (And.intro (fun _ _ h => h.conv (inv := [(0, 0)]) (vk := []) (e0 := []) (t := ⟨[(0, .own 0), (3, iV .i64 a3), (4, .im (.sc (.func (.func 78) #[] #[]))), (18, iV .i64 (IntKind.i64.wrap (Int.fdiv (IntKind.u64.wrap (IntKind.i64.wrap (a1 + a3))) 2))), (24, iV .i64 (IntKind.i64.wrap ((IntKind.i64.wrap ((IntKind.i64.wrap (Int.fdiv (IntKind.u64.wrap (IntKind.i64.wrap (a1 + a3))) 2)) + a2)) - x444)))], [(0, some (.row 2 36 (x535.map eBucket)))], 1⟩) (by kernel_rfl)) (And.intro rfl rfl))
                · obtain ⟨x544, rfl⟩ : ∃ z, z = o578 := ⟨_, rfl⟩
                  rintro e s ⟨rfl, rfl⟩
                  refine AWp.seq ?_
                  obtain ⟨o580, e581, H⟩ := bind_of H
                  refine AWp.mono (Q := fun e s => (match (generalizing := false) o580 with | x547 => e = .normal ∧ s = ⟨[(0, .own 0), (3, iV .i64 a3), (4, .im (.sc (.func (.func 78) #[] #[]))), (18, iV .i64 (IntKind.i64.wrap (Int.fdiv (IntKind.u64.wrap (IntKind.i64.wrap (a1 + a3))) 2))), (24, iV .i64 (IntKind.i64.wrap ((IntKind.i64.wrap ((IntKind.i64.wrap (Int.fdiv (IntKind.u64.wrap (IntKind.i64.wrap (a1 + a3))) 2)) + a2)) - x444))), (213, bV x547)], [(0, some (.row 2 36 (x544.map eBucket)))], 1⟩)) (AWp.cv ?_) ?_
                  · replace H := e581; clear e581
                    rcases Bool.eq_false_or_eq_true (decide ((IntKind.i64.wrap (Int.fdiv (IntKind.u64.wrap (IntKind.i64.wrap (a1 + a3))) 2)) < (IntKind.i64.wrap ((IntKind.i64.wrap ((IntKind.i64.wrap (Int.fdiv (IntKind.u64.wrap (IntKind.i64.wrap (a1 + a3))) 2)) + a2)) - x444)))) with c546 | c546
                    · replace H := (ifT c546).symm.trans H
                      refine reg hP hn hm [(3, .b true)] [0, 3, 4, 18, 24, 213] [0] ⟨[(0, .own 0), (3, iV .i64 a3), (4, .im (.sc (.func (.func 78) #[] #[]))), (18, iV .i64 (IntKind.i64.wrap (Int.fdiv (IntKind.u64.wrap (IntKind.i64.wrap (a1 + a3))) 2))), (24, iV .i64 (IntKind.i64.wrap ((IntKind.i64.wrap ((IntKind.i64.wrap (Int.fdiv (IntKind.u64.wrap (IntKind.i64.wrap (a1 + a3))) 2)) + a2)) - x444))), (213, bV (decide ((IntKind.i64.wrap ((IntKind.i64.wrap ((IntKind.i64.wrap (Int.fdiv (IntKind.u64.wrap (IntKind.i64.wrap (a1 + a3))) 2)) + a2)) - x444)) < a3)))], [(0, some (.row 2 36 (x544.map eBucket)))], 1⟩ [(decide ((IntKind.i64.wrap (Int.fdiv (IntKind.u64.wrap (IntKind.i64.wrap (a1 + a3))) 2)) < (IntKind.i64.wrap ((IntKind.i64.wrap ((IntKind.i64.wrap (Int.fdiv (IntKind.u64.wrap (IntKind.i64.wrap (a1 + a3))) 2)) + a2)) - x444)))) = true] (by kernel_rfl) ⟨by exact c546, trivial⟩ ?_
                      obtain rfl := Option.some.inj H
                      exact Exists.intro _ (And.intro (fun _ _ h => h.conv (inv := [(0, 0)]) (vk := []) (e0 := []) (t := ⟨[(0, .own 0), (3, iV .i64 a3), (4, .im (.sc (.func (.func 78) #[] #[]))), (18, iV .i64 (IntKind.i64.wrap (Int.fdiv (IntKind.u64.wrap (IntKind.i64.wrap (a1 + a3))) 2))), (24, iV .i64 (IntKind.i64.wrap ((IntKind.i64.wrap ((IntKind.i64.wrap (Int.fdiv (IntKind.u64.wrap (IntKind.i64.wrap (a1 + a3))) 2)) + a2)) - x444))), (213, bV (decide ((IntKind.i64.wrap ((IntKind.i64.wrap ((IntKind.i64.wrap (Int.fdiv (IntKind.u64.wrap (IntKind.i64.wrap (a1 + a3))) 2)) + a2)) - x444)) < a3)))], [(0, some (.row 2 36 (x544.map eBucket)))], 1⟩) (by kernel_rfl)) (And.intro rfl rfl))
                    · replace H := (ifF c546).symm.trans H
                      refine reg hP hn hm [(3, .b false)] [0, 3, 4, 18, 24, 213] [0] ⟨[(0, .own 0), (3, iV .i64 a3), (4, .im (.sc (.func (.func 78) #[] #[]))), (18, iV .i64 (IntKind.i64.wrap (Int.fdiv (IntKind.u64.wrap (IntKind.i64.wrap (a1 + a3))) 2))), (24, iV .i64 (IntKind.i64.wrap ((IntKind.i64.wrap ((IntKind.i64.wrap (Int.fdiv (IntKind.u64.wrap (IntKind.i64.wrap (a1 + a3))) 2)) + a2)) - x444))), (213, bV false)], [(0, some (.row 2 36 (x544.map eBucket)))], 1⟩ [(decide ((IntKind.i64.wrap (Int.fdiv (IntKind.u64.wrap (IntKind.i64.wrap (a1 + a3))) 2)) < (IntKind.i64.wrap ((IntKind.i64.wrap ((IntKind.i64.wrap (Int.fdiv (IntKind.u64.wrap (IntKind.i64.wrap (a1 + a3))) 2)) + a2)) - x444)))) = false] (by kernel_rfl) ⟨by exact c546, trivial⟩ ?_
                      obtain rfl := Option.some.inj H
                      exact Exists.intro _ (And.intro (fun _ _ h => h.conv (inv := [(0, 0)]) (vk := []) (e0 := []) (t := ⟨[(0, .own 0), (3, iV .i64 a3), (4, .im (.sc (.func (.func 78) #[] #[]))), (18, iV .i64 (IntKind.i64.wrap (Int.fdiv (IntKind.u64.wrap (IntKind.i64.wrap (a1 + a3))) 2))), (24, iV .i64 (IntKind.i64.wrap ((IntKind.i64.wrap ((IntKind.i64.wrap (Int.fdiv (IntKind.u64.wrap (IntKind.i64.wrap (a1 + a3))) 2)) + a2)) - x444))), (213, bV false)], [(0, some (.row 2 36 (x544.map eBucket)))], 1⟩) (by kernel_rfl)) (And.intro rfl rfl))
                  · obtain ⟨x547, rfl⟩ : ∃ z, z = o580 := ⟨_, rfl⟩
                    rintro e s ⟨rfl, rfl⟩
                    obtain ⟨o582, e583, H⟩ := bind_of H
                    refine AWp.mono (Q := fun e s => (match (generalizing := false) o582 with | x553 => e = .normal ∧ s = ⟨[], [(0, some (.row 2 36 (x553.map eBucket)))], 1⟩)) (AWp.cv ?_) ?_
                    · replace H := e583; clear e583
                      refine AWp.cond x547 rfl (fun c548 => ?_) (fun c548 => ?_)
                      · replace H := (ifT c548).symm.trans H
                        obtain ⟨t551, e552, H⟩ := bind_of H
                        refine reg hP hn hm [(5, .call [(0, 0)] [(0, 0)] [] [] 1 (.tup []) [(0, some (.row 2 36 (t551.map eBucket)))])] [] [0] ⟨[], [(0, some (.row 2 36 (t551.map eBucket)))], 1⟩ [Enters Try.prog 103, Pv.Fn Try.prog 103 [.own 0, iV .i64 (IntKind.i64.wrap (Int.fdiv (IntKind.u64.wrap (IntKind.i64.wrap (a1 + a3))) 2)), iV .i64 (IntKind.i64.wrap ((IntKind.i64.wrap ((IntKind.i64.wrap (Int.fdiv (IntKind.u64.wrap (IntKind.i64.wrap (a1 + a3))) 2)) + a2)) - x444)), iV .i64 a3, .im (.sc (.func (.func 78) #[] #[]))] [(0, some (.row 2 36 (x544.map eBucket)))] 1 (fun r o => r = .tup [] ∧ o = [(0, some (.row 2 36 (t551.map eBucket)))])] (by kernel_rfl) ⟨by exact Try.call103, by exact ih x544 (IntKind.i64.wrap (Int.fdiv (IntKind.u64.wrap (IntKind.i64.wrap (a1 + a3))) 2)) (IntKind.i64.wrap ((IntKind.i64.wrap ((IntKind.i64.wrap (Int.fdiv (IntKind.u64.wrap (IntKind.i64.wrap (a1 + a3))) 2)) + a2)) - x444)) a3 _ e552, trivial⟩ ?_
                        obtain rfl := Option.some.inj H
                        exact Exists.intro _ (And.intro (fun _ _ h => h.conv (inv := [(0, 0)]) (vk := []) (e0 := []) (t := ⟨[], [(0, some (.row 2 36 (t551.map eBucket)))], 1⟩) (by kernel_rfl)) (And.intro rfl rfl))
                      · replace H := (ifF c548).symm.trans H
                        refine AWp.skip ?_
                        obtain rfl := Option.some.inj H
                        exact Exists.intro _ (And.intro (fun _ _ h => h.conv (inv := [(0, 0)]) (vk := []) (e0 := []) (t := ⟨[], [(0, some (.row 2 36 (x544.map eBucket)))], 1⟩) (by kernel_rfl)) (And.intro rfl rfl))
                    · obtain ⟨x553, rfl⟩ : ∃ z, z = o582 := ⟨_, rfl⟩
                      rintro e s ⟨rfl, rfl⟩
                      obtain rfl := Option.some.inj H
                      exact Exists.intro ⟨[], [(0, some (.row 2 36 (x553.map eBucket)))], 1⟩ (And.intro (fun _ _ h => h.conv (inv := [(0, 0)]) (vk := []) (e0 := []) (t := ⟨[], [(0, some (.row 2 36 (x553.map eBucket)))], 1⟩) (by kernel_rfl)) (And.intro (.inr rfl) (And.intro rfl (And.intro (by kernel_rfl) (by kernel_rfl)))))
def f_slices_stableCmpFunc_api_Bucket_hist_tidy_1.l0 (a1 : Int) (x213 : List TBucket) (x214 : Int) (x215 : Int) : Option ((List TBucket) × Int) := if (decide (x215 ≤ a1)) = true then ((f_slices_insertionSortCmpFunc_api_Bucket_hist_tidy_1.f x213 x214 x215) >>= fun t219 => f_slices_stableCmpFunc_api_Bucket_hist_tidy_1.l0 a1 t219 x215 (IntKind.i64.wrap (x215 + (20 : Int)))) else (some (x213, x214))
partial_fixpoint
def f_slices_stableCmpFunc_api_Bucket_hist_tidy_1.l2 (a1 : Int) (x605 : Int) (x612 : List TBucket) (x613 : Int) (x614 : Int) : Option ((List TBucket) × Int) := if (decide (x614 ≤ a1)) = true then ((f_slices_symMergeCmpFunc_api_Bucket_hist_tidy_1.f x612 x613 (IntKind.i64.wrap (x613 + x605)) x614) >>= fun t618 => f_slices_stableCmpFunc_api_Bucket_hist_tidy_1.l2 a1 x605 t618 x614 (IntKind.i64.wrap (x614 + (IntKind.i64.wrap ((2 : Int) * x605))))) else (some (x612, x613))
partial_fixpoint
def f_slices_stableCmpFunc_api_Bucket_hist_tidy_1.l1 (a1 : Int) (x604 : List TBucket) (x605 : Int) : Option (List TBucket) := if (decide (x605 < a1)) = true then ((f_slices_stableCmpFunc_api_Bucket_hist_tidy_1.l2 a1 x605 x604 0 (IntKind.i64.wrap ((2 : Int) * x605))) >>= fun oo => match oo with | (x620, x621) => (((if (decide ((IntKind.i64.wrap (x621 + x605)) < a1)) = true then ((f_slices_symMergeCmpFunc_api_Bucket_hist_tidy_1.f x620 x621 (IntKind.i64.wrap (x621 + x605)) a1) >>= fun t625 => some t625) else (some x620)) : Option (List TBucket)) >>= fun x627 => f_slices_stableCmpFunc_api_Bucket_hist_tidy_1.l1 a1 x627 (IntKind.i64.wrap (x605 * (2 : Int))))) else (some x604)
partial_fixpoint
def f_slices_stableCmpFunc_api_Bucket_hist_tidy_1.f (a0 : List TBucket) (a1 : Int) : Option (List TBucket) := (f_slices_stableCmpFunc_api_Bucket_hist_tidy_1.l0 a1 a0 0 20) >>= fun oo => match oo with | (x221, x222) => ((f_slices_insertionSortCmpFunc_api_Bucket_hist_tidy_1.f x221 x222 a1) >>= fun t225 => (f_slices_stableCmpFunc_api_Bucket_hist_tidy_1.l1 a1 t225 20) >>= fun x628 => some x628)
theorem f_slices_stableCmpFunc_api_Bucket_hist_tidy_1.ok (a0 : List TBucket) (a1 : Int) (r : List TBucket) (H : f_slices_stableCmpFunc_api_Bucket_hist_tidy_1.f a0 a1 = some r) : Pv.Fn Try.prog 92 [.own 0, iV .i64 a1, .im (.sc (.func (.func 78) #[] #[]))] [(0, some (.row 2 36 (a0.map eBucket)))] 1 (fun x o => x = .tup [] ∧ o = [(0, some (.row 2 36 (r.map eBucket)))]) := by
  unfold f_slices_stableCmpFunc_api_Bucket_hist_tidy_1.f at H
  refine Fn.bodyK [0] Try.func92 rfl rfl (fun Γ hP hn => ?_)
  have hm : Try.prog.follows .mixedOrders = true := by kernel_rfl
  replace hn : Γ.n = 63 := hn
  refine AWp.seq ?_
  refine reg hP hn hm [] [0, 1, 2, 6] [0] ⟨[(0, .own 0), (1, iV .i64 a1), (2, .im (.sc (.func (.func 78) #[] #[]))), (6, iV .i64 20)], [(0, some (.row 2 36 (a0.map eBucket)))], 1⟩ [] (by kernel_rfl) trivial ?_
  refine AWp.seq ?_
  refine reg hP hn hm [] [0, 1, 2, 6, 7, 8] [0] ⟨[(0, .own 0), (1, iV .i64 a1), (2, .im (.sc (.func (.func 78) #[] #[]))), (6, iV .i64 20), (7, iV .i64 0), (8, iV .i64 20)], [(0, some (.row 2 36 (a0.map eBucket)))], 1⟩ [] (by kernel_rfl) trivial ?_
  refine AWp.seq ?_
  refine AWp.block ?_
  obtain ⟨o629, e630, H⟩ := bind_of H
  refine AWp.loop (LWp.conv (inv := [(0, 0)]) (vk := []) (e0 := []) (t := ⟨[(0, .own 0), (1, iV .i64 a1), (2, .im (.sc (.func (.func 78) #[] #[]))), (6, iV .i64 20), (7, iV .i64 0), (8, iV .i64 20)], [(0, some (.row 2 36 (a0.map eBucket)))], 1⟩) (by kernel_rfl) ?_)
  refine LWp.mono (Q := fun e s => (match (generalizing := false) o629 with | (x221, x222) => e = .exit 0 ∧ s = ⟨[(0, .own 0), (1, iV .i64 a1), (2, .im (.sc (.func (.func 78) #[] #[]))), (6, iV .i64 20), (7, iV .i64 x222)], [(0, some (.row 2 36 (x221.map eBucket)))], 1⟩)) (LWp.cv (withBody (fun body hbody => ?_))) ?_
  · refine f_slices_stableCmpFunc_api_Bucket_hist_tidy_1.l0.partial_correctness a1 (motive := fun x213 x214 x215 o629 => LWp Γ body (fun e s => ∃ t, Cv Γ s t ∧ (match (generalizing := false) o629 with | (x221, x222) => e = .exit 0 ∧ t = ⟨[(0, .own 0), (1, iV .i64 a1), (2, .im (.sc (.func (.func 78) #[] #[]))), (6, iV .i64 20), (7, iV .i64 x222)], [(0, some (.row 2 36 (x221.map eBucket)))], 1⟩)) ⟨[(0, .own 0), (1, iV .i64 a1), (2, .im (.sc (.func (.func 78) #[] #[]))), (6, iV .i64 20), (7, iV .i64 x214), (8, iV .i64 x215)], [(0, some (.row 2 36 (x213.map eBucket)))], 1⟩) ?_ _ _ _ _ e630
    clear H e630 o629; intro self ih x213 x214 x215 o629 H
    subst hbody
    refine LWp.round ?_
    refine AWp.seq ?_
    refine AWp.seq ?_
    refine reg hP hn hm [] [0, 1, 2, 6, 7, 8, 13] [0] ⟨[(0, .own 0), (1, iV .i64 a1), (2, .im (.sc (.func (.func 78) #[] #[]))), (6, iV .i64 20), (7, iV .i64 x214), (8, iV .i64 x215), (13, bV (decide (x215 ≤ a1)))], [(0, some (.row 2 36 (x213.map eBucket)))], 1⟩ [] (by kernel_rfl) trivial ?_
    refine AWp.cond (decide (x215 ≤ a1)) rfl (fun c216 => ?_) (fun c216 => ?_)
    · replace H := (ifT c216).symm.trans H
      refine AWp.skip ?_
      refine AWp.block ?_
      refine AWp.seq ?_
      obtain ⟨t219, e220, H⟩ := bind_of H
      refine reg hP hn hm [(4, .call [(0, 0)] [(0, 0)] [] [] 1 (.tup []) [(0, some (.row 2 36 (t219.map eBucket)))])] [0, 1, 2, 6, 8] [0] ⟨[(0, .own 0), (1, iV .i64 a1), (2, .im (.sc (.func (.func 78) #[] #[]))), (6, iV .i64 20), (8, iV .i64 x215)], [(0, some (.row 2 36 (t219.map eBucket)))], 1⟩ [Enters Try.prog 102, Pv.Fn Try.prog 102 [.own 0, iV .i64 x214, iV .i64 x215, .im (.sc (.func (.func 78) #[] #[]))] [(0, some (.row 2 36 (x213.map eBucket)))] 1 (fun r o => r = .tup [] ∧ o = [(0, some (.row 2 36 (t219.map eBucket)))])] (by kernel_rfl) ⟨by exact Try.call102, by exact f_slices_insertionSortCmpFunc_api_Bucket_hist_tidy_1.ok x213 x214 x215 t219 e220, trivial⟩ ?_
      refine AWp.seq ?_
      refine reg hP hn hm [] [0, 1, 2, 6, 7, 8] [0] ⟨[(0, .own 0), (1, iV .i64 a1), (2, .im (.sc (.func (.func 78) #[] #[]))), (6, iV .i64 20), (7, iV .i64 x215), (8, iV .i64 x215)], [(0, some (.row 2 36 (t219.map eBucket)))], 1⟩ [] (by kernel_rfl) trivial ?_
      refine reg hP hn hm [] [0, 1, 2, 6, 7, 8] [0] ⟨[(0, .own 0), (1, iV .i64 a1), (2, .im (.sc (.func (.func 78) #[] #[]))), (6, iV .i64 20), (7, iV .i64 x215), (8, iV .i64 (IntKind.i64.wrap (x215 + (20 : Int))))], [(0, some (.row 2 36 (t219.map eBucket)))], 1⟩ [] (by kernel_rfl) trivial ?_
      exact LWp.conv (inv := [(0, 0)]) (vk := []) (e0 := []) (t := ⟨[(0, .own 0), (1, iV .i64 a1), (2, .im (.sc (.func (.func 78) #[] #[]))), (6, iV .i64 20), (7, iV .i64 x215), (8, iV .i64 (IntKind.i64.wrap (x215 + (20 : Int))))], [(0, some (.row 2 36 (t219.map eBucket)))], 1⟩) (by kernel_rfl) (ih _ _ _ _ H)
    · replace H := (ifF c216).symm.trans H
      refine AWp.exit ?_
      obtain rfl := Option.some.inj H
      exact Exists.intro _ (And.intro (fun _ _ h => h.conv (inv := [(0, 0)]) (vk := []) (e0 := []) (t := ⟨[(0, .own 0), (1, iV .i64 a1), (2, .im (.sc (.func (.func 78) #[] #[]))), (6, iV .i64 20), (7, iV .i64 x214)], [(0, some (.row 2 36 (x213.map eBucket)))], 1⟩) (by kernel_rfl)) (And.intro rfl rfl))
  · obtain ⟨x221, x222⟩ := o629
    rintro e s ⟨rfl, rfl⟩
    refine AWp.seq ?_
    obtain ⟨t225, e226, H⟩ := bind_of H
    refine reg hP hn hm [(4, .call [(0, 0)] [(0, 0)] [] [] 1 (.tup []) [(0, some (.row 2 36 (t225.map eBucket)))])] [0, 1, 2, 6] [0] ⟨[(0, .own 0), (1, iV .i64 a1), (2, .im (.sc (.func (.func 78) #[] #[]))), (6, iV .i64 20)], [(0, some (.row 2 36 (t225.map eBucket)))], 1⟩ [Enters Try.prog 102, Pv.Fn Try.prog 102 [.own 0, iV .i64 x222, iV .i64 a1, .im (.sc (.func (.func 78) #[] #[]))] [(0, some (.row 2 36 (x221.map eBucket)))] 1 (fun r o => r = .tup [] ∧ o = [(0, some (.row 2 36 (t225.map eBucket)))])] (by kernel_rfl) ⟨by exact Try.call102, by exact f_slices_insertionSortCmpFunc_api_Bucket_hist_tidy_1.ok x221 x222 a1 t225 e226, trivial⟩ ?_
    refine AWp.block ?_
    obtain ⟨o631, e632, H⟩ := bind_of H
    refine AWp.loop (LWp.conv (inv := [(0, 0)]) (vk := []) (e0 := []) (t := ⟨[(0, .own 0), (1, iV .i64 a1), (2, .im (.sc (.func (.func 78) #[] #[]))), (6, iV .i64 20)], [(0, some (.row 2 36 (t225.map eBucket)))], 1⟩) (by kernel_rfl) ?_)
    refine LWp.mono (Q := fun e s => (match (generalizing := false) o631 with | x628 => e = .exit 2 ∧ s = ⟨[], [(0, some (.row 2 36 (x628.map eBucket)))], 1⟩)) (LWp.cv (withBody (fun body hbody => ?_))) ?_
    · refine f_slices_stableCmpFunc_api_Bucket_hist_tidy_1.l1.partial_correctness a1 (motive := fun x604 x605 o631 => LWp Γ body (fun e s => ∃ t, Cv Γ s t ∧ (match (generalizing := false) o631 with | x628 => e = .exit 2 ∧ t = ⟨[], [(0, some (.row 2 36 (x628.map eBucket)))], 1⟩)) ⟨[(0, .own 0), (1, iV .i64 a1), (2, .im (.sc (.func (.func 78) #[] #[]))), (6, iV .i64 x605)], [(0, some (.row 2 36 (x604.map eBucket)))], 1⟩) ?_ _ _ _ e632
      clear H e632 o631; intro self ih x604 x605 o631 H
      subst hbody
      refine LWp.round ?_
      refine AWp.seq ?_
      refine AWp.seq ?_
      refine reg hP hn hm [] [0, 1, 2, 6, 30] [0] ⟨[(0, .own 0), (1, iV .i64 a1), (2, .im (.sc (.func (.func 78) #[] #[]))), (6, iV .i64 x605), (30, bV (decide (x605 < a1)))], [(0, some (.row 2 36 (x604.map eBucket)))], 1⟩ [] (by kernel_rfl) trivial ?_
      refine AWp.cond (decide (x605 < a1)) rfl (fun c606 => ?_) (fun c606 => ?_)
      · replace H := (ifT c606).symm.trans H
        refine AWp.skip ?_
        refine AWp.block ?_
        refine AWp.seq ?_
        refine reg hP hn hm [] [0, 1, 2, 6, 7, 8] [0] ⟨[(0, .own 0), (1, iV .i64 a1), (2, .im (.sc (.func (.func 78) #[] #[]))), (6, iV .i64 x605), (7, iV .i64 0), (8, iV .i64 (IntKind.i64.wrap ((2 : Int) * x605)))], [(0, some (.row 2 36 (x604.map eBucket)))], 1⟩ [] (by kernel_rfl) trivial ?_
        refine AWp.seq ?_
        refine AWp.block ?_
        obtain ⟨o633, e634, H⟩ := bind_of H
        refine AWp.loop (LWp.conv (inv := [(0, 0)]) (vk := []) (e0 := []) (t := ⟨[(0, .own 0), (1, iV .i64 a1), (2, .im (.sc (.func (.func 78) #[] #[]))), (6, iV .i64 x605), (7, iV .i64 0), (8, iV .i64 (IntKind.i64.wrap ((2 : Int) * x605)))], [(0, some (.row 2 36 (x604.map eBucket)))], 1⟩) (by kernel_rfl) ?_)
        refine LWp.mono (Q := fun e s => (match (generalizing := false) o633 with | (x620, x621) => e = .exit 4 ∧ s = ⟨[(0, .own 0), (1, iV .i64 a1), (2, .im (.sc (.func (.func 78) #[] #[]))), (6, iV .i64 x605), (7, iV .i64 x621)], [(0, some (.row 2 36 (x620.map eBucket)))], 1⟩)) (LWp.cv (withBody (fun body hbody => ?_))) ?_
        · refine f_slices_stableCmpFunc_api_Bucket_hist_tidy_1.l2.partial_correctness a1 x605 (motive := fun x612 x613 x614 o633 => LWp Γ body (fun e s => ∃ t, Cv Γ s t ∧ (match (generalizing := false) o633 with | (x620, x621) => e = .exit 4 ∧ t = ⟨[(0, .own 0), (1, iV .i64 a1), (2, .im (.sc (.func (.func 78) #[] #[]))), (6, iV .i64 x605), (7, iV .i64 x621)], [(0, some (.row 2 36 (x620.map eBucket)))], 1⟩)) ⟨[(0, .own 0), (1, iV .i64 a1), (2, .im (.sc (.func (.func 78) #[] #[]))), (6, iV .i64 x605), (7, iV .i64 x613), (8, iV .i64 x614)], [(0, some (.row 2 36 (x612.map eBucket)))], 1⟩) ?_ _ _ _ _ e634
          clear H e634 o633; intro self ih x612 x613 x614 o633 H
          subst hbody
          refine LWp.round ?_
          refine AWp.seq ?_
          refine AWp.seq ?_
          refine reg hP hn hm [] [0, 1, 2, 6, 7, 8, 35] [0] ⟨[(0, .own 0), (1, iV .i64 a1), (2, .im (.sc (.func (.func 78) #[] #[]))), (6, iV .i64 x605), (7, iV .i64 x613), (8, iV .i64 x614), (35, bV (decide (x614 ≤ a1)))], [(0, some (.row 2 36 (x612.map eBucket)))], 1⟩ [] (by kernel_rfl) trivial ?_
          refine AWp.cond (decide (x614 ≤ a1)) rfl (fun c615 => ?_) (fun c615 => ?_)
          · replace H := (ifT c615).symm.trans H
            refine AWp.skip ?_
            refine AWp.block ?_
            refine AWp.seq ?_
            obtain ⟨t618, e619, H⟩ := bind_of H
            refine reg hP hn hm [(7, .call [(0, 0)] [(0, 0)] [] [] 1 (.tup []) [(0, some (.row 2 36 (t618.map eBucket)))])] [0, 1, 2, 6, 8] [0] ⟨[(0, .own 0), (1, iV .i64 a1), (2, .im (.sc (.func (.func 78) #[] #[]))), (6, iV .i64 x605), (8, iV .i64 x614)], [(0, some (.row 2 36 (t618.map eBucket)))], 1⟩ [Enters Try.prog 103, Pv.Fn Try.prog 103 [.own 0, iV .i64 x613, iV .i64 (IntKind.i64.wrap (x613 + x605)), iV .i64 x614, .im (.sc (.func (.func 78) #[] #[]))] [(0, some (.row 2 36 (x612.map eBucket)))] 1 (fun r o => r = .tup [] ∧ o = [(0, some (.row 2 36 (t618.map eBucket)))])] (by kernel_rfl) ⟨by exact Try.call103, by exact f_slices_symMergeCmpFunc_api_Bucket_hist_tidy_1.ok x612 x613 (IntKind.i64.wrap (x613 + x605)) x614 t618 e619, trivial⟩ ?_
            refine AWp.seq ?_
            refine reg hP hn hm [] [0, 1, 2, 6, 7, 8] [0] ⟨[(0, .own 0), (1, iV .i64 a1), (2, .im (.sc (.func (.func 78) #[] #[]))), (6, iV .i64 x605), (7, iV .i64 x614), (8, iV .i64 x614)], [(0, some (.row 2 36 (t618.map eBucket)))], 1⟩ [] (by kernel_rfl) trivial ?_
            refine reg hP hn hm [] [0, 1, 2, 6, 7, 8] [0] ⟨[(0, .own 0), (1, iV .i64 a1), (2, .im (.sc (.func (.func 78) #[] #[]))), (6, iV .i64 x605), (7, iV .i64 x614), (8, iV .i64 (IntKind.i64.wrap (x614 + (IntKind.i64.wrap ((2 : Int) * x605)))))], [(0, some (.row 2 36 (t618.map eBucket)))], 1⟩ [] (by kernel_rfl) trivial ?_
            exact LWp.conv (inv := [(0, 0)]) (vk := []) (e0 := []) (t := ⟨[(0, .own 0), (1, iV .i64 a1), (2, .im (.sc (.func (.func 78) #[] #[]))), (6, iV .i64 x605), (7, iV .i64 x614), (8, iV .i64 (IntKind.i64.wrap (x614 + (IntKind.i64.wrap ((2 : Int) * x605)))))], [(0, some (.row 2 36 (t618.map eBucket)))], 1⟩) (by kernel_rfl) (ih _ _ _ _ H)
          · replace H := (ifF c615).symm.trans H
            refine AWp.exit ?_
            obtain rfl := Option.some.inj H
            exact Exists.intro _ (And.intro (fun _ _ h => h.conv (inv := [(0, 0)]) (vk := []) (e0 := []) (t := ⟨[(0, .own 0), (1, iV .i64 a1), (2, .im (.sc (.func (.func 78) #[] #[]))), (6, iV .i64 x605), (7, iV .i64 x613)], [(0, some (.row 2 36 (x612.map eBucket)))], 1⟩) (by kernel_rfl)) (And.intro rfl rfl))
        · obtain ⟨x620, x621⟩ := o633
          rintro e s ⟨rfl, rfl⟩
          refine AWp.seq ?_
          refine AWp.seq ?_
          refine reg hP hn hm [] [0, 1, 2, 6, 7, 9] [0] ⟨[(0, .own 0), (1, iV .i64 a1), (2, .im (.sc (.func (.func 78) #[] #[]))), (6, iV .i64 x605), (7, iV .i64 x621), (9, iV .i64 (IntKind.i64.wrap (x621 + x605)))], [(0, some (.row 2 36 (x620.map eBucket)))], 1⟩ [] (by kernel_rfl) trivial ?_
          refine AWp.seq ?_
          refine reg hP hn hm [] [0, 1, 2, 6, 7, 9, 54] [0] ⟨[(0, .own 0), (1, iV .i64 a1), (2, .im (.sc (.func (.func 78) #[] #[]))), (6, iV .i64 x605), (7, iV .i64 x621), (9, iV .i64 (IntKind.i64.wrap (x621 + x605))), (54, bV (decide ((IntKind.i64.wrap (x621 + x605)) < a1)))], [(0, some (.row 2 36 (x620.map eBucket)))], 1⟩ [] (by kernel_rfl) trivial ?_
          obtain ⟨o635, e636, H⟩ := bind_of H
          refine AWp.mono (Q := fun e s => (match (generalizing := false) o635 with | x627 => e = .normal ∧ s = ⟨[(0, .own 0), (1, iV .i64 a1), (2, .im (.sc (.func (.func 78) #[] #[]))), (6, iV .i64 x605)], [(0, some (.row 2 36 (x627.map eBucket)))], 1⟩)) (AWp.cv ?_) ?_
          · replace H := e636; clear e636
            refine AWp.cond (decide ((IntKind.i64.wrap (x621 + x605)) < a1)) rfl (fun c622 => ?_) (fun c622 => ?_)
            · replace H := (ifT c622).symm.trans H
              obtain ⟨t625, e626, H⟩ := bind_of H
              refine reg hP hn hm [(5, .call [(0, 0)] [(0, 0)] [] [] 1 (.tup []) [(0, some (.row 2 36 (t625.map eBucket)))])] [0, 1, 2, 6] [0] ⟨[(0, .own 0), (1, iV .i64 a1), (2, .im (.sc (.func (.func 78) #[] #[]))), (6, iV .i64 x605)], [(0, some (.row 2 36 (t625.map eBucket)))], 1⟩ [Enters Try.prog 103, Pv.Fn Try.prog 103 [.own 0, iV .i64 x621, iV .i64 (IntKind.i64.wrap (x621 + x605)), iV .i64 a1, .im (.sc (.func (.func 78) #[] #[]))] [(0, some (.row 2 36 (x620.map eBucket)))] 1 (fun r o => r = .tup [] ∧ o = [(0, some (.row 2 36 (t625.map eBucket)))])] (by kernel_rfl) ⟨by exact Try.call103, by exact f_slices_symMergeCmpFunc_api_Bucket_hist_tidy_1.ok x620 x621 (IntKind.i64.wrap (x621 + x605)) a1 t625 e626, trivial⟩ ?_
              obtain rfl := Option.some.inj H
              exact Exists.intro _ (And.intro (fun _ _ h => h.conv (inv := [(0, 0)]) (vk := []) (e0 := []) (t := ⟨[(0, .own 0), (1, iV .i64 a1), (2, .im (.sc (.func (.func 78) #[] #[]))), (6, iV .i64 x605)], [(0, some (.row 2 36 (t625.map eBucket)))], 1⟩) (by kernel_rfl)) (And.intro rfl rfl))
            · replace H := (ifF c622).symm.trans H
              refine AWp.skip ?_
              obtain rfl := Option.some.inj H
              exact Exists.intro _ (And.intro (fun _ _ h => h.conv (inv := [(0, 0)]) (vk := []) (e0 := []) (t := ⟨[(0, .own 0), (1, iV .i64 a1), (2, .im (.sc (.func (.func 78) #[] #[]))), (6, iV .i64 x605)], [(0, some (.row 2 36 (x620.map eBucket)))], 1⟩) (by kernel_rfl)) (And.intro rfl rfl))
          · obtain ⟨x627, rfl⟩ : ∃ z, z = o635 := ⟨_, rfl⟩
            rintro e s ⟨rfl, rfl⟩
            refine reg hP hn hm [] [0, 1, 2, 6] [0] ⟨[(0, .own 0), (1, iV .i64 a1), (2, .im (.sc (.func (.func 78) #[] #[]))), (6, iV .i64 (IntKind.i64.wrap (x605 * (2 : Int))))], [(0, some (.row 2 36 (x627.map eBucket)))], 1⟩ [] (by kernel_rfl) trivial ?_
            exact LWp.conv (inv := [(0, 0)]) (vk := []) (e0 := []) (t := ⟨[(0, .own 0), (1, iV .i64 a1), (2, .im (.sc (.func (.func 78) #[] #[]))), (6, iV .i64 (IntKind.i64.wrap (x605 * (2 : Int))))], [(0, some (.row 2 36 (x627.map eBucket)))], 1⟩) (by kernel_rfl) (ih _ _ _ H)
      · replace H := (ifF c606).symm.trans H
        refine AWp.exit ?_
        obtain rfl := Option.some.inj H
        exact Exists.intro _ (And.intro (fun _ _ h => h.conv (inv := [(0, 0)]) (vk := []) (e0 := []) (t := ⟨[], [(0, some (.row 2 36 (x604.map eBucket)))], 1⟩) (by kernel_rfl)) (And.intro rfl rfl))
    · obtain ⟨x628, rfl⟩ : ∃ z, z = o631 := ⟨_, rfl⟩
      rintro e s ⟨rfl, rfl⟩
      obtain rfl := Option.some.inj H
      exact Exists.intro ⟨[], [(0, some (.row 2 36 (x628.map eBucket)))], 1⟩ (And.intro (fun _ _ h => h.conv (inv := [(0, 0)]) (vk := []) (e0 := []) (t := ⟨[], [(0, some (.row 2 36 (x628.map eBucket)))], 1⟩) (by kernel_rfl)) (And.intro (.inr rfl) (And.intro rfl (And.intro (by kernel_rfl) (by kernel_rfl)))))
def f_slices_SortStableFunc_api_Bucket_hist_tidy_1.f (a0 : List TBucket) : Option (List TBucket) := (f_slices_stableCmpFunc_api_Bucket_hist_tidy_1.f a0 (a0.length : Int)) >>= fun t639 => some t639
theorem f_slices_SortStableFunc_api_Bucket_hist_tidy_1.ok (a0 : List TBucket) (r : List TBucket) (H : f_slices_SortStableFunc_api_Bucket_hist_tidy_1.f a0 = some r) : Pv.Fn Try.prog 77 [.own 0, .im (.sc (.func (.func 78) #[] #[]))] [(0, some (.row 2 36 (a0.map eBucket)))] 1 (fun x o => x = .tup [] ∧ o = [(0, some (.row 2 36 (r.map eBucket)))]) := by
  unfold f_slices_SortStableFunc_api_Bucket_hist_tidy_1.f at H
  refine Fn.bodyK [0] Try.func77 rfl rfl (fun Γ hP hn => ?_)
  have hm : Try.prog.follows .mixedOrders = true := by kernel_rfl
  replace hn : Γ.n = 9 := hn
  obtain ⟨t639, e640, H⟩ := bind_of H
  refine reg hP hn hm [(2, .any (iV .i64 (a0.length : Int))), (4, .call [(0, 0)] [(0, 0)] [] [] 1 (.tup []) [(0, some (.row 2 36 (t639.map eBucket)))])] [] [0] ⟨[], [(0, some (.row 2 36 (t639.map eBucket)))], 1⟩ [((a0.map eBucket).length : Int) = (a0.length : Int), Enters Try.prog 92, Pv.Fn Try.prog 92 [.own 0, iV .i64 (a0.length : Int), .im (.sc (.func (.func 78) #[] #[]))] [(0, some (.row 2 36 (a0.map eBucket)))] 1 (fun r o => r = .tup [] ∧ o = [(0, some (.row 2 36 (t639.map eBucket)))])] (by kernel_rfl) ⟨by rw [len_map], by exact Try.call92, by exact f_slices_stableCmpFunc_api_Bucket_hist_tidy_1.ok a0 (a0.length : Int) t639 e640, trivial⟩ ?_
  obtain rfl := Option.some.inj H
  exact Exists.intro ⟨[], [(0, some (.row 2 36 (t639.map eBucket)))], 1⟩ (And.intro (fun _ _ h => h.conv (inv := [(0, 0)]) (vk := []) (e0 := []) (t := ⟨[], [(0, some (.row 2 36 (t639.map eBucket)))], 1⟩) (by kernel_rfl)) (And.intro (.inr rfl) (And.intro rfl (And.intro (by kernel_rfl) (by kernel_rfl)))))
def f_num_Add.l0 (a0 : List Int) (x689 : Int) (x690 : Int) : Option ((Int × Int) ⊕ Int) := if (decide (x690 < (a0.length : Int))) = true then ((at? a0 x690) >>= fun b695 => (chk (0 ≤ x689 ∧ 0 ≤ b695 ∧ 0 ≤ (0 : Int) ∧ (0 : Int) ≤ (1 : Int))) >>= fun _ => if (((x689 + b695 + (0 : Int)) / 18446744073709551616) != (0 : Int)) = true then (some (.inl (0, 5))) else (f_num_Add.l0 a0 ((x689 + b695 + (0 : Int)) % 18446744073709551616) (IntKind.i64.wrap (x690 + (1 : Int))))) else (some (.inr x689))
partial_fixpoint
def f_num_Add.f (a0 : List Int) : Option (Int × Int) := (f_num_Add.l0 a0 0 0) >>= fun oo => match oo with | .inl rr => (some rr) | .inr x701 => (some (x701, 0))
theorem f_num_Add.ok (a0 : List Int) (r : Int × Int) (H : f_num_Add.f a0 = some r) : Pv.Fn Try.prog 79 [.im (.row (a0.map (encInt .u64)))] [] 0 (fun x o => x = .tup [iV .u64 r.1, iV .i64 r.2] ∧ o = []) := by
  unfold f_num_Add.f at H
  refine Fn.bodyK [] Try.func79 rfl rfl (fun Γ hP hn => ?_)
  have hm : Try.prog.follows .mixedOrders = true := by kernel_rfl
  replace hn : Γ.n = 26 := hn
  refine AWp.seq ?_
  refine reg hP hn hm [] [0] [] ⟨[(0, .im (.row (a0.map (encInt .u64))))], [], 0⟩ [] (by kernel_rfl) trivial ?_
  refine AWp.seq ?_
  refine reg hP hn hm [] [0, 4] [] ⟨[(0, .im (.row (a0.map (encInt .u64)))), (4, iV .u64 0)], [], 0⟩ [] (by kernel_rfl) trivial ?_
  refine AWp.seq ?_
  refine AWp.seq ?_
  refine reg hP hn hm [(1, .any (iV .i64 (a0.length : Int)))] [4, 9, 10, 11] [] ⟨[(4, iV .u64 0), (9, .im (.row (a0.map (encInt .u64)))), (10, iV .i64 (a0.length : Int)), (11, iV .i64 0)], [], 0⟩ [((a0.map (encInt .u64)).length : Int) = (a0.length : Int)] (by kernel_rfl) ⟨by rw [len_map], trivial⟩ ?_
  refine AWp.block ?_
  obtain ⟨o702, e703, H⟩ := bind_of H
  refine AWp.loop (LWp.conv (inv := []) (vk := []) (e0 := []) (t := ⟨[(4, iV .u64 0), (9, .im (.row (a0.map (encInt .u64)))), (10, iV .i64 (a0.length : Int)), (11, iV .i64 0)], [], 0⟩) (by kernel_rfl) ?_)
  refine LWp.mono (Q := fun e s => (match (generalizing := false) o702 with | .inl rr => e = .ret ∧ s.floor = 0 ∧ resOf Try.prog Try.f79 s = some (.tup [iV .u64 rr.1, iV .i64 rr.2]) ∧ ([] : List (Nat × Option MObj)) = [] | .inr x701 => e = .exit 0 ∧ s = ⟨[(4, iV .u64 x701)], [], 0⟩)) (LWp.cv (withBody (fun body hbody => ?_))) ?_
  · refine f_num_Add.l0.partial_correctness a0 (motive := fun x689 x690 o702 => LWp Γ body (fun e s => ∃ t, Cv Γ s t ∧ (match (generalizing := false) o702 with | .inl rr => e = .ret ∧ t.floor = 0 ∧ resOf Try.prog Try.f79 t = some (.tup [iV .u64 rr.1, iV .i64 rr.2]) ∧ ([] : List (Nat × Option MObj)) = [] | .inr x701 => e = .exit 0 ∧ t = ⟨[(4, iV .u64 x701)], [], 0⟩)) ⟨[(4, iV .u64 x689), (9, .im (.row (a0.map (encInt .u64)))), (10, iV .i64 (a0.length : Int)), (11, iV .i64 x690)], [], 0⟩) ?_ _ _ _ e703
    clear H e703 o702; intro self ih x689 x690 o702 H
    subst hbody
    refine LWp.round ?_
    refine AWp.seq ?_
    refine reg hP hn hm [] [4, 9, 10, 11, 12] [] ⟨[(4, iV .u64 x689), (9, .im (.row (a0.map (encInt .u64)))), (10, iV .i64 (a0.length : Int)), (11, iV .i64 x690), (12, bV (decide (x690 < (a0.length : Int))))], [], 0⟩ [] (by kernel_rfl) trivial ?_
    refine AWp.seq ?_
    refine AWp.cond (decide (x690 < (a0.length : Int))) rfl (fun c691 => ?_) (fun c691 => ?_)
    · replace H := (ifT c691).symm.trans H
      refine AWp.skip ?_
      refine AWp.seq ?_
      refine AWp.block ?_
      refine AWp.seq ?_
      obtain ⟨b695, p696, q697, H⟩ := at_of H
      refine reg hP hn hm [(0, .c ((encInt .u64) b695))] [4, 6, 9, 10, 11] [] ⟨[(4, iV .u64 x689), (6, iV .u64 b695), (9, .im (.row (a0.map (encInt .u64)))), (10, iV .i64 (a0.length : Int)), (11, iV .i64 x690)], [], 0⟩ [0 ≤ x690, (a0.map (encInt .u64))[(Int.toNat (x690))]? = some ((encInt .u64) b695)] (by kernel_rfl) ⟨by exact p696, by exact el_map (encInt .u64) q697, trivial⟩ ?_
      refine AWp.seq ?_
      obtain ⟨c699, H⟩ := chk_of H
      refine reg hP hn hm [(2, .ext (.tup [iV .u64 ((x689 + b695 + (0 : Int)) % 18446744073709551616), iV .u64 ((x689 + b695 + (0 : Int)) / 18446744073709551616)]))] [7, 8, 9, 10, 11] [] ⟨[(7, iV .u64 ((x689 + b695 + (0 : Int)) % 18446744073709551616)), (8, iV .u64 ((x689 + b695 + (0 : Int)) / 18446744073709551616)), (9, .im (.row (a0.map (encInt .u64)))), (10, iV .i64 (a0.length : Int)), (11, iV .i64 x690)], [], 0⟩ [∀ w, (callFunc 93 ([.int .u64 x689, .int .u64 b695, .int .u64 (0 : Int)] : List Value).toArray).run Try.prog w = .ok (.value (.tuple #[.int .u64 ((x689 + b695 + (0 : Int)) % 18446744073709551616), .int .u64 ((x689 + b695 + (0 : Int)) / 18446744073709551616)])) w] (by kernel_rfl) ⟨by exact fun w => x_add64 (fn := Try.f93) Try.func93 (by kernel_rfl) rfl (by kernel_rfl) (by kernel_rfl) c699 w, trivial⟩ ?_
      refine AWp.seq ?_
      refine AWp.seq ?_
      refine reg hP hn hm [] [7, 9, 10, 11, 22] [] ⟨[(7, iV .u64 ((x689 + b695 + (0 : Int)) % 18446744073709551616)), (9, .im (.row (a0.map (encInt .u64)))), (10, iV .i64 (a0.length : Int)), (11, iV .i64 x690), (22, bV (((x689 + b695 + (0 : Int)) / 18446744073709551616) != (0 : Int)))], [], 0⟩ [] (by kernel_rfl) trivial ?_
      refine AWp.cond (((x689 + b695 + (0 : Int)) / 18446744073709551616) != (0 : Int)) rfl (fun c700 => ?_) (fun c700 => ?_)
      · replace H := (ifT c700).symm.trans H
        refine AWp.seq ?_
        refine reg hP hn hm [] [2, 3] [] ⟨[(2, iV .u64 0), (3, iV .i64 5)], [], 0⟩ [] (by kernel_rfl) trivial ?_
        refine AWp.conv (inv := []) (vk := []) (e0 := []) (t := ⟨[(2, iV .u64 0), (3, iV .i64 5)], [], 0⟩) (by kernel_rfl) ?_
        refine AWp.ret ?_
        obtain rfl := Option.some.inj H
        exact Exists.intro _ (And.intro (fun _ _ h => h) (And.intro rfl (And.intro rfl (And.intro (by kernel_rfl) (by kernel_rfl)))))
      · replace H := (ifF c700).symm.trans H
        refine AWp.skip ?_
        refine reg hP hn hm [] [4, 9, 10, 11] [] ⟨[(4, iV .u64 ((x689 + b695 + (0 : Int)) % 18446744073709551616)), (9, .im (.row (a0.map (encInt .u64)))), (10, iV .i64 (a0.length : Int)), (11, iV .i64 x690)], [], 0⟩ [] (by kernel_rfl) trivial ?_
        refine reg hP hn hm [] [4, 9, 10, 11] [] ⟨[(4, iV .u64 ((x689 + b695 + (0 : Int)) % 18446744073709551616)), (9, .im (.row (a0.map (encInt .u64)))), (10, iV .i64 (a0.length : Int)), (11, iV .i64 (IntKind.i64.wrap (x690 + (1 : Int))))], [], 0⟩ [] (by kernel_rfl) trivial ?_
        exact LWp.conv (inv := []) (vk := []) (e0 := []) (t := ⟨[(4, iV .u64 ((x689 + b695 + (0 : Int)) % 18446744073709551616)), (9, .im (.row (a0.map (encInt .u64)))), (10, iV .i64 (a0.length : Int)), (11, iV .i64 (IntKind.i64.wrap (x690 + (1 : Int))))], [], 0⟩) (by kernel_rfl) (ih _ _ _ H)
    · replace H := (ifF c691).symm.trans H
      refine AWp.exit ?_
      obtain rfl := Option.some.inj H
      exact Exists.intro _ (And.intro (fun _ _ h => h.conv (inv := []) (vk := []) (e0 := []) (t := ⟨[(4, iV .u64 x689)], [], 0⟩) (by kernel_rfl)) (And.intro rfl rfl))
  · rcases o702 with rr | x701
    · skip
      rintro e s ⟨rfl, hfl, hres⟩
      obtain rfl := Option.some.inj H
      exact Exists.intro _ (And.intro (fun _ _ h => h) (And.intro (.inl rfl) (And.intro hfl hres)))
    · skip
      rintro e s ⟨rfl, rfl⟩
      refine AWp.seq ?_
      refine reg hP hn hm [] [2, 3] [] ⟨[(2, iV .u64 x701), (3, iV .i64 0)], [], 0⟩ [] (by kernel_rfl) trivial ?_
      refine AWp.conv (inv := []) (vk := []) (e0 := []) (t := ⟨[(2, iV .u64 x701), (3, iV .i64 0)], [], 0⟩) (by kernel_rfl) ?_
      refine AWp.ret ?_
      obtain rfl := Option.some.inj H
      exact Exists.intro _ (And.intro (fun _ _ h => h) (And.intro (.inl rfl) (And.intro rfl (And.intro (by kernel_rfl) (by kernel_rfl)))))
def f_hist_tidy.l0 (t643 : List TBucket) (x656 : List TBucket) (x657 : Int) : Option (((List TBucket) × Int) ⊕ (List TBucket)) := if (decide (x657 < (t643.length : Int))) = true then ((at? t643 x657) >>= fun b662 => ((if (b662.f1 == (0 : Int)) = true then (some (.inr x656)) else (((if (decide ((x656.length : Int) > (0 : Int))) = true then ((at? x656 (IntKind.i64.wrap ((x656.length : Int) - (1 : Int)))) >>= fun b671 => some (b671.f0 == b662.f0)) else (some false)) : Option (Bool)) >>= fun x674 => ((if x674 = true then ((at? x656 (IntKind.i64.wrap ((x656.length : Int) - (1 : Int)))) >>= fun b706 => (f_num_Add.f [b706.f1, b662.f1]) >>= fun t709 => if (t709.2 != (0 : Int)) = true then (some (.inl ([], t709.2))) else (some (.inr (x656.set (Int.toNat (IntKind.i64.wrap ((x656.length : Int) - (1 : Int)))) (⟨b706.f0, t709.1⟩ : TBucket))))) else ((chk ((x656.length + [b662].length) * 16 ≤ 140737488355328)) >>= fun _ => some (.inr (x656 ++ [b662])))) : Option (((List TBucket) × Int) ⊕ (List TBucket))) >>= fun oo => match oo with | .inl rr => (some (.inl rr)) | .inr x714 => (some (.inr x714)))) : Option (((List TBucket) × Int) ⊕ (List TBucket))) >>= fun oo => match oo with | .inl rr => (some (.inl rr)) | .inr x715 => (f_hist_tidy.l0 t643 x715 (IntKind.i64.wrap (x657 + (1 : Int))))) else (some (.inr x656))
partial_fixpoint
def f_hist_tidy.f (a0 : List TBucket) : Option ((List TBucket) × Int) := (f_slices_Clone_api_Bucket.f a0) >>= fun t20 => (f_slices_SortStableFunc_api_Bucket_hist_tidy_1.f t20) >>= fun t643 => (f_hist_tidy.l0 t643 [] 0) >>= fun oo => match oo with | .inl rr => (some rr) | .inr x716 => (some (x716, 0))
theorem f_hist_tidy.ok (a0 : List TBucket) (r : (List TBucket) × Int) (H : f_hist_tidy.f a0 = some r) : Pv.Fn Try.prog 45 [.im (.row (a0.map eBucket))] [] 0 (fun x o => x = .tup [.own 0, iV .i64 r.2] ∧ o = [(0, some (.row 2 36 (r.1.map eBucket)))]) := by
  unfold f_hist_tidy.f at H
  refine Fn.bodyK [0] Try.func45 rfl rfl (fun Γ hP hn => ?_)
  have hm : Try.prog.follows .mixedOrders = true := by kernel_rfl
  replace hn : Γ.n = 68 := hn
  refine AWp.seq ?_
  refine reg hP hn hm [] [0] [] ⟨[(0, .im (.row (a0.map eBucket)))], [], 0⟩ [] (by kernel_rfl) trivial ?_
  refine AWp.seq ?_
  refine reg hP hn hm [] [0, 4] [] ⟨[(0, .im (.row (a0.map eBucket))), (4, .none0)], [], 0⟩ [] (by kernel_rfl) trivial ?_
  refine AWp.seq ?_
  obtain ⟨t20, e21, H⟩ := bind_of H
  refine reg hP hn hm [(1, .call [] [(0, 0)] [] [0] 0 (.own 0) [(0, some (.row 2 36 (t20.map eBucket)))])] [0, 4] [0] ⟨[(0, .own 0), (4, .none0)], [(0, some (.row 2 36 (t20.map eBucket)))], 0⟩ [Enters Try.prog 55, Pv.Fn Try.prog 55 [.im (.row (a0.map eBucket))] [] 0 (fun r o => r = .own 0 ∧ o = [(0, some (.row 2 36 (t20.map eBucket)))])] (by kernel_rfl) ⟨by exact Try.call55, by exact f_slices_Clone_api_Bucket.ok a0 t20 e21, trivial⟩ ?_
  refine AWp.seq ?_
  obtain ⟨t643, e644, H⟩ := bind_of H
  refine reg hP hn hm [(1, .call [(0, 0)] [(0, 0)] [] [] 1 (.tup []) [(0, some (.row 2 36 (t643.map eBucket)))])] [0, 4] [0] ⟨[(0, .own 0), (4, .none0)], [(0, some (.row 2 36 (t643.map eBucket)))], 0⟩ [Enters Try.prog 77, Pv.Fn Try.prog 77 [.own 0, .im (.sc (.func (.func 78) #[] #[]))] [(0, some (.row 2 36 (t20.map eBucket)))] 1 (fun r o => r = .tup [] ∧ o = [(0, some (.row 2 36 (t643.map eBucket)))])] (by kernel_rfl) ⟨by exact Try.call77, by exact f_slices_SortStableFunc_api_Bucket_hist_tidy_1.ok t20 t643 e644, trivial⟩ ?_
  refine AWp.seq ?_
  refine AWp.seq ?_
  refine reg hP hn hm [(1, .any (iV .i64 (t643.length : Int)))] [4, 14, 15, 16] [0] ⟨[(4, .none0), (14, .own 0), (15, iV .i64 (t643.length : Int)), (16, iV .i64 0)], [(0, some (.row 2 36 (t643.map eBucket)))], 0⟩ [((t643.map eBucket).length : Int) = (t643.length : Int)] (by kernel_rfl) ⟨by rw [len_map], trivial⟩ ?_
  refine AWp.block ?_
  obtain ⟨o717, e718, H⟩ := bind_of H
  refine AWp.loop (LWp.conv (inv := [(0, 7)]) (vk := []) (e0 := [6]) (t := ⟨[(4, .own 6), (14, .own 7), (15, iV .i64 (t643.length : Int)), (16, iV .i64 0)], [(6, some (.row 2 36 ([].map eBucket))), (7, some (.row 2 36 (t643.map eBucket)))], 0⟩) (by kernel_rfl) ?_)
  refine LWp.mono (Q := fun e s => (match (generalizing := false) o717 with | .inl rr => e = .ret ∧ s.floor = 0 ∧ resOf Try.prog Try.f45 s = some (.tup [.own 0, iV .i64 rr.2]) ∧ ([(0, s.obj 0)] : List (Nat × Option MObj)) = [(0, some (.row 2 36 (rr.1.map eBucket)))] | .inr x716 => e = .exit 0 ∧ s = ⟨[(4, .own 19)], [(19, some (.row 2 36 (x716.map eBucket)))], 0⟩)) (LWp.cv (withBody (fun body hbody => ?_))) ?_
  · refine f_hist_tidy.l0.partial_correctness t643 (motive := fun x656 x657 o717 => LWp Γ body (fun e s => ∃ t, Cv Γ s t ∧ (match (generalizing := false) o717 with | .inl rr => e = .ret ∧ t.floor = 0 ∧ resOf Try.prog Try.f45 t = some (.tup [.own 0, iV .i64 rr.2]) ∧ ([(0, t.obj 0)] : List (Nat × Option MObj)) = [(0, some (.row 2 36 (rr.1.map eBucket)))] | .inr x716 => e = .exit 0 ∧ t = ⟨[(4, .own 19)], [(19, some (.row 2 36 (x716.map eBucket)))], 0⟩)) ⟨[(4, .own 6), (14, .own 7), (15, iV .i64 (t643.length : Int)), (16, iV .i64 x657)], [(6, some (.row 2 36 (x656.map eBucket))), (7, some (.row 2 36 (t643.map eBucket)))], 0⟩) ?_ _ _ _ e718
    clear H e718 o717; intro self ih x656 x657 o717 H
    subst hbody
    refine LWp.round ?_
    refine AWp.seq ?_
    refine reg hP hn hm [] [4, 14, 15, 16, 17] [6, 7] ⟨[(4, .own 6), (14, .own 7), (15, iV .i64 (t643.length : Int)), (16, iV .i64 x657), (17, bV (decide (x657 < (t643.length : Int))))], [(6, some (.row 2 36 (x656.map eBucket))), (7, some (.row 2 36 (t643.map eBucket)))], 0⟩ [] (by kernel_rfl) trivial ?_
    refine AWp.seq ?_
    refine AWp.cond (decide (x657 < (t643.length : Int))) rfl (fun c658 => ?_) (fun c658 => ?_)
    · replace H := (ifT c658).symm.trans H
      refine AWp.skip ?_
      refine AWp.seq ?_
      refine AWp.block ?_
      refine AWp.seq ?_
      obtain ⟨b662, p663, q664, H⟩ := at_of H
      refine reg hP hn hm [(1, .c (eBucket b662)), (2, .k 8)] [4, 6, 14, 15, 16] [6, 7, 8] ⟨[(4, .own 6), (6, .ptr 8 0 0), (14, .own 7), (15, iV .i64 (t643.length : Int)), (16, iV .i64 x657)], [(6, some (.row 2 36 (x656.map eBucket))), (7, some (.row 2 36 (t643.map eBucket))), (8, some (.box 36 [iV .i64 b662.f0, iV .u64 b662.f1]))], 0⟩ [0 ≤ x657, x657 < (((t643.map eBucket).length : Nat) : Int), (t643.map eBucket)[(Int.toNat (x657))]? = some (eBucket b662)] (by kernel_rfl) ⟨by exact p663, by exact el_lt eBucket p663 q664, by exact el_map eBucket q664, trivial⟩ ?_
      refine AWp.seq ?_
      refine reg hP hn hm [(1, .any (iV .i64 (x656.length : Int)))] [4, 6, 7, 14, 15, 16] [6, 7, 8] ⟨[(4, .own 6), (6, .ptr 8 0 0), (7, iV .i64 (x656.length : Int)), (14, .own 7), (15, iV .i64 (t643.length : Int)), (16, iV .i64 x657)], [(6, some (.row 2 36 (x656.map eBucket))), (7, some (.row 2 36 (t643.map eBucket))), (8, some (.box 36 [iV .i64 b662.f0, iV .u64 b662.f1]))], 0⟩ [((x656.map eBucket).length : Int) = (x656.length : Int)] (by kernel_rfl) ⟨by rw [len_map], trivial⟩ ?_
      refine AWp.block ?_
      refine AWp.seq ?_
      refine reg hP hn hm [] [4, 6, 7, 14, 15, 16, 26] [6, 7, 8] ⟨[(4, .own 6), (6, .ptr 8 0 0), (7, iV .i64 (x656.length : Int)), (14, .own 7), (15, iV .i64 (t643.length : Int)), (16, iV .i64 x657), (26, bV (b662.f1 == (0 : Int)))], [(6, some (.row 2 36 (x656.map eBucket))), (7, some (.row 2 36 (t643.map eBucket))), (8, some (.box 36 [iV .i64 b662.f0, iV .u64 b662.f1]))], 0⟩ [] (by kernel_rfl) trivial ?_
      obtain ⟨o719, e720, H⟩ := bind_of H
      refine AWp.mono (Q := fun e s => (match (generalizing := false) o719 with | .inl rr => e = .ret ∧ s.floor = 0 ∧ resOf Try.prog Try.f45 s = some (.tup [.own 0, iV .i64 rr.2]) ∧ ([(0, s.obj 0)] : List (Nat × Option MObj)) = [(0, some (.row 2 36 (rr.1.map eBucket)))] | .inr x715 => e = .normal ∧ s = ⟨[(4, .own 17), (14, .own 18), (15, iV .i64 (t643.length : Int)), (16, iV .i64 x657)], [(17, some (.row 2 36 (x715.map eBucket))), (18, some (.row 2 36 (t643.map eBucket)))], 0⟩)) (AWp.cv ?_) ?_
      · replace H := e720; clear e720
        refine AWp.cond (b662.f1 == (0 : Int)) rfl (fun c665 => ?_) (fun c665 => ?_)
        · replace H := (ifT c665).symm.trans H
          refine AWp.skip ?_
          obtain rfl := Option.some.inj H
          exact Exists.intro _ (And.intro (fun _ _ h => h.conv (inv := [(6, 17), (7, 18)]) (vk := []) (e0 := []) (t := ⟨[(4, .own 17), (14, .own 18), (15, iV .i64 (t643.length : Int)), (16, iV .i64 x657)], [(17, some (.row 2 36 (x656.map eBucket))), (18, some (.row 2 36 (t643.map eBucket)))], 0⟩) (by kernel_rfl)) (And.intro rfl rfl))
        · replace H := (ifF c665).symm.trans H
          refine AWp.seq ?_
          obtain ⟨o721, e722, H⟩ := bind_of H
          refine AWp.mono (Q := fun e s => (match (generalizing := false) o721 with | x674 => e = .normal ∧ s = ⟨[(4, .own 9), (6, .ptr 10 0 0), (7, iV .i64 (x656.length : Int)), (14, .own 11), (15, iV .i64 (t643.length : Int)), (16, iV .i64 x657), (30, bV x674)], [(9, some (.row 2 36 (x656.map eBucket))), (10, some (.box 36 [iV .i64 b662.f0, iV .u64 b662.f1])), (11, some (.row 2 36 (t643.map eBucket)))], 0⟩)) (AWp.cv ?_) ?_
          · replace H := e722; clear e722
            rcases Bool.eq_false_or_eq_true (decide ((x656.length : Int) > (0 : Int))) with c670 | c670
            · replace H := (ifT c670).symm.trans H
              obtain ⟨b671, p672, q673, H⟩ := at_of H
              refine reg hP hn hm [(2, .b true), (8, .c (eBucket b671))] [4, 6, 7, 14, 15, 16, 30, 34, 35, 36, 37, 38, 39, 40, 41, 42] [6, 7, 8] ⟨[(4, .own 6), (6, .ptr 8 0 0), (7, iV .i64 (x656.length : Int)), (14, .own 7), (15, iV .i64 (t643.length : Int)), (16, iV .i64 x657), (30, bV (b671.f0 == b662.f0)), (34, .own 6), (35, iV .i64 (x656.length : Int)), (36, iV .i64 (IntKind.i64.wrap ((x656.length : Int) - (1 : Int)))), (37, .ptr 6 (Int.toNat (IntKind.i64.wrap ((x656.length : Int) - (1 : Int)))) 0), (38, .ptr 6 (Int.toNat (IntKind.i64.wrap ((x656.length : Int) - (1 : Int)))) 0), (39, iV .i64 b671.f0), (40, .ptr 8 0 0), (41, iV .i64 b662.f0), (42, bV (b671.f0 == b662.f0))], [(6, some (.row 2 36 (x656.map eBucket))), (7, some (.row 2 36 (t643.map eBucket))), (8, some (.box 36 [iV .i64 b662.f0, iV .u64 b662.f1]))], 0⟩ [(decide ((x656.length : Int) > (0 : Int))) = true, 0 ≤ (IntKind.i64.wrap ((x656.length : Int) - (1 : Int))), IntKind.i64.wrap ((x656.length : Int) - (1 : Int)) < (((x656.map eBucket).length : Nat) : Int), (x656.map eBucket)[(Int.toNat (IntKind.i64.wrap ((x656.length : Int) - (1 : Int))))]? = some (eBucket b671)] (by kernel_rfl) ⟨by exact c670, by exact p672, by exact el_lt eBucket p672 q673, by exact el_map eBucket q673, trivial⟩ ?_
              obtain rfl := Option.some.inj H
              exact Exists.intro _ (And.intro (fun _ _ h => h.conv (inv := [(6, 9), (8, 10), (7, 11)]) (vk := []) (e0 := []) (t := ⟨[(4, .own 9), (6, .ptr 10 0 0), (7, iV .i64 (x656.length : Int)), (14, .own 11), (15, iV .i64 (t643.length : Int)), (16, iV .i64 x657), (30, bV (b671.f0 == b662.f0))], [(9, some (.row 2 36 (x656.map eBucket))), (10, some (.box 36 [iV .i64 b662.f0, iV .u64 b662.f1])), (11, some (.row 2 36 (t643.map eBucket)))], 0⟩) (by kernel_rfl)) (And.intro rfl rfl))
            · replace H := (ifF c670).symm.trans H
              refine reg hP hn hm [(2, .b false)] [4, 6, 7, 14, 15, 16, 30] [6, 7, 8] ⟨[(4, .own 6), (6, .ptr 8 0 0), (7, iV .i64 (x656.length : Int)), (14, .own 7), (15, iV .i64 (t643.length : Int)), (16, iV .i64 x657), (30, bV false)], [(6, some (.row 2 36 (x656.map eBucket))), (7, some (.row 2 36 (t643.map eBucket))), (8, some (.box 36 [iV .i64 b662.f0, iV .u64 b662.f1]))], 0⟩ [(decide ((x656.length : Int) > (0 : Int))) = false] (by kernel_rfl) ⟨by exact c670, trivial⟩ ?_
              obtain rfl := Option.some.inj H
              exact Exists.intro _ (And.intro (fun _ _ h => h.conv (inv := [(6, 9), (8, 10), (7, 11)]) (vk := []) (e0 := []) (t := ⟨[(4, .own 9), (6, .ptr 10 0 0), (7, iV .i64 (x656.length : Int)), (14, .own 11), (15, iV .i64 (t643.length : Int)), (16, iV .i64 x657), (30, bV false)], [(9, some (.row 2 36 (x656.map eBucket))), (10, some (.box 36 [iV .i64 b662.f0, iV .u64 b662.f1])), (11, some (.row 2 36 (t643.map eBucket)))], 0⟩) (by kernel_rfl)) (And.intro rfl rfl))
          · obtain ⟨x674, rfl⟩ : ∃ z, z = o721 := ⟨_, rfl⟩
            rintro e s ⟨rfl, rfl⟩
            obtain ⟨o723, e724, H⟩ := bind_of H
            refine AWp.mono (Q := fun e s => (match (generalizing := false) o723 with | .inl rr => e = .ret ∧ s.floor = 0 ∧ resOf Try.prog Try.f45 s = some (.tup [.own 0, iV .i64 rr.2]) ∧ ([(0, s.obj 0)] : List (Nat × Option MObj)) = [(0, some (.row 2 36 (rr.1.map eBucket)))] | .inr x714 => e = .normal ∧ s = ⟨[(4, .own 15), (14, .own 16), (15, iV .i64 (t643.length : Int)), (16, iV .i64 x657)], [(15, some (.row 2 36 (x714.map eBucket))), (16, some (.row 2 36 (t643.map eBucket)))], 0⟩)) (AWp.cv ?_) ?_
            · replace H := e724; clear e724
              refine AWp.cond x674 rfl (fun c675 => ?_) (fun c675 => ?_)
              · replace H := (ifT c675).symm.trans H
                refine AWp.seq ?_
                obtain ⟨b706, p707, q708, H⟩ := at_of H
                obtain ⟨t709, e710, H⟩ := bind_of H
                refine reg hP hn hm [(5, .c (eBucket b706)), (8, .app 12 ([b706.f1, b662.f1].map (encInt .u64))), (9, .call [] [] [12] [] 0 (.tup [iV .u64 t709.1, iV .i64 t709.2]) [])] [4, 7, 8, 9, 14, 15, 16] [9, 11] ⟨[(4, .own 9), (7, iV .i64 (x656.length : Int)), (8, iV .u64 t709.1), (9, iV .i64 t709.2), (14, .own 11), (15, iV .i64 (t643.length : Int)), (16, iV .i64 x657)], [(9, some (.row 2 36 (x656.map eBucket))), (11, some (.row 2 36 (t643.map eBucket)))], 0⟩ [0 ≤ (IntKind.i64.wrap ((x656.length : Int) - (1 : Int))), IntKind.i64.wrap ((x656.length : Int) - (1 : Int)) < (((x656.map eBucket).length : Nat) : Int), (x656.map eBucket)[(Int.toNat (IntKind.i64.wrap ((x656.length : Int) - (1 : Int))))]? = some (eBucket b706), [b706.f1, b662.f1].map (encInt .u64) = [[iI .u64 b706.f1], [iI .u64 b662.f1]], Enters Try.prog 79, Pv.Fn Try.prog 79 [.im (.row ([b706.f1, b662.f1].map (encInt .u64)))] [] 0 (fun r o => r = .tup [iV .u64 t709.1, iV .i64 t709.2] ∧ o = [])] (by kernel_rfl) ⟨by exact p707, by exact el_lt eBucket p707 q708, by exact el_map eBucket q708, by exact rfl, by exact Try.call79, by exact f_num_Add.ok [b706.f1, b662.f1] t709 e710, trivial⟩ ?_
                refine AWp.seq ?_
                refine AWp.seq ?_
                refine reg hP hn hm [] [4, 7, 8, 9, 14, 15, 16, 58] [9, 11] ⟨[(4, .own 9), (7, iV .i64 (x656.length : Int)), (8, iV .u64 t709.1), (9, iV .i64 t709.2), (14, .own 11), (15, iV .i64 (t643.length : Int)), (16, iV .i64 x657), (58, bV (t709.2 != (0 : Int)))], [(9, some (.row 2 36 (x656.map eBucket))), (11, some (.row 2 36 (t643.map eBucket)))], 0⟩ [] (by kernel_rfl) trivial ?_
                refine AWp.cond (t709.2 != (0 : Int)) rfl (fun c711 => ?_) (fun c711 => ?_)
                · replace H := (ifT c711).symm.trans H
                  refine AWp.seq ?_
                  refine reg hP hn hm [] [2, 3] [] ⟨[(2, .none0), (3, iV .i64 t709.2)], [], 0⟩ [] (by kernel_rfl) trivial ?_
                  refine AWp.conv (inv := []) (vk := []) (e0 := [0]) (t := ⟨[(2, .own 0), (3, iV .i64 t709.2)], [(0, some (.row 2 36 ([].map eBucket)))], 0⟩) (by kernel_rfl) ?_
                  refine AWp.ret ?_
                  obtain rfl := Option.some.inj H
                  exact Exists.intro _ (And.intro (fun _ _ h => h) (And.intro rfl (And.intro rfl (And.intro (by kernel_rfl) (by kernel_rfl)))))
                · replace H := (ifF c711).symm.trans H
                  refine AWp.skip ?_
                  refine reg hP hn hm [(6, .put (eBucket b706) ((x656.set (Int.toNat (IntKind.i64.wrap ((x656.length : Int) - (1 : Int)))) (⟨b706.f0, t709.1⟩ : TBucket)).map eBucket))] [4, 14, 15, 16] [9, 11] ⟨[(4, .own 9), (14, .own 11), (15, iV .i64 (t643.length : Int)), (16, iV .i64 x657)], [(9, some (.row 2 36 ((x656.set (Int.toNat (IntKind.i64.wrap ((x656.length : Int) - (1 : Int)))) (⟨b706.f0, t709.1⟩ : TBucket)).map eBucket))), (11, some (.row 2 36 (t643.map eBucket)))], 0⟩ [0 ≤ (IntKind.i64.wrap ((x656.length : Int) - (1 : Int))), IntKind.i64.wrap ((x656.length : Int) - (1 : Int)) < (((x656.map eBucket).length : Nat) : Int), (x656.map eBucket)[(Int.toNat (IntKind.i64.wrap ((x656.length : Int) - (1 : Int))))]? = some (eBucket b706), (x656.set (Int.toNat (IntKind.i64.wrap ((x656.length : Int) - (1 : Int)))) (⟨b706.f0, t709.1⟩ : TBucket)).map eBucket = (x656.map eBucket).set (Int.toNat (IntKind.i64.wrap ((x656.length : Int) - (1 : Int)))) (splice (eBucket b706) 1 [iI .u64 t709.1])] (by kernel_rfl) ⟨by exact p707, by exact el_lt eBucket p707 q708, by exact el_map eBucket q708, by exact set1 _ _ _ _, trivial⟩ ?_
                  obtain rfl := Option.some.inj H
                  exact Exists.intro _ (And.intro (fun _ _ h => h.conv (inv := [(9, 15), (11, 16)]) (vk := []) (e0 := []) (t := ⟨[(4, .own 15), (14, .own 16), (15, iV .i64 (t643.length : Int)), (16, iV .i64 x657)], [(15, some (.row 2 36 ((x656.set (Int.toNat (IntKind.i64.wrap ((x656.length : Int) - (1 : Int)))) (⟨b706.f0, t709.1⟩ : TBucket)).map eBucket))), (16, some (.row 2 36 (t643.map eBucket)))], 0⟩) (by kernel_rfl)) (And.intro rfl rfl))
              · replace H := (ifF c675).symm.trans H
                obtain ⟨c713, H⟩ := chk_of H
                refine reg hP hn hm [(2, .app 13 ([b662].map eBucket)), (3, .app 14 ((x656 ++ [b662]).map eBucket))] [4, 14, 15, 16] [11, 14] ⟨[(4, .own 14), (14, .own 11), (15, iV .i64 (t643.length : Int)), (16, iV .i64 x657)], [(11, some (.row 2 36 (t643.map eBucket))), (14, some (.row 2 36 ((x656 ++ [b662]).map eBucket)))], 0⟩ [[b662].map eBucket = [[iI .i64 b662.f0, iI .u64 b662.f1]], (x656 ++ [b662]).map eBucket = (x656.map eBucket) ++ ([b662].map eBucket), ∀ c ∈ ([b662].map eBucket), c.length = 2, ∀ c ∈ ([b662].map eBucket), leaves (c.map .im) = true, ((x656.map eBucket).length + ([b662].map eBucket).length) * 16 ≤ 140737488355328] (by kernel_rfl) ⟨by exact rfl, by simp, by exact all_len _ _ _ (fun _ => rfl), by exact all_leaf _ _ (fun _ => rfl), by simpa using c713, trivial⟩ ?_
                obtain rfl := Option.some.inj H
                exact Exists.intro _ (And.intro (fun _ _ h => h.conv (inv := [(14, 15), (11, 16)]) (vk := []) (e0 := []) (t := ⟨[(4, .own 15), (14, .own 16), (15, iV .i64 (t643.length : Int)), (16, iV .i64 x657)], [(15, some (.row 2 36 ((x656 ++ [b662]).map eBucket))), (16, some (.row 2 36 (t643.map eBucket)))], 0⟩) (by kernel_rfl)) (And.intro rfl rfl))
            · rcases o723 with rr | x714
              · skip
                rintro e s ⟨rfl, hfl, hres⟩
                obtain rfl := Option.some.inj H
                exact Exists.intro _ (And.intro (fun _ _ h => h) (And.intro rfl (And.intro hfl hres)))
              · skip
                rintro e s ⟨rfl, rfl⟩
                obtain rfl := Option.some.inj H
                exact Exists.intro _ (And.intro (fun _ _ h => h.conv (inv := [(15, 17), (16, 18)]) (vk := []) (e0 := []) (t := ⟨[(4, .own 17), (14, .own 18), (15, iV .i64 (t643.length : Int)), (16, iV .i64 x657)], [(17, some (.row 2 36 (x714.map eBucket))), (18, some (.row 2 36 (t643.map eBucket)))], 0⟩) (by kernel_rfl)) (And.intro rfl rfl))
      · rcases o719 with rr | x715
        · skip
          rintro e s ⟨rfl, hfl, hres⟩
          obtain rfl := Option.some.inj H
          exact Exists.intro _ (And.intro (fun _ _ h => h) (And.intro rfl (And.intro hfl hres)))
        · skip
          rintro e s ⟨rfl, rfl⟩
          refine reg hP hn hm [] [4, 14, 15, 16] [17, 18] ⟨[(4, .own 17), (14, .own 18), (15, iV .i64 (t643.length : Int)), (16, iV .i64 (IntKind.i64.wrap (x657 + (1 : Int))))], [(17, some (.row 2 36 (x715.map eBucket))), (18, some (.row 2 36 (t643.map eBucket)))], 0⟩ [] (by kernel_rfl) trivial ?_
          exact LWp.conv (inv := [(17, 6), (18, 7)]) (vk := []) (e0 := []) (t := ⟨[(4, .own 6), (14, .own 7), (15, iV .i64 (t643.length : Int)), (16, iV .i64 (IntKind.i64.wrap (x657 + (1 : Int))))], [(6, some (.row 2 36 (x715.map eBucket))), (7, some (.row 2 36 (t643.map eBucket)))], 0⟩) (by kernel_rfl) (ih _ _ _ H)
    · replace H := (ifF c658).symm.trans H
      refine AWp.exit ?_
      obtain rfl := Option.some.inj H
      exact Exists.intro _ (And.intro (fun _ _ h => h.conv (inv := [(6, 19)]) (vk := []) (e0 := []) (t := ⟨[(4, .own 19)], [(19, some (.row 2 36 (x656.map eBucket)))], 0⟩) (by kernel_rfl)) (And.intro rfl rfl))
  · rcases o717 with rr | x716
    · skip
      rintro e s ⟨rfl, hfl, hres⟩
      obtain rfl := Option.some.inj H
      exact Exists.intro _ (And.intro (fun _ _ h => h) (And.intro (.inl rfl) (And.intro hfl hres)))
    · skip
      rintro e s ⟨rfl, rfl⟩
      refine AWp.seq ?_
      refine reg hP hn hm [] [2, 3] [19] ⟨[(2, .own 19), (3, iV .i64 0)], [(19, some (.row 2 36 (x716.map eBucket)))], 0⟩ [] (by kernel_rfl) trivial ?_
      refine AWp.conv (inv := [(19, 0)]) (vk := []) (e0 := []) (t := ⟨[(2, .own 0), (3, iV .i64 0)], [(0, some (.row 2 36 (x716.map eBucket)))], 0⟩) (by kernel_rfl) ?_
      refine AWp.ret ?_
      obtain rfl := Option.some.inj H
      exact Exists.intro _ (And.intro (fun _ _ h => h) (And.intro (.inl rfl) (And.intro rfl (And.intro (by kernel_rfl) (by kernel_rfl)))))
def f_hist_total.l1 (a0 : List (List TBucket)) (b774 : List TBucket) (x769 : Int) (x789 : Int) (x790 : Int) : Option ((Int × Int) ⊕ Int) := if (decide (x790 < (b774.length : Int))) = true then ((at? b774 x790) >>= fun b795 => (f_num_Add.f [x789, b795.f1]) >>= fun t800 => if (t800.2 != (0 : Int)) = true then (some (.inl (0, t800.2))) else (f_hist_total.l1 a0 b774 x769 t800.1 (IntKind.i64.wrap (x790 + (1 : Int))))) else (some (.inr x789))
partial_fixpoint
def f_hist_total.l0 (a0 : List (List TBucket)) (x768 : Int) (x769 : Int) : Option ((Int × Int) ⊕ Int) := if (decide (x769 < (a0.length : Int))) = true then ((at? a0 x769) >>= fun b774 => (f_hist_total.l1 a0 b774 x769 x768 0) >>= fun oo => match oo with | .inl rr => (some (.inl rr)) | .inr x803 => (f_hist_total.l0 a0 x803 (IntKind.i64.wrap (x769 + (1 : Int))))) else (some (.inr x768))
partial_fixpoint
def f_hist_total.f (a0 : List (List TBucket)) : Option (Int × Int) := (f_hist_total.l0 a0 0 0) >>= fun oo => match oo with | .inl rr => (some rr) | .inr x804 => (some (x804, 0))
theorem f_hist_total.ok (a0 : List (List TBucket)) (r : Int × Int) (H : f_hist_total.f a0 = some r) : Pv.Fn Try.prog 46 [.im (.row (a0.map (encRow eBucket)))] [] 0 (fun x o => x = .tup [iV .u64 r.1, iV .i64 r.2] ∧ o = []) := by
  unfold f_hist_total.f at H
  refine Fn.bodyK [] Try.func46 rfl rfl (fun Γ hP hn => ?_)
  have hm : Try.prog.follows .mixedOrders = true := by kernel_rfl
  replace hn : Γ.n = 36 := hn
  refine AWp.seq ?_
  refine reg hP hn hm [] [0] [] ⟨[(0, .im (.row (a0.map (encRow eBucket))))], [], 0⟩ [] (by kernel_rfl) trivial ?_
  refine AWp.seq ?_
  refine reg hP hn hm [] [0, 4] [] ⟨[(0, .im (.row (a0.map (encRow eBucket)))), (4, iV .u64 0)], [], 0⟩ [] (by kernel_rfl) trivial ?_
  refine AWp.seq ?_
  refine AWp.seq ?_
  refine reg hP hn hm [(1, .any (iV .i64 (a0.length : Int)))] [4, 10, 11, 12] [] ⟨[(4, iV .u64 0), (10, .im (.row (a0.map (encRow eBucket)))), (11, iV .i64 (a0.length : Int)), (12, iV .i64 0)], [], 0⟩ [((a0.map (encRow eBucket)).length : Int) = (a0.length : Int)] (by kernel_rfl) ⟨by rw [len_map], trivial⟩ ?_
  refine AWp.block ?_
  obtain ⟨o805, e806, H⟩ := bind_of H
  refine AWp.loop (LWp.conv (inv := []) (vk := []) (e0 := []) (t := ⟨[(4, iV .u64 0), (10, .im (.row (a0.map (encRow eBucket)))), (11, iV .i64 (a0.length : Int)), (12, iV .i64 0)], [], 0⟩) (by kernel_rfl) ?_)
  refine LWp.mono (Q := fun e s => (match (generalizing := false) o805 with | .inl rr => e = .ret ∧ s.floor = 0 ∧ resOf Try.prog Try.f46 s = some (.tup [iV .u64 rr.1, iV .i64 rr.2]) ∧ ([] : List (Nat × Option MObj)) = [] | .inr x804 => e = .exit 0 ∧ s = ⟨[(4, iV .u64 x804)], [], 0⟩)) (LWp.cv (withBody (fun body hbody => ?_))) ?_
  · refine f_hist_total.l0.partial_correctness a0 (motive := fun x768 x769 o805 => LWp Γ body (fun e s => ∃ t, Cv Γ s t ∧ (match (generalizing := false) o805 with | .inl rr => e = .ret ∧ t.floor = 0 ∧ resOf Try.prog Try.f46 t = some (.tup [iV .u64 rr.1, iV .i64 rr.2]) ∧ ([] : List (Nat × Option MObj)) = [] | .inr x804 => e = .exit 0 ∧ t = ⟨[(4, iV .u64 x804)], [], 0⟩)) ⟨[(4, iV .u64 x768), (10, .im (.row (a0.map (encRow eBucket)))), (11, iV .i64 (a0.length : Int)), (12, iV .i64 x769)], [], 0⟩) ?_ _ _ _ e806
    clear H e806 o805; intro self ih x768 x769 o805 H
    subst hbody
    refine LWp.round ?_
    refine AWp.seq ?_
    refine reg hP hn hm [] [4, 10, 11, 12, 13] [] ⟨[(4, iV .u64 x768), (10, .im (.row (a0.map (encRow eBucket)))), (11, iV .i64 (a0.length : Int)), (12, iV .i64 x769), (13, bV (decide (x769 < (a0.length : Int))))], [], 0⟩ [] (by kernel_rfl) trivial ?_
    refine AWp.seq ?_
    refine AWp.cond (decide (x769 < (a0.length : Int))) rfl (fun c770 => ?_) (fun c770 => ?_)
    · replace H := (ifT c770).symm.trans H
      refine AWp.skip ?_
      refine AWp.seq ?_
      refine AWp.block ?_
      refine AWp.seq ?_
      obtain ⟨b774, p775, q776, H⟩ := at_of H
      refine reg hP hn hm [(0, .c ((encRow eBucket) b774))] [4, 6, 10, 11, 12] [] ⟨[(4, iV .u64 x768), (6, .im (.row (b774.map eBucket))), (10, .im (.row (a0.map (encRow eBucket)))), (11, iV .i64 (a0.length : Int)), (12, iV .i64 x769)], [], 0⟩ [0 ≤ x769, (a0.map (encRow eBucket))[(Int.toNat (x769))]? = some ((encRow eBucket) b774)] (by kernel_rfl) ⟨by exact p775, by exact el_map (encRow eBucket) q776, trivial⟩ ?_
      refine AWp.seq ?_
      refine reg hP hn hm [(1, .any (iV .i64 (b774.length : Int)))] [4, 10, 11, 12, 16, 17, 18] [] ⟨[(4, iV .u64 x768), (10, .im (.row (a0.map (encRow eBucket)))), (11, iV .i64 (a0.length : Int)), (12, iV .i64 x769), (16, .im (.row (b774.map eBucket))), (17, iV .i64 (b774.length : Int)), (18, iV .i64 0)], [], 0⟩ [((b774.map eBucket).length : Int) = (b774.length : Int)] (by kernel_rfl) ⟨by rw [len_map], trivial⟩ ?_
      refine AWp.block ?_
      obtain ⟨o807, e808, H⟩ := bind_of H
      refine AWp.loop (LWp.conv (inv := []) (vk := []) (e0 := []) (t := ⟨[(4, iV .u64 x768), (10, .im (.row (a0.map (encRow eBucket)))), (11, iV .i64 (a0.length : Int)), (12, iV .i64 x769), (16, .im (.row (b774.map eBucket))), (17, iV .i64 (b774.length : Int)), (18, iV .i64 0)], [], 0⟩) (by kernel_rfl) ?_)
      refine LWp.mono (Q := fun e s => (match (generalizing := false) o807 with | .inl rr => e = .ret ∧ s.floor = 0 ∧ resOf Try.prog Try.f46 s = some (.tup [iV .u64 rr.1, iV .i64 rr.2]) ∧ ([] : List (Nat × Option MObj)) = [] | .inr x803 => e = .exit 2 ∧ s = ⟨[(4, iV .u64 x803), (10, .im (.row (a0.map (encRow eBucket)))), (11, iV .i64 (a0.length : Int)), (12, iV .i64 x769)], [], 0⟩)) (LWp.cv (withBody (fun body hbody => ?_))) ?_
      · refine f_hist_total.l1.partial_correctness a0 b774 x769 (motive := fun x789 x790 o807 => LWp Γ body (fun e s => ∃ t, Cv Γ s t ∧ (match (generalizing := false) o807 with | .inl rr => e = .ret ∧ t.floor = 0 ∧ resOf Try.prog Try.f46 t = some (.tup [iV .u64 rr.1, iV .i64 rr.2]) ∧ ([] : List (Nat × Option MObj)) = [] | .inr x803 => e = .exit 2 ∧ t = ⟨[(4, iV .u64 x803), (10, .im (.row (a0.map (encRow eBucket)))), (11, iV .i64 (a0.length : Int)), (12, iV .i64 x769)], [], 0⟩)) ⟨[(4, iV .u64 x789), (10, .im (.row (a0.map (encRow eBucket)))), (11, iV .i64 (a0.length : Int)), (12, iV .i64 x769), (16, .im (.row (b774.map eBucket))), (17, iV .i64 (b774.length : Int)), (18, iV .i64 x790)], [], 0⟩) ?_ _ _ _ e808
        clear H e808 o807; intro self ih x789 x790 o807 H
        subst hbody
        refine LWp.round ?_
        refine AWp.seq ?_
        refine reg hP hn hm [] [4, 10, 11, 12, 16, 17, 18, 19] [] ⟨[(4, iV .u64 x789), (10, .im (.row (a0.map (encRow eBucket)))), (11, iV .i64 (a0.length : Int)), (12, iV .i64 x769), (16, .im (.row (b774.map eBucket))), (17, iV .i64 (b774.length : Int)), (18, iV .i64 x790), (19, bV (decide (x790 < (b774.length : Int))))], [], 0⟩ [] (by kernel_rfl) trivial ?_
        refine AWp.seq ?_
        refine AWp.cond (decide (x790 < (b774.length : Int))) rfl (fun c791 => ?_) (fun c791 => ?_)
        · replace H := (ifT c791).symm.trans H
          refine AWp.skip ?_
          refine AWp.seq ?_
          refine AWp.block ?_
          refine AWp.seq ?_
          obtain ⟨b795, p796, q797, H⟩ := at_of H
          refine reg hP hn hm [(0, .c (eBucket b795)), (2, .k 6)] [4, 8, 10, 11, 12, 16, 17, 18] [6] ⟨[(4, iV .u64 x789), (8, .ptr 6 0 0), (10, .im (.row (a0.map (encRow eBucket)))), (11, iV .i64 (a0.length : Int)), (12, iV .i64 x769), (16, .im (.row (b774.map eBucket))), (17, iV .i64 (b774.length : Int)), (18, iV .i64 x790)], [(6, some (.box 36 [iV .i64 b795.f0, iV .u64 b795.f1]))], 0⟩ [0 ≤ x790, (b774.map eBucket)[(Int.toNat (x790))]? = some (eBucket b795)] (by kernel_rfl) ⟨by exact p796, by exact el_map eBucket q797, trivial⟩ ?_
          refine AWp.seq ?_
          refine reg hP hn hm [] [4, 8, 10, 11, 12, 16, 17, 18] [6] ⟨[(4, iV .u64 x789), (8, .ptr 6 0 0), (10, .im (.row (a0.map (encRow eBucket)))), (11, iV .i64 (a0.length : Int)), (12, iV .i64 x769), (16, .im (.row (b774.map eBucket))), (17, iV .i64 (b774.length : Int)), (18, iV .i64 x790)], [(6, some (.box 36 [iV .i64 b795.f0, iV .u64 b795.f1]))], 0⟩ [] (by kernel_rfl) trivial ?_
          refine AWp.seq ?_
          obtain ⟨t800, e801, H⟩ := bind_of H
          refine reg hP hn hm [(3, .app 7 ([x789, b795.f1].map (encInt .u64))), (4, .call [] [] [7] [] 0 (.tup [iV .u64 t800.1, iV .i64 t800.2]) [])] [4, 9, 10, 11, 12, 16, 17, 18] [] ⟨[(4, iV .u64 t800.1), (9, iV .i64 t800.2), (10, .im (.row (a0.map (encRow eBucket)))), (11, iV .i64 (a0.length : Int)), (12, iV .i64 x769), (16, .im (.row (b774.map eBucket))), (17, iV .i64 (b774.length : Int)), (18, iV .i64 x790)], [], 0⟩ [[x789, b795.f1].map (encInt .u64) = [[iI .u64 x789], [iI .u64 b795.f1]], Enters Try.prog 79, Pv.Fn Try.prog 79 [.im (.row ([x789, b795.f1].map (encInt .u64)))] [] 0 (fun r o => r = .tup [iV .u64 t800.1, iV .i64 t800.2] ∧ o = [])] (by kernel_rfl) ⟨by exact rfl, by exact Try.call79, by exact f_num_Add.ok [x789, b795.f1] t800 e801, trivial⟩ ?_
          refine AWp.seq ?_
          refine reg hP hn hm [] [4, 9, 10, 11, 12, 16, 17, 18, 31] [] ⟨[(4, iV .u64 t800.1), (9, iV .i64 t800.2), (10, .im (.row (a0.map (encRow eBucket)))), (11, iV .i64 (a0.length : Int)), (12, iV .i64 x769), (16, .im (.row (b774.map eBucket))), (17, iV .i64 (b774.length : Int)), (18, iV .i64 x790), (31, bV (t800.2 != (0 : Int)))], [], 0⟩ [] (by kernel_rfl) trivial ?_
          refine AWp.cond (t800.2 != (0 : Int)) rfl (fun c802 => ?_) (fun c802 => ?_)
          · replace H := (ifT c802).symm.trans H
            refine AWp.seq ?_
            refine reg hP hn hm [] [2, 3] [] ⟨[(2, iV .u64 0), (3, iV .i64 t800.2)], [], 0⟩ [] (by kernel_rfl) trivial ?_
            refine AWp.conv (inv := []) (vk := []) (e0 := []) (t := ⟨[(2, iV .u64 0), (3, iV .i64 t800.2)], [], 0⟩) (by kernel_rfl) ?_
            refine AWp.ret ?_
            obtain rfl := Option.some.inj H
            exact Exists.intro _ (And.intro (fun _ _ h => h) (And.intro rfl (And.intro rfl (And.intro (by kernel_rfl) (by kernel_rfl)))))
          · replace H := (ifF c802).symm.trans H
            refine AWp.skip ?_
            refine reg hP hn hm [] [4, 10, 11, 12, 16, 17, 18] [] ⟨[(4, iV .u64 t800.1), (10, .im (.row (a0.map (encRow eBucket)))), (11, iV .i64 (a0.length : Int)), (12, iV .i64 x769), (16, .im (.row (b774.map eBucket))), (17, iV .i64 (b774.length : Int)), (18, iV .i64 (IntKind.i64.wrap (x790 + (1 : Int))))], [], 0⟩ [] (by kernel_rfl) trivial ?_
            exact LWp.conv (inv := []) (vk := []) (e0 := []) (t := ⟨[(4, iV .u64 t800.1), (10, .im (.row (a0.map (encRow eBucket)))), (11, iV .i64 (a0.length : Int)), (12, iV .i64 x769), (16, .im (.row (b774.map eBucket))), (17, iV .i64 (b774.length : Int)), (18, iV .i64 (IntKind.i64.wrap (x790 + (1 : Int))))], [], 0⟩) (by kernel_rfl) (ih _ _ _ H)
        · replace H := (ifF c791).symm.trans H
          refine AWp.exit ?_
          obtain rfl := Option.some.inj H
          exact Exists.intro _ (And.intro (fun _ _ h => h.conv (inv := []) (vk := []) (e0 := []) (t := ⟨[(4, iV .u64 x789), (10, .im (.row (a0.map (encRow eBucket)))), (11, iV .i64 (a0.length : Int)), (12, iV .i64 x769)], [], 0⟩) (by kernel_rfl)) (And.intro rfl rfl))
      · rcases o807 with rr | x803
        · skip
          rintro e s ⟨rfl, hfl, hres⟩
          obtain rfl := Option.some.inj H
          exact Exists.intro _ (And.intro (fun _ _ h => h) (And.intro rfl (And.intro hfl hres)))
        · skip
          rintro e s ⟨rfl, rfl⟩
          refine reg hP hn hm [] [4, 10, 11, 12] [] ⟨[(4, iV .u64 x803), (10, .im (.row (a0.map (encRow eBucket)))), (11, iV .i64 (a0.length : Int)), (12, iV .i64 (IntKind.i64.wrap (x769 + (1 : Int))))], [], 0⟩ [] (by kernel_rfl) trivial ?_
          exact LWp.conv (inv := []) (vk := []) (e0 := []) (t := ⟨[(4, iV .u64 x803), (10, .im (.row (a0.map (encRow eBucket)))), (11, iV .i64 (a0.length : Int)), (12, iV .i64 (IntKind.i64.wrap (x769 + (1 : Int))))], [], 0⟩) (by kernel_rfl) (ih _ _ _ H)
    · replace H := (ifF c770).symm.trans H
      refine AWp.exit ?_
      obtain rfl := Option.some.inj H
      exact Exists.intro _ (And.intro (fun _ _ h => h.conv (inv := []) (vk := []) (e0 := []) (t := ⟨[(4, iV .u64 x768)], [], 0⟩) (by kernel_rfl)) (And.intro rfl rfl))
  · rcases o805 with rr | x804
    · skip
      rintro e s ⟨rfl, hfl, hres⟩
      obtain rfl := Option.some.inj H
      exact Exists.intro _ (And.intro (fun _ _ h => h) (And.intro (.inl rfl) (And.intro hfl hres)))
    · skip
      rintro e s ⟨rfl, rfl⟩
      refine AWp.seq ?_
      refine reg hP hn hm [] [2, 3] [] ⟨[(2, iV .u64 x804), (3, iV .i64 0)], [], 0⟩ [] (by kernel_rfl) trivial ?_
      refine AWp.conv (inv := []) (vk := []) (e0 := []) (t := ⟨[(2, iV .u64 x804), (3, iV .i64 0)], [], 0⟩) (by kernel_rfl) ?_
      refine AWp.ret ?_
      obtain rfl := Option.some.inj H
      exact Exists.intro _ (And.intro (fun _ _ h => h) (And.intro (.inl rfl) (And.intro rfl (And.intro (by kernel_rfl) (by kernel_rfl)))))
def f_bound_Right.f (a0 : Int) : Option (Bool) := ((if (decide (a0 ≥ (-4))) = true then (some (decide (a0 ≤ (8 : Int)))) else (some false)) : Option (Bool)) >>= fun x822 => some x822
theorem f_bound_Right.ok (a0 : Int) (r : Bool) (H : f_bound_Right.f a0 = some r) : Pv.Fn Try.prog 48 [iV .i64 a0] [] 0 (fun x o => x = bV r ∧ o = []) := by
  unfold f_bound_Right.f at H
  refine Fn.bodyK [] Try.func48 rfl rfl (fun Γ hP hn => ?_)
  have hm : Try.prog.follows .mixedOrders = true := by kernel_rfl
  replace hn : Γ.n = 9 := hn
  refine AWp.seq ?_
  refine reg hP hn hm [] [0] [] ⟨[(0, iV .i64 a0)], [], 0⟩ [] (by kernel_rfl) trivial ?_
  refine AWp.seq ?_
  obtain ⟨o823, e824, H⟩ := bind_of H
  refine AWp.mono (Q := fun e s => (match (generalizing := false) o823 with | x822 => e = .normal ∧ s = ⟨[(2, bV x822)], [], 0⟩)) (AWp.cv ?_) ?_
  · replace H := e824; clear e824
    rcases Bool.eq_false_or_eq_true (decide (a0 ≥ (-4))) with c821 | c821
    · replace H := (ifT c821).symm.trans H
      refine reg hP hn hm [(2, .b true)] [2] [] ⟨[(2, bV (decide (a0 ≤ (8 : Int))))], [], 0⟩ [(decide (a0 ≥ (-4))) = true] (by kernel_rfl) ⟨by exact c821, trivial⟩ ?_
      obtain rfl := Option.some.inj H
      exact Exists.intro _ (And.intro (fun _ _ h => h.conv (inv := []) (vk := []) (e0 := []) (t := ⟨[(2, bV (decide (a0 ≤ (8 : Int))))], [], 0⟩) (by kernel_rfl)) (And.intro rfl rfl))
    · replace H := (ifF c821).symm.trans H
      refine reg hP hn hm [(2, .b false)] [2] [] ⟨[(2, bV false)], [], 0⟩ [(decide (a0 ≥ (-4))) = false] (by kernel_rfl) ⟨by exact c821, trivial⟩ ?_
      obtain rfl := Option.some.inj H
      exact Exists.intro _ (And.intro (fun _ _ h => h.conv (inv := []) (vk := []) (e0 := []) (t := ⟨[(2, bV false)], [], 0⟩) (by kernel_rfl)) (And.intro rfl rfl))
  · obtain ⟨x822, rfl⟩ : ∃ z, z = o823 := ⟨_, rfl⟩
    rintro e s ⟨rfl, rfl⟩
    refine AWp.conv (inv := []) (vk := []) (e0 := []) (t := ⟨[(2, bV x822)], [], 0⟩) (by kernel_rfl) ?_
    refine AWp.ret ?_
    obtain rfl := Option.some.inj H
    exact Exists.intro _ (And.intro (fun _ _ h => h) (And.intro (.inl rfl) (And.intro rfl (And.intro (by kernel_rfl) (by kernel_rfl)))))
def f_bound_shift.f (a0 : Int) : Option (Unit) := some ()
theorem f_bound_shift.ok (a0 : Int) (r : Unit) (H : f_bound_shift.f a0 = some r) : Pv.Fn Try.prog 104 [iV .i64 a0] [] 0 (fun x o => x = iV .u64 (IntKind.u64.wrap (IntKind.i64.wrap ((8 : Int) - a0))) ∧ o = []) := by
  unfold f_bound_shift.f at H
  refine Fn.bodyK [] Try.func104 rfl rfl (fun Γ hP hn => ?_)
  have hm : Try.prog.follows .mixedOrders = true := by kernel_rfl
  replace hn : Γ.n = 6 := hn
  refine AWp.seq ?_
  refine reg hP hn hm [] [0] [] ⟨[(0, iV .i64 a0)], [], 0⟩ [] (by kernel_rfl) trivial ?_
  refine AWp.seq ?_
  refine reg hP hn hm [] [2] [] ⟨[(2, iV .u64 (IntKind.u64.wrap (IntKind.i64.wrap ((8 : Int) - a0))))], [], 0⟩ [] (by kernel_rfl) trivial ?_
  refine AWp.conv (inv := []) (vk := []) (e0 := []) (t := ⟨[(2, iV .u64 (IntKind.u64.wrap (IntKind.i64.wrap ((8 : Int) - a0))))], [], 0⟩) (by kernel_rfl) ?_
  refine AWp.ret ?_
  obtain rfl := Option.some.inj H
  exact Exists.intro _ (And.intro (fun _ _ h => h) (And.intro (.inl rfl) (And.intro rfl (And.intro (by kernel_rfl) (by kernel_rfl)))))
def f_bound_Most.f (a0 : Int) : Option (Int) := (f_bound_Right.f a0) >>= fun t849 => if (!t849) = true then (some 0) else ((f_bound_shift.f a0) >>= fun t855 => (chk (0 ≤ (IntKind.u64.wrap (IntKind.i64.wrap ((8 : Int) - a0))))) >>= fun _ => some (Int.fdiv (262144 : Int) (2 ^ (min (Int.toNat (IntKind.u64.wrap (IntKind.i64.wrap ((8 : Int) - a0)))) 64))))
theorem f_bound_Most.ok (a0 : Int) (r : Int) (H : f_bound_Most.f a0 = some r) : Pv.Fn Try.prog 95 [iV .i64 a0] [] 0 (fun x o => x = iV .i64 r ∧ o = []) := by
  unfold f_bound_Most.f at H
  refine Fn.bodyK [] Try.func95 rfl rfl (fun Γ hP hn => ?_)
  have hm : Try.prog.follows .mixedOrders = true := by kernel_rfl
  replace hn : Γ.n = 9 := hn
  refine AWp.seq ?_
  refine reg hP hn hm [] [0] [] ⟨[(0, iV .i64 a0)], [], 0⟩ [] (by kernel_rfl) trivial ?_
  refine AWp.seq ?_
  refine AWp.seq ?_
  obtain ⟨t849, e850, H⟩ := bind_of H
  refine reg hP hn hm [(1, .call [] [] [] [] 0 (bV t849) [])] [0, 5] [] ⟨[(0, iV .i64 a0), (5, bV (!t849))], [], 0⟩ [Enters Try.prog 48, Pv.Fn Try.prog 48 [iV .i64 a0] [] 0 (fun r o => r = bV t849 ∧ o = [])] (by kernel_rfl) ⟨by exact Try.call48, by exact f_bound_Right.ok a0 t849 e850, trivial⟩ ?_
  refine AWp.cond (!t849) rfl (fun c851 => ?_) (fun c851 => ?_)
  · replace H := (ifT c851).symm.trans H
    refine AWp.seq ?_
    refine reg hP hn hm [] [2] [] ⟨[(2, iV .i64 0)], [], 0⟩ [] (by kernel_rfl) trivial ?_
    refine AWp.conv (inv := []) (vk := []) (e0 := []) (t := ⟨[(2, iV .i64 0)], [], 0⟩) (by kernel_rfl) ?_
    refine AWp.ret ?_
    obtain rfl := Option.some.inj H
    exact Exists.intro _ (And.intro (fun _ _ h => h) (And.intro (.inl rfl) (And.intro rfl (And.intro (by kernel_rfl) (by kernel_rfl)))))
  · replace H := (ifF c851).symm.trans H
    refine AWp.skip ?_
    refine AWp.seq ?_
    obtain ⟨t855, e856, H⟩ := bind_of H
    obtain ⟨c857, H⟩ := chk_of H
    refine reg hP hn hm [(1, .call [] [] [] [] 0 (iV .u64 (IntKind.u64.wrap (IntKind.i64.wrap ((8 : Int) - a0)))) [])] [2] [] ⟨[(2, iV .i64 (Int.fdiv (262144 : Int) (2 ^ (min (Int.toNat (IntKind.u64.wrap (IntKind.i64.wrap ((8 : Int) - a0)))) 64))))], [], 0⟩ [Enters Try.prog 104, Pv.Fn Try.prog 104 [iV .i64 a0] [] 0 (fun r o => r = iV .u64 (IntKind.u64.wrap (IntKind.i64.wrap ((8 : Int) - a0))) ∧ o = []), 0 ≤ (IntKind.u64.wrap (IntKind.i64.wrap ((8 : Int) - a0)))] (by kernel_rfl) ⟨by exact Try.call104, by exact f_bound_shift.ok a0 t855 e856, by exact c857, trivial⟩ ?_
    refine AWp.conv (inv := []) (vk := []) (e0 := []) (t := ⟨[(2, iV .i64 (Int.fdiv (262144 : Int) (2 ^ (min (Int.toNat (IntKind.u64.wrap (IntKind.i64.wrap ((8 : Int) - a0)))) 64))))], [], 0⟩) (by kernel_rfl) ?_
    refine AWp.ret ?_
    obtain rfl := Option.some.inj H
    exact Exists.intro _ (And.intro (fun _ _ h => h) (And.intro (.inl rfl) (And.intro rfl (And.intro (by kernel_rfl) (by kernel_rfl)))))
def f_bound_Least.f (a0 : Int) : Option (Int) := (f_bound_Most.f a0) >>= fun t860 => some (IntKind.i64.wrap ((IntKind.i64.wrap (0 - t860)) + (1 : Int)))
theorem f_bound_Least.ok (a0 : Int) (r : Int) (H : f_bound_Least.f a0 = some r) : Pv.Fn Try.prog 94 [iV .i64 a0] [] 0 (fun x o => x = iV .i64 r ∧ o = []) := by
  unfold f_bound_Least.f at H
  refine Fn.bodyK [] Try.func94 rfl rfl (fun Γ hP hn => ?_)
  have hm : Try.prog.follows .mixedOrders = true := by kernel_rfl
  replace hn : Γ.n = 7 := hn
  refine AWp.seq ?_
  refine reg hP hn hm [] [0] [] ⟨[(0, iV .i64 a0)], [], 0⟩ [] (by kernel_rfl) trivial ?_
  refine AWp.seq ?_
  obtain ⟨t860, e861, H⟩ := bind_of H
  refine reg hP hn hm [(1, .call [] [] [] [] 0 (iV .i64 t860) [])] [2] [] ⟨[(2, iV .i64 (IntKind.i64.wrap ((IntKind.i64.wrap (0 - t860)) + (1 : Int))))], [], 0⟩ [Enters Try.prog 95, Pv.Fn Try.prog 95 [iV .i64 a0] [] 0 (fun r o => r = iV .i64 t860 ∧ o = [])] (by kernel_rfl) ⟨by exact Try.call95, by exact f_bound_Most.ok a0 t860 e861, trivial⟩ ?_
  refine AWp.conv (inv := []) (vk := []) (e0 := []) (t := ⟨[(2, iV .i64 (IntKind.i64.wrap ((IntKind.i64.wrap (0 - t860)) + (1 : Int))))], [], 0⟩) (by kernel_rfl) ?_
  refine AWp.ret ?_
  obtain rfl := Option.some.inj H
  exact Exists.intro _ (And.intro (fun _ _ h => h) (And.intro (.inl rfl) (And.intro rfl (And.intro (by kernel_rfl) (by kernel_rfl)))))
def f_bound_In.f (a0 : Int) (a1 : Int) : Option (Bool) := (((f_bound_Right.f a0) >>= fun t867 => if t867 = true then ((f_bound_Least.f a0) >>= fun t870 => if (decide (a1 ≥ t870)) = true then ((f_bound_Most.f a0) >>= fun t873 => some (decide (a1 ≤ t873))) else (some false)) else (some false)) : Option (Bool)) >>= fun x875 => some x875
theorem f_bound_In.ok (a0 : Int) (a1 : Int) (r : Bool) (H : f_bound_In.f a0 a1 = some r) : Pv.Fn Try.prog 80 [iV .i64 a0, iV .i64 a1] [] 0 (fun x o => x = bV r ∧ o = []) := by
  unfold f_bound_In.f at H
  refine Fn.bodyK [] Try.func80 rfl rfl (fun Γ hP hn => ?_)
  have hm : Try.prog.follows .mixedOrders = true := by kernel_rfl
  replace hn : Γ.n = 19 := hn
  refine AWp.seq ?_
  refine reg hP hn hm [] [0, 1] [] ⟨[(0, iV .i64 a0), (1, iV .i64 a1)], [], 0⟩ [] (by kernel_rfl) trivial ?_
  refine AWp.seq ?_
  obtain ⟨o876, e877, H⟩ := bind_of H
  refine AWp.mono (Q := fun e s => (match (generalizing := false) o876 with | x875 => e = .normal ∧ s = ⟨[(4, bV x875)], [], 0⟩)) (AWp.cv ?_) ?_
  · replace H := e877; clear e877
    obtain ⟨t867, e868, H⟩ := bind_of H
    rcases Bool.eq_false_or_eq_true t867 with c869 | c869
    · replace H := (ifT c869).symm.trans H
      obtain ⟨t870, e871, H⟩ := bind_of H
      rcases Bool.eq_false_or_eq_true (decide (a1 ≥ t870)) with c872 | c872
      · replace H := (ifT c872).symm.trans H
        obtain ⟨t873, e874, H⟩ := bind_of H
        refine reg hP hn hm [(1, .call [] [] [] [] 0 (bV t867) []), (2, .b true), (5, .call [] [] [] [] 0 (iV .i64 t870) []), (8, .b true), (11, .call [] [] [] [] 0 (iV .i64 t873) [])] [4] [] ⟨[(4, bV (decide (a1 ≤ t873)))], [], 0⟩ [Enters Try.prog 48, Pv.Fn Try.prog 48 [iV .i64 a0] [] 0 (fun r o => r = bV t867 ∧ o = []), t867 = true, Enters Try.prog 94, Pv.Fn Try.prog 94 [iV .i64 a0] [] 0 (fun r o => r = iV .i64 t870 ∧ o = []), (decide (a1 ≥ t870)) = true, Enters Try.prog 95, Pv.Fn Try.prog 95 [iV .i64 a0] [] 0 (fun r o => r = iV .i64 t873 ∧ o = [])] (by kernel_rfl) ⟨by exact Try.call48, by exact f_bound_Right.ok a0 t867 e868, by exact c869, by exact Try.call94, by exact f_bound_Least.ok a0 t870 e871, by exact c872, by exact Try.call95, by exact f_bound_Most.ok a0 t873 e874, trivial⟩ ?_
        obtain rfl := Option.some.inj H
        exact Exists.intro _ (And.intro (fun _ _ h => h.conv (inv := []) (vk := []) (e0 := []) (t := ⟨[(4, bV (decide (a1 ≤ t873)))], [], 0⟩) (by kernel_rfl)) (And.intro rfl rfl))
      · replace H := (ifF c872).symm.trans H
        refine reg hP hn hm [(1, .call [] [] [] [] 0 (bV t867) []), (2, .b true), (5, .call [] [] [] [] 0 (iV .i64 t870) []), (8, .b false)] [4] [] ⟨[(4, bV false)], [], 0⟩ [Enters Try.prog 48, Pv.Fn Try.prog 48 [iV .i64 a0] [] 0 (fun r o => r = bV t867 ∧ o = []), t867 = true, Enters Try.prog 94, Pv.Fn Try.prog 94 [iV .i64 a0] [] 0 (fun r o => r = iV .i64 t870 ∧ o = []), (decide (a1 ≥ t870)) = false] (by kernel_rfl) ⟨by exact Try.call48, by exact f_bound_Right.ok a0 t867 e868, by exact c869, by exact Try.call94, by exact f_bound_Least.ok a0 t870 e871, by exact c872, trivial⟩ ?_
        obtain rfl := Option.some.inj H
        exact Exists.intro _ (And.intro (fun _ _ h => h.conv (inv := []) (vk := []) (e0 := []) (t := ⟨[(4, bV false)], [], 0⟩) (by kernel_rfl)) (And.intro rfl rfl))
    · replace H := (ifF c869).symm.trans H
      refine reg hP hn hm [(1, .call [] [] [] [] 0 (bV t867) []), (2, .b false)] [4] [] ⟨[(4, bV false)], [], 0⟩ [Enters Try.prog 48, Pv.Fn Try.prog 48 [iV .i64 a0] [] 0 (fun r o => r = bV t867 ∧ o = []), t867 = false] (by kernel_rfl) ⟨by exact Try.call48, by exact f_bound_Right.ok a0 t867 e868, by exact c869, trivial⟩ ?_
      obtain rfl := Option.some.inj H
      exact Exists.intro _ (And.intro (fun _ _ h => h.conv (inv := []) (vk := []) (e0 := []) (t := ⟨[(4, bV false)], [], 0⟩) (by kernel_rfl)) (And.intro rfl rfl))
  · obtain ⟨x875, rfl⟩ : ∃ z, z = o876 := ⟨_, rfl⟩
    rintro e s ⟨rfl, rfl⟩
    refine AWp.conv (inv := []) (vk := []) (e0 := []) (t := ⟨[(4, bV x875)], [], 0⟩) (by kernel_rfl) ?_
    refine AWp.ret ?_
    obtain rfl := Option.some.inj H
    exact Exists.intro _ (And.intro (fun _ _ h => h) (And.intro (.inl rfl) (And.intro rfl (And.intro (by kernel_rfl) (by kernel_rfl)))))
def f_bound_Units.f (a0 : Int) (a1 : Int) : Option (Int) := (f_bound_Right.f a0) >>= fun t886 => if (!t886) = true then (some 0) else ((f_bound_shift.f a0) >>= fun t892 => (chk (0 ≤ (IntKind.u64.wrap (IntKind.i64.wrap ((8 : Int) - a0))))) >>= fun _ => some (IntKind.i64.wrap (a1 * 2 ^ (min (Int.toNat (IntKind.u64.wrap (IntKind.i64.wrap ((8 : Int) - a0)))) 64))))
theorem f_bound_Units.ok (a0 : Int) (a1 : Int) (r : Int) (H : f_bound_Units.f a0 a1 = some r) : Pv.Fn Try.prog 96 [iV .i64 a0, iV .i64 a1] [] 0 (fun x o => x = iV .i64 r ∧ o = []) := by
  unfold f_bound_Units.f at H
  refine Fn.bodyK [] Try.func96 rfl rfl (fun Γ hP hn => ?_)
  have hm : Try.prog.follows .mixedOrders = true := by kernel_rfl
  replace hn : Γ.n = 12 := hn
  refine AWp.seq ?_
  refine reg hP hn hm [] [0, 1] [] ⟨[(0, iV .i64 a0), (1, iV .i64 a1)], [], 0⟩ [] (by kernel_rfl) trivial ?_
  refine AWp.seq ?_
  refine AWp.seq ?_
  obtain ⟨t886, e887, H⟩ := bind_of H
  refine reg hP hn hm [(1, .call [] [] [] [] 0 (bV t886) [])] [0, 1, 7] [] ⟨[(0, iV .i64 a0), (1, iV .i64 a1), (7, bV (!t886))], [], 0⟩ [Enters Try.prog 48, Pv.Fn Try.prog 48 [iV .i64 a0] [] 0 (fun r o => r = bV t886 ∧ o = [])] (by kernel_rfl) ⟨by exact Try.call48, by exact f_bound_Right.ok a0 t886 e887, trivial⟩ ?_
  refine AWp.cond (!t886) rfl (fun c888 => ?_) (fun c888 => ?_)
  · replace H := (ifT c888).symm.trans H
    refine AWp.seq ?_
    refine reg hP hn hm [] [4] [] ⟨[(4, iV .i64 0)], [], 0⟩ [] (by kernel_rfl) trivial ?_
    refine AWp.conv (inv := []) (vk := []) (e0 := []) (t := ⟨[(4, iV .i64 0)], [], 0⟩) (by kernel_rfl) ?_
    refine AWp.ret ?_
    obtain rfl := Option.some.inj H
    exact Exists.intro _ (And.intro (fun _ _ h => h) (And.intro (.inl rfl) (And.intro rfl (And.intro (by kernel_rfl) (by kernel_rfl)))))
  · replace H := (ifF c888).symm.trans H
    refine AWp.skip ?_
    refine AWp.seq ?_
    obtain ⟨t892, e893, H⟩ := bind_of H
    obtain ⟨c894, H⟩ := chk_of H
    refine reg hP hn hm [(2, .call [] [] [] [] 0 (iV .u64 (IntKind.u64.wrap (IntKind.i64.wrap ((8 : Int) - a0)))) [])] [4] [] ⟨[(4, iV .i64 (IntKind.i64.wrap (a1 * 2 ^ (min (Int.toNat (IntKind.u64.wrap (IntKind.i64.wrap ((8 : Int) - a0)))) 64))))], [], 0⟩ [Enters Try.prog 104, Pv.Fn Try.prog 104 [iV .i64 a0] [] 0 (fun r o => r = iV .u64 (IntKind.u64.wrap (IntKind.i64.wrap ((8 : Int) - a0))) ∧ o = []), 0 ≤ (IntKind.u64.wrap (IntKind.i64.wrap ((8 : Int) - a0)))] (by kernel_rfl) ⟨by exact Try.call104, by exact f_bound_shift.ok a0 t892 e893, by exact c894, trivial⟩ ?_
    refine AWp.conv (inv := []) (vk := []) (e0 := []) (t := ⟨[(4, iV .i64 (IntKind.i64.wrap (a1 * 2 ^ (min (Int.toNat (IntKind.u64.wrap (IntKind.i64.wrap ((8 : Int) - a0)))) 64))))], [], 0⟩) (by kernel_rfl) ?_
    refine AWp.ret ?_
    obtain rfl := Option.some.inj H
    exact Exists.intro _ (And.intro (fun _ _ h => h) (And.intro (.inl rfl) (And.intro rfl (And.intro (by kernel_rfl) (by kernel_rfl)))))
def f_bound_Low.f (a0 : Int) (a1 : Int) : Option (Int) := (f_bound_Units.f a0 (IntKind.i64.wrap (a1 - (1 : Int)))) >>= fun t897 => some t897
theorem f_bound_Low.ok (a0 : Int) (a1 : Int) (r : Int) (H : f_bound_Low.f a0 a1 = some r) : Pv.Fn Try.prog 81 [iV .i64 a0, iV .i64 a1] [] 0 (fun x o => x = iV .i64 r ∧ o = []) := by
  unfold f_bound_Low.f at H
  refine Fn.bodyK [] Try.func81 rfl rfl (fun Γ hP hn => ?_)
  have hm : Try.prog.follows .mixedOrders = true := by kernel_rfl
  replace hn : Γ.n = 9 := hn
  refine AWp.seq ?_
  refine reg hP hn hm [] [0, 1] [] ⟨[(0, iV .i64 a0), (1, iV .i64 a1)], [], 0⟩ [] (by kernel_rfl) trivial ?_
  refine AWp.seq ?_
  obtain ⟨t897, e898, H⟩ := bind_of H
  refine reg hP hn hm [(3, .call [] [] [] [] 0 (iV .i64 t897) [])] [4] [] ⟨[(4, iV .i64 t897)], [], 0⟩ [Enters Try.prog 96, Pv.Fn Try.prog 96 [iV .i64 a0, iV .i64 (IntKind.i64.wrap (a1 - (1 : Int)))] [] 0 (fun r o => r = iV .i64 t897 ∧ o = [])] (by kernel_rfl) ⟨by exact Try.call96, by exact f_bound_Units.ok a0 (IntKind.i64.wrap (a1 - (1 : Int))) t897 e898, trivial⟩ ?_
  refine AWp.conv (inv := []) (vk := []) (e0 := []) (t := ⟨[(4, iV .i64 t897)], [], 0⟩) (by kernel_rfl) ?_
  refine AWp.ret ?_
  obtain rfl := Option.some.inj H
  exact Exists.intro _ (And.intro (fun _ _ h => h) (And.intro (.inl rfl) (And.intro rfl (And.intro (by kernel_rfl) (by kernel_rfl)))))
def f_hist_buckets.l0 (a0 : THist) (a1 : List TBucket) (x904 : Int) : Option (Int ⊕ Unit) := if (decide (x904 < (a1.length : Int))) = true then ((at? a1 x904) >>= fun b909 => (f_bound_In.f a0.f1 b909.f0) >>= fun t914 => if (!t914) = true then (some (.inl 4)) else (((if (decide (x904 > (0 : Int))) = true then ((at? a1 (IntKind.i64.wrap (x904 - (1 : Int)))) >>= fun b922 => some (decide (b922.f0 ≥ b909.f0))) else (some false)) : Option (Bool)) >>= fun x925 => if x925 = true then (some (.inl 32)) else (if (b909.f1 == (0 : Int)) = true then (some (.inl 21)) else ((f_bound_Low.f a0.f1 b909.f0) >>= fun t930 => if (decide (t930 < a0.f2)) = true then (some (.inl 31)) else (f_hist_buckets.l0 a0 a1 (IntKind.i64.wrap (x904 + (1 : Int)))))))) else (some (.inr ()))
partial_fixpoint
def f_hist_buckets.f (a0 : THist) (a1 : List TBucket) : Option (Int) := if (decide ((a1.length : Int) > (512 : Int))) = true then (some 9) else ((f_hist_buckets.l0 a0 a1 0) >>= fun oo => match oo with | .inl rr => (some rr) | .inr _ => (some 0))
theorem f_hist_buckets.ok (a0 : THist) (a1 : List TBucket) (r : Int) (H : f_hist_buckets.f a0 a1 = some r) : Pv.Fn Try.prog 49 [.agg [iV .i64 a0.f0, iV .i64 a0.f1, iV .i64 a0.f2, iV .u64 a0.f3, iV .u64 a0.f4, iV .i64 a0.f5, .im (.row (a0.f6.map eBucket)), .im (.row (a0.f7.map eBucket))], .im (.row (a1.map eBucket))] [] 0 (fun x o => x = iV .i64 r ∧ o = []) := by
  unfold f_hist_buckets.f at H
  refine Fn.bodyK [] Try.func49 rfl rfl (fun Γ hP hn => ?_)
  have hm : Try.prog.follows .mixedOrders = true := by kernel_rfl
  replace hn : Γ.n = 52 := hn
  refine AWp.seq ?_
  refine reg hP hn hm [(0, .k 0)] [1, 2] [0] ⟨[(1, .im (.row (a1.map eBucket))), (2, .ptr 0 0 0)], [(0, some (.box 30 [iV .i64 a0.f0, iV .i64 a0.f1, iV .i64 a0.f2, iV .u64 a0.f3, iV .u64 a0.f4, iV .i64 a0.f5, .im (.row (a0.f6.map eBucket)), .im (.row (a0.f7.map eBucket))]))], 0⟩ [] (by kernel_rfl) trivial ?_
  refine AWp.seq ?_
  refine AWp.seq ?_
  refine reg hP hn hm [(1, .any (iV .i64 (a1.length : Int)))] [1, 2, 9] [0] ⟨[(1, .im (.row (a1.map eBucket))), (2, .ptr 0 0 0), (9, bV (decide ((a1.length : Int) > (512 : Int))))], [(0, some (.box 30 [iV .i64 a0.f0, iV .i64 a0.f1, iV .i64 a0.f2, iV .u64 a0.f3, iV .u64 a0.f4, iV .i64 a0.f5, .im (.row (a0.f6.map eBucket)), .im (.row (a0.f7.map eBucket))]))], 0⟩ [((a1.map eBucket).length : Int) = (a1.length : Int)] (by kernel_rfl) ⟨by rw [len_map], trivial⟩ ?_
  refine AWp.cond (decide ((a1.length : Int) > (512 : Int))) rfl (fun c836 => ?_) (fun c836 => ?_)
  · replace H := (ifT c836).symm.trans H
    refine AWp.seq ?_
    refine reg hP hn hm [] [4] [] ⟨[(4, iV .i64 9)], [], 0⟩ [] (by kernel_rfl) trivial ?_
    refine AWp.conv (inv := []) (vk := []) (e0 := []) (t := ⟨[(4, iV .i64 9)], [], 0⟩) (by kernel_rfl) ?_
    refine AWp.ret ?_
    obtain rfl := Option.some.inj H
    exact Exists.intro _ (And.intro (fun _ _ h => h) (And.intro (.inl rfl) (And.intro rfl (And.intro (by kernel_rfl) (by kernel_rfl)))))
  · replace H := (ifF c836).symm.trans H
    refine AWp.skip ?_
    refine AWp.seq ?_
    refine AWp.seq ?_
    refine reg hP hn hm [(1, .any (iV .i64 (a1.length : Int)))] [1, 2, 10, 11, 12] [0] ⟨[(1, .im (.row (a1.map eBucket))), (2, .ptr 0 0 0), (10, .im (.row (a1.map eBucket))), (11, iV .i64 (a1.length : Int)), (12, iV .i64 0)], [(0, some (.box 30 [iV .i64 a0.f0, iV .i64 a0.f1, iV .i64 a0.f2, iV .u64 a0.f3, iV .u64 a0.f4, iV .i64 a0.f5, .im (.row (a0.f6.map eBucket)), .im (.row (a0.f7.map eBucket))]))], 0⟩ [((a1.map eBucket).length : Int) = (a1.length : Int)] (by kernel_rfl) ⟨by rw [len_map], trivial⟩ ?_
    refine AWp.block ?_
    obtain ⟨o933, e934, H⟩ := bind_of H
    refine AWp.loop (LWp.conv (inv := [(0, 2)]) (vk := []) (e0 := []) (t := ⟨[(1, .im (.row (a1.map eBucket))), (2, .ptr 2 0 0), (10, .im (.row (a1.map eBucket))), (11, iV .i64 (a1.length : Int)), (12, iV .i64 0)], [(2, some (.box 30 [iV .i64 a0.f0, iV .i64 a0.f1, iV .i64 a0.f2, iV .u64 a0.f3, iV .u64 a0.f4, iV .i64 a0.f5, .im (.row (a0.f6.map eBucket)), .im (.row (a0.f7.map eBucket))]))], 0⟩) (by kernel_rfl) ?_)
    refine LWp.mono (Q := fun e s => (match (generalizing := false) o933 with | .inl rr => e = .ret ∧ s.floor = 0 ∧ resOf Try.prog Try.f49 s = some (iV .i64 rr) ∧ ([] : List (Nat × Option MObj)) = [] | .inr _ => e = .exit 0 ∧ s = ⟨[], [], 0⟩)) (LWp.cv (withBody (fun body hbody => ?_))) ?_
    · refine f_hist_buckets.l0.partial_correctness a0 a1 (motive := fun x904 o933 => LWp Γ body (fun e s => ∃ t, Cv Γ s t ∧ (match (generalizing := false) o933 with | .inl rr => e = .ret ∧ t.floor = 0 ∧ resOf Try.prog Try.f49 t = some (iV .i64 rr) ∧ ([] : List (Nat × Option MObj)) = [] | .inr _ => e = .exit 0 ∧ t = ⟨[], [], 0⟩)) ⟨[(1, .im (.row (a1.map eBucket))), (2, .ptr 2 0 0), (10, .im (.row (a1.map eBucket))), (11, iV .i64 (a1.length : Int)), (12, iV .i64 x904)], [(2, some (.box 30 [iV .i64 a0.f0, iV .i64 a0.f1, iV .i64 a0.f2, iV .u64 a0.f3, iV .u64 a0.f4, iV .i64 a0.f5, .im (.row (a0.f6.map eBucket)), .im (.row (a0.f7.map eBucket))]))], 0⟩) ?_ _ _ e934
      clear H e934 o933; intro self ih x904 o933 H
      subst hbody
      refine LWp.round ?_
      refine AWp.seq ?_
      refine reg hP hn hm [] [1, 2, 10, 11, 12, 13] [2] ⟨[(1, .im (.row (a1.map eBucket))), (2, .ptr 2 0 0), (10, .im (.row (a1.map eBucket))), (11, iV .i64 (a1.length : Int)), (12, iV .i64 x904), (13, bV (decide (x904 < (a1.length : Int))))], [(2, some (.box 30 [iV .i64 a0.f0, iV .i64 a0.f1, iV .i64 a0.f2, iV .u64 a0.f3, iV .u64 a0.f4, iV .i64 a0.f5, .im (.row (a0.f6.map eBucket)), .im (.row (a0.f7.map eBucket))]))], 0⟩ [] (by kernel_rfl) trivial ?_
      refine AWp.seq ?_
      refine AWp.cond (decide (x904 < (a1.length : Int))) rfl (fun c905 => ?_) (fun c905 => ?_)
      · replace H := (ifT c905).symm.trans H
        refine AWp.skip ?_
        refine AWp.seq ?_
        refine AWp.block ?_
        refine AWp.seq ?_
        obtain ⟨b909, p910, q911, H⟩ := at_of H
        refine reg hP hn hm [(1, .c (eBucket b909)), (3, .k 3)] [1, 2, 5, 6, 10, 11, 12] [2, 3] ⟨[(1, .im (.row (a1.map eBucket))), (2, .ptr 2 0 0), (5, iV .i64 x904), (6, .ptr 3 0 0), (10, .im (.row (a1.map eBucket))), (11, iV .i64 (a1.length : Int)), (12, iV .i64 x904)], [(2, some (.box 30 [iV .i64 a0.f0, iV .i64 a0.f1, iV .i64 a0.f2, iV .u64 a0.f3, iV .u64 a0.f4, iV .i64 a0.f5, .im (.row (a0.f6.map eBucket)), .im (.row (a0.f7.map eBucket))])), (3, some (.box 36 [iV .i64 b909.f0, iV .u64 b909.f1]))], 0⟩ [0 ≤ x904, (a1.map eBucket)[(Int.toNat (x904))]? = some (eBucket b909)] (by kernel_rfl) ⟨by exact p910, by exact el_map eBucket q911, trivial⟩ ?_
        refine AWp.block ?_
        refine AWp.seq ?_
        obtain ⟨t914, e915, H⟩ := bind_of H
        refine reg hP hn hm [(4, .call [] [] [] [] 0 (bV t914) [])] [1, 2, 5, 6, 10, 11, 12, 17] [2, 3] ⟨[(1, .im (.row (a1.map eBucket))), (2, .ptr 2 0 0), (5, iV .i64 x904), (6, .ptr 3 0 0), (10, .im (.row (a1.map eBucket))), (11, iV .i64 (a1.length : Int)), (12, iV .i64 x904), (17, bV (!t914))], [(2, some (.box 30 [iV .i64 a0.f0, iV .i64 a0.f1, iV .i64 a0.f2, iV .u64 a0.f3, iV .u64 a0.f4, iV .i64 a0.f5, .im (.row (a0.f6.map eBucket)), .im (.row (a0.f7.map eBucket))])), (3, some (.box 36 [iV .i64 b909.f0, iV .u64 b909.f1]))], 0⟩ [Enters Try.prog 80, Pv.Fn Try.prog 80 [iV .i64 a0.f1, iV .i64 b909.f0] [] 0 (fun r o => r = bV t914 ∧ o = [])] (by kernel_rfl) ⟨by exact Try.call80, by exact f_bound_In.ok a0.f1 b909.f0 t914 e915, trivial⟩ ?_
        refine AWp.cond (!t914) rfl (fun c916 => ?_) (fun c916 => ?_)
        · replace H := (ifT c916).symm.trans H
          refine AWp.seq ?_
          refine reg hP hn hm [] [4] [] ⟨[(4, iV .i64 4)], [], 0⟩ [] (by kernel_rfl) trivial ?_
          refine AWp.conv (inv := []) (vk := []) (e0 := []) (t := ⟨[(4, iV .i64 4)], [], 0⟩) (by kernel_rfl) ?_
          refine AWp.ret ?_
          obtain rfl := Option.some.inj H
          exact Exists.intro _ (And.intro (fun _ _ h => h) (And.intro rfl (And.intro rfl (And.intro (by kernel_rfl) (by kernel_rfl)))))
        · replace H := (ifF c916).symm.trans H
          refine AWp.seq ?_
          obtain ⟨o935, e936, H⟩ := bind_of H
          refine AWp.mono (Q := fun e s => (match (generalizing := false) o935 with | x925 => e = .normal ∧ s = ⟨[(1, .im (.row (a1.map eBucket))), (2, .ptr 4 0 0), (6, .ptr 5 0 0), (10, .im (.row (a1.map eBucket))), (11, iV .i64 (a1.length : Int)), (12, iV .i64 x904), (24, bV x925)], [(4, some (.box 30 [iV .i64 a0.f0, iV .i64 a0.f1, iV .i64 a0.f2, iV .u64 a0.f3, iV .u64 a0.f4, iV .i64 a0.f5, .im (.row (a0.f6.map eBucket)), .im (.row (a0.f7.map eBucket))])), (5, some (.box 36 [iV .i64 b909.f0, iV .u64 b909.f1]))], 0⟩)) (AWp.cv ?_) ?_
          · replace H := e936; clear e936
            rcases Bool.eq_false_or_eq_true (decide (x904 > (0 : Int))) with c921 | c921
            · replace H := (ifT c921).symm.trans H
              obtain ⟨b922, p923, q924, H⟩ := at_of H
              refine reg hP hn hm [(2, .b true), (6, .c (eBucket b922))] [1, 2, 6, 10, 11, 12, 24, 28, 29, 30, 31, 32, 33, 34, 35, 36] [2, 3] ⟨[(1, .im (.row (a1.map eBucket))), (2, .ptr 2 0 0), (6, .ptr 3 0 0), (10, .im (.row (a1.map eBucket))), (11, iV .i64 (a1.length : Int)), (12, iV .i64 x904), (24, bV (decide (b922.f0 ≥ b909.f0))), (28, .im (.row (a1.map eBucket))), (29, iV .i64 x904), (30, iV .i64 (IntKind.i64.wrap (x904 - (1 : Int)))), (31, .ip [iI .i64 b922.f0, iI .u64 b922.f1]), (32, .ip [iI .i64 b922.f0, iI .u64 b922.f1]), (33, iV .i64 b922.f0), (34, .ptr 3 0 0), (35, iV .i64 b909.f0), (36, bV (decide (b922.f0 ≥ b909.f0)))], [(2, some (.box 30 [iV .i64 a0.f0, iV .i64 a0.f1, iV .i64 a0.f2, iV .u64 a0.f3, iV .u64 a0.f4, iV .i64 a0.f5, .im (.row (a0.f6.map eBucket)), .im (.row (a0.f7.map eBucket))])), (3, some (.box 36 [iV .i64 b909.f0, iV .u64 b909.f1]))], 0⟩ [(decide (x904 > (0 : Int))) = true, 0 ≤ (IntKind.i64.wrap (x904 - (1 : Int))), (a1.map eBucket)[(Int.toNat (IntKind.i64.wrap (x904 - (1 : Int))))]? = some (eBucket b922)] (by kernel_rfl) ⟨by exact c921, by exact p923, by exact el_map eBucket q924, trivial⟩ ?_
              obtain rfl := Option.some.inj H
              exact Exists.intro _ (And.intro (fun _ _ h => h.conv (inv := [(2, 4), (3, 5)]) (vk := []) (e0 := []) (t := ⟨[(1, .im (.row (a1.map eBucket))), (2, .ptr 4 0 0), (6, .ptr 5 0 0), (10, .im (.row (a1.map eBucket))), (11, iV .i64 (a1.length : Int)), (12, iV .i64 x904), (24, bV (decide (b922.f0 ≥ b909.f0)))], [(4, some (.box 30 [iV .i64 a0.f0, iV .i64 a0.f1, iV .i64 a0.f2, iV .u64 a0.f3, iV .u64 a0.f4, iV .i64 a0.f5, .im (.row (a0.f6.map eBucket)), .im (.row (a0.f7.map eBucket))])), (5, some (.box 36 [iV .i64 b909.f0, iV .u64 b909.f1]))], 0⟩) (by kernel_rfl)) (And.intro rfl rfl))
            · replace H := (ifF c921).symm.trans H
              refine reg hP hn hm [(2, .b false)] [1, 2, 6, 10, 11, 12, 24] [2, 3] ⟨[(1, .im (.row (a1.map eBucket))), (2, .ptr 2 0 0), (6, .ptr 3 0 0), (10, .im (.row (a1.map eBucket))), (11, iV .i64 (a1.length : Int)), (12, iV .i64 x904), (24, bV false)], [(2, some (.box 30 [iV .i64 a0.f0, iV .i64 a0.f1, iV .i64 a0.f2, iV .u64 a0.f3, iV .u64 a0.f4, iV .i64 a0.f5, .im (.row (a0.f6.map eBucket)), .im (.row (a0.f7.map eBucket))])), (3, some (.box 36 [iV .i64 b909.f0, iV .u64 b909.f1]))], 0⟩ [(decide (x904 > (0 : Int))) = false] (by kernel_rfl) ⟨by exact c921, trivial⟩ ?_
              obtain rfl := Option.some.inj H
              exact Exists.intro _ (And.intro (fun _ _ h => h.conv (inv := [(2, 4), (3, 5)]) (vk := []) (e0 := []) (t := ⟨[(1, .im (.row (a1.map eBucket))), (2, .ptr 4 0 0), (6, .ptr 5 0 0), (10, .im (.row (a1.map eBucket))), (11, iV .i64 (a1.length : Int)), (12, iV .i64 x904), (24, bV false)], [(4, some (.box 30 [iV .i64 a0.f0, iV .i64 a0.f1, iV .i64 a0.f2, iV .u64 a0.f3, iV .u64 a0.f4, iV .i64 a0.f5, .im (.row (a0.f6.map eBucket)), .im (.row (a0.f7.map eBucket))])), (5, some (.box 36 [iV .i64 b909.f0, iV .u64 b909.f1]))], 0⟩) (by kernel_rfl)) (And.intro rfl rfl))
          · obtain ⟨x925, rfl⟩ : ∃ z, z = o935 := ⟨_, rfl⟩
            rintro e s ⟨rfl, rfl⟩
            refine AWp.cond x925 rfl (fun c926 => ?_) (fun c926 => ?_)
            · replace H := (ifT c926).symm.trans H
              refine AWp.seq ?_
              refine reg hP hn hm [] [4] [] ⟨[(4, iV .i64 32)], [], 0⟩ [] (by kernel_rfl) trivial ?_
              refine AWp.conv (inv := []) (vk := []) (e0 := []) (t := ⟨[(4, iV .i64 32)], [], 0⟩) (by kernel_rfl) ?_
              refine AWp.ret ?_
              obtain rfl := Option.some.inj H
              exact Exists.intro _ (And.intro (fun _ _ h => h) (And.intro rfl (And.intro rfl (And.intro (by kernel_rfl) (by kernel_rfl)))))
            · replace H := (ifF c926).symm.trans H
              refine AWp.seq ?_
              refine reg hP hn hm [] [1, 2, 6, 10, 11, 12, 38] [4, 5] ⟨[(1, .im (.row (a1.map eBucket))), (2, .ptr 4 0 0), (6, .ptr 5 0 0), (10, .im (.row (a1.map eBucket))), (11, iV .i64 (a1.length : Int)), (12, iV .i64 x904), (38, bV (b909.f1 == (0 : Int)))], [(4, some (.box 30 [iV .i64 a0.f0, iV .i64 a0.f1, iV .i64 a0.f2, iV .u64 a0.f3, iV .u64 a0.f4, iV .i64 a0.f5, .im (.row (a0.f6.map eBucket)), .im (.row (a0.f7.map eBucket))])), (5, some (.box 36 [iV .i64 b909.f0, iV .u64 b909.f1]))], 0⟩ [] (by kernel_rfl) trivial ?_
              refine AWp.cond (b909.f1 == (0 : Int)) rfl (fun c927 => ?_) (fun c927 => ?_)
              · replace H := (ifT c927).symm.trans H
                refine AWp.seq ?_
                refine reg hP hn hm [] [4] [] ⟨[(4, iV .i64 21)], [], 0⟩ [] (by kernel_rfl) trivial ?_
                refine AWp.conv (inv := []) (vk := []) (e0 := []) (t := ⟨[(4, iV .i64 21)], [], 0⟩) (by kernel_rfl) ?_
                refine AWp.ret ?_
                obtain rfl := Option.some.inj H
                exact Exists.intro _ (And.intro (fun _ _ h => h) (And.intro rfl (And.intro rfl (And.intro (by kernel_rfl) (by kernel_rfl)))))
              · replace H := (ifF c927).symm.trans H
                refine AWp.seq ?_
                obtain ⟨t930, e931, H⟩ := bind_of H
                refine reg hP hn hm [(4, .call [] [] [] [] 0 (iV .i64 t930) [])] [1, 2, 10, 11, 12, 42] [4] ⟨[(1, .im (.row (a1.map eBucket))), (2, .ptr 4 0 0), (10, .im (.row (a1.map eBucket))), (11, iV .i64 (a1.length : Int)), (12, iV .i64 x904), (42, bV (decide (t930 < a0.f2)))], [(4, some (.box 30 [iV .i64 a0.f0, iV .i64 a0.f1, iV .i64 a0.f2, iV .u64 a0.f3, iV .u64 a0.f4, iV .i64 a0.f5, .im (.row (a0.f6.map eBucket)), .im (.row (a0.f7.map eBucket))]))], 0⟩ [Enters Try.prog 81, Pv.Fn Try.prog 81 [iV .i64 a0.f1, iV .i64 b909.f0] [] 0 (fun r o => r = iV .i64 t930 ∧ o = [])] (by kernel_rfl) ⟨by exact Try.call81, by exact f_bound_Low.ok a0.f1 b909.f0 t930 e931, trivial⟩ ?_
                refine AWp.cond (decide (t930 < a0.f2)) rfl (fun c932 => ?_) (fun c932 => ?_)
                · replace H := (ifT c932).symm.trans H
                  refine AWp.seq ?_
                  refine reg hP hn hm [] [4] [] ⟨[(4, iV .i64 31)], [], 0⟩ [] (by kernel_rfl) trivial ?_
                  refine AWp.conv (inv := []) (vk := []) (e0 := []) (t := ⟨[(4, iV .i64 31)], [], 0⟩) (by kernel_rfl) ?_
                  refine AWp.ret ?_
                  obtain rfl := Option.some.inj H
                  exact Exists.intro _ (And.intro (fun _ _ h => h) (And.intro rfl (And.intro rfl (And.intro (by kernel_rfl) (by kernel_rfl)))))
                · replace H := (ifF c932).symm.trans H
                  refine AWp.skip ?_
                  refine reg hP hn hm [] [1, 2, 10, 11, 12] [4] ⟨[(1, .im (.row (a1.map eBucket))), (2, .ptr 4 0 0), (10, .im (.row (a1.map eBucket))), (11, iV .i64 (a1.length : Int)), (12, iV .i64 (IntKind.i64.wrap (x904 + (1 : Int))))], [(4, some (.box 30 [iV .i64 a0.f0, iV .i64 a0.f1, iV .i64 a0.f2, iV .u64 a0.f3, iV .u64 a0.f4, iV .i64 a0.f5, .im (.row (a0.f6.map eBucket)), .im (.row (a0.f7.map eBucket))]))], 0⟩ [] (by kernel_rfl) trivial ?_
                  exact LWp.conv (inv := [(4, 2)]) (vk := []) (e0 := []) (t := ⟨[(1, .im (.row (a1.map eBucket))), (2, .ptr 2 0 0), (10, .im (.row (a1.map eBucket))), (11, iV .i64 (a1.length : Int)), (12, iV .i64 (IntKind.i64.wrap (x904 + (1 : Int))))], [(2, some (.box 30 [iV .i64 a0.f0, iV .i64 a0.f1, iV .i64 a0.f2, iV .u64 a0.f3, iV .u64 a0.f4, iV .i64 a0.f5, .im (.row (a0.f6.map eBucket)), .im (.row (a0.f7.map eBucket))]))], 0⟩) (by kernel_rfl) (ih _ _ H)
      · replace H := (ifF c905).symm.trans H
        refine AWp.exit ?_
        obtain rfl := Option.some.inj H
        exact Exists.intro _ (And.intro (fun _ _ h => h.conv (inv := []) (vk := []) (e0 := []) (t := ⟨[], [], 0⟩) (by kernel_rfl)) (And.intro rfl rfl))
    · rcases o933 with rr | _
      · skip
        rintro e s ⟨rfl, hfl, hres⟩
        obtain rfl := Option.some.inj H
        exact Exists.intro _ (And.intro (fun _ _ h => h) (And.intro (.inl rfl) (And.intro hfl hres)))
      · skip
        rintro e s ⟨rfl, rfl⟩
        refine AWp.seq ?_
        refine reg hP hn hm [] [4] [] ⟨[(4, iV .i64 0)], [], 0⟩ [] (by kernel_rfl) trivial ?_
        refine AWp.conv (inv := []) (vk := []) (e0 := []) (t := ⟨[(4, iV .i64 0)], [], 0⟩) (by kernel_rfl) ?_
        refine AWp.ret ?_
        obtain rfl := Option.some.inj H
        exact Exists.intro _ (And.intro (fun _ _ h => h) (And.intro (.inl rfl) (And.intro rfl (And.intro (by kernel_rfl) (by kernel_rfl)))))
end Go.Proofs.Ytjfhobijgkccdaa.PvGA
