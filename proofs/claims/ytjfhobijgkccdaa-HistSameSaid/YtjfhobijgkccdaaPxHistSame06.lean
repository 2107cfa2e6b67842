import Derived.Test.YtjfhobijgkccdaaProg
import Derived.Test.YtjfhobijgkccdaaPxHistSame05
set_option linter.unusedVariables false
set_option linter.unnecessarySimpa false
set_option linter.unusedSimpArgs false
set_option maxRecDepth 10000
namespace Go.Proofs.Ytjfhobijgkccdaa.PvGA3
open Go Go.Pv
structure TBucket where
  f0 : Int
  f1 : Int
  deriving DecidableEq, Inhabited
abbrev eBucket (x : TBucket) : List Im := [iI .i64 x.f0, iI .u64 x.f1]
abbrev aBucket (x : TBucket) : List AVal := [iV .i64 x.f0, iV .u64 x.f1]
structure RBucket (x : TBucket) : Prop where
  r0 : I64 x.f0
  r1 : U64 x.f1
structure THist where
  f0 : Int
  f1 : Int
  f2 : Int
  f3 : Int
  f4 : Int
  f5 : Int
  f6 : List TBucket
  f7 : List TBucket
  deriving DecidableEq, Inhabited
abbrev eHist (x : THist) : List Im := [iI .i64 x.f0, iI .i64 x.f1, iI .i64 x.f2, iI .u64 x.f3, iI .u64 x.f4, iI .i64 x.f5, .row (x.f6.map eBucket), .row (x.f7.map eBucket)]
abbrev aHist (x : THist) : List AVal := [iV .i64 x.f0, iV .i64 x.f1, iV .i64 x.f2, iV .u64 x.f3, iV .u64 x.f4, iV .i64 x.f5, .im (.row (x.f6.map eBucket)), .im (.row (x.f7.map eBucket))]
structure RHist (x : THist) : Prop where
  r0 : I64 x.f0
  r1 : I64 x.f1
  r2 : I64 x.f2
  r3 : U64 x.f3
  r4 : U64 x.f4
  r5 : I64 x.f5
  r6 : x.f6.length ≤ maxLen ∧ ∀ y ∈ x.f6, RBucket y
  r7 : x.f7.length ≤ maxLen ∧ ∀ y ∈ x.f7, RBucket y
structure Tbound_Key where
  f0 : Int
  f1 : Int
  f2 : Int
  deriving DecidableEq, Inhabited
abbrev abound_Key (x : Tbound_Key) : List AVal := [iV .i64 x.f0, iV .i64 x.f1, iV .i64 x.f2]
structure Rbound_Key (x : Tbound_Key) : Prop where
  r0 : I64 x.f0
  r1 : I64 x.f1
  r2 : I64 x.f2
abbrev vkbound_Key (x : Tbound_Key) : List Value := [.int .i64 x.f0, .int .i64 x.f1, .int .i64 x.f2]
theorem keyok53 : KeyOK Try.prog 53 (fun x : Tbound_Key => Value.agg (vkbound_Key x).toArray) := key_struct (fs := Try.prog.fieldsOf 53) (vs := vkbound_Key) (by kernel_rfl) (by kernel_rfl) (fun a => by kernel_rfl) (fun a b => (show eqFs Try.prog (Try.prog.fieldsOf 53).toList (vkbound_Key a) (vkbound_Key b) = some ((a.f0 == b.f0) && ((a.f1 == b.f1) && ((a.f2 == b.f2) && (true)))) by kernel_rfl).trans (congrArg some (by rcases a with ⟨a0, a1, a2⟩; rcases b with ⟨b0, b1, b2⟩; rw [Bool.eq_iff_iff]; simp; constructor <;> (intro h; simp [h])))) (fun a => rfl)
def f_pluviallaw05_Light.f (a0 : THist) : Option (Bool) := ((if (decide ((a0.f6.length : Int) ≤ (600 : Int))) = true then (some (decide ((a0.f7.length : Int) ≤ (600 : Int)))) else (some false)) : Option (Bool)) >>= fun x3 => some x3
theorem f_pluviallaw05_Light.ok (a0 : THist) (r : Bool) (H : f_pluviallaw05_Light.f a0 = some r) : Pv.Fn Try.prog 15 [.agg (aHist a0)] [] 0 (fun x o => x = bV r ∧ o = []) := by
  unfold f_pluviallaw05_Light.f at H
  refine Fn.bodyK [] Try.func15 rfl rfl (fun Γ hP hn => ?_)
  have hm : Try.prog.follows .mixedOrders = true := by kernel_rfl
  replace hn : Γ.n = 13 := hn
  refine AWp.seq ?_
  refine reg hP hn hm [(0, .k 0)] [1] [0] ⟨[(1, .ptr 0 0 0)], [(0, some (.box 30 (aHist a0)))], 0⟩ [] (by kernel_rfl) trivial ?_
  refine AWp.seq ?_
  obtain ⟨o4, e5, H⟩ := bind_of H
  refine AWp.mono (Q := fun e s => (match (generalizing := false) o4 with | x3 => e = .normal ∧ s = ⟨[(2, bV x3)], [], 0⟩)) (AWp.cv ?_) ?_
  · replace H := e5; clear e5
    rcases Bool.eq_false_or_eq_true (decide ((a0.f6.length : Int) ≤ (600 : Int))) with c2 | c2
    · replace H := (ifT c2).symm.trans H
      refine reg hP hn hm [(2, .any (iV .i64 (a0.f6.length : Int))), (4, .b true), (7, .any (iV .i64 (a0.f7.length : Int)))] [2] [] ⟨[(2, bV (decide ((a0.f7.length : Int) ≤ (600 : Int))))], [], 0⟩ [((a0.f6.map eBucket).length : Int) = (a0.f6.length : Int), (decide ((a0.f6.length : Int) ≤ (600 : Int))) = true, ((a0.f7.map eBucket).length : Int) = (a0.f7.length : Int)] (by kernel_rfl) ⟨by rw [len_map], by exact c2, by rw [len_map], trivial⟩ ?_
      obtain rfl := Option.some.inj H
      exact Exists.intro _ (And.intro (fun _ _ h => h.conv (inv := []) (vk := []) (e0 := []) (t := ⟨[(2, bV (decide ((a0.f7.length : Int) ≤ (600 : Int))))], [], 0⟩) (by kernel_rfl)) (And.intro rfl rfl))
    · replace H := (ifF c2).symm.trans H
      refine reg hP hn hm [(2, .any (iV .i64 (a0.f6.length : Int))), (4, .b false)] [2] [] ⟨[(2, bV false)], [], 0⟩ [((a0.f6.map eBucket).length : Int) = (a0.f6.length : Int), (decide ((a0.f6.length : Int) ≤ (600 : Int))) = false] (by kernel_rfl) ⟨by rw [len_map], by exact c2, trivial⟩ ?_
      obtain rfl := Option.some.inj H
      exact Exists.intro _ (And.intro (fun _ _ h => h.conv (inv := []) (vk := []) (e0 := []) (t := ⟨[(2, bV false)], [], 0⟩) (by kernel_rfl)) (And.intro rfl rfl))
  · obtain ⟨x3, rfl⟩ : ∃ z, z = o4 := ⟨_, rfl⟩
    rintro e s ⟨rfl, rfl⟩
    refine AWp.conv (inv := []) (vk := []) (e0 := []) (t := ⟨[(2, bV x3)], [], 0⟩) (by kernel_rfl) ?_
    refine AWp.ret ?_
    obtain rfl := Option.some.inj H
    exact Exists.intro _ (And.intro (fun _ _ h => h) (And.intro (.inl rfl) (And.intro rfl (And.intro (by kernel_rfl) (by kernel_rfl)))))
def f_hist_Empty.f (a0 : Int) (a1 : Int) : Option (THist) := some (⟨a0, a1, (-524288), 0, 0, 0, [], []⟩ : THist)
theorem f_hist_Empty.ok (a0 : Int) (a1 : Int) (r : THist) (H : f_hist_Empty.f a0 a1 = some r) : Pv.Fn Try.prog 33 [iV .i64 a0, iV .i64 a1] [] 0 (fun x o => x = .agg (aHist (r)) ∧ o = []) := by
  unfold f_hist_Empty.f at H
  refine Fn.bodyK [] Try.func33 rfl rfl (fun Γ hP hn => ?_)
  have hm : Try.prog.follows .mixedOrders = true := by kernel_rfl
  replace hn : Γ.n = 8 := hn
  refine AWp.seq ?_
  refine reg hP hn hm [(0, .k 0)] [0, 1, 4] [0] ⟨[(0, iV .i64 a0), (1, iV .i64 a1), (4, .ptr 0 0 0)], [(0, some (.box 30 [iV .i64 0, iV .i64 0, iV .i64 0, iV .u64 0, iV .u64 0, iV .i64 0, .none0, .none0]))], 0⟩ [] (by kernel_rfl) trivial ?_
  refine AWp.seq ?_
  refine reg hP hn hm [] [4] [0] ⟨[(4, .ptr 0 0 0)], [(0, some (.box 30 [iV .i64 a0, iV .i64 a1, iV .i64 (-524288), iV .u64 0, iV .u64 0, iV .i64 0, .none0, .none0]))], 0⟩ [] (by kernel_rfl) trivial ?_
  refine AWp.conv (inv := [(0, 0)]) (vk := []) (e0 := []) (t := ⟨[(4, .ptr 0 0 0)], [(0, some (.box 30 (aHist ((⟨a0, a1, (-524288), 0, 0, 0, [], []⟩ : THist)))))], 0⟩) (by kernel_rfl) ?_
  refine AWp.ret ?_
  obtain rfl := Option.some.inj H
  exact Exists.intro _ (And.intro (fun _ _ h => h) (And.intro (.inl rfl) (And.intro rfl (And.intro (by kernel_rfl) (by kernel_rfl)))))
def f_slices_Clone_api_Bucket.f (a0 : List TBucket) : Option (List TBucket) := (chk ((([] : List TBucket).length + a0.length) * 16 ≤ 140737488355328)) >>= fun _ => some a0
theorem f_slices_Clone_api_Bucket.ok (a0 r : List TBucket) (H : f_slices_Clone_api_Bucket.f a0 = some r) : Pv.Fn Try.prog 55 [.im (.row (a0.map eBucket))] [] 0 (fun x o => x = .own 0 ∧ o = [(0, some (.row 2 36 (r.map eBucket)))]) := by
  unfold f_slices_Clone_api_Bucket.f at H
  obtain ⟨c1, H⟩ := chk_of H
  obtain rfl := Option.some.inj H
  refine Fn.bodyK [0] Try.func55 rfl rfl (fun Γ hP hn => ?_)
  have hm : Try.prog.follows .mixedOrders = true := by kernel_rfl
  replace hn : Γ.n = 8 := hn
  refine AWp.seq ?_
  refine reg hP hn hm [] [0, 2] [] ⟨[(0, .im (.row (a0.map eBucket))), (2, .none0)], [], 0⟩ [] (by kernel_rfl) trivial ?_
  refine AWp.seq ?_
  cases a0 with
  | nil =>
    refine AWp.nilSplit 0 rfl (fun b m => ?_)
    refine AWp.seq ?_
    cases b with
    | none =>
      refine reg hP hn hm [(1, .more xNil)] [2, 4] [] ⟨[(2, .none0), (4, bV true)], [], 0⟩ [] (by kernel_rfl) trivial ?_
      refine AWp.cond true rfl (fun _ => ?_) (fun h => nomatch h)
      refine AWp.seq ?_
      refine reg hP hn hm [] [2] [] ⟨[(2, .none0)], [], 0⟩ [] (by kernel_rfl) trivial ?_
      refine AWp.conv (inv := []) (vk := []) (e0 := [0]) (t := ⟨[(2, .own 0)], [(0, some (.row 2 36 []))], 0⟩) (by kernel_rfl) ?_
      refine AWp.ret ?_
      exact Exists.intro _ (And.intro (fun _ _ h => h) (And.intro (.inl rfl) (And.intro rfl (And.intro (by kernel_rfl) (by kernel_rfl)))))
    | some b =>
      refine reg hP hn hm [(1, .more xNil)] [0, 2, 4] [] ⟨[(0, .im (.sc (.slice (some b) 0 m))), (2, .none0), (4, bV false)], [], 0⟩ [] (by kernel_rfl) trivial ?_
      refine AWp.cond false rfl (fun h => nomatch h) (fun _ => ?_)
      refine AWp.skip ?_
      refine AWp.unsplit 0 rfl ?_
      refine AWp.seq ?_
      refine reg hP hn hm [(0, .app 0 ([] : List (List Im))), (2, .app 1 (([] : List TBucket).map eBucket))] [2] [1] ⟨[(2, .own 1)], [(1, some (.row 2 36 (([] : List TBucket).map eBucket)))], 0⟩ [([] : List (List Im)) = [], ([] : List TBucket).map eBucket = ([] : List (List Im)) ++ ([] : List TBucket).map eBucket, ∀ c ∈ ([] : List TBucket).map eBucket, c.length = 2, ∀ c ∈ ([] : List TBucket).map eBucket, leaves (c.map .im) = true, (([] : List (List Im)).length + (([] : List TBucket).map eBucket).length) * 16 ≤ 140737488355328] (by kernel_rfl) ⟨rfl, by simp, by exact all_len _ _ _ (fun _ => rfl), by exact all_leaf _ _ (fun _ => rfl), by simpa using c1, trivial⟩ ?_
      refine AWp.conv (inv := [(1, 0)]) (vk := []) (e0 := []) (t := ⟨[(2, .own 0)], [(0, some (.row 2 36 (([] : List TBucket).map eBucket)))], 0⟩) (by kernel_rfl) ?_
      refine AWp.ret ?_
      exact Exists.intro _ (And.intro (fun _ _ h => h) (And.intro (.inl rfl) (And.intro rfl (And.intro (by kernel_rfl) (by kernel_rfl)))))
  | cons y l =>
    refine AWp.seq ?_
    refine reg hP hn hm [(1, .more xNil)] [0, 2, 4] [] ⟨[(0, .im (.row ((y :: l).map eBucket))), (2, .none0), (4, bV false)], [], 0⟩ [] (by kernel_rfl) trivial ?_
    refine AWp.cond false rfl (fun h => nomatch h) (fun _ => ?_)
    refine AWp.skip ?_
    refine AWp.seq ?_
    refine reg hP hn hm [(0, .app 0 ([] : List (List Im))), (2, .app 1 ((y :: l).map eBucket))] [2] [1] ⟨[(2, .own 1)], [(1, some (.row 2 36 ((y :: l).map eBucket)))], 0⟩ [([] : List (List Im)) = [], (y :: l).map eBucket = ([] : List (List Im)) ++ (y :: l).map eBucket, ∀ c ∈ (y :: l).map eBucket, c.length = 2, ∀ c ∈ (y :: l).map eBucket, leaves (c.map .im) = true, (([] : List (List Im)).length + ((y :: l).map eBucket).length) * 16 ≤ 140737488355328] (by kernel_rfl) ⟨rfl, by simp, by exact all_len _ _ _ (fun _ => rfl), by exact all_leaf _ _ (fun _ => rfl), by simpa using c1, trivial⟩ ?_
    refine AWp.conv (inv := [(1, 0)]) (vk := []) (e0 := []) (t := ⟨[(2, .own 0)], [(0, some (.row 2 36 ((y :: l).map eBucket)))], 0⟩) (by kernel_rfl) ?_
    refine AWp.ret ?_
    exact Exists.intro _ (And.intro (fun _ _ h => h) (And.intro (.inl rfl) (And.intro rfl (And.intro (by kernel_rfl) (by kernel_rfl)))))
def f_cmp_isNaN_int.f (a0 : Int) : Option (Unit) := some ()
theorem f_cmp_isNaN_int.ok (a0 : Int) (r : Unit) (H : f_cmp_isNaN_int.f a0 = some r) : Pv.Fn Try.prog 86 [iV .i64 a0] [] 0 (fun x o => x = bV (a0 != a0) ∧ o = []) := by
  unfold f_cmp_isNaN_int.f at H
  refine Fn.bodyK [] Try.func86 rfl rfl (fun Γ hP hn => ?_)
  have hm : Try.prog.follows .mixedOrders = true := by kernel_rfl
  replace hn : Γ.n = 6 := hn
  refine AWp.seq ?_
  refine reg hP hn hm [] [0] [] ⟨[(0, iV .i64 a0)], [], 0⟩ [] (by kernel_rfl) trivial ?_
  refine AWp.seq ?_
  refine reg hP hn hm [] [2] [] ⟨[(2, bV (a0 != a0))], [], 0⟩ [] (by kernel_rfl) trivial ?_
  refine AWp.conv (inv := []) (vk := []) (e0 := []) (t := ⟨[(2, bV (a0 != a0))], [], 0⟩) (by kernel_rfl) ?_
  refine AWp.ret ?_
  obtain rfl := Option.some.inj H
  exact Exists.intro _ (And.intro (fun _ _ h => h) (And.intro (.inl rfl) (And.intro rfl (And.intro (by kernel_rfl) (by kernel_rfl)))))
def f_cmp_Compare_int.f (a0 : Int) (a1 : Int) : Option (Int) := (f_cmp_isNaN_int.f a0) >>= fun t35 => (f_cmp_isNaN_int.f a1) >>= fun t39 => if (a0 != a0) = true then (if (a1 != a1) = true then (some 0) else (some (-1))) else (if (a1 != a1) = true then (some 1) else (if (decide (a0 < a1)) = true then (some (-1)) else (if (decide (a0 > a1)) = true then (some 1) else (some 0))))
theorem f_cmp_Compare_int.ok (a0 : Int) (a1 : Int) (r : Int) (H : f_cmp_Compare_int.f a0 a1 = some r) : Pv.Fn Try.prog 62 [iV .i64 a0, iV .i64 a1] [] 0 (fun x o => x = iV .i64 r ∧ o = []) := by
  unfold f_cmp_Compare_int.f at H
  refine Fn.bodyK [] Try.func62 rfl rfl (fun Γ hP hn => ?_)
  have hm : Try.prog.follows .mixedOrders = true := by kernel_rfl
  replace hn : Γ.n = 20 := hn
  refine AWp.seq ?_
  refine reg hP hn hm [] [0, 1] [] ⟨[(0, iV .i64 a0), (1, iV .i64 a1)], [], 0⟩ [] (by kernel_rfl) trivial ?_
  refine AWp.seq ?_
  obtain ⟨t35, e36, H⟩ := bind_of H
  refine reg hP hn hm [(1, .call [] [] [] [] 0 (bV (a0 != a0)) [])] [0, 1, 5] [] ⟨[(0, iV .i64 a0), (1, iV .i64 a1), (5, bV (a0 != a0))], [], 0⟩ [Enters Try.prog 86, Pv.Fn Try.prog 86 [iV .i64 a0] [] 0 (fun r o => r = bV (a0 != a0) ∧ o = [])] (by kernel_rfl) ⟨by exact Try.call86, by exact f_cmp_isNaN_int.ok a0 t35 e36, trivial⟩ ?_
  refine AWp.seq ?_
  obtain ⟨t39, e40, H⟩ := bind_of H
  refine reg hP hn hm [(1, .call [] [] [] [] 0 (bV (a1 != a1)) [])] [0, 1, 5, 6] [] ⟨[(0, iV .i64 a0), (1, iV .i64 a1), (5, bV (a0 != a0)), (6, bV (a1 != a1))], [], 0⟩ [Enters Try.prog 86, Pv.Fn Try.prog 86 [iV .i64 a1] [] 0 (fun r o => r = bV (a1 != a1) ∧ o = [])] (by kernel_rfl) ⟨by exact Try.call86, by exact f_cmp_isNaN_int.ok a1 t39 e40, trivial⟩ ?_
  refine AWp.seq ?_
  refine AWp.seq ?_
  refine reg hP hn hm [] [0, 1, 6, 11] [] ⟨[(0, iV .i64 a0), (1, iV .i64 a1), (6, bV (a1 != a1)), (11, bV (a0 != a0))], [], 0⟩ [] (by kernel_rfl) trivial ?_
  refine AWp.cond (a0 != a0) rfl (fun c41 => ?_) (fun c41 => ?_)
  · replace H := (ifT c41).symm.trans H
    refine AWp.seq ?_
    refine AWp.seq ?_
    refine reg hP hn hm [] [12] [] ⟨[(12, bV (a1 != a1))], [], 0⟩ [] (by kernel_rfl) trivial ?_
    refine AWp.cond (a1 != a1) rfl (fun c42 => ?_) (fun c42 => ?_)
    · replace H := (ifT c42).symm.trans H
      refine AWp.seq ?_
      refine reg hP hn hm [] [4] [] ⟨[(4, iV .i64 0)], [], 0⟩ [] (by kernel_rfl) trivial ?_
      refine AWp.conv (inv := []) (vk := []) (e0 := []) (t := ⟨[(4, iV .i64 0)], [], 0⟩) (by kernel_rfl) ?_
      refine AWp.ret ?_
      obtain rfl := Option.some.inj H
      exact Exists.intro _ (And.intro (fun _ _ h => h) (And.intro (.inl rfl) (And.intro rfl (And.intro (by kernel_rfl) (by kernel_rfl)))))
    · replace H := (ifF c42).symm.trans H
      refine AWp.skip ?_
      refine AWp.seq ?_
      refine reg hP hn hm [] [4] [] ⟨[(4, iV .i64 (-1))], [], 0⟩ [] (by kernel_rfl) trivial ?_
      refine AWp.conv (inv := []) (vk := []) (e0 := []) (t := ⟨[(4, iV .i64 (-1))], [], 0⟩) (by kernel_rfl) ?_
      refine AWp.ret ?_
      obtain rfl := Option.some.inj H
      exact Exists.intro _ (And.intro (fun _ _ h => h) (And.intro (.inl rfl) (And.intro rfl (And.intro (by kernel_rfl) (by kernel_rfl)))))
  · replace H := (ifF c41).symm.trans H
    refine AWp.skip ?_
    refine AWp.seq ?_
    refine AWp.seq ?_
    refine reg hP hn hm [] [0, 1, 13] [] ⟨[(0, iV .i64 a0), (1, iV .i64 a1), (13, bV (a1 != a1))], [], 0⟩ [] (by kernel_rfl) trivial ?_
    refine AWp.cond (a1 != a1) rfl (fun c43 => ?_) (fun c43 => ?_)
    · replace H := (ifT c43).symm.trans H
      refine AWp.seq ?_
      refine reg hP hn hm [] [4] [] ⟨[(4, iV .i64 1)], [], 0⟩ [] (by kernel_rfl) trivial ?_
      refine AWp.conv (inv := []) (vk := []) (e0 := []) (t := ⟨[(4, iV .i64 1)], [], 0⟩) (by kernel_rfl) ?_
      refine AWp.ret ?_
      obtain rfl := Option.some.inj H
      exact Exists.intro _ (And.intro (fun _ _ h => h) (And.intro (.inl rfl) (And.intro rfl (And.intro (by kernel_rfl) (by kernel_rfl)))))
    · replace H := (ifF c43).symm.trans H
      refine AWp.skip ?_
      refine AWp.seq ?_
      refine AWp.seq ?_
      refine reg hP hn hm [] [0, 1, 16] [] ⟨[(0, iV .i64 a0), (1, iV .i64 a1), (16, bV (decide (a0 < a1)))], [], 0⟩ [] (by kernel_rfl) trivial ?_
      refine AWp.cond (decide (a0 < a1)) rfl (fun c44 => ?_) (fun c44 => ?_)
      · replace H := (ifT c44).symm.trans H
        refine AWp.seq ?_
        refine reg hP hn hm [] [4] [] ⟨[(4, iV .i64 (-1))], [], 0⟩ [] (by kernel_rfl) trivial ?_
        refine AWp.conv (inv := []) (vk := []) (e0 := []) (t := ⟨[(4, iV .i64 (-1))], [], 0⟩) (by kernel_rfl) ?_
        refine AWp.ret ?_
        obtain rfl := Option.some.inj H
        exact Exists.intro _ (And.intro (fun _ _ h => h) (And.intro (.inl rfl) (And.intro rfl (And.intro (by kernel_rfl) (by kernel_rfl)))))
      · replace H := (ifF c44).symm.trans H
        refine AWp.skip ?_
        refine AWp.seq ?_
        refine AWp.seq ?_
        refine reg hP hn hm [] [19] [] ⟨[(19, bV (decide (a0 > a1)))], [], 0⟩ [] (by kernel_rfl) trivial ?_
        refine AWp.cond (decide (a0 > a1)) rfl (fun c45 => ?_) (fun c45 => ?_)
        · replace H := (ifT c45).symm.trans H
          refine AWp.seq ?_
          refine reg hP hn hm [] [4] [] ⟨[(4, iV .i64 1)], [], 0⟩ [] (by kernel_rfl) trivial ?_
          refine AWp.conv (inv := []) (vk := []) (e0 := []) (t := ⟨[(4, iV .i64 1)], [], 0⟩) (by kernel_rfl) ?_
          refine AWp.ret ?_
          obtain rfl := Option.some.inj H
          exact Exists.intro _ (And.intro (fun _ _ h => h) (And.intro (.inl rfl) (And.intro rfl (And.intro (by kernel_rfl) (by kernel_rfl)))))
        · replace H := (ifF c45).symm.trans H
          refine AWp.skip ?_
          refine AWp.seq ?_
          refine reg hP hn hm [] [4] [] ⟨[(4, iV .i64 0)], [], 0⟩ [] (by kernel_rfl) trivial ?_
          refine AWp.conv (inv := []) (vk := []) (e0 := []) (t := ⟨[(4, iV .i64 0)], [], 0⟩) (by kernel_rfl) ?_
          refine AWp.ret ?_
          obtain rfl := Option.some.inj H
          exact Exists.intro _ (And.intro (fun _ _ h => h) (And.intro (.inl rfl) (And.intro rfl (And.intro (by kernel_rfl) (by kernel_rfl)))))
def f_hist_tidy_1.f (a0 : TBucket) (a1 : TBucket) : Option (Int) := (f_cmp_Compare_int.f a0.f0 a1.f0) >>= fun t48 => some t48
theorem f_hist_tidy_1.ok (a0 : TBucket) (a1 : TBucket) (r : Int) (H : f_hist_tidy_1.f a0 a1 = some r) : Pv.Fn Try.prog 78 [.agg (aBucket a0), .agg (aBucket a1)] [] 0 (fun x o => x = iV .i64 r ∧ o = []) := by
  unfold f_hist_tidy_1.f at H
  refine Fn.bodyK [] Try.func78 rfl rfl (fun Γ hP hn => ?_)
  have hm : Try.prog.follows .mixedOrders = true := by kernel_rfl
  replace hn : Γ.n = 10 := hn
  refine AWp.seq ?_
  refine reg hP hn hm [(0, .k 0), (1, .k 1)] [2, 3] [0, 1] ⟨[(2, .ptr 0 0 0), (3, .ptr 1 0 0)], [(0, some (.box 36 (aBucket a0))), (1, some (.box 36 (aBucket a1)))], 0⟩ [] (by kernel_rfl) trivial ?_
  refine AWp.seq ?_
  obtain ⟨t48, e49, H⟩ := bind_of H
  refine reg hP hn hm [(4, .call [] [] [] [] 0 (iV .i64 t48) [])] [4] [] ⟨[(4, iV .i64 t48)], [], 0⟩ [Enters Try.prog 62, Pv.Fn Try.prog 62 [iV .i64 a0.f0, iV .i64 a1.f0] [] 0 (fun r o => r = iV .i64 t48 ∧ o = [])] (by kernel_rfl) ⟨by exact Try.call62, by exact f_cmp_Compare_int.ok a0.f0 a1.f0 t48 e49, trivial⟩ ?_
  refine AWp.conv (inv := []) (vk := []) (e0 := []) (t := ⟨[(4, iV .i64 t48)], [], 0⟩) (by kernel_rfl) ?_
  refine AWp.ret ?_
  obtain rfl := Option.some.inj H
  exact Exists.intro _ (And.intro (fun _ _ h => h) (And.intro (.inl rfl) (And.intro rfl (And.intro (by kernel_rfl) (by kernel_rfl)))))
def f_slices_insertionSortCmpFunc_api_Bucket_hist_tidy_1.l1 (a1 : Int) (a2 : Int) (x123 : Int) (x163 : List TBucket) (x164 : Int) : Option (List TBucket) := ((if (decide (x164 > a1)) = true then ((at? x163 x164) >>= fun b175 => (at? x163 (IntKind.i64.wrap (x164 - (1 : Int)))) >>= fun b178 => (f_hist_tidy_1.f b175 b178) >>= fun t181 => some (decide (t181 < (0 : Int)))) else (some false)) : Option (Bool)) >>= fun x183 => if x183 = true then ((at? x163 (IntKind.i64.wrap (x164 - (1 : Int)))) >>= fun b194 => (at? x163 x164) >>= fun b197 => (at? (x163.set (Int.toNat (x164)) b194) (IntKind.i64.wrap (x164 - (1 : Int)))) >>= fun b200 => f_slices_insertionSortCmpFunc_api_Bucket_hist_tidy_1.l1 a1 a2 x123 ((x163.set (Int.toNat (x164)) b194).set (Int.toNat (IntKind.i64.wrap (x164 - (1 : Int)))) b197) (IntKind.i64.wrap (x164 - (1 : Int)))) else (some x163)
partial_fixpoint
def f_slices_insertionSortCmpFunc_api_Bucket_hist_tidy_1.l0 (a1 : Int) (a2 : Int) (x122 : List TBucket) (x123 : Int) : Option (List TBucket) := if (decide (x123 < a2)) = true then ((f_slices_insertionSortCmpFunc_api_Bucket_hist_tidy_1.l1 a1 a2 x123 x122 x123) >>= fun x203 => f_slices_insertionSortCmpFunc_api_Bucket_hist_tidy_1.l0 a1 a2 x203 (IntKind.i64.wrap (x123 + (1 : Int)))) else (some x122)
partial_fixpoint
def f_slices_insertionSortCmpFunc_api_Bucket_hist_tidy_1.f (a0 : List TBucket) (a1 : Int) (a2 : Int) : Option (List TBucket) := (f_slices_insertionSortCmpFunc_api_Bucket_hist_tidy_1.l0 a1 a2 a0 (IntKind.i64.wrap (a1 + (1 : Int)))) >>= fun x204 => some x204
theorem f_slices_insertionSortCmpFunc_api_Bucket_hist_tidy_1.ok (a0 : List TBucket) (a1 : Int) (a2 : Int) (r : List TBucket) (H : f_slices_insertionSortCmpFunc_api_Bucket_hist_tidy_1.f a0 a1 a2 = some r) : Pv.Fn Try.prog 102 [.own 0, iV .i64 a1, iV .i64 a2, .im (.sc (.func (.func 78) #[] #[]))] [(0, some (.row 2 36 (a0.map eBucket)))] 1 (fun x o => x = .tup [] ∧ o = [(0, some (.row 2 36 (r.map eBucket)))]) := by
  unfold f_slices_insertionSortCmpFunc_api_Bucket_hist_tidy_1.f at H
  refine Fn.bodyK [0] Try.func102 rfl rfl (fun Γ hP hn => ?_)
  have hm : Try.prog.follows .mixedOrders = true := by kernel_rfl
  replace hn : Γ.n = 53 := hn
  refine AWp.seq ?_
  refine reg hP hn hm [] [0, 1, 2, 3, 8] [0] ⟨[(0, .own 0), (1, iV .i64 a1), (2, iV .i64 a2), (3, .im (.sc (.func (.func 78) #[] #[]))), (8, iV .i64 (IntKind.i64.wrap (a1 + (1 : Int))))], [(0, some (.row 2 36 (a0.map eBucket)))], 1⟩ [] (by kernel_rfl) trivial ?_
  refine AWp.block ?_
  obtain ⟨o205, e206, H⟩ := bind_of H
  refine AWp.loop (LWp.conv (inv := [(0, 0)]) (vk := []) (e0 := []) (t := ⟨[(0, .own 0), (1, iV .i64 a1), (2, iV .i64 a2), (3, .im (.sc (.func (.func 78) #[] #[]))), (8, iV .i64 (IntKind.i64.wrap (a1 + (1 : Int))))], [(0, some (.row 2 36 (a0.map eBucket)))], 1⟩) (by kernel_rfl) ?_)
  refine LWp.mono (Q := fun e s => (match (generalizing := false) o205 with | x204 => e = .exit 0 ∧ s = ⟨[], [(0, some (.row 2 36 (x204.map eBucket)))], 1⟩)) (LWp.cv (withBody (fun body hbody => ?_))) ?_
  · refine f_slices_insertionSortCmpFunc_api_Bucket_hist_tidy_1.l0.partial_correctness a1 a2 (motive := fun x122 x123 o205 => LWp Γ body (fun e s => ∃ t, Cv Γ s t ∧ (match (generalizing := false) o205 with | x204 => e = .exit 0 ∧ t = ⟨[], [(0, some (.row 2 36 (x204.map eBucket)))], 1⟩)) ⟨[(0, .own 0), (1, iV .i64 a1), (2, iV .i64 a2), (3, .im (.sc (.func (.func 78) #[] #[]))), (8, iV .i64 x123)], [(0, some (.row 2 36 (x122.map eBucket)))], 1⟩) ?_ _ _ _ e206
    clear H e206 o205; intro self ih x122 x123 o205 H
    subst hbody
    refine LWp.round ?_
    refine AWp.seq ?_
    refine AWp.seq ?_
    refine reg hP hn hm [] [0, 1, 2, 3, 8, 14] [0] ⟨[(0, .own 0), (1, iV .i64 a1), (2, iV .i64 a2), (3, .im (.sc (.func (.func 78) #[] #[]))), (8, iV .i64 x123), (14, bV (decide (x123 < a2)))], [(0, some (.row 2 36 (x122.map eBucket)))], 1⟩ [] (by kernel_rfl) trivial ?_
    refine AWp.cond (decide (x123 < a2)) rfl (fun c124 => ?_) (fun c124 => ?_)
    · replace H := (ifT c124).symm.trans H
      refine AWp.skip ?_
      refine AWp.seq ?_
      refine AWp.block ?_
      refine AWp.seq ?_
      refine reg hP hn hm [] [0, 1, 2, 3, 8, 9] [0] ⟨[(0, .own 0), (1, iV .i64 a1), (2, iV .i64 a2), (3, .im (.sc (.func (.func 78) #[] #[]))), (8, iV .i64 x123), (9, iV .i64 x123)], [(0, some (.row 2 36 (x122.map eBucket)))], 1⟩ [] (by kernel_rfl) trivial ?_
      refine AWp.block ?_
      obtain ⟨o207, e208, H⟩ := bind_of H
      refine AWp.loop (LWp.conv (inv := [(0, 0)]) (vk := []) (e0 := []) (t := ⟨[(0, .own 0), (1, iV .i64 a1), (2, iV .i64 a2), (3, .im (.sc (.func (.func 78) #[] #[]))), (8, iV .i64 x123), (9, iV .i64 x123)], [(0, some (.row 2 36 (x122.map eBucket)))], 1⟩) (by kernel_rfl) ?_)
      refine LWp.mono (Q := fun e s => (match (generalizing := false) o207 with | x203 => e = .exit 2 ∧ s = ⟨[(0, .own 0), (1, iV .i64 a1), (2, iV .i64 a2), (3, .im (.sc (.func (.func 78) #[] #[]))), (8, iV .i64 x123)], [(0, some (.row 2 36 (x203.map eBucket)))], 1⟩)) (LWp.cv (withBody (fun body hbody => ?_))) ?_
      · refine f_slices_insertionSortCmpFunc_api_Bucket_hist_tidy_1.l1.partial_correctness a1 a2 x123 (motive := fun x163 x164 o207 => LWp Γ body (fun e s => ∃ t, Cv Γ s t ∧ (match (generalizing := false) o207 with | x203 => e = .exit 2 ∧ t = ⟨[(0, .own 0), (1, iV .i64 a1), (2, iV .i64 a2), (3, .im (.sc (.func (.func 78) #[] #[]))), (8, iV .i64 x123)], [(0, some (.row 2 36 (x203.map eBucket)))], 1⟩)) ⟨[(0, .own 0), (1, iV .i64 a1), (2, iV .i64 a2), (3, .im (.sc (.func (.func 78) #[] #[]))), (8, iV .i64 x123), (9, iV .i64 x164)], [(0, some (.row 2 36 (x163.map eBucket)))], 1⟩) ?_ _ _ _ e208
        clear H e208 o207; intro self ih x163 x164 o207 H
        subst hbody
        refine LWp.round ?_
        refine AWp.seq ?_
        refine AWp.seq ?_
        obtain ⟨o209, e210, H⟩ := bind_of H
        refine AWp.mono (Q := fun e s => (match (generalizing := false) o209 with | x183 => e = .normal ∧ s = ⟨[(0, .own 0), (1, iV .i64 a1), (2, iV .i64 a2), (3, .im (.sc (.func (.func 78) #[] #[]))), (8, iV .i64 x123), (9, iV .i64 x164), (34, bV x183)], [(0, some (.row 2 36 (x163.map eBucket)))], 1⟩)) (AWp.cv ?_) ?_
        · replace H := e210; clear e210
          rcases Bool.eq_false_or_eq_true (decide (x164 > a1)) with c174 | c174
          · replace H := (ifT c174).symm.trans H
            obtain ⟨b175, p176, q177, H⟩ := at_of H
            obtain ⟨b178, p179, q180, H⟩ := at_of H
            obtain ⟨t181, e182, H⟩ := bind_of H
            refine reg hP hn hm [(3, .b true), (8, .c (eBucket b175)), (13, .c (eBucket b178)), (14, .call [] [] [] [] 0 (iV .i64 t181) [])] [0, 1, 2, 3, 8, 9, 22, 23, 24, 25, 26, 27, 28, 29, 30, 31, 32, 33, 34] [0] ⟨[(0, .own 0), (1, iV .i64 a1), (2, iV .i64 a2), (3, .im (.sc (.func (.func 78) #[] #[]))), (8, iV .i64 x123), (9, iV .i64 x164), (22, .im (.sc (.func (.func 78) #[] #[]))), (23, .own 0), (24, iV .i64 x164), (25, .ptr 0 (Int.toNat (x164)) 0), (26, .agg (aBucket b175)), (27, .own 0), (28, iV .i64 x164), (29, iV .i64 (IntKind.i64.wrap (x164 - (1 : Int)))), (30, .ptr 0 (Int.toNat (IntKind.i64.wrap (x164 - (1 : Int)))) 0), (31, .agg (aBucket b178)), (32, iV .i64 t181), (33, bV (decide (t181 < (0 : Int)))), (34, bV (decide (t181 < (0 : Int))))], [(0, some (.row 2 36 (x163.map eBucket)))], 1⟩ [(decide (x164 > a1)) = true, 0 ≤ x164, x164 < (((x163.map eBucket).length : Nat) : Int), (x163.map eBucket)[(Int.toNat (x164))]? = some (eBucket b175), 0 ≤ (IntKind.i64.wrap (x164 - (1 : Int))), IntKind.i64.wrap (x164 - (1 : Int)) < (((x163.map eBucket).length : Nat) : Int), (x163.map eBucket)[(Int.toNat (IntKind.i64.wrap (x164 - (1 : Int))))]? = some (eBucket b178), Enters Try.prog 78, Pv.Fn Try.prog 78 [.agg (aBucket b175), .agg (aBucket b178)] [] 0 (fun r o => r = iV .i64 t181 ∧ o = [])] (by kernel_rfl) ⟨by exact c174, by exact p176, by exact el_lt eBucket p176 q177, by exact el_map eBucket q177, by exact p179, by exact el_lt eBucket p179 q180, by exact el_map eBucket q180, by exact Try.call78, by exact f_hist_tidy_1.ok b175 b178 t181 e182, trivial⟩ ?_
            obtain rfl := Option.some.inj H
            exact Exists.intro _ (And.intro (fun _ _ h => h.conv (inv := [(0, 0)]) (vk := []) (e0 := []) (t := ⟨[(0, .own 0), (1, iV .i64 a1), (2, iV .i64 a2), (3, .im (.sc (.func (.func 78) #[] #[]))), (8, iV .i64 x123), (9, iV .i64 x164), (34, bV (decide (t181 < (0 : Int))))], [(0, some (.row 2 36 (x163.map eBucket)))], 1⟩) (by kernel_rfl)) (And.intro rfl rfl))
          · replace H := (ifF c174).symm.trans H
            refine reg hP hn hm [(3, .b false)] [0, 1, 2, 3, 8, 9, 34] [0] ⟨[(0, .own 0), (1, iV .i64 a1), (2, iV .i64 a2), (3, .im (.sc (.func (.func 78) #[] #[]))), (8, iV .i64 x123), (9, iV .i64 x164), (34, bV false)], [(0, some (.row 2 36 (x163.map eBucket)))], 1⟩ [(decide (x164 > a1)) = false] (by kernel_rfl) ⟨by exact c174, trivial⟩ ?_
            obtain rfl := Option.some.inj H
            exact Exists.intro _ (And.intro (fun _ _ h => h.conv (inv := [(0, 0)]) (vk := []) (e0 := []) (t := ⟨[(0, .own 0), (1, iV .i64 a1), (2, iV .i64 a2), (3, .im (.sc (.func (.func 78) #[] #[]))), (8, iV .i64 x123), (9, iV .i64 x164), (34, bV false)], [(0, some (.row 2 36 (x163.map eBucket)))], 1⟩) (by kernel_rfl)) (And.intro rfl rfl))
        · obtain ⟨x183, rfl⟩ : ∃ z, z = o209 := ⟨_, rfl⟩
          rintro e s ⟨rfl, rfl⟩
          refine AWp.cond x183 rfl (fun c184 => ?_) (fun c184 => ?_)
          · replace H := (ifT c184).symm.trans H
            refine AWp.skip ?_
            refine AWp.seq ?_
            refine AWp.block ?_
            obtain ⟨b194, p195, q196, H⟩ := at_of H
            obtain ⟨b197, p198, q199, H⟩ := at_of H
            obtain ⟨b200, p201, q202, H⟩ := at_of H
            refine reg hP hn hm [(9, .c (eBucket b194)), (13, .c (eBucket b197)), (15, .put (eBucket b197) ((x163.set (Int.toNat (x164)) b194).map eBucket)), (17, .put (eBucket b200) (((x163.set (Int.toNat (x164)) b194).set (Int.toNat (IntKind.i64.wrap (x164 - (1 : Int)))) b197).map eBucket))] [0, 1, 2, 3, 8, 9] [0] ⟨[(0, .own 0), (1, iV .i64 a1), (2, iV .i64 a2), (3, .im (.sc (.func (.func 78) #[] #[]))), (8, iV .i64 x123), (9, iV .i64 x164)], [(0, some (.row 2 36 (((x163.set (Int.toNat (x164)) b194).set (Int.toNat (IntKind.i64.wrap (x164 - (1 : Int)))) b197).map eBucket)))], 1⟩ [0 ≤ (IntKind.i64.wrap (x164 - (1 : Int))), IntKind.i64.wrap (x164 - (1 : Int)) < (((x163.map eBucket).length : Nat) : Int), (x163.map eBucket)[(Int.toNat (IntKind.i64.wrap (x164 - (1 : Int))))]? = some (eBucket b194), 0 ≤ x164, x164 < (((x163.map eBucket).length : Nat) : Int), (x163.map eBucket)[(Int.toNat (x164))]? = some (eBucket b197), 0 ≤ x164, x164 < (((x163.map eBucket).length : Nat) : Int), (x163.map eBucket)[(Int.toNat (x164))]? = some (eBucket b197), (x163.set (Int.toNat (x164)) b194).map eBucket = (x163.map eBucket).set (Int.toNat (x164)) (splice (eBucket b197) 0 [iI .i64 b194.f0, iI .u64 b194.f1]), 0 ≤ (IntKind.i64.wrap (x164 - (1 : Int))), IntKind.i64.wrap (x164 - (1 : Int)) < ((((x163.set (Int.toNat (x164)) b194).map eBucket).length : Nat) : Int), ((x163.set (Int.toNat (x164)) b194).map eBucket)[(Int.toNat (IntKind.i64.wrap (x164 - (1 : Int))))]? = some (eBucket b200), ((x163.set (Int.toNat (x164)) b194).set (Int.toNat (IntKind.i64.wrap (x164 - (1 : Int)))) b197).map eBucket = ((x163.set (Int.toNat (x164)) b194).map eBucket).set (Int.toNat (IntKind.i64.wrap (x164 - (1 : Int)))) (splice (eBucket b200) 0 [iI .i64 b197.f0, iI .u64 b197.f1])] (by kernel_rfl) ⟨by exact p195, by exact el_lt eBucket p195 q196, by exact el_map eBucket q196, by exact p198, by exact el_lt eBucket p198 q199, by exact el_map eBucket q199, by exact p198, by exact el_lt eBucket p198 q199, by exact el_map eBucket q199, by exact set1 _ _ _ _, by exact p201, by exact el_lt eBucket p201 q202, by exact el_map eBucket q202, by exact set1 _ _ _ _, trivial⟩ ?_
            refine reg hP hn hm [] [0, 1, 2, 3, 8, 9] [0] ⟨[(0, .own 0), (1, iV .i64 a1), (2, iV .i64 a2), (3, .im (.sc (.func (.func 78) #[] #[]))), (8, iV .i64 x123), (9, iV .i64 (IntKind.i64.wrap (x164 - (1 : Int))))], [(0, some (.row 2 36 (((x163.set (Int.toNat (x164)) b194).set (Int.toNat (IntKind.i64.wrap (x164 - (1 : Int)))) b197).map eBucket)))], 1⟩ [] (by kernel_rfl) trivial ?_
            exact LWp.conv (inv := [(0, 0)]) (vk := []) (e0 := []) (t := ⟨[(0, .own 0), (1, iV .i64 a1), (2, iV .i64 a2), (3, .im (.sc (.func (.func 78) #[] #[]))), (8, iV .i64 x123), (9, iV .i64 (IntKind.i64.wrap (x164 - (1 : Int))))], [(0, some (.row 2 36 (((x163.set (Int.toNat (x164)) b194).set (Int.toNat (IntKind.i64.wrap (x164 - (1 : Int)))) b197).map eBucket)))], 1⟩) (by kernel_rfl) (ih _ _ _ H)
          · replace H := (ifF c184).symm.trans H
            refine AWp.exit ?_
            obtain rfl := Option.some.inj H
            exact Exists.intro _ (And.intro (fun _ _ h => h.conv (inv := [(0, 0)]) (vk := []) (e0 := []) (t := ⟨[(0, .own 0), (1, iV .i64 a1), (2, iV .i64 a2), (3, .im (.sc (.func (.func 78) #[] #[]))), (8, iV .i64 x123)], [(0, some (.row 2 36 (x163.map eBucket)))], 1⟩) (by kernel_rfl)) (And.intro rfl rfl))
      · obtain ⟨x203, rfl⟩ : ∃ z, z = o207 := ⟨_, rfl⟩
        rintro e s ⟨rfl, rfl⟩
        refine reg hP hn hm [] [0, 1, 2, 3, 8] [0] ⟨[(0, .own 0), (1, iV .i64 a1), (2, iV .i64 a2), (3, .im (.sc (.func (.func 78) #[] #[]))), (8, iV .i64 (IntKind.i64.wrap (x123 + (1 : Int))))], [(0, some (.row 2 36 (x203.map eBucket)))], 1⟩ [] (by kernel_rfl) trivial ?_
        exact LWp.conv (inv := [(0, 0)]) (vk := []) (e0 := []) (t := ⟨[(0, .own 0), (1, iV .i64 a1), (2, iV .i64 a2), (3, .im (.sc (.func (.func 78) #[] #[]))), (8, iV .i64 (IntKind.i64.wrap (x123 + (1 : Int))))], [(0, some (.row 2 36 (x203.map eBucket)))], 1⟩) (by kernel_rfl) (ih _ _ _ H)
    · replace H := (ifF c124).symm.trans H
      refine AWp.exit ?_
      obtain rfl := Option.some.inj H
      exact Exists.intro _ (And.intro (fun _ _ h => h.conv (inv := [(0, 0)]) (vk := []) (e0 := []) (t := ⟨[], [(0, some (.row 2 36 (x122.map eBucket)))], 1⟩) (by kernel_rfl)) (And.intro rfl rfl))
  · obtain ⟨x204, rfl⟩ : ∃ z, z = o205 := ⟨_, rfl⟩
    rintro e s ⟨rfl, rfl⟩
    obtain rfl := Option.some.inj H
    exact Exists.intro ⟨[], [(0, some (.row 2 36 (x204.map eBucket)))], 1⟩ (And.intro (fun _ _ h => h.conv (inv := [(0, 0)]) (vk := []) (e0 := []) (t := ⟨[], [(0, some (.row 2 36 (x204.map eBucket)))], 1⟩) (by kernel_rfl)) (And.intro (.inr rfl) (And.intro rfl (And.intro (by kernel_rfl) (by kernel_rfl)))))
def f_slices_swapRangeCmpFunc_api_Bucket_hist_tidy_1.l0 (a1 : Int) (a2 : Int) (a3 : Int) (x472 : List TBucket) (x473 : Int) : Option (List TBucket) := if (decide (x473 < a3)) = true then ((at? x472 (IntKind.i64.wrap (a2 + x473))) >>= fun b484 => (at? x472 (IntKind.i64.wrap (a1 + x473))) >>= fun b487 => (at? (x472.set (Int.toNat (IntKind.i64.wrap (a1 + x473))) b484) (IntKind.i64.wrap (a2 + x473))) >>= fun b490 => f_slices_swapRangeCmpFunc_api_Bucket_hist_tidy_1.l0 a1 a2 a3 ((x472.set (Int.toNat (IntKind.i64.wrap (a1 + x473))) b484).set (Int.toNat (IntKind.i64.wrap (a2 + x473))) b487) (IntKind.i64.wrap (x473 + (1 : Int)))) else (some x472)
partial_fixpoint
def f_slices_swapRangeCmpFunc_api_Bucket_hist_tidy_1.f (a0 : List TBucket) (a1 : Int) (a2 : Int) (a3 : Int) : Option (List TBucket) := (f_slices_swapRangeCmpFunc_api_Bucket_hist_tidy_1.l0 a1 a2 a3 a0 0) >>= fun x493 => some x493
theorem f_slices_swapRangeCmpFunc_api_Bucket_hist_tidy_1.ok (a0 : List TBucket) (a1 : Int) (a2 : Int) (a3 : Int) (r : List TBucket) (H : f_slices_swapRangeCmpFunc_api_Bucket_hist_tidy_1.f a0 a1 a2 a3 = some r) : Pv.Fn Try.prog 115 [.own 0, iV .i64 a1, iV .i64 a2, iV .i64 a3, .im (.sc (.func (.func 78) #[] #[]))] [(0, some (.row 2 36 (a0.map eBucket)))] 1 (fun x o => x = .tup [] ∧ o = [(0, some (.row 2 36 (r.map eBucket)))]) := by
  unfold f_slices_swapRangeCmpFunc_api_Bucket_hist_tidy_1.f at H
  refine Fn.bodyK [0] Try.func115 rfl rfl (fun Γ hP hn => ?_)
  have hm : Try.prog.follows .mixedOrders = true := by kernel_rfl
  replace hn : Γ.n = 38 := hn
  refine AWp.seq ?_
  refine reg hP hn hm [] [0, 1, 2, 3, 10] [0] ⟨[(0, .own 0), (1, iV .i64 a1), (2, iV .i64 a2), (3, iV .i64 a3), (10, iV .i64 0)], [(0, some (.row 2 36 (a0.map eBucket)))], 1⟩ [] (by kernel_rfl) trivial ?_
  refine AWp.block ?_
  obtain ⟨o494, e495, H⟩ := bind_of H
  refine AWp.loop (LWp.conv (inv := [(0, 0)]) (vk := []) (e0 := []) (t := ⟨[(0, .own 0), (1, iV .i64 a1), (2, iV .i64 a2), (3, iV .i64 a3), (10, iV .i64 0)], [(0, some (.row 2 36 (a0.map eBucket)))], 1⟩) (by kernel_rfl) ?_)
  refine LWp.mono (Q := fun e s => (match (generalizing := false) o494 with | x493 => e = .exit 0 ∧ s = ⟨[], [(0, some (.row 2 36 (x493.map eBucket)))], 1⟩)) (LWp.cv (withBody (fun body hbody => ?_))) ?_
  · refine f_slices_swapRangeCmpFunc_api_Bucket_hist_tidy_1.l0.partial_correctness a1 a2 a3 (motive := fun x472 x473 o494 => LWp Γ body (fun e s => ∃ t, Cv Γ s t ∧ (match (generalizing := false) o494 with | x493 => e = .exit 0 ∧ t = ⟨[], [(0, some (.row 2 36 (x493.map eBucket)))], 1⟩)) ⟨[(0, .own 0), (1, iV .i64 a1), (2, iV .i64 a2), (3, iV .i64 a3), (10, iV .i64 x473)], [(0, some (.row 2 36 (x472.map eBucket)))], 1⟩) ?_ _ _ _ e495
    clear H e495 o494; intro self ih x472 x473 o494 H
    subst hbody
    refine LWp.round ?_
    refine AWp.seq ?_
    refine AWp.seq ?_
    refine reg hP hn hm [] [0, 1, 2, 3, 10, 13] [0] ⟨[(0, .own 0), (1, iV .i64 a1), (2, iV .i64 a2), (3, iV .i64 a3), (10, iV .i64 x473), (13, bV (decide (x473 < a3)))], [(0, some (.row 2 36 (x472.map eBucket)))], 1⟩ [] (by kernel_rfl) trivial ?_
    refine AWp.cond (decide (x473 < a3)) rfl (fun c474 => ?_) (fun c474 => ?_)
    · replace H := (ifT c474).symm.trans H
      refine AWp.skip ?_
      refine AWp.seq ?_
      refine AWp.block ?_
      obtain ⟨b484, p485, q486, H⟩ := at_of H
      obtain ⟨b487, p488, q489, H⟩ := at_of H
      obtain ⟨b490, p491, q492, H⟩ := at_of H
      refine reg hP hn hm [(13, .c (eBucket b484)), (19, .c (eBucket b487)), (21, .put (eBucket b487) ((x472.set (Int.toNat (IntKind.i64.wrap (a1 + x473))) b484).map eBucket)), (23, .put (eBucket b490) (((x472.set (Int.toNat (IntKind.i64.wrap (a1 + x473))) b484).set (Int.toNat (IntKind.i64.wrap (a2 + x473))) b487).map eBucket))] [0, 1, 2, 3, 10] [0] ⟨[(0, .own 0), (1, iV .i64 a1), (2, iV .i64 a2), (3, iV .i64 a3), (10, iV .i64 x473)], [(0, some (.row 2 36 (((x472.set (Int.toNat (IntKind.i64.wrap (a1 + x473))) b484).set (Int.toNat (IntKind.i64.wrap (a2 + x473))) b487).map eBucket)))], 1⟩ [0 ≤ (IntKind.i64.wrap (a2 + x473)), IntKind.i64.wrap (a2 + x473) < (((x472.map eBucket).length : Nat) : Int), (x472.map eBucket)[(Int.toNat (IntKind.i64.wrap (a2 + x473)))]? = some (eBucket b484), 0 ≤ (IntKind.i64.wrap (a1 + x473)), IntKind.i64.wrap (a1 + x473) < (((x472.map eBucket).length : Nat) : Int), (x472.map eBucket)[(Int.toNat (IntKind.i64.wrap (a1 + x473)))]? = some (eBucket b487), 0 ≤ (IntKind.i64.wrap (a1 + x473)), IntKind.i64.wrap (a1 + x473) < (((x472.map eBucket).length : Nat) : Int), (x472.map eBucket)[(Int.toNat (IntKind.i64.wrap (a1 + x473)))]? = some (eBucket b487), (x472.set (Int.toNat (IntKind.i64.wrap (a1 + x473))) b484).map eBucket = (x472.map eBucket).set (Int.toNat (IntKind.i64.wrap (a1 + x473))) (splice (eBucket b487) 0 [iI .i64 b484.f0, iI .u64 b484.f1]), 0 ≤ (IntKind.i64.wrap (a2 + x473)), IntKind.i64.wrap (a2 + x473) < ((((x472.set (Int.toNat (IntKind.i64.wrap (a1 + x473))) b484).map eBucket).length : Nat) : Int), ((x472.set (Int.toNat (IntKind.i64.wrap (a1 + x473))) b484).map eBucket)[(Int.toNat (IntKind.i64.wrap (a2 + x473)))]? = some (eBucket b490), ((x472.set (Int.toNat (IntKind.i64.wrap (a1 + x473))) b484).set (Int.toNat (IntKind.i64.wrap (a2 + x473))) b487).map eBucket = ((x472.set (Int.toNat (IntKind.i64.wrap (a1 + x473))) b484).map eBucket).set (Int.toNat (IntKind.i64.wrap (a2 + x473))) (splice (eBucket b490) 0 [iI .i64 b487.f0, iI .u64 b487.f1])] (by kernel_rfl) ⟨by exact p485, by exact el_lt eBucket p485 q486, by exact el_map eBucket q486, by exact p488, by exact el_lt eBucket p488 q489, by exact el_map eBucket q489, by exact p488, by exact el_lt eBucket p488 q489, by exact el_map eBucket q489, by exact set1 _ _ _ _, by exact p491, by exact el_lt eBucket p491 q492, by exact el_map eBucket q492, by exact set1 _ _ _ _, trivial⟩ ?_
      refine reg hP hn hm [] [0, 1, 2, 3, 10] [0] ⟨[(0, .own 0), (1, iV .i64 a1), (2, iV .i64 a2), (3, iV .i64 a3), (10, iV .i64 (IntKind.i64.wrap (x473 + (1 : Int))))], [(0, some (.row 2 36 (((x472.set (Int.toNat (IntKind.i64.wrap (a1 + x473))) b484).set (Int.toNat (IntKind.i64.wrap (a2 + x473))) b487).map eBucket)))], 1⟩ [] (by kernel_rfl) trivial ?_
      exact LWp.conv (inv := [(0, 0)]) (vk := []) (e0 := []) (t := ⟨[(0, .own 0), (1, iV .i64 a1), (2, iV .i64 a2), (3, iV .i64 a3), (10, iV .i64 (IntKind.i64.wrap (x473 + (1 : Int))))], [(0, some (.row 2 36 (((x472.set (Int.toNat (IntKind.i64.wrap (a1 + x473))) b484).set (Int.toNat (IntKind.i64.wrap (a2 + x473))) b487).map eBucket)))], 1⟩) (by kernel_rfl) (ih _ _ _ H)
    · replace H := (ifF c474).symm.trans H
      refine AWp.exit ?_
      obtain rfl := Option.some.inj H
      exact Exists.intro _ (And.intro (fun _ _ h => h.conv (inv := [(0, 0)]) (vk := []) (e0 := []) (t := ⟨[], [(0, some (.row 2 36 (x472.map eBucket)))], 1⟩) (by kernel_rfl)) (And.intro rfl rfl))
  · obtain ⟨x493, rfl⟩ : ∃ z, z = o494 := ⟨_, rfl⟩
    rintro e s ⟨rfl, rfl⟩
    obtain rfl := Option.some.inj H
    exact Exists.intro ⟨[], [(0, some (.row 2 36 (x493.map eBucket)))], 1⟩ (And.intro (fun _ _ h => h.conv (inv := [(0, 0)]) (vk := []) (e0 := []) (t := ⟨[], [(0, some (.row 2 36 (x493.map eBucket)))], 1⟩) (by kernel_rfl)) (And.intro (.inr rfl) (And.intro rfl (And.intro (by kernel_rfl) (by kernel_rfl)))))
def f_slices_rotateCmpFunc_api_Bucket_hist_tidy_1.l0 (a2 : Int) (x507 : List TBucket) (x508 : Int) (x509 : Int) : Option ((List TBucket) × Int) := if (x508 != x509) = true then (((if (decide (x508 > x509)) = true then ((f_slices_swapRangeCmpFunc_api_Bucket_hist_tidy_1.f x507 (IntKind.i64.wrap (a2 - x508)) a2 x509) >>= fun t514 => some (t514, IntKind.i64.wrap (x508 - x509), x509)) else ((f_slices_swapRangeCmpFunc_api_Bucket_hist_tidy_1.f x507 (IntKind.i64.wrap (a2 - x508)) (IntKind.i64.wrap ((IntKind.i64.wrap (a2 + x509)) - x508)) x508) >>= fun t518 => some (t518, x508, IntKind.i64.wrap (x509 - x508)))) : Option ((List TBucket) × Int × Int)) >>= fun oo => match oo with | (x520, x521, x522) => (f_slices_rotateCmpFunc_api_Bucket_hist_tidy_1.l0 a2 x520 x521 x522)) else (some (x507, x508))
partial_fixpoint
def f_slices_rotateCmpFunc_api_Bucket_hist_tidy_1.f (a0 : List TBucket) (a1 : Int) (a2 : Int) (a3 : Int) : Option (List TBucket) := (f_slices_rotateCmpFunc_api_Bucket_hist_tidy_1.l0 a2 a0 (IntKind.i64.wrap (a2 - a1)) (IntKind.i64.wrap (a3 - a2))) >>= fun oo => match oo with | (x523, x524) => ((f_slices_swapRangeCmpFunc_api_Bucket_hist_tidy_1.f x523 (IntKind.i64.wrap (a2 - x524)) a2 x524) >>= fun t527 => some t527)
theorem f_slices_rotateCmpFunc_api_Bucket_hist_tidy_1.ok (a0 : List TBucket) (a1 : Int) (a2 : Int) (a3 : Int) (r : List TBucket) (H : f_slices_rotateCmpFunc_api_Bucket_hist_tidy_1.f a0 a1 a2 a3 = some r) : Pv.Fn Try.prog 111 [.own 0, iV .i64 a1, iV .i64 a2, iV .i64 a3, .im (.sc (.func (.func 78) #[] #[]))] [(0, some (.row 2 36 (a0.map eBucket)))] 1 (fun x o => x = .tup [] ∧ o = [(0, some (.row 2 36 (r.map eBucket)))]) := by
  unfold f_slices_rotateCmpFunc_api_Bucket_hist_tidy_1.f at H
  refine Fn.bodyK [0] Try.func111 rfl rfl (fun Γ hP hn => ?_)
  have hm : Try.prog.follows .mixedOrders = true := by kernel_rfl
  replace hn : Γ.n = 58 := hn
  refine AWp.seq ?_
  refine reg hP hn hm [] [0, 2, 3, 4, 10] [0] ⟨[(0, .own 0), (2, iV .i64 a2), (3, iV .i64 a3), (4, .im (.sc (.func (.func 78) #[] #[]))), (10, iV .i64 (IntKind.i64.wrap (a2 - a1)))], [(0, some (.row 2 36 (a0.map eBucket)))], 1⟩ [] (by kernel_rfl) trivial ?_
  refine AWp.seq ?_
  refine reg hP hn hm [] [0, 2, 4, 10, 11] [0] ⟨[(0, .own 0), (2, iV .i64 a2), (4, .im (.sc (.func (.func 78) #[] #[]))), (10, iV .i64 (IntKind.i64.wrap (a2 - a1))), (11, iV .i64 (IntKind.i64.wrap (a3 - a2)))], [(0, some (.row 2 36 (a0.map eBucket)))], 1⟩ [] (by kernel_rfl) trivial ?_
  refine AWp.seq ?_
  refine AWp.block ?_
  obtain ⟨o529, e530, H⟩ := bind_of H
  refine AWp.loop (LWp.conv (inv := [(0, 0)]) (vk := []) (e0 := []) (t := ⟨[(0, .own 0), (2, iV .i64 a2), (4, .im (.sc (.func (.func 78) #[] #[]))), (10, iV .i64 (IntKind.i64.wrap (a2 - a1))), (11, iV .i64 (IntKind.i64.wrap (a3 - a2)))], [(0, some (.row 2 36 (a0.map eBucket)))], 1⟩) (by kernel_rfl) ?_)
  refine LWp.mono (Q := fun e s => (match (generalizing := false) o529 with | (x523, x524) => e = .exit 0 ∧ s = ⟨[(0, .own 0), (2, iV .i64 a2), (4, .im (.sc (.func (.func 78) #[] #[]))), (10, iV .i64 x524)], [(0, some (.row 2 36 (x523.map eBucket)))], 1⟩)) (LWp.cv (withBody (fun body hbody => ?_))) ?_
  · refine f_slices_rotateCmpFunc_api_Bucket_hist_tidy_1.l0.partial_correctness a2 (motive := fun x507 x508 x509 o529 => LWp Γ body (fun e s => ∃ t, Cv Γ s t ∧ (match (generalizing := false) o529 with | (x523, x524) => e = .exit 0 ∧ t = ⟨[(0, .own 0), (2, iV .i64 a2), (4, .im (.sc (.func (.func 78) #[] #[]))), (10, iV .i64 x524)], [(0, some (.row 2 36 (x523.map eBucket)))], 1⟩)) ⟨[(0, .own 0), (2, iV .i64 a2), (4, .im (.sc (.func (.func 78) #[] #[]))), (10, iV .i64 x508), (11, iV .i64 x509)], [(0, some (.row 2 36 (x507.map eBucket)))], 1⟩) ?_ _ _ _ _ e530
    clear H e530 o529; intro self ih x507 x508 x509 o529 H
    subst hbody
    refine LWp.round ?_
    refine AWp.seq ?_
    refine AWp.seq ?_
    refine reg hP hn hm [] [0, 2, 4, 10, 11, 20] [0] ⟨[(0, .own 0), (2, iV .i64 a2), (4, .im (.sc (.func (.func 78) #[] #[]))), (10, iV .i64 x508), (11, iV .i64 x509), (20, bV (x508 != x509))], [(0, some (.row 2 36 (x507.map eBucket)))], 1⟩ [] (by kernel_rfl) trivial ?_
    refine AWp.cond (x508 != x509) rfl (fun c510 => ?_) (fun c510 => ?_)
    · replace H := (ifT c510).symm.trans H
      refine AWp.skip ?_
      refine AWp.block ?_
      refine AWp.seq ?_
      refine reg hP hn hm [] [0, 2, 4, 10, 11, 23] [0] ⟨[(0, .own 0), (2, iV .i64 a2), (4, .im (.sc (.func (.func 78) #[] #[]))), (10, iV .i64 x508), (11, iV .i64 x509), (23, bV (decide (x508 > x509)))], [(0, some (.row 2 36 (x507.map eBucket)))], 1⟩ [] (by kernel_rfl) trivial ?_
      obtain ⟨o531, e532, H⟩ := bind_of H
      refine AWp.mono (Q := fun e s => (match (generalizing := false) o531 with | (x520, x521, x522) => e = .normal ∧ s = ⟨[(0, .own 0), (2, iV .i64 a2), (4, .im (.sc (.func (.func 78) #[] #[]))), (10, iV .i64 x521), (11, iV .i64 x522)], [(0, some (.row 2 36 (x520.map eBucket)))], 1⟩)) (AWp.cv ?_) ?_
      · replace H := e532; clear e532
        refine AWp.cond (decide (x508 > x509)) rfl (fun c511 => ?_) (fun c511 => ?_)
        · replace H := (ifT c511).symm.trans H
          refine AWp.seq ?_
          obtain ⟨t514, e515, H⟩ := bind_of H
          refine reg hP hn hm [(7, .call [(0, 0)] [(0, 0)] [] [] 1 (.tup []) [(0, some (.row 2 36 (t514.map eBucket)))])] [0, 2, 4, 10, 11] [0] ⟨[(0, .own 0), (2, iV .i64 a2), (4, .im (.sc (.func (.func 78) #[] #[]))), (10, iV .i64 x508), (11, iV .i64 x509)], [(0, some (.row 2 36 (t514.map eBucket)))], 1⟩ [Enters Try.prog 115, Pv.Fn Try.prog 115 [.own 0, iV .i64 (IntKind.i64.wrap (a2 - x508)), iV .i64 a2, iV .i64 x509, .im (.sc (.func (.func 78) #[] #[]))] [(0, some (.row 2 36 (x507.map eBucket)))] 1 (fun r o => r = .tup [] ∧ o = [(0, some (.row 2 36 (t514.map eBucket)))])] (by kernel_rfl) ⟨by exact Try.call115, by exact f_slices_swapRangeCmpFunc_api_Bucket_hist_tidy_1.ok x507 (IntKind.i64.wrap (a2 - x508)) a2 x509 t514 e515, trivial⟩ ?_
          refine reg hP hn hm [] [0, 2, 4, 10, 11] [0] ⟨[(0, .own 0), (2, iV .i64 a2), (4, .im (.sc (.func (.func 78) #[] #[]))), (10, iV .i64 (IntKind.i64.wrap (x508 - x509))), (11, iV .i64 x509)], [(0, some (.row 2 36 (t514.map eBucket)))], 1⟩ [] (by kernel_rfl) trivial ?_
          obtain rfl := Option.some.inj H
          exact Exists.intro _ (And.intro (fun _ _ h => h.conv (inv := [(0, 0)]) (vk := []) (e0 := []) (t := ⟨[(0, .own 0), (2, iV .i64 a2), (4, .im (.sc (.func (.func 78) #[] #[]))), (10, iV .i64 (IntKind.i64.wrap (x508 - x509))), (11, iV .i64 x509)], [(0, some (.row 2 36 (t514.map eBucket)))], 1⟩) (by kernel_rfl)) (And.intro rfl rfl))
        · replace H := (ifF c511).symm.trans H
          refine AWp.seq ?_
          obtain ⟨t518, e519, H⟩ := bind_of H
          refine reg hP hn hm [(11, .call [(0, 0)] [(0, 0)] [] [] 1 (.tup []) [(0, some (.row 2 36 (t518.map eBucket)))])] [0, 2, 4, 10, 11] [0] ⟨[(0, .own 0), (2, iV .i64 a2), (4, .im (.sc (.func (.func 78) #[] #[]))), (10, iV .i64 x508), (11, iV .i64 x509)], [(0, some (.row 2 36 (t518.map eBucket)))], 1⟩ [Enters Try.prog 115, Pv.Fn Try.prog 115 [.own 0, iV .i64 (IntKind.i64.wrap (a2 - x508)), iV .i64 (IntKind.i64.wrap ((IntKind.i64.wrap (a2 + x509)) - x508)), iV .i64 x508, .im (.sc (.func (.func 78) #[] #[]))] [(0, some (.row 2 36 (x507.map eBucket)))] 1 (fun r o => r = .tup [] ∧ o = [(0, some (.row 2 36 (t518.map eBucket)))])] (by kernel_rfl) ⟨by exact Try.call115, by exact f_slices_swapRangeCmpFunc_api_Bucket_hist_tidy_1.ok x507 (IntKind.i64.wrap (a2 - x508)) (IntKind.i64.wrap ((IntKind.i64.wrap (a2 + x509)) - x508)) x508 t518 e519, trivial⟩ ?_
          refine reg hP hn hm [] [0, 2, 4, 10, 11] [0] ⟨[(0, .own 0), (2, iV .i64 a2), (4, .im (.sc (.func (.func 78) #[] #[]))), (10, iV .i64 x508), (11, iV .i64 (IntKind.i64.wrap (x509 - x508)))], [(0, some (.row 2 36 (t518.map eBucket)))], 1⟩ [] (by kernel_rfl) trivial ?_
          obtain rfl := Option.some.inj H
          exact Exists.intro _ (And.intro (fun _ _ h => h.conv (inv := [(0, 0)]) (vk := []) (e0 := []) (t := ⟨[(0, .own 0), (2, iV .i64 a2), (4, .im (.sc (.func (.func 78) #[] #[]))), (10, iV .i64 x508), (11, iV .i64 (IntKind.i64.wrap (x509 - x508)))], [(0, some (.row 2 36 (t518.map eBucket)))], 1⟩) (by kernel_rfl)) (And.intro rfl rfl))
      · obtain ⟨x520, x521, x522⟩ := o531
        rintro e s ⟨rfl, rfl⟩
        exact LWp.conv (inv := [(0, 0)]) (vk := []) (e0 := []) (t := ⟨[(0, .own 0), (2, iV .i64 a2), (4, .im (.sc (.func (.func 78) #[] #[]))), (10, iV .i64 x521), (11, iV .i64 x522)], [(0, some (.row 2 36 (x520.map eBucket)))], 1⟩) (by kernel_rfl) (ih _ _ _ _ H)
    · replace H := (ifF c510).symm.trans H
      refine AWp.exit ?_
      obtain rfl := Option.some.inj H
      exact Exists.intro _ (And.intro (fun _ _ h => h.conv (inv := [(0, 0)]) (vk := []) (e0 := []) (t := ⟨[(0, .own 0), (2, iV .i64 a2), (4, .im (.sc (.func (.func 78) #[] #[]))), (10, iV .i64 x508)], [(0, some (.row 2 36 (x507.map eBucket)))], 1⟩) (by kernel_rfl)) (And.intro rfl rfl))
  · obtain ⟨x523, x524⟩ := o529
    rintro e s ⟨rfl, rfl⟩
    obtain ⟨t527, e528, H⟩ := bind_of H
    refine reg hP hn hm [(7, .call [(0, 0)] [(0, 0)] [] [] 1 (.tup []) [(0, some (.row 2 36 (t527.map eBucket)))])] [] [0] ⟨[], [(0, some (.row 2 36 (t527.map eBucket)))], 1⟩ [Enters Try.prog 115, Pv.Fn Try.prog 115 [.own 0, iV .i64 (IntKind.i64.wrap (a2 - x524)), iV .i64 a2, iV .i64 x524, .im (.sc (.func (.func 78) #[] #[]))] [(0, some (.row 2 36 (x523.map eBucket)))] 1 (fun r o => r = .tup [] ∧ o = [(0, some (.row 2 36 (t527.map eBucket)))])] (by kernel_rfl) ⟨by exact Try.call115, by exact f_slices_swapRangeCmpFunc_api_Bucket_hist_tidy_1.ok x523 (IntKind.i64.wrap (a2 - x524)) a2 x524 t527 e528, trivial⟩ ?_
    obtain rfl := Option.some.inj H
    exact Exists.intro ⟨[], [(0, some (.row 2 36 (t527.map eBucket)))], 1⟩ (And.intro (fun _ _ h => h.conv (inv := [(0, 0)]) (vk := []) (e0 := []) (t := ⟨[], [(0, some (.row 2 36 (t527.map eBucket)))], 1⟩) (by kernel_rfl)) (And.intro (.inr rfl) (And.intro rfl (And.intro (by kernel_rfl) (by kernel_rfl)))))
def f_slices_symMergeCmpFunc_api_Bucket_hist_tidy_1.l0 (a0 : List TBucket) (a1 : Int) (x252 : Int) (x253 : Int) : Option (Int) := if (decide (x252 < x253)) = true then ((at? a0 (IntKind.i64.wrap (Int.fdiv (IntKind.u64.wrap (IntKind.i64.wrap (x252 + x253))) 2))) >>= fun b263 => (at? a0 a1) >>= fun b266 => (f_hist_tidy_1.f b263 b266) >>= fun t269 => ((if (decide (t269 < (0 : Int))) = true then (some (IntKind.i64.wrap ((IntKind.i64.wrap (Int.fdiv (IntKind.u64.wrap (IntKind.i64.wrap (x252 + x253))) 2)) + (1 : Int)), x253)) else (some (x252, IntKind.i64.wrap (Int.fdiv (IntKind.u64.wrap (IntKind.i64.wrap (x252 + x253))) 2)))) : Option (Int × Int)) >>= fun oo => match oo with | (x272, x273) => (f_slices_symMergeCmpFunc_api_Bucket_hist_tidy_1.l0 a0 a1 x272 x273)) else (some x252)
partial_fixpoint
def f_slices_symMergeCmpFunc_api_Bucket_hist_tidy_1.l1 (x274 : Int) (x294 : List TBucket) (x295 : Int) : Option (List TBucket) := if (decide (x295 < (IntKind.i64.wrap (x274 - (1 : Int))))) = true then ((at? x294 (IntKind.i64.wrap (x295 + (1 : Int)))) >>= fun b306 => (at? x294 x295) >>= fun b309 => (at? (x294.set (Int.toNat (x295)) b306) (IntKind.i64.wrap (x295 + (1 : Int)))) >>= fun b312 => f_slices_symMergeCmpFunc_api_Bucket_hist_tidy_1.l1 x274 ((x294.set (Int.toNat (x295)) b306).set (Int.toNat (IntKind.i64.wrap (x295 + (1 : Int)))) b309) (IntKind.i64.wrap (x295 + (1 : Int)))) else (some x294)
partial_fixpoint
def f_slices_symMergeCmpFunc_api_Bucket_hist_tidy_1.l2 (a0 : List TBucket) (a2 : Int) (x337 : Int) (x338 : Int) : Option (Int) := if (decide (x337 < x338)) = true then ((at? a0 a2) >>= fun b348 => (at? a0 (IntKind.i64.wrap (Int.fdiv (IntKind.u64.wrap (IntKind.i64.wrap (x337 + x338))) 2))) >>= fun b351 => (f_hist_tidy_1.f b348 b351) >>= fun t354 => ((if (!(decide (t354 < (0 : Int)))) = true then (some (IntKind.i64.wrap ((IntKind.i64.wrap (Int.fdiv (IntKind.u64.wrap (IntKind.i64.wrap (x337 + x338))) 2)) + (1 : Int)), x338)) else (some (x337, IntKind.i64.wrap (Int.fdiv (IntKind.u64.wrap (IntKind.i64.wrap (x337 + x338))) 2)))) : Option (Int × Int)) >>= fun oo => match oo with | (x357, x358) => (f_slices_symMergeCmpFunc_api_Bucket_hist_tidy_1.l2 a0 a2 x357 x358)) else (some x337)
partial_fixpoint
def f_slices_symMergeCmpFunc_api_Bucket_hist_tidy_1.l3 (x359 : Int) (x379 : List TBucket) (x380 : Int) : Option (List TBucket) := if (decide (x380 > x359)) = true then ((at? x379 (IntKind.i64.wrap (x380 - (1 : Int)))) >>= fun b391 => (at? x379 x380) >>= fun b394 => (at? (x379.set (Int.toNat (x380)) b391) (IntKind.i64.wrap (x380 - (1 : Int)))) >>= fun b397 => f_slices_symMergeCmpFunc_api_Bucket_hist_tidy_1.l3 x359 ((x379.set (Int.toNat (x380)) b391).set (Int.toNat (IntKind.i64.wrap (x380 - (1 : Int)))) b394) (IntKind.i64.wrap (x380 - (1 : Int)))) else (some x379)
partial_fixpoint
def f_slices_symMergeCmpFunc_api_Bucket_hist_tidy_1.l4 (a0 : List TBucket) (a1 : Int) (a2 : Int) (a3 : Int) (x424 : Int) (x425 : Int) : Option (Int) := if (decide (x424 < x425)) = true then ((at? a0 (IntKind.i64.wrap ((IntKind.i64.wrap ((IntKind.i64.wrap ((IntKind.i64.wrap (Int.fdiv (IntKind.u64.wrap (IntKind.i64.wrap (a1 + a3))) 2)) + a2)) - (1 : Int))) - (IntKind.i64.wrap (Int.fdiv (IntKind.u64.wrap (IntKind.i64.wrap (x424 + x425))) 2))))) >>= fun b435 => (at? a0 (IntKind.i64.wrap (Int.fdiv (IntKind.u64.wrap (IntKind.i64.wrap (x424 + x425))) 2))) >>= fun b438 => (f_hist_tidy_1.f b435 b438) >>= fun t441 => ((if (!(decide (t441 < (0 : Int)))) = true then (some (IntKind.i64.wrap ((IntKind.i64.wrap (Int.fdiv (IntKind.u64.wrap (IntKind.i64.wrap (x424 + x425))) 2)) + (1 : Int)), x425)) else (some (x424, IntKind.i64.wrap (Int.fdiv (IntKind.u64.wrap (IntKind.i64.wrap (x424 + x425))) 2)))) : Option (Int × Int)) >>= fun oo => match oo with | (x444, x445) => (f_slices_symMergeCmpFunc_api_Bucket_hist_tidy_1.l4 a0 a1 a2 a3 x444 x445)) else (some x424)
partial_fixpoint
def f_slices_symMergeCmpFunc_api_Bucket_hist_tidy_1.f (a0 : List TBucket) (a1 : Int) (a2 : Int) (a3 : Int) : Option (List TBucket) := if ((IntKind.i64.wrap (a2 - a1)) == (1 : Int)) = true then ((f_slices_symMergeCmpFunc_api_Bucket_hist_tidy_1.l0 a0 a1 a2 a3) >>= fun x274 => (f_slices_symMergeCmpFunc_api_Bucket_hist_tidy_1.l1 x274 a0 a1) >>= fun x315 => some x315) else (if ((IntKind.i64.wrap (a3 - a2)) == (1 : Int)) = true then ((f_slices_symMergeCmpFunc_api_Bucket_hist_tidy_1.l2 a0 a2 a1 a2) >>= fun x359 => (f_slices_symMergeCmpFunc_api_Bucket_hist_tidy_1.l3 x359 a0 a2) >>= fun x400 => some x400) else (((if (decide (a2 > (IntKind.i64.wrap (Int.fdiv (IntKind.u64.wrap (IntKind.i64.wrap (a1 + a3))) 2)))) = true then (some (IntKind.i64.wrap ((IntKind.i64.wrap ((IntKind.i64.wrap (Int.fdiv (IntKind.u64.wrap (IntKind.i64.wrap (a1 + a3))) 2)) + a2)) - a3), IntKind.i64.wrap (Int.fdiv (IntKind.u64.wrap (IntKind.i64.wrap (a1 + a3))) 2))) else (some (a1, a2))) : Option (Int × Int)) >>= fun oo => match oo with | (x402, x403) => ((f_slices_symMergeCmpFunc_api_Bucket_hist_tidy_1.l4 a0 a1 a2 a3 x402 x403) >>= fun x446 => ((if (decide (x446 < a2)) = true then (some (decide (a2 < (IntKind.i64.wrap ((IntKind.i64.wrap ((IntKind.i64.wrap (Int.fdiv (IntKind.u64.wrap (IntKind.i64.wrap (a1 + a3))) 2)) + a2)) - x446))))) else (some false)) : Option (Bool)) >>= fun x449 => ((if x449 = true then ((f_slices_rotateCmpFunc_api_Bucket_hist_tidy_1.f a0 x446 a2 (IntKind.i64.wrap ((IntKind.i64.wrap ((IntKind.i64.wrap (Int.fdiv (IntKind.u64.wrap (IntKind.i64.wrap (a1 + a3))) 2)) + a2)) - x446))) >>= fun t535 => some t535) else (some a0)) : Option (List TBucket)) >>= fun x537 => ((if (decide (a1 < x446)) = true then (some (decide (x446 < (IntKind.i64.wrap (Int.fdiv (IntKind.u64.wrap (IntKind.i64.wrap (a1 + a3))) 2))))) else (some false)) : Option (Bool)) >>= fun x540 => ((if x540 = true then ((f_slices_symMergeCmpFunc_api_Bucket_hist_tidy_1.f x537 a1 x446 (IntKind.i64.wrap (Int.fdiv (IntKind.u64.wrap (IntKind.i64.wrap (a1 + a3))) 2))) >>= fun t544 => some t544) else (some x537)) : Option (List TBucket)) >>= fun x546 => ((if (decide ((IntKind.i64.wrap (Int.fdiv (IntKind.u64.wrap (IntKind.i64.wrap (a1 + a3))) 2)) < (IntKind.i64.wrap ((IntKind.i64.wrap ((IntKind.i64.wrap (Int.fdiv (IntKind.u64.wrap (IntKind.i64.wrap (a1 + a3))) 2)) + a2)) - x446)))) = true then (some (decide ((IntKind.i64.wrap ((IntKind.i64.wrap ((IntKind.i64.wrap (Int.fdiv (IntKind.u64.wrap (IntKind.i64.wrap (a1 + a3))) 2)) + a2)) - x446)) < a3))) else (some false)) : Option (Bool)) >>= fun x549 => ((if x549 = true then ((f_slices_symMergeCmpFunc_api_Bucket_hist_tidy_1.f x546 (IntKind.i64.wrap (Int.fdiv (IntKind.u64.wrap (IntKind.i64.wrap (a1 + a3))) 2)) (IntKind.i64.wrap ((IntKind.i64.wrap ((IntKind.i64.wrap (Int.fdiv (IntKind.u64.wrap (IntKind.i64.wrap (a1 + a3))) 2)) + a2)) - x446)) a3) >>= fun t553 => some t553) else (some x546)) : Option (List TBucket)) >>= fun x555 => some x555)))
partial_fixpoint
theorem f_slices_symMergeCmpFunc_api_Bucket_hist_tidy_1.ok (a0 : List TBucket) (a1 : Int) (a2 : Int) (a3 : Int) (r : List TBucket) (H : f_slices_symMergeCmpFunc_api_Bucket_hist_tidy_1.f a0 a1 a2 a3 = some r) : Pv.Fn Try.prog 103 [.own 0, iV .i64 a1, iV .i64 a2, iV .i64 a3, .im (.sc (.func (.func 78) #[] #[]))] [(0, some (.row 2 36 (a0.map eBucket)))] 1 (fun x o => x = .tup [] ∧ o = [(0, some (.row 2 36 (r.map eBucket)))]) := by
  refine f_slices_symMergeCmpFunc_api_Bucket_hist_tidy_1.f.partial_correctness (motive := fun a0 a1 a2 a3 r => Pv.Fn Try.prog 103 [.own 0, iV .i64 a1, iV .i64 a2, iV .i64 a3, .im (.sc (.func (.func 78) #[] #[]))] [(0, some (.row 2 36 (a0.map eBucket)))] 1 (fun x o => x = .tup [] ∧ o = [(0, some (.row 2 36 (r.map eBucket)))])) ?_ a0 a1 a2 a3 r H
  clear H a0 a1 a2 a3 r; intro self ihF a0 a1 a2 a3 r H
  refine Fn.bodyK [0] Try.func103 rfl rfl (fun Γ hP hn => ?_)
  have hm : Try.prog.follows .mixedOrders = true := by kernel_rfl
  replace hn : Γ.n = 220 := hn
  refine AWp.seq ?_
  refine AWp.seq ?_
  refine reg hP hn hm [] [0, 1, 2, 3, 4, 28] [0] ⟨[(0, .own 0), (1, iV .i64 a1), (2, iV .i64 a2), (3, iV .i64 a3), (4, .im (.sc (.func (.func 78) #[] #[]))), (28, bV ((IntKind.i64.wrap (a2 - a1)) == (1 : Int)))], [(0, some (.row 2 36 (a0.map eBucket)))], 1⟩ [] (by kernel_rfl) trivial ?_
  refine AWp.cond ((IntKind.i64.wrap (a2 - a1)) == (1 : Int)) rfl (fun c231 => ?_) (fun c231 => ?_)
  · replace H := (ifT c231).symm.trans H
    refine AWp.seq ?_
    refine reg hP hn hm [] [0, 1, 3, 4, 10] [0] ⟨[(0, .own 0), (1, iV .i64 a1), (3, iV .i64 a3), (4, .im (.sc (.func (.func 78) #[] #[]))), (10, iV .i64 a2)], [(0, some (.row 2 36 (a0.map eBucket)))], 1⟩ [] (by kernel_rfl) trivial ?_
    refine AWp.seq ?_
    refine reg hP hn hm [] [0, 1, 4, 10, 11] [0] ⟨[(0, .own 0), (1, iV .i64 a1), (4, .im (.sc (.func (.func 78) #[] #[]))), (10, iV .i64 a2), (11, iV .i64 a3)], [(0, some (.row 2 36 (a0.map eBucket)))], 1⟩ [] (by kernel_rfl) trivial ?_
    refine AWp.seq ?_
    refine AWp.block ?_
    obtain ⟨o556, e557, H⟩ := bind_of H
    refine AWp.loop (LWp.conv (inv := [(0, 0)]) (vk := []) (e0 := []) (t := ⟨[(0, .own 0), (1, iV .i64 a1), (4, .im (.sc (.func (.func 78) #[] #[]))), (10, iV .i64 a2), (11, iV .i64 a3)], [(0, some (.row 2 36 (a0.map eBucket)))], 1⟩) (by kernel_rfl) ?_)
    refine LWp.mono (Q := fun e s => (match (generalizing := false) o556 with | x274 => e = .exit 0 ∧ s = ⟨[(0, .own 0), (1, iV .i64 a1), (10, iV .i64 x274)], [(0, some (.row 2 36 (a0.map eBucket)))], 1⟩)) (LWp.cv (withBody (fun body hbody => ?_))) ?_
    · refine f_slices_symMergeCmpFunc_api_Bucket_hist_tidy_1.l0.partial_correctness a0 a1 (motive := fun x252 x253 o556 => LWp Γ body (fun e s => ∃ t, Cv Γ s t ∧ (match (generalizing := false) o556 with | x274 => e = .exit 0 ∧ t = ⟨[(0, .own 0), (1, iV .i64 a1), (10, iV .i64 x274)], [(0, some (.row 2 36 (a0.map eBucket)))], 1⟩)) ⟨[(0, .own 0), (1, iV .i64 a1), (4, .im (.sc (.func (.func 78) #[] #[]))), (10, iV .i64 x252), (11, iV .i64 x253)], [(0, some (.row 2 36 (a0.map eBucket)))], 1⟩) ?_ _ _ _ e557
      clear H e557 o556; intro self ih x252 x253 o556 H
      subst hbody
      refine LWp.round ?_
      refine AWp.seq ?_
      refine AWp.seq ?_
      refine reg hP hn hm [] [0, 1, 4, 10, 11, 33] [0] ⟨[(0, .own 0), (1, iV .i64 a1), (4, .im (.sc (.func (.func 78) #[] #[]))), (10, iV .i64 x252), (11, iV .i64 x253), (33, bV (decide (x252 < x253)))], [(0, some (.row 2 36 (a0.map eBucket)))], 1⟩ [] (by kernel_rfl) trivial ?_
      refine AWp.cond (decide (x252 < x253)) rfl (fun c254 => ?_) (fun c254 => ?_)
      · replace H := (ifT c254).symm.trans H
        refine AWp.skip ?_
        refine AWp.block ?_
        refine AWp.seq ?_
        refine reg hP hn hm [] [0, 1, 4, 10, 11, 12] [0] ⟨[(0, .own 0), (1, iV .i64 a1), (4, .im (.sc (.func (.func 78) #[] #[]))), (10, iV .i64 x252), (11, iV .i64 x253), (12, iV .i64 (IntKind.i64.wrap (Int.fdiv (IntKind.u64.wrap (IntKind.i64.wrap (x252 + x253))) 2)))], [(0, some (.row 2 36 (a0.map eBucket)))], 1⟩ [(0 : Int) ≤ 1] (by kernel_rfl) ⟨by decide, trivial⟩ ?_
        refine AWp.seq ?_
        obtain ⟨b263, p264, q265, H⟩ := at_of H
        obtain ⟨b266, p267, q268, H⟩ := at_of H
        obtain ⟨t269, e270, H⟩ := bind_of H
        refine reg hP hn hm [(4, .c (eBucket b263)), (8, .c (eBucket b266)), (9, .call [] [] [] [] 0 (iV .i64 t269) [])] [0, 1, 4, 10, 11, 12, 50] [0] ⟨[(0, .own 0), (1, iV .i64 a1), (4, .im (.sc (.func (.func 78) #[] #[]))), (10, iV .i64 x252), (11, iV .i64 x253), (12, iV .i64 (IntKind.i64.wrap (Int.fdiv (IntKind.u64.wrap (IntKind.i64.wrap (x252 + x253))) 2))), (50, bV (decide (t269 < (0 : Int))))], [(0, some (.row 2 36 (a0.map eBucket)))], 1⟩ [0 ≤ (IntKind.i64.wrap (Int.fdiv (IntKind.u64.wrap (IntKind.i64.wrap (x252 + x253))) 2)), IntKind.i64.wrap (Int.fdiv (IntKind.u64.wrap (IntKind.i64.wrap (x252 + x253))) 2) < (((a0.map eBucket).length : Nat) : Int), (a0.map eBucket)[(Int.toNat (IntKind.i64.wrap (Int.fdiv (IntKind.u64.wrap (IntKind.i64.wrap (x252 + x253))) 2)))]? = some (eBucket b263), 0 ≤ a1, a1 < (((a0.map eBucket).length : Nat) : Int), (a0.map eBucket)[(Int.toNat (a1))]? = some (eBucket b266), Enters Try.prog 78, Pv.Fn Try.prog 78 [.agg (aBucket b263), .agg (aBucket b266)] [] 0 (fun r o => r = iV .i64 t269 ∧ o = [])] (by kernel_rfl) ⟨by exact p264, by exact el_lt eBucket p264 q265, by exact el_map eBucket q265, by exact p267, by exact el_lt eBucket p267 q268, by exact el_map eBucket q268, by exact Try.call78, by exact f_hist_tidy_1.ok b263 b266 t269 e270, trivial⟩ ?_
        obtain ⟨o558, e559, H⟩ := bind_of H
        refine AWp.mono (Q := fun e s => (match (generalizing := false) o558 with | (x272, x273) => e = .normal ∧ s = ⟨[(0, .own 0), (1, iV .i64 a1), (4, .im (.sc (.func (.func 78) #[] #[]))), (10, iV .i64 x272), (11, iV .i64 x273)], [(0, some (.row 2 36 (a0.map eBucket)))], 1⟩)) (AWp.cv ?_) ?_
        · replace H := e559; clear e559
          refine AWp.cond (decide (t269 < (0 : Int))) rfl (fun c271 => ?_) (fun c271 => ?_)
          · replace H := (ifT c271).symm.trans H
            refine reg hP hn hm [] [0, 1, 4, 10, 11] [0] ⟨[(0, .own 0), (1, iV .i64 a1), (4, .im (.sc (.func (.func 78) #[] #[]))), (10, iV .i64 (IntKind.i64.wrap ((IntKind.i64.wrap (Int.fdiv (IntKind.u64.wrap (IntKind.i64.wrap (x252 + x253))) 2)) + (1 : Int)))), (11, iV .i64 x253)], [(0, some (.row 2 36 (a0.map eBucket)))], 1⟩ [] (by kernel_rfl) trivial ?_
            obtain rfl := Option.some.inj H
            exact Exists.intro _ (And.intro (fun _ _ h => h.conv (inv := [(0, 0)]) (vk := []) (e0 := []) (t := ⟨[(0, .own 0), (1, iV .i64 a1), (4, .im (.sc (.func (.func 78) #[] #[]))), (10, iV .i64 (IntKind.i64.wrap ((IntKind.i64.wrap (Int.fdiv (IntKind.u64.wrap (IntKind.i64.wrap (x252 + x253))) 2)) + (1 : Int)))), (11, iV .i64 x253)], [(0, some (.row 2 36 (a0.map eBucket)))], 1⟩) (by kernel_rfl)) (And.intro rfl rfl))
          · replace H := (ifF c271).symm.trans H
            refine reg hP hn hm [] [0, 1, 4, 10, 11] [0] ⟨[(0, .own 0), (1, iV .i64 a1), (4, .im (.sc (.func (.func 78) #[] #[]))), (10, iV .i64 x252), (11, iV .i64 (IntKind.i64.wrap (Int.fdiv (IntKind.u64.wrap (IntKind.i64.wrap (x252 + x253))) 2)))], [(0, some (.row 2 36 (a0.map eBucket)))], 1⟩ [] (by kernel_rfl) trivial ?_
            obtain rfl := Option.some.inj H
            exact Exists.intro _ (And.intro (fun _ _ h => h.conv (inv := [(0, 0)]) (vk := []) (e0 := []) (t := ⟨[(0, .own 0), (1, iV .i64 a1), (4, .im (.sc (.func (.func 78) #[] #[]))), (10, iV .i64 x252), (11, iV .i64 (IntKind.i64.wrap (Int.fdiv (IntKind.u64.wrap (IntKind.i64.wrap (x252 + x253))) 2)))], [(0, some (.row 2 36 (a0.map eBucket)))], 1⟩) (by kernel_rfl)) (And.intro rfl rfl))
        · obtain ⟨x272, x273⟩ := o558
          rintro e s ⟨rfl, rfl⟩
          exact LWp.conv (inv := [(0, 0)]) (vk := []) (e0 := []) (t := ⟨[(0, .own 0), (1, iV .i64 a1), (4, .im (.sc (.func (.func 78) #[] #[]))), (10, iV .i64 x272), (11, iV .i64 x273)], [(0, some (.row 2 36 (a0.map eBucket)))], 1⟩) (by kernel_rfl) (ih _ _ _ H)
      · replace H := (ifF c254).symm.trans H
        refine AWp.exit ?_
        obtain rfl := Option.some.inj H
        exact Exists.intro _ (And.intro (fun _ _ h => h.conv (inv := [(0, 0)]) (vk := []) (e0 := []) (t := ⟨[(0, .own 0), (1, iV .i64 a1), (10, iV .i64 x252)], [(0, some (.row 2 36 (a0.map eBucket)))], 1⟩) (by kernel_rfl)) (And.intro rfl rfl))
    · obtain ⟨x274, rfl⟩ : ∃ z, z = o556 := ⟨_, rfl⟩
      rintro e s ⟨rfl, rfl⟩
      refine AWp.seq ?_
      refine AWp.seq ?_
      refine reg hP hn hm [] [0, 10, 13] [0] ⟨[(0, .own 0), (10, iV .i64 x274), (13, iV .i64 a1)], [(0, some (.row 2 36 (a0.map eBucket)))], 1⟩ [] (by kernel_rfl) trivial ?_
      refine AWp.block ?_
      obtain ⟨o560, e561, H⟩ := bind_of H
      refine AWp.loop (LWp.conv (inv := [(0, 0)]) (vk := []) (e0 := []) (t := ⟨[(0, .own 0), (10, iV .i64 x274), (13, iV .i64 a1)], [(0, some (.row 2 36 (a0.map eBucket)))], 1⟩) (by kernel_rfl) ?_)
      refine LWp.mono (Q := fun e s => (match (generalizing := false) o560 with | x315 => e = .exit 2 ∧ s = ⟨[], [(0, some (.row 2 36 (x315.map eBucket)))], 1⟩)) (LWp.cv (withBody (fun body hbody => ?_))) ?_
      · refine f_slices_symMergeCmpFunc_api_Bucket_hist_tidy_1.l1.partial_correctness x274 (motive := fun x294 x295 o560 => LWp Γ body (fun e s => ∃ t, Cv Γ s t ∧ (match (generalizing := false) o560 with | x315 => e = .exit 2 ∧ t = ⟨[], [(0, some (.row 2 36 (x315.map eBucket)))], 1⟩)) ⟨[(0, .own 0), (10, iV .i64 x274), (13, iV .i64 x295)], [(0, some (.row 2 36 (x294.map eBucket)))], 1⟩) ?_ _ _ _ e561
        clear H e561 o560; intro self ih x294 x295 o560 H
        subst hbody
        refine LWp.round ?_
        refine AWp.seq ?_
        refine AWp.seq ?_
        refine reg hP hn hm [] [0, 10, 13, 58] [0] ⟨[(0, .own 0), (10, iV .i64 x274), (13, iV .i64 x295), (58, bV (decide (x295 < (IntKind.i64.wrap (x274 - (1 : Int))))))], [(0, some (.row 2 36 (x294.map eBucket)))], 1⟩ [] (by kernel_rfl) trivial ?_
        refine AWp.cond (decide (x295 < (IntKind.i64.wrap (x274 - (1 : Int))))) rfl (fun c296 => ?_) (fun c296 => ?_)
        · replace H := (ifT c296).symm.trans H
          refine AWp.skip ?_
          refine AWp.seq ?_
          refine AWp.block ?_
          obtain ⟨b306, p307, q308, H⟩ := at_of H
          obtain ⟨b309, p310, q311, H⟩ := at_of H
          obtain ⟨b312, p313, q314, H⟩ := at_of H
          refine reg hP hn hm [(9, .c (eBucket b306)), (13, .c (eBucket b309)), (15, .put (eBucket b309) ((x294.set (Int.toNat (x295)) b306).map eBucket)), (17, .put (eBucket b312) (((x294.set (Int.toNat (x295)) b306).set (Int.toNat (IntKind.i64.wrap (x295 + (1 : Int)))) b309).map eBucket))] [0, 10, 13] [0] ⟨[(0, .own 0), (10, iV .i64 x274), (13, iV .i64 x295)], [(0, some (.row 2 36 (((x294.set (Int.toNat (x295)) b306).set (Int.toNat (IntKind.i64.wrap (x295 + (1 : Int)))) b309).map eBucket)))], 1⟩ [0 ≤ (IntKind.i64.wrap (x295 + (1 : Int))), IntKind.i64.wrap (x295 + (1 : Int)) < (((x294.map eBucket).length : Nat) : Int), (x294.map eBucket)[(Int.toNat (IntKind.i64.wrap (x295 + (1 : Int))))]? = some (eBucket b306), 0 ≤ x295, x295 < (((x294.map eBucket).length : Nat) : Int), (x294.map eBucket)[(Int.toNat (x295))]? = some (eBucket b309), 0 ≤ x295, x295 < (((x294.map eBucket).length : Nat) : Int), (x294.map eBucket)[(Int.toNat (x295))]? = some (eBucket b309), (x294.set (Int.toNat (x295)) b306).map eBucket = (x294.map eBucket).set (Int.toNat (x295)) (splice (eBucket b309) 0 [iI .i64 b306.f0, iI .u64 b306.f1]), 0 ≤ (IntKind.i64.wrap (x295 + (1 : Int))), IntKind.i64.wrap (x295 + (1 : Int)) < ((((x294.set (Int.toNat (x295)) b306).map eBucket).length : Nat) : Int), ((x294.set (Int.toNat (x295)) b306).map eBucket)[(Int.toNat (IntKind.i64.wrap (x295 + (1 : Int))))]? = some (eBucket b312), ((x294.set (Int.toNat (x295)) b306).set (Int.toNat (IntKind.i64.wrap (x295 + (1 : Int)))) b309).map eBucket = ((x294.set (Int.toNat (x295)) b306).map eBucket).set (Int.toNat (IntKind.i64.wrap (x295 + (1 : Int)))) (splice (eBucket b312) 0 [iI .i64 b309.f0, iI .u64 b309.f1])] (by kernel_rfl) ⟨by exact p307, by exact el_lt eBucket p307 q308, by exact el_map eBucket q308, by exact p310, by exact el_lt eBucket p310 q311, by exact el_map eBucket q311, by exact p310, by exact el_lt eBucket p310 q311, by exact el_map eBucket q311, by exact set1 _ _ _ _, by exact p313, by exact el_lt eBucket p313 q314, by exact el_map eBucket q314, by exact set1 _ _ _ _, trivial⟩ ?_
          refine reg hP hn hm [] [0, 10, 13] [0] ⟨[(0, .own 0), (10, iV .i64 x274), (13, iV .i64 (IntKind.i64.wrap (x295 + (1 : Int))))], [(0, some (.row 2 36 (((x294.set (Int.toNat (x295)) b306).set (Int.toNat (IntKind.i64.wrap (x295 + (1 : Int)))) b309).map eBucket)))], 1⟩ [] (by kernel_rfl) trivial ?_
          exact LWp.conv (inv := [(0, 0)]) (vk := []) (e0 := []) (t := ⟨[(0, .own 0), (10, iV .i64 x274), (13, iV .i64 (IntKind.i64.wrap (x295 + (1 : Int))))], [(0, some (.row 2 36 (((x294.set (Int.toNat (x295)) b306).set (Int.toNat (IntKind.i64.wrap (x295 + (1 : Int)))) b309).map eBucket)))], 1⟩) (by kernel_rfl) (ih _ _ _ H)
        · replace H := (ifF c296).symm.trans H
          refine AWp.exit ?_
          obtain rfl := Option.some.inj H
          exact Exists.intro _ (And.intro (fun _ _ h => h.conv (inv := [(0, 0)]) (vk := []) (e0 := []) (t := ⟨[], [(0, some (.row 2 36 (x294.map eBucket)))], 1⟩) (by kernel_rfl)) (And.intro rfl rfl))
      · obtain ⟨x315, rfl⟩ : ∃ z, z = o560 := ⟨_, rfl⟩
        rintro e s ⟨rfl, rfl⟩
        refine AWp.conv (inv := [(0, 0)]) (vk := []) (e0 := []) (t := ⟨[], [(0, some (.row 2 36 (x315.map eBucket)))], 1⟩) (by kernel_rfl) ?_
        refine AWp.ret ?_
        obtain rfl := Option.some.inj H
        exact Exists.intro _ (And.intro (fun _ _ h => h) (And.intro (.inl rfl) (And.intro rfl (And.intro (by kernel_rfl) (by kernel_rfl)))))
  · replace H := (ifF c231).symm.trans H
    refine AWp.skip ?_
    refine AWp.seq ?_
    refine AWp.seq ?_
    refine reg hP hn hm [] [0, 1, 2, 3, 4, 80] [0] ⟨[(0, .own 0), (1, iV .i64 a1), (2, iV .i64 a2), (3, iV .i64 a3), (4, .im (.sc (.func (.func 78) #[] #[]))), (80, bV ((IntKind.i64.wrap (a3 - a2)) == (1 : Int)))], [(0, some (.row 2 36 (a0.map eBucket)))], 1⟩ [] (by kernel_rfl) trivial ?_
    refine AWp.cond ((IntKind.i64.wrap (a3 - a2)) == (1 : Int)) rfl (fun c316 => ?_) (fun c316 => ?_)
    · replace H := (ifT c316).symm.trans H
      refine AWp.seq ?_
      refine reg hP hn hm [] [0, 2, 4, 14] [0] ⟨[(0, .own 0), (2, iV .i64 a2), (4, .im (.sc (.func (.func 78) #[] #[]))), (14, iV .i64 a1)], [(0, some (.row 2 36 (a0.map eBucket)))], 1⟩ [] (by kernel_rfl) trivial ?_
      refine AWp.seq ?_
      refine reg hP hn hm [] [0, 2, 4, 14, 15] [0] ⟨[(0, .own 0), (2, iV .i64 a2), (4, .im (.sc (.func (.func 78) #[] #[]))), (14, iV .i64 a1), (15, iV .i64 a2)], [(0, some (.row 2 36 (a0.map eBucket)))], 1⟩ [] (by kernel_rfl) trivial ?_
      refine AWp.seq ?_
      refine AWp.block ?_
      obtain ⟨o562, e563, H⟩ := bind_of H
      refine AWp.loop (LWp.conv (inv := [(0, 0)]) (vk := []) (e0 := []) (t := ⟨[(0, .own 0), (2, iV .i64 a2), (4, .im (.sc (.func (.func 78) #[] #[]))), (14, iV .i64 a1), (15, iV .i64 a2)], [(0, some (.row 2 36 (a0.map eBucket)))], 1⟩) (by kernel_rfl) ?_)
      refine LWp.mono (Q := fun e s => (match (generalizing := false) o562 with | x359 => e = .exit 4 ∧ s = ⟨[(0, .own 0), (2, iV .i64 a2), (14, iV .i64 x359)], [(0, some (.row 2 36 (a0.map eBucket)))], 1⟩)) (LWp.cv (withBody (fun body hbody => ?_))) ?_
      · refine f_slices_symMergeCmpFunc_api_Bucket_hist_tidy_1.l2.partial_correctness a0 a2 (motive := fun x337 x338 o562 => LWp Γ body (fun e s => ∃ t, Cv Γ s t ∧ (match (generalizing := false) o562 with | x359 => e = .exit 4 ∧ t = ⟨[(0, .own 0), (2, iV .i64 a2), (14, iV .i64 x359)], [(0, some (.row 2 36 (a0.map eBucket)))], 1⟩)) ⟨[(0, .own 0), (2, iV .i64 a2), (4, .im (.sc (.func (.func 78) #[] #[]))), (14, iV .i64 x337), (15, iV .i64 x338)], [(0, some (.row 2 36 (a0.map eBucket)))], 1⟩) ?_ _ _ _ e563
        clear H e563 o562; intro self ih x337 x338 o562 H
        subst hbody
        refine LWp.round ?_
        refine AWp.seq ?_
        refine AWp.seq ?_
        refine reg hP hn hm [] [0, 2, 4, 14, 15, 85] [0] ⟨[(0, .own 0), (2, iV .i64 a2), (4, .im (.sc (.func (.func 78) #[] #[]))), (14, iV .i64 x337), (15, iV .i64 x338), (85, bV (decide (x337 < x338)))], [(0, some (.row 2 36 (a0.map eBucket)))], 1⟩ [] (by kernel_rfl) trivial ?_
        refine AWp.cond (decide (x337 < x338)) rfl (fun c339 => ?_) (fun c339 => ?_)
        · replace H := (ifT c339).symm.trans H
          refine AWp.skip ?_
          refine AWp.block ?_
          refine AWp.seq ?_
          refine reg hP hn hm [] [0, 2, 4, 14, 15, 16] [0] ⟨[(0, .own 0), (2, iV .i64 a2), (4, .im (.sc (.func (.func 78) #[] #[]))), (14, iV .i64 x337), (15, iV .i64 x338), (16, iV .i64 (IntKind.i64.wrap (Int.fdiv (IntKind.u64.wrap (IntKind.i64.wrap (x337 + x338))) 2)))], [(0, some (.row 2 36 (a0.map eBucket)))], 1⟩ [(0 : Int) ≤ 1] (by kernel_rfl) ⟨by decide, trivial⟩ ?_
          refine AWp.seq ?_
          obtain ⟨b348, p349, q350, H⟩ := at_of H
          obtain ⟨b351, p352, q353, H⟩ := at_of H
          obtain ⟨t354, e355, H⟩ := bind_of H
          refine reg hP hn hm [(4, .c (eBucket b348)), (8, .c (eBucket b351)), (9, .call [] [] [] [] 0 (iV .i64 t354) [])] [0, 2, 4, 14, 15, 16, 103] [0] ⟨[(0, .own 0), (2, iV .i64 a2), (4, .im (.sc (.func (.func 78) #[] #[]))), (14, iV .i64 x337), (15, iV .i64 x338), (16, iV .i64 (IntKind.i64.wrap (Int.fdiv (IntKind.u64.wrap (IntKind.i64.wrap (x337 + x338))) 2))), (103, bV (!(decide (t354 < (0 : Int)))))], [(0, some (.row 2 36 (a0.map eBucket)))], 1⟩ [0 ≤ a2, a2 < (((a0.map eBucket).length : Nat) : Int), (a0.map eBucket)[(Int.toNat (a2))]? = some (eBucket b348), 0 ≤ (IntKind.i64.wrap (Int.fdiv (IntKind.u64.wrap (IntKind.i64.wrap (x337 + x338))) 2)), IntKind.i64.wrap (Int.fdiv (IntKind.u64.wrap (IntKind.i64.wrap (x337 + x338))) 2) < (((a0.map eBucket).length : Nat) : Int), (a0.map eBucket)[(Int.toNat (IntKind.i64.wrap (Int.fdiv (IntKind.u64.wrap (IntKind.i64.wrap (x337 + x338))) 2)))]? = some (eBucket b351), Enters Try.prog 78, Pv.Fn Try.prog 78 [.agg (aBucket b348), .agg (aBucket b351)] [] 0 (fun r o => r = iV .i64 t354 ∧ o = [])] (by kernel_rfl) ⟨by exact p349, by exact el_lt eBucket p349 q350, by exact el_map eBucket q350, by exact p352, by exact el_lt eBucket p352 q353, by exact el_map eBucket q353, by exact Try.call78, by exact f_hist_tidy_1.ok b348 b351 t354 e355, trivial⟩ ?_
          obtain ⟨o564, e565, H⟩ := bind_of H
          refine AWp.mono (Q := fun e s => (match (generalizing := false) o564 with | (x357, x358) => e = .normal ∧ s = ⟨[(0, .own 0), (2, iV .i64 a2), (4, .im (.sc (.func (.func 78) #[] #[]))), (14, iV .i64 x357), (15, iV .i64 x358)], [(0, some (.row 2 36 (a0.map eBucket)))], 1⟩)) (AWp.cv ?_) ?_
          · replace H := e565; clear e565
            refine AWp.cond (!(decide (t354 < (0 : Int)))) rfl (fun c356 => ?_) (fun c356 => ?_)
            · replace H := (ifT c356).symm.trans H
              refine reg hP hn hm [] [0, 2, 4, 14, 15] [0] ⟨[(0, .own 0), (2, iV .i64 a2), (4, .im (.sc (.func (.func 78) #[] #[]))), (14, iV .i64 (IntKind.i64.wrap ((IntKind.i64.wrap (Int.fdiv (IntKind.u64.wrap (IntKind.i64.wrap (x337 + x338))) 2)) + (1 : Int)))), (15, iV .i64 x338)], [(0, some (.row 2 36 (a0.map eBucket)))], 1⟩ [] (by kernel_rfl) trivial ?_
              obtain rfl := Option.some.inj H
              exact Exists.intro _ (And.intro (fun _ _ h => h.conv (inv := [(0, 0)]) (vk := []) (e0 := []) (t := ⟨[(0, .own 0), (2, iV .i64 a2), (4, .im (.sc (.func (.func 78) #[] #[]))), (14, iV .i64 (IntKind.i64.wrap ((IntKind.i64.wrap (Int.fdiv (IntKind.u64.wrap (IntKind.i64.wrap (x337 + x338))) 2)) + (1 : Int)))), (15, iV .i64 x338)], [(0, some (.row 2 36 (a0.map eBucket)))], 1⟩) (by kernel_rfl)) (And.intro rfl rfl))
            · replace H := (ifF c356).symm.trans H
              refine reg hP hn hm [] [0, 2, 4, 14, 15] [0] ⟨[(0, .own 0), (2, iV .i64 a2), (4, .im (.sc (.func (.func 78) #[] #[]))), (14, iV .i64 x337), (15, iV .i64 (IntKind.i64.wrap (Int.fdiv (IntKind.u64.wrap (IntKind.i64.wrap (x337 + x338))) 2)))], [(0, some (.row 2 36 (a0.map eBucket)))], 1⟩ [] (by kernel_rfl) trivial ?_
              obtain rfl := Option.some.inj H
              exact Exists.intro _ (And.intro (fun _ _ h => h.conv (inv := [(0, 0)]) (vk := []) (e0 := []) (t := ⟨[(0, .own 0), (2, iV .i64 a2), (4, .im (.sc (.func (.func 78) #[] #[]))), (14, iV .i64 x337), (15, iV .i64 (IntKind.i64.wrap (Int.fdiv (IntKind.u64.wrap (IntKind.i64.wrap (x337 + x338))) 2)))], [(0, some (.row 2 36 (a0.map eBucket)))], 1⟩) (by kernel_rfl)) (And.intro rfl rfl))
          · obtain ⟨x357, x358⟩ := o564
            rintro e s ⟨rfl, rfl⟩
            exact LWp.conv (inv := [(0, 0)]) (vk := []) (e0 := []) (t := ⟨[(0, .own 0), (2, iV .i64 a2), (4, .im (.sc (.func (.func 78) #[] #[]))), (14, iV .i64 x357), (15, iV .i64 x358)], [(0, some (.row 2 36 (a0.map eBucket)))], 1⟩) (by kernel_rfl) (ih _ _ _ H)
        · replace H := (ifF c339).symm.trans H
          refine AWp.exit ?_
          obtain rfl := Option.some.inj H
          exact Exists.intro _ (And.intro (fun _ _ h => h.conv (inv := [(0, 0)]) (vk := []) (e0 := []) (t := ⟨[(0, .own 0), (2, iV .i64 a2), (14, iV .i64 x337)], [(0, some (.row 2 36 (a0.map eBucket)))], 1⟩) (by kernel_rfl)) (And.intro rfl rfl))
      · obtain ⟨x359, rfl⟩ : ∃ z, z = o562 := ⟨_, rfl⟩
        rintro e s ⟨rfl, rfl⟩
        refine AWp.seq ?_
        refine AWp.seq ?_
        refine reg hP hn hm [] [0, 14, 17] [0] ⟨[(0, .own 0), (14, iV .i64 x359), (17, iV .i64 a2)], [(0, some (.row 2 36 (a0.map eBucket)))], 1⟩ [] (by kernel_rfl) trivial ?_
        refine AWp.block ?_
        obtain ⟨o566, e567, H⟩ := bind_of H
        refine AWp.loop (LWp.conv (inv := [(0, 0)]) (vk := []) (e0 := []) (t := ⟨[(0, .own 0), (14, iV .i64 x359), (17, iV .i64 a2)], [(0, some (.row 2 36 (a0.map eBucket)))], 1⟩) (by kernel_rfl) ?_)
        refine LWp.mono (Q := fun e s => (match (generalizing := false) o566 with | x400 => e = .exit 6 ∧ s = ⟨[], [(0, some (.row 2 36 (x400.map eBucket)))], 1⟩)) (LWp.cv (withBody (fun body hbody => ?_))) ?_
        · refine f_slices_symMergeCmpFunc_api_Bucket_hist_tidy_1.l3.partial_correctness x359 (motive := fun x379 x380 o566 => LWp Γ body (fun e s => ∃ t, Cv Γ s t ∧ (match (generalizing := false) o566 with | x400 => e = .exit 6 ∧ t = ⟨[], [(0, some (.row 2 36 (x400.map eBucket)))], 1⟩)) ⟨[(0, .own 0), (14, iV .i64 x359), (17, iV .i64 x380)], [(0, some (.row 2 36 (x379.map eBucket)))], 1⟩) ?_ _ _ _ e567
          clear H e567 o566; intro self ih x379 x380 o566 H
          subst hbody
          refine LWp.round ?_
          refine AWp.seq ?_
          refine AWp.seq ?_
          refine reg hP hn hm [] [0, 14, 17, 110] [0] ⟨[(0, .own 0), (14, iV .i64 x359), (17, iV .i64 x380), (110, bV (decide (x380 > x359)))], [(0, some (.row 2 36 (x379.map eBucket)))], 1⟩ [] (by kernel_rfl) trivial ?_
          refine AWp.cond (decide (x380 > x359)) rfl (fun c381 => ?_) (fun c381 => ?_)
          · replace H := (ifT c381).symm.trans H
            refine AWp.skip ?_
            refine AWp.seq ?_
            refine AWp.block ?_
            obtain ⟨b391, p392, q393, H⟩ := at_of H
            obtain ⟨b394, p395, q396, H⟩ := at_of H
            obtain ⟨b397, p398, q399, H⟩ := at_of H
            refine reg hP hn hm [(9, .c (eBucket b391)), (13, .c (eBucket b394)), (15, .put (eBucket b394) ((x379.set (Int.toNat (x380)) b391).map eBucket)), (17, .put (eBucket b397) (((x379.set (Int.toNat (x380)) b391).set (Int.toNat (IntKind.i64.wrap (x380 - (1 : Int)))) b394).map eBucket))] [0, 14, 17] [0] ⟨[(0, .own 0), (14, iV .i64 x359), (17, iV .i64 x380)], [(0, some (.row 2 36 (((x379.set (Int.toNat (x380)) b391).set (Int.toNat (IntKind.i64.wrap (x380 - (1 : Int)))) b394).map eBucket)))], 1⟩ [0 ≤ (IntKind.i64.wrap (x380 - (1 : Int))), IntKind.i64.wrap (x380 - (1 : Int)) < (((x379.map eBucket).length : Nat) : Int), (x379.map eBucket)[(Int.toNat (IntKind.i64.wrap (x380 - (1 : Int))))]? = some (eBucket b391), 0 ≤ x380, x380 < (((x379.map eBucket).length : Nat) : Int), (x379.map eBucket)[(Int.toNat (x380))]? = some (eBucket b394), 0 ≤ x380, x380 < (((x379.map eBucket).length : Nat) : Int), (x379.map eBucket)[(Int.toNat (x380))]? = some (eBucket b394), (x379.set (Int.toNat (x380)) b391).map eBucket = (x379.map eBucket).set (Int.toNat (x380)) (splice (eBucket b394) 0 [iI .i64 b391.f0, iI .u64 b391.f1]), 0 ≤ (IntKind.i64.wrap (x380 - (1 : Int))), IntKind.i64.wrap (x380 - (1 : Int)) < ((((x379.set (Int.toNat (x380)) b391).map eBucket).length : Nat) : Int), ((x379.set (Int.toNat (x380)) b391).map eBucket)[(Int.toNat (IntKind.i64.wrap (x380 - (1 : Int))))]? = some (eBucket b397), ((x379.set (Int.toNat (x380)) b391).set (Int.toNat (IntKind.i64.wrap (x380 - (1 : Int)))) b394).map eBucket = ((x379.set (Int.toNat (x380)) b391).map eBucket).set (Int.toNat (IntKind.i64.wrap (x380 - (1 : Int)))) (splice (eBucket b397) 0 [iI .i64 b394.f0, iI .u64 b394.f1])] (by kernel_rfl) ⟨by exact p392, by exact el_lt eBucket p392 q393, by exact el_map eBucket q393, by exact p395, by exact el_lt eBucket p395 q396, by exact el_map eBucket q396, by exact p395, by exact el_lt eBucket p395 q396, by exact el_map eBucket q396, by exact set1 _ _ _ _, by exact p398, by exact el_lt eBucket p398 q399, by exact el_map eBucket q399, by exact set1 _ _ _ _, trivial⟩ ?_
            refine reg hP hn hm [] [0, 14, 17] [0] ⟨[(0, .own 0), (14, iV .i64 x359), (17, iV .i64 (IntKind.i64.wrap (x380 - (1 : Int))))], [(0, some (.row 2 36 (((x379.set (Int.toNat (x380)) b391).set (Int.toNat (IntKind.i64.wrap (x380 - (1 : Int)))) b394).map eBucket)))], 1⟩ [] (by kernel_rfl) trivial ?_
            exact LWp.conv (inv := [(0, 0)]) (vk := []) (e0 := []) (t := ⟨[(0, .own 0), (14, iV .i64 x359), (17, iV .i64 (IntKind.i64.wrap (x380 - (1 : Int))))], [(0, some (.row 2 36 (((x379.set (Int.toNat (x380)) b391).set (Int.toNat (IntKind.i64.wrap (x380 - (1 : Int)))) b394).map eBucket)))], 1⟩) (by kernel_rfl) (ih _ _ _ H)
          · replace H := (ifF c381).symm.trans H
            refine AWp.exit ?_
            obtain rfl := Option.some.inj H
            exact Exists.intro _ (And.intro (fun _ _ h => h.conv (inv := [(0, 0)]) (vk := []) (e0 := []) (t := ⟨[], [(0, some (.row 2 36 (x379.map eBucket)))], 1⟩) (by kernel_rfl)) (And.intro rfl rfl))
        · obtain ⟨x400, rfl⟩ : ∃ z, z = o566 := ⟨_, rfl⟩
          rintro e s ⟨rfl, rfl⟩
          refine AWp.conv (inv := [(0, 0)]) (vk := []) (e0 := []) (t := ⟨[], [(0, some (.row 2 36 (x400.map eBucket)))], 1⟩) (by kernel_rfl) ?_
          refine AWp.ret ?_
          obtain rfl := Option.some.inj H
          exact Exists.intro _ (And.intro (fun _ _ h => h) (And.intro (.inl rfl) (And.intro rfl (And.intro (by kernel_rfl) (by kernel_rfl)))))
    · replace H := (ifF c316).symm.trans H
      refine AWp.skip ?_
      refine AWp.seq ?_
      refine reg hP hn hm [] [0, 1, 2, 3, 4, 18] [0] ⟨[(0, .own 0), (1, iV .i64 a1), (2, iV .i64 a2), (3, iV .i64 a3), (4, .im (.sc (.func (.func 78) #[] #[]))), (18, iV .i64 (IntKind.i64.wrap (Int.fdiv (IntKind.u64.wrap (IntKind.i64.wrap (a1 + a3))) 2)))], [(0, some (.row 2 36 (a0.map eBucket)))], 1⟩ [(0 : Int) ≤ 1] (by kernel_rfl) ⟨by decide, trivial⟩ ?_
      refine AWp.seq ?_
      refine reg hP hn hm [] [0, 1, 2, 3, 4, 18, 19] [0] ⟨[(0, .own 0), (1, iV .i64 a1), (2, iV .i64 a2), (3, iV .i64 a3), (4, .im (.sc (.func (.func 78) #[] #[]))), (18, iV .i64 (IntKind.i64.wrap (Int.fdiv (IntKind.u64.wrap (IntKind.i64.wrap (a1 + a3))) 2))), (19, iV .i64 (IntKind.i64.wrap ((IntKind.i64.wrap (Int.fdiv (IntKind.u64.wrap (IntKind.i64.wrap (a1 + a3))) 2)) + a2)))], [(0, some (.row 2 36 (a0.map eBucket)))], 1⟩ [] (by kernel_rfl) trivial ?_
      refine AWp.seq ?_
      refine reg hP hn hm [] [0, 1, 2, 3, 4, 18, 19] [0] ⟨[(0, .own 0), (1, iV .i64 a1), (2, iV .i64 a2), (3, iV .i64 a3), (4, .im (.sc (.func (.func 78) #[] #[]))), (18, iV .i64 (IntKind.i64.wrap (Int.fdiv (IntKind.u64.wrap (IntKind.i64.wrap (a1 + a3))) 2))), (19, iV .i64 (IntKind.i64.wrap ((IntKind.i64.wrap (Int.fdiv (IntKind.u64.wrap (IntKind.i64.wrap (a1 + a3))) 2)) + a2)))], [(0, some (.row 2 36 (a0.map eBucket)))], 1⟩ [] (by kernel_rfl) trivial ?_
      refine AWp.seq ?_
      refine AWp.seq ?_
      refine reg hP hn hm [] [0, 1, 2, 3, 4, 18, 19, 140] [0] ⟨[(0, .own 0), (1, iV .i64 a1), (2, iV .i64 a2), (3, iV .i64 a3), (4, .im (.sc (.func (.func 78) #[] #[]))), (18, iV .i64 (IntKind.i64.wrap (Int.fdiv (IntKind.u64.wrap (IntKind.i64.wrap (a1 + a3))) 2))), (19, iV .i64 (IntKind.i64.wrap ((IntKind.i64.wrap (Int.fdiv (IntKind.u64.wrap (IntKind.i64.wrap (a1 + a3))) 2)) + a2))), (140, bV (decide (a2 > (IntKind.i64.wrap (Int.fdiv (IntKind.u64.wrap (IntKind.i64.wrap (a1 + a3))) 2)))))], [(0, some (.row 2 36 (a0.map eBucket)))], 1⟩ [] (by kernel_rfl) trivial ?_
      obtain ⟨o568, e569, H⟩ := bind_of H
      refine AWp.mono (Q := fun e s => (match (generalizing := false) o568 with | (x402, x403) => e = .normal ∧ s = ⟨[(0, .own 0), (1, iV .i64 a1), (2, iV .i64 a2), (3, iV .i64 a3), (4, .im (.sc (.func (.func 78) #[] #[]))), (18, iV .i64 (IntKind.i64.wrap (Int.fdiv (IntKind.u64.wrap (IntKind.i64.wrap (a1 + a3))) 2))), (19, iV .i64 (IntKind.i64.wrap ((IntKind.i64.wrap (Int.fdiv (IntKind.u64.wrap (IntKind.i64.wrap (a1 + a3))) 2)) + a2))), (20, iV .i64 x402), (21, iV .i64 x403)], [(0, some (.row 2 36 (a0.map eBucket)))], 1⟩)) (AWp.cv ?_) ?_
      · replace H := e569; clear e569
        refine AWp.cond (decide (a2 > (IntKind.i64.wrap (Int.fdiv (IntKind.u64.wrap (IntKind.i64.wrap (a1 + a3))) 2)))) rfl (fun c401 => ?_) (fun c401 => ?_)
        · replace H := (ifT c401).symm.trans H
          refine AWp.seq ?_
          refine reg hP hn hm [] [0, 1, 2, 3, 4, 18, 19, 20] [0] ⟨[(0, .own 0), (1, iV .i64 a1), (2, iV .i64 a2), (3, iV .i64 a3), (4, .im (.sc (.func (.func 78) #[] #[]))), (18, iV .i64 (IntKind.i64.wrap (Int.fdiv (IntKind.u64.wrap (IntKind.i64.wrap (a1 + a3))) 2))), (19, iV .i64 (IntKind.i64.wrap ((IntKind.i64.wrap (Int.fdiv (IntKind.u64.wrap (IntKind.i64.wrap (a1 + a3))) 2)) + a2))), (20, iV .i64 (IntKind.i64.wrap ((IntKind.i64.wrap ((IntKind.i64.wrap (Int.fdiv (IntKind.u64.wrap (IntKind.i64.wrap (a1 + a3))) 2)) + a2)) - a3)))], [(0, some (.row 2 36 (a0.map eBucket)))], 1⟩ [] (by kernel_rfl) trivial ?_
          refine reg hP hn hm [] [0, 1, 2, 3, 4, 18, 19, 20, 21] [0] ⟨[(0, .own 0), (1, iV .i64 a1), (2, iV .i64 a2), (3, iV .i64 a3), (4, .im (.sc (.func (.func 78) #[] #[]))), (18, iV .i64 (IntKind.i64.wrap (Int.fdiv (IntKind.u64.wrap (IntKind.i64.wrap (a1 + a3))) 2))), (19, iV .i64 (IntKind.i64.wrap ((IntKind.i64.wrap (Int.fdiv (IntKind.u64.wrap (IntKind.i64.wrap (a1 + a3))) 2)) + a2))), (20, iV .i64 (IntKind.i64.wrap ((IntKind.i64.wrap ((IntKind.i64.wrap (Int.fdiv (IntKind.u64.wrap (IntKind.i64.wrap (a1 + a3))) 2)) + a2)) - a3))), (21, iV .i64 (IntKind.i64.wrap (Int.fdiv (IntKind.u64.wrap (IntKind.i64.wrap (a1 + a3))) 2)))], [(0, some (.row 2 36 (a0.map eBucket)))], 1⟩ [] (by kernel_rfl) trivial ?_
          obtain rfl := Option.some.inj H
          exact Exists.intro _ (And.intro (fun _ _ h => h.conv (inv := [(0, 0)]) (vk := []) (e0 := []) (t := ⟨[(0, .own 0), (1, iV .i64 a1), (2, iV .i64 a2), (3, iV .i64 a3), (4, .im (.sc (.func (.func 78) #[] #[]))), (18, iV .i64 (IntKind.i64.wrap (Int.fdiv (IntKind.u64.wrap (IntKind.i64.wrap (a1 + a3))) 2))), (19, iV .i64 (IntKind.i64.wrap ((IntKind.i64.wrap (Int.fdiv (IntKind.u64.wrap (IntKind.i64.wrap (a1 + a3))) 2)) + a2))), (20, iV .i64 (IntKind.i64.wrap ((IntKind.i64.wrap ((IntKind.i64.wrap (Int.fdiv (IntKind.u64.wrap (IntKind.i64.wrap (a1 + a3))) 2)) + a2)) - a3))), (21, iV .i64 (IntKind.i64.wrap (Int.fdiv (IntKind.u64.wrap (IntKind.i64.wrap (a1 + a3))) 2)))], [(0, some (.row 2 36 (a0.map eBucket)))], 1⟩) (by kernel_rfl)) (And.intro rfl rfl))
        · replace H := (ifF c401).symm.trans H
          refine AWp.seq ?_
          refine reg hP hn hm [] [0, 1, 2, 3, 4, 18, 19, 20] [0] ⟨[(0, .own 0), (1, iV .i64 a1), (2, iV .i64 a2), (3, iV .i64 a3), (4, .im (.sc (.func (.func 78) #[] #[]))), (18, iV .i64 (IntKind.i64.wrap (Int.fdiv (IntKind.u64.wrap (IntKind.i64.wrap (a1 + a3))) 2))), (19, iV .i64 (IntKind.i64.wrap ((IntKind.i64.wrap (Int.fdiv (IntKind.u64.wrap (IntKind.i64.wrap (a1 + a3))) 2)) + a2))), (20, iV .i64 a1)], [(0, some (.row 2 36 (a0.map eBucket)))], 1⟩ [] (by kernel_rfl) trivial ?_
          refine reg hP hn hm [] [0, 1, 2, 3, 4, 18, 19, 20, 21] [0] ⟨[(0, .own 0), (1, iV .i64 a1), (2, iV .i64 a2), (3, iV .i64 a3), (4, .im (.sc (.func (.func 78) #[] #[]))), (18, iV .i64 (IntKind.i64.wrap (Int.fdiv (IntKind.u64.wrap (IntKind.i64.wrap (a1 + a3))) 2))), (19, iV .i64 (IntKind.i64.wrap ((IntKind.i64.wrap (Int.fdiv (IntKind.u64.wrap (IntKind.i64.wrap (a1 + a3))) 2)) + a2))), (20, iV .i64 a1), (21, iV .i64 a2)], [(0, some (.row 2 36 (a0.map eBucket)))], 1⟩ [] (by kernel_rfl) trivial ?_
          obtain rfl := Option.some.inj H
          exact Exists.intro _ (And.intro (fun _ _ h => h.conv (inv := [(0, 0)]) (vk := []) (e0 := []) (t := ⟨[(0, .own 0), (1, iV .i64 a1), (2, iV .i64 a2), (3, iV .i64 a3), (4, .im (.sc (.func (.func 78) #[] #[]))), (18, iV .i64 (IntKind.i64.wrap (Int.fdiv (IntKind.u64.wrap (IntKind.i64.wrap (a1 + a3))) 2))), (19, iV .i64 (IntKind.i64.wrap ((IntKind.i64.wrap (Int.fdiv (IntKind.u64.wrap (IntKind.i64.wrap (a1 + a3))) 2)) + a2))), (20, iV .i64 a1), (21, iV .i64 a2)], [(0, some (.row 2 36 (a0.map eBucket)))], 1⟩) (by kernel_rfl)) (And.intro rfl rfl))
      · obtain ⟨x402, x403⟩ := o568
        rintro e s ⟨rfl, rfl⟩
        refine AWp.seq ?_
        refine reg hP hn hm [] [0, 1, 2, 3, 4, 18, 19, 20, 21, 22] [0] ⟨[(0, .own 0), (1, iV .i64 a1), (2, iV .i64 a2), (3, iV .i64 a3), (4, .im (.sc (.func (.func 78) #[] #[]))), (18, iV .i64 (IntKind.i64.wrap (Int.fdiv (IntKind.u64.wrap (IntKind.i64.wrap (a1 + a3))) 2))), (19, iV .i64 (IntKind.i64.wrap ((IntKind.i64.wrap (Int.fdiv (IntKind.u64.wrap (IntKind.i64.wrap (a1 + a3))) 2)) + a2))), (20, iV .i64 x402), (21, iV .i64 x403), (22, iV .i64 (IntKind.i64.wrap ((IntKind.i64.wrap ((IntKind.i64.wrap (Int.fdiv (IntKind.u64.wrap (IntKind.i64.wrap (a1 + a3))) 2)) + a2)) - (1 : Int))))], [(0, some (.row 2 36 (a0.map eBucket)))], 1⟩ [] (by kernel_rfl) trivial ?_
        refine AWp.seq ?_
        refine AWp.block ?_
        obtain ⟨o570, e571, H⟩ := bind_of H
        refine AWp.loop (LWp.conv (inv := [(0, 0)]) (vk := []) (e0 := []) (t := ⟨[(0, .own 0), (1, iV .i64 a1), (2, iV .i64 a2), (3, iV .i64 a3), (4, .im (.sc (.func (.func 78) #[] #[]))), (18, iV .i64 (IntKind.i64.wrap (Int.fdiv (IntKind.u64.wrap (IntKind.i64.wrap (a1 + a3))) 2))), (19, iV .i64 (IntKind.i64.wrap ((IntKind.i64.wrap (Int.fdiv (IntKind.u64.wrap (IntKind.i64.wrap (a1 + a3))) 2)) + a2))), (20, iV .i64 x402), (21, iV .i64 x403), (22, iV .i64 (IntKind.i64.wrap ((IntKind.i64.wrap ((IntKind.i64.wrap (Int.fdiv (IntKind.u64.wrap (IntKind.i64.wrap (a1 + a3))) 2)) + a2)) - (1 : Int))))], [(0, some (.row 2 36 (a0.map eBucket)))], 1⟩) (by kernel_rfl) ?_)
        refine LWp.mono (Q := fun e s => (match (generalizing := false) o570 with | x446 => e = .exit 8 ∧ s = ⟨[(0, .own 0), (1, iV .i64 a1), (2, iV .i64 a2), (3, iV .i64 a3), (4, .im (.sc (.func (.func 78) #[] #[]))), (18, iV .i64 (IntKind.i64.wrap (Int.fdiv (IntKind.u64.wrap (IntKind.i64.wrap (a1 + a3))) 2))), (19, iV .i64 (IntKind.i64.wrap ((IntKind.i64.wrap (Int.fdiv (IntKind.u64.wrap (IntKind.i64.wrap (a1 + a3))) 2)) + a2))), (20, iV .i64 x446)], [(0, some (.row 2 36 (a0.map eBucket)))], 1⟩)) (LWp.cv (withBody (fun body hbody => ?_))) ?_
        · refine f_slices_symMergeCmpFunc_api_Bucket_hist_tidy_1.l4.partial_correctness a0 a1 a2 a3 (motive := fun x424 x425 o570 => LWp Γ body (fun e s => ∃ t, Cv Γ s t ∧ (match (generalizing := false) o570 with | x446 => e = .exit 8 ∧ t = ⟨[(0, .own 0), (1, iV .i64 a1), (2, iV .i64 a2), (3, iV .i64 a3), (4, .im (.sc (.func (.func 78) #[] #[]))), (18, iV .i64 (IntKind.i64.wrap (Int.fdiv (IntKind.u64.wrap (IntKind.i64.wrap (a1 + a3))) 2))), (19, iV .i64 (IntKind.i64.wrap ((IntKind.i64.wrap (Int.fdiv (IntKind.u64.wrap (IntKind.i64.wrap (a1 + a3))) 2)) + a2))), (20, iV .i64 x446)], [(0, some (.row 2 36 (a0.map eBucket)))], 1⟩)) ⟨[(0, .own 0), (1, iV .i64 a1), (2, iV .i64 a2), (3, iV .i64 a3), (4, .im (.sc (.func (.func 78) #[] #[]))), (18, iV .i64 (IntKind.i64.wrap (Int.fdiv (IntKind.u64.wrap (IntKind.i64.wrap (a1 + a3))) 2))), (19, iV .i64 (IntKind.i64.wrap ((IntKind.i64.wrap (Int.fdiv (IntKind.u64.wrap (IntKind.i64.wrap (a1 + a3))) 2)) + a2))), (20, iV .i64 x424), (21, iV .i64 x425), (22, iV .i64 (IntKind.i64.wrap ((IntKind.i64.wrap ((IntKind.i64.wrap (Int.fdiv (IntKind.u64.wrap (IntKind.i64.wrap (a1 + a3))) 2)) + a2)) - (1 : Int))))], [(0, some (.row 2 36 (a0.map eBucket)))], 1⟩) ?_ _ _ _ e571
          clear H e571 o570; intro self ih x424 x425 o570 H
          subst hbody
          refine LWp.round ?_
          refine AWp.seq ?_
          refine AWp.seq ?_
          refine reg hP hn hm [] [0, 1, 2, 3, 4, 18, 19, 20, 21, 22, 151] [0] ⟨[(0, .own 0), (1, iV .i64 a1), (2, iV .i64 a2), (3, iV .i64 a3), (4, .im (.sc (.func (.func 78) #[] #[]))), (18, iV .i64 (IntKind.i64.wrap (Int.fdiv (IntKind.u64.wrap (IntKind.i64.wrap (a1 + a3))) 2))), (19, iV .i64 (IntKind.i64.wrap ((IntKind.i64.wrap (Int.fdiv (IntKind.u64.wrap (IntKind.i64.wrap (a1 + a3))) 2)) + a2))), (20, iV .i64 x424), (21, iV .i64 x425), (22, iV .i64 (IntKind.i64.wrap ((IntKind.i64.wrap ((IntKind.i64.wrap (Int.fdiv (IntKind.u64.wrap (IntKind.i64.wrap (a1 + a3))) 2)) + a2)) - (1 : Int)))), (151, bV (decide (x424 < x425)))], [(0, some (.row 2 36 (a0.map eBucket)))], 1⟩ [] (by kernel_rfl) trivial ?_
          refine AWp.cond (decide (x424 < x425)) rfl (fun c426 => ?_) (fun c426 => ?_)
          · replace H := (ifT c426).symm.trans H
            refine AWp.skip ?_
            refine AWp.block ?_
            refine AWp.seq ?_
            refine reg hP hn hm [] [0, 1, 2, 3, 4, 18, 19, 20, 21, 22, 23] [0] ⟨[(0, .own 0), (1, iV .i64 a1), (2, iV .i64 a2), (3, iV .i64 a3), (4, .im (.sc (.func (.func 78) #[] #[]))), (18, iV .i64 (IntKind.i64.wrap (Int.fdiv (IntKind.u64.wrap (IntKind.i64.wrap (a1 + a3))) 2))), (19, iV .i64 (IntKind.i64.wrap ((IntKind.i64.wrap (Int.fdiv (IntKind.u64.wrap (IntKind.i64.wrap (a1 + a3))) 2)) + a2))), (20, iV .i64 x424), (21, iV .i64 x425), (22, iV .i64 (IntKind.i64.wrap ((IntKind.i64.wrap ((IntKind.i64.wrap (Int.fdiv (IntKind.u64.wrap (IntKind.i64.wrap (a1 + a3))) 2)) + a2)) - (1 : Int)))), (23, iV .i64 (IntKind.i64.wrap (Int.fdiv (IntKind.u64.wrap (IntKind.i64.wrap (x424 + x425))) 2)))], [(0, some (.row 2 36 (a0.map eBucket)))], 1⟩ [(0 : Int) ≤ 1] (by kernel_rfl) ⟨by decide, trivial⟩ ?_
            refine AWp.seq ?_
            obtain ⟨b435, p436, q437, H⟩ := at_of H
            obtain ⟨b438, p439, q440, H⟩ := at_of H
            obtain ⟨t441, e442, H⟩ := bind_of H
            refine reg hP hn hm [(6, .c (eBucket b435)), (10, .c (eBucket b438)), (11, .call [] [] [] [] 0 (iV .i64 t441) [])] [0, 1, 2, 3, 4, 18, 19, 20, 21, 22, 23, 171] [0] ⟨[(0, .own 0), (1, iV .i64 a1), (2, iV .i64 a2), (3, iV .i64 a3), (4, .im (.sc (.func (.func 78) #[] #[]))), (18, iV .i64 (IntKind.i64.wrap (Int.fdiv (IntKind.u64.wrap (IntKind.i64.wrap (a1 + a3))) 2))), (19, iV .i64 (IntKind.i64.wrap ((IntKind.i64.wrap (Int.fdiv (IntKind.u64.wrap (IntKind.i64.wrap (a1 + a3))) 2)) + a2))), (20, iV .i64 x424), (21, iV .i64 x425), (22, iV .i64 (IntKind.i64.wrap ((IntKind.i64.wrap ((IntKind.i64.wrap (Int.fdiv (IntKind.u64.wrap (IntKind.i64.wrap (a1 + a3))) 2)) + a2)) - (1 : Int)))), (23, iV .i64 (IntKind.i64.wrap (Int.fdiv (IntKind.u64.wrap (IntKind.i64.wrap (x424 + x425))) 2))), (171, bV (!(decide (t441 < (0 : Int)))))], [(0, some (.row 2 36 (a0.map eBucket)))], 1⟩ [0 ≤ (IntKind.i64.wrap ((IntKind.i64.wrap ((IntKind.i64.wrap ((IntKind.i64.wrap (Int.fdiv (IntKind.u64.wrap (IntKind.i64.wrap (a1 + a3))) 2)) + a2)) - (1 : Int))) - (IntKind.i64.wrap (Int.fdiv (IntKind.u64.wrap (IntKind.i64.wrap (x424 + x425))) 2)))), IntKind.i64.wrap ((IntKind.i64.wrap ((IntKind.i64.wrap ((IntKind.i64.wrap (Int.fdiv (IntKind.u64.wrap (IntKind.i64.wrap (a1 + a3))) 2)) + a2)) - (1 : Int))) - (IntKind.i64.wrap (Int.fdiv (IntKind.u64.wrap (IntKind.i64.wrap (x424 + x425))) 2))) < (((a0.map eBucket).length : Nat) : Int), (a0.map eBucket)[(Int.toNat (IntKind.i64.wrap ((IntKind.i64.wrap ((IntKind.i64.wrap ((IntKind.i64.wrap (Int.fdiv (IntKind.u64.wrap (IntKind.i64.wrap (a1 + a3))) 2)) + a2)) - (1 : Int))) - (IntKind.i64.wrap (Int.fdiv (IntKind.u64.wrap (IntKind.i64.wrap (x424 + x425))) 2)))))]? = some (eBucket b435), 0 ≤ (IntKind.i64.wrap (Int.fdiv (IntKind.u64.wrap (IntKind.i64.wrap (x424 + x425))) 2)), IntKind.i64.wrap (Int.fdiv (IntKind.u64.wrap (IntKind.i64.wrap (x424 + x425))) 2) < (((a0.map eBucket).length : Nat) : Int), (a0.map eBucket)[(Int.toNat (IntKind.i64.wrap (Int.fdiv (IntKind.u64.wrap (IntKind.i64.wrap (x424 + x425))) 2)))]? = some (eBucket b438), Enters Try.prog 78, Pv.Fn Try.prog 78 [.agg (aBucket b435), .agg (aBucket b438)] [] 0 (fun r o => r = iV .i64 t441 ∧ o = [])] (by kernel_rfl) ⟨by exact p436, by exact el_lt eBucket p436 q437, by exact el_map eBucket q437, by exact p439, by exact el_lt eBucket p439 q440, by exact el_map eBucket q440, by exact Try.call78, by exact f_hist_tidy_1.ok b435 b438 t441 e442, trivial⟩ ?_
            obtain ⟨o572, e573, H⟩ := bind_of H
            refine AWp.mono (Q := fun e s => (match (generalizing := false) o572 with | (x444, x445) => e = .normal ∧ s = ⟨[(0, .own 0), (1, iV .i64 a1), (2, iV .i64 a2), (3, iV .i64 a3), (4, .im (.sc (.func (.func 78) #[] #[]))), (18, iV .i64 (IntKind.i64.wrap (Int.fdiv (IntKind.u64.wrap (IntKind.i64.wrap (a1 + a3))) 2))), (19, iV .i64 (IntKind.i64.wrap ((IntKind.i64.wrap (Int.fdiv (IntKind.u64.wrap (IntKind.i64.wrap (a1 + a3))) 2)) + a2))), (20, iV .i64 x444), (21, iV .i64 x445), (22, iV .i64 (IntKind.i64.wrap ((IntKind.i64.wrap ((IntKind.i64.wrap (Int.fdiv (IntKind.u64.wrap (IntKind.i64.wrap (a1 + a3))) 2)) + a2)) - (1 : Int))))], [(0, some (.row 2 36 (a0.map eBucket)))], 1⟩)) (AWp.cv ?_) ?_
            · replace H := e573; clear e573
              refine AWp.cond (!(decide (t441 < (0 : Int)))) rfl (fun c443 => ?_) (fun c443 => ?_)
              · replace H := (ifT c443).symm.trans H
                refine reg hP hn hm [] [0, 1, 2, 3, 4, 18, 19, 20, 21, 22] [0] ⟨[(0, .own 0), (1, iV .i64 a1), (2, iV .i64 a2), (3, iV .i64 a3), (4, .im (.sc (.func (.func 78) #[] #[]))), (18, iV .i64 (IntKind.i64.wrap (Int.fdiv (IntKind.u64.wrap (IntKind.i64.wrap (a1 + a3))) 2))), (19, iV .i64 (IntKind.i64.wrap ((IntKind.i64.wrap (Int.fdiv (IntKind.u64.wrap (IntKind.i64.wrap (a1 + a3))) 2)) + a2))), (20, iV .i64 (IntKind.i64.wrap ((IntKind.i64.wrap (Int.fdiv (IntKind.u64.wrap (IntKind.i64.wrap (x424 + x425))) 2)) + (1 : Int)))), (21, iV .i64 x425), (22, iV .i64 (IntKind.i64.wrap ((IntKind.i64.wrap ((IntKind.i64.wrap (Int.fdiv (IntKind.u64.wrap (IntKind.i64.wrap (a1 + a3))) 2)) + a2)) - (1 : Int))))], [(0, some (.row 2 36 (a0.map eBucket)))], 1⟩ [] (by kernel_rfl) trivial ?_
                obtain rfl := Option.some.inj H
                exact Exists.intro _ (And.intro (fun _ _ h => h.conv (inv := [(0, 0)]) (vk := []) (e0 := []) (t := ⟨[(0, .own 0), (1, iV .i64 a1), (2, iV .i64 a2), (3, iV .i64 a3), (4, .im (.sc (.func (.func 78) #[] #[]))), (18, iV .i64 (IntKind.i64.wrap (Int.fdiv (IntKind.u64.wrap (IntKind.i64.wrap (a1 + a3))) 2))), (19, iV .i64 (IntKind.i64.wrap ((IntKind.i64.wrap (Int.fdiv (IntKind.u64.wrap (IntKind.i64.wrap (a1 + a3))) 2)) + a2))), (20, iV .i64 (IntKind.i64.wrap ((IntKind.i64.wrap (Int.fdiv (IntKind.u64.wrap (IntKind.i64.wrap (x424 + x425))) 2)) + (1 : Int)))), (21, iV .i64 x425), (22, iV .i64 (IntKind.i64.wrap ((IntKind.i64.wrap ((IntKind.i64.wrap (Int.fdiv (IntKind.u64.wrap (IntKind.i64.wrap (a1 + a3))) 2)) + a2)) - (1 : Int))))], [(0, some (.row 2 36 (a0.map eBucket)))], 1⟩) (by kernel_rfl)) (And.intro rfl rfl))
              · replace H := (ifF c443).symm.trans H
                refine reg hP hn hm [] [0, 1, 2, 3, 4, 18, 19, 20, 21, 22] [0] ⟨[(0, .own 0), (1, iV .i64 a1), (2, iV .i64 a2), (3, iV .i64 a3), (4, .im (.sc (.func (.func 78) #[] #[]))), (18, iV .i64 (IntKind.i64.wrap (Int.fdiv (IntKind.u64.wrap (IntKind.i64.wrap (a1 + a3))) 2))), (19, iV .i64 (IntKind.i64.wrap ((IntKind.i64.wrap (Int.fdiv (IntKind.u64.wrap (IntKind.i64.wrap (a1 + a3))) 2)) + a2))), (20, iV .i64 x424), (21, iV .i64 (IntKind.i64.wrap (Int.fdiv (IntKind.u64.wrap (IntKind.i64.wrap (x424 + x425))) 2))), (22, iV .i64 (IntKind.i64.wrap ((IntKind.i64.wrap ((IntKind.i64.wrap (Int.fdiv (IntKind.u64.wrap (IntKind.i64.wrap (a1 + a3))) 2)) + a2)) - (1 : Int))))], [(0, some (.row 2 36 (a0.map eBucket)))], 1⟩ [] (by kernel_rfl) trivial ?_
                obtain rfl := Option.some.inj H
                exact Exists.intro _ (And.intro (fun _ _ h => h.conv (inv := [(0, 0)]) (vk := []) (e0 := []) (t := ⟨[(0, .own 0), (1, iV .i64 a1), (2, iV .i64 a2), (3, iV .i64 a3), (4, .im (.sc (.func (.func 78) #[] #[]))), (18, iV .i64 (IntKind.i64.wrap (Int.fdiv (IntKind.u64.wrap (IntKind.i64.wrap (a1 + a3))) 2))), (19, iV .i64 (IntKind.i64.wrap ((IntKind.i64.wrap (Int.fdiv (IntKind.u64.wrap (IntKind.i64.wrap (a1 + a3))) 2)) + a2))), (20, iV .i64 x424), (21, iV .i64 (IntKind.i64.wrap (Int.fdiv (IntKind.u64.wrap (IntKind.i64.wrap (x424 + x425))) 2))), (22, iV .i64 (IntKind.i64.wrap ((IntKind.i64.wrap ((IntKind.i64.wrap (Int.fdiv (IntKind.u64.wrap (IntKind.i64.wrap (a1 + a3))) 2)) + a2)) - (1 : Int))))], [(0, some (.row 2 36 (a0.map eBucket)))], 1⟩) (by kernel_rfl)) (And.intro rfl rfl))
            · obtain ⟨x444, x445⟩ := o572
              rintro e s ⟨rfl, rfl⟩
              exact LWp.conv (inv := [(0, 0)]) (vk := []) (e0 := []) (t := ⟨[(0, .own 0), (1, iV .i64 a1), (2, iV .i64 a2), (3, iV .i64 a3), (4, .im (.sc (.func (.func 78) #[] #[]))), (18, iV .i64 (IntKind.i64.wrap (Int.fdiv (IntKind.u64.wrap (IntKind.i64.wrap (a1 + a3))) 2))), (19, iV .i64 (IntKind.i64.wrap ((IntKind.i64.wrap (Int.fdiv (IntKind.u64.wrap (IntKind.i64.wrap (a1 + a3))) 2)) + a2))), (20, iV .i64 x444), (21, iV .i64 x445), (22, iV .i64 (IntKind.i64.wrap ((IntKind.i64.wrap ((IntKind.i64.wrap (Int.fdiv (IntKind.u64.wrap (IntKind.i64.wrap (a1 + a3))) 2)) + a2)) - (1 : Int))))], [(0, some (.row 2 36 (a0.map eBucket)))], 1⟩) (by kernel_rfl) (ih _ _ _ H)
          · replace H := (ifF c426).symm.trans H
            refine AWp.exit ?_
            obtain rfl := Option.some.inj H
            exact Exists.intro _ (And.intro (fun _ _ h => h.conv (inv := [(0, 0)]) (vk := []) (e0 := []) (t := ⟨[(0, .own 0), (1, iV .i64 a1), (2, iV .i64 a2), (3, iV .i64 a3), (4, .im (.sc (.func (.func 78) #[] #[]))), (18, iV .i64 (IntKind.i64.wrap (Int.fdiv (IntKind.u64.wrap (IntKind.i64.wrap (a1 + a3))) 2))), (19, iV .i64 (IntKind.i64.wrap ((IntKind.i64.wrap (Int.fdiv (IntKind.u64.wrap (IntKind.i64.wrap (a1 + a3))) 2)) + a2))), (20, iV .i64 x424)], [(0, some (.row 2 36 (a0.map eBucket)))], 1⟩) (by kernel_rfl)) (And.intro rfl rfl))
        · obtain ⟨x446, rfl⟩ : ∃ z, z = o570 := ⟨_, rfl⟩
          rintro e s ⟨rfl, rfl⟩
          refine AWp.seq ?_
          refine reg hP hn hm [] [0, 1, 2, 3, 4, 18, 20, 24] [0] ⟨[(0, .own 0), (1, iV .i64 a1), (2, iV .i64 a2), (3, iV .i64 a3), (4, .im (.sc (.func (.func 78) #[] #[]))), (18, iV .i64 (IntKind.i64.wrap (Int.fdiv (IntKind.u64.wrap (IntKind.i64.wrap (a1 + a3))) 2))), (20, iV .i64 x446), (24, iV .i64 (IntKind.i64.wrap ((IntKind.i64.wrap ((IntKind.i64.wrap (Int.fdiv (IntKind.u64.wrap (IntKind.i64.wrap (a1 + a3))) 2)) + a2)) - x446)))], [(0, some (.row 2 36 (a0.map eBucket)))], 1⟩ [] (by kernel_rfl) trivial ?_
          refine AWp.seq ?_
          refine AWp.seq ?_
          obtain ⟨o574, e575, H⟩ := bind_of H
          refine AWp.mono (Q := fun e s => (match (generalizing := false) o574 with | x449 => e = .normal ∧ s = ⟨[(0, .own 0), (1, iV .i64 a1), (2, iV .i64 a2), (3, iV .i64 a3), (4, .im (.sc (.func (.func 78) #[] #[]))), (18, iV .i64 (IntKind.i64.wrap (Int.fdiv (IntKind.u64.wrap (IntKind.i64.wrap (a1 + a3))) 2))), (20, iV .i64 x446), (24, iV .i64 (IntKind.i64.wrap ((IntKind.i64.wrap ((IntKind.i64.wrap (Int.fdiv (IntKind.u64.wrap (IntKind.i64.wrap (a1 + a3))) 2)) + a2)) - x446))), (185, bV x449)], [(0, some (.row 2 36 (a0.map eBucket)))], 1⟩)) (AWp.cv ?_) ?_
          · replace H := e575; clear e575
            rcases Bool.eq_false_or_eq_true (decide (x446 < a2)) with c448 | c448
            · replace H := (ifT c448).symm.trans H
              refine reg hP hn hm [(3, .b true)] [0, 1, 2, 3, 4, 18, 20, 24, 185] [0] ⟨[(0, .own 0), (1, iV .i64 a1), (2, iV .i64 a2), (3, iV .i64 a3), (4, .im (.sc (.func (.func 78) #[] #[]))), (18, iV .i64 (IntKind.i64.wrap (Int.fdiv (IntKind.u64.wrap (IntKind.i64.wrap (a1 + a3))) 2))), (20, iV .i64 x446), (24, iV .i64 (IntKind.i64.wrap ((IntKind.i64.wrap ((IntKind.i64.wrap (Int.fdiv (IntKind.u64.wrap (IntKind.i64.wrap (a1 + a3))) 2)) + a2)) - x446))), (185, bV (decide (a2 < (IntKind.i64.wrap ((IntKind.i64.wrap ((IntKind.i64.wrap (Int.fdiv (IntKind.u64.wrap (IntKind.i64.wrap (a1 + a3))) 2)) + a2)) - x446)))))], [(0, some (.row 2 36 (a0.map eBucket)))], 1⟩ [(decide (x446 < a2)) = true] (by kernel_rfl) ⟨by exact c448, trivial⟩ ?_
              obtain rfl := Option.some.inj H
              exact Exists.intro _ (And.intro (fun _ _ h => h.conv (inv := [(0, 0)]) (vk := []) (e0 := []) (t := ⟨[(0, .own 0), (1, iV .i64 a1), (2, iV .i64 a2), (3, iV .i64 a3), (4, .im (.sc (.func (.func 78) #[] #[]))), (18, iV .i64 (IntKind.i64.wrap (Int.fdiv (IntKind.u64.wrap (IntKind.i64.wrap (a1 + a3))) 2))), (20, iV .i64 x446), (24, iV .i64 (IntKind.i64.wrap ((IntKind.i64.wrap ((IntKind.i64.wrap (Int.fdiv (IntKind.u64.wrap (IntKind.i64.wrap (a1 + a3))) 2)) + a2)) - x446))), (185, bV (decide (a2 < (IntKind.i64.wrap ((IntKind.i64.wrap ((IntKind.i64.wrap (Int.fdiv (IntKind.u64.wrap (IntKind.i64.wrap (a1 + a3))) 2)) + a2)) - x446)))))], [(0, some (.row 2 36 (a0.map eBucket)))], 1⟩) (by kernel_rfl)) (And.intro rfl rfl))
            · replace H := (ifF c448).symm.trans H
              refine reg hP hn hm [(3, .b false)] [0, 1, 2, 3, 4, 18, 20, 24, 185] [0] ⟨[(0, .own 0), (1, iV .i64 a1), (2, iV .i64 a2), (3, iV .i64 a3), (4, .im (.sc (.func (.func 78) #[] #[]))), (18, iV .i64 (IntKind.i64.wrap (Int.fdiv (IntKind.u64.wrap (IntKind.i64.wrap (a1 + a3))) 2))), (20, iV .i64 x446), (24, iV .i64 (IntKind.i64.wrap ((IntKind.i64.wrap ((IntKind.i64.wrap (Int.fdiv (IntKind.u64.wrap (IntKind.i64.wrap (a1 + a3))) 2)) + a2)) - x446))), (185, bV false)], [(0, some (.row 2 36 (a0.map eBucket)))], 1⟩ [(decide (x446 < a2)) = false] (by kernel_rfl) ⟨by exact c448, trivial⟩ ?_
              obtain rfl := Option.some.inj H
              exact Exists.intro _ (And.intro (fun _ _ h => h.conv (inv := [(0, 0)]) (vk := []) (e0 := []) (t := ⟨[(0, .own 0), (1, iV .i64 a1), (2, iV .i64 a2), (3, iV .i64 a3), (4, .im (.sc (.func (.func 78) #[] #[]))), (18, iV .i64 (IntKind.i64.wrap (Int.fdiv (IntKind.u64.wrap (IntKind.i64.wrap (a1 + a3))) 2))), (20, iV .i64 x446), (24, iV .i64 (IntKind.i64.wrap ((IntKind.i64.wrap ((IntKind.i64.wrap (Int.fdiv (IntKind.u64.wrap (IntKind.i64.wrap (a1 + a3))) 2)) + a2)) - x446))), (185, bV false)], [(0, some (.row 2 36 (a0.map eBucket)))], 1⟩) (by kernel_rfl)) (And.intro rfl rfl))
          · obtain ⟨x449, rfl⟩ : ∃ z, z = o574 := ⟨_, rfl⟩
            rintro e s ⟨rfl, rfl⟩
            obtain ⟨o576, e577, H⟩ := bind_of H
            refine AWp.mono (Q := fun e s => (match (generalizing := false) o576 with | x537 => e = .normal ∧ s = ⟨[(0, .own 0), (1, iV .i64 a1), (3, iV .i64 a3), (4, .im (.sc (.func (.func 78) #[] #[]))), (18, iV .i64 (IntKind.i64.wrap (Int.fdiv (IntKind.u64.wrap (IntKind.i64.wrap (a1 + a3))) 2))), (20, iV .i64 x446), (24, iV .i64 (IntKind.i64.wrap ((IntKind.i64.wrap ((IntKind.i64.wrap (Int.fdiv (IntKind.u64.wrap (IntKind.i64.wrap (a1 + a3))) 2)) + a2)) - x446)))], [(0, some (.row 2 36 (x537.map eBucket)))], 1⟩)) (AWp.cv ?_) ?_
            · replace H := e577; clear e577
              refine AWp.cond x449 rfl (fun c450 => ?_) (fun c450 => ?_)
              · replace H := (ifT c450).symm.trans H
                obtain ⟨t535, e536, H⟩ := bind_of H
                refine reg hP hn hm [(5, .call [(0, 0)] [(0, 0)] [] [] 1 (.tup []) [(0, some (.row 2 36 (t535.map eBucket)))])] [0, 1, 3, 4, 18, 20, 24] [0] ⟨[(0, .own 0), (1, iV .i64 a1), (3, iV .i64 a3), (4, .im (.sc (.func (.func 78) #[] #[]))), (18, iV .i64 (IntKind.i64.wrap (Int.fdiv (IntKind.u64.wrap (IntKind.i64.wrap (a1 + a3))) 2))), (20, iV .i64 x446), (24, iV .i64 (IntKind.i64.wrap ((IntKind.i64.wrap ((IntKind.i64.wrap (Int.fdiv (IntKind.u64.wrap (IntKind.i64.wrap (a1 + a3))) 2)) + a2)) - x446)))], [(0, some (.row 2 36 (t535.map eBucket)))], 1⟩ [Enters Try.prog 111, Pv.Fn Try.prog 111 [.own 0, iV .i64 x446, iV .i64 a2, iV .i64 (IntKind.i64.wrap ((IntKind.i64.wrap ((IntKind.i64.wrap (Int.fdiv (IntKind.u64.wrap (IntKind.i64.wrap (a1 + a3))) 2)) + a2)) - x446)), .im (.sc (.func (.func 78) #[] #[]))] [(0, some (.row 2 36 (a0.map eBucket)))] 1 (fun r o => r = .tup [] ∧ o = [(0, some (.row 2 36 (t535.map eBucket)))])] (by kernel_rfl) ⟨by exact Try.call111, by exact f_slices_rotateCmpFunc_api_Bucket_hist_tidy_1.ok a0 x446 a2 (IntKind.i64.wrap ((IntKind.i64.wrap ((IntKind.i64.wrap (Int.fdiv (IntKind.u64.wrap (IntKind.i64.wrap (a1 + a3))) 2)) + a2)) - x446)) t535 e536, trivial⟩ ?_
                obtain rfl := Option.some.inj H
                exact Exists.intro _ (And.intro (fun _ _ h => h.conv (inv := [(0, 0)]) (vk := []) (e0 := []) (t := ⟨[(0, .own 0), (1, iV .i64 a1), (3, iV .i64 a3), (4, .im (.sc (.func (.func 78) #[] #[]))), (18, iV .i64 (IntKind.i64.wrap (Int.fdiv (IntKind.u64.wrap (IntKind.i64.wrap (a1 + a3))) 2))), (20, iV .i64 x446), (24, iV .i64 (IntKind.i64.wrap ((IntKind.i64.wrap ((IntKind.i64.wrap (Int.fdiv (IntKind.u64.wrap (IntKind.i64.wrap (a1 + a3))) 2)) + a2)) - x446)))], [(0, some (.row 2 36 (t535.map eBucket)))], 1⟩) (by kernel_rfl)) (And.intro rfl rfl))
              · replace H := (ifF c450).symm.trans H
                refine AWp.skip ?_
                obtain rfl := Option.some.inj H
                exact Exists.intro _ (And.intro (fun _ _ h => h.conv (inv := [(0, 0)]) (vk := []) (e0 := []) (t := ⟨[(0, .own 0), (1, iV .i64 a1), (3, iV .i64 a3), (4, .im (.sc (.func (.func 78) #[] #[]))), (18, iV .i64 (IntKind.i64.wrap (Int.fdiv (IntKind.u64.wrap (IntKind.i64.wrap (a1 + a3))) 2))), (20, iV .i64 x446), (24, iV .i64 (IntKind.i64.wrap ((IntKind.i64.wrap ((IntKind.i64.wrap (Int.fdiv (IntKind.u64.wrap (IntKind.i64.wrap (a1 + a3))) 2)) + a2)) - x446)))], [(0, some (.row 2 36 (a0.map eBucket)))], 1⟩) (by kernel_rfl)) (And.intro rfl rfl))
            · obtain ⟨x537, rfl⟩ : ∃ z, z = o576 := ⟨_, rfl⟩
              rintro e s ⟨rfl, rfl⟩
              refine AWp.seq ?_
              refine AWp.seq ?_
              obtain ⟨o578, e579, H⟩ := bind_of H
              refine AWp.mono (Q := fun e s => (match (generalizing := false) o578 with | x540 => e = .normal ∧ s = ⟨[(0, .own 0), (1, iV .i64 a1), (3, iV .i64 a3), (4, .im (.sc (.func (.func 78) #[] #[]))), (18, iV .i64 (IntKind.i64.wrap (Int.fdiv (IntKind.u64.wrap (IntKind.i64.wrap (a1 + a3))) 2))), (20, iV .i64 x446), (24, iV .i64 (IntKind.i64.wrap ((IntKind.i64.wrap ((IntKind.i64.wrap (Int.fdiv (IntKind.u64.wrap (IntKind.i64.wrap (a1 + a3))) 2)) + a2)) - x446))), (199, bV x540)], [(0, some (.row 2 36 (x537.map eBucket)))], 1⟩)) (AWp.cv ?_) ?_
              · replace H := e579; clear e579
                rcases Bool.eq_false_or_eq_true (decide (a1 < x446)) with c539 | c539
                · replace H := (ifT c539).symm.trans H
                  refine reg hP hn hm [(3, .b true)] [0, 1, 3, 4, 18, 20, 24, 199] [0] ⟨[(0, .own 0), (1, iV .i64 a1), (3, iV .i64 a3), (4, .im (.sc (.func (.func 78) #[] #[]))), (18, iV .i64 (IntKind.i64.wrap (Int.fdiv (IntKind.u64.wrap (IntKind.i64.wrap (a1 + a3))) 2))), (20, iV .i64 x446), (24, iV .i64 (IntKind.i64.wrap ((IntKind.i64.wrap ((IntKind.i64.wrap (Int.fdiv (IntKind.u64.wrap (IntKind.i64.wrap (a1 + a3))) 2)) + a2)) - x446))), (199, bV (decide (x446 < (IntKind.i64.wrap (Int.fdiv (IntKind.u64.wrap (IntKind.i64.wrap (a1 + a3))) 2)))))], [(0, some (.row 2 36 (x537.map eBucket)))], 1⟩ [(decide (a1 < x446)) = true] (by kernel_rfl) ⟨by exact c539, trivial⟩ ?_
                  obtain rfl := Option.some.inj H
                  exact Exists.intro _ (And.intro (fun _ _ h => h.conv (inv := [(0, 0)]) (vk := []) (e0 := []) (t := ⟨[(0, .own 0), (1, iV .i64 a1), (3, iV .i64 a3), (4, .im (.sc (.func (.func 78) #[] #[]))), (18, iV .i64 (IntKind.i64.wrap (Int.fdiv (IntKind.u64.wrap (IntKind.i64.wrap (a1 + a3))) 2))), (20, iV .i64 x446), (24, iV .i64 (IntKind.i64.wrap ((IntKind.i64.wrap ((IntKind.i64.wrap (Int.fdiv (IntKind.u64.wrap (IntKind.i64.wrap (a1 + a3))) 2)) + a2)) - x446))), (199, bV (decide (x446 < (IntKind.i64.wrap (Int.fdiv (IntKind.u64.wrap (IntKind.i64.wrap (a1 + a3))) 2)))))], [(0, some (.row 2 36 (x537.map eBucket)))], 1⟩) (by kernel_rfl)) (And.intro rfl rfl))
                · replace H := (ifF c539).symm.trans H
                  refine reg hP hn hm [(3, .b false)] [0, 1, 3, 4, 18, 20, 24, 199] [0] ⟨[(0, .own 0), (1, iV .i64 a1), (3, iV .i64 a3), (4, .im (.sc (.func (.func 78) #[] #[]))), (18, iV .i64 (IntKind.i64.wrap (Int.fdiv (IntKind.u64.wrap (IntKind.i64.wrap (a1 + a3))) 2))), (20, iV .i64 x446), (24, iV .i64 (IntKind.i64.wrap ((IntKind.i64.wrap ((IntKind.i64.wrap (Int.fdiv (IntKind.u64.wrap (IntKind.i64.wrap (a1 + a3))) 2)) + a2)) - x446))), (199, bV false)], [(0, some (.row 2 36 (x537.map eBucket)))], 1⟩ [(decide (a1 < x446)) = false] (by kernel_rfl) ⟨by exact c539, trivial⟩ ?_
                  obtain rfl := Option.some.inj H
                  exact Exists.intro _ (And.intro (fun _ _ h => h.conv (inv := [(0, 0)]) (vk := []) (e0 := []) (t := ⟨[(0, .own 0), (1, iV .i64 a1), (3, iV .i64 a3), (4, .im (.sc (.func (.func 78) #[] #[]))), (18, iV .i64 (IntKind.i64.wrap (Int.fdiv (IntKind.u64.wrap (IntKind.i64.wrap (a1 + a3))) 2))), (20, iV .i64 x446), (24, iV .i64 (IntKind.i64.wrap ((IntKind.i64.wrap ((IntKind.i64.wrap (Int.fdiv (IntKind.u64.wrap (IntKind.i64.wrap (a1 + a3))) 2)) + a2)) - x446))), (199, bV false)], [(0, some (.row 2 36 (x537.map eBucket)))], 1⟩) (by kernel_rfl)) (And.intro rfl rfl))
              · obtain ⟨x540, rfl⟩ : ∃ z, z = o578 := ⟨_, rfl⟩
                rintro e s ⟨rfl, rfl⟩
                obtain ⟨o580, e581, H⟩ := bind_of H
                refine AWp.mono (Q := fun e s => (match (generalizing := false) o580 with | x546 => e = .normal ∧ s = ⟨[(0, .own 0), (3, iV .i64 a3), (4, .im (.sc (.func (.func 78) #[] #[]))), (18, iV .i64 (IntKind.i64.wrap (Int.fdiv (IntKind.u64.wrap (IntKind.i64.wrap (a1 + a3))) 2))), (24, iV .i64 (IntKind.i64.wrap ((IntKind.i64.wrap ((IntKind.i64.wrap (Int.fdiv (IntKind.u64.wrap (IntKind.i64.wrap (a1 + a3))) 2)) + a2)) - x446)))], [(0, some (.row 2 36 (x546.map eBucket)))], 1⟩)) (AWp.cv ?_) ?_
                · replace H := e581; clear e581
                  refine AWp.cond x540 rfl (fun c541 => ?_) (fun c541 => ?_)
                  · replace H := (ifT c541).symm.trans H
                    obtain ⟨t544, e545, H⟩ := bind_of H
                    refine reg hP hn hm [(5, .call [(0, 0)] [(0, 0)] [] [] 1 (.tup []) [(0, some (.row 2 36 (t544.map eBucket)))])] [0, 3, 4, 18, 24] [0] ⟨[(0, .own 0), (3, iV .i64 a3), (4, .im (.sc (.func (.func 78) #[] #[]))), (18, iV .i64 (IntKind.i64.wrap (Int.fdiv (IntKind.u64.wrap (IntKind.i64.wrap (a1 + a3))) 2))), (24, iV .i64 (IntKind.i64.wrap ((IntKind.i64.wrap ((IntKind.i64.wrap (Int.fdiv (IntKind.u64.wrap (IntKind.i64.wrap (a1 + a3))) 2)) + a2)) - x446)))], [(0, some (.row 2 36 (t544.map eBucket)))], 1⟩ [Enters Try.prog 103, Pv.Fn Try.prog 103 [.own 0, iV .i64 a1, iV .i64 x446, iV .i64 (IntKind.i64.wrap (Int.fdiv (IntKind.u64.wrap (IntKind.i64.wrap (a1 + a3))) 2)), .im (.sc (.func (.func 78) #[] #[]))] [(0, some (.row 2 36 (x537.map eBucket)))] 1 (fun r o => r = .tup [] ∧ o = [(0, some (.row 2 36 (t544.map eBucket)))])] (by kernel_rfl) ⟨by exact Try.call103, by exact ihF x537 a1 x446 (IntKind.i64.wrap (Int.fdiv (IntKind.u64.wrap (IntKind.i64.wrap (a1 + a3))) 2)) _ e545, trivial⟩ ?_
                    obtain rfl := Option.some.inj H
                    exact Exists.intro _ (And.intro (fun _ _ h => h.conv (inv := [(0, 0)]) (vk := []) (e0 := []) (t := ⟨[(0, .own 0), (3, iV .i64 a3), (4, .im (.sc (.func (.func 78) #[] #[]))), (18, iV .i64 (IntKind.i64.wrap (Int.fdiv (IntKind.u64.wrap (IntKind.i64.wrap (a1 + a3))) 2))), (24, iV .i64 (IntKind.i64.wrap ((IntKind.i64.wrap ((IntKind.i64.wrap (Int.fdiv (IntKind.u64.wrap (IntKind.i64.wrap (a1 + a3))) 2)) + a2)) - x446)))], [(0, some (.row 2 36 (t544.map eBucket)))], 1⟩) (by kernel_rfl)) (And.intro rfl rfl))
                  · replace H := (ifF c541).symm.trans H
                    refine AWp.skip ?_
                    obtain rfl := Option.some.inj H
                    exact Exists.intro _ (And.intro (fun _ _ h => h.conv (inv := [(0, 0)]) (vk := []) (e0 := []) (t := ⟨[(0, .own 0), (3, iV .i64 a3), (4, .im (.sc (.func (.func 78) #[] #[]))), (18, iV .i64 (IntKind.i64.wrap (Int.fdiv (IntKind.u64.wrap (IntKind.i64.wrap (a1 + a3))) 2))), (24, iV .i64 (IntKind.i64.wrap ((IntKind.i64.wrap ((IntKind.i64.wrap (Int.fdiv (IntKind.u64.wrap (IntKind.i64.wrap (a1 + a3))) 2)) + a2)) - x446)))], [(0, some (.row 2 36 (x537.map eBucket)))], 1⟩) (by kernel_rfl)) (And.intro rfl rfl))
                · obtain ⟨x546, rfl⟩ : ∃ z, z = o580 := ⟨_, rfl⟩
                  rintro e s ⟨rfl, rfl⟩
                  refine AWp.seq ?_
                  obtain ⟨o582, e583, H⟩ := bind_of H
                  refine AWp.mono (Q := fun e s => (match (generalizing := false) o582 with | x549 => e = .normal ∧ s = ⟨[(0, .own 0), (3, iV .i64 a3), (4, .im (.sc (.func (.func 78) #[] #[]))), (18, iV .i64 (IntKind.i64.wrap (Int.fdiv (IntKind.u64.wrap (IntKind.i64.wrap (a1 + a3))) 2))), (24, iV .i64 (IntKind.i64.wrap ((IntKind.i64.wrap ((IntKind.i64.wrap (Int.fdiv (IntKind.u64.wrap (IntKind.i64.wrap (a1 + a3))) 2)) + a2)) - x446))), (213, bV x549)], [(0, some (.row 2 36 (x546.map eBucket)))], 1⟩)) (AWp.cv ?_) ?_
                  · replace H := e583; clear e583
                    rcases Bool.eq_false_or_eq_true (decide ((IntKind.i64.wrap (Int.fdiv (IntKind.u64.wrap (IntKind.i64.wrap (a1 + a3))) 2)) < (IntKind.i64.wrap ((IntKind.i64.wrap ((IntKind.i64.wrap (Int.fdiv (IntKind.u64.wrap (IntKind.i64.wrap (a1 + a3))) 2)) + a2)) - x446)))) with c548 | c548
                    · replace H := (ifT c548).symm.trans H
                      refine reg hP hn hm [(3, .b true)] [0, 3, 4, 18, 24, 213] [0] ⟨[(0, .own 0), (3, iV .i64 a3), (4, .im (.sc (.func (.func 78) #[] #[]))), (18, iV .i64 (IntKind.i64.wrap (Int.fdiv (IntKind.u64.wrap (IntKind.i64.wrap (a1 + a3))) 2))), (24, iV .i64 (IntKind.i64.wrap ((IntKind.i64.wrap ((IntKind.i64.wrap (Int.fdiv (IntKind.u64.wrap (IntKind.i64.wrap (a1 + a3))) 2)) + a2)) - x446))), (213, bV (decide ((IntKind.i64.wrap ((IntKind.i64.wrap ((IntKind.i64.wrap (Int.fdiv (IntKind.u64.wrap (IntKind.i64.wrap (a1 + a3))) 2)) + a2)) - x446)) < a3)))], [(0, some (.row 2 36 (x546.map eBucket)))], 1⟩ [(decide ((IntKind.i64.wrap (Int.fdiv (IntKind.u64.wrap (IntKind.i64.wrap (a1 + a3))) 2)) < (IntKind.i64.wrap ((IntKind.i64.wrap ((IntKind.i64.wrap (Int.fdiv (IntKind.u64.wrap (IntKind.i64.wrap (a1 + a3))) 2)) + a2)) - x446)))) = true] (by kernel_rfl) ⟨by exact c548, trivial⟩ ?_
                      obtain rfl := Option.some.inj H
                      exact Exists.intro _ (And.intro (fun _ _ h => h.conv (inv := [(0, 0)]) (vk := []) (e0 := []) (t := ⟨[(0, .own 0), (3, iV .i64 a3), (4, .im (.sc (.func (.func 78) #[] #[]))), (18, iV .i64 (IntKind.i64.wrap (Int.fdiv (IntKind.u64.wrap (IntKind.i64.wrap (a1 + a3))) 2))), (24, iV .i64 (IntKind.i64.wrap ((IntKind.i64.wrap ((IntKind.i64.wrap (Int.fdiv (IntKind.u64.wrap (IntKind.i64.wrap (a1 + a3))) 2)) + a2)) - x446))), (213, bV (decide ((IntKind.i64.wrap ((IntKind.i64.wrap ((IntKind.i64.wrap (Int.fdiv (IntKind.u64.wrap (IntKind.i64.wrap (a1 + a3))) 2)) + a2)) - x446)) < a3)))], [(0, some (.row 2 36 (x546.map eBucket)))], 1⟩) (by kernel_rfl)) (And.intro rfl rfl))
                    · replace H := (ifF c548).symm.trans H
                      refine reg hP hn hm [(3, .b false)] [0, 3, 4, 18, 24, 213] [0] ⟨[(0, .own 0), (3, iV .i64 a3), (4, .im (.sc (.func (.func 78) #[] #[]))), (18, iV .i64 (IntKind.i64.wrap (Int.fdiv (IntKind.u64.wrap (IntKind.i64.wrap (a1 + a3))) 2))), (24, iV .i64 (IntKind.i64.wrap ((IntKind.i64.wrap ((IntKind.i64.wrap (Int.fdiv (IntKind.u64.wrap (IntKind.i64.wrap (a1 + a3))) 2)) + a2)) - x446))), (213, bV false)], [(0, some (.row 2 36 (x546.map eBucket)))], 1⟩ [(decide ((IntKind.i64.wrap (Int.fdiv (IntKind.u64.wrap (IntKind.i64.wrap (a1 + a3))) 2)) < (IntKind.i64.wrap ((IntKind.i64.wrap ((IntKind.i64.wrap (Int.fdiv (IntKind.u64.wrap (IntKind.i64.wrap (a1 + a3))) 2)) + a2)) - x446)))) = false] (by kernel_rfl) ⟨by exact c548, trivial⟩ ?_
                      obtain rfl := Option.some.inj H
                      exact Exists.intro _ (And.intro (fun _ _ h => h.conv (inv := [(0, 0)]) (vk := []) (e0 := []) (t := ⟨[(0, .own 0), (3, iV .i64 a3), (4, .im (.sc (.func (.func 78) #[] #[]))), (18, iV .i64 (IntKind.i64.wrap (Int.fdiv (IntKind.u64.wrap (IntKind.i64.wrap (a1 + a3))) 2))), (24, iV .i64 (IntKind.i64.wrap ((IntKind.i64.wrap ((IntKind.i64.wrap (Int.fdiv (IntKind.u64.wrap (IntKind.i64.wrap (a1 + a3))) 2)) + a2)) - x446))), (213, bV false)], [(0, some (.row 2 36 (x546.map eBucket)))], 1⟩) (by kernel_rfl)) (And.intro rfl rfl))
                  · obtain ⟨x549, rfl⟩ : ∃ z, z = o582 := ⟨_, rfl⟩
                    rintro e s ⟨rfl, rfl⟩
                    obtain ⟨o584, e585, H⟩ := bind_of H
                    refine AWp.mono (Q := fun e s => (match (generalizing := false) o584 with | x555 => e = .normal ∧ s = ⟨[], [(0, some (.row 2 36 (x555.map eBucket)))], 1⟩)) (AWp.cv ?_) ?_
                    · replace H := e585; clear e585
                      refine AWp.cond x549 rfl (fun c550 => ?_) (fun c550 => ?_)
                      · replace H := (ifT c550).symm.trans H
                        obtain ⟨t553, e554, H⟩ := bind_of H
                        refine reg hP hn hm [(5, .call [(0, 0)] [(0, 0)] [] [] 1 (.tup []) [(0, some (.row 2 36 (t553.map eBucket)))])] [] [0] ⟨[], [(0, some (.row 2 36 (t553.map eBucket)))], 1⟩ [Enters Try.prog 103, Pv.Fn Try.prog 103 [.own 0, iV .i64 (IntKind.i64.wrap (Int.fdiv (IntKind.u64.wrap (IntKind.i64.wrap (a1 + a3))) 2)), iV .i64 (IntKind.i64.wrap ((IntKind.i64.wrap ((IntKind.i64.wrap (Int.fdiv (IntKind.u64.wrap (IntKind.i64.wrap (a1 + a3))) 2)) + a2)) - x446)), iV .i64 a3, .im (.sc (.func (.func 78) #[] #[]))] [(0, some (.row 2 36 (x546.map eBucket)))] 1 (fun r o => r = .tup [] ∧ o = [(0, some (.row 2 36 (t553.map eBucket)))])] (by kernel_rfl) ⟨by exact Try.call103, by exact ihF x546 (IntKind.i64.wrap (Int.fdiv (IntKind.u64.wrap (IntKind.i64.wrap (a1 + a3))) 2)) (IntKind.i64.wrap ((IntKind.i64.wrap ((IntKind.i64.wrap (Int.fdiv (IntKind.u64.wrap (IntKind.i64.wrap (a1 + a3))) 2)) + a2)) - x446)) a3 _ e554, trivial⟩ ?_
                        obtain rfl := Option.some.inj H
                        exact Exists.intro _ (And.intro (fun _ _ h => h.conv (inv := [(0, 0)]) (vk := []) (e0 := []) (t := ⟨[], [(0, some (.row 2 36 (t553.map eBucket)))], 1⟩) (by kernel_rfl)) (And.intro rfl rfl))
                      · replace H := (ifF c550).symm.trans H
                        refine AWp.skip ?_
                        obtain rfl := Option.some.inj H
                        exact Exists.intro _ (And.intro (fun _ _ h => h.conv (inv := [(0, 0)]) (vk := []) (e0 := []) (t := ⟨[], [(0, some (.row 2 36 (x546.map eBucket)))], 1⟩) (by kernel_rfl)) (And.intro rfl rfl))
                    · obtain ⟨x555, rfl⟩ : ∃ z, z = o584 := ⟨_, rfl⟩
                      rintro e s ⟨rfl, rfl⟩
                      obtain rfl := Option.some.inj H
                      exact Exists.intro ⟨[], [(0, some (.row 2 36 (x555.map eBucket)))], 1⟩ (And.intro (fun _ _ h => h.conv (inv := [(0, 0)]) (vk := []) (e0 := []) (t := ⟨[], [(0, some (.row 2 36 (x555.map eBucket)))], 1⟩) (by kernel_rfl)) (And.intro (.inr rfl) (And.intro rfl (And.intro (by kernel_rfl) (by kernel_rfl)))))
def f_slices_stableCmpFunc_api_Bucket_hist_tidy_1.l0 (a1 : Int) (x215 : List TBucket) (x216 : Int) (x217 : Int) : Option ((List TBucket) × Int) := if (decide (x217 ≤ a1)) = true then ((f_slices_insertionSortCmpFunc_api_Bucket_hist_tidy_1.f x215 x216 x217) >>= fun t221 => f_slices_stableCmpFunc_api_Bucket_hist_tidy_1.l0 a1 t221 x217 (IntKind.i64.wrap (x217 + (20 : Int)))) else (some (x215, x216))
partial_fixpoint
def f_slices_stableCmpFunc_api_Bucket_hist_tidy_1.l2 (a1 : Int) (x607 : Int) (x614 : List TBucket) (x615 : Int) (x616 : Int) : Option ((List TBucket) × Int) := if (decide (x616 ≤ a1)) = true then ((f_slices_symMergeCmpFunc_api_Bucket_hist_tidy_1.f x614 x615 (IntKind.i64.wrap (x615 + x607)) x616) >>= fun t620 => f_slices_stableCmpFunc_api_Bucket_hist_tidy_1.l2 a1 x607 t620 x616 (IntKind.i64.wrap (x616 + (IntKind.i64.wrap ((2 : Int) * x607))))) else (some (x614, x615))
partial_fixpoint
def f_slices_stableCmpFunc_api_Bucket_hist_tidy_1.l1 (a1 : Int) (x606 : List TBucket) (x607 : Int) : Option (List TBucket) := if (decide (x607 < a1)) = true then ((f_slices_stableCmpFunc_api_Bucket_hist_tidy_1.l2 a1 x607 x606 0 (IntKind.i64.wrap ((2 : Int) * x607))) >>= fun oo => match oo with | (x622, x623) => (((if (decide ((IntKind.i64.wrap (x623 + x607)) < a1)) = true then ((f_slices_symMergeCmpFunc_api_Bucket_hist_tidy_1.f x622 x623 (IntKind.i64.wrap (x623 + x607)) a1) >>= fun t627 => some t627) else (some x622)) : Option (List TBucket)) >>= fun x629 => f_slices_stableCmpFunc_api_Bucket_hist_tidy_1.l1 a1 x629 (IntKind.i64.wrap (x607 * (2 : Int))))) else (some x606)
partial_fixpoint
def f_slices_stableCmpFunc_api_Bucket_hist_tidy_1.f (a0 : List TBucket) (a1 : Int) : Option (List TBucket) := (f_slices_stableCmpFunc_api_Bucket_hist_tidy_1.l0 a1 a0 0 20) >>= fun oo => match oo with | (x223, x224) => ((f_slices_insertionSortCmpFunc_api_Bucket_hist_tidy_1.f x223 x224 a1) >>= fun t227 => (f_slices_stableCmpFunc_api_Bucket_hist_tidy_1.l1 a1 t227 20) >>= fun x630 => some x630)
theorem f_slices_stableCmpFunc_api_Bucket_hist_tidy_1.ok (a0 : List TBucket) (a1 : Int) (r : List TBucket) (H : f_slices_stableCmpFunc_api_Bucket_hist_tidy_1.f a0 a1 = some r) : Pv.Fn Try.prog 92 [.own 0, iV .i64 a1, .im (.sc (.func (.func 78) #[] #[]))] [(0, some (.row 2 36 (a0.map eBucket)))] 1 (fun x o => x = .tup [] ∧ o = [(0, some (.row 2 36 (r.map eBucket)))]) := by
  unfold f_slices_stableCmpFunc_api_Bucket_hist_tidy_1.f at H
  refine Fn.bodyK [0] Try.func92 rfl rfl (fun Γ hP hn => ?_)
  have hm : Try.prog.follows .mixedOrders = true := by kernel_rfl
  replace hn : Γ.n = 63 := hn
  refine AWp.seq ?_
  refine reg hP hn hm [] [0, 1, 2, 6] [0] ⟨[(0, .own 0), (1, iV .i64 a1), (2, .im (.sc (.func (.func 78) #[] #[]))), (6, iV .i64 20)], [(0, some (.row 2 36 (a0.map eBucket)))], 1⟩ [] (by kernel_rfl) trivial ?_
  refine AWp.seq ?_
  refine reg hP hn hm [] [0, 1, 2, 6, 7, 8] [0] ⟨[(0, .own 0), (1, iV .i64 a1), (2, .im (.sc (.func (.func 78) #[] #[]))), (6, iV .i64 20), (7, iV .i64 0), (8, iV .i64 20)], [(0, some (.row 2 36 (a0.map eBucket)))], 1⟩ [] (by kernel_rfl) trivial ?_
  refine AWp.seq ?_
  refine AWp.block ?_
  obtain ⟨o631, e632, H⟩ := bind_of H
  refine AWp.loop (LWp.conv (inv := [(0, 0)]) (vk := []) (e0 := []) (t := ⟨[(0, .own 0), (1, iV .i64 a1), (2, .im (.sc (.func (.func 78) #[] #[]))), (6, iV .i64 20), (7, iV .i64 0), (8, iV .i64 20)], [(0, some (.row 2 36 (a0.map eBucket)))], 1⟩) (by kernel_rfl) ?_)
  refine LWp.mono (Q := fun e s => (match (generalizing := false) o631 with | (x223, x224) => e = .exit 0 ∧ s = ⟨[(0, .own 0), (1, iV .i64 a1), (2, .im (.sc (.func (.func 78) #[] #[]))), (6, iV .i64 20), (7, iV .i64 x224)], [(0, some (.row 2 36 (x223.map eBucket)))], 1⟩)) (LWp.cv (withBody (fun body hbody => ?_))) ?_
  · refine f_slices_stableCmpFunc_api_Bucket_hist_tidy_1.l0.partial_correctness a1 (motive := fun x215 x216 x217 o631 => LWp Γ body (fun e s => ∃ t, Cv Γ s t ∧ (match (generalizing := false) o631 with | (x223, x224) => e = .exit 0 ∧ t = ⟨[(0, .own 0), (1, iV .i64 a1), (2, .im (.sc (.func (.func 78) #[] #[]))), (6, iV .i64 20), (7, iV .i64 x224)], [(0, some (.row 2 36 (x223.map eBucket)))], 1⟩)) ⟨[(0, .own 0), (1, iV .i64 a1), (2, .im (.sc (.func (.func 78) #[] #[]))), (6, iV .i64 20), (7, iV .i64 x216), (8, iV .i64 x217)], [(0, some (.row 2 36 (x215.map eBucket)))], 1⟩) ?_ _ _ _ _ e632
    clear H e632 o631; intro self ih x215 x216 x217 o631 H
    subst hbody
    refine LWp.round ?_
    refine AWp.seq ?_
    refine AWp.seq ?_
    refine reg hP hn hm [] [0, 1, 2, 6, 7, 8, 13] [0] ⟨[(0, .own 0), (1, iV .i64 a1), (2, .im (.sc (.func (.func 78) #[] #[]))), (6, iV .i64 20), (7, iV .i64 x216), (8, iV .i64 x217), (13, bV (decide (x217 ≤ a1)))], [(0, some (.row 2 36 (x215.map eBucket)))], 1⟩ [] (by kernel_rfl) trivial ?_
    refine AWp.cond (decide (x217 ≤ a1)) rfl (fun c218 => ?_) (fun c218 => ?_)
    · replace H := (ifT c218).symm.trans H
      refine AWp.skip ?_
      refine AWp.block ?_
      refine AWp.seq ?_
      obtain ⟨t221, e222, H⟩ := bind_of H
      refine reg hP hn hm [(4, .call [(0, 0)] [(0, 0)] [] [] 1 (.tup []) [(0, some (.row 2 36 (t221.map eBucket)))])] [0, 1, 2, 6, 8] [0] ⟨[(0, .own 0), (1, iV .i64 a1), (2, .im (.sc (.func (.func 78) #[] #[]))), (6, iV .i64 20), (8, iV .i64 x217)], [(0, some (.row 2 36 (t221.map eBucket)))], 1⟩ [Enters Try.prog 102, Pv.Fn Try.prog 102 [.own 0, iV .i64 x216, iV .i64 x217, .im (.sc (.func (.func 78) #[] #[]))] [(0, some (.row 2 36 (x215.map eBucket)))] 1 (fun r o => r = .tup [] ∧ o = [(0, some (.row 2 36 (t221.map eBucket)))])] (by kernel_rfl) ⟨by exact Try.call102, by exact f_slices_insertionSortCmpFunc_api_Bucket_hist_tidy_1.ok x215 x216 x217 t221 e222, trivial⟩ ?_
      refine AWp.seq ?_
      refine reg hP hn hm [] [0, 1, 2, 6, 7, 8] [0] ⟨[(0, .own 0), (1, iV .i64 a1), (2, .im (.sc (.func (.func 78) #[] #[]))), (6, iV .i64 20), (7, iV .i64 x217), (8, iV .i64 x217)], [(0, some (.row 2 36 (t221.map eBucket)))], 1⟩ [] (by kernel_rfl) trivial ?_
      refine reg hP hn hm [] [0, 1, 2, 6, 7, 8] [0] ⟨[(0, .own 0), (1, iV .i64 a1), (2, .im (.sc (.func (.func 78) #[] #[]))), (6, iV .i64 20), (7, iV .i64 x217), (8, iV .i64 (IntKind.i64.wrap (x217 + (20 : Int))))], [(0, some (.row 2 36 (t221.map eBucket)))], 1⟩ [] (by kernel_rfl) trivial ?_
      exact LWp.conv (inv := [(0, 0)]) (vk := []) (e0 := []) (t := ⟨[(0, .own 0), (1, iV .i64 a1), (2, .im (.sc (.func (.func 78) #[] #[]))), (6, iV .i64 20), (7, iV .i64 x217), (8, iV .i64 (IntKind.i64.wrap (x217 + (20 : Int))))], [(0, some (.row 2 36 (t221.map eBucket)))], 1⟩) (by kernel_rfl) (ih _ _ _ _ H)
    · replace H := (ifF c218).symm.trans H
      refine AWp.exit ?_
      obtain rfl := Option.some.inj H
      exact Exists.intro _ (And.intro (fun _ _ h => h.conv (inv := [(0, 0)]) (vk := []) (e0 := []) (t := ⟨[(0, .own 0), (1, iV .i64 a1), (2, .im (.sc (.func (.func 78) #[] #[]))), (6, iV .i64 20), (7, iV .i64 x216)], [(0, some (.row 2 36 (x215.map eBucket)))], 1⟩) (by kernel_rfl)) (And.intro rfl rfl))
  · obtain ⟨x223, x224⟩ := o631
    rintro e s ⟨rfl, rfl⟩
    refine AWp.seq ?_
    obtain ⟨t227, e228, H⟩ := bind_of H
    refine reg hP hn hm [(4, .call [(0, 0)] [(0, 0)] [] [] 1 (.tup []) [(0, some (.row 2 36 (t227.map eBucket)))])] [0, 1, 2, 6] [0] ⟨[(0, .own 0), (1, iV .i64 a1), (2, .im (.sc (.func (.func 78) #[] #[]))), (6, iV .i64 20)], [(0, some (.row 2 36 (t227.map eBucket)))], 1⟩ [Enters Try.prog 102, Pv.Fn Try.prog 102 [.own 0, iV .i64 x224, iV .i64 a1, .im (.sc (.func (.func 78) #[] #[]))] [(0, some (.row 2 36 (x223.map eBucket)))] 1 (fun r o => r = .tup [] ∧ o = [(0, some (.row 2 36 (t227.map eBucket)))])] (by kernel_rfl) ⟨by exact Try.call102, by exact f_slices_insertionSortCmpFunc_api_Bucket_hist_tidy_1.ok x223 x224 a1 t227 e228, trivial⟩ ?_
    refine AWp.block ?_
    obtain ⟨o633, e634, H⟩ := bind_of H
    refine AWp.loop (LWp.conv (inv := [(0, 0)]) (vk := []) (e0 := []) (t := ⟨[(0, .own 0), (1, iV .i64 a1), (2, .im (.sc (.func (.func 78) #[] #[]))), (6, iV .i64 20)], [(0, some (.row 2 36 (t227.map eBucket)))], 1⟩) (by kernel_rfl) ?_)
    refine LWp.mono (Q := fun e s => (match (generalizing := false) o633 with | x630 => e = .exit 2 ∧ s = ⟨[], [(0, some (.row 2 36 (x630.map eBucket)))], 1⟩)) (LWp.cv (withBody (fun body hbody => ?_))) ?_
    · refine f_slices_stableCmpFunc_api_Bucket_hist_tidy_1.l1.partial_correctness a1 (motive := fun x606 x607 o633 => LWp Γ body (fun e s => ∃ t, Cv Γ s t ∧ (match (generalizing := false) o633 with | x630 => e = .exit 2 ∧ t = ⟨[], [(0, some (.row 2 36 (x630.map eBucket)))], 1⟩)) ⟨[(0, .own 0), (1, iV .i64 a1), (2, .im (.sc (.func (.func 78) #[] #[]))), (6, iV .i64 x607)], [(0, some (.row 2 36 (x606.map eBucket)))], 1⟩) ?_ _ _ _ e634
      clear H e634 o633; intro self ih x606 x607 o633 H
      subst hbody
      refine LWp.round ?_
      refine AWp.seq ?_
      refine AWp.seq ?_
      refine reg hP hn hm [] [0, 1, 2, 6, 30] [0] ⟨[(0, .own 0), (1, iV .i64 a1), (2, .im (.sc (.func (.func 78) #[] #[]))), (6, iV .i64 x607), (30, bV (decide (x607 < a1)))], [(0, some (.row 2 36 (x606.map eBucket)))], 1⟩ [] (by kernel_rfl) trivial ?_
      refine AWp.cond (decide (x607 < a1)) rfl (fun c608 => ?_) (fun c608 => ?_)
      · replace H := (ifT c608).symm.trans H
        refine AWp.skip ?_
        refine AWp.block ?_
        refine AWp.seq ?_
        refine reg hP hn hm [] [0, 1, 2, 6, 7, 8] [0] ⟨[(0, .own 0), (1, iV .i64 a1), (2, .im (.sc (.func (.func 78) #[] #[]))), (6, iV .i64 x607), (7, iV .i64 0), (8, iV .i64 (IntKind.i64.wrap ((2 : Int) * x607)))], [(0, some (.row 2 36 (x606.map eBucket)))], 1⟩ [] (by kernel_rfl) trivial ?_
        refine AWp.seq ?_
        refine AWp.block ?_
        obtain ⟨o635, e636, H⟩ := bind_of H
        refine AWp.loop (LWp.conv (inv := [(0, 0)]) (vk := []) (e0 := []) (t := ⟨[(0, .own 0), (1, iV .i64 a1), (2, .im (.sc (.func (.func 78) #[] #[]))), (6, iV .i64 x607), (7, iV .i64 0), (8, iV .i64 (IntKind.i64.wrap ((2 : Int) * x607)))], [(0, some (.row 2 36 (x606.map eBucket)))], 1⟩) (by kernel_rfl) ?_)
        refine LWp.mono (Q := fun e s => (match (generalizing := false) o635 with | (x622, x623) => e = .exit 4 ∧ s = ⟨[(0, .own 0), (1, iV .i64 a1), (2, .im (.sc (.func (.func 78) #[] #[]))), (6, iV .i64 x607), (7, iV .i64 x623)], [(0, some (.row 2 36 (x622.map eBucket)))], 1⟩)) (LWp.cv (withBody (fun body hbody => ?_))) ?_
        · refine f_slices_stableCmpFunc_api_Bucket_hist_tidy_1.l2.partial_correctness a1 x607 (motive := fun x614 x615 x616 o635 => LWp Γ body (fun e s => ∃ t, Cv Γ s t ∧ (match (generalizing := false) o635 with | (x622, x623) => e = .exit 4 ∧ t = ⟨[(0, .own 0), (1, iV .i64 a1), (2, .im (.sc (.func (.func 78) #[] #[]))), (6, iV .i64 x607), (7, iV .i64 x623)], [(0, some (.row 2 36 (x622.map eBucket)))], 1⟩)) ⟨[(0, .own 0), (1, iV .i64 a1), (2, .im (.sc (.func (.func 78) #[] #[]))), (6, iV .i64 x607), (7, iV .i64 x615), (8, iV .i64 x616)], [(0, some (.row 2 36 (x614.map eBucket)))], 1⟩) ?_ _ _ _ _ e636
          clear H e636 o635; intro self ih x614 x615 x616 o635 H
          subst hbody
          refine LWp.round ?_
          refine AWp.seq ?_
          refine AWp.seq ?_
          refine reg hP hn hm [] [0, 1, 2, 6, 7, 8, 35] [0] ⟨[(0, .own 0), (1, iV .i64 a1), (2, .im (.sc (.func (.func 78) #[] #[]))), (6, iV .i64 x607), (7, iV .i64 x615), (8, iV .i64 x616), (35, bV (decide (x616 ≤ a1)))], [(0, some (.row 2 36 (x614.map eBucket)))], 1⟩ [] (by kernel_rfl) trivial ?_
          refine AWp.cond (decide (x616 ≤ a1)) rfl (fun c617 => ?_) (fun c617 => ?_)
          · replace H := (ifT c617).symm.trans H
            refine AWp.skip ?_
            refine AWp.block ?_
            refine AWp.seq ?_
            obtain ⟨t620, e621, H⟩ := bind_of H
            refine reg hP hn hm [(7, .call [(0, 0)] [(0, 0)] [] [] 1 (.tup []) [(0, some (.row 2 36 (t620.map eBucket)))])] [0, 1, 2, 6, 8] [0] ⟨[(0, .own 0), (1, iV .i64 a1), (2, .im (.sc (.func (.func 78) #[] #[]))), (6, iV .i64 x607), (8, iV .i64 x616)], [(0, some (.row 2 36 (t620.map eBucket)))], 1⟩ [Enters Try.prog 103, Pv.Fn Try.prog 103 [.own 0, iV .i64 x615, iV .i64 (IntKind.i64.wrap (x615 + x607)), iV .i64 x616, .im (.sc (.func (.func 78) #[] #[]))] [(0, some (.row 2 36 (x614.map eBucket)))] 1 (fun r o => r = .tup [] ∧ o = [(0, some (.row 2 36 (t620.map eBucket)))])] (by kernel_rfl) ⟨by exact Try.call103, by exact f_slices_symMergeCmpFunc_api_Bucket_hist_tidy_1.ok x614 x615 (IntKind.i64.wrap (x615 + x607)) x616 t620 e621, trivial⟩ ?_
            refine AWp.seq ?_
            refine reg hP hn hm [] [0, 1, 2, 6, 7, 8] [0] ⟨[(0, .own 0), (1, iV .i64 a1), (2, .im (.sc (.func (.func 78) #[] #[]))), (6, iV .i64 x607), (7, iV .i64 x616), (8, iV .i64 x616)], [(0, some (.row 2 36 (t620.map eBucket)))], 1⟩ [] (by kernel_rfl) trivial ?_
            refine reg hP hn hm [] [0, 1, 2, 6, 7, 8] [0] ⟨[(0, .own 0), (1, iV .i64 a1), (2, .im (.sc (.func (.func 78) #[] #[]))), (6, iV .i64 x607), (7, iV .i64 x616), (8, iV .i64 (IntKind.i64.wrap (x616 + (IntKind.i64.wrap ((2 : Int) * x607)))))], [(0, some (.row 2 36 (t620.map eBucket)))], 1⟩ [] (by kernel_rfl) trivial ?_
            exact LWp.conv (inv := [(0, 0)]) (vk := []) (e0 := []) (t := ⟨[(0, .own 0), (1, iV .i64 a1), (2, .im (.sc (.func (.func 78) #[] #[]))), (6, iV .i64 x607), (7, iV .i64 x616), (8, iV .i64 (IntKind.i64.wrap (x616 + (IntKind.i64.wrap ((2 : Int) * x607)))))], [(0, some (.row 2 36 (t620.map eBucket)))], 1⟩) (by kernel_rfl) (ih _ _ _ _ H)
          · replace H := (ifF c617).symm.trans H
            refine AWp.exit ?_
            obtain rfl := Option.some.inj H
            exact Exists.intro _ (And.intro (fun _ _ h => h.conv (inv := [(0, 0)]) (vk := []) (e0 := []) (t := ⟨[(0, .own 0), (1, iV .i64 a1), (2, .im (.sc (.func (.func 78) #[] #[]))), (6, iV .i64 x607), (7, iV .i64 x615)], [(0, some (.row 2 36 (x614.map eBucket)))], 1⟩) (by kernel_rfl)) (And.intro rfl rfl))
        · obtain ⟨x622, x623⟩ := o635
          rintro e s ⟨rfl, rfl⟩
          refine AWp.seq ?_
          refine AWp.seq ?_
          refine reg hP hn hm [] [0, 1, 2, 6, 7, 9] [0] ⟨[(0, .own 0), (1, iV .i64 a1), (2, .im (.sc (.func (.func 78) #[] #[]))), (6, iV .i64 x607), (7, iV .i64 x623), (9, iV .i64 (IntKind.i64.wrap (x623 + x607)))], [(0, some (.row 2 36 (x622.map eBucket)))], 1⟩ [] (by kernel_rfl) trivial ?_
          refine AWp.seq ?_
          refine reg hP hn hm [] [0, 1, 2, 6, 7, 9, 54] [0] ⟨[(0, .own 0), (1, iV .i64 a1), (2, .im (.sc (.func (.func 78) #[] #[]))), (6, iV .i64 x607), (7, iV .i64 x623), (9, iV .i64 (IntKind.i64.wrap (x623 + x607))), (54, bV (decide ((IntKind.i64.wrap (x623 + x607)) < a1)))], [(0, some (.row 2 36 (x622.map eBucket)))], 1⟩ [] (by kernel_rfl) trivial ?_
          obtain ⟨o637, e638, H⟩ := bind_of H
          refine AWp.mono (Q := fun e s => (match (generalizing := false) o637 with | x629 => e = .normal ∧ s = ⟨[(0, .own 0), (1, iV .i64 a1), (2, .im (.sc (.func (.func 78) #[] #[]))), (6, iV .i64 x607)], [(0, some (.row 2 36 (x629.map eBucket)))], 1⟩)) (AWp.cv ?_) ?_
          · replace H := e638; clear e638
            refine AWp.cond (decide ((IntKind.i64.wrap (x623 + x607)) < a1)) rfl (fun c624 => ?_) (fun c624 => ?_)
            · replace H := (ifT c624).symm.trans H
              obtain ⟨t627, e628, H⟩ := bind_of H
              refine reg hP hn hm [(5, .call [(0, 0)] [(0, 0)] [] [] 1 (.tup []) [(0, some (.row 2 36 (t627.map eBucket)))])] [0, 1, 2, 6] [0] ⟨[(0, .own 0), (1, iV .i64 a1), (2, .im (.sc (.func (.func 78) #[] #[]))), (6, iV .i64 x607)], [(0, some (.row 2 36 (t627.map eBucket)))], 1⟩ [Enters Try.prog 103, Pv.Fn Try.prog 103 [.own 0, iV .i64 x623, iV .i64 (IntKind.i64.wrap (x623 + x607)), iV .i64 a1, .im (.sc (.func (.func 78) #[] #[]))] [(0, some (.row 2 36 (x622.map eBucket)))] 1 (fun r o => r = .tup [] ∧ o = [(0, some (.row 2 36 (t627.map eBucket)))])] (by kernel_rfl) ⟨by exact Try.call103, by exact f_slices_symMergeCmpFunc_api_Bucket_hist_tidy_1.ok x622 x623 (IntKind.i64.wrap (x623 + x607)) a1 t627 e628, trivial⟩ ?_
              obtain rfl := Option.some.inj H
              exact Exists.intro _ (And.intro (fun _ _ h => h.conv (inv := [(0, 0)]) (vk := []) (e0 := []) (t := ⟨[(0, .own 0), (1, iV .i64 a1), (2, .im (.sc (.func (.func 78) #[] #[]))), (6, iV .i64 x607)], [(0, some (.row 2 36 (t627.map eBucket)))], 1⟩) (by kernel_rfl)) (And.intro rfl rfl))
            · replace H := (ifF c624).symm.trans H
              refine AWp.skip ?_
              obtain rfl := Option.some.inj H
              exact Exists.intro _ (And.intro (fun _ _ h => h.conv (inv := [(0, 0)]) (vk := []) (e0 := []) (t := ⟨[(0, .own 0), (1, iV .i64 a1), (2, .im (.sc (.func (.func 78) #[] #[]))), (6, iV .i64 x607)], [(0, some (.row 2 36 (x622.map eBucket)))], 1⟩) (by kernel_rfl)) (And.intro rfl rfl))
          · obtain ⟨x629, rfl⟩ : ∃ z, z = o637 := ⟨_, rfl⟩
            rintro e s ⟨rfl, rfl⟩
            refine reg hP hn hm [] [0, 1, 2, 6] [0] ⟨[(0, .own 0), (1, iV .i64 a1), (2, .im (.sc (.func (.func 78) #[] #[]))), (6, iV .i64 (IntKind.i64.wrap (x607 * (2 : Int))))], [(0, some (.row 2 36 (x629.map eBucket)))], 1⟩ [] (by kernel_rfl) trivial ?_
            exact LWp.conv (inv := [(0, 0)]) (vk := []) (e0 := []) (t := ⟨[(0, .own 0), (1, iV .i64 a1), (2, .im (.sc (.func (.func 78) #[] #[]))), (6, iV .i64 (IntKind.i64.wrap (x607 * (2 : Int))))], [(0, some (.row 2 36 (x629.map eBucket)))], 1⟩) (by kernel_rfl) (ih _ _ _ H)
      · replace H := (ifF c608).symm.trans H
        refine AWp.exit ?_
        obtain rfl := Option.some.inj H
        exact Exists.intro _ (And.intro (fun _ _ h => h.conv (inv := [(0, 0)]) (vk := []) (e0 := []) (t := ⟨[], [(0, some (.row 2 36 (x606.map eBucket)))], 1⟩) (by kernel_rfl)) (And.intro rfl rfl))
    · obtain ⟨x630, rfl⟩ : ∃ z, z = o633 := ⟨_, rfl⟩
      rintro e s ⟨rfl, rfl⟩
      obtain rfl := Option.some.inj H
      exact Exists.intro ⟨[], [(0, some (.row 2 36 (x630.map eBucket)))], 1⟩ (And.intro (fun _ _ h => h.conv (inv := [(0, 0)]) (vk := []) (e0 := []) (t := ⟨[], [(0, some (.row 2 36 (x630.map eBucket)))], 1⟩) (by kernel_rfl)) (And.intro (.inr rfl) (And.intro rfl (And.intro (by kernel_rfl) (by kernel_rfl)))))
def f_slices_SortStableFunc_api_Bucket_hist_tidy_1.f (a0 : List TBucket) : Option (List TBucket) := (f_slices_stableCmpFunc_api_Bucket_hist_tidy_1.f a0 (a0.length : Int)) >>= fun t641 => some t641
theorem f_slices_SortStableFunc_api_Bucket_hist_tidy_1.ok (a0 : List TBucket) (r : List TBucket) (H : f_slices_SortStableFunc_api_Bucket_hist_tidy_1.f a0 = some r) : Pv.Fn Try.prog 77 [.own 0, .im (.sc (.func (.func 78) #[] #[]))] [(0, some (.row 2 36 (a0.map eBucket)))] 1 (fun x o => x = .tup [] ∧ o = [(0, some (.row 2 36 (r.map eBucket)))]) := by
  unfold f_slices_SortStableFunc_api_Bucket_hist_tidy_1.f at H
  refine Fn.bodyK [0] Try.func77 rfl rfl (fun Γ hP hn => ?_)
  have hm : Try.prog.follows .mixedOrders = true := by kernel_rfl
  replace hn : Γ.n = 9 := hn
  obtain ⟨t641, e642, H⟩ := bind_of H
  refine reg hP hn hm [(2, .any (iV .i64 (a0.length : Int))), (4, .call [(0, 0)] [(0, 0)] [] [] 1 (.tup []) [(0, some (.row 2 36 (t641.map eBucket)))])] [] [0] ⟨[], [(0, some (.row 2 36 (t641.map eBucket)))], 1⟩ [((a0.map eBucket).length : Int) = (a0.length : Int), Enters Try.prog 92, Pv.Fn Try.prog 92 [.own 0, iV .i64 (a0.length : Int), .im (.sc (.func (.func 78) #[] #[]))] [(0, some (.row 2 36 (a0.map eBucket)))] 1 (fun r o => r = .tup [] ∧ o = [(0, some (.row 2 36 (t641.map eBucket)))])] (by kernel_rfl) ⟨by rw [len_map], by exact Try.call92, by exact f_slices_stableCmpFunc_api_Bucket_hist_tidy_1.ok a0 (a0.length : Int) t641 e642, trivial⟩ ?_
  obtain rfl := Option.some.inj H
  exact Exists.intro ⟨[], [(0, some (.row 2 36 (t641.map eBucket)))], 1⟩ (And.intro (fun _ _ h => h.conv (inv := [(0, 0)]) (vk := []) (e0 := []) (t := ⟨[], [(0, some (.row 2 36 (t641.map eBucket)))], 1⟩) (by kernel_rfl)) (And.intro (.inr rfl) (And.intro rfl (And.intro (by kernel_rfl) (by kernel_rfl)))))
def f_num_Add.l0 (a0 : List Int) (x691 : Int) (x692 : Int) : Option ((Int × Int) ⊕ Int) := if (decide (x692 < (a0.length : Int))) = true then ((at? a0 x692) >>= fun b697 => (chk (0 ≤ x691 ∧ 0 ≤ b697 ∧ 0 ≤ (0 : Int) ∧ (0 : Int) ≤ (1 : Int))) >>= fun _ => if (((x691 + b697 + (0 : Int)) / 18446744073709551616) != (0 : Int)) = true then (some (.inl (0, 5))) else (f_num_Add.l0 a0 ((x691 + b697 + (0 : Int)) % 18446744073709551616) (IntKind.i64.wrap (x692 + (1 : Int))))) else (some (.inr x691))
partial_fixpoint
def f_num_Add.f (a0 : List Int) : Option (Int × Int) := (f_num_Add.l0 a0 0 0) >>= fun oo => match oo with | .inl rr => (some rr) | .inr x703 => (some (x703, 0))
theorem f_num_Add.ok (a0 : List Int) (r : Int × Int) (H : f_num_Add.f a0 = some r) : Pv.Fn Try.prog 79 [.im (.row (a0.map (encInt .u64)))] [] 0 (fun x o => x = .tup [iV .u64 r.1, iV .i64 r.2] ∧ o = []) := by
  unfold f_num_Add.f at H
  refine Fn.bodyK [] Try.func79 rfl rfl (fun Γ hP hn => ?_)
  have hm : Try.prog.follows .mixedOrders = true := by kernel_rfl
  replace hn : Γ.n = 26 := hn
  refine AWp.seq ?_
  refine reg hP hn hm [] [0] [] ⟨[(0, .im (.row (a0.map (encInt .u64))))], [], 0⟩ [] (by kernel_rfl) trivial ?_
  refine AWp.seq ?_
  refine reg hP hn hm [] [0, 4] [] ⟨[(0, .im (.row (a0.map (encInt .u64)))), (4, iV .u64 0)], [], 0⟩ [] (by kernel_rfl) trivial ?_
  refine AWp.seq ?_
  refine AWp.seq ?_
  refine reg hP hn hm [(1, .any (iV .i64 (a0.length : Int)))] [4, 9, 10, 11] [] ⟨[(4, iV .u64 0), (9, .im (.row (a0.map (encInt .u64)))), (10, iV .i64 (a0.length : Int)), (11, iV .i64 0)], [], 0⟩ [((a0.map (encInt .u64)).length : Int) = (a0.length : Int)] (by kernel_rfl) ⟨by rw [len_map], trivial⟩ ?_
  refine AWp.block ?_
  obtain ⟨o704, e705, H⟩ := bind_of H
  refine AWp.loop (LWp.conv (inv := []) (vk := []) (e0 := []) (t := ⟨[(4, iV .u64 0), (9, .im (.row (a0.map (encInt .u64)))), (10, iV .i64 (a0.length : Int)), (11, iV .i64 0)], [], 0⟩) (by kernel_rfl) ?_)
  refine LWp.mono (Q := fun e s => (match (generalizing := false) o704 with | .inl rr => e = .ret ∧ s.floor = 0 ∧ resOf Try.prog Try.f79 s = some (.tup [iV .u64 rr.1, iV .i64 rr.2]) ∧ ([] : List (Nat × Option MObj)) = [] | .inr x703 => e = .exit 0 ∧ s = ⟨[(4, iV .u64 x703)], [], 0⟩)) (LWp.cv (withBody (fun body hbody => ?_))) ?_
  · refine f_num_Add.l0.partial_correctness a0 (motive := fun x691 x692 o704 => LWp Γ body (fun e s => ∃ t, Cv Γ s t ∧ (match (generalizing := false) o704 with | .inl rr => e = .ret ∧ t.floor = 0 ∧ resOf Try.prog Try.f79 t = some (.tup [iV .u64 rr.1, iV .i64 rr.2]) ∧ ([] : List (Nat × Option MObj)) = [] | .inr x703 => e = .exit 0 ∧ t = ⟨[(4, iV .u64 x703)], [], 0⟩)) ⟨[(4, iV .u64 x691), (9, .im (.row (a0.map (encInt .u64)))), (10, iV .i64 (a0.length : Int)), (11, iV .i64 x692)], [], 0⟩) ?_ _ _ _ e705
    clear H e705 o704; intro self ih x691 x692 o704 H
    subst hbody
    refine LWp.round ?_
    refine AWp.seq ?_
    refine reg hP hn hm [] [4, 9, 10, 11, 12] [] ⟨[(4, iV .u64 x691), (9, .im (.row (a0.map (encInt .u64)))), (10, iV .i64 (a0.length : Int)), (11, iV .i64 x692), (12, bV (decide (x692 < (a0.length : Int))))], [], 0⟩ [] (by kernel_rfl) trivial ?_
    refine AWp.seq ?_
    refine AWp.cond (decide (x692 < (a0.length : Int))) rfl (fun c693 => ?_) (fun c693 => ?_)
    · replace H := (ifT c693).symm.trans H
      refine AWp.skip ?_
      refine AWp.seq ?_
      refine AWp.block ?_
      refine AWp.seq ?_
      obtain ⟨b697, p698, q699, H⟩ := at_of H
      refine reg hP hn hm [(0, .c ((encInt .u64) b697))] [4, 6, 9, 10, 11] [] ⟨[(4, iV .u64 x691), (6, iV .u64 b697), (9, .im (.row (a0.map (encInt .u64)))), (10, iV .i64 (a0.length : Int)), (11, iV .i64 x692)], [], 0⟩ [0 ≤ x692, (a0.map (encInt .u64))[(Int.toNat (x692))]? = some ((encInt .u64) b697)] (by kernel_rfl) ⟨by exact p698, by exact el_map (encInt .u64) q699, trivial⟩ ?_
      refine AWp.seq ?_
      obtain ⟨c701, H⟩ := chk_of H
      refine reg hP hn hm [(2, .ext (.tup [iV .u64 ((x691 + b697 + (0 : Int)) % 18446744073709551616), iV .u64 ((x691 + b697 + (0 : Int)) / 18446744073709551616)]))] [7, 8, 9, 10, 11] [] ⟨[(7, iV .u64 ((x691 + b697 + (0 : Int)) % 18446744073709551616)), (8, iV .u64 ((x691 + b697 + (0 : Int)) / 18446744073709551616)), (9, .im (.row (a0.map (encInt .u64)))), (10, iV .i64 (a0.length : Int)), (11, iV .i64 x692)], [], 0⟩ [∀ w, (callFunc 93 ([.int .u64 x691, .int .u64 b697, .int .u64 (0 : Int)] : List Value).toArray).run Try.prog w = .ok (.value (.tuple #[.int .u64 ((x691 + b697 + (0 : Int)) % 18446744073709551616), .int .u64 ((x691 + b697 + (0 : Int)) / 18446744073709551616)])) w] (by kernel_rfl) ⟨by exact fun w => x_add64 (fn := Try.f93) Try.func93 (by kernel_rfl) rfl (by kernel_rfl) (by kernel_rfl) c701 w, trivial⟩ ?_
      refine AWp.seq ?_
      refine AWp.seq ?_
      refine reg hP hn hm [] [7, 9, 10, 11, 22] [] ⟨[(7, iV .u64 ((x691 + b697 + (0 : Int)) % 18446744073709551616)), (9, .im (.row (a0.map (encInt .u64)))), (10, iV .i64 (a0.length : Int)), (11, iV .i64 x692), (22, bV (((x691 + b697 + (0 : Int)) / 18446744073709551616) != (0 : Int)))], [], 0⟩ [] (by kernel_rfl) trivial ?_
      refine AWp.cond (((x691 + b697 + (0 : Int)) / 18446744073709551616) != (0 : Int)) rfl (fun c702 => ?_) (fun c702 => ?_)
      · replace H := (ifT c702).symm.trans H
        refine AWp.seq ?_
        refine reg hP hn hm [] [2, 3] [] ⟨[(2, iV .u64 0), (3, iV .i64 5)], [], 0⟩ [] (by kernel_rfl) trivial ?_
        refine AWp.conv (inv := []) (vk := []) (e0 := []) (t := ⟨[(2, iV .u64 0), (3, iV .i64 5)], [], 0⟩) (by kernel_rfl) ?_
        refine AWp.ret ?_
        obtain rfl := Option.some.inj H
        exact Exists.intro _ (And.intro (fun _ _ h => h) (And.intro rfl (And.intro rfl (And.intro (by kernel_rfl) (by kernel_rfl)))))
      · replace H := (ifF c702).symm.trans H
        refine AWp.skip ?_
        refine reg hP hn hm [] [4, 9, 10, 11] [] ⟨[(4, iV .u64 ((x691 + b697 + (0 : Int)) % 18446744073709551616)), (9, .im (.row (a0.map (encInt .u64)))), (10, iV .i64 (a0.length : Int)), (11, iV .i64 x692)], [], 0⟩ [] (by kernel_rfl) trivial ?_
        refine reg hP hn hm [] [4, 9, 10, 11] [] ⟨[(4, iV .u64 ((x691 + b697 + (0 : Int)) % 18446744073709551616)), (9, .im (.row (a0.map (encInt .u64)))), (10, iV .i64 (a0.length : Int)), (11, iV .i64 (IntKind.i64.wrap (x692 + (1 : Int))))], [], 0⟩ [] (by kernel_rfl) trivial ?_
        exact LWp.conv (inv := []) (vk := []) (e0 := []) (t := ⟨[(4, iV .u64 ((x691 + b697 + (0 : Int)) % 18446744073709551616)), (9, .im (.row (a0.map (encInt .u64)))), (10, iV .i64 (a0.length : Int)), (11, iV .i64 (IntKind.i64.wrap (x692 + (1 : Int))))], [], 0⟩) (by kernel_rfl) (ih _ _ _ H)
    · replace H := (ifF c693).symm.trans H
      refine AWp.exit ?_
      obtain rfl := Option.some.inj H
      exact Exists.intro _ (And.intro (fun _ _ h => h.conv (inv := []) (vk := []) (e0 := []) (t := ⟨[(4, iV .u64 x691)], [], 0⟩) (by kernel_rfl)) (And.intro rfl rfl))
  · rcases o704 with rr | x703
    · skip
      rintro e s ⟨rfl, hfl, hres⟩
      obtain rfl := Option.some.inj H
      exact Exists.intro _ (And.intro (fun _ _ h => h) (And.intro (.inl rfl) (And.intro hfl hres)))
    · skip
      rintro e s ⟨rfl, rfl⟩
      refine AWp.seq ?_
      refine reg hP hn hm [] [2, 3] [] ⟨[(2, iV .u64 x703), (3, iV .i64 0)], [], 0⟩ [] (by kernel_rfl) trivial ?_
      refine AWp.conv (inv := []) (vk := []) (e0 := []) (t := ⟨[(2, iV .u64 x703), (3, iV .i64 0)], [], 0⟩) (by kernel_rfl) ?_
      refine AWp.ret ?_
      obtain rfl := Option.some.inj H
      exact Exists.intro _ (And.intro (fun _ _ h => h) (And.intro (.inl rfl) (And.intro rfl (And.intro (by kernel_rfl) (by kernel_rfl)))))
def f_hist_tidy.l0 (t645 : List TBucket) (x658 : List TBucket) (x659 : Int) : Option (((List TBucket) × Int) ⊕ (List TBucket)) := if (decide (x659 < (t645.length : Int))) = true then ((at? t645 x659) >>= fun b664 => ((if (b664.f1 == (0 : Int)) = true then (some (.inr x658)) else (((if (decide ((x658.length : Int) > (0 : Int))) = true then ((at? x658 (IntKind.i64.wrap ((x658.length : Int) - (1 : Int)))) >>= fun b673 => some (b673.f0 == b664.f0)) else (some false)) : Option (Bool)) >>= fun x676 => ((if x676 = true then ((at? x658 (IntKind.i64.wrap ((x658.length : Int) - (1 : Int)))) >>= fun b708 => (f_num_Add.f [b708.f1, b664.f1]) >>= fun t711 => if (t711.2 != (0 : Int)) = true then (some (.inl ([], t711.2))) else (some (.inr (x658.set (Int.toNat (IntKind.i64.wrap ((x658.length : Int) - (1 : Int)))) (⟨b708.f0, t711.1⟩ : TBucket))))) else ((chk ((x658.length + [b664].length) * 16 ≤ 140737488355328)) >>= fun _ => some (.inr (x658 ++ [b664])))) : Option (((List TBucket) × Int) ⊕ (List TBucket))) >>= fun oo => match oo with | .inl rr => (some (.inl rr)) | .inr x716 => (some (.inr x716)))) : Option (((List TBucket) × Int) ⊕ (List TBucket))) >>= fun oo => match oo with | .inl rr => (some (.inl rr)) | .inr x717 => (f_hist_tidy.l0 t645 x717 (IntKind.i64.wrap (x659 + (1 : Int))))) else (some (.inr x658))
partial_fixpoint
def f_hist_tidy.f (a0 : List TBucket) : Option ((List TBucket) × Int) := (f_slices_Clone_api_Bucket.f a0) >>= fun t22 => (f_slices_SortStableFunc_api_Bucket_hist_tidy_1.f t22) >>= fun t645 => (f_hist_tidy.l0 t645 [] 0) >>= fun oo => match oo with | .inl rr => (some rr) | .inr x718 => (some (x718, 0))
theorem f_hist_tidy.ok (a0 : List TBucket) (r : (List TBucket) × Int) (H : f_hist_tidy.f a0 = some r) : Pv.Fn Try.prog 45 [.im (.row (a0.map eBucket))] [] 0 (fun x o => x = .tup [.own 0, iV .i64 r.2] ∧ o = [(0, some (.row 2 36 (r.1.map eBucket)))]) := by
  unfold f_hist_tidy.f at H
  refine Fn.bodyK [0] Try.func45 rfl rfl (fun Γ hP hn => ?_)
  have hm : Try.prog.follows .mixedOrders = true := by kernel_rfl
  replace hn : Γ.n = 68 := hn
  refine AWp.seq ?_
  refine reg hP hn hm [] [0] [] ⟨[(0, .im (.row (a0.map eBucket)))], [], 0⟩ [] (by kernel_rfl) trivial ?_
  refine AWp.seq ?_
  refine reg hP hn hm [] [0, 4] [] ⟨[(0, .im (.row (a0.map eBucket))), (4, .none0)], [], 0⟩ [] (by kernel_rfl) trivial ?_
  refine AWp.seq ?_
  obtain ⟨t22, e23, H⟩ := bind_of H
  refine reg hP hn hm [(1, .call [] [(0, 0)] [] [0] 0 (.own 0) [(0, some (.row 2 36 (t22.map eBucket)))])] [0, 4] [0] ⟨[(0, .own 0), (4, .none0)], [(0, some (.row 2 36 (t22.map eBucket)))], 0⟩ [Enters Try.prog 55, Pv.Fn Try.prog 55 [.im (.row (a0.map eBucket))] [] 0 (fun r o => r = .own 0 ∧ o = [(0, some (.row 2 36 (t22.map eBucket)))])] (by kernel_rfl) ⟨by exact Try.call55, by exact f_slices_Clone_api_Bucket.ok a0 t22 e23, trivial⟩ ?_
  refine AWp.seq ?_
  obtain ⟨t645, e646, H⟩ := bind_of H
  refine reg hP hn hm [(1, .call [(0, 0)] [(0, 0)] [] [] 1 (.tup []) [(0, some (.row 2 36 (t645.map eBucket)))])] [0, 4] [0] ⟨[(0, .own 0), (4, .none0)], [(0, some (.row 2 36 (t645.map eBucket)))], 0⟩ [Enters Try.prog 77, Pv.Fn Try.prog 77 [.own 0, .im (.sc (.func (.func 78) #[] #[]))] [(0, some (.row 2 36 (t22.map eBucket)))] 1 (fun r o => r = .tup [] ∧ o = [(0, some (.row 2 36 (t645.map eBucket)))])] (by kernel_rfl) ⟨by exact Try.call77, by exact f_slices_SortStableFunc_api_Bucket_hist_tidy_1.ok t22 t645 e646, trivial⟩ ?_
  refine AWp.seq ?_
  refine AWp.seq ?_
  refine reg hP hn hm [(1, .any (iV .i64 (t645.length : Int)))] [4, 14, 15, 16] [0] ⟨[(4, .none0), (14, .own 0), (15, iV .i64 (t645.length : Int)), (16, iV .i64 0)], [(0, some (.row 2 36 (t645.map eBucket)))], 0⟩ [((t645.map eBucket).length : Int) = (t645.length : Int)] (by kernel_rfl) ⟨by rw [len_map], trivial⟩ ?_
  refine AWp.block ?_
  obtain ⟨o719, e720, H⟩ := bind_of H
  refine AWp.loop (LWp.conv (inv := [(0, 7)]) (vk := []) (e0 := [6]) (t := ⟨[(4, .own 6), (14, .own 7), (15, iV .i64 (t645.length : Int)), (16, iV .i64 0)], [(6, some (.row 2 36 ([].map eBucket))), (7, some (.row 2 36 (t645.map eBucket)))], 0⟩) (by kernel_rfl) ?_)
  refine LWp.mono (Q := fun e s => (match (generalizing := false) o719 with | .inl rr => e = .ret ∧ s.floor = 0 ∧ resOf Try.prog Try.f45 s = some (.tup [.own 0, iV .i64 rr.2]) ∧ ([(0, s.obj 0)] : List (Nat × Option MObj)) = [(0, some (.row 2 36 (rr.1.map eBucket)))] | .inr x718 => e = .exit 0 ∧ s = ⟨[(4, .own 19)], [(19, some (.row 2 36 (x718.map eBucket)))], 0⟩)) (LWp.cv (withBody (fun body hbody => ?_))) ?_
  · refine f_hist_tidy.l0.partial_correctness t645 (motive := fun x658 x659 o719 => LWp Γ body (fun e s => ∃ t, Cv Γ s t ∧ (match (generalizing := false) o719 with | .inl rr => e = .ret ∧ t.floor = 0 ∧ resOf Try.prog Try.f45 t = some (.tup [.own 0, iV .i64 rr.2]) ∧ ([(0, t.obj 0)] : List (Nat × Option MObj)) = [(0, some (.row 2 36 (rr.1.map eBucket)))] | .inr x718 => e = .exit 0 ∧ t = ⟨[(4, .own 19)], [(19, some (.row 2 36 (x718.map eBucket)))], 0⟩)) ⟨[(4, .own 6), (14, .own 7), (15, iV .i64 (t645.length : Int)), (16, iV .i64 x659)], [(6, some (.row 2 36 (x658.map eBucket))), (7, some (.row 2 36 (t645.map eBucket)))], 0⟩) ?_ _ _ _ e720
    clear H e720 o719; intro self ih x658 x659 o719 H
    subst hbody
    refine LWp.round ?_
    refine AWp.seq ?_
    refine reg hP hn hm [] [4, 14, 15, 16, 17] [6, 7] ⟨[(4, .own 6), (14, .own 7), (15, iV .i64 (t645.length : Int)), (16, iV .i64 x659), (17, bV (decide (x659 < (t645.length : Int))))], [(6, some (.row 2 36 (x658.map eBucket))), (7, some (.row 2 36 (t645.map eBucket)))], 0⟩ [] (by kernel_rfl) trivial ?_
    refine AWp.seq ?_
    refine AWp.cond (decide (x659 < (t645.length : Int))) rfl (fun c660 => ?_) (fun c660 => ?_)
    · replace H := (ifT c660).symm.trans H
      refine AWp.skip ?_
      refine AWp.seq ?_
      refine AWp.block ?_
      refine AWp.seq ?_
      obtain ⟨b664, p665, q666, H⟩ := at_of H
      refine reg hP hn hm [(1, .c (eBucket b664)), (2, .k 8)] [4, 6, 14, 15, 16] [6, 7, 8] ⟨[(4, .own 6), (6, .ptr 8 0 0), (14, .own 7), (15, iV .i64 (t645.length : Int)), (16, iV .i64 x659)], [(6, some (.row 2 36 (x658.map eBucket))), (7, some (.row 2 36 (t645.map eBucket))), (8, some (.box 36 (aBucket b664)))], 0⟩ [0 ≤ x659, x659 < (((t645.map eBucket).length : Nat) : Int), (t645.map eBucket)[(Int.toNat (x659))]? = some (eBucket b664)] (by kernel_rfl) ⟨by exact p665, by exact el_lt eBucket p665 q666, by exact el_map eBucket q666, trivial⟩ ?_
      refine AWp.seq ?_
      refine reg hP hn hm [(1, .any (iV .i64 (x658.length : Int)))] [4, 6, 7, 14, 15, 16] [6, 7, 8] ⟨[(4, .own 6), (6, .ptr 8 0 0), (7, iV .i64 (x658.length : Int)), (14, .own 7), (15, iV .i64 (t645.length : Int)), (16, iV .i64 x659)], [(6, some (.row 2 36 (x658.map eBucket))), (7, some (.row 2 36 (t645.map eBucket))), (8, some (.box 36 (aBucket b664)))], 0⟩ [((x658.map eBucket).length : Int) = (x658.length : Int)] (by kernel_rfl) ⟨by rw [len_map], trivial⟩ ?_
      refine AWp.block ?_
      refine AWp.seq ?_
      refine reg hP hn hm [] [4, 6, 7, 14, 15, 16, 26] [6, 7, 8] ⟨[(4, .own 6), (6, .ptr 8 0 0), (7, iV .i64 (x658.length : Int)), (14, .own 7), (15, iV .i64 (t645.length : Int)), (16, iV .i64 x659), (26, bV (b664.f1 == (0 : Int)))], [(6, some (.row 2 36 (x658.map eBucket))), (7, some (.row 2 36 (t645.map eBucket))), (8, some (.box 36 (aBucket b664)))], 0⟩ [] (by kernel_rfl) trivial ?_
      obtain ⟨o721, e722, H⟩ := bind_of H
      refine AWp.mono (Q := fun e s => (match (generalizing := false) o721 with | .inl rr => e = .ret ∧ s.floor = 0 ∧ resOf Try.prog Try.f45 s = some (.tup [.own 0, iV .i64 rr.2]) ∧ ([(0, s.obj 0)] : List (Nat × Option MObj)) = [(0, some (.row 2 36 (rr.1.map eBucket)))] | .inr x717 => e = .normal ∧ s = ⟨[(4, .own 17), (14, .own 18), (15, iV .i64 (t645.length : Int)), (16, iV .i64 x659)], [(17, some (.row 2 36 (x717.map eBucket))), (18, some (.row 2 36 (t645.map eBucket)))], 0⟩)) (AWp.cv ?_) ?_
      · replace H := e722; clear e722
        refine AWp.cond (b664.f1 == (0 : Int)) rfl (fun c667 => ?_) (fun c667 => ?_)
        · replace H := (ifT c667).symm.trans H
          refine AWp.skip ?_
          obtain rfl := Option.some.inj H
          exact Exists.intro _ (And.intro (fun _ _ h => h.conv (inv := [(6, 17), (7, 18)]) (vk := []) (e0 := []) (t := ⟨[(4, .own 17), (14, .own 18), (15, iV .i64 (t645.length : Int)), (16, iV .i64 x659)], [(17, some (.row 2 36 (x658.map eBucket))), (18, some (.row 2 36 (t645.map eBucket)))], 0⟩) (by kernel_rfl)) (And.intro rfl rfl))
        · replace H := (ifF c667).symm.trans H
          refine AWp.seq ?_
          obtain ⟨o723, e724, H⟩ := bind_of H
          refine AWp.mono (Q := fun e s => (match (generalizing := false) o723 with | x676 => e = .normal ∧ s = ⟨[(4, .own 9), (6, .ptr 10 0 0), (7, iV .i64 (x658.length : Int)), (14, .own 11), (15, iV .i64 (t645.length : Int)), (16, iV .i64 x659), (30, bV x676)], [(9, some (.row 2 36 (x658.map eBucket))), (10, some (.box 36 (aBucket b664))), (11, some (.row 2 36 (t645.map eBucket)))], 0⟩)) (AWp.cv ?_) ?_
          · replace H := e724; clear e724
            rcases Bool.eq_false_or_eq_true (decide ((x658.length : Int) > (0 : Int))) with c672 | c672
            · replace H := (ifT c672).symm.trans H
              obtain ⟨b673, p674, q675, H⟩ := at_of H
              refine reg hP hn hm [(2, .b true), (8, .c (eBucket b673))] [4, 6, 7, 14, 15, 16, 30, 34, 35, 36, 37, 38, 39, 40, 41, 42] [6, 7, 8] ⟨[(4, .own 6), (6, .ptr 8 0 0), (7, iV .i64 (x658.length : Int)), (14, .own 7), (15, iV .i64 (t645.length : Int)), (16, iV .i64 x659), (30, bV (b673.f0 == b664.f0)), (34, .own 6), (35, iV .i64 (x658.length : Int)), (36, iV .i64 (IntKind.i64.wrap ((x658.length : Int) - (1 : Int)))), (37, .ptr 6 (Int.toNat (IntKind.i64.wrap ((x658.length : Int) - (1 : Int)))) 0), (38, .ptr 6 (Int.toNat (IntKind.i64.wrap ((x658.length : Int) - (1 : Int)))) 0), (39, iV .i64 b673.f0), (40, .ptr 8 0 0), (41, iV .i64 b664.f0), (42, bV (b673.f0 == b664.f0))], [(6, some (.row 2 36 (x658.map eBucket))), (7, some (.row 2 36 (t645.map eBucket))), (8, some (.box 36 (aBucket b664)))], 0⟩ [(decide ((x658.length : Int) > (0 : Int))) = true, 0 ≤ (IntKind.i64.wrap ((x658.length : Int) - (1 : Int))), IntKind.i64.wrap ((x658.length : Int) - (1 : Int)) < (((x658.map eBucket).length : Nat) : Int), (x658.map eBucket)[(Int.toNat (IntKind.i64.wrap ((x658.length : Int) - (1 : Int))))]? = some (eBucket b673)] (by kernel_rfl) ⟨by exact c672, by exact p674, by exact el_lt eBucket p674 q675, by exact el_map eBucket q675, trivial⟩ ?_
              obtain rfl := Option.some.inj H
              exact Exists.intro _ (And.intro (fun _ _ h => h.conv (inv := [(6, 9), (8, 10), (7, 11)]) (vk := []) (e0 := []) (t := ⟨[(4, .own 9), (6, .ptr 10 0 0), (7, iV .i64 (x658.length : Int)), (14, .own 11), (15, iV .i64 (t645.length : Int)), (16, iV .i64 x659), (30, bV (b673.f0 == b664.f0))], [(9, some (.row 2 36 (x658.map eBucket))), (10, some (.box 36 (aBucket b664))), (11, some (.row 2 36 (t645.map eBucket)))], 0⟩) (by kernel_rfl)) (And.intro rfl rfl))
            · replace H := (ifF c672).symm.trans H
              refine reg hP hn hm [(2, .b false)] [4, 6, 7, 14, 15, 16, 30] [6, 7, 8] ⟨[(4, .own 6), (6, .ptr 8 0 0), (7, iV .i64 (x658.length : Int)), (14, .own 7), (15, iV .i64 (t645.length : Int)), (16, iV .i64 x659), (30, bV false)], [(6, some (.row 2 36 (x658.map eBucket))), (7, some (.row 2 36 (t645.map eBucket))), (8, some (.box 36 (aBucket b664)))], 0⟩ [(decide ((x658.length : Int) > (0 : Int))) = false] (by kernel_rfl) ⟨by exact c672, trivial⟩ ?_
              obtain rfl := Option.some.inj H
              exact Exists.intro _ (And.intro (fun _ _ h => h.conv (inv := [(6, 9), (8, 10), (7, 11)]) (vk := []) (e0 := []) (t := ⟨[(4, .own 9), (6, .ptr 10 0 0), (7, iV .i64 (x658.length : Int)), (14, .own 11), (15, iV .i64 (t645.length : Int)), (16, iV .i64 x659), (30, bV false)], [(9, some (.row 2 36 (x658.map eBucket))), (10, some (.box 36 (aBucket b664))), (11, some (.row 2 36 (t645.map eBucket)))], 0⟩) (by kernel_rfl)) (And.intro rfl rfl))
          · obtain ⟨x676, rfl⟩ : ∃ z, z = o723 := ⟨_, rfl⟩
            rintro e s ⟨rfl, rfl⟩
            obtain ⟨o725, e726, H⟩ := bind_of H
            refine AWp.mono (Q := fun e s => (match (generalizing := false) o725 with | .inl rr => e = .ret ∧ s.floor = 0 ∧ resOf Try.prog Try.f45 s = some (.tup [.own 0, iV .i64 rr.2]) ∧ ([(0, s.obj 0)] : List (Nat × Option MObj)) = [(0, some (.row 2 36 (rr.1.map eBucket)))] | .inr x716 => e = .normal ∧ s = ⟨[(4, .own 15), (14, .own 16), (15, iV .i64 (t645.length : Int)), (16, iV .i64 x659)], [(15, some (.row 2 36 (x716.map eBucket))), (16, some (.row 2 36 (t645.map eBucket)))], 0⟩)) (AWp.cv ?_) ?_
            · replace H := e726; clear e726
              refine AWp.cond x676 rfl (fun c677 => ?_) (fun c677 => ?_)
              · replace H := (ifT c677).symm.trans H
                refine AWp.seq ?_
                obtain ⟨b708, p709, q710, H⟩ := at_of H
                obtain ⟨t711, e712, H⟩ := bind_of H
                refine reg hP hn hm [(5, .c (eBucket b708)), (8, .app 12 ([b708.f1, b664.f1].map (encInt .u64))), (9, .call [] [] [12] [] 0 (.tup [iV .u64 t711.1, iV .i64 t711.2]) [])] [4, 7, 8, 9, 14, 15, 16] [9, 11] ⟨[(4, .own 9), (7, iV .i64 (x658.length : Int)), (8, iV .u64 t711.1), (9, iV .i64 t711.2), (14, .own 11), (15, iV .i64 (t645.length : Int)), (16, iV .i64 x659)], [(9, some (.row 2 36 (x658.map eBucket))), (11, some (.row 2 36 (t645.map eBucket)))], 0⟩ [0 ≤ (IntKind.i64.wrap ((x658.length : Int) - (1 : Int))), IntKind.i64.wrap ((x658.length : Int) - (1 : Int)) < (((x658.map eBucket).length : Nat) : Int), (x658.map eBucket)[(Int.toNat (IntKind.i64.wrap ((x658.length : Int) - (1 : Int))))]? = some (eBucket b708), [b708.f1, b664.f1].map (encInt .u64) = [[iI .u64 b708.f1], [iI .u64 b664.f1]], Enters Try.prog 79, Pv.Fn Try.prog 79 [.im (.row ([b708.f1, b664.f1].map (encInt .u64)))] [] 0 (fun r o => r = .tup [iV .u64 t711.1, iV .i64 t711.2] ∧ o = [])] (by kernel_rfl) ⟨by exact p709, by exact el_lt eBucket p709 q710, by exact el_map eBucket q710, by exact rfl, by exact Try.call79, by exact f_num_Add.ok [b708.f1, b664.f1] t711 e712, trivial⟩ ?_
                refine AWp.seq ?_
                refine AWp.seq ?_
                refine reg hP hn hm [] [4, 7, 8, 9, 14, 15, 16, 58] [9, 11] ⟨[(4, .own 9), (7, iV .i64 (x658.length : Int)), (8, iV .u64 t711.1), (9, iV .i64 t711.2), (14, .own 11), (15, iV .i64 (t645.length : Int)), (16, iV .i64 x659), (58, bV (t711.2 != (0 : Int)))], [(9, some (.row 2 36 (x658.map eBucket))), (11, some (.row 2 36 (t645.map eBucket)))], 0⟩ [] (by kernel_rfl) trivial ?_
                refine AWp.cond (t711.2 != (0 : Int)) rfl (fun c713 => ?_) (fun c713 => ?_)
                · replace H := (ifT c713).symm.trans H
                  refine AWp.seq ?_
                  refine reg hP hn hm [] [2, 3] [] ⟨[(2, .none0), (3, iV .i64 t711.2)], [], 0⟩ [] (by kernel_rfl) trivial ?_
                  refine AWp.conv (inv := []) (vk := []) (e0 := [0]) (t := ⟨[(2, .own 0), (3, iV .i64 t711.2)], [(0, some (.row 2 36 ([].map eBucket)))], 0⟩) (by kernel_rfl) ?_
                  refine AWp.ret ?_
                  obtain rfl := Option.some.inj H
                  exact Exists.intro _ (And.intro (fun _ _ h => h) (And.intro rfl (And.intro rfl (And.intro (by kernel_rfl) (by kernel_rfl)))))
                · replace H := (ifF c713).symm.trans H
                  refine AWp.skip ?_
                  refine reg hP hn hm [(6, .put (eBucket b708) ((x658.set (Int.toNat (IntKind.i64.wrap ((x658.length : Int) - (1 : Int)))) (⟨b708.f0, t711.1⟩ : TBucket)).map eBucket))] [4, 14, 15, 16] [9, 11] ⟨[(4, .own 9), (14, .own 11), (15, iV .i64 (t645.length : Int)), (16, iV .i64 x659)], [(9, some (.row 2 36 ((x658.set (Int.toNat (IntKind.i64.wrap ((x658.length : Int) - (1 : Int)))) (⟨b708.f0, t711.1⟩ : TBucket)).map eBucket))), (11, some (.row 2 36 (t645.map eBucket)))], 0⟩ [0 ≤ (IntKind.i64.wrap ((x658.length : Int) - (1 : Int))), IntKind.i64.wrap ((x658.length : Int) - (1 : Int)) < (((x658.map eBucket).length : Nat) : Int), (x658.map eBucket)[(Int.toNat (IntKind.i64.wrap ((x658.length : Int) - (1 : Int))))]? = some (eBucket b708), (x658.set (Int.toNat (IntKind.i64.wrap ((x658.length : Int) - (1 : Int)))) (⟨b708.f0, t711.1⟩ : TBucket)).map eBucket = (x658.map eBucket).set (Int.toNat (IntKind.i64.wrap ((x658.length : Int) - (1 : Int)))) (splice (eBucket b708) 1 [iI .u64 t711.1])] (by kernel_rfl) ⟨by exact p709, by exact el_lt eBucket p709 q710, by exact el_map eBucket q710, by exact set1 _ _ _ _, trivial⟩ ?_
                  obtain rfl := Option.some.inj H
                  exact Exists.intro _ (And.intro (fun _ _ h => h.conv (inv := [(9, 15), (11, 16)]) (vk := []) (e0 := []) (t := ⟨[(4, .own 15), (14, .own 16), (15, iV .i64 (t645.length : Int)), (16, iV .i64 x659)], [(15, some (.row 2 36 ((x658.set (Int.toNat (IntKind.i64.wrap ((x658.length : Int) - (1 : Int)))) (⟨b708.f0, t711.1⟩ : TBucket)).map eBucket))), (16, some (.row 2 36 (t645.map eBucket)))], 0⟩) (by kernel_rfl)) (And.intro rfl rfl))
              · replace H := (ifF c677).symm.trans H
                obtain ⟨c715, H⟩ := chk_of H
                refine reg hP hn hm [(2, .app 13 ([b664].map eBucket)), (3, .app 14 ((x658 ++ [b664]).map eBucket))] [4, 14, 15, 16] [11, 14] ⟨[(4, .own 14), (14, .own 11), (15, iV .i64 (t645.length : Int)), (16, iV .i64 x659)], [(11, some (.row 2 36 (t645.map eBucket))), (14, some (.row 2 36 ((x658 ++ [b664]).map eBucket)))], 0⟩ [[b664].map eBucket = [[iI .i64 b664.f0, iI .u64 b664.f1]], (x658 ++ [b664]).map eBucket = (x658.map eBucket) ++ ([b664].map eBucket), ∀ c ∈ ([b664].map eBucket), c.length = 2, ∀ c ∈ ([b664].map eBucket), leaves (c.map .im) = true, ((x658.map eBucket).length + ([b664].map eBucket).length) * 16 ≤ 140737488355328] (by kernel_rfl) ⟨by exact rfl, by simp, by exact all_len _ _ _ (fun _ => rfl), by exact all_leaf _ _ (fun _ => rfl), by simpa using c715, trivial⟩ ?_
                obtain rfl := Option.some.inj H
                exact Exists.intro _ (And.intro (fun _ _ h => h.conv (inv := [(14, 15), (11, 16)]) (vk := []) (e0 := []) (t := ⟨[(4, .own 15), (14, .own 16), (15, iV .i64 (t645.length : Int)), (16, iV .i64 x659)], [(15, some (.row 2 36 ((x658 ++ [b664]).map eBucket))), (16, some (.row 2 36 (t645.map eBucket)))], 0⟩) (by kernel_rfl)) (And.intro rfl rfl))
            · rcases o725 with rr | x716
              · skip
                rintro e s ⟨rfl, hfl, hres⟩
                obtain rfl := Option.some.inj H
                exact Exists.intro _ (And.intro (fun _ _ h => h) (And.intro rfl (And.intro hfl hres)))
              · skip
                rintro e s ⟨rfl, rfl⟩
                obtain rfl := Option.some.inj H
                exact Exists.intro _ (And.intro (fun _ _ h => h.conv (inv := [(15, 17), (16, 18)]) (vk := []) (e0 := []) (t := ⟨[(4, .own 17), (14, .own 18), (15, iV .i64 (t645.length : Int)), (16, iV .i64 x659)], [(17, some (.row 2 36 (x716.map eBucket))), (18, some (.row 2 36 (t645.map eBucket)))], 0⟩) (by kernel_rfl)) (And.intro rfl rfl))
      · rcases o721 with rr | x717
        · skip
          rintro e s ⟨rfl, hfl, hres⟩
          obtain rfl := Option.some.inj H
          exact Exists.intro _ (And.intro (fun _ _ h => h) (And.intro rfl (And.intro hfl hres)))
        · skip
          rintro e s ⟨rfl, rfl⟩
          refine reg hP hn hm [] [4, 14, 15, 16] [17, 18] ⟨[(4, .own 17), (14, .own 18), (15, iV .i64 (t645.length : Int)), (16, iV .i64 (IntKind.i64.wrap (x659 + (1 : Int))))], [(17, some (.row 2 36 (x717.map eBucket))), (18, some (.row 2 36 (t645.map eBucket)))], 0⟩ [] (by kernel_rfl) trivial ?_
          exact LWp.conv (inv := [(17, 6), (18, 7)]) (vk := []) (e0 := []) (t := ⟨[(4, .own 6), (14, .own 7), (15, iV .i64 (t645.length : Int)), (16, iV .i64 (IntKind.i64.wrap (x659 + (1 : Int))))], [(6, some (.row 2 36 (x717.map eBucket))), (7, some (.row 2 36 (t645.map eBucket)))], 0⟩) (by kernel_rfl) (ih _ _ _ H)
    · replace H := (ifF c660).symm.trans H
      refine AWp.exit ?_
      obtain rfl := Option.some.inj H
      exact Exists.intro _ (And.intro (fun _ _ h => h.conv (inv := [(6, 19)]) (vk := []) (e0 := []) (t := ⟨[(4, .own 19)], [(19, some (.row 2 36 (x658.map eBucket)))], 0⟩) (by kernel_rfl)) (And.intro rfl rfl))
  · rcases o719 with rr | x718
    · skip
      rintro e s ⟨rfl, hfl, hres⟩
      obtain rfl := Option.some.inj H
      exact Exists.intro _ (And.intro (fun _ _ h => h) (And.intro (.inl rfl) (And.intro hfl hres)))
    · skip
      rintro e s ⟨rfl, rfl⟩
      refine AWp.seq ?_
      refine reg hP hn hm [] [2, 3] [19] ⟨[(2, .own 19), (3, iV .i64 0)], [(19, some (.row 2 36 (x718.map eBucket)))], 0⟩ [] (by kernel_rfl) trivial ?_
      refine AWp.conv (inv := [(19, 0)]) (vk := []) (e0 := []) (t := ⟨[(2, .own 0), (3, iV .i64 0)], [(0, some (.row 2 36 (x718.map eBucket)))], 0⟩) (by kernel_rfl) ?_
      refine AWp.ret ?_
      obtain rfl := Option.some.inj H
      exact Exists.intro _ (And.intro (fun _ _ h => h) (And.intro (.inl rfl) (And.intro rfl (And.intro (by kernel_rfl) (by kernel_rfl)))))
def f_hist_total.l1 (a0 : List (List TBucket)) (b776 : List TBucket) (x771 : Int) (x791 : Int) (x792 : Int) : Option ((Int × Int) ⊕ Int) := if (decide (x792 < (b776.length : Int))) = true then ((at? b776 x792) >>= fun b797 => (f_num_Add.f [x791, b797.f1]) >>= fun t802 => if (t802.2 != (0 : Int)) = true then (some (.inl (0, t802.2))) else (f_hist_total.l1 a0 b776 x771 t802.1 (IntKind.i64.wrap (x792 + (1 : Int))))) else (some (.inr x791))
partial_fixpoint
def f_hist_total.l0 (a0 : List (List TBucket)) (x770 : Int) (x771 : Int) : Option ((Int × Int) ⊕ Int) := if (decide (x771 < (a0.length : Int))) = true then ((at? a0 x771) >>= fun b776 => (f_hist_total.l1 a0 b776 x771 x770 0) >>= fun oo => match oo with | .inl rr => (some (.inl rr)) | .inr x805 => (f_hist_total.l0 a0 x805 (IntKind.i64.wrap (x771 + (1 : Int))))) else (some (.inr x770))
partial_fixpoint
def f_hist_total.f (a0 : List (List TBucket)) : Option (Int × Int) := (f_hist_total.l0 a0 0 0) >>= fun oo => match oo with | .inl rr => (some rr) | .inr x806 => (some (x806, 0))
theorem f_hist_total.ok (a0 : List (List TBucket)) (r : Int × Int) (H : f_hist_total.f a0 = some r) : Pv.Fn Try.prog 46 [.im (.row (a0.map (encRow eBucket)))] [] 0 (fun x o => x = .tup [iV .u64 r.1, iV .i64 r.2] ∧ o = []) := by
  unfold f_hist_total.f at H
  refine Fn.bodyK [] Try.func46 rfl rfl (fun Γ hP hn => ?_)
  have hm : Try.prog.follows .mixedOrders = true := by kernel_rfl
  replace hn : Γ.n = 36 := hn
  refine AWp.seq ?_
  refine reg hP hn hm [] [0] [] ⟨[(0, .im (.row (a0.map (encRow eBucket))))], [], 0⟩ [] (by kernel_rfl) trivial ?_
  refine AWp.seq ?_
  refine reg hP hn hm [] [0, 4] [] ⟨[(0, .im (.row (a0.map (encRow eBucket)))), (4, iV .u64 0)], [], 0⟩ [] (by kernel_rfl) trivial ?_
  refine AWp.seq ?_
  refine AWp.seq ?_
  refine reg hP hn hm [(1, .any (iV .i64 (a0.length : Int)))] [4, 10, 11, 12] [] ⟨[(4, iV .u64 0), (10, .im (.row (a0.map (encRow eBucket)))), (11, iV .i64 (a0.length : Int)), (12, iV .i64 0)], [], 0⟩ [((a0.map (encRow eBucket)).length : Int) = (a0.length : Int)] (by kernel_rfl) ⟨by rw [len_map], trivial⟩ ?_
  refine AWp.block ?_
  obtain ⟨o807, e808, H⟩ := bind_of H
  refine AWp.loop (LWp.conv (inv := []) (vk := []) (e0 := []) (t := ⟨[(4, iV .u64 0), (10, .im (.row (a0.map (encRow eBucket)))), (11, iV .i64 (a0.length : Int)), (12, iV .i64 0)], [], 0⟩) (by kernel_rfl) ?_)
  refine LWp.mono (Q := fun e s => (match (generalizing := false) o807 with | .inl rr => e = .ret ∧ s.floor = 0 ∧ resOf Try.prog Try.f46 s = some (.tup [iV .u64 rr.1, iV .i64 rr.2]) ∧ ([] : List (Nat × Option MObj)) = [] | .inr x806 => e = .exit 0 ∧ s = ⟨[(4, iV .u64 x806)], [], 0⟩)) (LWp.cv (withBody (fun body hbody => ?_))) ?_
  · refine f_hist_total.l0.partial_correctness a0 (motive := fun x770 x771 o807 => LWp Γ body (fun e s => ∃ t, Cv Γ s t ∧ (match (generalizing := false) o807 with | .inl rr => e = .ret ∧ t.floor = 0 ∧ resOf Try.prog Try.f46 t = some (.tup [iV .u64 rr.1, iV .i64 rr.2]) ∧ ([] : List (Nat × Option MObj)) = [] | .inr x806 => e = .exit 0 ∧ t = ⟨[(4, iV .u64 x806)], [], 0⟩)) ⟨[(4, iV .u64 x770), (10, .im (.row (a0.map (encRow eBucket)))), (11, iV .i64 (a0.length : Int)), (12, iV .i64 x771)], [], 0⟩) ?_ _ _ _ e808
    clear H e808 o807; intro self ih x770 x771 o807 H
    subst hbody
    refine LWp.round ?_
    refine AWp.seq ?_
    refine reg hP hn hm [] [4, 10, 11, 12, 13] [] ⟨[(4, iV .u64 x770), (10, .im (.row (a0.map (encRow eBucket)))), (11, iV .i64 (a0.length : Int)), (12, iV .i64 x771), (13, bV (decide (x771 < (a0.length : Int))))], [], 0⟩ [] (by kernel_rfl) trivial ?_
    refine AWp.seq ?_
    refine AWp.cond (decide (x771 < (a0.length : Int))) rfl (fun c772 => ?_) (fun c772 => ?_)
    · replace H := (ifT c772).symm.trans H
      refine AWp.skip ?_
      refine AWp.seq ?_
      refine AWp.block ?_
      refine AWp.seq ?_
      obtain ⟨b776, p777, q778, H⟩ := at_of H
      refine reg hP hn hm [(0, .c ((encRow eBucket) b776))] [4, 6, 10, 11, 12] [] ⟨[(4, iV .u64 x770), (6, .im (.row (b776.map eBucket))), (10, .im (.row (a0.map (encRow eBucket)))), (11, iV .i64 (a0.length : Int)), (12, iV .i64 x771)], [], 0⟩ [0 ≤ x771, (a0.map (encRow eBucket))[(Int.toNat (x771))]? = some ((encRow eBucket) b776)] (by kernel_rfl) ⟨by exact p777, by exact el_map (encRow eBucket) q778, trivial⟩ ?_
      refine AWp.seq ?_
      refine reg hP hn hm [(1, .any (iV .i64 (b776.length : Int)))] [4, 10, 11, 12, 16, 17, 18] [] ⟨[(4, iV .u64 x770), (10, .im (.row (a0.map (encRow eBucket)))), (11, iV .i64 (a0.length : Int)), (12, iV .i64 x771), (16, .im (.row (b776.map eBucket))), (17, iV .i64 (b776.length : Int)), (18, iV .i64 0)], [], 0⟩ [((b776.map eBucket).length : Int) = (b776.length : Int)] (by kernel_rfl) ⟨by rw [len_map], trivial⟩ ?_
      refine AWp.block ?_
      obtain ⟨o809, e810, H⟩ := bind_of H
      refine AWp.loop (LWp.conv (inv := []) (vk := []) (e0 := []) (t := ⟨[(4, iV .u64 x770), (10, .im (.row (a0.map (encRow eBucket)))), (11, iV .i64 (a0.length : Int)), (12, iV .i64 x771), (16, .im (.row (b776.map eBucket))), (17, iV .i64 (b776.length : Int)), (18, iV .i64 0)], [], 0⟩) (by kernel_rfl) ?_)
      refine LWp.mono (Q := fun e s => (match (generalizing := false) o809 with | .inl rr => e = .ret ∧ s.floor = 0 ∧ resOf Try.prog Try.f46 s = some (.tup [iV .u64 rr.1, iV .i64 rr.2]) ∧ ([] : List (Nat × Option MObj)) = [] | .inr x805 => e = .exit 2 ∧ s = ⟨[(4, iV .u64 x805), (10, .im (.row (a0.map (encRow eBucket)))), (11, iV .i64 (a0.length : Int)), (12, iV .i64 x771)], [], 0⟩)) (LWp.cv (withBody (fun body hbody => ?_))) ?_
      · refine f_hist_total.l1.partial_correctness a0 b776 x771 (motive := fun x791 x792 o809 => LWp Γ body (fun e s => ∃ t, Cv Γ s t ∧ (match (generalizing := false) o809 with | .inl rr => e = .ret ∧ t.floor = 0 ∧ resOf Try.prog Try.f46 t = some (.tup [iV .u64 rr.1, iV .i64 rr.2]) ∧ ([] : List (Nat × Option MObj)) = [] | .inr x805 => e = .exit 2 ∧ t = ⟨[(4, iV .u64 x805), (10, .im (.row (a0.map (encRow eBucket)))), (11, iV .i64 (a0.length : Int)), (12, iV .i64 x771)], [], 0⟩)) ⟨[(4, iV .u64 x791), (10, .im (.row (a0.map (encRow eBucket)))), (11, iV .i64 (a0.length : Int)), (12, iV .i64 x771), (16, .im (.row (b776.map eBucket))), (17, iV .i64 (b776.length : Int)), (18, iV .i64 x792)], [], 0⟩) ?_ _ _ _ e810
        clear H e810 o809; intro self ih x791 x792 o809 H
        subst hbody
        refine LWp.round ?_
        refine AWp.seq ?_
        refine reg hP hn hm [] [4, 10, 11, 12, 16, 17, 18, 19] [] ⟨[(4, iV .u64 x791), (10, .im (.row (a0.map (encRow eBucket)))), (11, iV .i64 (a0.length : Int)), (12, iV .i64 x771), (16, .im (.row (b776.map eBucket))), (17, iV .i64 (b776.length : Int)), (18, iV .i64 x792), (19, bV (decide (x792 < (b776.length : Int))))], [], 0⟩ [] (by kernel_rfl) trivial ?_
        refine AWp.seq ?_
        refine AWp.cond (decide (x792 < (b776.length : Int))) rfl (fun c793 => ?_) (fun c793 => ?_)
        · replace H := (ifT c793).symm.trans H
          refine AWp.skip ?_
          refine AWp.seq ?_
          refine AWp.block ?_
          refine AWp.seq ?_
          obtain ⟨b797, p798, q799, H⟩ := at_of H
          refine reg hP hn hm [(0, .c (eBucket b797)), (2, .k 6)] [4, 8, 10, 11, 12, 16, 17, 18] [6] ⟨[(4, iV .u64 x791), (8, .ptr 6 0 0), (10, .im (.row (a0.map (encRow eBucket)))), (11, iV .i64 (a0.length : Int)), (12, iV .i64 x771), (16, .im (.row (b776.map eBucket))), (17, iV .i64 (b776.length : Int)), (18, iV .i64 x792)], [(6, some (.box 36 (aBucket b797)))], 0⟩ [0 ≤ x792, (b776.map eBucket)[(Int.toNat (x792))]? = some (eBucket b797)] (by kernel_rfl) ⟨by exact p798, by exact el_map eBucket q799, trivial⟩ ?_
          refine AWp.seq ?_
          refine reg hP hn hm [] [4, 8, 10, 11, 12, 16, 17, 18] [6] ⟨[(4, iV .u64 x791), (8, .ptr 6 0 0), (10, .im (.row (a0.map (encRow eBucket)))), (11, iV .i64 (a0.length : Int)), (12, iV .i64 x771), (16, .im (.row (b776.map eBucket))), (17, iV .i64 (b776.length : Int)), (18, iV .i64 x792)], [(6, some (.box 36 (aBucket b797)))], 0⟩ [] (by kernel_rfl) trivial ?_
          refine AWp.seq ?_
          obtain ⟨t802, e803, H⟩ := bind_of H
          refine reg hP hn hm [(3, .app 7 ([x791, b797.f1].map (encInt .u64))), (4, .call [] [] [7] [] 0 (.tup [iV .u64 t802.1, iV .i64 t802.2]) [])] [4, 9, 10, 11, 12, 16, 17, 18] [] ⟨[(4, iV .u64 t802.1), (9, iV .i64 t802.2), (10, .im (.row (a0.map (encRow eBucket)))), (11, iV .i64 (a0.length : Int)), (12, iV .i64 x771), (16, .im (.row (b776.map eBucket))), (17, iV .i64 (b776.length : Int)), (18, iV .i64 x792)], [], 0⟩ [[x791, b797.f1].map (encInt .u64) = [[iI .u64 x791], [iI .u64 b797.f1]], Enters Try.prog 79, Pv.Fn Try.prog 79 [.im (.row ([x791, b797.f1].map (encInt .u64)))] [] 0 (fun r o => r = .tup [iV .u64 t802.1, iV .i64 t802.2] ∧ o = [])] (by kernel_rfl) ⟨by exact rfl, by exact Try.call79, by exact f_num_Add.ok [x791, b797.f1] t802 e803, trivial⟩ ?_
          refine AWp.seq ?_
          refine reg hP hn hm [] [4, 9, 10, 11, 12, 16, 17, 18, 31] [] ⟨[(4, iV .u64 t802.1), (9, iV .i64 t802.2), (10, .im (.row (a0.map (encRow eBucket)))), (11, iV .i64 (a0.length : Int)), (12, iV .i64 x771), (16, .im (.row (b776.map eBucket))), (17, iV .i64 (b776.length : Int)), (18, iV .i64 x792), (31, bV (t802.2 != (0 : Int)))], [], 0⟩ [] (by kernel_rfl) trivial ?_
          refine AWp.cond (t802.2 != (0 : Int)) rfl (fun c804 => ?_) (fun c804 => ?_)
          · replace H := (ifT c804).symm.trans H
            refine AWp.seq ?_
            refine reg hP hn hm [] [2, 3] [] ⟨[(2, iV .u64 0), (3, iV .i64 t802.2)], [], 0⟩ [] (by kernel_rfl) trivial ?_
            refine AWp.conv (inv := []) (vk := []) (e0 := []) (t := ⟨[(2, iV .u64 0), (3, iV .i64 t802.2)], [], 0⟩) (by kernel_rfl) ?_
            refine AWp.ret ?_
            obtain rfl := Option.some.inj H
            exact Exists.intro _ (And.intro (fun _ _ h => h) (And.intro rfl (And.intro rfl (And.intro (by kernel_rfl) (by kernel_rfl)))))
          · replace H := (ifF c804).symm.trans H
            refine AWp.skip ?_
            refine reg hP hn hm [] [4, 10, 11, 12, 16, 17, 18] [] ⟨[(4, iV .u64 t802.1), (10, .im (.row (a0.map (encRow eBucket)))), (11, iV .i64 (a0.length : Int)), (12, iV .i64 x771), (16, .im (.row (b776.map eBucket))), (17, iV .i64 (b776.length : Int)), (18, iV .i64 (IntKind.i64.wrap (x792 + (1 : Int))))], [], 0⟩ [] (by kernel_rfl) trivial ?_
            exact LWp.conv (inv := []) (vk := []) (e0 := []) (t := ⟨[(4, iV .u64 t802.1), (10, .im (.row (a0.map (encRow eBucket)))), (11, iV .i64 (a0.length : Int)), (12, iV .i64 x771), (16, .im (.row (b776.map eBucket))), (17, iV .i64 (b776.length : Int)), (18, iV .i64 (IntKind.i64.wrap (x792 + (1 : Int))))], [], 0⟩) (by kernel_rfl) (ih _ _ _ H)
        · replace H := (ifF c793).symm.trans H
          refine AWp.exit ?_
          obtain rfl := Option.some.inj H
          exact Exists.intro _ (And.intro (fun _ _ h => h.conv (inv := []) (vk := []) (e0 := []) (t := ⟨[(4, iV .u64 x791), (10, .im (.row (a0.map (encRow eBucket)))), (11, iV .i64 (a0.length : Int)), (12, iV .i64 x771)], [], 0⟩) (by kernel_rfl)) (And.intro rfl rfl))
      · rcases o809 with rr | x805
        · skip
          rintro e s ⟨rfl, hfl, hres⟩
          obtain rfl := Option.some.inj H
          exact Exists.intro _ (And.intro (fun _ _ h => h) (And.intro rfl (And.intro hfl hres)))
        · skip
          rintro e s ⟨rfl, rfl⟩
          refine reg hP hn hm [] [4, 10, 11, 12] [] ⟨[(4, iV .u64 x805), (10, .im (.row (a0.map (encRow eBucket)))), (11, iV .i64 (a0.length : Int)), (12, iV .i64 (IntKind.i64.wrap (x771 + (1 : Int))))], [], 0⟩ [] (by kernel_rfl) trivial ?_
          exact LWp.conv (inv := []) (vk := []) (e0 := []) (t := ⟨[(4, iV .u64 x805), (10, .im (.row (a0.map (encRow eBucket)))), (11, iV .i64 (a0.length : Int)), (12, iV .i64 (IntKind.i64.wrap (x771 + (1 : Int))))], [], 0⟩) (by kernel_rfl) (ih _ _ _ H)
    · replace H := (ifF c772).symm.trans H
      refine AWp.exit ?_
      obtain rfl := Option.some.inj H
      exact Exists.intro _ (And.intro (fun _ _ h => h.conv (inv := []) (vk := []) (e0 := []) (t := ⟨[(4, iV .u64 x770)], [], 0⟩) (by kernel_rfl)) (And.intro rfl rfl))
  · rcases o807 with rr | x806
    · skip
      rintro e s ⟨rfl, hfl, hres⟩
      obtain rfl := Option.some.inj H
      exact Exists.intro _ (And.intro (fun _ _ h => h) (And.intro (.inl rfl) (And.intro hfl hres)))
    · skip
      rintro e s ⟨rfl, rfl⟩
      refine AWp.seq ?_
      refine reg hP hn hm [] [2, 3] [] ⟨[(2, iV .u64 x806), (3, iV .i64 0)], [], 0⟩ [] (by kernel_rfl) trivial ?_
      refine AWp.conv (inv := []) (vk := []) (e0 := []) (t := ⟨[(2, iV .u64 x806), (3, iV .i64 0)], [], 0⟩) (by kernel_rfl) ?_
      refine AWp.ret ?_
      obtain rfl := Option.some.inj H
      exact Exists.intro _ (And.intro (fun _ _ h => h) (And.intro (.inl rfl) (And.intro rfl (And.intro (by kernel_rfl) (by kernel_rfl)))))
def f_bound_Right.f (a0 : Int) : Option (Bool) := ((if (decide (a0 ≥ (-4))) = true then (some (decide (a0 ≤ (8 : Int)))) else (some false)) : Option (Bool)) >>= fun x824 => some x824
theorem f_bound_Right.ok (a0 : Int) (r : Bool) (H : f_bound_Right.f a0 = some r) : Pv.Fn Try.prog 48 [iV .i64 a0] [] 0 (fun x o => x = bV r ∧ o = []) := by
  unfold f_bound_Right.f at H
  refine Fn.bodyK [] Try.func48 rfl rfl (fun Γ hP hn => ?_)
  have hm : Try.prog.follows .mixedOrders = true := by kernel_rfl
  replace hn : Γ.n = 9 := hn
  refine AWp.seq ?_
  refine reg hP hn hm [] [0] [] ⟨[(0, iV .i64 a0)], [], 0⟩ [] (by kernel_rfl) trivial ?_
  refine AWp.seq ?_
  obtain ⟨o825, e826, H⟩ := bind_of H
  refine AWp.mono (Q := fun e s => (match (generalizing := false) o825 with | x824 => e = .normal ∧ s = ⟨[(2, bV x824)], [], 0⟩)) (AWp.cv ?_) ?_
  · replace H := e826; clear e826
    rcases Bool.eq_false_or_eq_true (decide (a0 ≥ (-4))) with c823 | c823
    · replace H := (ifT c823).symm.trans H
      refine reg hP hn hm [(2, .b true)] [2] [] ⟨[(2, bV (decide (a0 ≤ (8 : Int))))], [], 0⟩ [(decide (a0 ≥ (-4))) = true] (by kernel_rfl) ⟨by exact c823, trivial⟩ ?_
      obtain rfl := Option.some.inj H
      exact Exists.intro _ (And.intro (fun _ _ h => h.conv (inv := []) (vk := []) (e0 := []) (t := ⟨[(2, bV (decide (a0 ≤ (8 : Int))))], [], 0⟩) (by kernel_rfl)) (And.intro rfl rfl))
    · replace H := (ifF c823).symm.trans H
      refine reg hP hn hm [(2, .b false)] [2] [] ⟨[(2, bV false)], [], 0⟩ [(decide (a0 ≥ (-4))) = false] (by kernel_rfl) ⟨by exact c823, trivial⟩ ?_
      obtain rfl := Option.some.inj H
      exact Exists.intro _ (And.intro (fun _ _ h => h.conv (inv := []) (vk := []) (e0 := []) (t := ⟨[(2, bV false)], [], 0⟩) (by kernel_rfl)) (And.intro rfl rfl))
  · obtain ⟨x824, rfl⟩ : ∃ z, z = o825 := ⟨_, rfl⟩
    rintro e s ⟨rfl, rfl⟩
    refine AWp.conv (inv := []) (vk := []) (e0 := []) (t := ⟨[(2, bV x824)], [], 0⟩) (by kernel_rfl) ?_
    refine AWp.ret ?_
    obtain rfl := Option.some.inj H
    exact Exists.intro _ (And.intro (fun _ _ h => h) (And.intro (.inl rfl) (And.intro rfl (And.intro (by kernel_rfl) (by kernel_rfl)))))
def f_bound_shift.f (a0 : Int) : Option (Unit) := some ()
theorem f_bound_shift.ok (a0 : Int) (r : Unit) (H : f_bound_shift.f a0 = some r) : Pv.Fn Try.prog 104 [iV .i64 a0] [] 0 (fun x o => x = iV .u64 (IntKind.u64.wrap (IntKind.i64.wrap ((8 : Int) - a0))) ∧ o = []) := by
  unfold f_bound_shift.f at H
  refine Fn.bodyK [] Try.func104 rfl rfl (fun Γ hP hn => ?_)
  have hm : Try.prog.follows .mixedOrders = true := by kernel_rfl
  replace hn : Γ.n = 6 := hn
  refine AWp.seq ?_
  refine reg hP hn hm [] [0] [] ⟨[(0, iV .i64 a0)], [], 0⟩ [] (by kernel_rfl) trivial ?_
  refine AWp.seq ?_
  refine reg hP hn hm [] [2] [] ⟨[(2, iV .u64 (IntKind.u64.wrap (IntKind.i64.wrap ((8 : Int) - a0))))], [], 0⟩ [] (by kernel_rfl) trivial ?_
  refine AWp.conv (inv := []) (vk := []) (e0 := []) (t := ⟨[(2, iV .u64 (IntKind.u64.wrap (IntKind.i64.wrap ((8 : Int) - a0))))], [], 0⟩) (by kernel_rfl) ?_
  refine AWp.ret ?_
  obtain rfl := Option.some.inj H
  exact Exists.intro _ (And.intro (fun _ _ h => h) (And.intro (.inl rfl) (And.intro rfl (And.intro (by kernel_rfl) (by kernel_rfl)))))
def f_bound_Most.f (a0 : Int) : Option (Int) := (f_bound_Right.f a0) >>= fun t851 => if (!t851) = true then (some 0) else ((f_bound_shift.f a0) >>= fun t857 => (chk (0 ≤ (IntKind.u64.wrap (IntKind.i64.wrap ((8 : Int) - a0))))) >>= fun _ => some (Int.fdiv (262144 : Int) (2 ^ (min (Int.toNat (IntKind.u64.wrap (IntKind.i64.wrap ((8 : Int) - a0)))) 64))))
theorem f_bound_Most.ok (a0 : Int) (r : Int) (H : f_bound_Most.f a0 = some r) : Pv.Fn Try.prog 95 [iV .i64 a0] [] 0 (fun x o => x = iV .i64 r ∧ o = []) := by
  unfold f_bound_Most.f at H
  refine Fn.bodyK [] Try.func95 rfl rfl (fun Γ hP hn => ?_)
  have hm : Try.prog.follows .mixedOrders = true := by kernel_rfl
  replace hn : Γ.n = 9 := hn
  refine AWp.seq ?_
  refine reg hP hn hm [] [0] [] ⟨[(0, iV .i64 a0)], [], 0⟩ [] (by kernel_rfl) trivial ?_
  refine AWp.seq ?_
  refine AWp.seq ?_
  obtain ⟨t851, e852, H⟩ := bind_of H
  refine reg hP hn hm [(1, .call [] [] [] [] 0 (bV t851) [])] [0, 5] [] ⟨[(0, iV .i64 a0), (5, bV (!t851))], [], 0⟩ [Enters Try.prog 48, Pv.Fn Try.prog 48 [iV .i64 a0] [] 0 (fun r o => r = bV t851 ∧ o = [])] (by kernel_rfl) ⟨by exact Try.call48, by exact f_bound_Right.ok a0 t851 e852, trivial⟩ ?_
  refine AWp.cond (!t851) rfl (fun c853 => ?_) (fun c853 => ?_)
  · replace H := (ifT c853).symm.trans H
    refine AWp.seq ?_
    refine reg hP hn hm [] [2] [] ⟨[(2, iV .i64 0)], [], 0⟩ [] (by kernel_rfl) trivial ?_
    refine AWp.conv (inv := []) (vk := []) (e0 := []) (t := ⟨[(2, iV .i64 0)], [], 0⟩) (by kernel_rfl) ?_
    refine AWp.ret ?_
    obtain rfl := Option.some.inj H
    exact Exists.intro _ (And.intro (fun _ _ h => h) (And.intro (.inl rfl) (And.intro rfl (And.intro (by kernel_rfl) (by kernel_rfl)))))
  · replace H := (ifF c853).symm.trans H
    refine AWp.skip ?_
    refine AWp.seq ?_
    obtain ⟨t857, e858, H⟩ := bind_of H
    obtain ⟨c859, H⟩ := chk_of H
    refine reg hP hn hm [(1, .call [] [] [] [] 0 (iV .u64 (IntKind.u64.wrap (IntKind.i64.wrap ((8 : Int) - a0)))) [])] [2] [] ⟨[(2, iV .i64 (Int.fdiv (262144 : Int) (2 ^ (min (Int.toNat (IntKind.u64.wrap (IntKind.i64.wrap ((8 : Int) - a0)))) 64))))], [], 0⟩ [Enters Try.prog 104, Pv.Fn Try.prog 104 [iV .i64 a0] [] 0 (fun r o => r = iV .u64 (IntKind.u64.wrap (IntKind.i64.wrap ((8 : Int) - a0))) ∧ o = []), 0 ≤ (IntKind.u64.wrap (IntKind.i64.wrap ((8 : Int) - a0)))] (by kernel_rfl) ⟨by exact Try.call104, by exact f_bound_shift.ok a0 t857 e858, by exact c859, trivial⟩ ?_
    refine AWp.conv (inv := []) (vk := []) (e0 := []) (t := ⟨[(2, iV .i64 (Int.fdiv (262144 : Int) (2 ^ (min (Int.toNat (IntKind.u64.wrap (IntKind.i64.wrap ((8 : Int) - a0)))) 64))))], [], 0⟩) (by kernel_rfl) ?_
    refine AWp.ret ?_
    obtain rfl := Option.some.inj H
    exact Exists.intro _ (And.intro (fun _ _ h => h) (And.intro (.inl rfl) (And.intro rfl (And.intro (by kernel_rfl) (by kernel_rfl)))))
def f_bound_Least.f (a0 : Int) : Option (Int) := (f_bound_Most.f a0) >>= fun t862 => some (IntKind.i64.wrap ((IntKind.i64.wrap (0 - t862)) + (1 : Int)))
theorem f_bound_Least.ok (a0 : Int) (r : Int) (H : f_bound_Least.f a0 = some r) : Pv.Fn Try.prog 94 [iV .i64 a0] [] 0 (fun x o => x = iV .i64 r ∧ o = []) := by
  unfold f_bound_Least.f at H
  refine Fn.bodyK [] Try.func94 rfl rfl (fun Γ hP hn => ?_)
  have hm : Try.prog.follows .mixedOrders = true := by kernel_rfl
  replace hn : Γ.n = 7 := hn
  refine AWp.seq ?_
  refine reg hP hn hm [] [0] [] ⟨[(0, iV .i64 a0)], [], 0⟩ [] (by kernel_rfl) trivial ?_
  refine AWp.seq ?_
  obtain ⟨t862, e863, H⟩ := bind_of H
  refine reg hP hn hm [(1, .call [] [] [] [] 0 (iV .i64 t862) [])] [2] [] ⟨[(2, iV .i64 (IntKind.i64.wrap ((IntKind.i64.wrap (0 - t862)) + (1 : Int))))], [], 0⟩ [Enters Try.prog 95, Pv.Fn Try.prog 95 [iV .i64 a0] [] 0 (fun r o => r = iV .i64 t862 ∧ o = [])] (by kernel_rfl) ⟨by exact Try.call95, by exact f_bound_Most.ok a0 t862 e863, trivial⟩ ?_
  refine AWp.conv (inv := []) (vk := []) (e0 := []) (t := ⟨[(2, iV .i64 (IntKind.i64.wrap ((IntKind.i64.wrap (0 - t862)) + (1 : Int))))], [], 0⟩) (by kernel_rfl) ?_
  refine AWp.ret ?_
  obtain rfl := Option.some.inj H
  exact Exists.intro _ (And.intro (fun _ _ h => h) (And.intro (.inl rfl) (And.intro rfl (And.intro (by kernel_rfl) (by kernel_rfl)))))
def f_bound_In.f (a0 : Int) (a1 : Int) : Option (Bool) := (((f_bound_Right.f a0) >>= fun t869 => if t869 = true then ((f_bound_Least.f a0) >>= fun t872 => if (decide (a1 ≥ t872)) = true then ((f_bound_Most.f a0) >>= fun t875 => some (decide (a1 ≤ t875))) else (some false)) else (some false)) : Option (Bool)) >>= fun x877 => some x877
theorem f_bound_In.ok (a0 : Int) (a1 : Int) (r : Bool) (H : f_bound_In.f a0 a1 = some r) : Pv.Fn Try.prog 80 [iV .i64 a0, iV .i64 a1] [] 0 (fun x o => x = bV r ∧ o = []) := by
  unfold f_bound_In.f at H
  refine Fn.bodyK [] Try.func80 rfl rfl (fun Γ hP hn => ?_)
  have hm : Try.prog.follows .mixedOrders = true := by kernel_rfl
  replace hn : Γ.n = 19 := hn
  refine AWp.seq ?_
  refine reg hP hn hm [] [0, 1] [] ⟨[(0, iV .i64 a0), (1, iV .i64 a1)], [], 0⟩ [] (by kernel_rfl) trivial ?_
  refine AWp.seq ?_
  obtain ⟨o878, e879, H⟩ := bind_of H
  refine AWp.mono (Q := fun e s => (match (generalizing := false) o878 with | x877 => e = .normal ∧ s = ⟨[(4, bV x877)], [], 0⟩)) (AWp.cv ?_) ?_
  · replace H := e879; clear e879
    obtain ⟨t869, e870, H⟩ := bind_of H
    rcases Bool.eq_false_or_eq_true t869 with c871 | c871
    · replace H := (ifT c871).symm.trans H
      obtain ⟨t872, e873, H⟩ := bind_of H
      rcases Bool.eq_false_or_eq_true (decide (a1 ≥ t872)) with c874 | c874
      · replace H := (ifT c874).symm.trans H
        obtain ⟨t875, e876, H⟩ := bind_of H
        refine reg hP hn hm [(1, .call [] [] [] [] 0 (bV t869) []), (2, .b true), (5, .call [] [] [] [] 0 (iV .i64 t872) []), (8, .b true), (11, .call [] [] [] [] 0 (iV .i64 t875) [])] [4] [] ⟨[(4, bV (decide (a1 ≤ t875)))], [], 0⟩ [Enters Try.prog 48, Pv.Fn Try.prog 48 [iV .i64 a0] [] 0 (fun r o => r = bV t869 ∧ o = []), t869 = true, Enters Try.prog 94, Pv.Fn Try.prog 94 [iV .i64 a0] [] 0 (fun r o => r = iV .i64 t872 ∧ o = []), (decide (a1 ≥ t872)) = true, Enters Try.prog 95, Pv.Fn Try.prog 95 [iV .i64 a0] [] 0 (fun r o => r = iV .i64 t875 ∧ o = [])] (by kernel_rfl) ⟨by exact Try.call48, by exact f_bound_Right.ok a0 t869 e870, by exact c871, by exact Try.call94, by exact f_bound_Least.ok a0 t872 e873, by exact c874, by exact Try.call95, by exact f_bound_Most.ok a0 t875 e876, trivial⟩ ?_
        obtain rfl := Option.some.inj H
        exact Exists.intro _ (And.intro (fun _ _ h => h.conv (inv := []) (vk := []) (e0 := []) (t := ⟨[(4, bV (decide (a1 ≤ t875)))], [], 0⟩) (by kernel_rfl)) (And.intro rfl rfl))
      · replace H := (ifF c874).symm.trans H
        refine reg hP hn hm [(1, .call [] [] [] [] 0 (bV t869) []), (2, .b true), (5, .call [] [] [] [] 0 (iV .i64 t872) []), (8, .b false)] [4] [] ⟨[(4, bV false)], [], 0⟩ [Enters Try.prog 48, Pv.Fn Try.prog 48 [iV .i64 a0] [] 0 (fun r o => r = bV t869 ∧ o = []), t869 = true, Enters Try.prog 94, Pv.Fn Try.prog 94 [iV .i64 a0] [] 0 (fun r o => r = iV .i64 t872 ∧ o = []), (decide (a1 ≥ t872)) = false] (by kernel_rfl) ⟨by exact Try.call48, by exact f_bound_Right.ok a0 t869 e870, by exact c871, by exact Try.call94, by exact f_bound_Least.ok a0 t872 e873, by exact c874, trivial⟩ ?_
        obtain rfl := Option.some.inj H
        exact Exists.intro _ (And.intro (fun _ _ h => h.conv (inv := []) (vk := []) (e0 := []) (t := ⟨[(4, bV false)], [], 0⟩) (by kernel_rfl)) (And.intro rfl rfl))
    · replace H := (ifF c871).symm.trans H
      refine reg hP hn hm [(1, .call [] [] [] [] 0 (bV t869) []), (2, .b false)] [4] [] ⟨[(4, bV false)], [], 0⟩ [Enters Try.prog 48, Pv.Fn Try.prog 48 [iV .i64 a0] [] 0 (fun r o => r = bV t869 ∧ o = []), t869 = false] (by kernel_rfl) ⟨by exact Try.call48, by exact f_bound_Right.ok a0 t869 e870, by exact c871, trivial⟩ ?_
      obtain rfl := Option.some.inj H
      exact Exists.intro _ (And.intro (fun _ _ h => h.conv (inv := []) (vk := []) (e0 := []) (t := ⟨[(4, bV false)], [], 0⟩) (by kernel_rfl)) (And.intro rfl rfl))
  · obtain ⟨x877, rfl⟩ : ∃ z, z = o878 := ⟨_, rfl⟩
    rintro e s ⟨rfl, rfl⟩
    refine AWp.conv (inv := []) (vk := []) (e0 := []) (t := ⟨[(4, bV x877)], [], 0⟩) (by kernel_rfl) ?_
    refine AWp.ret ?_
    obtain rfl := Option.some.inj H
    exact Exists.intro _ (And.intro (fun _ _ h => h) (And.intro (.inl rfl) (And.intro rfl (And.intro (by kernel_rfl) (by kernel_rfl)))))
def f_bound_Units.f (a0 : Int) (a1 : Int) : Option (Int) := (f_bound_Right.f a0) >>= fun t888 => if (!t888) = true then (some 0) else ((f_bound_shift.f a0) >>= fun t894 => (chk (0 ≤ (IntKind.u64.wrap (IntKind.i64.wrap ((8 : Int) - a0))))) >>= fun _ => some (IntKind.i64.wrap (a1 * 2 ^ (min (Int.toNat (IntKind.u64.wrap (IntKind.i64.wrap ((8 : Int) - a0)))) 64))))
theorem f_bound_Units.ok (a0 : Int) (a1 : Int) (r : Int) (H : f_bound_Units.f a0 a1 = some r) : Pv.Fn Try.prog 96 [iV .i64 a0, iV .i64 a1] [] 0 (fun x o => x = iV .i64 r ∧ o = []) := by
  unfold f_bound_Units.f at H
  refine Fn.bodyK [] Try.func96 rfl rfl (fun Γ hP hn => ?_)
  have hm : Try.prog.follows .mixedOrders = true := by kernel_rfl
  replace hn : Γ.n = 12 := hn
  refine AWp.seq ?_
  refine reg hP hn hm [] [0, 1] [] ⟨[(0, iV .i64 a0), (1, iV .i64 a1)], [], 0⟩ [] (by kernel_rfl) trivial ?_
  refine AWp.seq ?_
  refine AWp.seq ?_
  obtain ⟨t888, e889, H⟩ := bind_of H
  refine reg hP hn hm [(1, .call [] [] [] [] 0 (bV t888) [])] [0, 1, 7] [] ⟨[(0, iV .i64 a0), (1, iV .i64 a1), (7, bV (!t888))], [], 0⟩ [Enters Try.prog 48, Pv.Fn Try.prog 48 [iV .i64 a0] [] 0 (fun r o => r = bV t888 ∧ o = [])] (by kernel_rfl) ⟨by exact Try.call48, by exact f_bound_Right.ok a0 t888 e889, trivial⟩ ?_
  refine AWp.cond (!t888) rfl (fun c890 => ?_) (fun c890 => ?_)
  · replace H := (ifT c890).symm.trans H
    refine AWp.seq ?_
    refine reg hP hn hm [] [4] [] ⟨[(4, iV .i64 0)], [], 0⟩ [] (by kernel_rfl) trivial ?_
    refine AWp.conv (inv := []) (vk := []) (e0 := []) (t := ⟨[(4, iV .i64 0)], [], 0⟩) (by kernel_rfl) ?_
    refine AWp.ret ?_
    obtain rfl := Option.some.inj H
    exact Exists.intro _ (And.intro (fun _ _ h => h) (And.intro (.inl rfl) (And.intro rfl (And.intro (by kernel_rfl) (by kernel_rfl)))))
  · replace H := (ifF c890).symm.trans H
    refine AWp.skip ?_
    refine AWp.seq ?_
    obtain ⟨t894, e895, H⟩ := bind_of H
    obtain ⟨c896, H⟩ := chk_of H
    refine reg hP hn hm [(2, .call [] [] [] [] 0 (iV .u64 (IntKind.u64.wrap (IntKind.i64.wrap ((8 : Int) - a0)))) [])] [4] [] ⟨[(4, iV .i64 (IntKind.i64.wrap (a1 * 2 ^ (min (Int.toNat (IntKind.u64.wrap (IntKind.i64.wrap ((8 : Int) - a0)))) 64))))], [], 0⟩ [Enters Try.prog 104, Pv.Fn Try.prog 104 [iV .i64 a0] [] 0 (fun r o => r = iV .u64 (IntKind.u64.wrap (IntKind.i64.wrap ((8 : Int) - a0))) ∧ o = []), 0 ≤ (IntKind.u64.wrap (IntKind.i64.wrap ((8 : Int) - a0)))] (by kernel_rfl) ⟨by exact Try.call104, by exact f_bound_shift.ok a0 t894 e895, by exact c896, trivial⟩ ?_
    refine AWp.conv (inv := []) (vk := []) (e0 := []) (t := ⟨[(4, iV .i64 (IntKind.i64.wrap (a1 * 2 ^ (min (Int.toNat (IntKind.u64.wrap (IntKind.i64.wrap ((8 : Int) - a0)))) 64))))], [], 0⟩) (by kernel_rfl) ?_
    refine AWp.ret ?_
    obtain rfl := Option.some.inj H
    exact Exists.intro _ (And.intro (fun _ _ h => h) (And.intro (.inl rfl) (And.intro rfl (And.intro (by kernel_rfl) (by kernel_rfl)))))
def f_bound_Low.f (a0 : Int) (a1 : Int) : Option (Int) := (f_bound_Units.f a0 (IntKind.i64.wrap (a1 - (1 : Int)))) >>= fun t899 => some t899
theorem f_bound_Low.ok (a0 : Int) (a1 : Int) (r : Int) (H : f_bound_Low.f a0 a1 = some r) : Pv.Fn Try.prog 81 [iV .i64 a0, iV .i64 a1] [] 0 (fun x o => x = iV .i64 r ∧ o = []) := by
  unfold f_bound_Low.f at H
  refine Fn.bodyK [] Try.func81 rfl rfl (fun Γ hP hn => ?_)
  have hm : Try.prog.follows .mixedOrders = true := by kernel_rfl
  replace hn : Γ.n = 9 := hn
  refine AWp.seq ?_
  refine reg hP hn hm [] [0, 1] [] ⟨[(0, iV .i64 a0), (1, iV .i64 a1)], [], 0⟩ [] (by kernel_rfl) trivial ?_
  refine AWp.seq ?_
  obtain ⟨t899, e900, H⟩ := bind_of H
  refine reg hP hn hm [(3, .call [] [] [] [] 0 (iV .i64 t899) [])] [4] [] ⟨[(4, iV .i64 t899)], [], 0⟩ [Enters Try.prog 96, Pv.Fn Try.prog 96 [iV .i64 a0, iV .i64 (IntKind.i64.wrap (a1 - (1 : Int)))] [] 0 (fun r o => r = iV .i64 t899 ∧ o = [])] (by kernel_rfl) ⟨by exact Try.call96, by exact f_bound_Units.ok a0 (IntKind.i64.wrap (a1 - (1 : Int))) t899 e900, trivial⟩ ?_
  refine AWp.conv (inv := []) (vk := []) (e0 := []) (t := ⟨[(4, iV .i64 t899)], [], 0⟩) (by kernel_rfl) ?_
  refine AWp.ret ?_
  obtain rfl := Option.some.inj H
  exact Exists.intro _ (And.intro (fun _ _ h => h) (And.intro (.inl rfl) (And.intro rfl (And.intro (by kernel_rfl) (by kernel_rfl)))))
def f_hist_buckets.l0 (a0 : THist) (a1 : List TBucket) (x906 : Int) : Option (Int ⊕ Unit) := if (decide (x906 < (a1.length : Int))) = true then ((at? a1 x906) >>= fun b911 => (f_bound_In.f a0.f1 b911.f0) >>= fun t916 => if (!t916) = true then (some (.inl 4)) else (((if (decide (x906 > (0 : Int))) = true then ((at? a1 (IntKind.i64.wrap (x906 - (1 : Int)))) >>= fun b924 => some (decide (b924.f0 ≥ b911.f0))) else (some false)) : Option (Bool)) >>= fun x927 => if x927 = true then (some (.inl 32)) else (if (b911.f1 == (0 : Int)) = true then (some (.inl 21)) else ((f_bound_Low.f a0.f1 b911.f0) >>= fun t932 => if (decide (t932 < a0.f2)) = true then (some (.inl 31)) else (f_hist_buckets.l0 a0 a1 (IntKind.i64.wrap (x906 + (1 : Int)))))))) else (some (.inr ()))
partial_fixpoint
def f_hist_buckets.f (a0 : THist) (a1 : List TBucket) : Option (Int) := if (decide ((a1.length : Int) > (512 : Int))) = true then (some 9) else ((f_hist_buckets.l0 a0 a1 0) >>= fun oo => match oo with | .inl rr => (some rr) | .inr _ => (some 0))
theorem f_hist_buckets.ok (a0 : THist) (a1 : List TBucket) (r : Int) (H : f_hist_buckets.f a0 a1 = some r) : Pv.Fn Try.prog 49 [.agg (aHist a0), .im (.row (a1.map eBucket))] [] 0 (fun x o => x = iV .i64 r ∧ o = []) := by
  unfold f_hist_buckets.f at H
  refine Fn.bodyK [] Try.func49 rfl rfl (fun Γ hP hn => ?_)
  have hm : Try.prog.follows .mixedOrders = true := by kernel_rfl
  replace hn : Γ.n = 52 := hn
  refine AWp.seq ?_
  refine reg hP hn hm [(0, .k 0)] [1, 2] [0] ⟨[(1, .im (.row (a1.map eBucket))), (2, .ptr 0 0 0)], [(0, some (.box 30 (aHist a0)))], 0⟩ [] (by kernel_rfl) trivial ?_
  refine AWp.seq ?_
  refine AWp.seq ?_
  refine reg hP hn hm [(1, .any (iV .i64 (a1.length : Int)))] [1, 2, 9] [0] ⟨[(1, .im (.row (a1.map eBucket))), (2, .ptr 0 0 0), (9, bV (decide ((a1.length : Int) > (512 : Int))))], [(0, some (.box 30 (aHist a0)))], 0⟩ [((a1.map eBucket).length : Int) = (a1.length : Int)] (by kernel_rfl) ⟨by rw [len_map], trivial⟩ ?_
  refine AWp.cond (decide ((a1.length : Int) > (512 : Int))) rfl (fun c838 => ?_) (fun c838 => ?_)
  · replace H := (ifT c838).symm.trans H
    refine AWp.seq ?_
    refine reg hP hn hm [] [4] [] ⟨[(4, iV .i64 9)], [], 0⟩ [] (by kernel_rfl) trivial ?_
    refine AWp.conv (inv := []) (vk := []) (e0 := []) (t := ⟨[(4, iV .i64 9)], [], 0⟩) (by kernel_rfl) ?_
    refine AWp.ret ?_
    obtain rfl := Option.some.inj H
    exact Exists.intro _ (And.intro (fun _ _ h => h) (And.intro (.inl rfl) (And.intro rfl (And.intro (by kernel_rfl) (by kernel_rfl)))))
  · replace H := (ifF c838).symm.trans H
    refine AWp.skip ?_
    refine AWp.seq ?_
    refine AWp.seq ?_
    refine reg hP hn hm [(1, .any (iV .i64 (a1.length : Int)))] [1, 2, 10, 11, 12] [0] ⟨[(1, .im (.row (a1.map eBucket))), (2, .ptr 0 0 0), (10, .im (.row (a1.map eBucket))), (11, iV .i64 (a1.length : Int)), (12, iV .i64 0)], [(0, some (.box 30 (aHist a0)))], 0⟩ [((a1.map eBucket).length : Int) = (a1.length : Int)] (by kernel_rfl) ⟨by rw [len_map], trivial⟩ ?_
    refine AWp.block ?_
    obtain ⟨o935, e936, H⟩ := bind_of H
    refine AWp.loop (LWp.conv (inv := [(0, 2)]) (vk := []) (e0 := []) (t := ⟨[(1, .im (.row (a1.map eBucket))), (2, .ptr 2 0 0), (10, .im (.row (a1.map eBucket))), (11, iV .i64 (a1.length : Int)), (12, iV .i64 0)], [(2, some (.box 30 (aHist a0)))], 0⟩) (by kernel_rfl) ?_)
    refine LWp.mono (Q := fun e s => (match (generalizing := false) o935 with | .inl rr => e = .ret ∧ s.floor = 0 ∧ resOf Try.prog Try.f49 s = some (iV .i64 rr) ∧ ([] : List (Nat × Option MObj)) = [] | .inr _ => e = .exit 0 ∧ s = ⟨[], [], 0⟩)) (LWp.cv (withBody (fun body hbody => ?_))) ?_
    · refine f_hist_buckets.l0.partial_correctness a0 a1 (motive := fun x906 o935 => LWp Γ body (fun e s => ∃ t, Cv Γ s t ∧ (match (generalizing := false) o935 with | .inl rr => e = .ret ∧ t.floor = 0 ∧ resOf Try.prog Try.f49 t = some (iV .i64 rr) ∧ ([] : List (Nat × Option MObj)) = [] | .inr _ => e = .exit 0 ∧ t = ⟨[], [], 0⟩)) ⟨[(1, .im (.row (a1.map eBucket))), (2, .ptr 2 0 0), (10, .im (.row (a1.map eBucket))), (11, iV .i64 (a1.length : Int)), (12, iV .i64 x906)], [(2, some (.box 30 (aHist a0)))], 0⟩) ?_ _ _ e936
      clear H e936 o935; intro self ih x906 o935 H
      subst hbody
      refine LWp.round ?_
      refine AWp.seq ?_
      refine reg hP hn hm [] [1, 2, 10, 11, 12, 13] [2] ⟨[(1, .im (.row (a1.map eBucket))), (2, .ptr 2 0 0), (10, .im (.row (a1.map eBucket))), (11, iV .i64 (a1.length : Int)), (12, iV .i64 x906), (13, bV (decide (x906 < (a1.length : Int))))], [(2, some (.box 30 (aHist a0)))], 0⟩ [] (by kernel_rfl) trivial ?_
      refine AWp.seq ?_
      refine AWp.cond (decide (x906 < (a1.length : Int))) rfl (fun c907 => ?_) (fun c907 => ?_)
      · replace H := (ifT c907).symm.trans H
        refine AWp.skip ?_
        refine AWp.seq ?_
        refine AWp.block ?_
        refine AWp.seq ?_
        obtain ⟨b911, p912, q913, H⟩ := at_of H
        refine reg hP hn hm [(1, .c (eBucket b911)), (3, .k 3)] [1, 2, 5, 6, 10, 11, 12] [2, 3] ⟨[(1, .im (.row (a1.map eBucket))), (2, .ptr 2 0 0), (5, iV .i64 x906), (6, .ptr 3 0 0), (10, .im (.row (a1.map eBucket))), (11, iV .i64 (a1.length : Int)), (12, iV .i64 x906)], [(2, some (.box 30 (aHist a0))), (3, some (.box 36 (aBucket b911)))], 0⟩ [0 ≤ x906, (a1.map eBucket)[(Int.toNat (x906))]? = some (eBucket b911)] (by kernel_rfl) ⟨by exact p912, by exact el_map eBucket q913, trivial⟩ ?_
        refine AWp.block ?_
        refine AWp.seq ?_
        obtain ⟨t916, e917, H⟩ := bind_of H
        refine reg hP hn hm [(4, .call [] [] [] [] 0 (bV t916) [])] [1, 2, 5, 6, 10, 11, 12, 17] [2, 3] ⟨[(1, .im (.row (a1.map eBucket))), (2, .ptr 2 0 0), (5, iV .i64 x906), (6, .ptr 3 0 0), (10, .im (.row (a1.map eBucket))), (11, iV .i64 (a1.length : Int)), (12, iV .i64 x906), (17, bV (!t916))], [(2, some (.box 30 (aHist a0))), (3, some (.box 36 (aBucket b911)))], 0⟩ [Enters Try.prog 80, Pv.Fn Try.prog 80 [iV .i64 a0.f1, iV .i64 b911.f0] [] 0 (fun r o => r = bV t916 ∧ o = [])] (by kernel_rfl) ⟨by exact Try.call80, by exact f_bound_In.ok a0.f1 b911.f0 t916 e917, trivial⟩ ?_
        refine AWp.cond (!t916) rfl (fun c918 => ?_) (fun c918 => ?_)
        · replace H := (ifT c918).symm.trans H
          refine AWp.seq ?_
          refine reg hP hn hm [] [4] [] ⟨[(4, iV .i64 4)], [], 0⟩ [] (by kernel_rfl) trivial ?_
          refine AWp.conv (inv := []) (vk := []) (e0 := []) (t := ⟨[(4, iV .i64 4)], [], 0⟩) (by kernel_rfl) ?_
          refine AWp.ret ?_
          obtain rfl := Option.some.inj H
          exact Exists.intro _ (And.intro (fun _ _ h => h) (And.intro rfl (And.intro rfl (And.intro (by kernel_rfl) (by kernel_rfl)))))
        · replace H := (ifF c918).symm.trans H
          refine AWp.seq ?_
          obtain ⟨o937, e938, H⟩ := bind_of H
          refine AWp.mono (Q := fun e s => (match (generalizing := false) o937 with | x927 => e = .normal ∧ s = ⟨[(1, .im (.row (a1.map eBucket))), (2, .ptr 4 0 0), (6, .ptr 5 0 0), (10, .im (.row (a1.map eBucket))), (11, iV .i64 (a1.length : Int)), (12, iV .i64 x906), (24, bV x927)], [(4, some (.box 30 (aHist a0))), (5, some (.box 36 (aBucket b911)))], 0⟩)) (AWp.cv ?_) ?_
          · replace H := e938; clear e938
            rcases Bool.eq_false_or_eq_true (decide (x906 > (0 : Int))) with c923 | c923
            · replace H := (ifT c923).symm.trans H
              obtain ⟨b924, p925, q926, H⟩ := at_of H
              refine reg hP hn hm [(2, .b true), (6, .c (eBucket b924))] [1, 2, 6, 10, 11, 12, 24, 28, 29, 30, 31, 32, 33, 34, 35, 36] [2, 3] ⟨[(1, .im (.row (a1.map eBucket))), (2, .ptr 2 0 0), (6, .ptr 3 0 0), (10, .im (.row (a1.map eBucket))), (11, iV .i64 (a1.length : Int)), (12, iV .i64 x906), (24, bV (decide (b924.f0 ≥ b911.f0))), (28, .im (.row (a1.map eBucket))), (29, iV .i64 x906), (30, iV .i64 (IntKind.i64.wrap (x906 - (1 : Int)))), (31, .ip [iI .i64 b924.f0, iI .u64 b924.f1]), (32, .ip [iI .i64 b924.f0, iI .u64 b924.f1]), (33, iV .i64 b924.f0), (34, .ptr 3 0 0), (35, iV .i64 b911.f0), (36, bV (decide (b924.f0 ≥ b911.f0)))], [(2, some (.box 30 (aHist a0))), (3, some (.box 36 (aBucket b911)))], 0⟩ [(decide (x906 > (0 : Int))) = true, 0 ≤ (IntKind.i64.wrap (x906 - (1 : Int))), (a1.map eBucket)[(Int.toNat (IntKind.i64.wrap (x906 - (1 : Int))))]? = some (eBucket b924)] (by kernel_rfl) ⟨by exact c923, by exact p925, by exact el_map eBucket q926, trivial⟩ ?_
              obtain rfl := Option.some.inj H
              exact Exists.intro _ (And.intro (fun _ _ h => h.conv (inv := [(2, 4), (3, 5)]) (vk := []) (e0 := []) (t := ⟨[(1, .im (.row (a1.map eBucket))), (2, .ptr 4 0 0), (6, .ptr 5 0 0), (10, .im (.row (a1.map eBucket))), (11, iV .i64 (a1.length : Int)), (12, iV .i64 x906), (24, bV (decide (b924.f0 ≥ b911.f0)))], [(4, some (.box 30 (aHist a0))), (5, some (.box 36 (aBucket b911)))], 0⟩) (by kernel_rfl)) (And.intro rfl rfl))
            · replace H := (ifF c923).symm.trans H
              refine reg hP hn hm [(2, .b false)] [1, 2, 6, 10, 11, 12, 24] [2, 3] ⟨[(1, .im (.row (a1.map eBucket))), (2, .ptr 2 0 0), (6, .ptr 3 0 0), (10, .im (.row (a1.map eBucket))), (11, iV .i64 (a1.length : Int)), (12, iV .i64 x906), (24, bV false)], [(2, some (.box 30 (aHist a0))), (3, some (.box 36 (aBucket b911)))], 0⟩ [(decide (x906 > (0 : Int))) = false] (by kernel_rfl) ⟨by exact c923, trivial⟩ ?_
              obtain rfl := Option.some.inj H
              exact Exists.intro _ (And.intro (fun _ _ h => h.conv (inv := [(2, 4), (3, 5)]) (vk := []) (e0 := []) (t := ⟨[(1, .im (.row (a1.map eBucket))), (2, .ptr 4 0 0), (6, .ptr 5 0 0), (10, .im (.row (a1.map eBucket))), (11, iV .i64 (a1.length : Int)), (12, iV .i64 x906), (24, bV false)], [(4, some (.box 30 (aHist a0))), (5, some (.box 36 (aBucket b911)))], 0⟩) (by kernel_rfl)) (And.intro rfl rfl))
          · obtain ⟨x927, rfl⟩ : ∃ z, z = o937 := ⟨_, rfl⟩
            rintro e s ⟨rfl, rfl⟩
            refine AWp.cond x927 rfl (fun c928 => ?_) (fun c928 => ?_)
            · replace H := (ifT c928).symm.trans H
              refine AWp.seq ?_
              refine reg hP hn hm [] [4] [] ⟨[(4, iV .i64 32)], [], 0⟩ [] (by kernel_rfl) trivial ?_
              refine AWp.conv (inv := []) (vk := []) (e0 := []) (t := ⟨[(4, iV .i64 32)], [], 0⟩) (by kernel_rfl) ?_
              refine AWp.ret ?_
              obtain rfl := Option.some.inj H
              exact Exists.intro _ (And.intro (fun _ _ h => h) (And.intro rfl (And.intro rfl (And.intro (by kernel_rfl) (by kernel_rfl)))))
            · replace H := (ifF c928).symm.trans H
              refine AWp.seq ?_
              refine reg hP hn hm [] [1, 2, 6, 10, 11, 12, 38] [4, 5] ⟨[(1, .im (.row (a1.map eBucket))), (2, .ptr 4 0 0), (6, .ptr 5 0 0), (10, .im (.row (a1.map eBucket))), (11, iV .i64 (a1.length : Int)), (12, iV .i64 x906), (38, bV (b911.f1 == (0 : Int)))], [(4, some (.box 30 (aHist a0))), (5, some (.box 36 (aBucket b911)))], 0⟩ [] (by kernel_rfl) trivial ?_
              refine AWp.cond (b911.f1 == (0 : Int)) rfl (fun c929 => ?_) (fun c929 => ?_)
              · replace H := (ifT c929).symm.trans H
                refine AWp.seq ?_
                refine reg hP hn hm [] [4] [] ⟨[(4, iV .i64 21)], [], 0⟩ [] (by kernel_rfl) trivial ?_
                refine AWp.conv (inv := []) (vk := []) (e0 := []) (t := ⟨[(4, iV .i64 21)], [], 0⟩) (by kernel_rfl) ?_
                refine AWp.ret ?_
                obtain rfl := Option.some.inj H
                exact Exists.intro _ (And.intro (fun _ _ h => h) (And.intro rfl (And.intro rfl (And.intro (by kernel_rfl) (by kernel_rfl)))))
              · replace H := (ifF c929).symm.trans H
                refine AWp.seq ?_
                obtain ⟨t932, e933, H⟩ := bind_of H
                refine reg hP hn hm [(4, .call [] [] [] [] 0 (iV .i64 t932) [])] [1, 2, 10, 11, 12, 42] [4] ⟨[(1, .im (.row (a1.map eBucket))), (2, .ptr 4 0 0), (10, .im (.row (a1.map eBucket))), (11, iV .i64 (a1.length : Int)), (12, iV .i64 x906), (42, bV (decide (t932 < a0.f2)))], [(4, some (.box 30 (aHist a0)))], 0⟩ [Enters Try.prog 81, Pv.Fn Try.prog 81 [iV .i64 a0.f1, iV .i64 b911.f0] [] 0 (fun r o => r = iV .i64 t932 ∧ o = [])] (by kernel_rfl) ⟨by exact Try.call81, by exact f_bound_Low.ok a0.f1 b911.f0 t932 e933, trivial⟩ ?_
                refine AWp.cond (decide (t932 < a0.f2)) rfl (fun c934 => ?_) (fun c934 => ?_)
                · replace H := (ifT c934).symm.trans H
                  refine AWp.seq ?_
                  refine reg hP hn hm [] [4] [] ⟨[(4, iV .i64 31)], [], 0⟩ [] (by kernel_rfl) trivial ?_
                  refine AWp.conv (inv := []) (vk := []) (e0 := []) (t := ⟨[(4, iV .i64 31)], [], 0⟩) (by kernel_rfl) ?_
                  refine AWp.ret ?_
                  obtain rfl := Option.some.inj H
                  exact Exists.intro _ (And.intro (fun _ _ h => h) (And.intro rfl (And.intro rfl (And.intro (by kernel_rfl) (by kernel_rfl)))))
                · replace H := (ifF c934).symm.trans H
                  refine AWp.skip ?_
                  refine reg hP hn hm [] [1, 2, 10, 11, 12] [4] ⟨[(1, .im (.row (a1.map eBucket))), (2, .ptr 4 0 0), (10, .im (.row (a1.map eBucket))), (11, iV .i64 (a1.length : Int)), (12, iV .i64 (IntKind.i64.wrap (x906 + (1 : Int))))], [(4, some (.box 30 (aHist a0)))], 0⟩ [] (by kernel_rfl) trivial ?_
                  exact LWp.conv (inv := [(4, 2)]) (vk := []) (e0 := []) (t := ⟨[(1, .im (.row (a1.map eBucket))), (2, .ptr 2 0 0), (10, .im (.row (a1.map eBucket))), (11, iV .i64 (a1.length : Int)), (12, iV .i64 (IntKind.i64.wrap (x906 + (1 : Int))))], [(2, some (.box 30 (aHist a0)))], 0⟩) (by kernel_rfl) (ih _ _ H)
      · replace H := (ifF c907).symm.trans H
        refine AWp.exit ?_
        obtain rfl := Option.some.inj H
        exact Exists.intro _ (And.intro (fun _ _ h => h.conv (inv := []) (vk := []) (e0 := []) (t := ⟨[], [], 0⟩) (by kernel_rfl)) (And.intro rfl rfl))
    · rcases o935 with rr | _
      · skip
        rintro e s ⟨rfl, hfl, hres⟩
        obtain rfl := Option.some.inj H
        exact Exists.intro _ (And.intro (fun _ _ h => h) (And.intro (.inl rfl) (And.intro hfl hres)))
      · skip
        rintro e s ⟨rfl, rfl⟩
        refine AWp.seq ?_
        refine reg hP hn hm [] [4] [] ⟨[(4, iV .i64 0)], [], 0⟩ [] (by kernel_rfl) trivial ?_
        refine AWp.conv (inv := []) (vk := []) (e0 := []) (t := ⟨[(4, iV .i64 0)], [], 0⟩) (by kernel_rfl) ?_
        refine AWp.ret ?_
        obtain rfl := Option.some.inj H
        exact Exists.intro _ (And.intro (fun _ _ h => h) (And.intro (.inl rfl) (And.intro rfl (And.intro (by kernel_rfl) (by kernel_rfl)))))
end Go.Proofs.Ytjfhobijgkccdaa.PvGA3
