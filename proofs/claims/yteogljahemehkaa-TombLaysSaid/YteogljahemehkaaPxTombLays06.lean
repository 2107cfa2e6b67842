import Derived.Test.YteogljahemehkaaProg
import Derived.Test.YteogljahemehkaaPxTombLays05
set_option linter.unusedVariables false
set_option linter.unnecessarySimpa false
set_option linter.unusedSimpArgs false
set_option maxRecDepth 10000
namespace Go.Proofs.Yteogljahemehkaa.PvGC1
open Go Go.Pv
structure Ttomb_Range where
  f0 : Int
  f1 : Int
  deriving DecidableEq, Inhabited
abbrev etomb_Range (x : Ttomb_Range) : List Im := [iI .i64 x.f0, iI .i64 x.f1]
abbrev atomb_Range (x : Ttomb_Range) : List AVal := [iV .i64 x.f0, iV .i64 x.f1]
structure Rtomb_Range (x : Ttomb_Range) : Prop where
  r0 : I64 x.f0
  r1 : I64 x.f1
structure Ttomb_Set where
  f0 : List Ttomb_Range
  deriving DecidableEq, Inhabited
structure Rtomb_Set (x : Ttomb_Set) : Prop where
  r0 : x.f0.length ≤ maxLen ∧ ∀ y ∈ x.f0, Rtomb_Range y
structure TBucket where
  f0 : Int
  f1 : Int
  deriving DecidableEq, Inhabited
structure RBucket (x : TBucket) : Prop where
  r0 : I64 x.f0
  r1 : U64 x.f1
structure THist where
  f0 : Int
  f1 : Int
  f2 : Int
  f3 : Int
  f4 : Int
  f5 : Int
  f6 : List TBucket
  f7 : List TBucket
  deriving DecidableEq, Inhabited
structure RHist (x : THist) : Prop where
  r0 : I64 x.f0
  r1 : I64 x.f1
  r2 : I64 x.f2
  r3 : U64 x.f3
  r4 : U64 x.f4
  r5 : I64 x.f5
  r6 : x.f6.length ≤ maxLen ∧ ∀ y ∈ x.f6, RBucket y
  r7 : x.f7.length ≤ maxLen ∧ ∀ y ∈ x.f7, RBucket y
structure TSample where
  f0 : Int
  f1 : THist
  deriving DecidableEq, Inhabited
structure RSample (x : TSample) : Prop where
  r0 : I64 x.f0
  r1 : RHist x.f1
structure Tbits_Writer where
  f0 : List Int
  f1 : Int
  deriving DecidableEq, Inhabited
abbrev abits_Writer (x : Tbits_Writer) : List AVal := [.im (.row (x.f0.map (encInt .u8))), iV .u64 x.f1]
structure Rbits_Writer (x : Tbits_Writer) : Prop where
  r0 : x.f0.length ≤ maxLen ∧ ∀ y ∈ x.f0, Rng 0 256 y
  r1 : U64 x.f1
structure Tbits_Reader where
  f0 : List Int
  f1 : Int
  f2 : Int
  deriving DecidableEq, Inhabited
abbrev abits_Reader (x : Tbits_Reader) : List AVal := [.im (.row (x.f0.map (encInt .u8))), iV .i64 x.f1, iV .i64 x.f2]
structure Rbits_Reader (x : Tbits_Reader) : Prop where
  r0 : x.f0.length ≤ maxLen ∧ ∀ y ∈ x.f0, Rng 0 256 y
  r1 : I64 x.f1
  r2 : I64 x.f2
def f_slices_Clone_tomb_Range.f (a0 : List Ttomb_Range) : Option (List Ttomb_Range) := (chk ((([] : List Ttomb_Range).length + a0.length) * 16 ≤ 140737488355328)) >>= fun _ => some a0
theorem f_slices_Clone_tomb_Range.ok (a0 r : List Ttomb_Range) (H : f_slices_Clone_tomb_Range.f a0 = some r) : Pv.Fn Try.prog 56 [.im (.row (a0.map etomb_Range))] [] 0 (fun x o => x = .own 0 ∧ o = [(0, some (.row 2 64 (r.map etomb_Range)))]) := by
  unfold f_slices_Clone_tomb_Range.f at H
  obtain ⟨c1, H⟩ := chk_of H
  obtain rfl := Option.some.inj H
  refine Fn.bodyK [0] Try.func56 rfl rfl (fun Γ hP hn => ?_)
  have hm : Try.prog.follows .mixedOrders = true := by kernel_rfl
  replace hn : Γ.n = 8 := hn
  refine AWp.seq ?_
  refine reg hP hn hm [] [0, 2] [] ⟨[(0, .im (.row (a0.map etomb_Range))), (2, .none0)], [], 0⟩ [] (by kernel_rfl) trivial ?_
  refine AWp.seq ?_
  cases a0 with
  | nil =>
    refine AWp.nilSplit 0 rfl (fun b m => ?_)
    refine AWp.seq ?_
    cases b with
    | none =>
      refine reg hP hn hm [(1, .more xNil)] [2, 4] [] ⟨[(2, .none0), (4, bV true)], [], 0⟩ [] (by kernel_rfl) trivial ?_
      refine AWp.cond true rfl (fun _ => ?_) (fun h => nomatch h)
      refine AWp.seq ?_
      refine reg hP hn hm [] [2] [] ⟨[(2, .none0)], [], 0⟩ [] (by kernel_rfl) trivial ?_
      refine AWp.conv (inv := []) (vk := []) (e0 := [0]) (t := ⟨[(2, .own 0)], [(0, some (.row 2 64 []))], 0⟩) (by kernel_rfl) ?_
      refine AWp.ret ?_
      exact Exists.intro _ (And.intro (fun _ _ h => h) (And.intro (.inl rfl) (And.intro rfl (And.intro (by kernel_rfl) (by kernel_rfl)))))
    | some b =>
      refine reg hP hn hm [(1, .more xNil)] [0, 2, 4] [] ⟨[(0, .im (.sc (.slice (some b) 0 m))), (2, .none0), (4, bV false)], [], 0⟩ [] (by kernel_rfl) trivial ?_
      refine AWp.cond false rfl (fun h => nomatch h) (fun _ => ?_)
      refine AWp.skip ?_
      refine AWp.unsplit 0 rfl ?_
      refine AWp.seq ?_
      refine reg hP hn hm [(0, .app 0 ([] : List (List Im))), (2, .app 1 (([] : List Ttomb_Range).map etomb_Range))] [2] [1] ⟨[(2, .own 1)], [(1, some (.row 2 64 (([] : List Ttomb_Range).map etomb_Range)))], 0⟩ [([] : List (List Im)) = [], ([] : List Ttomb_Range).map etomb_Range = ([] : List (List Im)) ++ ([] : List Ttomb_Range).map etomb_Range, ∀ c ∈ ([] : List Ttomb_Range).map etomb_Range, c.length = 2, ∀ c ∈ ([] : List Ttomb_Range).map etomb_Range, leaves (c.map .im) = true, (([] : List (List Im)).length + (([] : List Ttomb_Range).map etomb_Range).length) * 16 ≤ 140737488355328] (by kernel_rfl) ⟨rfl, by simp, by exact all_len _ _ _ (fun _ => rfl), by exact all_leaf _ _ (fun _ => rfl), by simpa using c1, trivial⟩ ?_
      refine AWp.conv (inv := [(1, 0)]) (vk := []) (e0 := []) (t := ⟨[(2, .own 0)], [(0, some (.row 2 64 (([] : List Ttomb_Range).map etomb_Range)))], 0⟩) (by kernel_rfl) ?_
      refine AWp.ret ?_
      exact Exists.intro _ (And.intro (fun _ _ h => h) (And.intro (.inl rfl) (And.intro rfl (And.intro (by kernel_rfl) (by kernel_rfl)))))
  | cons y l =>
    refine AWp.seq ?_
    refine reg hP hn hm [(1, .more xNil)] [0, 2, 4] [] ⟨[(0, .im (.row ((y :: l).map etomb_Range))), (2, .none0), (4, bV false)], [], 0⟩ [] (by kernel_rfl) trivial ?_
    refine AWp.cond false rfl (fun h => nomatch h) (fun _ => ?_)
    refine AWp.skip ?_
    refine AWp.seq ?_
    refine reg hP hn hm [(0, .app 0 ([] : List (List Im))), (2, .app 1 ((y :: l).map etomb_Range))] [2] [1] ⟨[(2, .own 1)], [(1, some (.row 2 64 ((y :: l).map etomb_Range)))], 0⟩ [([] : List (List Im)) = [], (y :: l).map etomb_Range = ([] : List (List Im)) ++ (y :: l).map etomb_Range, ∀ c ∈ (y :: l).map etomb_Range, c.length = 2, ∀ c ∈ (y :: l).map etomb_Range, leaves (c.map .im) = true, (([] : List (List Im)).length + ((y :: l).map etomb_Range).length) * 16 ≤ 140737488355328] (by kernel_rfl) ⟨rfl, by simp, by exact all_len _ _ _ (fun _ => rfl), by exact all_leaf _ _ (fun _ => rfl), by simpa using c1, trivial⟩ ?_
    refine AWp.conv (inv := [(1, 0)]) (vk := []) (e0 := []) (t := ⟨[(2, .own 0)], [(0, some (.row 2 64 ((y :: l).map etomb_Range)))], 0⟩) (by kernel_rfl) ?_
    refine AWp.ret ?_
    exact Exists.intro _ (And.intro (fun _ _ h => h) (And.intro (.inl rfl) (And.intro rfl (And.intro (by kernel_rfl) (by kernel_rfl)))))
def f_tomb_Right.f (a0 : Ttomb_Range) : Option (Bool) := ((if (decide (a0.f0 ≥ (0 : Int))) = true then (if (decide (a0.f0 ≤ a0.f1)) = true then (some (decide (a0.f1 ≤ (1099511627776 : Int)))) else (some false)) else (some false)) : Option (Bool)) >>= fun x15 => some x15
theorem f_tomb_Right.ok (a0 : Ttomb_Range) (r : Bool) (H : f_tomb_Right.f a0 = some r) : Pv.Fn Try.prog 32 [.agg (atomb_Range a0)] [] 0 (fun x o => x = bV r ∧ o = []) := by
  unfold f_tomb_Right.f at H
  refine Fn.bodyK [] Try.func32 rfl rfl (fun Γ hP hn => ?_)
  have hm : Try.prog.follows .mixedOrders = true := by kernel_rfl
  replace hn : Γ.n = 18 := hn
  refine AWp.seq ?_
  refine reg hP hn hm [(0, .k 0)] [1] [0] ⟨[(1, .ptr 0 0 0)], [(0, some (.box 64 (atomb_Range a0)))], 0⟩ [] (by kernel_rfl) trivial ?_
  refine AWp.seq ?_
  obtain ⟨o16, e17, H⟩ := bind_of H
  refine AWp.mono (Q := fun e s => (match (generalizing := false) o16 with | x15 => e = .normal ∧ s = ⟨[(2, bV x15)], [], 0⟩)) (AWp.cv ?_) ?_
  · replace H := e17; clear e17
    rcases Bool.eq_false_or_eq_true (decide (a0.f0 ≥ (0 : Int))) with c13 | c13
    · replace H := (ifT c13).symm.trans H
      rcases Bool.eq_false_or_eq_true (decide (a0.f0 ≤ a0.f1)) with c14 | c14
      · replace H := (ifT c14).symm.trans H
        refine reg hP hn hm [(3, .b true), (10, .b true)] [2] [] ⟨[(2, bV (decide (a0.f1 ≤ (1099511627776 : Int))))], [], 0⟩ [(decide (a0.f0 ≥ (0 : Int))) = true, (decide (a0.f0 ≤ a0.f1)) = true] (by kernel_rfl) ⟨by exact c13, by exact c14, trivial⟩ ?_
        obtain rfl := Option.some.inj H
        exact Exists.intro _ (And.intro (fun _ _ h => h.conv (inv := []) (vk := []) (e0 := []) (t := ⟨[(2, bV (decide (a0.f1 ≤ (1099511627776 : Int))))], [], 0⟩) (by kernel_rfl)) (And.intro rfl rfl))
      · replace H := (ifF c14).symm.trans H
        refine reg hP hn hm [(3, .b true), (10, .b false)] [2] [] ⟨[(2, bV false)], [], 0⟩ [(decide (a0.f0 ≥ (0 : Int))) = true, (decide (a0.f0 ≤ a0.f1)) = false] (by kernel_rfl) ⟨by exact c13, by exact c14, trivial⟩ ?_
        obtain rfl := Option.some.inj H
        exact Exists.intro _ (And.intro (fun _ _ h => h.conv (inv := []) (vk := []) (e0 := []) (t := ⟨[(2, bV false)], [], 0⟩) (by kernel_rfl)) (And.intro rfl rfl))
    · replace H := (ifF c13).symm.trans H
      refine reg hP hn hm [(3, .b false)] [2] [] ⟨[(2, bV false)], [], 0⟩ [(decide (a0.f0 ≥ (0 : Int))) = false] (by kernel_rfl) ⟨by exact c13, trivial⟩ ?_
      obtain rfl := Option.some.inj H
      exact Exists.intro _ (And.intro (fun _ _ h => h.conv (inv := []) (vk := []) (e0 := []) (t := ⟨[(2, bV false)], [], 0⟩) (by kernel_rfl)) (And.intro rfl rfl))
  · obtain ⟨x15, rfl⟩ : ∃ z, z = o16 := ⟨_, rfl⟩
    rintro e s ⟨rfl, rfl⟩
    refine AWp.conv (inv := []) (vk := []) (e0 := []) (t := ⟨[(2, bV x15)], [], 0⟩) (by kernel_rfl) ?_
    refine AWp.ret ?_
    obtain rfl := Option.some.inj H
    exact Exists.intro _ (And.intro (fun _ _ h => h) (And.intro (.inl rfl) (And.intro rfl (And.intro (by kernel_rfl) (by kernel_rfl)))))
def f_tomb_Of_1.f (a0 : Ttomb_Range) : Option (Bool) := (f_tomb_Right.f a0) >>= fun t20 => some (!t20)
theorem f_tomb_Of_1.ok (a0 : Ttomb_Range) (r : Bool) (H : f_tomb_Of_1.f a0 = some r) : Pv.Fn Try.prog 57 [.agg (atomb_Range a0)] [] 0 (fun x o => x = bV r ∧ o = []) := by
  unfold f_tomb_Of_1.f at H
  refine Fn.bodyK [] Try.func57 rfl rfl (fun Γ hP hn => ?_)
  have hm : Try.prog.follows .mixedOrders = true := by kernel_rfl
  replace hn : Γ.n = 6 := hn
  refine AWp.seq ?_
  refine reg hP hn hm [(0, .k 0)] [1] [0] ⟨[(1, .ptr 0 0 0)], [(0, some (.box 64 (atomb_Range a0)))], 0⟩ [] (by kernel_rfl) trivial ?_
  refine AWp.seq ?_
  obtain ⟨t20, e21, H⟩ := bind_of H
  refine reg hP hn hm [(1, .call [] [] [] [] 0 (bV t20) [])] [2] [] ⟨[(2, bV (!t20))], [], 0⟩ [Enters Try.prog 32, Pv.Fn Try.prog 32 [.agg (atomb_Range a0)] [] 0 (fun r o => r = bV t20 ∧ o = [])] (by kernel_rfl) ⟨by exact Try.call32, by exact f_tomb_Right.ok a0 t20 e21, trivial⟩ ?_
  refine AWp.conv (inv := []) (vk := []) (e0 := []) (t := ⟨[(2, bV (!t20))], [], 0⟩) (by kernel_rfl) ?_
  refine AWp.ret ?_
  obtain rfl := Option.some.inj H
  exact Exists.intro _ (And.intro (fun _ _ h => h) (And.intro (.inl rfl) (And.intro rfl (And.intro (by kernel_rfl) (by kernel_rfl)))))
def f_slices_IndexFunc_tomb_Range_tomb_Of_1.l0 (a0 : List Ttomb_Range) (x30 : Int) : Option (Int ⊕ Unit) := if (decide (x30 < (a0.length : Int))) = true then ((at? a0 x30) >>= fun b37 => (f_tomb_Of_1.f b37) >>= fun t40 => if t40 = true then (some (.inl x30)) else (f_slices_IndexFunc_tomb_Range_tomb_Of_1.l0 a0 (IntKind.i64.wrap (x30 + (1 : Int))))) else (some (.inr ()))
partial_fixpoint
def f_slices_IndexFunc_tomb_Range_tomb_Of_1.f (a0 : List Ttomb_Range) : Option (Int) := (f_slices_IndexFunc_tomb_Range_tomb_Of_1.l0 a0 0) >>= fun oo => match oo with | .inl rr => (some rr) | .inr _ => (some (-1))
theorem f_slices_IndexFunc_tomb_Range_tomb_Of_1.ok (a0 : List Ttomb_Range) (r : Int) (H : f_slices_IndexFunc_tomb_Range_tomb_Of_1.f a0 = some r) : Pv.Fn Try.prog 93 [.own 0, .im (.sc (.func (.func 57) #[] #[]))] [(0, some (.row 2 64 (a0.map etomb_Range)))] 1 (fun x o => x = iV .i64 r ∧ o = [(0, some (.row 2 64 (a0.map etomb_Range)))]) := by
  unfold f_slices_IndexFunc_tomb_Range_tomb_Of_1.f at H
  refine Fn.bodyK [0] Try.func93 rfl rfl (fun Γ hP hn => ?_)
  have hm : Try.prog.follows .mixedOrders = true := by kernel_rfl
  replace hn : Γ.n = 19 := hn
  refine AWp.seq ?_
  refine reg hP hn hm [] [0, 1] [0] ⟨[(0, .own 0), (1, .im (.sc (.func (.func 57) #[] #[])))], [(0, some (.row 2 64 (a0.map etomb_Range)))], 1⟩ [] (by kernel_rfl) trivial ?_
  refine AWp.seq ?_
  refine AWp.seq ?_
  refine reg hP hn hm [(1, .any (iV .i64 (a0.length : Int)))] [0, 1, 7, 8] [0] ⟨[(0, .own 0), (1, .im (.sc (.func (.func 57) #[] #[]))), (7, iV .i64 (a0.length : Int)), (8, iV .i64 0)], [(0, some (.row 2 64 (a0.map etomb_Range)))], 1⟩ [((a0.map etomb_Range).length : Int) = (a0.length : Int)] (by kernel_rfl) ⟨by rw [len_map], trivial⟩ ?_
  refine AWp.block ?_
  obtain ⟨o43, e44, H⟩ := bind_of H
  refine AWp.loop (LWp.conv (inv := [(0, 0)]) (vk := []) (e0 := []) (t := ⟨[(0, .own 0), (1, .im (.sc (.func (.func 57) #[] #[]))), (7, iV .i64 (a0.length : Int)), (8, iV .i64 0)], [(0, some (.row 2 64 (a0.map etomb_Range)))], 1⟩) (by kernel_rfl) ?_)
  refine LWp.mono (Q := fun e s => (match (generalizing := false) o43 with | .inl rr => e = .ret ∧ s.floor = 1 ∧ resOf Try.prog Try.f93 s = some (iV .i64 rr) ∧ ([(0, s.obj 0)] : List (Nat × Option MObj)) = [(0, some (.row 2 64 (a0.map etomb_Range)))] | .inr _ => e = .exit 0 ∧ s = ⟨[], [(0, some (.row 2 64 (a0.map etomb_Range)))], 1⟩)) (LWp.cv (withBody (fun body hbody => ?_))) ?_
  · refine f_slices_IndexFunc_tomb_Range_tomb_Of_1.l0.partial_correctness a0 (motive := fun x30 o43 => LWp Γ body (fun e s => ∃ t, Cv Γ s t ∧ (match (generalizing := false) o43 with | .inl rr => e = .ret ∧ t.floor = 1 ∧ resOf Try.prog Try.f93 t = some (iV .i64 rr) ∧ ([(0, t.obj 0)] : List (Nat × Option MObj)) = [(0, some (.row 2 64 (a0.map etomb_Range)))] | .inr _ => e = .exit 0 ∧ t = ⟨[], [(0, some (.row 2 64 (a0.map etomb_Range)))], 1⟩)) ⟨[(0, .own 0), (1, .im (.sc (.func (.func 57) #[] #[]))), (7, iV .i64 (a0.length : Int)), (8, iV .i64 x30)], [(0, some (.row 2 64 (a0.map etomb_Range)))], 1⟩) ?_ _ _ e44
    clear H e44 o43; intro self ih x30 o43 H
    subst hbody
    refine LWp.round ?_
    refine AWp.seq ?_
    refine reg hP hn hm [] [0, 1, 7, 8, 9] [0] ⟨[(0, .own 0), (1, .im (.sc (.func (.func 57) #[] #[]))), (7, iV .i64 (a0.length : Int)), (8, iV .i64 x30), (9, bV (decide (x30 < (a0.length : Int))))], [(0, some (.row 2 64 (a0.map etomb_Range)))], 1⟩ [] (by kernel_rfl) trivial ?_
    refine AWp.seq ?_
    refine AWp.cond (decide (x30 < (a0.length : Int))) rfl (fun c31 => ?_) (fun c31 => ?_)
    · replace H := (ifT c31).symm.trans H
      refine AWp.skip ?_
      refine AWp.seq ?_
      refine AWp.block ?_
      refine AWp.seq ?_
      refine reg hP hn hm [] [0, 1, 5, 7, 8] [0] ⟨[(0, .own 0), (1, .im (.sc (.func (.func 57) #[] #[]))), (5, iV .i64 x30), (7, iV .i64 (a0.length : Int)), (8, iV .i64 x30)], [(0, some (.row 2 64 (a0.map etomb_Range)))], 1⟩ [] (by kernel_rfl) trivial ?_
      refine AWp.seq ?_
      obtain ⟨b37, p38, q39, H⟩ := at_of H
      obtain ⟨t40, e41, H⟩ := bind_of H
      refine reg hP hn hm [(4, .c (etomb_Range b37)), (5, .call [] [] [] [] 0 (bV t40) [])] [0, 1, 5, 7, 8, 16] [0] ⟨[(0, .own 0), (1, .im (.sc (.func (.func 57) #[] #[]))), (5, iV .i64 x30), (7, iV .i64 (a0.length : Int)), (8, iV .i64 x30), (16, bV t40)], [(0, some (.row 2 64 (a0.map etomb_Range)))], 1⟩ [0 ≤ x30, x30 < (((a0.map etomb_Range).length : Nat) : Int), (a0.map etomb_Range)[(Int.toNat (x30))]? = some (etomb_Range b37), Enters Try.prog 57, Pv.Fn Try.prog 57 [.agg (atomb_Range b37)] [] 0 (fun r o => r = bV t40 ∧ o = [])] (by kernel_rfl) ⟨by exact p38, by exact el_lt etomb_Range p38 q39, by exact el_map etomb_Range q39, by exact Try.call57, by exact f_tomb_Of_1.ok b37 t40 e41, trivial⟩ ?_
      refine AWp.cond t40 rfl (fun c42 => ?_) (fun c42 => ?_)
      · replace H := (ifT c42).symm.trans H
        refine AWp.seq ?_
        refine reg hP hn hm [] [4] [0] ⟨[(4, iV .i64 x30)], [(0, some (.row 2 64 (a0.map etomb_Range)))], 1⟩ [] (by kernel_rfl) trivial ?_
        refine AWp.conv (inv := [(0, 0)]) (vk := []) (e0 := []) (t := ⟨[(4, iV .i64 x30)], [(0, some (.row 2 64 (a0.map etomb_Range)))], 1⟩) (by kernel_rfl) ?_
        refine AWp.ret ?_
        obtain rfl := Option.some.inj H
        exact Exists.intro _ (And.intro (fun _ _ h => h) (And.intro rfl (And.intro rfl (And.intro (by kernel_rfl) (by kernel_rfl)))))
      · replace H := (ifF c42).symm.trans H
        refine AWp.skip ?_
        refine reg hP hn hm [] [0, 1, 7, 8] [0] ⟨[(0, .own 0), (1, .im (.sc (.func (.func 57) #[] #[]))), (7, iV .i64 (a0.length : Int)), (8, iV .i64 (IntKind.i64.wrap (x30 + (1 : Int))))], [(0, some (.row 2 64 (a0.map etomb_Range)))], 1⟩ [] (by kernel_rfl) trivial ?_
        exact LWp.conv (inv := [(0, 0)]) (vk := []) (e0 := []) (t := ⟨[(0, .own 0), (1, .im (.sc (.func (.func 57) #[] #[]))), (7, iV .i64 (a0.length : Int)), (8, iV .i64 (IntKind.i64.wrap (x30 + (1 : Int))))], [(0, some (.row 2 64 (a0.map etomb_Range)))], 1⟩) (by kernel_rfl) (ih _ _ H)
    · replace H := (ifF c31).symm.trans H
      refine AWp.exit ?_
      obtain rfl := Option.some.inj H
      exact Exists.intro _ (And.intro (fun _ _ h => h.conv (inv := [(0, 0)]) (vk := []) (e0 := []) (t := ⟨[], [(0, some (.row 2 64 (a0.map etomb_Range)))], 1⟩) (by kernel_rfl)) (And.intro rfl rfl))
  · rcases o43 with rr | _
    · skip
      rintro e s ⟨rfl, hfl, hres⟩
      obtain rfl := Option.some.inj H
      exact Exists.intro _ (And.intro (fun _ _ h => h) (And.intro (.inl rfl) (And.intro hfl hres)))
    · skip
      rintro e s ⟨rfl, rfl⟩
      refine AWp.seq ?_
      refine reg hP hn hm [] [4] [0] ⟨[(4, iV .i64 (-1))], [(0, some (.row 2 64 (a0.map etomb_Range)))], 1⟩ [] (by kernel_rfl) trivial ?_
      refine AWp.conv (inv := [(0, 0)]) (vk := []) (e0 := []) (t := ⟨[(4, iV .i64 (-1))], [(0, some (.row 2 64 (a0.map etomb_Range)))], 1⟩) (by kernel_rfl) ?_
      refine AWp.ret ?_
      obtain rfl := Option.some.inj H
      exact Exists.intro _ (And.intro (fun _ _ h => h) (And.intro (.inl rfl) (And.intro rfl (And.intro (by kernel_rfl) (by kernel_rfl)))))
def f_slices_DeleteFunc_tomb_Range_tomb_Of_1.l0 (x70 : List Ttomb_Range) (x71 : Int) (x72 : Int) : Option ((List Ttomb_Range) × Int) := if (decide (x72 < (x70.length : Int))) = true then ((at? x70 x72) >>= fun b77 => (f_tomb_Of_1.f b77) >>= fun t82 => ((if (!t82) = true then ((at? x70 x71) >>= fun b88 => some (x70.set (Int.toNat (x71)) b77, IntKind.i64.wrap (x71 + (1 : Int)))) else (some (x70, x71))) : Option ((List Ttomb_Range) × Int)) >>= fun oo => match oo with | (x91, x92) => (f_slices_DeleteFunc_tomb_Range_tomb_Of_1.l0  x91 x92 (IntKind.i64.wrap (x72 + (1 : Int))))) else (some (x70, x71))
partial_fixpoint
def f_slices_DeleteFunc_tomb_Range_tomb_Of_1.f (a0 : List Ttomb_Range) : Option (List Ttomb_Range) := (f_slices_IndexFunc_tomb_Range_tomb_Of_1.f a0) >>= fun t47 => if (t47 == (-1)) = true then (some a0) else ((f_slices_DeleteFunc_tomb_Range_tomb_Of_1.l0  a0 t47 (IntKind.i64.wrap (t47 + (1 : Int)))) >>= fun oo => match oo with | (x93, x94) => ((chk (0 ≤ x94 ∧ x94 ≤ (x93.length : Int))) >>= fun _ => (chk (0 ≤ x94 ∧ x94 ≤ ((x93.take (Int.toNat x94) ++ List.replicate (x93.length - (Int.toNat x94)) (⟨0, 0⟩ : Ttomb_Range)).length : Int))) >>= fun _ => some ((x93.take (Int.toNat x94) ++ List.replicate (x93.length - (Int.toNat x94)) (⟨0, 0⟩ : Ttomb_Range)).take (Int.toNat (x94)))))
theorem f_slices_DeleteFunc_tomb_Range_tomb_Of_1.ok (a0 : List Ttomb_Range) (r : List Ttomb_Range) (H : f_slices_DeleteFunc_tomb_Range_tomb_Of_1.f a0 = some r) : Pv.Fn Try.prog 55 [.own 0, .im (.sc (.func (.func 57) #[] #[]))] [(0, some (.row 2 64 (a0.map etomb_Range)))] 1 (fun x o => x = .own 1 ∧ o = [(0, none), (1, some (.row 2 64 (r.map etomb_Range)))]) := by
  unfold f_slices_DeleteFunc_tomb_Range_tomb_Of_1.f at H
  refine Fn.bodyK [0, 1] Try.func55 rfl rfl (fun Γ hP hn => ?_)
  have hm : Try.prog.follows .mixedOrders = true := by kernel_rfl
  replace hn : Γ.n = 42 := hn
  refine AWp.seq ?_
  refine reg hP hn hm [] [0, 1] [0] ⟨[(0, .own 0), (1, .im (.sc (.func (.func 57) #[] #[])))], [(0, some (.row 2 64 (a0.map etomb_Range)))], 1⟩ [] (by kernel_rfl) trivial ?_
  refine AWp.seq ?_
  obtain ⟨t47, e48, H⟩ := bind_of H
  refine reg hP hn hm [(2, .call [(0, 0)] [(0, 0)] [] [] 1 (iV .i64 t47) [(0, some (.row 2 64 (a0.map etomb_Range)))])] [0, 1, 5] [0] ⟨[(0, .own 0), (1, .im (.sc (.func (.func 57) #[] #[]))), (5, iV .i64 t47)], [(0, some (.row 2 64 (a0.map etomb_Range)))], 1⟩ [Enters Try.prog 93, Pv.Fn Try.prog 93 [.own 0, .im (.sc (.func (.func 57) #[] #[]))] [(0, some (.row 2 64 (a0.map etomb_Range)))] 1 (fun r o => r = iV .i64 t47 ∧ o = [(0, some (.row 2 64 (a0.map etomb_Range)))])] (by kernel_rfl) ⟨by exact Try.call93, by exact f_slices_IndexFunc_tomb_Range_tomb_Of_1.ok a0 t47 e48, trivial⟩ ?_
  refine AWp.seq ?_
  refine AWp.seq ?_
  refine reg hP hn hm [] [0, 1, 5, 12] [0] ⟨[(0, .own 0), (1, .im (.sc (.func (.func 57) #[] #[]))), (5, iV .i64 t47), (12, bV (t47 == (-1)))], [(0, some (.row 2 64 (a0.map etomb_Range)))], 1⟩ [] (by kernel_rfl) trivial ?_
  refine AWp.cond (t47 == (-1)) rfl (fun c49 => ?_) (fun c49 => ?_)
  · replace H := (ifT c49).symm.trans H
    refine AWp.seq ?_
    refine reg hP hn hm [] [4] [0] ⟨[(4, .own 0)], [(0, some (.row 2 64 (a0.map etomb_Range)))], 1⟩ [] (by kernel_rfl) trivial ?_
    refine AWp.conv (inv := [(0, 1)]) (vk := []) (e0 := []) (t := ⟨[(4, .own 1)], [(1, some (.row 2 64 (a0.map etomb_Range)))], 1⟩) (by kernel_rfl) ?_
    refine AWp.ret ?_
    obtain rfl := Option.some.inj H
    exact Exists.intro _ (And.intro (fun _ _ h => h) (And.intro (.inl rfl) (And.intro rfl (And.intro (by kernel_rfl) (by kernel_rfl)))))
  · replace H := (ifF c49).symm.trans H
    refine AWp.skip ?_
    refine AWp.seq ?_
    refine AWp.seq ?_
    refine reg hP hn hm [] [0, 1, 5, 6] [0] ⟨[(0, .own 0), (1, .im (.sc (.func (.func 57) #[] #[]))), (5, iV .i64 t47), (6, iV .i64 (IntKind.i64.wrap (t47 + (1 : Int))))], [(0, some (.row 2 64 (a0.map etomb_Range)))], 1⟩ [] (by kernel_rfl) trivial ?_
    refine AWp.block ?_
    obtain ⟨o99, e100, H⟩ := bind_of H
    refine AWp.loop (LWp.conv (inv := [(0, 0)]) (vk := []) (e0 := []) (t := ⟨[(0, .own 0), (1, .im (.sc (.func (.func 57) #[] #[]))), (5, iV .i64 t47), (6, iV .i64 (IntKind.i64.wrap (t47 + (1 : Int))))], [(0, some (.row 2 64 (a0.map etomb_Range)))], 1⟩) (by kernel_rfl) ?_)
    refine LWp.mono (Q := fun e s => (match (generalizing := false) o99 with | (x93, x94) => e = .exit 0 ∧ s = ⟨[(0, .own 0), (5, iV .i64 x94)], [(0, some (.row 2 64 (x93.map etomb_Range)))], 1⟩)) (LWp.cv (withBody (fun body hbody => ?_))) ?_
    · refine f_slices_DeleteFunc_tomb_Range_tomb_Of_1.l0.partial_correctness  (motive := fun x70 x71 x72 o99 => LWp Γ body (fun e s => ∃ t, Cv Γ s t ∧ (match (generalizing := false) o99 with | (x93, x94) => e = .exit 0 ∧ t = ⟨[(0, .own 0), (5, iV .i64 x94)], [(0, some (.row 2 64 (x93.map etomb_Range)))], 1⟩)) ⟨[(0, .own 0), (1, .im (.sc (.func (.func 57) #[] #[]))), (5, iV .i64 x71), (6, iV .i64 x72)], [(0, some (.row 2 64 (x70.map etomb_Range)))], 1⟩) ?_ _ _ _ _ e100
      clear H e100 o99; intro self ih x70 x71 x72 o99 H
      subst hbody
      refine LWp.round ?_
      refine AWp.seq ?_
      refine AWp.seq ?_
      refine reg hP hn hm [(2, .any (iV .i64 (x70.length : Int)))] [0, 1, 5, 6, 19] [0] ⟨[(0, .own 0), (1, .im (.sc (.func (.func 57) #[] #[]))), (5, iV .i64 x71), (6, iV .i64 x72), (19, bV (decide (x72 < (x70.length : Int))))], [(0, some (.row 2 64 (x70.map etomb_Range)))], 1⟩ [((x70.map etomb_Range).length : Int) = (x70.length : Int)] (by kernel_rfl) ⟨by rw [len_map], trivial⟩ ?_
      refine AWp.cond (decide (x72 < (x70.length : Int))) rfl (fun c73 => ?_) (fun c73 => ?_)
      · replace H := (ifT c73).symm.trans H
        refine AWp.skip ?_
        refine AWp.seq ?_
        refine AWp.block ?_
        refine AWp.seq ?_
        obtain ⟨b77, p78, q79, H⟩ := at_of H
        refine reg hP hn hm [(3, .c (etomb_Range b77)), (4, .k 2)] [0, 1, 5, 6, 7] [0, 2] ⟨[(0, .own 0), (1, .im (.sc (.func (.func 57) #[] #[]))), (5, iV .i64 x71), (6, iV .i64 x72), (7, .ptr 2 0 0)], [(0, some (.row 2 64 (x70.map etomb_Range))), (2, some (.box 64 (atomb_Range b77)))], 1⟩ [0 ≤ x72, x72 < (((x70.map etomb_Range).length : Nat) : Int), (x70.map etomb_Range)[(Int.toNat (x72))]? = some (etomb_Range b77)] (by kernel_rfl) ⟨by exact p78, by exact el_lt etomb_Range p78 q79, by exact el_map etomb_Range q79, trivial⟩ ?_
        refine AWp.seq ?_
        obtain ⟨t82, e83, H⟩ := bind_of H
        refine reg hP hn hm [(2, .call [] [] [] [] 0 (bV t82) [])] [0, 1, 5, 6, 7, 29] [0, 2] ⟨[(0, .own 0), (1, .im (.sc (.func (.func 57) #[] #[]))), (5, iV .i64 x71), (6, iV .i64 x72), (7, .ptr 2 0 0), (29, bV (!t82))], [(0, some (.row 2 64 (x70.map etomb_Range))), (2, some (.box 64 (atomb_Range b77)))], 1⟩ [Enters Try.prog 57, Pv.Fn Try.prog 57 [.agg (atomb_Range b77)] [] 0 (fun r o => r = bV t82 ∧ o = [])] (by kernel_rfl) ⟨by exact Try.call57, by exact f_tomb_Of_1.ok b77 t82 e83, trivial⟩ ?_
        obtain ⟨o101, e102, H⟩ := bind_of H
        refine AWp.mono (Q := fun e s => (match (generalizing := false) o101 with | (x91, x92) => e = .normal ∧ s = ⟨[(0, .own 0), (1, .im (.sc (.func (.func 57) #[] #[]))), (5, iV .i64 x92), (6, iV .i64 x72)], [(0, some (.row 2 64 (x91.map etomb_Range)))], 1⟩)) (AWp.cv ?_) ?_
        · replace H := e102; clear e102
          refine AWp.cond (!t82) rfl (fun c84 => ?_) (fun c84 => ?_)
          · replace H := (ifT c84).symm.trans H
            refine AWp.seq ?_
            obtain ⟨b88, p89, q90, H⟩ := at_of H
            refine reg hP hn hm [(4, .put (etomb_Range b88) ((x70.set (Int.toNat (x71)) b77).map etomb_Range))] [0, 1, 5, 6] [0] ⟨[(0, .own 0), (1, .im (.sc (.func (.func 57) #[] #[]))), (5, iV .i64 x71), (6, iV .i64 x72)], [(0, some (.row 2 64 ((x70.set (Int.toNat (x71)) b77).map etomb_Range)))], 1⟩ [0 ≤ x71, x71 < (((x70.map etomb_Range).length : Nat) : Int), (x70.map etomb_Range)[(Int.toNat (x71))]? = some (etomb_Range b88), (x70.set (Int.toNat (x71)) b77).map etomb_Range = (x70.map etomb_Range).set (Int.toNat (x71)) (splice (etomb_Range b88) 0 [iI .i64 b77.f0, iI .i64 b77.f1])] (by kernel_rfl) ⟨by exact p89, by exact el_lt etomb_Range p89 q90, by exact el_map etomb_Range q90, by exact set1 _ _ _ _, trivial⟩ ?_
            refine reg hP hn hm [] [0, 1, 5, 6] [0] ⟨[(0, .own 0), (1, .im (.sc (.func (.func 57) #[] #[]))), (5, iV .i64 (IntKind.i64.wrap (x71 + (1 : Int)))), (6, iV .i64 x72)], [(0, some (.row 2 64 ((x70.set (Int.toNat (x71)) b77).map etomb_Range)))], 1⟩ [] (by kernel_rfl) trivial ?_
            obtain rfl := Option.some.inj H
            exact Exists.intro _ (And.intro (fun _ _ h => h.conv (inv := [(0, 0)]) (vk := []) (e0 := []) (t := ⟨[(0, .own 0), (1, .im (.sc (.func (.func 57) #[] #[]))), (5, iV .i64 (IntKind.i64.wrap (x71 + (1 : Int)))), (6, iV .i64 x72)], [(0, some (.row 2 64 ((x70.set (Int.toNat (x71)) b77).map etomb_Range)))], 1⟩) (by kernel_rfl)) (And.intro rfl rfl))
          · replace H := (ifF c84).symm.trans H
            refine AWp.skip ?_
            obtain rfl := Option.some.inj H
            exact Exists.intro _ (And.intro (fun _ _ h => h.conv (inv := [(0, 0)]) (vk := []) (e0 := []) (t := ⟨[(0, .own 0), (1, .im (.sc (.func (.func 57) #[] #[]))), (5, iV .i64 x71), (6, iV .i64 x72)], [(0, some (.row 2 64 (x70.map etomb_Range)))], 1⟩) (by kernel_rfl)) (And.intro rfl rfl))
        · obtain ⟨x91, x92⟩ := o101
          rintro e s ⟨rfl, rfl⟩
          refine reg hP hn hm [] [0, 1, 5, 6] [0] ⟨[(0, .own 0), (1, .im (.sc (.func (.func 57) #[] #[]))), (5, iV .i64 x92), (6, iV .i64 (IntKind.i64.wrap (x72 + (1 : Int))))], [(0, some (.row 2 64 (x91.map etomb_Range)))], 1⟩ [] (by kernel_rfl) trivial ?_
          exact LWp.conv (inv := [(0, 0)]) (vk := []) (e0 := []) (t := ⟨[(0, .own 0), (1, .im (.sc (.func (.func 57) #[] #[]))), (5, iV .i64 x92), (6, iV .i64 (IntKind.i64.wrap (x72 + (1 : Int))))], [(0, some (.row 2 64 (x91.map etomb_Range)))], 1⟩) (by kernel_rfl) (ih _ _ _ _ H)
      · replace H := (ifF c73).symm.trans H
        refine AWp.exit ?_
        obtain rfl := Option.some.inj H
        exact Exists.intro _ (And.intro (fun _ _ h => h.conv (inv := [(0, 0)]) (vk := []) (e0 := []) (t := ⟨[(0, .own 0), (5, iV .i64 x71)], [(0, some (.row 2 64 (x70.map etomb_Range)))], 1⟩) (by kernel_rfl)) (And.intro rfl rfl))
    · obtain ⟨x93, x94⟩ := o99
      rintro e s ⟨rfl, rfl⟩
      refine AWp.seq ?_
      obtain ⟨c96, H⟩ := chk_of H
      refine reg hP hn hm [(2, .more (xCutOwn (Int.toNat x94) (x93.length - (Int.toNat x94)))), (3, .more (xClear ((x93.take (Int.toNat x94) ++ List.replicate (x93.length - (Int.toNat x94)) (⟨0, 0⟩ : Ttomb_Range)).map etomb_Range)))] [0, 5] [0] ⟨[(0, .own 0), (5, iV .i64 x94)], [(0, some (.row 2 64 ((x93.take (Int.toNat x94) ++ List.replicate (x93.length - (Int.toNat x94)) (⟨0, 0⟩ : Ttomb_Range)).map etomb_Range)))], 1⟩ [x94 = (((Int.toNat x94) : Nat) : Int), (Int.toNat x94) + (x93.length - (Int.toNat x94)) = (x93.map etomb_Range).length, (x93.take (Int.toNat x94) ++ List.replicate (x93.length - (Int.toNat x94)) (⟨0, 0⟩ : Ttomb_Range)).map etomb_Range = (x93.map etomb_Range).take (Int.toNat x94) ++ List.replicate (x93.length - (Int.toNat x94)) [iI .i64 0, iI .i64 0], (Int.toNat x94) + (x93.length - (Int.toNat x94)) = (x93.map etomb_Range).length] (by kernel_rfl) ⟨by exact (Int.toNat_of_nonneg c96.1).symm, by have h := c96; rw [List.length_map]; omega, by simp, by have h := c96; rw [List.length_map]; omega, trivial⟩ ?_
      refine AWp.seq ?_
      obtain ⟨c98, H⟩ := chk_of H
      refine reg hP hn hm [(2, .more (xTake 3 (((x93.take (Int.toNat x94) ++ List.replicate (x93.length - (Int.toNat x94)) (⟨0, 0⟩ : Ttomb_Range)).take (Int.toNat (x94))).map etomb_Range)))] [4] [3] ⟨[(4, .own 3)], [(3, some (.row 2 64 (((x93.take (Int.toNat x94) ++ List.replicate (x93.length - (Int.toNat x94)) (⟨0, 0⟩ : Ttomb_Range)).take (Int.toNat (x94))).map etomb_Range)))], 1⟩ [0 ≤ x94, x94 ≤ (((x93.take (Int.toNat x94) ++ List.replicate (x93.length - (Int.toNat x94)) (⟨0, 0⟩ : Ttomb_Range)).map etomb_Range).length : Int), ((x93.take (Int.toNat x94) ++ List.replicate (x93.length - (Int.toNat x94)) (⟨0, 0⟩ : Ttomb_Range)).take (Int.toNat (x94))).map etomb_Range = ((x93.take (Int.toNat x94) ++ List.replicate (x93.length - (Int.toNat x94)) (⟨0, 0⟩ : Ttomb_Range)).map etomb_Range).take (Int.toNat (x94))] (by kernel_rfl) ⟨by exact c98.1, by simpa using c98.2, by simp, trivial⟩ ?_
      refine AWp.conv (inv := [(3, 1)]) (vk := []) (e0 := []) (t := ⟨[(4, .own 1)], [(1, some (.row 2 64 (((x93.take (Int.toNat x94) ++ List.replicate (x93.length - (Int.toNat x94)) (⟨0, 0⟩ : Ttomb_Range)).take (Int.toNat (x94))).map etomb_Range)))], 1⟩) (by kernel_rfl) ?_
      refine AWp.ret ?_
      obtain rfl := Option.some.inj H
      exact Exists.intro _ (And.intro (fun _ _ h => h) (And.intro (.inl rfl) (And.intro rfl (And.intro (by kernel_rfl) (by kernel_rfl)))))
def f_bits_Len64.f (a0 : Int) : Option (Int) := ((if (decide (a0 ≥ (4294967296 : Int))) = true then (some (Int.fdiv a0 4294967296, 32)) else (some (a0, 0))) : Option (Int × Int)) >>= fun oo => match oo with | (x110, x111) => (((if (decide (x110 ≥ (65536 : Int))) = true then (some (Int.fdiv x110 65536, IntKind.i64.wrap (x111 + (16 : Int)))) else (some (x110, x111))) : Option (Int × Int)) >>= fun oo => match oo with | (x113, x114) => (((if (decide (x113 ≥ (256 : Int))) = true then (some (Int.fdiv x113 256, IntKind.i64.wrap (x114 + (8 : Int)))) else (some (x113, x114))) : Option (Int × Int)) >>= fun oo => match oo with | (x116, x117) => ((chk (0 ≤ (IntKind.u8.wrap (x116)) ∧ (IntKind.u8.wrap (x116)) < ((⟨#[0, 1, 2, 2, 3, 3, 3, 3, 4, 4, 4, 4, 4, 4, 4, 4, 5, 5, 5, 5, 5, 5, 5, 5, 5, 5, 5, 5, 5, 5, 5, 5, 6, 6, 6, 6, 6, 6, 6, 6, 6, 6, 6, 6, 6, 6, 6, 6, 6, 6, 6, 6, 6, 6, 6, 6, 6, 6, 6, 6, 6, 6, 6, 6, 7, 7, 7, 7, 7, 7, 7, 7, 7, 7, 7, 7, 7, 7, 7, 7, 7, 7, 7, 7, 7, 7, 7, 7, 7, 7, 7, 7, 7, 7, 7, 7, 7, 7, 7, 7, 7, 7, 7, 7, 7, 7, 7, 7, 7, 7, 7, 7, 7, 7, 7, 7, 7, 7, 7, 7, 7, 7, 7, 7, 7, 7, 7, 7, 8, 8, 8, 8, 8, 8, 8, 8, 8, 8, 8, 8, 8, 8, 8, 8, 8, 8, 8, 8, 8, 8, 8, 8, 8, 8, 8, 8, 8, 8, 8, 8, 8, 8, 8, 8, 8, 8, 8, 8, 8, 8, 8, 8, 8, 8, 8, 8, 8, 8, 8, 8, 8, 8, 8, 8, 8, 8, 8, 8, 8, 8, 8, 8, 8, 8, 8, 8, 8, 8, 8, 8, 8, 8, 8, 8, 8, 8, 8, 8, 8, 8, 8, 8, 8, 8, 8, 8, 8, 8, 8, 8, 8, 8, 8, 8, 8, 8, 8, 8, 8, 8, 8, 8, 8, 8, 8, 8, 8, 8, 8, 8, 8, 8, 8, 8, 8, 8, 8, 8, 8, 8, 8, 8, 8, 8, 8, 8]⟩ : ByteArray).size : Int))) >>= fun _ => some (IntKind.i64.wrap (x117 + (IntKind.i64.wrap (bt (⟨#[0, 1, 2, 2, 3, 3, 3, 3, 4, 4, 4, 4, 4, 4, 4, 4, 5, 5, 5, 5, 5, 5, 5, 5, 5, 5, 5, 5, 5, 5, 5, 5, 6, 6, 6, 6, 6, 6, 6, 6, 6, 6, 6, 6, 6, 6, 6, 6, 6, 6, 6, 6, 6, 6, 6, 6, 6, 6, 6, 6, 6, 6, 6, 6, 7, 7, 7, 7, 7, 7, 7, 7, 7, 7, 7, 7, 7, 7, 7, 7, 7, 7, 7, 7, 7, 7, 7, 7, 7, 7, 7, 7, 7, 7, 7, 7, 7, 7, 7, 7, 7, 7, 7, 7, 7, 7, 7, 7, 7, 7, 7, 7, 7, 7, 7, 7, 7, 7, 7, 7, 7, 7, 7, 7, 7, 7, 7, 7, 8, 8, 8, 8, 8, 8, 8, 8, 8, 8, 8, 8, 8, 8, 8, 8, 8, 8, 8, 8, 8, 8, 8, 8, 8, 8, 8, 8, 8, 8, 8, 8, 8, 8, 8, 8, 8, 8, 8, 8, 8, 8, 8, 8, 8, 8, 8, 8, 8, 8, 8, 8, 8, 8, 8, 8, 8, 8, 8, 8, 8, 8, 8, 8, 8, 8, 8, 8, 8, 8, 8, 8, 8, 8, 8, 8, 8, 8, 8, 8, 8, 8, 8, 8, 8, 8, 8, 8, 8, 8, 8, 8, 8, 8, 8, 8, 8, 8, 8, 8, 8, 8, 8, 8, 8, 8, 8, 8, 8, 8, 8, 8, 8, 8, 8, 8, 8, 8, 8, 8, 8, 8, 8, 8, 8, 8, 8, 8]⟩ : ByteArray) (IntKind.u8.wrap (x116)))))))))
theorem f_bits_Len64.ok (a0 : Int) (r : Int) (H : f_bits_Len64.f a0 = some r) : Pv.Fn Try.prog 129 [iV .u64 a0] [] 0 (fun x o => x = iV .i64 r ∧ o = []) := by
  unfold f_bits_Len64.f at H
  refine Fn.bodyK [] Try.func129 rfl rfl (fun Γ hP hn => ?_)
  have hm : Try.prog.follows .mixedOrders = true := by kernel_rfl
  replace hn : Γ.n = 25 := hn
  refine AWp.seq ?_
  refine reg hP hn hm [] [0, 2] [] ⟨[(0, iV .u64 a0), (2, iV .i64 0)], [], 0⟩ [] (by kernel_rfl) trivial ?_
  refine AWp.seq ?_
  refine AWp.seq ?_
  refine reg hP hn hm [] [0, 2, 4] [] ⟨[(0, iV .u64 a0), (2, iV .i64 0), (4, bV (decide (a0 ≥ (4294967296 : Int))))], [], 0⟩ [] (by kernel_rfl) trivial ?_
  obtain ⟨o120, e121, H⟩ := bind_of H
  refine AWp.mono (Q := fun e s => (match (generalizing := false) o120 with | (x110, x111) => e = .normal ∧ s = ⟨[(0, iV .u64 x110), (2, iV .i64 x111)], [], 0⟩)) (AWp.cv ?_) ?_
  · replace H := e121; clear e121
    refine AWp.cond (decide (a0 ≥ (4294967296 : Int))) rfl (fun c109 => ?_) (fun c109 => ?_)
    · replace H := (ifT c109).symm.trans H
      refine AWp.seq ?_
      refine reg hP hn hm [] [0] [] ⟨[(0, iV .u64 (Int.fdiv a0 4294967296))], [], 0⟩ [(0 : Int) ≤ 32] (by kernel_rfl) ⟨by decide, trivial⟩ ?_
      refine reg hP hn hm [] [0, 2] [] ⟨[(0, iV .u64 (Int.fdiv a0 4294967296)), (2, iV .i64 32)], [], 0⟩ [] (by kernel_rfl) trivial ?_
      obtain rfl := Option.some.inj H
      exact Exists.intro _ (And.intro (fun _ _ h => h.conv (inv := []) (vk := []) (e0 := []) (t := ⟨[(0, iV .u64 (Int.fdiv a0 4294967296)), (2, iV .i64 32)], [], 0⟩) (by kernel_rfl)) (And.intro rfl rfl))
    · replace H := (ifF c109).symm.trans H
      refine AWp.skip ?_
      obtain rfl := Option.some.inj H
      exact Exists.intro _ (And.intro (fun _ _ h => h.conv (inv := []) (vk := []) (e0 := []) (t := ⟨[(0, iV .u64 a0), (2, iV .i64 0)], [], 0⟩) (by kernel_rfl)) (And.intro rfl rfl))
  · obtain ⟨x110, x111⟩ := o120
    rintro e s ⟨rfl, rfl⟩
    refine AWp.seq ?_
    refine AWp.seq ?_
    refine reg hP hn hm [] [0, 2, 8] [] ⟨[(0, iV .u64 x110), (2, iV .i64 x111), (8, bV (decide (x110 ≥ (65536 : Int))))], [], 0⟩ [] (by kernel_rfl) trivial ?_
    obtain ⟨o122, e123, H⟩ := bind_of H
    refine AWp.mono (Q := fun e s => (match (generalizing := false) o122 with | (x113, x114) => e = .normal ∧ s = ⟨[(0, iV .u64 x113), (2, iV .i64 x114)], [], 0⟩)) (AWp.cv ?_) ?_
    · replace H := e123; clear e123
      refine AWp.cond (decide (x110 ≥ (65536 : Int))) rfl (fun c112 => ?_) (fun c112 => ?_)
      · replace H := (ifT c112).symm.trans H
        refine AWp.seq ?_
        refine reg hP hn hm [] [0, 2] [] ⟨[(0, iV .u64 (Int.fdiv x110 65536)), (2, iV .i64 x111)], [], 0⟩ [(0 : Int) ≤ 16] (by kernel_rfl) ⟨by decide, trivial⟩ ?_
        refine reg hP hn hm [] [0, 2] [] ⟨[(0, iV .u64 (Int.fdiv x110 65536)), (2, iV .i64 (IntKind.i64.wrap (x111 + (16 : Int))))], [], 0⟩ [] (by kernel_rfl) trivial ?_
        obtain rfl := Option.some.inj H
        exact Exists.intro _ (And.intro (fun _ _ h => h.conv (inv := []) (vk := []) (e0 := []) (t := ⟨[(0, iV .u64 (Int.fdiv x110 65536)), (2, iV .i64 (IntKind.i64.wrap (x111 + (16 : Int))))], [], 0⟩) (by kernel_rfl)) (And.intro rfl rfl))
      · replace H := (ifF c112).symm.trans H
        refine AWp.skip ?_
        obtain rfl := Option.some.inj H
        exact Exists.intro _ (And.intro (fun _ _ h => h.conv (inv := []) (vk := []) (e0 := []) (t := ⟨[(0, iV .u64 x110), (2, iV .i64 x111)], [], 0⟩) (by kernel_rfl)) (And.intro rfl rfl))
    · obtain ⟨x113, x114⟩ := o122
      rintro e s ⟨rfl, rfl⟩
      refine AWp.seq ?_
      refine AWp.seq ?_
      refine reg hP hn hm [] [0, 2, 14] [] ⟨[(0, iV .u64 x113), (2, iV .i64 x114), (14, bV (decide (x113 ≥ (256 : Int))))], [], 0⟩ [] (by kernel_rfl) trivial ?_
      obtain ⟨o124, e125, H⟩ := bind_of H
      refine AWp.mono (Q := fun e s => (match (generalizing := false) o124 with | (x116, x117) => e = .normal ∧ s = ⟨[(0, iV .u64 x116), (2, iV .i64 x117)], [], 0⟩)) (AWp.cv ?_) ?_
      · replace H := e125; clear e125
        refine AWp.cond (decide (x113 ≥ (256 : Int))) rfl (fun c115 => ?_) (fun c115 => ?_)
        · replace H := (ifT c115).symm.trans H
          refine AWp.seq ?_
          refine reg hP hn hm [] [0, 2] [] ⟨[(0, iV .u64 (Int.fdiv x113 256)), (2, iV .i64 x114)], [], 0⟩ [(0 : Int) ≤ 8] (by kernel_rfl) ⟨by decide, trivial⟩ ?_
          refine reg hP hn hm [] [0, 2] [] ⟨[(0, iV .u64 (Int.fdiv x113 256)), (2, iV .i64 (IntKind.i64.wrap (x114 + (8 : Int))))], [], 0⟩ [] (by kernel_rfl) trivial ?_
          obtain rfl := Option.some.inj H
          exact Exists.intro _ (And.intro (fun _ _ h => h.conv (inv := []) (vk := []) (e0 := []) (t := ⟨[(0, iV .u64 (Int.fdiv x113 256)), (2, iV .i64 (IntKind.i64.wrap (x114 + (8 : Int))))], [], 0⟩) (by kernel_rfl)) (And.intro rfl rfl))
        · replace H := (ifF c115).symm.trans H
          refine AWp.skip ?_
          obtain rfl := Option.some.inj H
          exact Exists.intro _ (And.intro (fun _ _ h => h.conv (inv := []) (vk := []) (e0 := []) (t := ⟨[(0, iV .u64 x113), (2, iV .i64 x114)], [], 0⟩) (by kernel_rfl)) (And.intro rfl rfl))
      · obtain ⟨x116, x117⟩ := o124
        rintro e s ⟨rfl, rfl⟩
        refine AWp.seq ?_
        obtain ⟨c119, H⟩ := chk_of H
        refine reg hP hn hm [] [2] [] ⟨[(2, iV .i64 (IntKind.i64.wrap (x117 + (IntKind.i64.wrap (bt (⟨#[0, 1, 2, 2, 3, 3, 3, 3, 4, 4, 4, 4, 4, 4, 4, 4, 5, 5, 5, 5, 5, 5, 5, 5, 5, 5, 5, 5, 5, 5, 5, 5, 6, 6, 6, 6, 6, 6, 6, 6, 6, 6, 6, 6, 6, 6, 6, 6, 6, 6, 6, 6, 6, 6, 6, 6, 6, 6, 6, 6, 6, 6, 6, 6, 7, 7, 7, 7, 7, 7, 7, 7, 7, 7, 7, 7, 7, 7, 7, 7, 7, 7, 7, 7, 7, 7, 7, 7, 7, 7, 7, 7, 7, 7, 7, 7, 7, 7, 7, 7, 7, 7, 7, 7, 7, 7, 7, 7, 7, 7, 7, 7, 7, 7, 7, 7, 7, 7, 7, 7, 7, 7, 7, 7, 7, 7, 7, 7, 8, 8, 8, 8, 8, 8, 8, 8, 8, 8, 8, 8, 8, 8, 8, 8, 8, 8, 8, 8, 8, 8, 8, 8, 8, 8, 8, 8, 8, 8, 8, 8, 8, 8, 8, 8, 8, 8, 8, 8, 8, 8, 8, 8, 8, 8, 8, 8, 8, 8, 8, 8, 8, 8, 8, 8, 8, 8, 8, 8, 8, 8, 8, 8, 8, 8, 8, 8, 8, 8, 8, 8, 8, 8, 8, 8, 8, 8, 8, 8, 8, 8, 8, 8, 8, 8, 8, 8, 8, 8, 8, 8, 8, 8, 8, 8, 8, 8, 8, 8, 8, 8, 8, 8, 8, 8, 8, 8, 8, 8, 8, 8, 8, 8, 8, 8, 8, 8, 8, 8, 8, 8, 8, 8, 8, 8, 8, 8]⟩ : ByteArray) (IntKind.u8.wrap (x116)))))))], [], 0⟩ [0 ≤ (IntKind.u8.wrap (x116)), (IntKind.u8.wrap (x116)) < ((⟨#[0, 1, 2, 2, 3, 3, 3, 3, 4, 4, 4, 4, 4, 4, 4, 4, 5, 5, 5, 5, 5, 5, 5, 5, 5, 5, 5, 5, 5, 5, 5, 5, 6, 6, 6, 6, 6, 6, 6, 6, 6, 6, 6, 6, 6, 6, 6, 6, 6, 6, 6, 6, 6, 6, 6, 6, 6, 6, 6, 6, 6, 6, 6, 6, 7, 7, 7, 7, 7, 7, 7, 7, 7, 7, 7, 7, 7, 7, 7, 7, 7, 7, 7, 7, 7, 7, 7, 7, 7, 7, 7, 7, 7, 7, 7, 7, 7, 7, 7, 7, 7, 7, 7, 7, 7, 7, 7, 7, 7, 7, 7, 7, 7, 7, 7, 7, 7, 7, 7, 7, 7, 7, 7, 7, 7, 7, 7, 7, 8, 8, 8, 8, 8, 8, 8, 8, 8, 8, 8, 8, 8, 8, 8, 8, 8, 8, 8, 8, 8, 8, 8, 8, 8, 8, 8, 8, 8, 8, 8, 8, 8, 8, 8, 8, 8, 8, 8, 8, 8, 8, 8, 8, 8, 8, 8, 8, 8, 8, 8, 8, 8, 8, 8, 8, 8, 8, 8, 8, 8, 8, 8, 8, 8, 8, 8, 8, 8, 8, 8, 8, 8, 8, 8, 8, 8, 8, 8, 8, 8, 8, 8, 8, 8, 8, 8, 8, 8, 8, 8, 8, 8, 8, 8, 8, 8, 8, 8, 8, 8, 8, 8, 8, 8, 8, 8, 8, 8, 8, 8, 8, 8, 8, 8, 8, 8, 8, 8, 8, 8, 8, 8, 8, 8, 8, 8, 8]⟩ : ByteArray).size : Int)] (by kernel_rfl) ⟨by exact c119.1, by exact c119.2, trivial⟩ ?_
        refine AWp.conv (inv := []) (vk := []) (e0 := []) (t := ⟨[(2, iV .i64 (IntKind.i64.wrap (x117 + (IntKind.i64.wrap (bt (⟨#[0, 1, 2, 2, 3, 3, 3, 3, 4, 4, 4, 4, 4, 4, 4, 4, 5, 5, 5, 5, 5, 5, 5, 5, 5, 5, 5, 5, 5, 5, 5, 5, 6, 6, 6, 6, 6, 6, 6, 6, 6, 6, 6, 6, 6, 6, 6, 6, 6, 6, 6, 6, 6, 6, 6, 6, 6, 6, 6, 6, 6, 6, 6, 6, 7, 7, 7, 7, 7, 7, 7, 7, 7, 7, 7, 7, 7, 7, 7, 7, 7, 7, 7, 7, 7, 7, 7, 7, 7, 7, 7, 7, 7, 7, 7, 7, 7, 7, 7, 7, 7, 7, 7, 7, 7, 7, 7, 7, 7, 7, 7, 7, 7, 7, 7, 7, 7, 7, 7, 7, 7, 7, 7, 7, 7, 7, 7, 7, 8, 8, 8, 8, 8, 8, 8, 8, 8, 8, 8, 8, 8, 8, 8, 8, 8, 8, 8, 8, 8, 8, 8, 8, 8, 8, 8, 8, 8, 8, 8, 8, 8, 8, 8, 8, 8, 8, 8, 8, 8, 8, 8, 8, 8, 8, 8, 8, 8, 8, 8, 8, 8, 8, 8, 8, 8, 8, 8, 8, 8, 8, 8, 8, 8, 8, 8, 8, 8, 8, 8, 8, 8, 8, 8, 8, 8, 8, 8, 8, 8, 8, 8, 8, 8, 8, 8, 8, 8, 8, 8, 8, 8, 8, 8, 8, 8, 8, 8, 8, 8, 8, 8, 8, 8, 8, 8, 8, 8, 8, 8, 8, 8, 8, 8, 8, 8, 8, 8, 8, 8, 8, 8, 8, 8, 8, 8, 8]⟩ : ByteArray) (IntKind.u8.wrap (x116)))))))], [], 0⟩) (by kernel_rfl) ?_
        refine AWp.ret ?_
        obtain rfl := Option.some.inj H
        exact Exists.intro _ (And.intro (fun _ _ h => h) (And.intro (.inl rfl) (And.intro rfl (And.intro (by kernel_rfl) (by kernel_rfl)))))
def f_bits_Len.f (a0 : Int) : Option (Int) := (f_bits_Len64.f a0) >>= fun t128 => some t128
theorem f_bits_Len.ok (a0 : Int) (r : Int) (H : f_bits_Len.f a0 = some r) : Pv.Fn Try.prog 95 [iV .u64 a0] [] 0 (fun x o => x = iV .i64 r ∧ o = []) := by
  unfold f_bits_Len.f at H
  refine Fn.bodyK [] Try.func95 rfl rfl (fun Γ hP hn => ?_)
  have hm : Try.prog.follows .mixedOrders = true := by kernel_rfl
  replace hn : Γ.n = 8 := hn
  refine AWp.seq ?_
  refine reg hP hn hm [] [0] [] ⟨[(0, iV .u64 a0)], [], 0⟩ [] (by kernel_rfl) trivial ?_
  refine AWp.seq ?_
  refine AWp.cond false rfl (fun h => nomatch h) (fun _ => ?_)
  refine AWp.skip ?_
  refine AWp.seq ?_
  obtain ⟨t128, e129, H⟩ := bind_of H
  refine reg hP hn hm [(1, .call [] [] [] [] 0 (iV .i64 t128) [])] [2] [] ⟨[(2, iV .i64 t128)], [], 0⟩ [Enters Try.prog 129, Pv.Fn Try.prog 129 [iV .u64 a0] [] 0 (fun r o => r = iV .i64 t128 ∧ o = [])] (by kernel_rfl) ⟨by exact Try.call129, by exact f_bits_Len64.ok a0 t128 e129, trivial⟩ ?_
  refine AWp.conv (inv := []) (vk := []) (e0 := []) (t := ⟨[(2, iV .i64 t128)], [], 0⟩) (by kernel_rfl) ?_
  refine AWp.ret ?_
  obtain rfl := Option.some.inj H
  exact Exists.intro _ (And.intro (fun _ _ h => h) (And.intro (.inl rfl) (And.intro rfl (And.intro (by kernel_rfl) (by kernel_rfl)))))
def f_cmp_isNaN_int64.f (a0 : Int) : Option (Unit) := some ()
theorem f_cmp_isNaN_int64.ok (a0 : Int) (r : Unit) (H : f_cmp_isNaN_int64.f a0 = some r) : Pv.Fn Try.prog 96 [iV .i64 a0] [] 0 (fun x o => x = bV (a0 != a0) ∧ o = []) := by
  unfold f_cmp_isNaN_int64.f at H
  refine Fn.bodyK [] Try.func96 rfl rfl (fun Γ hP hn => ?_)
  have hm : Try.prog.follows .mixedOrders = true := by kernel_rfl
  replace hn : Γ.n = 6 := hn
  refine AWp.seq ?_
  refine reg hP hn hm [] [0] [] ⟨[(0, iV .i64 a0)], [], 0⟩ [] (by kernel_rfl) trivial ?_
  refine AWp.seq ?_
  refine reg hP hn hm [] [2] [] ⟨[(2, bV (a0 != a0))], [], 0⟩ [] (by kernel_rfl) trivial ?_
  refine AWp.conv (inv := []) (vk := []) (e0 := []) (t := ⟨[(2, bV (a0 != a0))], [], 0⟩) (by kernel_rfl) ?_
  refine AWp.ret ?_
  obtain rfl := Option.some.inj H
  exact Exists.intro _ (And.intro (fun _ _ h => h) (And.intro (.inl rfl) (And.intro rfl (And.intro (by kernel_rfl) (by kernel_rfl)))))
def f_cmp_Compare_int64.f (a0 : Int) (a1 : Int) : Option (Int) := (f_cmp_isNaN_int64.f a0) >>= fun t143 => (f_cmp_isNaN_int64.f a1) >>= fun t147 => if (a0 != a0) = true then (if (a1 != a1) = true then (some 0) else (some (-1))) else (if (a1 != a1) = true then (some 1) else (if (decide (a0 < a1)) = true then (some (-1)) else (if (decide (a0 > a1)) = true then (some 1) else (some 0))))
theorem f_cmp_Compare_int64.ok (a0 : Int) (a1 : Int) (r : Int) (H : f_cmp_Compare_int64.f a0 a1 = some r) : Pv.Fn Try.prog 61 [iV .i64 a0, iV .i64 a1] [] 0 (fun x o => x = iV .i64 r ∧ o = []) := by
  unfold f_cmp_Compare_int64.f at H
  refine Fn.bodyK [] Try.func61 rfl rfl (fun Γ hP hn => ?_)
  have hm : Try.prog.follows .mixedOrders = true := by kernel_rfl
  replace hn : Γ.n = 20 := hn
  refine AWp.seq ?_
  refine reg hP hn hm [] [0, 1] [] ⟨[(0, iV .i64 a0), (1, iV .i64 a1)], [], 0⟩ [] (by kernel_rfl) trivial ?_
  refine AWp.seq ?_
  obtain ⟨t143, e144, H⟩ := bind_of H
  refine reg hP hn hm [(1, .call [] [] [] [] 0 (bV (a0 != a0)) [])] [0, 1, 5] [] ⟨[(0, iV .i64 a0), (1, iV .i64 a1), (5, bV (a0 != a0))], [], 0⟩ [Enters Try.prog 96, Pv.Fn Try.prog 96 [iV .i64 a0] [] 0 (fun r o => r = bV (a0 != a0) ∧ o = [])] (by kernel_rfl) ⟨by exact Try.call96, by exact f_cmp_isNaN_int64.ok a0 t143 e144, trivial⟩ ?_
  refine AWp.seq ?_
  obtain ⟨t147, e148, H⟩ := bind_of H
  refine reg hP hn hm [(1, .call [] [] [] [] 0 (bV (a1 != a1)) [])] [0, 1, 5, 6] [] ⟨[(0, iV .i64 a0), (1, iV .i64 a1), (5, bV (a0 != a0)), (6, bV (a1 != a1))], [], 0⟩ [Enters Try.prog 96, Pv.Fn Try.prog 96 [iV .i64 a1] [] 0 (fun r o => r = bV (a1 != a1) ∧ o = [])] (by kernel_rfl) ⟨by exact Try.call96, by exact f_cmp_isNaN_int64.ok a1 t147 e148, trivial⟩ ?_
  refine AWp.seq ?_
  refine AWp.seq ?_
  refine reg hP hn hm [] [0, 1, 6, 11] [] ⟨[(0, iV .i64 a0), (1, iV .i64 a1), (6, bV (a1 != a1)), (11, bV (a0 != a0))], [], 0⟩ [] (by kernel_rfl) trivial ?_
  refine AWp.cond (a0 != a0) rfl (fun c149 => ?_) (fun c149 => ?_)
  · replace H := (ifT c149).symm.trans H
    refine AWp.seq ?_
    refine AWp.seq ?_
    refine reg hP hn hm [] [12] [] ⟨[(12, bV (a1 != a1))], [], 0⟩ [] (by kernel_rfl) trivial ?_
    refine AWp.cond (a1 != a1) rfl (fun c150 => ?_) (fun c150 => ?_)
    · replace H := (ifT c150).symm.trans H
      refine AWp.seq ?_
      refine reg hP hn hm [] [4] [] ⟨[(4, iV .i64 0)], [], 0⟩ [] (by kernel_rfl) trivial ?_
      refine AWp.conv (inv := []) (vk := []) (e0 := []) (t := ⟨[(4, iV .i64 0)], [], 0⟩) (by kernel_rfl) ?_
      refine AWp.ret ?_
      obtain rfl := Option.some.inj H
      exact Exists.intro _ (And.intro (fun _ _ h => h) (And.intro (.inl rfl) (And.intro rfl (And.intro (by kernel_rfl) (by kernel_rfl)))))
    · replace H := (ifF c150).symm.trans H
      refine AWp.skip ?_
      refine AWp.seq ?_
      refine reg hP hn hm [] [4] [] ⟨[(4, iV .i64 (-1))], [], 0⟩ [] (by kernel_rfl) trivial ?_
      refine AWp.conv (inv := []) (vk := []) (e0 := []) (t := ⟨[(4, iV .i64 (-1))], [], 0⟩) (by kernel_rfl) ?_
      refine AWp.ret ?_
      obtain rfl := Option.some.inj H
      exact Exists.intro _ (And.intro (fun _ _ h => h) (And.intro (.inl rfl) (And.intro rfl (And.intro (by kernel_rfl) (by kernel_rfl)))))
  · replace H := (ifF c149).symm.trans H
    refine AWp.skip ?_
    refine AWp.seq ?_
    refine AWp.seq ?_
    refine reg hP hn hm [] [0, 1, 13] [] ⟨[(0, iV .i64 a0), (1, iV .i64 a1), (13, bV (a1 != a1))], [], 0⟩ [] (by kernel_rfl) trivial ?_
    refine AWp.cond (a1 != a1) rfl (fun c151 => ?_) (fun c151 => ?_)
    · replace H := (ifT c151).symm.trans H
      refine AWp.seq ?_
      refine reg hP hn hm [] [4] [] ⟨[(4, iV .i64 1)], [], 0⟩ [] (by kernel_rfl) trivial ?_
      refine AWp.conv (inv := []) (vk := []) (e0 := []) (t := ⟨[(4, iV .i64 1)], [], 0⟩) (by kernel_rfl) ?_
      refine AWp.ret ?_
      obtain rfl := Option.some.inj H
      exact Exists.intro _ (And.intro (fun _ _ h => h) (And.intro (.inl rfl) (And.intro rfl (And.intro (by kernel_rfl) (by kernel_rfl)))))
    · replace H := (ifF c151).symm.trans H
      refine AWp.skip ?_
      refine AWp.seq ?_
      refine AWp.seq ?_
      refine reg hP hn hm [] [0, 1, 16] [] ⟨[(0, iV .i64 a0), (1, iV .i64 a1), (16, bV (decide (a0 < a1)))], [], 0⟩ [] (by kernel_rfl) trivial ?_
      refine AWp.cond (decide (a0 < a1)) rfl (fun c152 => ?_) (fun c152 => ?_)
      · replace H := (ifT c152).symm.trans H
        refine AWp.seq ?_
        refine reg hP hn hm [] [4] [] ⟨[(4, iV .i64 (-1))], [], 0⟩ [] (by kernel_rfl) trivial ?_
        refine AWp.conv (inv := []) (vk := []) (e0 := []) (t := ⟨[(4, iV .i64 (-1))], [], 0⟩) (by kernel_rfl) ?_
        refine AWp.ret ?_
        obtain rfl := Option.some.inj H
        exact Exists.intro _ (And.intro (fun _ _ h => h) (And.intro (.inl rfl) (And.intro rfl (And.intro (by kernel_rfl) (by kernel_rfl)))))
      · replace H := (ifF c152).symm.trans H
        refine AWp.skip ?_
        refine AWp.seq ?_
        refine AWp.seq ?_
        refine reg hP hn hm [] [19] [] ⟨[(19, bV (decide (a0 > a1)))], [], 0⟩ [] (by kernel_rfl) trivial ?_
        refine AWp.cond (decide (a0 > a1)) rfl (fun c153 => ?_) (fun c153 => ?_)
        · replace H := (ifT c153).symm.trans H
          refine AWp.seq ?_
          refine reg hP hn hm [] [4] [] ⟨[(4, iV .i64 1)], [], 0⟩ [] (by kernel_rfl) trivial ?_
          refine AWp.conv (inv := []) (vk := []) (e0 := []) (t := ⟨[(4, iV .i64 1)], [], 0⟩) (by kernel_rfl) ?_
          refine AWp.ret ?_
          obtain rfl := Option.some.inj H
          exact Exists.intro _ (And.intro (fun _ _ h => h) (And.intro (.inl rfl) (And.intro rfl (And.intro (by kernel_rfl) (by kernel_rfl)))))
        · replace H := (ifF c153).symm.trans H
          refine AWp.skip ?_
          refine AWp.seq ?_
          refine reg hP hn hm [] [4] [] ⟨[(4, iV .i64 0)], [], 0⟩ [] (by kernel_rfl) trivial ?_
          refine AWp.conv (inv := []) (vk := []) (e0 := []) (t := ⟨[(4, iV .i64 0)], [], 0⟩) (by kernel_rfl) ?_
          refine AWp.ret ?_
          obtain rfl := Option.some.inj H
          exact Exists.intro _ (And.intro (fun _ _ h => h) (And.intro (.inl rfl) (And.intro rfl (And.intro (by kernel_rfl) (by kernel_rfl)))))
def f_cmp_Or_int.l0 (a0 : List Int) (x166 : Int) : Option (Int ⊕ Unit) := if (decide (x166 < (a0.length : Int))) = true then ((at? a0 x166) >>= fun b171 => if (b171 != (0 : Int)) = true then (some (.inl b171)) else (f_cmp_Or_int.l0 a0 (IntKind.i64.wrap (x166 + (1 : Int))))) else (some (.inr ()))
partial_fixpoint
def f_cmp_Or_int.f (a0 : List Int) : Option (Int) := (f_cmp_Or_int.l0 a0 0) >>= fun oo => match oo with | .inl rr => (some rr) | .inr _ => (some 0)
theorem f_cmp_Or_int.ok (a0 : List Int) (r : Int) (H : f_cmp_Or_int.f a0 = some r) : Pv.Fn Try.prog 60 [.im (.row (a0.map (encInt .i64)))] [] 0 (fun x o => x = iV .i64 r ∧ o = []) := by
  unfold f_cmp_Or_int.f at H
  refine Fn.bodyK [] Try.func60 rfl rfl (fun Γ hP hn => ?_)
  have hm : Try.prog.follows .mixedOrders = true := by kernel_rfl
  replace hn : Γ.n = 18 := hn
  refine AWp.seq ?_
  refine reg hP hn hm [] [0] [] ⟨[(0, .im (.row (a0.map (encInt .i64))))], [], 0⟩ [] (by kernel_rfl) trivial ?_
  refine AWp.seq ?_
  refine reg hP hn hm [] [0, 3] [] ⟨[(0, .im (.row (a0.map (encInt .i64)))), (3, iV .i64 0)], [], 0⟩ [] (by kernel_rfl) trivial ?_
  refine AWp.seq ?_
  refine AWp.seq ?_
  refine reg hP hn hm [(1, .any (iV .i64 (a0.length : Int)))] [3, 6, 7, 8] [] ⟨[(3, iV .i64 0), (6, .im (.row (a0.map (encInt .i64)))), (7, iV .i64 (a0.length : Int)), (8, iV .i64 0)], [], 0⟩ [((a0.map (encInt .i64)).length : Int) = (a0.length : Int)] (by kernel_rfl) ⟨by rw [len_map], trivial⟩ ?_
  refine AWp.block ?_
  obtain ⟨o175, e176, H⟩ := bind_of H
  refine AWp.loop (LWp.conv (inv := []) (vk := []) (e0 := []) (t := ⟨[(3, iV .i64 0), (6, .im (.row (a0.map (encInt .i64)))), (7, iV .i64 (a0.length : Int)), (8, iV .i64 0)], [], 0⟩) (by kernel_rfl) ?_)
  refine LWp.mono (Q := fun e s => (match (generalizing := false) o175 with | .inl rr => e = .ret ∧ s.floor = 0 ∧ resOf Try.prog Try.f60 s = some (iV .i64 rr) ∧ ([] : List (Nat × Option MObj)) = [] | .inr _ => e = .exit 0 ∧ s = ⟨[(3, iV .i64 0)], [], 0⟩)) (LWp.cv (withBody (fun body hbody => ?_))) ?_
  · refine f_cmp_Or_int.l0.partial_correctness a0 (motive := fun x166 o175 => LWp Γ body (fun e s => ∃ t, Cv Γ s t ∧ (match (generalizing := false) o175 with | .inl rr => e = .ret ∧ t.floor = 0 ∧ resOf Try.prog Try.f60 t = some (iV .i64 rr) ∧ ([] : List (Nat × Option MObj)) = [] | .inr _ => e = .exit 0 ∧ t = ⟨[(3, iV .i64 0)], [], 0⟩)) ⟨[(3, iV .i64 0), (6, .im (.row (a0.map (encInt .i64)))), (7, iV .i64 (a0.length : Int)), (8, iV .i64 x166)], [], 0⟩) ?_ _ _ e176
    clear H e176 o175; intro self ih x166 o175 H
    subst hbody
    refine LWp.round ?_
    refine AWp.seq ?_
    refine reg hP hn hm [] [3, 6, 7, 8, 9] [] ⟨[(3, iV .i64 0), (6, .im (.row (a0.map (encInt .i64)))), (7, iV .i64 (a0.length : Int)), (8, iV .i64 x166), (9, bV (decide (x166 < (a0.length : Int))))], [], 0⟩ [] (by kernel_rfl) trivial ?_
    refine AWp.seq ?_
    refine AWp.cond (decide (x166 < (a0.length : Int))) rfl (fun c167 => ?_) (fun c167 => ?_)
    · replace H := (ifT c167).symm.trans H
      refine AWp.skip ?_
      refine AWp.seq ?_
      refine AWp.block ?_
      refine AWp.seq ?_
      obtain ⟨b171, p172, q173, H⟩ := at_of H
      refine reg hP hn hm [(0, .c ((encInt .i64) b171))] [3, 5, 6, 7, 8] [] ⟨[(3, iV .i64 0), (5, iV .i64 b171), (6, .im (.row (a0.map (encInt .i64)))), (7, iV .i64 (a0.length : Int)), (8, iV .i64 x166)], [], 0⟩ [0 ≤ x166, (a0.map (encInt .i64))[(Int.toNat (x166))]? = some ((encInt .i64) b171)] (by kernel_rfl) ⟨by exact p172, by exact el_map (encInt .i64) q173, trivial⟩ ?_
      refine AWp.seq ?_
      refine reg hP hn hm [] [3, 5, 6, 7, 8, 14] [] ⟨[(3, iV .i64 0), (5, iV .i64 b171), (6, .im (.row (a0.map (encInt .i64)))), (7, iV .i64 (a0.length : Int)), (8, iV .i64 x166), (14, bV (b171 != (0 : Int)))], [], 0⟩ [] (by kernel_rfl) trivial ?_
      refine AWp.cond (b171 != (0 : Int)) rfl (fun c174 => ?_) (fun c174 => ?_)
      · replace H := (ifT c174).symm.trans H
        refine AWp.seq ?_
        refine reg hP hn hm [] [2] [] ⟨[(2, iV .i64 b171)], [], 0⟩ [] (by kernel_rfl) trivial ?_
        refine AWp.conv (inv := []) (vk := []) (e0 := []) (t := ⟨[(2, iV .i64 b171)], [], 0⟩) (by kernel_rfl) ?_
        refine AWp.ret ?_
        obtain rfl := Option.some.inj H
        exact Exists.intro _ (And.intro (fun _ _ h => h) (And.intro rfl (And.intro rfl (And.intro (by kernel_rfl) (by kernel_rfl)))))
      · replace H := (ifF c174).symm.trans H
        refine AWp.skip ?_
        refine reg hP hn hm [] [3, 6, 7, 8] [] ⟨[(3, iV .i64 0), (6, .im (.row (a0.map (encInt .i64)))), (7, iV .i64 (a0.length : Int)), (8, iV .i64 (IntKind.i64.wrap (x166 + (1 : Int))))], [], 0⟩ [] (by kernel_rfl) trivial ?_
        exact LWp.conv (inv := []) (vk := []) (e0 := []) (t := ⟨[(3, iV .i64 0), (6, .im (.row (a0.map (encInt .i64)))), (7, iV .i64 (a0.length : Int)), (8, iV .i64 (IntKind.i64.wrap (x166 + (1 : Int))))], [], 0⟩) (by kernel_rfl) (ih _ _ H)
    · replace H := (ifF c167).symm.trans H
      refine AWp.exit ?_
      obtain rfl := Option.some.inj H
      exact Exists.intro _ (And.intro (fun _ _ h => h.conv (inv := []) (vk := []) (e0 := []) (t := ⟨[(3, iV .i64 0)], [], 0⟩) (by kernel_rfl)) (And.intro rfl rfl))
  · rcases o175 with rr | _
    · skip
      rintro e s ⟨rfl, hfl, hres⟩
      obtain rfl := Option.some.inj H
      exact Exists.intro _ (And.intro (fun _ _ h => h) (And.intro (.inl rfl) (And.intro hfl hres)))
    · skip
      rintro e s ⟨rfl, rfl⟩
      refine AWp.seq ?_
      refine reg hP hn hm [] [2] [] ⟨[(2, iV .i64 0)], [], 0⟩ [] (by kernel_rfl) trivial ?_
      refine AWp.conv (inv := []) (vk := []) (e0 := []) (t := ⟨[(2, iV .i64 0)], [], 0⟩) (by kernel_rfl) ?_
      refine AWp.ret ?_
      obtain rfl := Option.some.inj H
      exact Exists.intro _ (And.intro (fun _ _ h => h) (And.intro (.inl rfl) (And.intro rfl (And.intro (by kernel_rfl) (by kernel_rfl)))))
def f_tomb_Of_2.f (a0 : Ttomb_Range) (a1 : Ttomb_Range) : Option (Int) := (f_cmp_Compare_int64.f a0.f0 a1.f0) >>= fun t179 => (f_cmp_Compare_int64.f a0.f1 a1.f1) >>= fun t181 => (f_cmp_Or_int.f [t179, t181]) >>= fun t183 => some t183
theorem f_tomb_Of_2.ok (a0 : Ttomb_Range) (a1 : Ttomb_Range) (r : Int) (H : f_tomb_Of_2.f a0 a1 = some r) : Pv.Fn Try.prog 59 [.agg (atomb_Range a0), .agg (atomb_Range a1)] [] 0 (fun x o => x = iV .i64 r ∧ o = []) := by
  unfold f_tomb_Of_2.f at H
  refine Fn.bodyK [] Try.func59 rfl rfl (fun Γ hP hn => ?_)
  have hm : Try.prog.follows .mixedOrders = true := by kernel_rfl
  replace hn : Γ.n = 17 := hn
  refine AWp.seq ?_
  refine reg hP hn hm [(0, .k 0), (1, .k 1)] [2, 3] [0, 1] ⟨[(2, .ptr 0 0 0), (3, .ptr 1 0 0)], [(0, some (.box 64 (atomb_Range a0))), (1, some (.box 64 (atomb_Range a1)))], 0⟩ [] (by kernel_rfl) trivial ?_
  refine AWp.seq ?_
  obtain ⟨t179, e180, H⟩ := bind_of H
  obtain ⟨t181, e182, H⟩ := bind_of H
  obtain ⟨t183, e184, H⟩ := bind_of H
  refine reg hP hn hm [(4, .call [] [] [] [] 0 (iV .i64 t179) []), (9, .call [] [] [] [] 0 (iV .i64 t181) []), (10, .app 2 ([t179, t181].map (encInt .i64))), (11, .call [] [] [2] [] 0 (iV .i64 t183) [])] [4] [] ⟨[(4, iV .i64 t183)], [], 0⟩ [Enters Try.prog 61, Pv.Fn Try.prog 61 [iV .i64 a0.f0, iV .i64 a1.f0] [] 0 (fun r o => r = iV .i64 t179 ∧ o = []), Enters Try.prog 61, Pv.Fn Try.prog 61 [iV .i64 a0.f1, iV .i64 a1.f1] [] 0 (fun r o => r = iV .i64 t181 ∧ o = []), [t179, t181].map (encInt .i64) = [[iI .i64 t179], [iI .i64 t181]], Enters Try.prog 60, Pv.Fn Try.prog 60 [.im (.row ([t179, t181].map (encInt .i64)))] [] 0 (fun r o => r = iV .i64 t183 ∧ o = [])] (by kernel_rfl) ⟨by exact Try.call61, by exact f_cmp_Compare_int64.ok a0.f0 a1.f0 t179 e180, by exact Try.call61, by exact f_cmp_Compare_int64.ok a0.f1 a1.f1 t181 e182, by exact rfl, by exact Try.call60, by exact f_cmp_Or_int.ok [t179, t181] t183 e184, trivial⟩ ?_
  refine AWp.conv (inv := []) (vk := []) (e0 := []) (t := ⟨[(4, iV .i64 t183)], [], 0⟩) (by kernel_rfl) ?_
  refine AWp.ret ?_
  obtain rfl := Option.some.inj H
  exact Exists.intro _ (And.intro (fun _ _ h => h) (And.intro (.inl rfl) (And.intro rfl (And.intro (by kernel_rfl) (by kernel_rfl)))))
def f_slices_insertionSortCmpFunc_tomb_Range_tomb_Of_2.l1 (a1 : Int) (a2 : Int) (x258 : Int) (x298 : List Ttomb_Range) (x299 : Int) : Option (List Ttomb_Range) := ((if (decide (x299 > a1)) = true then ((at? x298 x299) >>= fun b310 => (at? x298 (IntKind.i64.wrap (x299 - (1 : Int)))) >>= fun b313 => (f_tomb_Of_2.f b310 b313) >>= fun t316 => some (decide (t316 < (0 : Int)))) else (some false)) : Option (Bool)) >>= fun x318 => if x318 = true then ((at? x298 (IntKind.i64.wrap (x299 - (1 : Int)))) >>= fun b329 => (at? x298 x299) >>= fun b332 => (at? (x298.set (Int.toNat (x299)) b329) (IntKind.i64.wrap (x299 - (1 : Int)))) >>= fun b335 => f_slices_insertionSortCmpFunc_tomb_Range_tomb_Of_2.l1 a1 a2 x258 ((x298.set (Int.toNat (x299)) b329).set (Int.toNat (IntKind.i64.wrap (x299 - (1 : Int)))) b332) (IntKind.i64.wrap (x299 - (1 : Int)))) else (some x298)
partial_fixpoint
def f_slices_insertionSortCmpFunc_tomb_Range_tomb_Of_2.l0 (a1 : Int) (a2 : Int) (x257 : List Ttomb_Range) (x258 : Int) : Option (List Ttomb_Range) := if (decide (x258 < a2)) = true then ((f_slices_insertionSortCmpFunc_tomb_Range_tomb_Of_2.l1 a1 a2 x258 x257 x258) >>= fun x338 => f_slices_insertionSortCmpFunc_tomb_Range_tomb_Of_2.l0 a1 a2 x338 (IntKind.i64.wrap (x258 + (1 : Int)))) else (some x257)
partial_fixpoint
def f_slices_insertionSortCmpFunc_tomb_Range_tomb_Of_2.f (a0 : List Ttomb_Range) (a1 : Int) (a2 : Int) : Option (List Ttomb_Range) := (f_slices_insertionSortCmpFunc_tomb_Range_tomb_Of_2.l0 a1 a2 a0 (IntKind.i64.wrap (a1 + (1 : Int)))) >>= fun x339 => some x339
theorem f_slices_insertionSortCmpFunc_tomb_Range_tomb_Of_2.ok (a0 : List Ttomb_Range) (a1 : Int) (a2 : Int) (r : List Ttomb_Range) (H : f_slices_insertionSortCmpFunc_tomb_Range_tomb_Of_2.f a0 a1 a2 = some r) : Pv.Fn Try.prog 120 [.own 0, iV .i64 a1, iV .i64 a2, .im (.sc (.func (.func 59) #[] #[]))] [(0, some (.row 2 64 (a0.map etomb_Range)))] 1 (fun x o => x = .tup [] ∧ o = [(0, some (.row 2 64 (r.map etomb_Range)))]) := by
  unfold f_slices_insertionSortCmpFunc_tomb_Range_tomb_Of_2.f at H
  refine Fn.bodyK [0] Try.func120 rfl rfl (fun Γ hP hn => ?_)
  have hm : Try.prog.follows .mixedOrders = true := by kernel_rfl
  replace hn : Γ.n = 53 := hn
  refine AWp.seq ?_
  refine reg hP hn hm [] [0, 1, 2, 3, 8] [0] ⟨[(0, .own 0), (1, iV .i64 a1), (2, iV .i64 a2), (3, .im (.sc (.func (.func 59) #[] #[]))), (8, iV .i64 (IntKind.i64.wrap (a1 + (1 : Int))))], [(0, some (.row 2 64 (a0.map etomb_Range)))], 1⟩ [] (by kernel_rfl) trivial ?_
  refine AWp.block ?_
  obtain ⟨o340, e341, H⟩ := bind_of H
  refine AWp.loop (LWp.conv (inv := [(0, 0)]) (vk := []) (e0 := []) (t := ⟨[(0, .own 0), (1, iV .i64 a1), (2, iV .i64 a2), (3, .im (.sc (.func (.func 59) #[] #[]))), (8, iV .i64 (IntKind.i64.wrap (a1 + (1 : Int))))], [(0, some (.row 2 64 (a0.map etomb_Range)))], 1⟩) (by kernel_rfl) ?_)
  refine LWp.mono (Q := fun e s => (match (generalizing := false) o340 with | x339 => e = .exit 0 ∧ s = ⟨[], [(0, some (.row 2 64 (x339.map etomb_Range)))], 1⟩)) (LWp.cv (withBody (fun body hbody => ?_))) ?_
  · refine f_slices_insertionSortCmpFunc_tomb_Range_tomb_Of_2.l0.partial_correctness a1 a2 (motive := fun x257 x258 o340 => LWp Γ body (fun e s => ∃ t, Cv Γ s t ∧ (match (generalizing := false) o340 with | x339 => e = .exit 0 ∧ t = ⟨[], [(0, some (.row 2 64 (x339.map etomb_Range)))], 1⟩)) ⟨[(0, .own 0), (1, iV .i64 a1), (2, iV .i64 a2), (3, .im (.sc (.func (.func 59) #[] #[]))), (8, iV .i64 x258)], [(0, some (.row 2 64 (x257.map etomb_Range)))], 1⟩) ?_ _ _ _ e341
    clear H e341 o340; intro self ih x257 x258 o340 H
    subst hbody
    refine LWp.round ?_
    refine AWp.seq ?_
    refine AWp.seq ?_
    refine reg hP hn hm [] [0, 1, 2, 3, 8, 14] [0] ⟨[(0, .own 0), (1, iV .i64 a1), (2, iV .i64 a2), (3, .im (.sc (.func (.func 59) #[] #[]))), (8, iV .i64 x258), (14, bV (decide (x258 < a2)))], [(0, some (.row 2 64 (x257.map etomb_Range)))], 1⟩ [] (by kernel_rfl) trivial ?_
    refine AWp.cond (decide (x258 < a2)) rfl (fun c259 => ?_) (fun c259 => ?_)
    · replace H := (ifT c259).symm.trans H
      refine AWp.skip ?_
      refine AWp.seq ?_
      refine AWp.block ?_
      refine AWp.seq ?_
      refine reg hP hn hm [] [0, 1, 2, 3, 8, 9] [0] ⟨[(0, .own 0), (1, iV .i64 a1), (2, iV .i64 a2), (3, .im (.sc (.func (.func 59) #[] #[]))), (8, iV .i64 x258), (9, iV .i64 x258)], [(0, some (.row 2 64 (x257.map etomb_Range)))], 1⟩ [] (by kernel_rfl) trivial ?_
      refine AWp.block ?_
      obtain ⟨o342, e343, H⟩ := bind_of H
      refine AWp.loop (LWp.conv (inv := [(0, 0)]) (vk := []) (e0 := []) (t := ⟨[(0, .own 0), (1, iV .i64 a1), (2, iV .i64 a2), (3, .im (.sc (.func (.func 59) #[] #[]))), (8, iV .i64 x258), (9, iV .i64 x258)], [(0, some (.row 2 64 (x257.map etomb_Range)))], 1⟩) (by kernel_rfl) ?_)
      refine LWp.mono (Q := fun e s => (match (generalizing := false) o342 with | x338 => e = .exit 2 ∧ s = ⟨[(0, .own 0), (1, iV .i64 a1), (2, iV .i64 a2), (3, .im (.sc (.func (.func 59) #[] #[]))), (8, iV .i64 x258)], [(0, some (.row 2 64 (x338.map etomb_Range)))], 1⟩)) (LWp.cv (withBody (fun body hbody => ?_))) ?_
      · refine f_slices_insertionSortCmpFunc_tomb_Range_tomb_Of_2.l1.partial_correctness a1 a2 x258 (motive := fun x298 x299 o342 => LWp Γ body (fun e s => ∃ t, Cv Γ s t ∧ (match (generalizing := false) o342 with | x338 => e = .exit 2 ∧ t = ⟨[(0, .own 0), (1, iV .i64 a1), (2, iV .i64 a2), (3, .im (.sc (.func (.func 59) #[] #[]))), (8, iV .i64 x258)], [(0, some (.row 2 64 (x338.map etomb_Range)))], 1⟩)) ⟨[(0, .own 0), (1, iV .i64 a1), (2, iV .i64 a2), (3, .im (.sc (.func (.func 59) #[] #[]))), (8, iV .i64 x258), (9, iV .i64 x299)], [(0, some (.row 2 64 (x298.map etomb_Range)))], 1⟩) ?_ _ _ _ e343
        clear H e343 o342; intro self ih x298 x299 o342 H
        subst hbody
        refine LWp.round ?_
        refine AWp.seq ?_
        refine AWp.seq ?_
        obtain ⟨o344, e345, H⟩ := bind_of H
        refine AWp.mono (Q := fun e s => (match (generalizing := false) o344 with | x318 => e = .normal ∧ s = ⟨[(0, .own 0), (1, iV .i64 a1), (2, iV .i64 a2), (3, .im (.sc (.func (.func 59) #[] #[]))), (8, iV .i64 x258), (9, iV .i64 x299), (34, bV x318)], [(0, some (.row 2 64 (x298.map etomb_Range)))], 1⟩)) (AWp.cv ?_) ?_
        · replace H := e345; clear e345
          rcases Bool.eq_false_or_eq_true (decide (x299 > a1)) with c309 | c309
          · replace H := (ifT c309).symm.trans H
            obtain ⟨b310, p311, q312, H⟩ := at_of H
            obtain ⟨b313, p314, q315, H⟩ := at_of H
            obtain ⟨t316, e317, H⟩ := bind_of H
            refine reg hP hn hm [(3, .b true), (8, .c (etomb_Range b310)), (13, .c (etomb_Range b313)), (14, .call [] [] [] [] 0 (iV .i64 t316) [])] [0, 1, 2, 3, 8, 9, 22, 23, 24, 25, 26, 27, 28, 29, 30, 31, 32, 33, 34] [0] ⟨[(0, .own 0), (1, iV .i64 a1), (2, iV .i64 a2), (3, .im (.sc (.func (.func 59) #[] #[]))), (8, iV .i64 x258), (9, iV .i64 x299), (22, .im (.sc (.func (.func 59) #[] #[]))), (23, .own 0), (24, iV .i64 x299), (25, .ptr 0 (Int.toNat (x299)) 0), (26, .agg (atomb_Range b310)), (27, .own 0), (28, iV .i64 x299), (29, iV .i64 (IntKind.i64.wrap (x299 - (1 : Int)))), (30, .ptr 0 (Int.toNat (IntKind.i64.wrap (x299 - (1 : Int)))) 0), (31, .agg (atomb_Range b313)), (32, iV .i64 t316), (33, bV (decide (t316 < (0 : Int)))), (34, bV (decide (t316 < (0 : Int))))], [(0, some (.row 2 64 (x298.map etomb_Range)))], 1⟩ [(decide (x299 > a1)) = true, 0 ≤ x299, x299 < (((x298.map etomb_Range).length : Nat) : Int), (x298.map etomb_Range)[(Int.toNat (x299))]? = some (etomb_Range b310), 0 ≤ (IntKind.i64.wrap (x299 - (1 : Int))), IntKind.i64.wrap (x299 - (1 : Int)) < (((x298.map etomb_Range).length : Nat) : Int), (x298.map etomb_Range)[(Int.toNat (IntKind.i64.wrap (x299 - (1 : Int))))]? = some (etomb_Range b313), Enters Try.prog 59, Pv.Fn Try.prog 59 [.agg (atomb_Range b310), .agg (atomb_Range b313)] [] 0 (fun r o => r = iV .i64 t316 ∧ o = [])] (by kernel_rfl) ⟨by exact c309, by exact p311, by exact el_lt etomb_Range p311 q312, by exact el_map etomb_Range q312, by exact p314, by exact el_lt etomb_Range p314 q315, by exact el_map etomb_Range q315, by exact Try.call59, by exact f_tomb_Of_2.ok b310 b313 t316 e317, trivial⟩ ?_
            obtain rfl := Option.some.inj H
            exact Exists.intro _ (And.intro (fun _ _ h => h.conv (inv := [(0, 0)]) (vk := []) (e0 := []) (t := ⟨[(0, .own 0), (1, iV .i64 a1), (2, iV .i64 a2), (3, .im (.sc (.func (.func 59) #[] #[]))), (8, iV .i64 x258), (9, iV .i64 x299), (34, bV (decide (t316 < (0 : Int))))], [(0, some (.row 2 64 (x298.map etomb_Range)))], 1⟩) (by kernel_rfl)) (And.intro rfl rfl))
          · replace H := (ifF c309).symm.trans H
            refine reg hP hn hm [(3, .b false)] [0, 1, 2, 3, 8, 9, 34] [0] ⟨[(0, .own 0), (1, iV .i64 a1), (2, iV .i64 a2), (3, .im (.sc (.func (.func 59) #[] #[]))), (8, iV .i64 x258), (9, iV .i64 x299), (34, bV false)], [(0, some (.row 2 64 (x298.map etomb_Range)))], 1⟩ [(decide (x299 > a1)) = false] (by kernel_rfl) ⟨by exact c309, trivial⟩ ?_
            obtain rfl := Option.some.inj H
            exact Exists.intro _ (And.intro (fun _ _ h => h.conv (inv := [(0, 0)]) (vk := []) (e0 := []) (t := ⟨[(0, .own 0), (1, iV .i64 a1), (2, iV .i64 a2), (3, .im (.sc (.func (.func 59) #[] #[]))), (8, iV .i64 x258), (9, iV .i64 x299), (34, bV false)], [(0, some (.row 2 64 (x298.map etomb_Range)))], 1⟩) (by kernel_rfl)) (And.intro rfl rfl))
        · obtain ⟨x318, rfl⟩ : ∃ z, z = o344 := ⟨_, rfl⟩
          rintro e s ⟨rfl, rfl⟩
          refine AWp.cond x318 rfl (fun c319 => ?_) (fun c319 => ?_)
          · replace H := (ifT c319).symm.trans H
            refine AWp.skip ?_
            refine AWp.seq ?_
            refine AWp.block ?_
            obtain ⟨b329, p330, q331, H⟩ := at_of H
            obtain ⟨b332, p333, q334, H⟩ := at_of H
            obtain ⟨b335, p336, q337, H⟩ := at_of H
            refine reg hP hn hm [(9, .c (etomb_Range b329)), (13, .c (etomb_Range b332)), (15, .put (etomb_Range b332) ((x298.set (Int.toNat (x299)) b329).map etomb_Range)), (17, .put (etomb_Range b335) (((x298.set (Int.toNat (x299)) b329).set (Int.toNat (IntKind.i64.wrap (x299 - (1 : Int)))) b332).map etomb_Range))] [0, 1, 2, 3, 8, 9] [0] ⟨[(0, .own 0), (1, iV .i64 a1), (2, iV .i64 a2), (3, .im (.sc (.func (.func 59) #[] #[]))), (8, iV .i64 x258), (9, iV .i64 x299)], [(0, some (.row 2 64 (((x298.set (Int.toNat (x299)) b329).set (Int.toNat (IntKind.i64.wrap (x299 - (1 : Int)))) b332).map etomb_Range)))], 1⟩ [0 ≤ (IntKind.i64.wrap (x299 - (1 : Int))), IntKind.i64.wrap (x299 - (1 : Int)) < (((x298.map etomb_Range).length : Nat) : Int), (x298.map etomb_Range)[(Int.toNat (IntKind.i64.wrap (x299 - (1 : Int))))]? = some (etomb_Range b329), 0 ≤ x299, x299 < (((x298.map etomb_Range).length : Nat) : Int), (x298.map etomb_Range)[(Int.toNat (x299))]? = some (etomb_Range b332), 0 ≤ x299, x299 < (((x298.map etomb_Range).length : Nat) : Int), (x298.map etomb_Range)[(Int.toNat (x299))]? = some (etomb_Range b332), (x298.set (Int.toNat (x299)) b329).map etomb_Range = (x298.map etomb_Range).set (Int.toNat (x299)) (splice (etomb_Range b332) 0 [iI .i64 b329.f0, iI .i64 b329.f1]), 0 ≤ (IntKind.i64.wrap (x299 - (1 : Int))), IntKind.i64.wrap (x299 - (1 : Int)) < ((((x298.set (Int.toNat (x299)) b329).map etomb_Range).length : Nat) : Int), ((x298.set (Int.toNat (x299)) b329).map etomb_Range)[(Int.toNat (IntKind.i64.wrap (x299 - (1 : Int))))]? = some (etomb_Range b335), ((x298.set (Int.toNat (x299)) b329).set (Int.toNat (IntKind.i64.wrap (x299 - (1 : Int)))) b332).map etomb_Range = ((x298.set (Int.toNat (x299)) b329).map etomb_Range).set (Int.toNat (IntKind.i64.wrap (x299 - (1 : Int)))) (splice (etomb_Range b335) 0 [iI .i64 b332.f0, iI .i64 b332.f1])] (by kernel_rfl) ⟨by exact p330, by exact el_lt etomb_Range p330 q331, by exact el_map etomb_Range q331, by exact p333, by exact el_lt etomb_Range p333 q334, by exact el_map etomb_Range q334, by exact p333, by exact el_lt etomb_Range p333 q334, by exact el_map etomb_Range q334, by exact set1 _ _ _ _, by exact p336, by exact el_lt etomb_Range p336 q337, by exact el_map etomb_Range q337, by exact set1 _ _ _ _, trivial⟩ ?_
            refine reg hP hn hm [] [0, 1, 2, 3, 8, 9] [0] ⟨[(0, .own 0), (1, iV .i64 a1), (2, iV .i64 a2), (3, .im (.sc (.func (.func 59) #[] #[]))), (8, iV .i64 x258), (9, iV .i64 (IntKind.i64.wrap (x299 - (1 : Int))))], [(0, some (.row 2 64 (((x298.set (Int.toNat (x299)) b329).set (Int.toNat (IntKind.i64.wrap (x299 - (1 : Int)))) b332).map etomb_Range)))], 1⟩ [] (by kernel_rfl) trivial ?_
            exact LWp.conv (inv := [(0, 0)]) (vk := []) (e0 := []) (t := ⟨[(0, .own 0), (1, iV .i64 a1), (2, iV .i64 a2), (3, .im (.sc (.func (.func 59) #[] #[]))), (8, iV .i64 x258), (9, iV .i64 (IntKind.i64.wrap (x299 - (1 : Int))))], [(0, some (.row 2 64 (((x298.set (Int.toNat (x299)) b329).set (Int.toNat (IntKind.i64.wrap (x299 - (1 : Int)))) b332).map etomb_Range)))], 1⟩) (by kernel_rfl) (ih _ _ _ H)
          · replace H := (ifF c319).symm.trans H
            refine AWp.exit ?_
            obtain rfl := Option.some.inj H
            exact Exists.intro _ (And.intro (fun _ _ h => h.conv (inv := [(0, 0)]) (vk := []) (e0 := []) (t := ⟨[(0, .own 0), (1, iV .i64 a1), (2, iV .i64 a2), (3, .im (.sc (.func (.func 59) #[] #[]))), (8, iV .i64 x258)], [(0, some (.row 2 64 (x298.map etomb_Range)))], 1⟩) (by kernel_rfl)) (And.intro rfl rfl))
      · obtain ⟨x338, rfl⟩ : ∃ z, z = o342 := ⟨_, rfl⟩
        rintro e s ⟨rfl, rfl⟩
        refine reg hP hn hm [] [0, 1, 2, 3, 8] [0] ⟨[(0, .own 0), (1, iV .i64 a1), (2, iV .i64 a2), (3, .im (.sc (.func (.func 59) #[] #[]))), (8, iV .i64 (IntKind.i64.wrap (x258 + (1 : Int))))], [(0, some (.row 2 64 (x338.map etomb_Range)))], 1⟩ [] (by kernel_rfl) trivial ?_
        exact LWp.conv (inv := [(0, 0)]) (vk := []) (e0 := []) (t := ⟨[(0, .own 0), (1, iV .i64 a1), (2, iV .i64 a2), (3, .im (.sc (.func (.func 59) #[] #[]))), (8, iV .i64 (IntKind.i64.wrap (x258 + (1 : Int))))], [(0, some (.row 2 64 (x338.map etomb_Range)))], 1⟩) (by kernel_rfl) (ih _ _ _ H)
    · replace H := (ifF c259).symm.trans H
      refine AWp.exit ?_
      obtain rfl := Option.some.inj H
      exact Exists.intro _ (And.intro (fun _ _ h => h.conv (inv := [(0, 0)]) (vk := []) (e0 := []) (t := ⟨[], [(0, some (.row 2 64 (x257.map etomb_Range)))], 1⟩) (by kernel_rfl)) (And.intro rfl rfl))
  · obtain ⟨x339, rfl⟩ : ∃ z, z = o340 := ⟨_, rfl⟩
    rintro e s ⟨rfl, rfl⟩
    obtain rfl := Option.some.inj H
    exact Exists.intro ⟨[], [(0, some (.row 2 64 (x339.map etomb_Range)))], 1⟩ (And.intro (fun _ _ h => h.conv (inv := [(0, 0)]) (vk := []) (e0 := []) (t := ⟨[], [(0, some (.row 2 64 (x339.map etomb_Range)))], 1⟩) (by kernel_rfl)) (And.intro (.inr rfl) (And.intro rfl (And.intro (by kernel_rfl) (by kernel_rfl)))))
def f_slices_siftDownCmpFunc_tomb_Range_tomb_Of_2.l0 (a2 : Int) (a3 : Int) (x397 : List Ttomb_Range) (x398 : Int) : Option ((List Ttomb_Range) ⊕ (List Ttomb_Range)) := if (decide ((IntKind.i64.wrap ((IntKind.i64.wrap ((2 : Int) * x398)) + (1 : Int))) ≥ a2)) = true then (some (.inr x397)) else (((if (decide ((IntKind.i64.wrap ((IntKind.i64.wrap ((IntKind.i64.wrap ((2 : Int) * x398)) + (1 : Int))) + (1 : Int))) < a2)) = true then ((at? x397 (IntKind.i64.wrap (a3 + (IntKind.i64.wrap ((IntKind.i64.wrap ((2 : Int) * x398)) + (1 : Int)))))) >>= fun b410 => (at? x397 (IntKind.i64.wrap ((IntKind.i64.wrap (a3 + (IntKind.i64.wrap ((IntKind.i64.wrap ((2 : Int) * x398)) + (1 : Int))))) + (1 : Int)))) >>= fun b413 => (f_tomb_Of_2.f b410 b413) >>= fun t416 => some (decide (t416 < (0 : Int)))) else (some false)) : Option (Bool)) >>= fun x418 => ((if x418 = true then (some (IntKind.i64.wrap ((IntKind.i64.wrap ((IntKind.i64.wrap ((2 : Int) * x398)) + (1 : Int))) + (1 : Int)))) else (some (IntKind.i64.wrap ((IntKind.i64.wrap ((2 : Int) * x398)) + (1 : Int))))) : Option (Int)) >>= fun x420 => (at? x397 (IntKind.i64.wrap (a3 + x398))) >>= fun b429 => (at? x397 (IntKind.i64.wrap (a3 + x420))) >>= fun b432 => (f_tomb_Of_2.f b429 b432) >>= fun t435 => if (!(decide (t435 < (0 : Int)))) = true then (some (.inl x397)) else ((at? (x397.set (Int.toNat (IntKind.i64.wrap (a3 + x398))) b432) (IntKind.i64.wrap (a3 + x420))) >>= fun b441 => f_slices_siftDownCmpFunc_tomb_Range_tomb_Of_2.l0 a2 a3 ((x397.set (Int.toNat (IntKind.i64.wrap (a3 + x398))) b432).set (Int.toNat (IntKind.i64.wrap (a3 + x420))) b429) x420))
partial_fixpoint
def f_slices_siftDownCmpFunc_tomb_Range_tomb_Of_2.f (a0 : List Ttomb_Range) (a1 : Int) (a2 : Int) (a3 : Int) : Option (List Ttomb_Range) := (f_slices_siftDownCmpFunc_tomb_Range_tomb_Of_2.l0 a2 a3 a0 a1) >>= fun oo => match oo with | .inl rr => (some rr) | .inr x444 => (some x444)
theorem f_slices_siftDownCmpFunc_tomb_Range_tomb_Of_2.ok (a0 : List Ttomb_Range) (a1 : Int) (a2 : Int) (a3 : Int) (r : List Ttomb_Range) (H : f_slices_siftDownCmpFunc_tomb_Range_tomb_Of_2.f a0 a1 a2 a3 = some r) : Pv.Fn Try.prog 142 [.own 0, iV .i64 a1, iV .i64 a2, iV .i64 a3, .im (.sc (.func (.func 59) #[] #[]))] [(0, some (.row 2 64 (a0.map etomb_Range)))] 1 (fun x o => x = .tup [] ∧ o = [(0, some (.row 2 64 (r.map etomb_Range)))]) := by
  unfold f_slices_siftDownCmpFunc_tomb_Range_tomb_Of_2.f at H
  refine Fn.bodyK [0] Try.func142 rfl rfl (fun Γ hP hn => ?_)
  have hm : Try.prog.follows .mixedOrders = true := by kernel_rfl
  replace hn : Γ.n = 82 := hn
  refine AWp.seq ?_
  refine reg hP hn hm [] [0, 2, 3, 4, 10] [0] ⟨[(0, .own 0), (2, iV .i64 a2), (3, iV .i64 a3), (4, .im (.sc (.func (.func 59) #[] #[]))), (10, iV .i64 a1)], [(0, some (.row 2 64 (a0.map etomb_Range)))], 1⟩ [] (by kernel_rfl) trivial ?_
  refine AWp.block ?_
  obtain ⟨o445, e446, H⟩ := bind_of H
  refine AWp.loop (LWp.conv (inv := [(0, 0)]) (vk := []) (e0 := []) (t := ⟨[(0, .own 0), (2, iV .i64 a2), (3, iV .i64 a3), (4, .im (.sc (.func (.func 59) #[] #[]))), (10, iV .i64 a1)], [(0, some (.row 2 64 (a0.map etomb_Range)))], 1⟩) (by kernel_rfl) ?_)
  refine LWp.mono (Q := fun e s => (match (generalizing := false) o445 with | .inl rr => e = .ret ∧ s.floor = 1 ∧ resOf Try.prog Try.f142 s = some (.tup []) ∧ ([(0, s.obj 0)] : List (Nat × Option MObj)) = [(0, some (.row 2 64 (rr.map etomb_Range)))] | .inr x444 => e = .exit 0 ∧ s = ⟨[], [(0, some (.row 2 64 (x444.map etomb_Range)))], 1⟩)) (LWp.cv (withBody (fun body hbody => ?_))) ?_
  · refine f_slices_siftDownCmpFunc_tomb_Range_tomb_Of_2.l0.partial_correctness a2 a3 (motive := fun x397 x398 o445 => LWp Γ body (fun e s => ∃ t, Cv Γ s t ∧ (match (generalizing := false) o445 with | .inl rr => e = .ret ∧ t.floor = 1 ∧ resOf Try.prog Try.f142 t = some (.tup []) ∧ ([(0, t.obj 0)] : List (Nat × Option MObj)) = [(0, some (.row 2 64 (rr.map etomb_Range)))] | .inr x444 => e = .exit 0 ∧ t = ⟨[], [(0, some (.row 2 64 (x444.map etomb_Range)))], 1⟩)) ⟨[(0, .own 0), (2, iV .i64 a2), (3, iV .i64 a3), (4, .im (.sc (.func (.func 59) #[] #[]))), (10, iV .i64 x398)], [(0, some (.row 2 64 (x397.map etomb_Range)))], 1⟩) ?_ _ _ _ e446
    clear H e446 o445; intro self ih x397 x398 o445 H
    subst hbody
    refine LWp.round ?_
    refine AWp.block ?_
    refine AWp.seq ?_
    refine reg hP hn hm [] [0, 2, 3, 4, 10, 11] [0] ⟨[(0, .own 0), (2, iV .i64 a2), (3, iV .i64 a3), (4, .im (.sc (.func (.func 59) #[] #[]))), (10, iV .i64 x398), (11, iV .i64 (IntKind.i64.wrap ((IntKind.i64.wrap ((2 : Int) * x398)) + (1 : Int))))], [(0, some (.row 2 64 (x397.map etomb_Range)))], 1⟩ [] (by kernel_rfl) trivial ?_
    refine AWp.seq ?_
    refine AWp.seq ?_
    refine reg hP hn hm [] [0, 2, 3, 4, 10, 11, 18] [0] ⟨[(0, .own 0), (2, iV .i64 a2), (3, iV .i64 a3), (4, .im (.sc (.func (.func 59) #[] #[]))), (10, iV .i64 x398), (11, iV .i64 (IntKind.i64.wrap ((IntKind.i64.wrap ((2 : Int) * x398)) + (1 : Int)))), (18, bV (decide ((IntKind.i64.wrap ((IntKind.i64.wrap ((2 : Int) * x398)) + (1 : Int))) ≥ a2)))], [(0, some (.row 2 64 (x397.map etomb_Range)))], 1⟩ [] (by kernel_rfl) trivial ?_
    refine AWp.cond (decide ((IntKind.i64.wrap ((IntKind.i64.wrap ((2 : Int) * x398)) + (1 : Int))) ≥ a2)) rfl (fun c399 => ?_) (fun c399 => ?_)
    · replace H := (ifT c399).symm.trans H
      refine AWp.exit ?_
      obtain rfl := Option.some.inj H
      exact Exists.intro _ (And.intro (fun _ _ h => h.conv (inv := [(0, 0)]) (vk := []) (e0 := []) (t := ⟨[], [(0, some (.row 2 64 (x397.map etomb_Range)))], 1⟩) (by kernel_rfl)) (And.intro rfl rfl))
    · replace H := (ifF c399).symm.trans H
      refine AWp.skip ?_
      refine AWp.seq ?_
      refine AWp.seq ?_
      obtain ⟨o447, e448, H⟩ := bind_of H
      refine AWp.mono (Q := fun e s => (match (generalizing := false) o447 with | x418 => e = .normal ∧ s = ⟨[(0, .own 0), (2, iV .i64 a2), (3, iV .i64 a3), (4, .im (.sc (.func (.func 59) #[] #[]))), (10, iV .i64 x398), (11, iV .i64 (IntKind.i64.wrap ((IntKind.i64.wrap ((2 : Int) * x398)) + (1 : Int)))), (40, bV x418)], [(0, some (.row 2 64 (x397.map etomb_Range)))], 1⟩)) (AWp.cv ?_) ?_
      · replace H := e448; clear e448
        rcases Bool.eq_false_or_eq_true (decide ((IntKind.i64.wrap ((IntKind.i64.wrap ((IntKind.i64.wrap ((2 : Int) * x398)) + (1 : Int))) + (1 : Int))) < a2)) with c409 | c409
        · replace H := (ifT c409).symm.trans H
          obtain ⟨b410, p411, q412, H⟩ := at_of H
          obtain ⟨b413, p414, q415, H⟩ := at_of H
          obtain ⟨t416, e417, H⟩ := bind_of H
          refine reg hP hn hm [(4, .b true), (11, .c (etomb_Range b410)), (18, .c (etomb_Range b413)), (19, .call [] [] [] [] 0 (iV .i64 t416) [])] [0, 2, 3, 4, 10, 11, 24, 25, 26, 27, 28, 29, 30, 31, 32, 33, 34, 35, 36, 37, 38, 39, 40] [0] ⟨[(0, .own 0), (2, iV .i64 a2), (3, iV .i64 a3), (4, .im (.sc (.func (.func 59) #[] #[]))), (10, iV .i64 x398), (11, iV .i64 (IntKind.i64.wrap ((IntKind.i64.wrap ((2 : Int) * x398)) + (1 : Int)))), (24, .im (.sc (.func (.func 59) #[] #[]))), (25, .own 0), (26, iV .i64 a3), (27, iV .i64 (IntKind.i64.wrap ((IntKind.i64.wrap ((2 : Int) * x398)) + (1 : Int)))), (28, iV .i64 (IntKind.i64.wrap (a3 + (IntKind.i64.wrap ((IntKind.i64.wrap ((2 : Int) * x398)) + (1 : Int)))))), (29, .ptr 0 (Int.toNat (IntKind.i64.wrap (a3 + (IntKind.i64.wrap ((IntKind.i64.wrap ((2 : Int) * x398)) + (1 : Int)))))) 0), (30, .agg (atomb_Range b410)), (31, .own 0), (32, iV .i64 a3), (33, iV .i64 (IntKind.i64.wrap ((IntKind.i64.wrap ((2 : Int) * x398)) + (1 : Int)))), (34, iV .i64 (IntKind.i64.wrap (a3 + (IntKind.i64.wrap ((IntKind.i64.wrap ((2 : Int) * x398)) + (1 : Int)))))), (35, iV .i64 (IntKind.i64.wrap ((IntKind.i64.wrap (a3 + (IntKind.i64.wrap ((IntKind.i64.wrap ((2 : Int) * x398)) + (1 : Int))))) + (1 : Int)))), (36, .ptr 0 (Int.toNat (IntKind.i64.wrap ((IntKind.i64.wrap (a3 + (IntKind.i64.wrap ((IntKind.i64.wrap ((2 : Int) * x398)) + (1 : Int))))) + (1 : Int)))) 0), (37, .agg (atomb_Range b413)), (38, iV .i64 t416), (39, bV (decide (t416 < (0 : Int)))), (40, bV (decide (t416 < (0 : Int))))], [(0, some (.row 2 64 (x397.map etomb_Range)))], 1⟩ [(decide ((IntKind.i64.wrap ((IntKind.i64.wrap ((IntKind.i64.wrap ((2 : Int) * x398)) + (1 : Int))) + (1 : Int))) < a2)) = true, 0 ≤ (IntKind.i64.wrap (a3 + (IntKind.i64.wrap ((IntKind.i64.wrap ((2 : Int) * x398)) + (1 : Int))))), IntKind.i64.wrap (a3 + (IntKind.i64.wrap ((IntKind.i64.wrap ((2 : Int) * x398)) + (1 : Int)))) < (((x397.map etomb_Range).length : Nat) : Int), (x397.map etomb_Range)[(Int.toNat (IntKind.i64.wrap (a3 + (IntKind.i64.wrap ((IntKind.i64.wrap ((2 : Int) * x398)) + (1 : Int))))))]? = some (etomb_Range b410), 0 ≤ (IntKind.i64.wrap ((IntKind.i64.wrap (a3 + (IntKind.i64.wrap ((IntKind.i64.wrap ((2 : Int) * x398)) + (1 : Int))))) + (1 : Int))), IntKind.i64.wrap ((IntKind.i64.wrap (a3 + (IntKind.i64.wrap ((IntKind.i64.wrap ((2 : Int) * x398)) + (1 : Int))))) + (1 : Int)) < (((x397.map etomb_Range).length : Nat) : Int), (x397.map etomb_Range)[(Int.toNat (IntKind.i64.wrap ((IntKind.i64.wrap (a3 + (IntKind.i64.wrap ((IntKind.i64.wrap ((2 : Int) * x398)) + (1 : Int))))) + (1 : Int))))]? = some (etomb_Range b413), Enters Try.prog 59, Pv.Fn Try.prog 59 [.agg (atomb_Range b410), .agg (atomb_Range b413)] [] 0 (fun r o => r = iV .i64 t416 ∧ o = [])] (by kernel_rfl) ⟨by exact c409, by exact p411, by exact el_lt etomb_Range p411 q412, by exact el_map etomb_Range q412, by exact p414, by exact el_lt etomb_Range p414 q415, by exact el_map etomb_Range q415, by exact Try.call59, by exact f_tomb_Of_2.ok b410 b413 t416 e417, trivial⟩ ?_
          obtain rfl := Option.some.inj H
          exact Exists.intro _ (And.intro (fun _ _ h => h.conv (inv := [(0, 0)]) (vk := []) (e0 := []) (t := ⟨[(0, .own 0), (2, iV .i64 a2), (3, iV .i64 a3), (4, .im (.sc (.func (.func 59) #[] #[]))), (10, iV .i64 x398), (11, iV .i64 (IntKind.i64.wrap ((IntKind.i64.wrap ((2 : Int) * x398)) + (1 : Int)))), (40, bV (decide (t416 < (0 : Int))))], [(0, some (.row 2 64 (x397.map etomb_Range)))], 1⟩) (by kernel_rfl)) (And.intro rfl rfl))
        · replace H := (ifF c409).symm.trans H
          refine reg hP hn hm [(4, .b false)] [0, 2, 3, 4, 10, 11, 40] [0] ⟨[(0, .own 0), (2, iV .i64 a2), (3, iV .i64 a3), (4, .im (.sc (.func (.func 59) #[] #[]))), (10, iV .i64 x398), (11, iV .i64 (IntKind.i64.wrap ((IntKind.i64.wrap ((2 : Int) * x398)) + (1 : Int)))), (40, bV false)], [(0, some (.row 2 64 (x397.map etomb_Range)))], 1⟩ [(decide ((IntKind.i64.wrap ((IntKind.i64.wrap ((IntKind.i64.wrap ((2 : Int) * x398)) + (1 : Int))) + (1 : Int))) < a2)) = false] (by kernel_rfl) ⟨by exact c409, trivial⟩ ?_
          obtain rfl := Option.some.inj H
          exact Exists.intro _ (And.intro (fun _ _ h => h.conv (inv := [(0, 0)]) (vk := []) (e0 := []) (t := ⟨[(0, .own 0), (2, iV .i64 a2), (3, iV .i64 a3), (4, .im (.sc (.func (.func 59) #[] #[]))), (10, iV .i64 x398), (11, iV .i64 (IntKind.i64.wrap ((IntKind.i64.wrap ((2 : Int) * x398)) + (1 : Int)))), (40, bV false)], [(0, some (.row 2 64 (x397.map etomb_Range)))], 1⟩) (by kernel_rfl)) (And.intro rfl rfl))
      · obtain ⟨x418, rfl⟩ : ∃ z, z = o447 := ⟨_, rfl⟩
        rintro e s ⟨rfl, rfl⟩
        obtain ⟨o449, e450, H⟩ := bind_of H
        refine AWp.mono (Q := fun e s => (match (generalizing := false) o449 with | x420 => e = .normal ∧ s = ⟨[(0, .own 0), (2, iV .i64 a2), (3, iV .i64 a3), (4, .im (.sc (.func (.func 59) #[] #[]))), (10, iV .i64 x398), (11, iV .i64 x420)], [(0, some (.row 2 64 (x397.map etomb_Range)))], 1⟩)) (AWp.cv ?_) ?_
        · replace H := e450; clear e450
          refine AWp.cond x418 rfl (fun c419 => ?_) (fun c419 => ?_)
          · replace H := (ifT c419).symm.trans H
            refine reg hP hn hm [] [0, 2, 3, 4, 10, 11] [0] ⟨[(0, .own 0), (2, iV .i64 a2), (3, iV .i64 a3), (4, .im (.sc (.func (.func 59) #[] #[]))), (10, iV .i64 x398), (11, iV .i64 (IntKind.i64.wrap ((IntKind.i64.wrap ((IntKind.i64.wrap ((2 : Int) * x398)) + (1 : Int))) + (1 : Int))))], [(0, some (.row 2 64 (x397.map etomb_Range)))], 1⟩ [] (by kernel_rfl) trivial ?_
            obtain rfl := Option.some.inj H
            exact Exists.intro _ (And.intro (fun _ _ h => h.conv (inv := [(0, 0)]) (vk := []) (e0 := []) (t := ⟨[(0, .own 0), (2, iV .i64 a2), (3, iV .i64 a3), (4, .im (.sc (.func (.func 59) #[] #[]))), (10, iV .i64 x398), (11, iV .i64 (IntKind.i64.wrap ((IntKind.i64.wrap ((IntKind.i64.wrap ((2 : Int) * x398)) + (1 : Int))) + (1 : Int))))], [(0, some (.row 2 64 (x397.map etomb_Range)))], 1⟩) (by kernel_rfl)) (And.intro rfl rfl))
          · replace H := (ifF c419).symm.trans H
            refine AWp.skip ?_
            obtain rfl := Option.some.inj H
            exact Exists.intro _ (And.intro (fun _ _ h => h.conv (inv := [(0, 0)]) (vk := []) (e0 := []) (t := ⟨[(0, .own 0), (2, iV .i64 a2), (3, iV .i64 a3), (4, .im (.sc (.func (.func 59) #[] #[]))), (10, iV .i64 x398), (11, iV .i64 (IntKind.i64.wrap ((IntKind.i64.wrap ((2 : Int) * x398)) + (1 : Int))))], [(0, some (.row 2 64 (x397.map etomb_Range)))], 1⟩) (by kernel_rfl)) (And.intro rfl rfl))
        · obtain ⟨x420, rfl⟩ : ∃ z, z = o449 := ⟨_, rfl⟩
          rintro e s ⟨rfl, rfl⟩
          refine AWp.seq ?_
          refine AWp.seq ?_
          obtain ⟨b429, p430, q431, H⟩ := at_of H
          obtain ⟨b432, p433, q434, H⟩ := at_of H
          obtain ⟨t435, e436, H⟩ := bind_of H
          refine reg hP hn hm [(6, .c (etomb_Range b429)), (12, .c (etomb_Range b432)), (13, .call [] [] [] [] 0 (iV .i64 t435) [])] [0, 2, 3, 4, 10, 11, 58] [0] ⟨[(0, .own 0), (2, iV .i64 a2), (3, iV .i64 a3), (4, .im (.sc (.func (.func 59) #[] #[]))), (10, iV .i64 x398), (11, iV .i64 x420), (58, bV (!(decide (t435 < (0 : Int)))))], [(0, some (.row 2 64 (x397.map etomb_Range)))], 1⟩ [0 ≤ (IntKind.i64.wrap (a3 + x398)), IntKind.i64.wrap (a3 + x398) < (((x397.map etomb_Range).length : Nat) : Int), (x397.map etomb_Range)[(Int.toNat (IntKind.i64.wrap (a3 + x398)))]? = some (etomb_Range b429), 0 ≤ (IntKind.i64.wrap (a3 + x420)), IntKind.i64.wrap (a3 + x420) < (((x397.map etomb_Range).length : Nat) : Int), (x397.map etomb_Range)[(Int.toNat (IntKind.i64.wrap (a3 + x420)))]? = some (etomb_Range b432), Enters Try.prog 59, Pv.Fn Try.prog 59 [.agg (atomb_Range b429), .agg (atomb_Range b432)] [] 0 (fun r o => r = iV .i64 t435 ∧ o = [])] (by kernel_rfl) ⟨by exact p430, by exact el_lt etomb_Range p430 q431, by exact el_map etomb_Range q431, by exact p433, by exact el_lt etomb_Range p433 q434, by exact el_map etomb_Range q434, by exact Try.call59, by exact f_tomb_Of_2.ok b429 b432 t435 e436, trivial⟩ ?_
          refine AWp.cond (!(decide (t435 < (0 : Int)))) rfl (fun c437 => ?_) (fun c437 => ?_)
          · replace H := (ifT c437).symm.trans H
            refine AWp.conv (inv := [(0, 0)]) (vk := []) (e0 := []) (t := ⟨[], [(0, some (.row 2 64 (x397.map etomb_Range)))], 1⟩) (by kernel_rfl) ?_
            refine AWp.ret ?_
            obtain rfl := Option.some.inj H
            exact Exists.intro _ (And.intro (fun _ _ h => h) (And.intro rfl (And.intro rfl (And.intro (by kernel_rfl) (by kernel_rfl)))))
          · replace H := (ifF c437).symm.trans H
            refine AWp.skip ?_
            refine AWp.seq ?_
            obtain ⟨b441, p442, q443, H⟩ := at_of H
            refine reg hP hn hm [(13, .c (etomb_Range b432)), (19, .c (etomb_Range b429)), (21, .put (etomb_Range b429) ((x397.set (Int.toNat (IntKind.i64.wrap (a3 + x398))) b432).map etomb_Range)), (23, .put (etomb_Range b441) (((x397.set (Int.toNat (IntKind.i64.wrap (a3 + x398))) b432).set (Int.toNat (IntKind.i64.wrap (a3 + x420))) b429).map etomb_Range))] [0, 2, 3, 4, 11] [0] ⟨[(0, .own 0), (2, iV .i64 a2), (3, iV .i64 a3), (4, .im (.sc (.func (.func 59) #[] #[]))), (11, iV .i64 x420)], [(0, some (.row 2 64 (((x397.set (Int.toNat (IntKind.i64.wrap (a3 + x398))) b432).set (Int.toNat (IntKind.i64.wrap (a3 + x420))) b429).map etomb_Range)))], 1⟩ [0 ≤ (IntKind.i64.wrap (a3 + x420)), IntKind.i64.wrap (a3 + x420) < (((x397.map etomb_Range).length : Nat) : Int), (x397.map etomb_Range)[(Int.toNat (IntKind.i64.wrap (a3 + x420)))]? = some (etomb_Range b432), 0 ≤ (IntKind.i64.wrap (a3 + x398)), IntKind.i64.wrap (a3 + x398) < (((x397.map etomb_Range).length : Nat) : Int), (x397.map etomb_Range)[(Int.toNat (IntKind.i64.wrap (a3 + x398)))]? = some (etomb_Range b429), 0 ≤ (IntKind.i64.wrap (a3 + x398)), IntKind.i64.wrap (a3 + x398) < (((x397.map etomb_Range).length : Nat) : Int), (x397.map etomb_Range)[(Int.toNat (IntKind.i64.wrap (a3 + x398)))]? = some (etomb_Range b429), (x397.set (Int.toNat (IntKind.i64.wrap (a3 + x398))) b432).map etomb_Range = (x397.map etomb_Range).set (Int.toNat (IntKind.i64.wrap (a3 + x398))) (splice (etomb_Range b429) 0 [iI .i64 b432.f0, iI .i64 b432.f1]), 0 ≤ (IntKind.i64.wrap (a3 + x420)), IntKind.i64.wrap (a3 + x420) < ((((x397.set (Int.toNat (IntKind.i64.wrap (a3 + x398))) b432).map etomb_Range).length : Nat) : Int), ((x397.set (Int.toNat (IntKind.i64.wrap (a3 + x398))) b432).map etomb_Range)[(Int.toNat (IntKind.i64.wrap (a3 + x420)))]? = some (etomb_Range b441), ((x397.set (Int.toNat (IntKind.i64.wrap (a3 + x398))) b432).set (Int.toNat (IntKind.i64.wrap (a3 + x420))) b429).map etomb_Range = ((x397.set (Int.toNat (IntKind.i64.wrap (a3 + x398))) b432).map etomb_Range).set (Int.toNat (IntKind.i64.wrap (a3 + x420))) (splice (etomb_Range b441) 0 [iI .i64 b429.f0, iI .i64 b429.f1])] (by kernel_rfl) ⟨by exact p433, by exact el_lt etomb_Range p433 q434, by exact el_map etomb_Range q434, by exact p430, by exact el_lt etomb_Range p430 q431, by exact el_map etomb_Range q431, by exact p430, by exact el_lt etomb_Range p430 q431, by exact el_map etomb_Range q431, by exact set1 _ _ _ _, by exact p442, by exact el_lt etomb_Range p442 q443, by exact el_map etomb_Range q443, by exact set1 _ _ _ _, trivial⟩ ?_
            refine reg hP hn hm [] [0, 2, 3, 4, 10] [0] ⟨[(0, .own 0), (2, iV .i64 a2), (3, iV .i64 a3), (4, .im (.sc (.func (.func 59) #[] #[]))), (10, iV .i64 x420)], [(0, some (.row 2 64 (((x397.set (Int.toNat (IntKind.i64.wrap (a3 + x398))) b432).set (Int.toNat (IntKind.i64.wrap (a3 + x420))) b429).map etomb_Range)))], 1⟩ [] (by kernel_rfl) trivial ?_
            exact LWp.conv (inv := [(0, 0)]) (vk := []) (e0 := []) (t := ⟨[(0, .own 0), (2, iV .i64 a2), (3, iV .i64 a3), (4, .im (.sc (.func (.func 59) #[] #[]))), (10, iV .i64 x420)], [(0, some (.row 2 64 (((x397.set (Int.toNat (IntKind.i64.wrap (a3 + x398))) b432).set (Int.toNat (IntKind.i64.wrap (a3 + x420))) b429).map etomb_Range)))], 1⟩) (by kernel_rfl) (ih _ _ _ H)
  · rcases o445 with rr | x444
    · skip
      rintro e s ⟨rfl, hfl, hres⟩
      obtain rfl := Option.some.inj H
      exact Exists.intro _ (And.intro (fun _ _ h => h) (And.intro (.inl rfl) (And.intro hfl hres)))
    · skip
      rintro e s ⟨rfl, rfl⟩
      obtain rfl := Option.some.inj H
      exact Exists.intro ⟨[], [(0, some (.row 2 64 (x444.map etomb_Range)))], 1⟩ (And.intro (fun _ _ h => h.conv (inv := [(0, 0)]) (vk := []) (e0 := []) (t := ⟨[], [(0, some (.row 2 64 (x444.map etomb_Range)))], 1⟩) (by kernel_rfl)) (And.intro (.inr rfl) (And.intro rfl (And.intro (by kernel_rfl) (by kernel_rfl)))))
def f_slices_heapSortCmpFunc_tomb_Range_tomb_Of_2.l0 (a1 : Int) (a2 : Int) (x455 : List Ttomb_Range) (x456 : Int) : Option (List Ttomb_Range) := if (decide (x456 ≥ (0 : Int))) = true then ((f_slices_siftDownCmpFunc_tomb_Range_tomb_Of_2.f x455 x456 (IntKind.i64.wrap (a2 - a1)) a1) >>= fun t460 => f_slices_heapSortCmpFunc_tomb_Range_tomb_Of_2.l0 a1 a2 t460 (IntKind.i64.wrap (x456 - (1 : Int)))) else (some x455)
partial_fixpoint
def f_slices_heapSortCmpFunc_tomb_Range_tomb_Of_2.l1 (a1 : Int) (x486 : List Ttomb_Range) (x487 : Int) : Option (List Ttomb_Range) := if (decide (x487 ≥ (0 : Int))) = true then ((at? x486 (IntKind.i64.wrap (a1 + x487))) >>= fun b498 => (at? x486 a1) >>= fun b501 => (at? (x486.set (Int.toNat (a1)) b498) (IntKind.i64.wrap (a1 + x487))) >>= fun b504 => (f_slices_siftDownCmpFunc_tomb_Range_tomb_Of_2.f ((x486.set (Int.toNat (a1)) b498).set (Int.toNat (IntKind.i64.wrap (a1 + x487))) b501) 0 x487 a1) >>= fun t509 => f_slices_heapSortCmpFunc_tomb_Range_tomb_Of_2.l1 a1 t509 (IntKind.i64.wrap (x487 - (1 : Int)))) else (some x486)
partial_fixpoint
def f_slices_heapSortCmpFunc_tomb_Range_tomb_Of_2.f (a0 : List Ttomb_Range) (a1 : Int) (a2 : Int) : Option (List Ttomb_Range) := (f_slices_heapSortCmpFunc_tomb_Range_tomb_Of_2.l0 a1 a2 a0 (IntKind.i64.wrap (Int.tdiv (IntKind.i64.wrap ((IntKind.i64.wrap (a2 - a1)) - (1 : Int))) (2 : Int)))) >>= fun x462 => (f_slices_heapSortCmpFunc_tomb_Range_tomb_Of_2.l1 a1 x462 (IntKind.i64.wrap ((IntKind.i64.wrap (a2 - a1)) - (1 : Int)))) >>= fun x511 => some x511
theorem f_slices_heapSortCmpFunc_tomb_Range_tomb_Of_2.ok (a0 : List Ttomb_Range) (a1 : Int) (a2 : Int) (r : List Ttomb_Range) (H : f_slices_heapSortCmpFunc_tomb_Range_tomb_Of_2.f a0 a1 a2 = some r) : Pv.Fn Try.prog 121 [.own 0, iV .i64 a1, iV .i64 a2, .im (.sc (.func (.func 59) #[] #[]))] [(0, some (.row 2 64 (a0.map etomb_Range)))] 1 (fun x o => x = .tup [] ∧ o = [(0, some (.row 2 64 (r.map etomb_Range)))]) := by
  unfold f_slices_heapSortCmpFunc_tomb_Range_tomb_Of_2.f at H
  refine Fn.bodyK [0] Try.func121 rfl rfl (fun Γ hP hn => ?_)
  have hm : Try.prog.follows .mixedOrders = true := by kernel_rfl
  replace hn : Γ.n = 60 := hn
  refine AWp.seq ?_
  refine reg hP hn hm [] [0, 1, 2, 3, 8] [0] ⟨[(0, .own 0), (1, iV .i64 a1), (2, iV .i64 a2), (3, .im (.sc (.func (.func 59) #[] #[]))), (8, iV .i64 a1)], [(0, some (.row 2 64 (a0.map etomb_Range)))], 1⟩ [] (by kernel_rfl) trivial ?_
  refine AWp.seq ?_
  refine reg hP hn hm [] [0, 1, 2, 3, 8, 9] [0] ⟨[(0, .own 0), (1, iV .i64 a1), (2, iV .i64 a2), (3, .im (.sc (.func (.func 59) #[] #[]))), (8, iV .i64 a1), (9, iV .i64 0)], [(0, some (.row 2 64 (a0.map etomb_Range)))], 1⟩ [] (by kernel_rfl) trivial ?_
  refine AWp.seq ?_
  refine reg hP hn hm [] [0, 3, 8, 9, 10] [0] ⟨[(0, .own 0), (3, .im (.sc (.func (.func 59) #[] #[]))), (8, iV .i64 a1), (9, iV .i64 0), (10, iV .i64 (IntKind.i64.wrap (a2 - a1)))], [(0, some (.row 2 64 (a0.map etomb_Range)))], 1⟩ [] (by kernel_rfl) trivial ?_
  refine AWp.seq ?_
  refine AWp.seq ?_
  refine reg hP hn hm [] [0, 3, 8, 9, 10, 11] [0] ⟨[(0, .own 0), (3, .im (.sc (.func (.func 59) #[] #[]))), (8, iV .i64 a1), (9, iV .i64 0), (10, iV .i64 (IntKind.i64.wrap (a2 - a1))), (11, iV .i64 (IntKind.i64.wrap (Int.tdiv (IntKind.i64.wrap ((IntKind.i64.wrap (a2 - a1)) - (1 : Int))) (2 : Int))))], [(0, some (.row 2 64 (a0.map etomb_Range)))], 1⟩ [(2 : Int) ≠ 0] (by kernel_rfl) ⟨by decide, trivial⟩ ?_
  refine AWp.block ?_
  obtain ⟨o512, e513, H⟩ := bind_of H
  refine AWp.loop (LWp.conv (inv := [(0, 0)]) (vk := []) (e0 := []) (t := ⟨[(0, .own 0), (3, .im (.sc (.func (.func 59) #[] #[]))), (8, iV .i64 a1), (9, iV .i64 0), (10, iV .i64 (IntKind.i64.wrap (a2 - a1))), (11, iV .i64 (IntKind.i64.wrap (Int.tdiv (IntKind.i64.wrap ((IntKind.i64.wrap (a2 - a1)) - (1 : Int))) (2 : Int))))], [(0, some (.row 2 64 (a0.map etomb_Range)))], 1⟩) (by kernel_rfl) ?_)
  refine LWp.mono (Q := fun e s => (match (generalizing := false) o512 with | x462 => e = .exit 0 ∧ s = ⟨[(0, .own 0), (3, .im (.sc (.func (.func 59) #[] #[]))), (8, iV .i64 a1), (9, iV .i64 0), (10, iV .i64 (IntKind.i64.wrap (a2 - a1)))], [(0, some (.row 2 64 (x462.map etomb_Range)))], 1⟩)) (LWp.cv (withBody (fun body hbody => ?_))) ?_
  · refine f_slices_heapSortCmpFunc_tomb_Range_tomb_Of_2.l0.partial_correctness a1 a2 (motive := fun x455 x456 o512 => LWp Γ body (fun e s => ∃ t, Cv Γ s t ∧ (match (generalizing := false) o512 with | x462 => e = .exit 0 ∧ t = ⟨[(0, .own 0), (3, .im (.sc (.func (.func 59) #[] #[]))), (8, iV .i64 a1), (9, iV .i64 0), (10, iV .i64 (IntKind.i64.wrap (a2 - a1)))], [(0, some (.row 2 64 (x462.map etomb_Range)))], 1⟩)) ⟨[(0, .own 0), (3, .im (.sc (.func (.func 59) #[] #[]))), (8, iV .i64 a1), (9, iV .i64 0), (10, iV .i64 (IntKind.i64.wrap (a2 - a1))), (11, iV .i64 x456)], [(0, some (.row 2 64 (x455.map etomb_Range)))], 1⟩) ?_ _ _ _ e513
    clear H e513 o512; intro self ih x455 x456 o512 H
    subst hbody
    refine LWp.round ?_
    refine AWp.seq ?_
    refine AWp.seq ?_
    refine reg hP hn hm [] [0, 3, 8, 9, 10, 11, 21] [0] ⟨[(0, .own 0), (3, .im (.sc (.func (.func 59) #[] #[]))), (8, iV .i64 a1), (9, iV .i64 0), (10, iV .i64 (IntKind.i64.wrap (a2 - a1))), (11, iV .i64 x456), (21, bV (decide (x456 ≥ (0 : Int))))], [(0, some (.row 2 64 (x455.map etomb_Range)))], 1⟩ [] (by kernel_rfl) trivial ?_
    refine AWp.cond (decide (x456 ≥ (0 : Int))) rfl (fun c457 => ?_) (fun c457 => ?_)
    · replace H := (ifT c457).symm.trans H
      refine AWp.skip ?_
      refine AWp.seq ?_
      refine AWp.block ?_
      obtain ⟨t460, e461, H⟩ := bind_of H
      refine reg hP hn hm [(5, .call [(0, 0)] [(0, 0)] [] [] 1 (.tup []) [(0, some (.row 2 64 (t460.map etomb_Range)))])] [0, 3, 8, 9, 10, 11] [0] ⟨[(0, .own 0), (3, .im (.sc (.func (.func 59) #[] #[]))), (8, iV .i64 a1), (9, iV .i64 0), (10, iV .i64 (IntKind.i64.wrap (a2 - a1))), (11, iV .i64 x456)], [(0, some (.row 2 64 (t460.map etomb_Range)))], 1⟩ [Enters Try.prog 142, Pv.Fn Try.prog 142 [.own 0, iV .i64 x456, iV .i64 (IntKind.i64.wrap (a2 - a1)), iV .i64 a1, .im (.sc (.func (.func 59) #[] #[]))] [(0, some (.row 2 64 (x455.map etomb_Range)))] 1 (fun r o => r = .tup [] ∧ o = [(0, some (.row 2 64 (t460.map etomb_Range)))])] (by kernel_rfl) ⟨by exact Try.call142, by exact f_slices_siftDownCmpFunc_tomb_Range_tomb_Of_2.ok x455 x456 (IntKind.i64.wrap (a2 - a1)) a1 t460 e461, trivial⟩ ?_
      refine reg hP hn hm [] [0, 3, 8, 9, 10, 11] [0] ⟨[(0, .own 0), (3, .im (.sc (.func (.func 59) #[] #[]))), (8, iV .i64 a1), (9, iV .i64 0), (10, iV .i64 (IntKind.i64.wrap (a2 - a1))), (11, iV .i64 (IntKind.i64.wrap (x456 - (1 : Int))))], [(0, some (.row 2 64 (t460.map etomb_Range)))], 1⟩ [] (by kernel_rfl) trivial ?_
      exact LWp.conv (inv := [(0, 0)]) (vk := []) (e0 := []) (t := ⟨[(0, .own 0), (3, .im (.sc (.func (.func 59) #[] #[]))), (8, iV .i64 a1), (9, iV .i64 0), (10, iV .i64 (IntKind.i64.wrap (a2 - a1))), (11, iV .i64 (IntKind.i64.wrap (x456 - (1 : Int))))], [(0, some (.row 2 64 (t460.map etomb_Range)))], 1⟩) (by kernel_rfl) (ih _ _ _ H)
    · replace H := (ifF c457).symm.trans H
      refine AWp.exit ?_
      obtain rfl := Option.some.inj H
      exact Exists.intro _ (And.intro (fun _ _ h => h.conv (inv := [(0, 0)]) (vk := []) (e0 := []) (t := ⟨[(0, .own 0), (3, .im (.sc (.func (.func 59) #[] #[]))), (8, iV .i64 a1), (9, iV .i64 0), (10, iV .i64 (IntKind.i64.wrap (a2 - a1)))], [(0, some (.row 2 64 (x455.map etomb_Range)))], 1⟩) (by kernel_rfl)) (And.intro rfl rfl))
  · obtain ⟨x462, rfl⟩ : ∃ z, z = o512 := ⟨_, rfl⟩
    rintro e s ⟨rfl, rfl⟩
    refine AWp.seq ?_
    refine reg hP hn hm [] [0, 3, 8, 9, 12] [0] ⟨[(0, .own 0), (3, .im (.sc (.func (.func 59) #[] #[]))), (8, iV .i64 a1), (9, iV .i64 0), (12, iV .i64 (IntKind.i64.wrap ((IntKind.i64.wrap (a2 - a1)) - (1 : Int))))], [(0, some (.row 2 64 (x462.map etomb_Range)))], 1⟩ [] (by kernel_rfl) trivial ?_
    refine AWp.block ?_
    obtain ⟨o514, e515, H⟩ := bind_of H
    refine AWp.loop (LWp.conv (inv := [(0, 0)]) (vk := []) (e0 := []) (t := ⟨[(0, .own 0), (3, .im (.sc (.func (.func 59) #[] #[]))), (8, iV .i64 a1), (9, iV .i64 0), (12, iV .i64 (IntKind.i64.wrap ((IntKind.i64.wrap (a2 - a1)) - (1 : Int))))], [(0, some (.row 2 64 (x462.map etomb_Range)))], 1⟩) (by kernel_rfl) ?_)
    refine LWp.mono (Q := fun e s => (match (generalizing := false) o514 with | x511 => e = .exit 2 ∧ s = ⟨[], [(0, some (.row 2 64 (x511.map etomb_Range)))], 1⟩)) (LWp.cv (withBody (fun body hbody => ?_))) ?_
    · refine f_slices_heapSortCmpFunc_tomb_Range_tomb_Of_2.l1.partial_correctness a1 (motive := fun x486 x487 o514 => LWp Γ body (fun e s => ∃ t, Cv Γ s t ∧ (match (generalizing := false) o514 with | x511 => e = .exit 2 ∧ t = ⟨[], [(0, some (.row 2 64 (x511.map etomb_Range)))], 1⟩)) ⟨[(0, .own 0), (3, .im (.sc (.func (.func 59) #[] #[]))), (8, iV .i64 a1), (9, iV .i64 0), (12, iV .i64 x487)], [(0, some (.row 2 64 (x486.map etomb_Range)))], 1⟩) ?_ _ _ _ e515
      clear H e515 o514; intro self ih x486 x487 o514 H
      subst hbody
      refine LWp.round ?_
      refine AWp.seq ?_
      refine AWp.seq ?_
      refine reg hP hn hm [] [0, 3, 8, 9, 12, 33] [0] ⟨[(0, .own 0), (3, .im (.sc (.func (.func 59) #[] #[]))), (8, iV .i64 a1), (9, iV .i64 0), (12, iV .i64 x487), (33, bV (decide (x487 ≥ (0 : Int))))], [(0, some (.row 2 64 (x486.map etomb_Range)))], 1⟩ [] (by kernel_rfl) trivial ?_
      refine AWp.cond (decide (x487 ≥ (0 : Int))) rfl (fun c488 => ?_) (fun c488 => ?_)
      · replace H := (ifT c488).symm.trans H
        refine AWp.skip ?_
        refine AWp.seq ?_
        refine AWp.block ?_
        refine AWp.seq ?_
        obtain ⟨b498, p499, q500, H⟩ := at_of H
        obtain ⟨b501, p502, q503, H⟩ := at_of H
        obtain ⟨b504, p505, q506, H⟩ := at_of H
        refine reg hP hn hm [(11, .c (etomb_Range b498)), (15, .c (etomb_Range b501)), (17, .put (etomb_Range b501) ((x486.set (Int.toNat (a1)) b498).map etomb_Range)), (19, .put (etomb_Range b504) (((x486.set (Int.toNat (a1)) b498).set (Int.toNat (IntKind.i64.wrap (a1 + x487))) b501).map etomb_Range))] [0, 3, 8, 9, 12] [0] ⟨[(0, .own 0), (3, .im (.sc (.func (.func 59) #[] #[]))), (8, iV .i64 a1), (9, iV .i64 0), (12, iV .i64 x487)], [(0, some (.row 2 64 (((x486.set (Int.toNat (a1)) b498).set (Int.toNat (IntKind.i64.wrap (a1 + x487))) b501).map etomb_Range)))], 1⟩ [0 ≤ (IntKind.i64.wrap (a1 + x487)), IntKind.i64.wrap (a1 + x487) < (((x486.map etomb_Range).length : Nat) : Int), (x486.map etomb_Range)[(Int.toNat (IntKind.i64.wrap (a1 + x487)))]? = some (etomb_Range b498), 0 ≤ a1, a1 < (((x486.map etomb_Range).length : Nat) : Int), (x486.map etomb_Range)[(Int.toNat (a1))]? = some (etomb_Range b501), 0 ≤ a1, a1 < (((x486.map etomb_Range).length : Nat) : Int), (x486.map etomb_Range)[(Int.toNat (a1))]? = some (etomb_Range b501), (x486.set (Int.toNat (a1)) b498).map etomb_Range = (x486.map etomb_Range).set (Int.toNat (a1)) (splice (etomb_Range b501) 0 [iI .i64 b498.f0, iI .i64 b498.f1]), 0 ≤ (IntKind.i64.wrap (a1 + x487)), IntKind.i64.wrap (a1 + x487) < ((((x486.set (Int.toNat (a1)) b498).map etomb_Range).length : Nat) : Int), ((x486.set (Int.toNat (a1)) b498).map etomb_Range)[(Int.toNat (IntKind.i64.wrap (a1 + x487)))]? = some (etomb_Range b504), ((x486.set (Int.toNat (a1)) b498).set (Int.toNat (IntKind.i64.wrap (a1 + x487))) b501).map etomb_Range = ((x486.set (Int.toNat (a1)) b498).map etomb_Range).set (Int.toNat (IntKind.i64.wrap (a1 + x487))) (splice (etomb_Range b504) 0 [iI .i64 b501.f0, iI .i64 b501.f1])] (by kernel_rfl) ⟨by exact p499, by exact el_lt etomb_Range p499 q500, by exact el_map etomb_Range q500, by exact p502, by exact el_lt etomb_Range p502 q503, by exact el_map etomb_Range q503, by exact p502, by exact el_lt etomb_Range p502 q503, by exact el_map etomb_Range q503, by exact set1 _ _ _ _, by exact p505, by exact el_lt etomb_Range p505 q506, by exact el_map etomb_Range q506, by exact set1 _ _ _ _, trivial⟩ ?_
        obtain ⟨t509, e510, H⟩ := bind_of H
        refine reg hP hn hm [(5, .call [(0, 0)] [(0, 0)] [] [] 1 (.tup []) [(0, some (.row 2 64 (t509.map etomb_Range)))])] [0, 3, 8, 9, 12] [0] ⟨[(0, .own 0), (3, .im (.sc (.func (.func 59) #[] #[]))), (8, iV .i64 a1), (9, iV .i64 0), (12, iV .i64 x487)], [(0, some (.row 2 64 (t509.map etomb_Range)))], 1⟩ [Enters Try.prog 142, Pv.Fn Try.prog 142 [.own 0, iV .i64 0, iV .i64 x487, iV .i64 a1, .im (.sc (.func (.func 59) #[] #[]))] [(0, some (.row 2 64 (((x486.set (Int.toNat (a1)) b498).set (Int.toNat (IntKind.i64.wrap (a1 + x487))) b501).map etomb_Range)))] 1 (fun r o => r = .tup [] ∧ o = [(0, some (.row 2 64 (t509.map etomb_Range)))])] (by kernel_rfl) ⟨by exact Try.call142, by exact f_slices_siftDownCmpFunc_tomb_Range_tomb_Of_2.ok ((x486.set (Int.toNat (a1)) b498).set (Int.toNat (IntKind.i64.wrap (a1 + x487))) b501) 0 x487 a1 t509 e510, trivial⟩ ?_
        refine reg hP hn hm [] [0, 3, 8, 9, 12] [0] ⟨[(0, .own 0), (3, .im (.sc (.func (.func 59) #[] #[]))), (8, iV .i64 a1), (9, iV .i64 0), (12, iV .i64 (IntKind.i64.wrap (x487 - (1 : Int))))], [(0, some (.row 2 64 (t509.map etomb_Range)))], 1⟩ [] (by kernel_rfl) trivial ?_
        exact LWp.conv (inv := [(0, 0)]) (vk := []) (e0 := []) (t := ⟨[(0, .own 0), (3, .im (.sc (.func (.func 59) #[] #[]))), (8, iV .i64 a1), (9, iV .i64 0), (12, iV .i64 (IntKind.i64.wrap (x487 - (1 : Int))))], [(0, some (.row 2 64 (t509.map etomb_Range)))], 1⟩) (by kernel_rfl) (ih _ _ _ H)
      · replace H := (ifF c488).symm.trans H
        refine AWp.exit ?_
        obtain rfl := Option.some.inj H
        exact Exists.intro _ (And.intro (fun _ _ h => h.conv (inv := [(0, 0)]) (vk := []) (e0 := []) (t := ⟨[], [(0, some (.row 2 64 (x486.map etomb_Range)))], 1⟩) (by kernel_rfl)) (And.intro rfl rfl))
    · obtain ⟨x511, rfl⟩ : ∃ z, z = o514 := ⟨_, rfl⟩
      rintro e s ⟨rfl, rfl⟩
      obtain rfl := Option.some.inj H
      exact Exists.intro ⟨[], [(0, some (.row 2 64 (x511.map etomb_Range)))], 1⟩ (And.intro (fun _ _ h => h.conv (inv := [(0, 0)]) (vk := []) (e0 := []) (t := ⟨[], [(0, some (.row 2 64 (x511.map etomb_Range)))], 1⟩) (by kernel_rfl)) (And.intro (.inr rfl) (And.intro rfl (And.intro (by kernel_rfl) (by kernel_rfl)))))
def f_slices_order2CmpFunc_tomb_Range_tomb_Of_2_9ab.f (a0 : List Ttomb_Range) (a1 : Int) (a2 : Int) (a3_c0 : Int) : Option (Int × Int × Int) := (at? a0 a2) >>= fun b530 => (at? a0 a1) >>= fun b533 => (f_tomb_Of_2.f b530 b533) >>= fun t536 => if (decide (t536 < (0 : Int))) = true then (some (a2, a1, IntKind.i64.wrap (a3_c0 + (1 : Int)))) else (some (a1, a2, a3_c0))
theorem f_slices_order2CmpFunc_tomb_Range_tomb_Of_2_9ab.ok (a0 : List Ttomb_Range) (a1 : Int) (a2 : Int) (a3_c0 : Int) (r : Int × Int × Int) (H : f_slices_order2CmpFunc_tomb_Range_tomb_Of_2_9ab.f a0 a1 a2 a3_c0 = some r) : Pv.Fn Try.prog 149 [.own 0, iV .i64 a1, iV .i64 a2, .ptr 1 0 0, .im (.sc (.func (.func 59) #[] #[]))] [(0, some (.row 2 64 (a0.map etomb_Range))), (1, some (.box 3 [iV .i64 a3_c0]))] 2 (fun x o => x = .tup [iV .i64 r.1, iV .i64 r.2.1] ∧ o = [(0, some (.row 2 64 (a0.map etomb_Range))), (1, some (.box 3 [iV .i64 r.2.2]))]) := by
  unfold f_slices_order2CmpFunc_tomb_Range_tomb_Of_2_9ab.f at H
  refine Fn.bodyK [0, 1] Try.func149 rfl rfl (fun Γ hP hn => ?_)
  have hm : Try.prog.follows .mixedOrders = true := by kernel_rfl
  replace hn : Γ.n = 32 := hn
  refine AWp.seq ?_
  refine reg hP hn hm [] [0, 1, 2, 3, 4] [0, 1] ⟨[(0, .own 0), (1, iV .i64 a1), (2, iV .i64 a2), (3, .ptr 1 0 0), (4, .im (.sc (.func (.func 59) #[] #[])))], [(0, some (.row 2 64 (a0.map etomb_Range))), (1, some (.box 3 [iV .i64 a3_c0]))], 2⟩ [] (by kernel_rfl) trivial ?_
  refine AWp.seq ?_
  refine AWp.seq ?_
  obtain ⟨b530, p531, q532, H⟩ := at_of H
  obtain ⟨b533, p534, q535, H⟩ := at_of H
  obtain ⟨t536, e537, H⟩ := bind_of H
  refine reg hP hn hm [(4, .c (etomb_Range b530)), (8, .c (etomb_Range b533)), (9, .call [] [] [] [] 0 (iV .i64 t536) [])] [1, 2, 3, 22] [0, 1] ⟨[(1, iV .i64 a1), (2, iV .i64 a2), (3, .ptr 1 0 0), (22, bV (decide (t536 < (0 : Int))))], [(0, some (.row 2 64 (a0.map etomb_Range))), (1, some (.box 3 [iV .i64 a3_c0]))], 2⟩ [0 ≤ a2, a2 < (((a0.map etomb_Range).length : Nat) : Int), (a0.map etomb_Range)[(Int.toNat (a2))]? = some (etomb_Range b530), 0 ≤ a1, a1 < (((a0.map etomb_Range).length : Nat) : Int), (a0.map etomb_Range)[(Int.toNat (a1))]? = some (etomb_Range b533), Enters Try.prog 59, Pv.Fn Try.prog 59 [.agg (atomb_Range b530), .agg (atomb_Range b533)] [] 0 (fun r o => r = iV .i64 t536 ∧ o = [])] (by kernel_rfl) ⟨by exact p531, by exact el_lt etomb_Range p531 q532, by exact el_map etomb_Range q532, by exact p534, by exact el_lt etomb_Range p534 q535, by exact el_map etomb_Range q535, by exact Try.call59, by exact f_tomb_Of_2.ok b530 b533 t536 e537, trivial⟩ ?_
  refine AWp.cond (decide (t536 < (0 : Int))) rfl (fun c538 => ?_) (fun c538 => ?_)
  · replace H := (ifT c538).symm.trans H
    refine AWp.seq ?_
    refine reg hP hn hm [] [1, 2] [0, 1] ⟨[(1, iV .i64 a1), (2, iV .i64 a2)], [(0, some (.row 2 64 (a0.map etomb_Range))), (1, some (.box 3 [iV .i64 (IntKind.i64.wrap (a3_c0 + (1 : Int)))]))], 2⟩ [] (by kernel_rfl) trivial ?_
    refine AWp.seq ?_
    refine reg hP hn hm [] [10, 11] [0, 1] ⟨[(10, iV .i64 a2), (11, iV .i64 a1)], [(0, some (.row 2 64 (a0.map etomb_Range))), (1, some (.box 3 [iV .i64 (IntKind.i64.wrap (a3_c0 + (1 : Int)))]))], 2⟩ [] (by kernel_rfl) trivial ?_
    refine AWp.conv (inv := [(0, 0), (1, 1)]) (vk := []) (e0 := []) (t := ⟨[(10, iV .i64 a2), (11, iV .i64 a1)], [(0, some (.row 2 64 (a0.map etomb_Range))), (1, some (.box 3 [iV .i64 (IntKind.i64.wrap (a3_c0 + (1 : Int)))]))], 2⟩) (by kernel_rfl) ?_
    refine AWp.ret ?_
    obtain rfl := Option.some.inj H
    exact Exists.intro _ (And.intro (fun _ _ h => h) (And.intro (.inl rfl) (And.intro rfl (And.intro (by kernel_rfl) (by kernel_rfl)))))
  · replace H := (ifF c538).symm.trans H
    refine AWp.skip ?_
    refine AWp.seq ?_
    refine reg hP hn hm [] [10, 11] [0, 1] ⟨[(10, iV .i64 a1), (11, iV .i64 a2)], [(0, some (.row 2 64 (a0.map etomb_Range))), (1, some (.box 3 [iV .i64 a3_c0]))], 2⟩ [] (by kernel_rfl) trivial ?_
    refine AWp.conv (inv := [(0, 0), (1, 1)]) (vk := []) (e0 := []) (t := ⟨[(10, iV .i64 a1), (11, iV .i64 a2)], [(0, some (.row 2 64 (a0.map etomb_Range))), (1, some (.box 3 [iV .i64 a3_c0]))], 2⟩) (by kernel_rfl) ?_
    refine AWp.ret ?_
    obtain rfl := Option.some.inj H
    exact Exists.intro _ (And.intro (fun _ _ h => h) (And.intro (.inl rfl) (And.intro rfl (And.intro (by kernel_rfl) (by kernel_rfl)))))
def f_slices_medianCmpFunc_tomb_Range_tomb_Of_2_5f3.f (a0 : List Ttomb_Range) (a1 : Int) (a2 : Int) (a3 : Int) (a4_c0 : Int) : Option (Int × Int) := (f_slices_order2CmpFunc_tomb_Range_tomb_Of_2_9ab.f a0 a1 a2 a4_c0) >>= fun t541 => (f_slices_order2CmpFunc_tomb_Range_tomb_Of_2_9ab.f a0 t541.2.1 a3 t541.2.2) >>= fun t545 => (f_slices_order2CmpFunc_tomb_Range_tomb_Of_2_9ab.f a0 t541.1 t545.1 t545.2.2) >>= fun t549 => some (t549.2.1, t549.2.2)
theorem f_slices_medianCmpFunc_tomb_Range_tomb_Of_2_5f3.ok (a0 : List Ttomb_Range) (a1 : Int) (a2 : Int) (a3 : Int) (a4_c0 : Int) (r : Int × Int) (H : f_slices_medianCmpFunc_tomb_Range_tomb_Of_2_5f3.f a0 a1 a2 a3 a4_c0 = some r) : Pv.Fn Try.prog 146 [.own 0, iV .i64 a1, iV .i64 a2, iV .i64 a3, .ptr 1 0 0, .im (.sc (.func (.func 59) #[] #[]))] [(0, some (.row 2 64 (a0.map etomb_Range))), (1, some (.box 3 [iV .i64 a4_c0]))] 2 (fun x o => x = iV .i64 r.1 ∧ o = [(0, some (.row 2 64 (a0.map etomb_Range))), (1, some (.box 3 [iV .i64 r.2]))]) := by
  unfold f_slices_medianCmpFunc_tomb_Range_tomb_Of_2_5f3.f at H
  refine Fn.bodyK [0, 1] Try.func146 rfl rfl (fun Γ hP hn => ?_)
  have hm : Try.prog.follows .mixedOrders = true := by kernel_rfl
  replace hn : Γ.n = 41 := hn
  refine AWp.seq ?_
  refine reg hP hn hm [] [0, 1, 2, 3, 4, 5] [0, 1] ⟨[(0, .own 0), (1, iV .i64 a1), (2, iV .i64 a2), (3, iV .i64 a3), (4, .ptr 1 0 0), (5, .im (.sc (.func (.func 59) #[] #[])))], [(0, some (.row 2 64 (a0.map etomb_Range))), (1, some (.box 3 [iV .i64 a4_c0]))], 2⟩ [] (by kernel_rfl) trivial ?_
  refine AWp.seq ?_
  obtain ⟨t541, e542, H⟩ := bind_of H
  refine reg hP hn hm [(5, .call [(0, 0), (1, 1)] [(0, 0), (1, 1)] [] [] 2 (.tup [iV .i64 t541.1, iV .i64 t541.2.1]) [(0, some (.row 2 64 (a0.map etomb_Range))), (1, some (.box 3 [iV .i64 t541.2.2]))])] [0, 1, 2, 3, 4, 5] [0, 1] ⟨[(0, .own 0), (1, iV .i64 t541.1), (2, iV .i64 t541.2.1), (3, iV .i64 a3), (4, .ptr 1 0 0), (5, .im (.sc (.func (.func 59) #[] #[])))], [(0, some (.row 2 64 (a0.map etomb_Range))), (1, some (.box 3 [iV .i64 t541.2.2]))], 2⟩ [Enters Try.prog 149, Pv.Fn Try.prog 149 [.own 0, iV .i64 a1, iV .i64 a2, .ptr 1 0 0, .im (.sc (.func (.func 59) #[] #[]))] [(0, some (.row 2 64 (a0.map etomb_Range))), (1, some (.box 3 [iV .i64 a4_c0]))] 2 (fun r o => r = .tup [iV .i64 t541.1, iV .i64 t541.2.1] ∧ o = [(0, some (.row 2 64 (a0.map etomb_Range))), (1, some (.box 3 [iV .i64 t541.2.2]))])] (by kernel_rfl) ⟨by exact Try.call149, by exact f_slices_order2CmpFunc_tomb_Range_tomb_Of_2_9ab.ok a0 a1 a2 a4_c0 t541 e542, trivial⟩ ?_
  refine AWp.seq ?_
  obtain ⟨t545, e546, H⟩ := bind_of H
  refine reg hP hn hm [(5, .call [(0, 0), (1, 1)] [(0, 0), (1, 1)] [] [] 2 (.tup [iV .i64 t545.1, iV .i64 t545.2.1]) [(0, some (.row 2 64 (a0.map etomb_Range))), (1, some (.box 3 [iV .i64 t545.2.2]))])] [0, 1, 2, 4, 5] [0, 1] ⟨[(0, .own 0), (1, iV .i64 t541.1), (2, iV .i64 t545.1), (4, .ptr 1 0 0), (5, .im (.sc (.func (.func 59) #[] #[])))], [(0, some (.row 2 64 (a0.map etomb_Range))), (1, some (.box 3 [iV .i64 t545.2.2]))], 2⟩ [Enters Try.prog 149, Pv.Fn Try.prog 149 [.own 0, iV .i64 t541.2.1, iV .i64 a3, .ptr 1 0 0, .im (.sc (.func (.func 59) #[] #[]))] [(0, some (.row 2 64 (a0.map etomb_Range))), (1, some (.box 3 [iV .i64 t541.2.2]))] 2 (fun r o => r = .tup [iV .i64 t545.1, iV .i64 t545.2.1] ∧ o = [(0, some (.row 2 64 (a0.map etomb_Range))), (1, some (.box 3 [iV .i64 t545.2.2]))])] (by kernel_rfl) ⟨by exact Try.call149, by exact f_slices_order2CmpFunc_tomb_Range_tomb_Of_2_9ab.ok a0 t541.2.1 a3 t541.2.2 t545 e546, trivial⟩ ?_
  refine AWp.seq ?_
  obtain ⟨t549, e550, H⟩ := bind_of H
  refine reg hP hn hm [(5, .call [(0, 0), (1, 1)] [(0, 0), (1, 1)] [] [] 2 (.tup [iV .i64 t549.1, iV .i64 t549.2.1]) [(0, some (.row 2 64 (a0.map etomb_Range))), (1, some (.box 3 [iV .i64 t549.2.2]))])] [2] [0, 1] ⟨[(2, iV .i64 t549.2.1)], [(0, some (.row 2 64 (a0.map etomb_Range))), (1, some (.box 3 [iV .i64 t549.2.2]))], 2⟩ [Enters Try.prog 149, Pv.Fn Try.prog 149 [.own 0, iV .i64 t541.1, iV .i64 t545.1, .ptr 1 0 0, .im (.sc (.func (.func 59) #[] #[]))] [(0, some (.row 2 64 (a0.map etomb_Range))), (1, some (.box 3 [iV .i64 t545.2.2]))] 2 (fun r o => r = .tup [iV .i64 t549.1, iV .i64 t549.2.1] ∧ o = [(0, some (.row 2 64 (a0.map etomb_Range))), (1, some (.box 3 [iV .i64 t549.2.2]))])] (by kernel_rfl) ⟨by exact Try.call149, by exact f_slices_order2CmpFunc_tomb_Range_tomb_Of_2_9ab.ok a0 t541.1 t545.1 t545.2.2 t549 e550, trivial⟩ ?_
  refine AWp.seq ?_
  refine reg hP hn hm [] [12] [0, 1] ⟨[(12, iV .i64 t549.2.1)], [(0, some (.row 2 64 (a0.map etomb_Range))), (1, some (.box 3 [iV .i64 t549.2.2]))], 2⟩ [] (by kernel_rfl) trivial ?_
  refine AWp.conv (inv := [(0, 0), (1, 1)]) (vk := []) (e0 := []) (t := ⟨[(12, iV .i64 t549.2.1)], [(0, some (.row 2 64 (a0.map etomb_Range))), (1, some (.box 3 [iV .i64 t549.2.2]))], 2⟩) (by kernel_rfl) ?_
  refine AWp.ret ?_
  obtain rfl := Option.some.inj H
  exact Exists.intro _ (And.intro (fun _ _ h => h) (And.intro (.inl rfl) (And.intro rfl (And.intro (by kernel_rfl) (by kernel_rfl)))))
def f_slices_medianAdjacentCmpFunc_tomb_Range_tomb_Of_2_7cb.f (a0 : List Ttomb_Range) (a1 : Int) (a2_c0 : Int) : Option (Int × Int) := (f_slices_medianCmpFunc_tomb_Range_tomb_Of_2_5f3.f a0 (IntKind.i64.wrap (a1 - (1 : Int))) a1 (IntKind.i64.wrap (a1 + (1 : Int))) a2_c0) >>= fun t553 => some (t553.1, t553.2)
theorem f_slices_medianAdjacentCmpFunc_tomb_Range_tomb_Of_2_7cb.ok (a0 : List Ttomb_Range) (a1 : Int) (a2_c0 : Int) (r : Int × Int) (H : f_slices_medianAdjacentCmpFunc_tomb_Range_tomb_Of_2_7cb.f a0 a1 a2_c0 = some r) : Pv.Fn Try.prog 145 [.own 0, iV .i64 a1, .ptr 1 0 0, .im (.sc (.func (.func 59) #[] #[]))] [(0, some (.row 2 64 (a0.map etomb_Range))), (1, some (.box 3 [iV .i64 a2_c0]))] 2 (fun x o => x = iV .i64 r.1 ∧ o = [(0, some (.row 2 64 (a0.map etomb_Range))), (1, some (.box 3 [iV .i64 r.2]))]) := by
  unfold f_slices_medianAdjacentCmpFunc_tomb_Range_tomb_Of_2_7cb.f at H
  refine Fn.bodyK [0, 1] Try.func145 rfl rfl (fun Γ hP hn => ?_)
  have hm : Try.prog.follows .mixedOrders = true := by kernel_rfl
  replace hn : Γ.n = 18 := hn
  refine AWp.seq ?_
  refine reg hP hn hm [] [0, 1, 2, 3] [0, 1] ⟨[(0, .own 0), (1, iV .i64 a1), (2, .ptr 1 0 0), (3, .im (.sc (.func (.func 59) #[] #[])))], [(0, some (.row 2 64 (a0.map etomb_Range))), (1, some (.box 3 [iV .i64 a2_c0]))], 2⟩ [] (by kernel_rfl) trivial ?_
  refine AWp.seq ?_
  obtain ⟨t553, e554, H⟩ := bind_of H
  refine reg hP hn hm [(8, .call [(0, 0), (1, 1)] [(0, 0), (1, 1)] [] [] 2 (iV .i64 t553.1) [(0, some (.row 2 64 (a0.map etomb_Range))), (1, some (.box 3 [iV .i64 t553.2]))])] [8] [0, 1] ⟨[(8, iV .i64 t553.1)], [(0, some (.row 2 64 (a0.map etomb_Range))), (1, some (.box 3 [iV .i64 t553.2]))], 2⟩ [Enters Try.prog 146, Pv.Fn Try.prog 146 [.own 0, iV .i64 (IntKind.i64.wrap (a1 - (1 : Int))), iV .i64 a1, iV .i64 (IntKind.i64.wrap (a1 + (1 : Int))), .ptr 1 0 0, .im (.sc (.func (.func 59) #[] #[]))] [(0, some (.row 2 64 (a0.map etomb_Range))), (1, some (.box 3 [iV .i64 a2_c0]))] 2 (fun r o => r = iV .i64 t553.1 ∧ o = [(0, some (.row 2 64 (a0.map etomb_Range))), (1, some (.box 3 [iV .i64 t553.2]))])] (by kernel_rfl) ⟨by exact Try.call146, by exact f_slices_medianCmpFunc_tomb_Range_tomb_Of_2_5f3.ok a0 (IntKind.i64.wrap (a1 - (1 : Int))) a1 (IntKind.i64.wrap (a1 + (1 : Int))) a2_c0 t553 e554, trivial⟩ ?_
  refine AWp.conv (inv := [(0, 0), (1, 1)]) (vk := []) (e0 := []) (t := ⟨[(8, iV .i64 t553.1)], [(0, some (.row 2 64 (a0.map etomb_Range))), (1, some (.box 3 [iV .i64 t553.2]))], 2⟩) (by kernel_rfl) ?_
  refine AWp.ret ?_
  obtain rfl := Option.some.inj H
  exact Exists.intro _ (And.intro (fun _ _ h => h) (And.intro (.inl rfl) (And.intro rfl (And.intro (by kernel_rfl) (by kernel_rfl)))))
def f_slices_choosePivotCmpFunc_tomb_Range_tomb_Of_2.f (a0 : List Ttomb_Range) (a1 : Int) (a2 : Int) : Option (Int × Int) := ((if (decide ((IntKind.i64.wrap (a2 - a1)) ≥ (8 : Int))) = true then (((if (decide ((IntKind.i64.wrap (a2 - a1)) ≥ (50 : Int))) = true then ((f_slices_medianAdjacentCmpFunc_tomb_Range_tomb_Of_2_7cb.f a0 (IntKind.i64.wrap (a1 + (IntKind.i64.wrap ((IntKind.i64.wrap (Int.tdiv (IntKind.i64.wrap (a2 - a1)) (4 : Int))) * (1 : Int))))) 0) >>= fun t557 => (f_slices_medianAdjacentCmpFunc_tomb_Range_tomb_Of_2_7cb.f a0 (IntKind.i64.wrap (a1 + (IntKind.i64.wrap ((IntKind.i64.wrap (Int.tdiv (IntKind.i64.wrap (a2 - a1)) (4 : Int))) * (2 : Int))))) t557.2) >>= fun t561 => (f_slices_medianAdjacentCmpFunc_tomb_Range_tomb_Of_2_7cb.f a0 (IntKind.i64.wrap (a1 + (IntKind.i64.wrap ((IntKind.i64.wrap (Int.tdiv (IntKind.i64.wrap (a2 - a1)) (4 : Int))) * (3 : Int))))) t561.2) >>= fun t565 => some (t565.2, t557.1, t561.1, t565.1)) else (some (0, IntKind.i64.wrap (a1 + (IntKind.i64.wrap ((IntKind.i64.wrap (Int.tdiv (IntKind.i64.wrap (a2 - a1)) (4 : Int))) * (1 : Int)))), IntKind.i64.wrap (a1 + (IntKind.i64.wrap ((IntKind.i64.wrap (Int.tdiv (IntKind.i64.wrap (a2 - a1)) (4 : Int))) * (2 : Int)))), IntKind.i64.wrap (a1 + (IntKind.i64.wrap ((IntKind.i64.wrap (Int.tdiv (IntKind.i64.wrap (a2 - a1)) (4 : Int))) * (3 : Int))))))) : Option (Int × Int × Int × Int)) >>= fun oo => match oo with | (x567, x568, x569, x570) => ((f_slices_medianCmpFunc_tomb_Range_tomb_Of_2_5f3.f a0 x568 x569 x570 x567) >>= fun t573 => some (t573.2, t573.1))) else (some (0, IntKind.i64.wrap (a1 + (IntKind.i64.wrap ((IntKind.i64.wrap (Int.tdiv (IntKind.i64.wrap (a2 - a1)) (4 : Int))) * (2 : Int))))))) : Option (Int × Int)) >>= fun oo => match oo with | (x575, x576) => (if (x575 == (0 : Int)) = true then (some (x576, 1)) else (if (x575 == (12 : Int)) = true then (some (x576, 2)) else (some (x576, 0))))
theorem f_slices_choosePivotCmpFunc_tomb_Range_tomb_Of_2.ok (a0 : List Ttomb_Range) (a1 : Int) (a2 : Int) (r : Int × Int) (H : f_slices_choosePivotCmpFunc_tomb_Range_tomb_Of_2.f a0 a1 a2 = some r) : Pv.Fn Try.prog 123 [.own 0, iV .i64 a1, iV .i64 a2, .im (.sc (.func (.func 59) #[] #[]))] [(0, some (.row 2 64 (a0.map etomb_Range)))] 1 (fun x o => x = .tup [iV .i64 r.1, iV .i64 r.2] ∧ o = [(0, some (.row 2 64 (a0.map etomb_Range)))]) := by
  unfold f_slices_choosePivotCmpFunc_tomb_Range_tomb_Of_2.f at H
  refine Fn.bodyK [0] Try.func123 rfl rfl (fun Γ hP hn => ?_)
  have hm : Try.prog.follows .mixedOrders = true := by kernel_rfl
  replace hn : Γ.n = 63 := hn
  refine AWp.seq ?_
  refine reg hP hn hm [] [0, 1, 2, 3] [0] ⟨[(0, .own 0), (1, iV .i64 a1), (2, iV .i64 a2), (3, .im (.sc (.func (.func 59) #[] #[])))], [(0, some (.row 2 64 (a0.map etomb_Range)))], 1⟩ [] (by kernel_rfl) trivial ?_
  refine AWp.seq ?_
  refine reg hP hn hm [] [0, 1, 3, 10] [0] ⟨[(0, .own 0), (1, iV .i64 a1), (3, .im (.sc (.func (.func 59) #[] #[]))), (10, iV .i64 (IntKind.i64.wrap (a2 - a1)))], [(0, some (.row 2 64 (a0.map etomb_Range)))], 1⟩ [] (by kernel_rfl) trivial ?_
  refine AWp.seq ?_
  refine reg hP hn hm [(0, .k 1)] [0, 1, 3, 10, 11] [0, 1] ⟨[(0, .own 0), (1, iV .i64 a1), (3, .im (.sc (.func (.func 59) #[] #[]))), (10, iV .i64 (IntKind.i64.wrap (a2 - a1))), (11, .ptr 1 0 0)], [(0, some (.row 2 64 (a0.map etomb_Range))), (1, some (.box 3 [iV .i64 0]))], 1⟩ [] (by kernel_rfl) trivial ?_
  refine AWp.seq ?_
  refine reg hP hn hm [] [0, 1, 3, 10, 11, 12] [0, 1] ⟨[(0, .own 0), (1, iV .i64 a1), (3, .im (.sc (.func (.func 59) #[] #[]))), (10, iV .i64 (IntKind.i64.wrap (a2 - a1))), (11, .ptr 1 0 0), (12, iV .i64 (IntKind.i64.wrap (a1 + (IntKind.i64.wrap ((IntKind.i64.wrap (Int.tdiv (IntKind.i64.wrap (a2 - a1)) (4 : Int))) * (1 : Int))))))], [(0, some (.row 2 64 (a0.map etomb_Range))), (1, some (.box 3 [iV .i64 0]))], 1⟩ [(4 : Int) ≠ 0] (by kernel_rfl) ⟨by decide, trivial⟩ ?_
  refine AWp.seq ?_
  refine reg hP hn hm [] [0, 1, 3, 10, 11, 12, 13] [0, 1] ⟨[(0, .own 0), (1, iV .i64 a1), (3, .im (.sc (.func (.func 59) #[] #[]))), (10, iV .i64 (IntKind.i64.wrap (a2 - a1))), (11, .ptr 1 0 0), (12, iV .i64 (IntKind.i64.wrap (a1 + (IntKind.i64.wrap ((IntKind.i64.wrap (Int.tdiv (IntKind.i64.wrap (a2 - a1)) (4 : Int))) * (1 : Int)))))), (13, iV .i64 (IntKind.i64.wrap (a1 + (IntKind.i64.wrap ((IntKind.i64.wrap (Int.tdiv (IntKind.i64.wrap (a2 - a1)) (4 : Int))) * (2 : Int))))))], [(0, some (.row 2 64 (a0.map etomb_Range))), (1, some (.box 3 [iV .i64 0]))], 1⟩ [(4 : Int) ≠ 0] (by kernel_rfl) ⟨by decide, trivial⟩ ?_
  refine AWp.seq ?_
  refine reg hP hn hm [] [0, 3, 10, 11, 12, 13, 14] [0, 1] ⟨[(0, .own 0), (3, .im (.sc (.func (.func 59) #[] #[]))), (10, iV .i64 (IntKind.i64.wrap (a2 - a1))), (11, .ptr 1 0 0), (12, iV .i64 (IntKind.i64.wrap (a1 + (IntKind.i64.wrap ((IntKind.i64.wrap (Int.tdiv (IntKind.i64.wrap (a2 - a1)) (4 : Int))) * (1 : Int)))))), (13, iV .i64 (IntKind.i64.wrap (a1 + (IntKind.i64.wrap ((IntKind.i64.wrap (Int.tdiv (IntKind.i64.wrap (a2 - a1)) (4 : Int))) * (2 : Int)))))), (14, iV .i64 (IntKind.i64.wrap (a1 + (IntKind.i64.wrap ((IntKind.i64.wrap (Int.tdiv (IntKind.i64.wrap (a2 - a1)) (4 : Int))) * (3 : Int))))))], [(0, some (.row 2 64 (a0.map etomb_Range))), (1, some (.box 3 [iV .i64 0]))], 1⟩ [(4 : Int) ≠ 0] (by kernel_rfl) ⟨by decide, trivial⟩ ?_
  refine AWp.seq ?_
  refine AWp.seq ?_
  refine reg hP hn hm [] [0, 3, 10, 11, 12, 13, 14, 34] [0, 1] ⟨[(0, .own 0), (3, .im (.sc (.func (.func 59) #[] #[]))), (10, iV .i64 (IntKind.i64.wrap (a2 - a1))), (11, .ptr 1 0 0), (12, iV .i64 (IntKind.i64.wrap (a1 + (IntKind.i64.wrap ((IntKind.i64.wrap (Int.tdiv (IntKind.i64.wrap (a2 - a1)) (4 : Int))) * (1 : Int)))))), (13, iV .i64 (IntKind.i64.wrap (a1 + (IntKind.i64.wrap ((IntKind.i64.wrap (Int.tdiv (IntKind.i64.wrap (a2 - a1)) (4 : Int))) * (2 : Int)))))), (14, iV .i64 (IntKind.i64.wrap (a1 + (IntKind.i64.wrap ((IntKind.i64.wrap (Int.tdiv (IntKind.i64.wrap (a2 - a1)) (4 : Int))) * (3 : Int)))))), (34, bV (decide ((IntKind.i64.wrap (a2 - a1)) ≥ (8 : Int))))], [(0, some (.row 2 64 (a0.map etomb_Range))), (1, some (.box 3 [iV .i64 0]))], 1⟩ [] (by kernel_rfl) trivial ?_
  obtain ⟨o579, e580, H⟩ := bind_of H
  refine AWp.mono (Q := fun e s => (match (generalizing := false) o579 with | (x575, x576) => e = .normal ∧ s = ⟨[(11, .ptr 3 0 0), (13, iV .i64 x576)], [(0, some (.row 2 64 (a0.map etomb_Range))), (3, some (.box 3 [iV .i64 x575]))], 1⟩)) (AWp.cv ?_) ?_
  · replace H := e580; clear e580
    refine AWp.cond (decide ((IntKind.i64.wrap (a2 - a1)) ≥ (8 : Int))) rfl (fun c520 => ?_) (fun c520 => ?_)
    · replace H := (ifT c520).symm.trans H
      refine AWp.seq ?_
      refine AWp.seq ?_
      refine reg hP hn hm [] [0, 3, 11, 12, 13, 14, 36] [0, 1] ⟨[(0, .own 0), (3, .im (.sc (.func (.func 59) #[] #[]))), (11, .ptr 1 0 0), (12, iV .i64 (IntKind.i64.wrap (a1 + (IntKind.i64.wrap ((IntKind.i64.wrap (Int.tdiv (IntKind.i64.wrap (a2 - a1)) (4 : Int))) * (1 : Int)))))), (13, iV .i64 (IntKind.i64.wrap (a1 + (IntKind.i64.wrap ((IntKind.i64.wrap (Int.tdiv (IntKind.i64.wrap (a2 - a1)) (4 : Int))) * (2 : Int)))))), (14, iV .i64 (IntKind.i64.wrap (a1 + (IntKind.i64.wrap ((IntKind.i64.wrap (Int.tdiv (IntKind.i64.wrap (a2 - a1)) (4 : Int))) * (3 : Int)))))), (36, bV (decide ((IntKind.i64.wrap (a2 - a1)) ≥ (50 : Int))))], [(0, some (.row 2 64 (a0.map etomb_Range))), (1, some (.box 3 [iV .i64 0]))], 1⟩ [] (by kernel_rfl) trivial ?_
      obtain ⟨o581, e582, H⟩ := bind_of H
      refine AWp.mono (Q := fun e s => (match (generalizing := false) o581 with | (x567, x568, x569, x570) => e = .normal ∧ s = ⟨[(0, .own 0), (3, .im (.sc (.func (.func 59) #[] #[]))), (11, .ptr 2 0 0), (12, iV .i64 x568), (13, iV .i64 x569), (14, iV .i64 x570)], [(0, some (.row 2 64 (a0.map etomb_Range))), (2, some (.box 3 [iV .i64 x567]))], 1⟩)) (AWp.cv ?_) ?_
      · replace H := e582; clear e582
        refine AWp.cond (decide ((IntKind.i64.wrap (a2 - a1)) ≥ (50 : Int))) rfl (fun c521 => ?_) (fun c521 => ?_)
        · replace H := (ifT c521).symm.trans H
          refine AWp.seq ?_
          obtain ⟨t557, e558, H⟩ := bind_of H
          refine reg hP hn hm [(3, .call [(0, 0), (1, 1)] [(0, 0), (1, 1)] [] [] 2 (iV .i64 t557.1) [(0, some (.row 2 64 (a0.map etomb_Range))), (1, some (.box 3 [iV .i64 t557.2]))])] [0, 3, 11, 12, 13, 14] [0, 1] ⟨[(0, .own 0), (3, .im (.sc (.func (.func 59) #[] #[]))), (11, .ptr 1 0 0), (12, iV .i64 t557.1), (13, iV .i64 (IntKind.i64.wrap (a1 + (IntKind.i64.wrap ((IntKind.i64.wrap (Int.tdiv (IntKind.i64.wrap (a2 - a1)) (4 : Int))) * (2 : Int)))))), (14, iV .i64 (IntKind.i64.wrap (a1 + (IntKind.i64.wrap ((IntKind.i64.wrap (Int.tdiv (IntKind.i64.wrap (a2 - a1)) (4 : Int))) * (3 : Int))))))], [(0, some (.row 2 64 (a0.map etomb_Range))), (1, some (.box 3 [iV .i64 t557.2]))], 1⟩ [Enters Try.prog 145, Pv.Fn Try.prog 145 [.own 0, iV .i64 (IntKind.i64.wrap (a1 + (IntKind.i64.wrap ((IntKind.i64.wrap (Int.tdiv (IntKind.i64.wrap (a2 - a1)) (4 : Int))) * (1 : Int))))), .ptr 1 0 0, .im (.sc (.func (.func 59) #[] #[]))] [(0, some (.row 2 64 (a0.map etomb_Range))), (1, some (.box 3 [iV .i64 0]))] 2 (fun r o => r = iV .i64 t557.1 ∧ o = [(0, some (.row 2 64 (a0.map etomb_Range))), (1, some (.box 3 [iV .i64 t557.2]))])] (by kernel_rfl) ⟨by exact Try.call145, by exact f_slices_medianAdjacentCmpFunc_tomb_Range_tomb_Of_2_7cb.ok a0 (IntKind.i64.wrap (a1 + (IntKind.i64.wrap ((IntKind.i64.wrap (Int.tdiv (IntKind.i64.wrap (a2 - a1)) (4 : Int))) * (1 : Int))))) 0 t557 e558, trivial⟩ ?_
          refine AWp.seq ?_
          obtain ⟨t561, e562, H⟩ := bind_of H
          refine reg hP hn hm [(3, .call [(0, 0), (1, 1)] [(0, 0), (1, 1)] [] [] 2 (iV .i64 t561.1) [(0, some (.row 2 64 (a0.map etomb_Range))), (1, some (.box 3 [iV .i64 t561.2]))])] [0, 3, 11, 12, 13, 14] [0, 1] ⟨[(0, .own 0), (3, .im (.sc (.func (.func 59) #[] #[]))), (11, .ptr 1 0 0), (12, iV .i64 t557.1), (13, iV .i64 t561.1), (14, iV .i64 (IntKind.i64.wrap (a1 + (IntKind.i64.wrap ((IntKind.i64.wrap (Int.tdiv (IntKind.i64.wrap (a2 - a1)) (4 : Int))) * (3 : Int))))))], [(0, some (.row 2 64 (a0.map etomb_Range))), (1, some (.box 3 [iV .i64 t561.2]))], 1⟩ [Enters Try.prog 145, Pv.Fn Try.prog 145 [.own 0, iV .i64 (IntKind.i64.wrap (a1 + (IntKind.i64.wrap ((IntKind.i64.wrap (Int.tdiv (IntKind.i64.wrap (a2 - a1)) (4 : Int))) * (2 : Int))))), .ptr 1 0 0, .im (.sc (.func (.func 59) #[] #[]))] [(0, some (.row 2 64 (a0.map etomb_Range))), (1, some (.box 3 [iV .i64 t557.2]))] 2 (fun r o => r = iV .i64 t561.1 ∧ o = [(0, some (.row 2 64 (a0.map etomb_Range))), (1, some (.box 3 [iV .i64 t561.2]))])] (by kernel_rfl) ⟨by exact Try.call145, by exact f_slices_medianAdjacentCmpFunc_tomb_Range_tomb_Of_2_7cb.ok a0 (IntKind.i64.wrap (a1 + (IntKind.i64.wrap ((IntKind.i64.wrap (Int.tdiv (IntKind.i64.wrap (a2 - a1)) (4 : Int))) * (2 : Int))))) t557.2 t561 e562, trivial⟩ ?_
          obtain ⟨t565, e566, H⟩ := bind_of H
          refine reg hP hn hm [(3, .call [(0, 0), (1, 1)] [(0, 0), (1, 1)] [] [] 2 (iV .i64 t565.1) [(0, some (.row 2 64 (a0.map etomb_Range))), (1, some (.box 3 [iV .i64 t565.2]))])] [0, 3, 11, 12, 13, 14] [0, 1] ⟨[(0, .own 0), (3, .im (.sc (.func (.func 59) #[] #[]))), (11, .ptr 1 0 0), (12, iV .i64 t557.1), (13, iV .i64 t561.1), (14, iV .i64 t565.1)], [(0, some (.row 2 64 (a0.map etomb_Range))), (1, some (.box 3 [iV .i64 t565.2]))], 1⟩ [Enters Try.prog 145, Pv.Fn Try.prog 145 [.own 0, iV .i64 (IntKind.i64.wrap (a1 + (IntKind.i64.wrap ((IntKind.i64.wrap (Int.tdiv (IntKind.i64.wrap (a2 - a1)) (4 : Int))) * (3 : Int))))), .ptr 1 0 0, .im (.sc (.func (.func 59) #[] #[]))] [(0, some (.row 2 64 (a0.map etomb_Range))), (1, some (.box 3 [iV .i64 t561.2]))] 2 (fun r o => r = iV .i64 t565.1 ∧ o = [(0, some (.row 2 64 (a0.map etomb_Range))), (1, some (.box 3 [iV .i64 t565.2]))])] (by kernel_rfl) ⟨by exact Try.call145, by exact f_slices_medianAdjacentCmpFunc_tomb_Range_tomb_Of_2_7cb.ok a0 (IntKind.i64.wrap (a1 + (IntKind.i64.wrap ((IntKind.i64.wrap (Int.tdiv (IntKind.i64.wrap (a2 - a1)) (4 : Int))) * (3 : Int))))) t561.2 t565 e566, trivial⟩ ?_
          obtain rfl := Option.some.inj H
          exact Exists.intro _ (And.intro (fun _ _ h => h.conv (inv := [(0, 0), (1, 2)]) (vk := []) (e0 := []) (t := ⟨[(0, .own 0), (3, .im (.sc (.func (.func 59) #[] #[]))), (11, .ptr 2 0 0), (12, iV .i64 t557.1), (13, iV .i64 t561.1), (14, iV .i64 t565.1)], [(0, some (.row 2 64 (a0.map etomb_Range))), (2, some (.box 3 [iV .i64 t565.2]))], 1⟩) (by kernel_rfl)) (And.intro rfl rfl))
        · replace H := (ifF c521).symm.trans H
          refine AWp.skip ?_
          obtain rfl := Option.some.inj H
          exact Exists.intro _ (And.intro (fun _ _ h => h.conv (inv := [(0, 0), (1, 2)]) (vk := []) (e0 := []) (t := ⟨[(0, .own 0), (3, .im (.sc (.func (.func 59) #[] #[]))), (11, .ptr 2 0 0), (12, iV .i64 (IntKind.i64.wrap (a1 + (IntKind.i64.wrap ((IntKind.i64.wrap (Int.tdiv (IntKind.i64.wrap (a2 - a1)) (4 : Int))) * (1 : Int)))))), (13, iV .i64 (IntKind.i64.wrap (a1 + (IntKind.i64.wrap ((IntKind.i64.wrap (Int.tdiv (IntKind.i64.wrap (a2 - a1)) (4 : Int))) * (2 : Int)))))), (14, iV .i64 (IntKind.i64.wrap (a1 + (IntKind.i64.wrap ((IntKind.i64.wrap (Int.tdiv (IntKind.i64.wrap (a2 - a1)) (4 : Int))) * (3 : Int))))))], [(0, some (.row 2 64 (a0.map etomb_Range))), (2, some (.box 3 [iV .i64 0]))], 1⟩) (by kernel_rfl)) (And.intro rfl rfl))
      · obtain ⟨x567, x568, x569, x570⟩ := o581
        rintro e s ⟨rfl, rfl⟩
        obtain ⟨t573, e574, H⟩ := bind_of H
        refine reg hP hn hm [(5, .call [(0, 0), (2, 1)] [(0, 0), (1, 2)] [] [] 2 (iV .i64 t573.1) [(0, some (.row 2 64 (a0.map etomb_Range))), (1, some (.box 3 [iV .i64 t573.2]))])] [11, 13] [0, 2] ⟨[(11, .ptr 2 0 0), (13, iV .i64 t573.1)], [(0, some (.row 2 64 (a0.map etomb_Range))), (2, some (.box 3 [iV .i64 t573.2]))], 1⟩ [Enters Try.prog 146, Pv.Fn Try.prog 146 [.own 0, iV .i64 x568, iV .i64 x569, iV .i64 x570, .ptr 1 0 0, .im (.sc (.func (.func 59) #[] #[]))] [(0, some (.row 2 64 (a0.map etomb_Range))), (1, some (.box 3 [iV .i64 x567]))] 2 (fun r o => r = iV .i64 t573.1 ∧ o = [(0, some (.row 2 64 (a0.map etomb_Range))), (1, some (.box 3 [iV .i64 t573.2]))])] (by kernel_rfl) ⟨by exact Try.call146, by exact f_slices_medianCmpFunc_tomb_Range_tomb_Of_2_5f3.ok a0 x568 x569 x570 x567 t573 e574, trivial⟩ ?_
        obtain rfl := Option.some.inj H
        exact Exists.intro _ (And.intro (fun _ _ h => h.conv (inv := [(2, 3), (0, 0)]) (vk := []) (e0 := []) (t := ⟨[(11, .ptr 3 0 0), (13, iV .i64 t573.1)], [(0, some (.row 2 64 (a0.map etomb_Range))), (3, some (.box 3 [iV .i64 t573.2]))], 1⟩) (by kernel_rfl)) (And.intro rfl rfl))
    · replace H := (ifF c520).symm.trans H
      refine AWp.skip ?_
      obtain rfl := Option.some.inj H
      exact Exists.intro _ (And.intro (fun _ _ h => h.conv (inv := [(1, 3), (0, 0)]) (vk := []) (e0 := []) (t := ⟨[(11, .ptr 3 0 0), (13, iV .i64 (IntKind.i64.wrap (a1 + (IntKind.i64.wrap ((IntKind.i64.wrap (Int.tdiv (IntKind.i64.wrap (a2 - a1)) (4 : Int))) * (2 : Int))))))], [(0, some (.row 2 64 (a0.map etomb_Range))), (3, some (.box 3 [iV .i64 0]))], 1⟩) (by kernel_rfl)) (And.intro rfl rfl))
  · obtain ⟨x575, x576⟩ := o579
    rintro e s ⟨rfl, rfl⟩
    refine AWp.seq ?_
    refine reg hP hn hm [] [13, 55] [0] ⟨[(13, iV .i64 x576), (55, iV .i64 x575)], [(0, some (.row 2 64 (a0.map etomb_Range)))], 1⟩ [] (by kernel_rfl) trivial ?_
    refine AWp.block ?_
    refine AWp.seq ?_
    refine reg hP hn hm [] [13, 55, 57] [0] ⟨[(13, iV .i64 x576), (55, iV .i64 x575), (57, bV (x575 == (0 : Int)))], [(0, some (.row 2 64 (a0.map etomb_Range)))], 1⟩ [] (by kernel_rfl) trivial ?_
    refine AWp.cond (x575 == (0 : Int)) rfl (fun c577 => ?_) (fun c577 => ?_)
    · replace H := (ifT c577).symm.trans H
      refine AWp.seq ?_
      refine reg hP hn hm [] [8, 9] [0] ⟨[(8, iV .i64 x576), (9, iV .i64 1)], [(0, some (.row 2 64 (a0.map etomb_Range)))], 1⟩ [] (by kernel_rfl) trivial ?_
      refine AWp.conv (inv := [(0, 0)]) (vk := []) (e0 := []) (t := ⟨[(8, iV .i64 x576), (9, iV .i64 1)], [(0, some (.row 2 64 (a0.map etomb_Range)))], 1⟩) (by kernel_rfl) ?_
      refine AWp.ret ?_
      obtain rfl := Option.some.inj H
      exact Exists.intro _ (And.intro (fun _ _ h => h) (And.intro (.inl rfl) (And.intro rfl (And.intro (by kernel_rfl) (by kernel_rfl)))))
    · replace H := (ifF c577).symm.trans H
      refine AWp.seq ?_
      refine reg hP hn hm [] [13, 60] [0] ⟨[(13, iV .i64 x576), (60, bV (x575 == (12 : Int)))], [(0, some (.row 2 64 (a0.map etomb_Range)))], 1⟩ [] (by kernel_rfl) trivial ?_
      refine AWp.cond (x575 == (12 : Int)) rfl (fun c578 => ?_) (fun c578 => ?_)
      · replace H := (ifT c578).symm.trans H
        refine AWp.seq ?_
        refine reg hP hn hm [] [8, 9] [0] ⟨[(8, iV .i64 x576), (9, iV .i64 2)], [(0, some (.row 2 64 (a0.map etomb_Range)))], 1⟩ [] (by kernel_rfl) trivial ?_
        refine AWp.conv (inv := [(0, 0)]) (vk := []) (e0 := []) (t := ⟨[(8, iV .i64 x576), (9, iV .i64 2)], [(0, some (.row 2 64 (a0.map etomb_Range)))], 1⟩) (by kernel_rfl) ?_
        refine AWp.ret ?_
        obtain rfl := Option.some.inj H
        exact Exists.intro _ (And.intro (fun _ _ h => h) (And.intro (.inl rfl) (And.intro rfl (And.intro (by kernel_rfl) (by kernel_rfl)))))
      · replace H := (ifF c578).symm.trans H
        refine AWp.seq ?_
        refine reg hP hn hm [] [8, 9] [0] ⟨[(8, iV .i64 x576), (9, iV .i64 0)], [(0, some (.row 2 64 (a0.map etomb_Range)))], 1⟩ [] (by kernel_rfl) trivial ?_
        refine AWp.conv (inv := [(0, 0)]) (vk := []) (e0 := []) (t := ⟨[(8, iV .i64 x576), (9, iV .i64 0)], [(0, some (.row 2 64 (a0.map etomb_Range)))], 1⟩) (by kernel_rfl) ?_
        refine AWp.ret ?_
        obtain rfl := Option.some.inj H
        exact Exists.intro _ (And.intro (fun _ _ h => h) (And.intro (.inl rfl) (And.intro rfl (And.intro (by kernel_rfl) (by kernel_rfl)))))
def f_slices_reverseRangeCmpFunc_tomb_Range_tomb_Of_2.l0 (x607 : List Ttomb_Range) (x608 : Int) (x609 : Int) : Option (List Ttomb_Range) := if (decide (x608 < x609)) = true then ((at? x607 x609) >>= fun b620 => (at? x607 x608) >>= fun b623 => (at? (x607.set (Int.toNat (x608)) b620) x609) >>= fun b626 => f_slices_reverseRangeCmpFunc_tomb_Range_tomb_Of_2.l0  ((x607.set (Int.toNat (x608)) b620).set (Int.toNat (x609)) b623) (IntKind.i64.wrap (x608 + (1 : Int))) (IntKind.i64.wrap (x609 - (1 : Int)))) else (some x607)
partial_fixpoint
def f_slices_reverseRangeCmpFunc_tomb_Range_tomb_Of_2.f (a0 : List Ttomb_Range) (a1 : Int) (a2 : Int) : Option (List Ttomb_Range) := (f_slices_reverseRangeCmpFunc_tomb_Range_tomb_Of_2.l0  a0 a1 (IntKind.i64.wrap (a2 - (1 : Int)))) >>= fun x629 => some x629
theorem f_slices_reverseRangeCmpFunc_tomb_Range_tomb_Of_2.ok (a0 : List Ttomb_Range) (a1 : Int) (a2 : Int) (r : List Ttomb_Range) (H : f_slices_reverseRangeCmpFunc_tomb_Range_tomb_Of_2.f a0 a1 a2 = some r) : Pv.Fn Try.prog 124 [.own 0, iV .i64 a1, iV .i64 a2, .im (.sc (.func (.func 59) #[] #[]))] [(0, some (.row 2 64 (a0.map etomb_Range)))] 1 (fun x o => x = .tup [] ∧ o = [(0, some (.row 2 64 (r.map etomb_Range)))]) := by
  unfold f_slices_reverseRangeCmpFunc_tomb_Range_tomb_Of_2.f at H
  refine Fn.bodyK [0] Try.func124 rfl rfl (fun Γ hP hn => ?_)
  have hm : Try.prog.follows .mixedOrders = true := by kernel_rfl
  replace hn : Γ.n = 34 := hn
  refine AWp.seq ?_
  refine reg hP hn hm [] [0, 2, 8] [0] ⟨[(0, .own 0), (2, iV .i64 a2), (8, iV .i64 a1)], [(0, some (.row 2 64 (a0.map etomb_Range)))], 1⟩ [] (by kernel_rfl) trivial ?_
  refine AWp.seq ?_
  refine reg hP hn hm [] [0, 8, 9] [0] ⟨[(0, .own 0), (8, iV .i64 a1), (9, iV .i64 (IntKind.i64.wrap (a2 - (1 : Int))))], [(0, some (.row 2 64 (a0.map etomb_Range)))], 1⟩ [] (by kernel_rfl) trivial ?_
  refine AWp.block ?_
  obtain ⟨o630, e631, H⟩ := bind_of H
  refine AWp.loop (LWp.conv (inv := [(0, 0)]) (vk := []) (e0 := []) (t := ⟨[(0, .own 0), (8, iV .i64 a1), (9, iV .i64 (IntKind.i64.wrap (a2 - (1 : Int))))], [(0, some (.row 2 64 (a0.map etomb_Range)))], 1⟩) (by kernel_rfl) ?_)
  refine LWp.mono (Q := fun e s => (match (generalizing := false) o630 with | x629 => e = .exit 0 ∧ s = ⟨[], [(0, some (.row 2 64 (x629.map etomb_Range)))], 1⟩)) (LWp.cv (withBody (fun body hbody => ?_))) ?_
  · refine f_slices_reverseRangeCmpFunc_tomb_Range_tomb_Of_2.l0.partial_correctness  (motive := fun x607 x608 x609 o630 => LWp Γ body (fun e s => ∃ t, Cv Γ s t ∧ (match (generalizing := false) o630 with | x629 => e = .exit 0 ∧ t = ⟨[], [(0, some (.row 2 64 (x629.map etomb_Range)))], 1⟩)) ⟨[(0, .own 0), (8, iV .i64 x608), (9, iV .i64 x609)], [(0, some (.row 2 64 (x607.map etomb_Range)))], 1⟩) ?_ _ _ _ _ e631
    clear H e631 o630; intro self ih x607 x608 x609 o630 H
    subst hbody
    refine LWp.round ?_
    refine AWp.seq ?_
    refine AWp.seq ?_
    refine reg hP hn hm [] [0, 8, 9, 15] [0] ⟨[(0, .own 0), (8, iV .i64 x608), (9, iV .i64 x609), (15, bV (decide (x608 < x609)))], [(0, some (.row 2 64 (x607.map etomb_Range)))], 1⟩ [] (by kernel_rfl) trivial ?_
    refine AWp.cond (decide (x608 < x609)) rfl (fun c610 => ?_) (fun c610 => ?_)
    · replace H := (ifT c610).symm.trans H
      refine AWp.skip ?_
      refine AWp.block ?_
      refine AWp.seq ?_
      obtain ⟨b620, p621, q622, H⟩ := at_of H
      obtain ⟨b623, p624, q625, H⟩ := at_of H
      obtain ⟨b626, p627, q628, H⟩ := at_of H
      refine reg hP hn hm [(7, .c (etomb_Range b620)), (11, .c (etomb_Range b623)), (13, .put (etomb_Range b623) ((x607.set (Int.toNat (x608)) b620).map etomb_Range)), (15, .put (etomb_Range b626) (((x607.set (Int.toNat (x608)) b620).set (Int.toNat (x609)) b623).map etomb_Range))] [0, 8, 9] [0] ⟨[(0, .own 0), (8, iV .i64 x608), (9, iV .i64 x609)], [(0, some (.row 2 64 (((x607.set (Int.toNat (x608)) b620).set (Int.toNat (x609)) b623).map etomb_Range)))], 1⟩ [0 ≤ x609, x609 < (((x607.map etomb_Range).length : Nat) : Int), (x607.map etomb_Range)[(Int.toNat (x609))]? = some (etomb_Range b620), 0 ≤ x608, x608 < (((x607.map etomb_Range).length : Nat) : Int), (x607.map etomb_Range)[(Int.toNat (x608))]? = some (etomb_Range b623), 0 ≤ x608, x608 < (((x607.map etomb_Range).length : Nat) : Int), (x607.map etomb_Range)[(Int.toNat (x608))]? = some (etomb_Range b623), (x607.set (Int.toNat (x608)) b620).map etomb_Range = (x607.map etomb_Range).set (Int.toNat (x608)) (splice (etomb_Range b623) 0 [iI .i64 b620.f0, iI .i64 b620.f1]), 0 ≤ x609, x609 < ((((x607.set (Int.toNat (x608)) b620).map etomb_Range).length : Nat) : Int), ((x607.set (Int.toNat (x608)) b620).map etomb_Range)[(Int.toNat (x609))]? = some (etomb_Range b626), ((x607.set (Int.toNat (x608)) b620).set (Int.toNat (x609)) b623).map etomb_Range = ((x607.set (Int.toNat (x608)) b620).map etomb_Range).set (Int.toNat (x609)) (splice (etomb_Range b626) 0 [iI .i64 b623.f0, iI .i64 b623.f1])] (by kernel_rfl) ⟨by exact p621, by exact el_lt etomb_Range p621 q622, by exact el_map etomb_Range q622, by exact p624, by exact el_lt etomb_Range p624 q625, by exact el_map etomb_Range q625, by exact p624, by exact el_lt etomb_Range p624 q625, by exact el_map etomb_Range q625, by exact set1 _ _ _ _, by exact p627, by exact el_lt etomb_Range p627 q628, by exact el_map etomb_Range q628, by exact set1 _ _ _ _, trivial⟩ ?_
      refine AWp.seq ?_
      refine reg hP hn hm [] [0, 8, 9] [0] ⟨[(0, .own 0), (8, iV .i64 (IntKind.i64.wrap (x608 + (1 : Int)))), (9, iV .i64 x609)], [(0, some (.row 2 64 (((x607.set (Int.toNat (x608)) b620).set (Int.toNat (x609)) b623).map etomb_Range)))], 1⟩ [] (by kernel_rfl) trivial ?_
      refine reg hP hn hm [] [0, 8, 9] [0] ⟨[(0, .own 0), (8, iV .i64 (IntKind.i64.wrap (x608 + (1 : Int)))), (9, iV .i64 (IntKind.i64.wrap (x609 - (1 : Int))))], [(0, some (.row 2 64 (((x607.set (Int.toNat (x608)) b620).set (Int.toNat (x609)) b623).map etomb_Range)))], 1⟩ [] (by kernel_rfl) trivial ?_
      exact LWp.conv (inv := [(0, 0)]) (vk := []) (e0 := []) (t := ⟨[(0, .own 0), (8, iV .i64 (IntKind.i64.wrap (x608 + (1 : Int)))), (9, iV .i64 (IntKind.i64.wrap (x609 - (1 : Int))))], [(0, some (.row 2 64 (((x607.set (Int.toNat (x608)) b620).set (Int.toNat (x609)) b623).map etomb_Range)))], 1⟩) (by kernel_rfl) (ih _ _ _ _ H)
    · replace H := (ifF c610).symm.trans H
      refine AWp.exit ?_
      obtain rfl := Option.some.inj H
      exact Exists.intro _ (And.intro (fun _ _ h => h.conv (inv := [(0, 0)]) (vk := []) (e0 := []) (t := ⟨[], [(0, some (.row 2 64 (x607.map etomb_Range)))], 1⟩) (by kernel_rfl)) (And.intro rfl rfl))
  · obtain ⟨x629, rfl⟩ : ∃ z, z = o630 := ⟨_, rfl⟩
    rintro e s ⟨rfl, rfl⟩
    obtain rfl := Option.some.inj H
    exact Exists.intro ⟨[], [(0, some (.row 2 64 (x629.map etomb_Range)))], 1⟩ (And.intro (fun _ _ h => h.conv (inv := [(0, 0)]) (vk := []) (e0 := []) (t := ⟨[], [(0, some (.row 2 64 (x629.map etomb_Range)))], 1⟩) (by kernel_rfl)) (And.intro (.inr rfl) (And.intro rfl (And.intro (by kernel_rfl) (by kernel_rfl)))))
def f_slices_partialInsertionSortCmpFunc_tomb_Range_tomb_Of_2.l1 (a1 : Int) (a2 : Int) (x808 : List Ttomb_Range) (x810 : Int) (x832 : Int) : Option (Int) := ((if (decide (x832 < a2)) = true then ((at? x808 x832) >>= fun b843 => (at? x808 (IntKind.i64.wrap (x832 - (1 : Int)))) >>= fun b846 => (f_tomb_Of_2.f b843 b846) >>= fun t849 => some (!(decide (t849 < (0 : Int))))) else (some false)) : Option (Bool)) >>= fun x851 => if x851 = true then (f_slices_partialInsertionSortCmpFunc_tomb_Range_tomb_Of_2.l1 a1 a2 x808 x810 (IntKind.i64.wrap (x832 + (1 : Int)))) else (some x832)
partial_fixpoint
def f_slices_partialInsertionSortCmpFunc_tomb_Range_tomb_Of_2.l2 (a1 : Int) (a2 : Int) (x810 : Int) (x853 : Int) (x899 : List Ttomb_Range) (x900 : Int) : Option (List Ttomb_Range) := if (decide (x900 ≥ (1 : Int))) = true then ((at? x899 x900) >>= fun b910 => (at? x899 (IntKind.i64.wrap (x900 - (1 : Int)))) >>= fun b913 => (f_tomb_Of_2.f b910 b913) >>= fun t916 => if (!(decide (t916 < (0 : Int)))) = true then (some x899) else ((at? (x899.set (Int.toNat (x900)) b913) (IntKind.i64.wrap (x900 - (1 : Int)))) >>= fun b922 => f_slices_partialInsertionSortCmpFunc_tomb_Range_tomb_Of_2.l2 a1 a2 x810 x853 ((x899.set (Int.toNat (x900)) b913).set (Int.toNat (IntKind.i64.wrap (x900 - (1 : Int)))) b910) (IntKind.i64.wrap (x900 - (1 : Int))))) else (some x899)
partial_fixpoint
def f_slices_partialInsertionSortCmpFunc_tomb_Range_tomb_Of_2.l3 (a1 : Int) (a2 : Int) (x810 : Int) (x853 : Int) (x952 : List Ttomb_Range) (x953 : Int) : Option (List Ttomb_Range) := if (decide (x953 < a2)) = true then ((at? x952 x953) >>= fun b963 => (at? x952 (IntKind.i64.wrap (x953 - (1 : Int)))) >>= fun b966 => (f_tomb_Of_2.f b963 b966) >>= fun t969 => if (!(decide (t969 < (0 : Int)))) = true then (some x952) else ((at? (x952.set (Int.toNat (x953)) b966) (IntKind.i64.wrap (x953 - (1 : Int)))) >>= fun b975 => f_slices_partialInsertionSortCmpFunc_tomb_Range_tomb_Of_2.l3 a1 a2 x810 x853 ((x952.set (Int.toNat (x953)) b966).set (Int.toNat (IntKind.i64.wrap (x953 - (1 : Int)))) b963) (IntKind.i64.wrap (x953 + (1 : Int))))) else (some x952)
partial_fixpoint
def f_slices_partialInsertionSortCmpFunc_tomb_Range_tomb_Of_2.l0 (a1 : Int) (a2 : Int) (x808 : List Ttomb_Range) (x809 : Int) (x810 : Int) : Option ((Bool × (List Ttomb_Range)) ⊕ (List Ttomb_Range)) := if (decide (x810 < (5 : Int))) = true then ((f_slices_partialInsertionSortCmpFunc_tomb_Range_tomb_Of_2.l1 a1 a2 x808 x810 x809) >>= fun x853 => if (x853 == a2) = true then (some (.inl (true, x808))) else (if (decide ((IntKind.i64.wrap (a2 - a1)) < (50 : Int))) = true then (some (.inl (false, x808))) else ((at? x808 (IntKind.i64.wrap (x853 - (1 : Int)))) >>= fun b865 => (at? x808 x853) >>= fun b868 => (at? (x808.set (Int.toNat (x853)) b865) (IntKind.i64.wrap (x853 - (1 : Int)))) >>= fun b871 => ((if (decide ((IntKind.i64.wrap (x853 - a1)) ≥ (2 : Int))) = true then ((f_slices_partialInsertionSortCmpFunc_tomb_Range_tomb_Of_2.l2 a1 a2 x810 x853 ((x808.set (Int.toNat (x853)) b865).set (Int.toNat (IntKind.i64.wrap (x853 - (1 : Int)))) b868) (IntKind.i64.wrap (x853 - (1 : Int)))) >>= fun x925 => some x925) else (some ((x808.set (Int.toNat (x853)) b865).set (Int.toNat (IntKind.i64.wrap (x853 - (1 : Int)))) b868))) : Option (List Ttomb_Range)) >>= fun x926 => ((if (decide ((IntKind.i64.wrap (a2 - x853)) ≥ (2 : Int))) = true then ((f_slices_partialInsertionSortCmpFunc_tomb_Range_tomb_Of_2.l3 a1 a2 x810 x853 x926 (IntKind.i64.wrap (x853 + (1 : Int)))) >>= fun x978 => some x978) else (some x926)) : Option (List Ttomb_Range)) >>= fun x979 => f_slices_partialInsertionSortCmpFunc_tomb_Range_tomb_Of_2.l0 a1 a2 x979 x853 (IntKind.i64.wrap (x810 + (1 : Int)))))) else (some (.inr x808))
partial_fixpoint
def f_slices_partialInsertionSortCmpFunc_tomb_Range_tomb_Of_2.f (a0 : List Ttomb_Range) (a1 : Int) (a2 : Int) : Option (Bool × (List Ttomb_Range)) := (f_slices_partialInsertionSortCmpFunc_tomb_Range_tomb_Of_2.l0 a1 a2 a0 (IntKind.i64.wrap (a1 + (1 : Int))) 0) >>= fun oo => match oo with | .inl rr => (some rr) | .inr x980 => (some (false, x980))
theorem f_slices_partialInsertionSortCmpFunc_tomb_Range_tomb_Of_2.ok (a0 : List Ttomb_Range) (a1 : Int) (a2 : Int) (r : Bool × (List Ttomb_Range)) (H : f_slices_partialInsertionSortCmpFunc_tomb_Range_tomb_Of_2.f a0 a1 a2 = some r) : Pv.Fn Try.prog 125 [.own 0, iV .i64 a1, iV .i64 a2, .im (.sc (.func (.func 59) #[] #[]))] [(0, some (.row 2 64 (a0.map etomb_Range)))] 1 (fun x o => x = bV r.1 ∧ o = [(0, some (.row 2 64 (r.2.map etomb_Range)))]) := by
  unfold f_slices_partialInsertionSortCmpFunc_tomb_Range_tomb_Of_2.f at H
  refine Fn.bodyK [0] Try.func125 rfl rfl (fun Γ hP hn => ?_)
  have hm : Try.prog.follows .mixedOrders = true := by kernel_rfl
  replace hn : Γ.n = 141 := hn
  refine AWp.seq ?_
  refine reg hP hn hm [] [0, 1, 2, 3] [0] ⟨[(0, .own 0), (1, iV .i64 a1), (2, iV .i64 a2), (3, .im (.sc (.func (.func 59) #[] #[])))], [(0, some (.row 2 64 (a0.map etomb_Range)))], 1⟩ [] (by kernel_rfl) trivial ?_
  refine AWp.seq ?_
  refine reg hP hn hm [] [0, 1, 2, 3, 9] [0] ⟨[(0, .own 0), (1, iV .i64 a1), (2, iV .i64 a2), (3, .im (.sc (.func (.func 59) #[] #[]))), (9, iV .i64 (IntKind.i64.wrap (a1 + (1 : Int))))], [(0, some (.row 2 64 (a0.map etomb_Range)))], 1⟩ [] (by kernel_rfl) trivial ?_
  refine AWp.seq ?_
  refine AWp.seq ?_
  refine reg hP hn hm [] [0, 1, 2, 3, 9, 10] [0] ⟨[(0, .own 0), (1, iV .i64 a1), (2, iV .i64 a2), (3, .im (.sc (.func (.func 59) #[] #[]))), (9, iV .i64 (IntKind.i64.wrap (a1 + (1 : Int)))), (10, iV .i64 0)], [(0, some (.row 2 64 (a0.map etomb_Range)))], 1⟩ [] (by kernel_rfl) trivial ?_
  refine AWp.block ?_
  obtain ⟨o981, e982, H⟩ := bind_of H
  refine AWp.loop (LWp.conv (inv := [(0, 0)]) (vk := []) (e0 := []) (t := ⟨[(0, .own 0), (1, iV .i64 a1), (2, iV .i64 a2), (3, .im (.sc (.func (.func 59) #[] #[]))), (9, iV .i64 (IntKind.i64.wrap (a1 + (1 : Int)))), (10, iV .i64 0)], [(0, some (.row 2 64 (a0.map etomb_Range)))], 1⟩) (by kernel_rfl) ?_)
  refine LWp.mono (Q := fun e s => (match (generalizing := false) o981 with | .inl rr => e = .ret ∧ s.floor = 1 ∧ resOf Try.prog Try.f125 s = some (bV rr.1) ∧ ([(0, s.obj 0)] : List (Nat × Option MObj)) = [(0, some (.row 2 64 (rr.2.map etomb_Range)))] | .inr x980 => e = .exit 0 ∧ s = ⟨[], [(0, some (.row 2 64 (x980.map etomb_Range)))], 1⟩)) (LWp.cv (withBody (fun body hbody => ?_))) ?_
  · refine f_slices_partialInsertionSortCmpFunc_tomb_Range_tomb_Of_2.l0.partial_correctness a1 a2 (motive := fun x808 x809 x810 o981 => LWp Γ body (fun e s => ∃ t, Cv Γ s t ∧ (match (generalizing := false) o981 with | .inl rr => e = .ret ∧ t.floor = 1 ∧ resOf Try.prog Try.f125 t = some (bV rr.1) ∧ ([(0, t.obj 0)] : List (Nat × Option MObj)) = [(0, some (.row 2 64 (rr.2.map etomb_Range)))] | .inr x980 => e = .exit 0 ∧ t = ⟨[], [(0, some (.row 2 64 (x980.map etomb_Range)))], 1⟩)) ⟨[(0, .own 0), (1, iV .i64 a1), (2, iV .i64 a2), (3, .im (.sc (.func (.func 59) #[] #[]))), (9, iV .i64 x809), (10, iV .i64 x810)], [(0, some (.row 2 64 (x808.map etomb_Range)))], 1⟩) ?_ _ _ _ _ e982
    clear H e982 o981; intro self ih x808 x809 x810 o981 H
    subst hbody
    refine LWp.round ?_
    refine AWp.seq ?_
    refine AWp.seq ?_
    refine reg hP hn hm [] [0, 1, 2, 3, 9, 10, 16] [0] ⟨[(0, .own 0), (1, iV .i64 a1), (2, iV .i64 a2), (3, .im (.sc (.func (.func 59) #[] #[]))), (9, iV .i64 x809), (10, iV .i64 x810), (16, bV (decide (x810 < (5 : Int))))], [(0, some (.row 2 64 (x808.map etomb_Range)))], 1⟩ [] (by kernel_rfl) trivial ?_
    refine AWp.cond (decide (x810 < (5 : Int))) rfl (fun c811 => ?_) (fun c811 => ?_)
    · replace H := (ifT c811).symm.trans H
      refine AWp.skip ?_
      refine AWp.seq ?_
      refine AWp.block ?_
      refine AWp.seq ?_
      refine AWp.block ?_
      obtain ⟨o983, e984, H⟩ := bind_of H
      refine AWp.loop (LWp.conv (inv := [(0, 0)]) (vk := []) (e0 := []) (t := ⟨[(0, .own 0), (1, iV .i64 a1), (2, iV .i64 a2), (3, .im (.sc (.func (.func 59) #[] #[]))), (9, iV .i64 x809), (10, iV .i64 x810)], [(0, some (.row 2 64 (x808.map etomb_Range)))], 1⟩) (by kernel_rfl) ?_)
      refine LWp.mono (Q := fun e s => (match (generalizing := false) o983 with | x853 => e = .exit 2 ∧ s = ⟨[(0, .own 0), (1, iV .i64 a1), (2, iV .i64 a2), (3, .im (.sc (.func (.func 59) #[] #[]))), (9, iV .i64 x853), (10, iV .i64 x810)], [(0, some (.row 2 64 (x808.map etomb_Range)))], 1⟩)) (LWp.cv (withBody (fun body hbody => ?_))) ?_
      · refine f_slices_partialInsertionSortCmpFunc_tomb_Range_tomb_Of_2.l1.partial_correctness a1 a2 x808 x810 (motive := fun x832 o983 => LWp Γ body (fun e s => ∃ t, Cv Γ s t ∧ (match (generalizing := false) o983 with | x853 => e = .exit 2 ∧ t = ⟨[(0, .own 0), (1, iV .i64 a1), (2, iV .i64 a2), (3, .im (.sc (.func (.func 59) #[] #[]))), (9, iV .i64 x853), (10, iV .i64 x810)], [(0, some (.row 2 64 (x808.map etomb_Range)))], 1⟩)) ⟨[(0, .own 0), (1, iV .i64 a1), (2, iV .i64 a2), (3, .im (.sc (.func (.func 59) #[] #[]))), (9, iV .i64 x832), (10, iV .i64 x810)], [(0, some (.row 2 64 (x808.map etomb_Range)))], 1⟩) ?_ _ _ e984
        clear H e984 o983; intro self ih x832 o983 H
        subst hbody
        refine LWp.round ?_
        refine AWp.seq ?_
        refine AWp.seq ?_
        obtain ⟨o985, e986, H⟩ := bind_of H
        refine AWp.mono (Q := fun e s => (match (generalizing := false) o985 with | x851 => e = .normal ∧ s = ⟨[(0, .own 0), (1, iV .i64 a1), (2, iV .i64 a2), (3, .im (.sc (.func (.func 59) #[] #[]))), (9, iV .i64 x832), (10, iV .i64 x810), (36, bV x851)], [(0, some (.row 2 64 (x808.map etomb_Range)))], 1⟩)) (AWp.cv ?_) ?_
        · replace H := e986; clear e986
          rcases Bool.eq_false_or_eq_true (decide (x832 < a2)) with c842 | c842
          · replace H := (ifT c842).symm.trans H
            obtain ⟨b843, p844, q845, H⟩ := at_of H
            obtain ⟨b846, p847, q848, H⟩ := at_of H
            obtain ⟨t849, e850, H⟩ := bind_of H
            refine reg hP hn hm [(3, .b true), (8, .c (etomb_Range b843)), (13, .c (etomb_Range b846)), (14, .call [] [] [] [] 0 (iV .i64 t849) [])] [0, 1, 2, 3, 9, 10, 23, 24, 25, 26, 27, 28, 29, 30, 31, 32, 33, 34, 35, 36] [0] ⟨[(0, .own 0), (1, iV .i64 a1), (2, iV .i64 a2), (3, .im (.sc (.func (.func 59) #[] #[]))), (9, iV .i64 x832), (10, iV .i64 x810), (23, .im (.sc (.func (.func 59) #[] #[]))), (24, .own 0), (25, iV .i64 x832), (26, .ptr 0 (Int.toNat (x832)) 0), (27, .agg (atomb_Range b843)), (28, .own 0), (29, iV .i64 x832), (30, iV .i64 (IntKind.i64.wrap (x832 - (1 : Int)))), (31, .ptr 0 (Int.toNat (IntKind.i64.wrap (x832 - (1 : Int)))) 0), (32, .agg (atomb_Range b846)), (33, iV .i64 t849), (34, bV (decide (t849 < (0 : Int)))), (35, bV (!(decide (t849 < (0 : Int))))), (36, bV (!(decide (t849 < (0 : Int)))))], [(0, some (.row 2 64 (x808.map etomb_Range)))], 1⟩ [(decide (x832 < a2)) = true, 0 ≤ x832, x832 < (((x808.map etomb_Range).length : Nat) : Int), (x808.map etomb_Range)[(Int.toNat (x832))]? = some (etomb_Range b843), 0 ≤ (IntKind.i64.wrap (x832 - (1 : Int))), IntKind.i64.wrap (x832 - (1 : Int)) < (((x808.map etomb_Range).length : Nat) : Int), (x808.map etomb_Range)[(Int.toNat (IntKind.i64.wrap (x832 - (1 : Int))))]? = some (etomb_Range b846), Enters Try.prog 59, Pv.Fn Try.prog 59 [.agg (atomb_Range b843), .agg (atomb_Range b846)] [] 0 (fun r o => r = iV .i64 t849 ∧ o = [])] (by kernel_rfl) ⟨by exact c842, by exact p844, by exact el_lt etomb_Range p844 q845, by exact el_map etomb_Range q845, by exact p847, by exact el_lt etomb_Range p847 q848, by exact el_map etomb_Range q848, by exact Try.call59, by exact f_tomb_Of_2.ok b843 b846 t849 e850, trivial⟩ ?_
            obtain rfl := Option.some.inj H
            exact Exists.intro _ (And.intro (fun _ _ h => h.conv (inv := [(0, 0)]) (vk := []) (e0 := []) (t := ⟨[(0, .own 0), (1, iV .i64 a1), (2, iV .i64 a2), (3, .im (.sc (.func (.func 59) #[] #[]))), (9, iV .i64 x832), (10, iV .i64 x810), (36, bV (!(decide (t849 < (0 : Int)))))], [(0, some (.row 2 64 (x808.map etomb_Range)))], 1⟩) (by kernel_rfl)) (And.intro rfl rfl))
          · replace H := (ifF c842).symm.trans H
            refine reg hP hn hm [(3, .b false)] [0, 1, 2, 3, 9, 10, 36] [0] ⟨[(0, .own 0), (1, iV .i64 a1), (2, iV .i64 a2), (3, .im (.sc (.func (.func 59) #[] #[]))), (9, iV .i64 x832), (10, iV .i64 x810), (36, bV false)], [(0, some (.row 2 64 (x808.map etomb_Range)))], 1⟩ [(decide (x832 < a2)) = false] (by kernel_rfl) ⟨by exact c842, trivial⟩ ?_
            obtain rfl := Option.some.inj H
            exact Exists.intro _ (And.intro (fun _ _ h => h.conv (inv := [(0, 0)]) (vk := []) (e0 := []) (t := ⟨[(0, .own 0), (1, iV .i64 a1), (2, iV .i64 a2), (3, .im (.sc (.func (.func 59) #[] #[]))), (9, iV .i64 x832), (10, iV .i64 x810), (36, bV false)], [(0, some (.row 2 64 (x808.map etomb_Range)))], 1⟩) (by kernel_rfl)) (And.intro rfl rfl))
        · obtain ⟨x851, rfl⟩ : ∃ z, z = o985 := ⟨_, rfl⟩
          rintro e s ⟨rfl, rfl⟩
          refine AWp.cond x851 rfl (fun c852 => ?_) (fun c852 => ?_)
          · replace H := (ifT c852).symm.trans H
            refine AWp.skip ?_
            refine AWp.block ?_
            refine reg hP hn hm [] [0, 1, 2, 3, 9, 10] [0] ⟨[(0, .own 0), (1, iV .i64 a1), (2, iV .i64 a2), (3, .im (.sc (.func (.func 59) #[] #[]))), (9, iV .i64 (IntKind.i64.wrap (x832 + (1 : Int)))), (10, iV .i64 x810)], [(0, some (.row 2 64 (x808.map etomb_Range)))], 1⟩ [] (by kernel_rfl) trivial ?_
            exact LWp.conv (inv := [(0, 0)]) (vk := []) (e0 := []) (t := ⟨[(0, .own 0), (1, iV .i64 a1), (2, iV .i64 a2), (3, .im (.sc (.func (.func 59) #[] #[]))), (9, iV .i64 (IntKind.i64.wrap (x832 + (1 : Int)))), (10, iV .i64 x810)], [(0, some (.row 2 64 (x808.map etomb_Range)))], 1⟩) (by kernel_rfl) (ih _ _ H)
          · replace H := (ifF c852).symm.trans H
            refine AWp.exit ?_
            obtain rfl := Option.some.inj H
            exact Exists.intro _ (And.intro (fun _ _ h => h.conv (inv := [(0, 0)]) (vk := []) (e0 := []) (t := ⟨[(0, .own 0), (1, iV .i64 a1), (2, iV .i64 a2), (3, .im (.sc (.func (.func 59) #[] #[]))), (9, iV .i64 x832), (10, iV .i64 x810)], [(0, some (.row 2 64 (x808.map etomb_Range)))], 1⟩) (by kernel_rfl)) (And.intro rfl rfl))
      · obtain ⟨x853, rfl⟩ : ∃ z, z = o983 := ⟨_, rfl⟩
        rintro e s ⟨rfl, rfl⟩
        refine AWp.seq ?_
        refine AWp.seq ?_
        refine reg hP hn hm [] [0, 1, 2, 3, 9, 10, 41] [0] ⟨[(0, .own 0), (1, iV .i64 a1), (2, iV .i64 a2), (3, .im (.sc (.func (.func 59) #[] #[]))), (9, iV .i64 x853), (10, iV .i64 x810), (41, bV (x853 == a2))], [(0, some (.row 2 64 (x808.map etomb_Range)))], 1⟩ [] (by kernel_rfl) trivial ?_
        refine AWp.cond (x853 == a2) rfl (fun c854 => ?_) (fun c854 => ?_)
        · replace H := (ifT c854).symm.trans H
          refine AWp.seq ?_
          refine reg hP hn hm [] [8] [0] ⟨[(8, bV true)], [(0, some (.row 2 64 (x808.map etomb_Range)))], 1⟩ [] (by kernel_rfl) trivial ?_
          refine AWp.conv (inv := [(0, 0)]) (vk := []) (e0 := []) (t := ⟨[(8, bV true)], [(0, some (.row 2 64 (x808.map etomb_Range)))], 1⟩) (by kernel_rfl) ?_
          refine AWp.ret ?_
          obtain rfl := Option.some.inj H
          exact Exists.intro _ (And.intro (fun _ _ h => h) (And.intro rfl (And.intro rfl (And.intro (by kernel_rfl) (by kernel_rfl)))))
        · replace H := (ifF c854).symm.trans H
          refine AWp.skip ?_
          refine AWp.seq ?_
          refine AWp.seq ?_
          refine reg hP hn hm [] [0, 1, 2, 3, 9, 10, 45] [0] ⟨[(0, .own 0), (1, iV .i64 a1), (2, iV .i64 a2), (3, .im (.sc (.func (.func 59) #[] #[]))), (9, iV .i64 x853), (10, iV .i64 x810), (45, bV (decide ((IntKind.i64.wrap (a2 - a1)) < (50 : Int))))], [(0, some (.row 2 64 (x808.map etomb_Range)))], 1⟩ [] (by kernel_rfl) trivial ?_
          refine AWp.cond (decide ((IntKind.i64.wrap (a2 - a1)) < (50 : Int))) rfl (fun c855 => ?_) (fun c855 => ?_)
          · replace H := (ifT c855).symm.trans H
            refine AWp.seq ?_
            refine reg hP hn hm [] [8] [0] ⟨[(8, bV false)], [(0, some (.row 2 64 (x808.map etomb_Range)))], 1⟩ [] (by kernel_rfl) trivial ?_
            refine AWp.conv (inv := [(0, 0)]) (vk := []) (e0 := []) (t := ⟨[(8, bV false)], [(0, some (.row 2 64 (x808.map etomb_Range)))], 1⟩) (by kernel_rfl) ?_
            refine AWp.ret ?_
            obtain rfl := Option.some.inj H
            exact Exists.intro _ (And.intro (fun _ _ h => h) (And.intro rfl (And.intro rfl (And.intro (by kernel_rfl) (by kernel_rfl)))))
          · replace H := (ifF c855).symm.trans H
            refine AWp.skip ?_
            refine AWp.seq ?_
            obtain ⟨b865, p866, q867, H⟩ := at_of H
            obtain ⟨b868, p869, q870, H⟩ := at_of H
            obtain ⟨b871, p872, q873, H⟩ := at_of H
            refine reg hP hn hm [(9, .c (etomb_Range b865)), (13, .c (etomb_Range b868)), (15, .put (etomb_Range b868) ((x808.set (Int.toNat (x853)) b865).map etomb_Range)), (17, .put (etomb_Range b871) (((x808.set (Int.toNat (x853)) b865).set (Int.toNat (IntKind.i64.wrap (x853 - (1 : Int)))) b868).map etomb_Range))] [0, 1, 2, 3, 9, 10] [0] ⟨[(0, .own 0), (1, iV .i64 a1), (2, iV .i64 a2), (3, .im (.sc (.func (.func 59) #[] #[]))), (9, iV .i64 x853), (10, iV .i64 x810)], [(0, some (.row 2 64 (((x808.set (Int.toNat (x853)) b865).set (Int.toNat (IntKind.i64.wrap (x853 - (1 : Int)))) b868).map etomb_Range)))], 1⟩ [0 ≤ (IntKind.i64.wrap (x853 - (1 : Int))), IntKind.i64.wrap (x853 - (1 : Int)) < (((x808.map etomb_Range).length : Nat) : Int), (x808.map etomb_Range)[(Int.toNat (IntKind.i64.wrap (x853 - (1 : Int))))]? = some (etomb_Range b865), 0 ≤ x853, x853 < (((x808.map etomb_Range).length : Nat) : Int), (x808.map etomb_Range)[(Int.toNat (x853))]? = some (etomb_Range b868), 0 ≤ x853, x853 < (((x808.map etomb_Range).length : Nat) : Int), (x808.map etomb_Range)[(Int.toNat (x853))]? = some (etomb_Range b868), (x808.set (Int.toNat (x853)) b865).map etomb_Range = (x808.map etomb_Range).set (Int.toNat (x853)) (splice (etomb_Range b868) 0 [iI .i64 b865.f0, iI .i64 b865.f1]), 0 ≤ (IntKind.i64.wrap (x853 - (1 : Int))), IntKind.i64.wrap (x853 - (1 : Int)) < ((((x808.set (Int.toNat (x853)) b865).map etomb_Range).length : Nat) : Int), ((x808.set (Int.toNat (x853)) b865).map etomb_Range)[(Int.toNat (IntKind.i64.wrap (x853 - (1 : Int))))]? = some (etomb_Range b871), ((x808.set (Int.toNat (x853)) b865).set (Int.toNat (IntKind.i64.wrap (x853 - (1 : Int)))) b868).map etomb_Range = ((x808.set (Int.toNat (x853)) b865).map etomb_Range).set (Int.toNat (IntKind.i64.wrap (x853 - (1 : Int)))) (splice (etomb_Range b871) 0 [iI .i64 b868.f0, iI .i64 b868.f1])] (by kernel_rfl) ⟨by exact p866, by exact el_lt etomb_Range p866 q867, by exact el_map etomb_Range q867, by exact p869, by exact el_lt etomb_Range p869 q870, by exact el_map etomb_Range q870, by exact p869, by exact el_lt etomb_Range p869 q870, by exact el_map etomb_Range q870, by exact set1 _ _ _ _, by exact p872, by exact el_lt etomb_Range p872 q873, by exact el_map etomb_Range q873, by exact set1 _ _ _ _, trivial⟩ ?_
            refine AWp.seq ?_
            refine AWp.seq ?_
            refine reg hP hn hm [] [0, 1, 2, 3, 9, 10, 65] [0] ⟨[(0, .own 0), (1, iV .i64 a1), (2, iV .i64 a2), (3, .im (.sc (.func (.func 59) #[] #[]))), (9, iV .i64 x853), (10, iV .i64 x810), (65, bV (decide ((IntKind.i64.wrap (x853 - a1)) ≥ (2 : Int))))], [(0, some (.row 2 64 (((x808.set (Int.toNat (x853)) b865).set (Int.toNat (IntKind.i64.wrap (x853 - (1 : Int)))) b868).map etomb_Range)))], 1⟩ [] (by kernel_rfl) trivial ?_
            obtain ⟨o987, e988, H⟩ := bind_of H
            refine AWp.mono (Q := fun e s => (match (generalizing := false) o987 with | x926 => e = .normal ∧ s = ⟨[(0, .own 0), (1, iV .i64 a1), (2, iV .i64 a2), (3, .im (.sc (.func (.func 59) #[] #[]))), (9, iV .i64 x853), (10, iV .i64 x810)], [(0, some (.row 2 64 (x926.map etomb_Range)))], 1⟩)) (AWp.cv ?_) ?_
            · replace H := e988; clear e988
              refine AWp.cond (decide ((IntKind.i64.wrap (x853 - a1)) ≥ (2 : Int))) rfl (fun c874 => ?_) (fun c874 => ?_)
              · replace H := (ifT c874).symm.trans H
                refine AWp.seq ?_
                refine reg hP hn hm [] [0, 1, 2, 3, 9, 10, 11] [0] ⟨[(0, .own 0), (1, iV .i64 a1), (2, iV .i64 a2), (3, .im (.sc (.func (.func 59) #[] #[]))), (9, iV .i64 x853), (10, iV .i64 x810), (11, iV .i64 (IntKind.i64.wrap (x853 - (1 : Int))))], [(0, some (.row 2 64 (((x808.set (Int.toNat (x853)) b865).set (Int.toNat (IntKind.i64.wrap (x853 - (1 : Int)))) b868).map etomb_Range)))], 1⟩ [] (by kernel_rfl) trivial ?_
                refine AWp.block ?_
                obtain ⟨o989, e990, H⟩ := bind_of H
                refine AWp.loop (LWp.conv (inv := [(0, 0)]) (vk := []) (e0 := []) (t := ⟨[(0, .own 0), (1, iV .i64 a1), (2, iV .i64 a2), (3, .im (.sc (.func (.func 59) #[] #[]))), (9, iV .i64 x853), (10, iV .i64 x810), (11, iV .i64 (IntKind.i64.wrap (x853 - (1 : Int))))], [(0, some (.row 2 64 (((x808.set (Int.toNat (x853)) b865).set (Int.toNat (IntKind.i64.wrap (x853 - (1 : Int)))) b868).map etomb_Range)))], 1⟩) (by kernel_rfl) ?_)
                refine LWp.mono (Q := fun e s => (match (generalizing := false) o989 with | x925 => e = .exit 4 ∧ s = ⟨[(0, .own 0), (1, iV .i64 a1), (2, iV .i64 a2), (3, .im (.sc (.func (.func 59) #[] #[]))), (9, iV .i64 x853), (10, iV .i64 x810)], [(0, some (.row 2 64 (x925.map etomb_Range)))], 1⟩)) (LWp.cv (withBody (fun body hbody => ?_))) ?_
                · refine f_slices_partialInsertionSortCmpFunc_tomb_Range_tomb_Of_2.l2.partial_correctness a1 a2 x810 x853 (motive := fun x899 x900 o989 => LWp Γ body (fun e s => ∃ t, Cv Γ s t ∧ (match (generalizing := false) o989 with | x925 => e = .exit 4 ∧ t = ⟨[(0, .own 0), (1, iV .i64 a1), (2, iV .i64 a2), (3, .im (.sc (.func (.func 59) #[] #[]))), (9, iV .i64 x853), (10, iV .i64 x810)], [(0, some (.row 2 64 (x925.map etomb_Range)))], 1⟩)) ⟨[(0, .own 0), (1, iV .i64 a1), (2, iV .i64 a2), (3, .im (.sc (.func (.func 59) #[] #[]))), (9, iV .i64 x853), (10, iV .i64 x810), (11, iV .i64 x900)], [(0, some (.row 2 64 (x899.map etomb_Range)))], 1⟩) ?_ _ _ _ e990
                  clear H e990 o989; intro self ih x899 x900 o989 H
                  subst hbody
                  refine LWp.round ?_
                  refine AWp.seq ?_
                  refine AWp.seq ?_
                  refine reg hP hn hm [] [0, 1, 2, 3, 9, 10, 11, 69] [0] ⟨[(0, .own 0), (1, iV .i64 a1), (2, iV .i64 a2), (3, .im (.sc (.func (.func 59) #[] #[]))), (9, iV .i64 x853), (10, iV .i64 x810), (11, iV .i64 x900), (69, bV (decide (x900 ≥ (1 : Int))))], [(0, some (.row 2 64 (x899.map etomb_Range)))], 1⟩ [] (by kernel_rfl) trivial ?_
                  refine AWp.cond (decide (x900 ≥ (1 : Int))) rfl (fun c901 => ?_) (fun c901 => ?_)
                  · replace H := (ifT c901).symm.trans H
                    refine AWp.skip ?_
                    refine AWp.seq ?_
                    refine AWp.block ?_
                    refine AWp.seq ?_
                    refine AWp.seq ?_
                    obtain ⟨b910, p911, q912, H⟩ := at_of H
                    obtain ⟨b913, p914, q915, H⟩ := at_of H
                    obtain ⟨t916, e917, H⟩ := bind_of H
                    refine reg hP hn hm [(4, .c (etomb_Range b910)), (9, .c (etomb_Range b913)), (10, .call [] [] [] [] 0 (iV .i64 t916) [])] [0, 1, 2, 3, 9, 10, 11, 84] [0] ⟨[(0, .own 0), (1, iV .i64 a1), (2, iV .i64 a2), (3, .im (.sc (.func (.func 59) #[] #[]))), (9, iV .i64 x853), (10, iV .i64 x810), (11, iV .i64 x900), (84, bV (!(decide (t916 < (0 : Int)))))], [(0, some (.row 2 64 (x899.map etomb_Range)))], 1⟩ [0 ≤ x900, x900 < (((x899.map etomb_Range).length : Nat) : Int), (x899.map etomb_Range)[(Int.toNat (x900))]? = some (etomb_Range b910), 0 ≤ (IntKind.i64.wrap (x900 - (1 : Int))), IntKind.i64.wrap (x900 - (1 : Int)) < (((x899.map etomb_Range).length : Nat) : Int), (x899.map etomb_Range)[(Int.toNat (IntKind.i64.wrap (x900 - (1 : Int))))]? = some (etomb_Range b913), Enters Try.prog 59, Pv.Fn Try.prog 59 [.agg (atomb_Range b910), .agg (atomb_Range b913)] [] 0 (fun r o => r = iV .i64 t916 ∧ o = [])] (by kernel_rfl) ⟨by exact p911, by exact el_lt etomb_Range p911 q912, by exact el_map etomb_Range q912, by exact p914, by exact el_lt etomb_Range p914 q915, by exact el_map etomb_Range q915, by exact Try.call59, by exact f_tomb_Of_2.ok b910 b913 t916 e917, trivial⟩ ?_
                    refine AWp.cond (!(decide (t916 < (0 : Int)))) rfl (fun c918 => ?_) (fun c918 => ?_)
                    · replace H := (ifT c918).symm.trans H
                      refine AWp.exit ?_
                      obtain rfl := Option.some.inj H
                      exact Exists.intro _ (And.intro (fun _ _ h => h.conv (inv := [(0, 0)]) (vk := []) (e0 := []) (t := ⟨[(0, .own 0), (1, iV .i64 a1), (2, iV .i64 a2), (3, .im (.sc (.func (.func 59) #[] #[]))), (9, iV .i64 x853), (10, iV .i64 x810)], [(0, some (.row 2 64 (x899.map etomb_Range)))], 1⟩) (by kernel_rfl)) (And.intro rfl rfl))
                    · replace H := (ifF c918).symm.trans H
                      refine AWp.skip ?_
                      obtain ⟨b922, p923, q924, H⟩ := at_of H
                      refine reg hP hn hm [(9, .c (etomb_Range b913)), (13, .c (etomb_Range b910)), (15, .put (etomb_Range b910) ((x899.set (Int.toNat (x900)) b913).map etomb_Range)), (17, .put (etomb_Range b922) (((x899.set (Int.toNat (x900)) b913).set (Int.toNat (IntKind.i64.wrap (x900 - (1 : Int)))) b910).map etomb_Range))] [0, 1, 2, 3, 9, 10, 11] [0] ⟨[(0, .own 0), (1, iV .i64 a1), (2, iV .i64 a2), (3, .im (.sc (.func (.func 59) #[] #[]))), (9, iV .i64 x853), (10, iV .i64 x810), (11, iV .i64 x900)], [(0, some (.row 2 64 (((x899.set (Int.toNat (x900)) b913).set (Int.toNat (IntKind.i64.wrap (x900 - (1 : Int)))) b910).map etomb_Range)))], 1⟩ [0 ≤ (IntKind.i64.wrap (x900 - (1 : Int))), IntKind.i64.wrap (x900 - (1 : Int)) < (((x899.map etomb_Range).length : Nat) : Int), (x899.map etomb_Range)[(Int.toNat (IntKind.i64.wrap (x900 - (1 : Int))))]? = some (etomb_Range b913), 0 ≤ x900, x900 < (((x899.map etomb_Range).length : Nat) : Int), (x899.map etomb_Range)[(Int.toNat (x900))]? = some (etomb_Range b910), 0 ≤ x900, x900 < (((x899.map etomb_Range).length : Nat) : Int), (x899.map etomb_Range)[(Int.toNat (x900))]? = some (etomb_Range b910), (x899.set (Int.toNat (x900)) b913).map etomb_Range = (x899.map etomb_Range).set (Int.toNat (x900)) (splice (etomb_Range b910) 0 [iI .i64 b913.f0, iI .i64 b913.f1]), 0 ≤ (IntKind.i64.wrap (x900 - (1 : Int))), IntKind.i64.wrap (x900 - (1 : Int)) < ((((x899.set (Int.toNat (x900)) b913).map etomb_Range).length : Nat) : Int), ((x899.set (Int.toNat (x900)) b913).map etomb_Range)[(Int.toNat (IntKind.i64.wrap (x900 - (1 : Int))))]? = some (etomb_Range b922), ((x899.set (Int.toNat (x900)) b913).set (Int.toNat (IntKind.i64.wrap (x900 - (1 : Int)))) b910).map etomb_Range = ((x899.set (Int.toNat (x900)) b913).map etomb_Range).set (Int.toNat (IntKind.i64.wrap (x900 - (1 : Int)))) (splice (etomb_Range b922) 0 [iI .i64 b910.f0, iI .i64 b910.f1])] (by kernel_rfl) ⟨by exact p914, by exact el_lt etomb_Range p914 q915, by exact el_map etomb_Range q915, by exact p911, by exact el_lt etomb_Range p911 q912, by exact el_map etomb_Range q912, by exact p911, by exact el_lt etomb_Range p911 q912, by exact el_map etomb_Range q912, by exact set1 _ _ _ _, by exact p923, by exact el_lt etomb_Range p923 q924, by exact el_map etomb_Range q924, by exact set1 _ _ _ _, trivial⟩ ?_
                      refine reg hP hn hm [] [0, 1, 2, 3, 9, 10, 11] [0] ⟨[(0, .own 0), (1, iV .i64 a1), (2, iV .i64 a2), (3, .im (.sc (.func (.func 59) #[] #[]))), (9, iV .i64 x853), (10, iV .i64 x810), (11, iV .i64 (IntKind.i64.wrap (x900 - (1 : Int))))], [(0, some (.row 2 64 (((x899.set (Int.toNat (x900)) b913).set (Int.toNat (IntKind.i64.wrap (x900 - (1 : Int)))) b910).map etomb_Range)))], 1⟩ [] (by kernel_rfl) trivial ?_
                      exact LWp.conv (inv := [(0, 0)]) (vk := []) (e0 := []) (t := ⟨[(0, .own 0), (1, iV .i64 a1), (2, iV .i64 a2), (3, .im (.sc (.func (.func 59) #[] #[]))), (9, iV .i64 x853), (10, iV .i64 x810), (11, iV .i64 (IntKind.i64.wrap (x900 - (1 : Int))))], [(0, some (.row 2 64 (((x899.set (Int.toNat (x900)) b913).set (Int.toNat (IntKind.i64.wrap (x900 - (1 : Int)))) b910).map etomb_Range)))], 1⟩) (by kernel_rfl) (ih _ _ _ H)
                  · replace H := (ifF c901).symm.trans H
                    refine AWp.exit ?_
                    obtain rfl := Option.some.inj H
                    exact Exists.intro _ (And.intro (fun _ _ h => h.conv (inv := [(0, 0)]) (vk := []) (e0 := []) (t := ⟨[(0, .own 0), (1, iV .i64 a1), (2, iV .i64 a2), (3, .im (.sc (.func (.func 59) #[] #[]))), (9, iV .i64 x853), (10, iV .i64 x810)], [(0, some (.row 2 64 (x899.map etomb_Range)))], 1⟩) (by kernel_rfl)) (And.intro rfl rfl))
                · obtain ⟨x925, rfl⟩ : ∃ z, z = o989 := ⟨_, rfl⟩
                  rintro e s ⟨rfl, rfl⟩
                  obtain rfl := Option.some.inj H
                  exact Exists.intro _ (And.intro (fun _ _ h => h.conv (inv := [(0, 0)]) (vk := []) (e0 := []) (t := ⟨[(0, .own 0), (1, iV .i64 a1), (2, iV .i64 a2), (3, .im (.sc (.func (.func 59) #[] #[]))), (9, iV .i64 x853), (10, iV .i64 x810)], [(0, some (.row 2 64 (x925.map etomb_Range)))], 1⟩) (by kernel_rfl)) (And.intro rfl rfl))
              · replace H := (ifF c874).symm.trans H
                refine AWp.skip ?_
                obtain rfl := Option.some.inj H
                exact Exists.intro _ (And.intro (fun _ _ h => h.conv (inv := [(0, 0)]) (vk := []) (e0 := []) (t := ⟨[(0, .own 0), (1, iV .i64 a1), (2, iV .i64 a2), (3, .im (.sc (.func (.func 59) #[] #[]))), (9, iV .i64 x853), (10, iV .i64 x810)], [(0, some (.row 2 64 (((x808.set (Int.toNat (x853)) b865).set (Int.toNat (IntKind.i64.wrap (x853 - (1 : Int)))) b868).map etomb_Range)))], 1⟩) (by kernel_rfl)) (And.intro rfl rfl))
            · obtain ⟨x926, rfl⟩ : ∃ z, z = o987 := ⟨_, rfl⟩
              rintro e s ⟨rfl, rfl⟩
              refine AWp.seq ?_
              refine reg hP hn hm [] [0, 1, 2, 3, 9, 10, 104] [0] ⟨[(0, .own 0), (1, iV .i64 a1), (2, iV .i64 a2), (3, .im (.sc (.func (.func 59) #[] #[]))), (9, iV .i64 x853), (10, iV .i64 x810), (104, bV (decide ((IntKind.i64.wrap (a2 - x853)) ≥ (2 : Int))))], [(0, some (.row 2 64 (x926.map etomb_Range)))], 1⟩ [] (by kernel_rfl) trivial ?_
              obtain ⟨o991, e992, H⟩ := bind_of H
              refine AWp.mono (Q := fun e s => (match (generalizing := false) o991 with | x979 => e = .normal ∧ s = ⟨[(0, .own 0), (1, iV .i64 a1), (2, iV .i64 a2), (3, .im (.sc (.func (.func 59) #[] #[]))), (9, iV .i64 x853), (10, iV .i64 x810)], [(0, some (.row 2 64 (x979.map etomb_Range)))], 1⟩)) (AWp.cv ?_) ?_
              · replace H := e992; clear e992
                refine AWp.cond (decide ((IntKind.i64.wrap (a2 - x853)) ≥ (2 : Int))) rfl (fun c927 => ?_) (fun c927 => ?_)
                · replace H := (ifT c927).symm.trans H
                  refine AWp.seq ?_
                  refine reg hP hn hm [] [0, 1, 2, 3, 9, 10, 12] [0] ⟨[(0, .own 0), (1, iV .i64 a1), (2, iV .i64 a2), (3, .im (.sc (.func (.func 59) #[] #[]))), (9, iV .i64 x853), (10, iV .i64 x810), (12, iV .i64 (IntKind.i64.wrap (x853 + (1 : Int))))], [(0, some (.row 2 64 (x926.map etomb_Range)))], 1⟩ [] (by kernel_rfl) trivial ?_
                  refine AWp.block ?_
                  obtain ⟨o993, e994, H⟩ := bind_of H
                  refine AWp.loop (LWp.conv (inv := [(0, 0)]) (vk := []) (e0 := []) (t := ⟨[(0, .own 0), (1, iV .i64 a1), (2, iV .i64 a2), (3, .im (.sc (.func (.func 59) #[] #[]))), (9, iV .i64 x853), (10, iV .i64 x810), (12, iV .i64 (IntKind.i64.wrap (x853 + (1 : Int))))], [(0, some (.row 2 64 (x926.map etomb_Range)))], 1⟩) (by kernel_rfl) ?_)
                  refine LWp.mono (Q := fun e s => (match (generalizing := false) o993 with | x978 => e = .exit 6 ∧ s = ⟨[(0, .own 0), (1, iV .i64 a1), (2, iV .i64 a2), (3, .im (.sc (.func (.func 59) #[] #[]))), (9, iV .i64 x853), (10, iV .i64 x810)], [(0, some (.row 2 64 (x978.map etomb_Range)))], 1⟩)) (LWp.cv (withBody (fun body hbody => ?_))) ?_
                  · refine f_slices_partialInsertionSortCmpFunc_tomb_Range_tomb_Of_2.l3.partial_correctness a1 a2 x810 x853 (motive := fun x952 x953 o993 => LWp Γ body (fun e s => ∃ t, Cv Γ s t ∧ (match (generalizing := false) o993 with | x978 => e = .exit 6 ∧ t = ⟨[(0, .own 0), (1, iV .i64 a1), (2, iV .i64 a2), (3, .im (.sc (.func (.func 59) #[] #[]))), (9, iV .i64 x853), (10, iV .i64 x810)], [(0, some (.row 2 64 (x978.map etomb_Range)))], 1⟩)) ⟨[(0, .own 0), (1, iV .i64 a1), (2, iV .i64 a2), (3, .im (.sc (.func (.func 59) #[] #[]))), (9, iV .i64 x853), (10, iV .i64 x810), (12, iV .i64 x953)], [(0, some (.row 2 64 (x952.map etomb_Range)))], 1⟩) ?_ _ _ _ e994
                    clear H e994 o993; intro self ih x952 x953 o993 H
                    subst hbody
                    refine LWp.round ?_
                    refine AWp.seq ?_
                    refine AWp.seq ?_
                    refine reg hP hn hm [] [0, 1, 2, 3, 9, 10, 12, 109] [0] ⟨[(0, .own 0), (1, iV .i64 a1), (2, iV .i64 a2), (3, .im (.sc (.func (.func 59) #[] #[]))), (9, iV .i64 x853), (10, iV .i64 x810), (12, iV .i64 x953), (109, bV (decide (x953 < a2)))], [(0, some (.row 2 64 (x952.map etomb_Range)))], 1⟩ [] (by kernel_rfl) trivial ?_
                    refine AWp.cond (decide (x953 < a2)) rfl (fun c954 => ?_) (fun c954 => ?_)
                    · replace H := (ifT c954).symm.trans H
                      refine AWp.skip ?_
                      refine AWp.seq ?_
                      refine AWp.block ?_
                      refine AWp.seq ?_
                      refine AWp.seq ?_
                      obtain ⟨b963, p964, q965, H⟩ := at_of H
                      obtain ⟨b966, p967, q968, H⟩ := at_of H
                      obtain ⟨t969, e970, H⟩ := bind_of H
                      refine reg hP hn hm [(4, .c (etomb_Range b963)), (9, .c (etomb_Range b966)), (10, .call [] [] [] [] 0 (iV .i64 t969) [])] [0, 1, 2, 3, 9, 10, 12, 124] [0] ⟨[(0, .own 0), (1, iV .i64 a1), (2, iV .i64 a2), (3, .im (.sc (.func (.func 59) #[] #[]))), (9, iV .i64 x853), (10, iV .i64 x810), (12, iV .i64 x953), (124, bV (!(decide (t969 < (0 : Int)))))], [(0, some (.row 2 64 (x952.map etomb_Range)))], 1⟩ [0 ≤ x953, x953 < (((x952.map etomb_Range).length : Nat) : Int), (x952.map etomb_Range)[(Int.toNat (x953))]? = some (etomb_Range b963), 0 ≤ (IntKind.i64.wrap (x953 - (1 : Int))), IntKind.i64.wrap (x953 - (1 : Int)) < (((x952.map etomb_Range).length : Nat) : Int), (x952.map etomb_Range)[(Int.toNat (IntKind.i64.wrap (x953 - (1 : Int))))]? = some (etomb_Range b966), Enters Try.prog 59, Pv.Fn Try.prog 59 [.agg (atomb_Range b963), .agg (atomb_Range b966)] [] 0 (fun r o => r = iV .i64 t969 ∧ o = [])] (by kernel_rfl) ⟨by exact p964, by exact el_lt etomb_Range p964 q965, by exact el_map etomb_Range q965, by exact p967, by exact el_lt etomb_Range p967 q968, by exact el_map etomb_Range q968, by exact Try.call59, by exact f_tomb_Of_2.ok b963 b966 t969 e970, trivial⟩ ?_
                      refine AWp.cond (!(decide (t969 < (0 : Int)))) rfl (fun c971 => ?_) (fun c971 => ?_)
                      · replace H := (ifT c971).symm.trans H
                        refine AWp.exit ?_
                        obtain rfl := Option.some.inj H
                        exact Exists.intro _ (And.intro (fun _ _ h => h.conv (inv := [(0, 0)]) (vk := []) (e0 := []) (t := ⟨[(0, .own 0), (1, iV .i64 a1), (2, iV .i64 a2), (3, .im (.sc (.func (.func 59) #[] #[]))), (9, iV .i64 x853), (10, iV .i64 x810)], [(0, some (.row 2 64 (x952.map etomb_Range)))], 1⟩) (by kernel_rfl)) (And.intro rfl rfl))
                      · replace H := (ifF c971).symm.trans H
                        refine AWp.skip ?_
                        obtain ⟨b975, p976, q977, H⟩ := at_of H
                        refine reg hP hn hm [(9, .c (etomb_Range b966)), (13, .c (etomb_Range b963)), (15, .put (etomb_Range b963) ((x952.set (Int.toNat (x953)) b966).map etomb_Range)), (17, .put (etomb_Range b975) (((x952.set (Int.toNat (x953)) b966).set (Int.toNat (IntKind.i64.wrap (x953 - (1 : Int)))) b963).map etomb_Range))] [0, 1, 2, 3, 9, 10, 12] [0] ⟨[(0, .own 0), (1, iV .i64 a1), (2, iV .i64 a2), (3, .im (.sc (.func (.func 59) #[] #[]))), (9, iV .i64 x853), (10, iV .i64 x810), (12, iV .i64 x953)], [(0, some (.row 2 64 (((x952.set (Int.toNat (x953)) b966).set (Int.toNat (IntKind.i64.wrap (x953 - (1 : Int)))) b963).map etomb_Range)))], 1⟩ [0 ≤ (IntKind.i64.wrap (x953 - (1 : Int))), IntKind.i64.wrap (x953 - (1 : Int)) < (((x952.map etomb_Range).length : Nat) : Int), (x952.map etomb_Range)[(Int.toNat (IntKind.i64.wrap (x953 - (1 : Int))))]? = some (etomb_Range b966), 0 ≤ x953, x953 < (((x952.map etomb_Range).length : Nat) : Int), (x952.map etomb_Range)[(Int.toNat (x953))]? = some (etomb_Range b963), 0 ≤ x953, x953 < (((x952.map etomb_Range).length : Nat) : Int), (x952.map etomb_Range)[(Int.toNat (x953))]? = some (etomb_Range b963), (x952.set (Int.toNat (x953)) b966).map etomb_Range = (x952.map etomb_Range).set (Int.toNat (x953)) (splice (etomb_Range b963) 0 [iI .i64 b966.f0, iI .i64 b966.f1]), 0 ≤ (IntKind.i64.wrap (x953 - (1 : Int))), IntKind.i64.wrap (x953 - (1 : Int)) < ((((x952.set (Int.toNat (x953)) b966).map etomb_Range).length : Nat) : Int), ((x952.set (Int.toNat (x953)) b966).map etomb_Range)[(Int.toNat (IntKind.i64.wrap (x953 - (1 : Int))))]? = some (etomb_Range b975), ((x952.set (Int.toNat (x953)) b966).set (Int.toNat (IntKind.i64.wrap (x953 - (1 : Int)))) b963).map etomb_Range = ((x952.set (Int.toNat (x953)) b966).map etomb_Range).set (Int.toNat (IntKind.i64.wrap (x953 - (1 : Int)))) (splice (etomb_Range b975) 0 [iI .i64 b963.f0, iI .i64 b963.f1])] (by kernel_rfl) ⟨by exact p967, by exact el_lt etomb_Range p967 q968, by exact el_map etomb_Range q968, by exact p964, by exact el_lt etomb_Range p964 q965, by exact el_map etomb_Range q965, by exact p964, by exact el_lt etomb_Range p964 q965, by exact el_map etomb_Range q965, by exact set1 _ _ _ _, by exact p976, by exact el_lt etomb_Range p976 q977, by exact el_map etomb_Range q977, by exact set1 _ _ _ _, trivial⟩ ?_
                        refine reg hP hn hm [] [0, 1, 2, 3, 9, 10, 12] [0] ⟨[(0, .own 0), (1, iV .i64 a1), (2, iV .i64 a2), (3, .im (.sc (.func (.func 59) #[] #[]))), (9, iV .i64 x853), (10, iV .i64 x810), (12, iV .i64 (IntKind.i64.wrap (x953 + (1 : Int))))], [(0, some (.row 2 64 (((x952.set (Int.toNat (x953)) b966).set (Int.toNat (IntKind.i64.wrap (x953 - (1 : Int)))) b963).map etomb_Range)))], 1⟩ [] (by kernel_rfl) trivial ?_
                        exact LWp.conv (inv := [(0, 0)]) (vk := []) (e0 := []) (t := ⟨[(0, .own 0), (1, iV .i64 a1), (2, iV .i64 a2), (3, .im (.sc (.func (.func 59) #[] #[]))), (9, iV .i64 x853), (10, iV .i64 x810), (12, iV .i64 (IntKind.i64.wrap (x953 + (1 : Int))))], [(0, some (.row 2 64 (((x952.set (Int.toNat (x953)) b966).set (Int.toNat (IntKind.i64.wrap (x953 - (1 : Int)))) b963).map etomb_Range)))], 1⟩) (by kernel_rfl) (ih _ _ _ H)
                    · replace H := (ifF c954).symm.trans H
                      refine AWp.exit ?_
                      obtain rfl := Option.some.inj H
                      exact Exists.intro _ (And.intro (fun _ _ h => h.conv (inv := [(0, 0)]) (vk := []) (e0 := []) (t := ⟨[(0, .own 0), (1, iV .i64 a1), (2, iV .i64 a2), (3, .im (.sc (.func (.func 59) #[] #[]))), (9, iV .i64 x853), (10, iV .i64 x810)], [(0, some (.row 2 64 (x952.map etomb_Range)))], 1⟩) (by kernel_rfl)) (And.intro rfl rfl))
                  · obtain ⟨x978, rfl⟩ : ∃ z, z = o993 := ⟨_, rfl⟩
                    rintro e s ⟨rfl, rfl⟩
                    obtain rfl := Option.some.inj H
                    exact Exists.intro _ (And.intro (fun _ _ h => h.conv (inv := [(0, 0)]) (vk := []) (e0 := []) (t := ⟨[(0, .own 0), (1, iV .i64 a1), (2, iV .i64 a2), (3, .im (.sc (.func (.func 59) #[] #[]))), (9, iV .i64 x853), (10, iV .i64 x810)], [(0, some (.row 2 64 (x978.map etomb_Range)))], 1⟩) (by kernel_rfl)) (And.intro rfl rfl))
                · replace H := (ifF c927).symm.trans H
                  refine AWp.skip ?_
                  obtain rfl := Option.some.inj H
                  exact Exists.intro _ (And.intro (fun _ _ h => h.conv (inv := [(0, 0)]) (vk := []) (e0 := []) (t := ⟨[(0, .own 0), (1, iV .i64 a1), (2, iV .i64 a2), (3, .im (.sc (.func (.func 59) #[] #[]))), (9, iV .i64 x853), (10, iV .i64 x810)], [(0, some (.row 2 64 (x926.map etomb_Range)))], 1⟩) (by kernel_rfl)) (And.intro rfl rfl))
              · obtain ⟨x979, rfl⟩ : ∃ z, z = o991 := ⟨_, rfl⟩
                rintro e s ⟨rfl, rfl⟩
                refine reg hP hn hm [] [0, 1, 2, 3, 9, 10] [0] ⟨[(0, .own 0), (1, iV .i64 a1), (2, iV .i64 a2), (3, .im (.sc (.func (.func 59) #[] #[]))), (9, iV .i64 x853), (10, iV .i64 (IntKind.i64.wrap (x810 + (1 : Int))))], [(0, some (.row 2 64 (x979.map etomb_Range)))], 1⟩ [] (by kernel_rfl) trivial ?_
                exact LWp.conv (inv := [(0, 0)]) (vk := []) (e0 := []) (t := ⟨[(0, .own 0), (1, iV .i64 a1), (2, iV .i64 a2), (3, .im (.sc (.func (.func 59) #[] #[]))), (9, iV .i64 x853), (10, iV .i64 (IntKind.i64.wrap (x810 + (1 : Int))))], [(0, some (.row 2 64 (x979.map etomb_Range)))], 1⟩) (by kernel_rfl) (ih _ _ _ _ H)
    · replace H := (ifF c811).symm.trans H
      refine AWp.exit ?_
      obtain rfl := Option.some.inj H
      exact Exists.intro _ (And.intro (fun _ _ h => h.conv (inv := [(0, 0)]) (vk := []) (e0 := []) (t := ⟨[], [(0, some (.row 2 64 (x808.map etomb_Range)))], 1⟩) (by kernel_rfl)) (And.intro rfl rfl))
  · rcases o981 with rr | x980
    · skip
      rintro e s ⟨rfl, hfl, hres⟩
      obtain rfl := Option.some.inj H
      exact Exists.intro _ (And.intro (fun _ _ h => h) (And.intro (.inl rfl) (And.intro hfl hres)))
    · skip
      rintro e s ⟨rfl, rfl⟩
      refine AWp.seq ?_
      refine reg hP hn hm [] [8] [0] ⟨[(8, bV false)], [(0, some (.row 2 64 (x980.map etomb_Range)))], 1⟩ [] (by kernel_rfl) trivial ?_
      refine AWp.conv (inv := [(0, 0)]) (vk := []) (e0 := []) (t := ⟨[(8, bV false)], [(0, some (.row 2 64 (x980.map etomb_Range)))], 1⟩) (by kernel_rfl) ?_
      refine AWp.ret ?_
      obtain rfl := Option.some.inj H
      exact Exists.intro _ (And.intro (fun _ _ h => h) (And.intro (.inl rfl) (And.intro rfl (And.intro (by kernel_rfl) (by kernel_rfl)))))
def f_slices_partitionEqualCmpFunc_tomb_Range_tomb_Of_2.l1 (a1 : Int) (x1142 : List Ttomb_Range) (x1144 : Int) (x1165 : Int) : Option (Int) := ((if (decide (x1165 ≤ x1144)) = true then ((at? x1142 a1) >>= fun b1176 => (at? x1142 x1165) >>= fun b1179 => (f_tomb_Of_2.f b1176 b1179) >>= fun t1182 => some (!(decide (t1182 < (0 : Int))))) else (some false)) : Option (Bool)) >>= fun x1184 => if x1184 = true then (f_slices_partitionEqualCmpFunc_tomb_Range_tomb_Of_2.l1 a1 x1142 x1144 (IntKind.i64.wrap (x1165 + (1 : Int)))) else (some x1165)
partial_fixpoint
def f_slices_partitionEqualCmpFunc_tomb_Range_tomb_Of_2.l2 (a1 : Int) (x1142 : List Ttomb_Range) (x1186 : Int) (x1207 : Int) : Option (Int) := ((if (decide (x1186 ≤ x1207)) = true then ((at? x1142 a1) >>= fun b1218 => (at? x1142 x1207) >>= fun b1221 => (f_tomb_Of_2.f b1218 b1221) >>= fun t1224 => some (decide (t1224 < (0 : Int)))) else (some false)) : Option (Bool)) >>= fun x1226 => if x1226 = true then (f_slices_partitionEqualCmpFunc_tomb_Range_tomb_Of_2.l2 a1 x1142 x1186 (IntKind.i64.wrap (x1207 - (1 : Int)))) else (some x1207)
partial_fixpoint
def f_slices_partitionEqualCmpFunc_tomb_Range_tomb_Of_2.l0 (a1 : Int) (x1142 : List Ttomb_Range) (x1143 : Int) (x1144 : Int) : Option (Int × (List Ttomb_Range)) := (f_slices_partitionEqualCmpFunc_tomb_Range_tomb_Of_2.l1 a1 x1142 x1144 x1143) >>= fun x1186 => (f_slices_partitionEqualCmpFunc_tomb_Range_tomb_Of_2.l2 a1 x1142 x1186 x1144) >>= fun x1228 => if (decide (x1186 > x1228)) = true then (some (x1186, x1142)) else ((at? x1142 x1228) >>= fun b1239 => (at? x1142 x1186) >>= fun b1242 => (at? (x1142.set (Int.toNat (x1186)) b1239) x1228) >>= fun b1245 => f_slices_partitionEqualCmpFunc_tomb_Range_tomb_Of_2.l0 a1 ((x1142.set (Int.toNat (x1186)) b1239).set (Int.toNat (x1228)) b1242) (IntKind.i64.wrap (x1186 + (1 : Int))) (IntKind.i64.wrap (x1228 - (1 : Int))))
partial_fixpoint
def f_slices_partitionEqualCmpFunc_tomb_Range_tomb_Of_2.f (a0 : List Ttomb_Range) (a1 : Int) (a2 : Int) (a3 : Int) : Option (Int × (List Ttomb_Range)) := (at? a0 a3) >>= fun b1030 => (at? a0 a1) >>= fun b1033 => (at? (a0.set (Int.toNat (a1)) b1030) a3) >>= fun b1036 => (f_slices_partitionEqualCmpFunc_tomb_Range_tomb_Of_2.l0 a1 ((a0.set (Int.toNat (a1)) b1030).set (Int.toNat (a3)) b1033) (IntKind.i64.wrap (a1 + (1 : Int))) (IntKind.i64.wrap (a2 - (1 : Int)))) >>= fun oo => match oo with | (x1248, x1249) => (some (x1248, x1249))
theorem f_slices_partitionEqualCmpFunc_tomb_Range_tomb_Of_2.ok (a0 : List Ttomb_Range) (a1 : Int) (a2 : Int) (a3 : Int) (r : Int × (List Ttomb_Range)) (H : f_slices_partitionEqualCmpFunc_tomb_Range_tomb_Of_2.f a0 a1 a2 a3 = some r) : Pv.Fn Try.prog 126 [.own 0, iV .i64 a1, iV .i64 a2, iV .i64 a3, .im (.sc (.func (.func 59) #[] #[]))] [(0, some (.row 2 64 (a0.map etomb_Range)))] 1 (fun x o => x = iV .i64 r.1 ∧ o = [(0, some (.row 2 64 (r.2.map etomb_Range)))]) := by
  unfold f_slices_partitionEqualCmpFunc_tomb_Range_tomb_Of_2.f at H
  refine Fn.bodyK [0] Try.func126 rfl rfl (fun Γ hP hn => ?_)
  have hm : Try.prog.follows .mixedOrders = true := by kernel_rfl
  replace hn : Γ.n = 90 := hn
  refine AWp.seq ?_
  refine reg hP hn hm [] [0, 1, 2, 3, 4] [0] ⟨[(0, .own 0), (1, iV .i64 a1), (2, iV .i64 a2), (3, iV .i64 a3), (4, .im (.sc (.func (.func 59) #[] #[])))], [(0, some (.row 2 64 (a0.map etomb_Range)))], 1⟩ [] (by kernel_rfl) trivial ?_
  refine AWp.seq ?_
  obtain ⟨b1030, p1031, q1032, H⟩ := at_of H
  obtain ⟨b1033, p1034, q1035, H⟩ := at_of H
  obtain ⟨b1036, p1037, q1038, H⟩ := at_of H
  refine reg hP hn hm [(7, .c (etomb_Range b1030)), (11, .c (etomb_Range b1033)), (13, .put (etomb_Range b1033) ((a0.set (Int.toNat (a1)) b1030).map etomb_Range)), (15, .put (etomb_Range b1036) (((a0.set (Int.toNat (a1)) b1030).set (Int.toNat (a3)) b1033).map etomb_Range))] [0, 1, 2, 4] [0] ⟨[(0, .own 0), (1, iV .i64 a1), (2, iV .i64 a2), (4, .im (.sc (.func (.func 59) #[] #[])))], [(0, some (.row 2 64 (((a0.set (Int.toNat (a1)) b1030).set (Int.toNat (a3)) b1033).map etomb_Range)))], 1⟩ [0 ≤ a3, a3 < (((a0.map etomb_Range).length : Nat) : Int), (a0.map etomb_Range)[(Int.toNat (a3))]? = some (etomb_Range b1030), 0 ≤ a1, a1 < (((a0.map etomb_Range).length : Nat) : Int), (a0.map etomb_Range)[(Int.toNat (a1))]? = some (etomb_Range b1033), 0 ≤ a1, a1 < (((a0.map etomb_Range).length : Nat) : Int), (a0.map etomb_Range)[(Int.toNat (a1))]? = some (etomb_Range b1033), (a0.set (Int.toNat (a1)) b1030).map etomb_Range = (a0.map etomb_Range).set (Int.toNat (a1)) (splice (etomb_Range b1033) 0 [iI .i64 b1030.f0, iI .i64 b1030.f1]), 0 ≤ a3, a3 < ((((a0.set (Int.toNat (a1)) b1030).map etomb_Range).length : Nat) : Int), ((a0.set (Int.toNat (a1)) b1030).map etomb_Range)[(Int.toNat (a3))]? = some (etomb_Range b1036), ((a0.set (Int.toNat (a1)) b1030).set (Int.toNat (a3)) b1033).map etomb_Range = ((a0.set (Int.toNat (a1)) b1030).map etomb_Range).set (Int.toNat (a3)) (splice (etomb_Range b1036) 0 [iI .i64 b1033.f0, iI .i64 b1033.f1])] (by kernel_rfl) ⟨by exact p1031, by exact el_lt etomb_Range p1031 q1032, by exact el_map etomb_Range q1032, by exact p1034, by exact el_lt etomb_Range p1034 q1035, by exact el_map etomb_Range q1035, by exact p1034, by exact el_lt etomb_Range p1034 q1035, by exact el_map etomb_Range q1035, by exact set1 _ _ _ _, by exact p1037, by exact el_lt etomb_Range p1037 q1038, by exact el_map etomb_Range q1038, by exact set1 _ _ _ _, trivial⟩ ?_
  refine AWp.seq ?_
  refine reg hP hn hm [] [0, 1, 4, 11, 12] [0] ⟨[(0, .own 0), (1, iV .i64 a1), (4, .im (.sc (.func (.func 59) #[] #[]))), (11, iV .i64 (IntKind.i64.wrap (a1 + (1 : Int)))), (12, iV .i64 (IntKind.i64.wrap (a2 - (1 : Int))))], [(0, some (.row 2 64 (((a0.set (Int.toNat (a1)) b1030).set (Int.toNat (a3)) b1033).map etomb_Range)))], 1⟩ [] (by kernel_rfl) trivial ?_
  refine AWp.seq ?_
  refine AWp.block ?_
  obtain ⟨o1250, e1251, H⟩ := bind_of H
  refine AWp.loop (LWp.conv (inv := [(0, 0)]) (vk := []) (e0 := []) (t := ⟨[(0, .own 0), (1, iV .i64 a1), (4, .im (.sc (.func (.func 59) #[] #[]))), (11, iV .i64 (IntKind.i64.wrap (a1 + (1 : Int)))), (12, iV .i64 (IntKind.i64.wrap (a2 - (1 : Int))))], [(0, some (.row 2 64 (((a0.set (Int.toNat (a1)) b1030).set (Int.toNat (a3)) b1033).map etomb_Range)))], 1⟩) (by kernel_rfl) ?_)
  refine LWp.mono (Q := fun e s => (match (generalizing := false) o1250 with | (x1248, x1249) => e = .exit 0 ∧ s = ⟨[(11, iV .i64 x1248)], [(0, some (.row 2 64 (x1249.map etomb_Range)))], 1⟩)) (LWp.cv (withBody (fun body hbody => ?_))) ?_
  · refine f_slices_partitionEqualCmpFunc_tomb_Range_tomb_Of_2.l0.partial_correctness a1 (motive := fun x1142 x1143 x1144 o1250 => LWp Γ body (fun e s => ∃ t, Cv Γ s t ∧ (match (generalizing := false) o1250 with | (x1248, x1249) => e = .exit 0 ∧ t = ⟨[(11, iV .i64 x1248)], [(0, some (.row 2 64 (x1249.map etomb_Range)))], 1⟩)) ⟨[(0, .own 0), (1, iV .i64 a1), (4, .im (.sc (.func (.func 59) #[] #[]))), (11, iV .i64 x1143), (12, iV .i64 x1144)], [(0, some (.row 2 64 (x1142.map etomb_Range)))], 1⟩) ?_ _ _ _ _ e1251
    clear H e1251 o1250; intro self ih x1142 x1143 x1144 o1250 H
    subst hbody
    refine LWp.round ?_
    refine AWp.block ?_
    refine AWp.seq ?_
    refine AWp.block ?_
    obtain ⟨o1252, e1253, H⟩ := bind_of H
    refine AWp.loop (LWp.conv (inv := [(0, 0)]) (vk := []) (e0 := []) (t := ⟨[(0, .own 0), (1, iV .i64 a1), (4, .im (.sc (.func (.func 59) #[] #[]))), (11, iV .i64 x1143), (12, iV .i64 x1144)], [(0, some (.row 2 64 (x1142.map etomb_Range)))], 1⟩) (by kernel_rfl) ?_)
    refine LWp.mono (Q := fun e s => (match (generalizing := false) o1252 with | x1186 => e = .exit 2 ∧ s = ⟨[(0, .own 0), (1, iV .i64 a1), (4, .im (.sc (.func (.func 59) #[] #[]))), (11, iV .i64 x1186), (12, iV .i64 x1144)], [(0, some (.row 2 64 (x1142.map etomb_Range)))], 1⟩)) (LWp.cv (withBody (fun body hbody => ?_))) ?_
    · refine f_slices_partitionEqualCmpFunc_tomb_Range_tomb_Of_2.l1.partial_correctness a1 x1142 x1144 (motive := fun x1165 o1252 => LWp Γ body (fun e s => ∃ t, Cv Γ s t ∧ (match (generalizing := false) o1252 with | x1186 => e = .exit 2 ∧ t = ⟨[(0, .own 0), (1, iV .i64 a1), (4, .im (.sc (.func (.func 59) #[] #[]))), (11, iV .i64 x1186), (12, iV .i64 x1144)], [(0, some (.row 2 64 (x1142.map etomb_Range)))], 1⟩)) ⟨[(0, .own 0), (1, iV .i64 a1), (4, .im (.sc (.func (.func 59) #[] #[]))), (11, iV .i64 x1165), (12, iV .i64 x1144)], [(0, some (.row 2 64 (x1142.map etomb_Range)))], 1⟩) ?_ _ _ e1253
      clear H e1253 o1252; intro self ih x1165 o1252 H
      subst hbody
      refine LWp.round ?_
      refine AWp.seq ?_
      refine AWp.seq ?_
      obtain ⟨o1254, e1255, H⟩ := bind_of H
      refine AWp.mono (Q := fun e s => (match (generalizing := false) o1254 with | x1184 => e = .normal ∧ s = ⟨[(0, .own 0), (1, iV .i64 a1), (4, .im (.sc (.func (.func 59) #[] #[]))), (11, iV .i64 x1165), (12, iV .i64 x1144), (47, bV x1184)], [(0, some (.row 2 64 (x1142.map etomb_Range)))], 1⟩)) (AWp.cv ?_) ?_
      · replace H := e1255; clear e1255
        rcases Bool.eq_false_or_eq_true (decide (x1165 ≤ x1144)) with c1175 | c1175
        · replace H := (ifT c1175).symm.trans H
          obtain ⟨b1176, p1177, q1178, H⟩ := at_of H
          obtain ⟨b1179, p1180, q1181, H⟩ := at_of H
          obtain ⟨t1182, e1183, H⟩ := bind_of H
          refine reg hP hn hm [(3, .b true), (8, .c (etomb_Range b1176)), (12, .c (etomb_Range b1179)), (13, .call [] [] [] [] 0 (iV .i64 t1182) [])] [0, 1, 4, 11, 12, 35, 36, 37, 38, 39, 40, 41, 42, 43, 44, 45, 46, 47] [0] ⟨[(0, .own 0), (1, iV .i64 a1), (4, .im (.sc (.func (.func 59) #[] #[]))), (11, iV .i64 x1165), (12, iV .i64 x1144), (35, .im (.sc (.func (.func 59) #[] #[]))), (36, .own 0), (37, iV .i64 a1), (38, .ptr 0 (Int.toNat (a1)) 0), (39, .agg (atomb_Range b1176)), (40, .own 0), (41, iV .i64 x1165), (42, .ptr 0 (Int.toNat (x1165)) 0), (43, .agg (atomb_Range b1179)), (44, iV .i64 t1182), (45, bV (decide (t1182 < (0 : Int)))), (46, bV (!(decide (t1182 < (0 : Int))))), (47, bV (!(decide (t1182 < (0 : Int)))))], [(0, some (.row 2 64 (x1142.map etomb_Range)))], 1⟩ [(decide (x1165 ≤ x1144)) = true, 0 ≤ a1, a1 < (((x1142.map etomb_Range).length : Nat) : Int), (x1142.map etomb_Range)[(Int.toNat (a1))]? = some (etomb_Range b1176), 0 ≤ x1165, x1165 < (((x1142.map etomb_Range).length : Nat) : Int), (x1142.map etomb_Range)[(Int.toNat (x1165))]? = some (etomb_Range b1179), Enters Try.prog 59, Pv.Fn Try.prog 59 [.agg (atomb_Range b1176), .agg (atomb_Range b1179)] [] 0 (fun r o => r = iV .i64 t1182 ∧ o = [])] (by kernel_rfl) ⟨by exact c1175, by exact p1177, by exact el_lt etomb_Range p1177 q1178, by exact el_map etomb_Range q1178, by exact p1180, by exact el_lt etomb_Range p1180 q1181, by exact el_map etomb_Range q1181, by exact Try.call59, by exact f_tomb_Of_2.ok b1176 b1179 t1182 e1183, trivial⟩ ?_
          obtain rfl := Option.some.inj H
          exact Exists.intro _ (And.intro (fun _ _ h => h.conv (inv := [(0, 0)]) (vk := []) (e0 := []) (t := ⟨[(0, .own 0), (1, iV .i64 a1), (4, .im (.sc (.func (.func 59) #[] #[]))), (11, iV .i64 x1165), (12, iV .i64 x1144), (47, bV (!(decide (t1182 < (0 : Int)))))], [(0, some (.row 2 64 (x1142.map etomb_Range)))], 1⟩) (by kernel_rfl)) (And.intro rfl rfl))
        · replace H := (ifF c1175).symm.trans H
          refine reg hP hn hm [(3, .b false)] [0, 1, 4, 11, 12, 47] [0] ⟨[(0, .own 0), (1, iV .i64 a1), (4, .im (.sc (.func (.func 59) #[] #[]))), (11, iV .i64 x1165), (12, iV .i64 x1144), (47, bV false)], [(0, some (.row 2 64 (x1142.map etomb_Range)))], 1⟩ [(decide (x1165 ≤ x1144)) = false] (by kernel_rfl) ⟨by exact c1175, trivial⟩ ?_
          obtain rfl := Option.some.inj H
          exact Exists.intro _ (And.intro (fun _ _ h => h.conv (inv := [(0, 0)]) (vk := []) (e0 := []) (t := ⟨[(0, .own 0), (1, iV .i64 a1), (4, .im (.sc (.func (.func 59) #[] #[]))), (11, iV .i64 x1165), (12, iV .i64 x1144), (47, bV false)], [(0, some (.row 2 64 (x1142.map etomb_Range)))], 1⟩) (by kernel_rfl)) (And.intro rfl rfl))
      · obtain ⟨x1184, rfl⟩ : ∃ z, z = o1254 := ⟨_, rfl⟩
        rintro e s ⟨rfl, rfl⟩
        refine AWp.cond x1184 rfl (fun c1185 => ?_) (fun c1185 => ?_)
        · replace H := (ifT c1185).symm.trans H
          refine AWp.skip ?_
          refine AWp.block ?_
          refine reg hP hn hm [] [0, 1, 4, 11, 12] [0] ⟨[(0, .own 0), (1, iV .i64 a1), (4, .im (.sc (.func (.func 59) #[] #[]))), (11, iV .i64 (IntKind.i64.wrap (x1165 + (1 : Int)))), (12, iV .i64 x1144)], [(0, some (.row 2 64 (x1142.map etomb_Range)))], 1⟩ [] (by kernel_rfl) trivial ?_
          exact LWp.conv (inv := [(0, 0)]) (vk := []) (e0 := []) (t := ⟨[(0, .own 0), (1, iV .i64 a1), (4, .im (.sc (.func (.func 59) #[] #[]))), (11, iV .i64 (IntKind.i64.wrap (x1165 + (1 : Int)))), (12, iV .i64 x1144)], [(0, some (.row 2 64 (x1142.map etomb_Range)))], 1⟩) (by kernel_rfl) (ih _ _ H)
        · replace H := (ifF c1185).symm.trans H
          refine AWp.exit ?_
          obtain rfl := Option.some.inj H
          exact Exists.intro _ (And.intro (fun _ _ h => h.conv (inv := [(0, 0)]) (vk := []) (e0 := []) (t := ⟨[(0, .own 0), (1, iV .i64 a1), (4, .im (.sc (.func (.func 59) #[] #[]))), (11, iV .i64 x1165), (12, iV .i64 x1144)], [(0, some (.row 2 64 (x1142.map etomb_Range)))], 1⟩) (by kernel_rfl)) (And.intro rfl rfl))
    · obtain ⟨x1186, rfl⟩ : ∃ z, z = o1252 := ⟨_, rfl⟩
      rintro e s ⟨rfl, rfl⟩
      refine AWp.seq ?_
      refine AWp.block ?_
      obtain ⟨o1256, e1257, H⟩ := bind_of H
      refine AWp.loop (LWp.conv (inv := [(0, 0)]) (vk := []) (e0 := []) (t := ⟨[(0, .own 0), (1, iV .i64 a1), (4, .im (.sc (.func (.func 59) #[] #[]))), (11, iV .i64 x1186), (12, iV .i64 x1144)], [(0, some (.row 2 64 (x1142.map etomb_Range)))], 1⟩) (by kernel_rfl) ?_)
      refine LWp.mono (Q := fun e s => (match (generalizing := false) o1256 with | x1228 => e = .exit 4 ∧ s = ⟨[(0, .own 0), (1, iV .i64 a1), (4, .im (.sc (.func (.func 59) #[] #[]))), (11, iV .i64 x1186), (12, iV .i64 x1228)], [(0, some (.row 2 64 (x1142.map etomb_Range)))], 1⟩)) (LWp.cv (withBody (fun body hbody => ?_))) ?_
      · refine f_slices_partitionEqualCmpFunc_tomb_Range_tomb_Of_2.l2.partial_correctness a1 x1142 x1186 (motive := fun x1207 o1256 => LWp Γ body (fun e s => ∃ t, Cv Γ s t ∧ (match (generalizing := false) o1256 with | x1228 => e = .exit 4 ∧ t = ⟨[(0, .own 0), (1, iV .i64 a1), (4, .im (.sc (.func (.func 59) #[] #[]))), (11, iV .i64 x1186), (12, iV .i64 x1228)], [(0, some (.row 2 64 (x1142.map etomb_Range)))], 1⟩)) ⟨[(0, .own 0), (1, iV .i64 a1), (4, .im (.sc (.func (.func 59) #[] #[]))), (11, iV .i64 x1186), (12, iV .i64 x1207)], [(0, some (.row 2 64 (x1142.map etomb_Range)))], 1⟩) ?_ _ _ e1257
        clear H e1257 o1256; intro self ih x1207 o1256 H
        subst hbody
        refine LWp.round ?_
        refine AWp.seq ?_
        refine AWp.seq ?_
        obtain ⟨o1258, e1259, H⟩ := bind_of H
        refine AWp.mono (Q := fun e s => (match (generalizing := false) o1258 with | x1226 => e = .normal ∧ s = ⟨[(0, .own 0), (1, iV .i64 a1), (4, .im (.sc (.func (.func 59) #[] #[]))), (11, iV .i64 x1186), (12, iV .i64 x1207), (65, bV x1226)], [(0, some (.row 2 64 (x1142.map etomb_Range)))], 1⟩)) (AWp.cv ?_) ?_
        · replace H := e1259; clear e1259
          rcases Bool.eq_false_or_eq_true (decide (x1186 ≤ x1207)) with c1217 | c1217
          · replace H := (ifT c1217).symm.trans H
            obtain ⟨b1218, p1219, q1220, H⟩ := at_of H
            obtain ⟨b1221, p1222, q1223, H⟩ := at_of H
            obtain ⟨t1224, e1225, H⟩ := bind_of H
            refine reg hP hn hm [(3, .b true), (8, .c (etomb_Range b1218)), (12, .c (etomb_Range b1221)), (13, .call [] [] [] [] 0 (iV .i64 t1224) [])] [0, 1, 4, 11, 12, 54, 55, 56, 57, 58, 59, 60, 61, 62, 63, 64, 65] [0] ⟨[(0, .own 0), (1, iV .i64 a1), (4, .im (.sc (.func (.func 59) #[] #[]))), (11, iV .i64 x1186), (12, iV .i64 x1207), (54, .im (.sc (.func (.func 59) #[] #[]))), (55, .own 0), (56, iV .i64 a1), (57, .ptr 0 (Int.toNat (a1)) 0), (58, .agg (atomb_Range b1218)), (59, .own 0), (60, iV .i64 x1207), (61, .ptr 0 (Int.toNat (x1207)) 0), (62, .agg (atomb_Range b1221)), (63, iV .i64 t1224), (64, bV (decide (t1224 < (0 : Int)))), (65, bV (decide (t1224 < (0 : Int))))], [(0, some (.row 2 64 (x1142.map etomb_Range)))], 1⟩ [(decide (x1186 ≤ x1207)) = true, 0 ≤ a1, a1 < (((x1142.map etomb_Range).length : Nat) : Int), (x1142.map etomb_Range)[(Int.toNat (a1))]? = some (etomb_Range b1218), 0 ≤ x1207, x1207 < (((x1142.map etomb_Range).length : Nat) : Int), (x1142.map etomb_Range)[(Int.toNat (x1207))]? = some (etomb_Range b1221), Enters Try.prog 59, Pv.Fn Try.prog 59 [.agg (atomb_Range b1218), .agg (atomb_Range b1221)] [] 0 (fun r o => r = iV .i64 t1224 ∧ o = [])] (by kernel_rfl) ⟨by exact c1217, by exact p1219, by exact el_lt etomb_Range p1219 q1220, by exact el_map etomb_Range q1220, by exact p1222, by exact el_lt etomb_Range p1222 q1223, by exact el_map etomb_Range q1223, by exact Try.call59, by exact f_tomb_Of_2.ok b1218 b1221 t1224 e1225, trivial⟩ ?_
            obtain rfl := Option.some.inj H
            exact Exists.intro _ (And.intro (fun _ _ h => h.conv (inv := [(0, 0)]) (vk := []) (e0 := []) (t := ⟨[(0, .own 0), (1, iV .i64 a1), (4, .im (.sc (.func (.func 59) #[] #[]))), (11, iV .i64 x1186), (12, iV .i64 x1207), (65, bV (decide (t1224 < (0 : Int))))], [(0, some (.row 2 64 (x1142.map etomb_Range)))], 1⟩) (by kernel_rfl)) (And.intro rfl rfl))
          · replace H := (ifF c1217).symm.trans H
            refine reg hP hn hm [(3, .b false)] [0, 1, 4, 11, 12, 65] [0] ⟨[(0, .own 0), (1, iV .i64 a1), (4, .im (.sc (.func (.func 59) #[] #[]))), (11, iV .i64 x1186), (12, iV .i64 x1207), (65, bV false)], [(0, some (.row 2 64 (x1142.map etomb_Range)))], 1⟩ [(decide (x1186 ≤ x1207)) = false] (by kernel_rfl) ⟨by exact c1217, trivial⟩ ?_
            obtain rfl := Option.some.inj H
            exact Exists.intro _ (And.intro (fun _ _ h => h.conv (inv := [(0, 0)]) (vk := []) (e0 := []) (t := ⟨[(0, .own 0), (1, iV .i64 a1), (4, .im (.sc (.func (.func 59) #[] #[]))), (11, iV .i64 x1186), (12, iV .i64 x1207), (65, bV false)], [(0, some (.row 2 64 (x1142.map etomb_Range)))], 1⟩) (by kernel_rfl)) (And.intro rfl rfl))
        · obtain ⟨x1226, rfl⟩ : ∃ z, z = o1258 := ⟨_, rfl⟩
          rintro e s ⟨rfl, rfl⟩
          refine AWp.cond x1226 rfl (fun c1227 => ?_) (fun c1227 => ?_)
          · replace H := (ifT c1227).symm.trans H
            refine AWp.skip ?_
            refine AWp.block ?_
            refine reg hP hn hm [] [0, 1, 4, 11, 12] [0] ⟨[(0, .own 0), (1, iV .i64 a1), (4, .im (.sc (.func (.func 59) #[] #[]))), (11, iV .i64 x1186), (12, iV .i64 (IntKind.i64.wrap (x1207 - (1 : Int))))], [(0, some (.row 2 64 (x1142.map etomb_Range)))], 1⟩ [] (by kernel_rfl) trivial ?_
            exact LWp.conv (inv := [(0, 0)]) (vk := []) (e0 := []) (t := ⟨[(0, .own 0), (1, iV .i64 a1), (4, .im (.sc (.func (.func 59) #[] #[]))), (11, iV .i64 x1186), (12, iV .i64 (IntKind.i64.wrap (x1207 - (1 : Int))))], [(0, some (.row 2 64 (x1142.map etomb_Range)))], 1⟩) (by kernel_rfl) (ih _ _ H)
          · replace H := (ifF c1227).symm.trans H
            refine AWp.exit ?_
            obtain rfl := Option.some.inj H
            exact Exists.intro _ (And.intro (fun _ _ h => h.conv (inv := [(0, 0)]) (vk := []) (e0 := []) (t := ⟨[(0, .own 0), (1, iV .i64 a1), (4, .im (.sc (.func (.func 59) #[] #[]))), (11, iV .i64 x1186), (12, iV .i64 x1207)], [(0, some (.row 2 64 (x1142.map etomb_Range)))], 1⟩) (by kernel_rfl)) (And.intro rfl rfl))
      · obtain ⟨x1228, rfl⟩ : ∃ z, z = o1256 := ⟨_, rfl⟩
        rintro e s ⟨rfl, rfl⟩
        refine AWp.seq ?_
        refine AWp.seq ?_
        refine reg hP hn hm [] [0, 1, 4, 11, 12, 70] [0] ⟨[(0, .own 0), (1, iV .i64 a1), (4, .im (.sc (.func (.func 59) #[] #[]))), (11, iV .i64 x1186), (12, iV .i64 x1228), (70, bV (decide (x1186 > x1228)))], [(0, some (.row 2 64 (x1142.map etomb_Range)))], 1⟩ [] (by kernel_rfl) trivial ?_
        refine AWp.cond (decide (x1186 > x1228)) rfl (fun c1229 => ?_) (fun c1229 => ?_)
        · replace H := (ifT c1229).symm.trans H
          refine AWp.exit ?_
          obtain rfl := Option.some.inj H
          exact Exists.intro _ (And.intro (fun _ _ h => h.conv (inv := [(0, 0)]) (vk := []) (e0 := []) (t := ⟨[(11, iV .i64 x1186)], [(0, some (.row 2 64 (x1142.map etomb_Range)))], 1⟩) (by kernel_rfl)) (And.intro rfl rfl))
        · replace H := (ifF c1229).symm.trans H
          refine AWp.skip ?_
          refine AWp.seq ?_
          obtain ⟨b1239, p1240, q1241, H⟩ := at_of H
          obtain ⟨b1242, p1243, q1244, H⟩ := at_of H
          obtain ⟨b1245, p1246, q1247, H⟩ := at_of H
          refine reg hP hn hm [(7, .c (etomb_Range b1239)), (11, .c (etomb_Range b1242)), (13, .put (etomb_Range b1242) ((x1142.set (Int.toNat (x1186)) b1239).map etomb_Range)), (15, .put (etomb_Range b1245) (((x1142.set (Int.toNat (x1186)) b1239).set (Int.toNat (x1228)) b1242).map etomb_Range))] [0, 1, 4, 11, 12] [0] ⟨[(0, .own 0), (1, iV .i64 a1), (4, .im (.sc (.func (.func 59) #[] #[]))), (11, iV .i64 x1186), (12, iV .i64 x1228)], [(0, some (.row 2 64 (((x1142.set (Int.toNat (x1186)) b1239).set (Int.toNat (x1228)) b1242).map etomb_Range)))], 1⟩ [0 ≤ x1228, x1228 < (((x1142.map etomb_Range).length : Nat) : Int), (x1142.map etomb_Range)[(Int.toNat (x1228))]? = some (etomb_Range b1239), 0 ≤ x1186, x1186 < (((x1142.map etomb_Range).length : Nat) : Int), (x1142.map etomb_Range)[(Int.toNat (x1186))]? = some (etomb_Range b1242), 0 ≤ x1186, x1186 < (((x1142.map etomb_Range).length : Nat) : Int), (x1142.map etomb_Range)[(Int.toNat (x1186))]? = some (etomb_Range b1242), (x1142.set (Int.toNat (x1186)) b1239).map etomb_Range = (x1142.map etomb_Range).set (Int.toNat (x1186)) (splice (etomb_Range b1242) 0 [iI .i64 b1239.f0, iI .i64 b1239.f1]), 0 ≤ x1228, x1228 < ((((x1142.set (Int.toNat (x1186)) b1239).map etomb_Range).length : Nat) : Int), ((x1142.set (Int.toNat (x1186)) b1239).map etomb_Range)[(Int.toNat (x1228))]? = some (etomb_Range b1245), ((x1142.set (Int.toNat (x1186)) b1239).set (Int.toNat (x1228)) b1242).map etomb_Range = ((x1142.set (Int.toNat (x1186)) b1239).map etomb_Range).set (Int.toNat (x1228)) (splice (etomb_Range b1245) 0 [iI .i64 b1242.f0, iI .i64 b1242.f1])] (by kernel_rfl) ⟨by exact p1240, by exact el_lt etomb_Range p1240 q1241, by exact el_map etomb_Range q1241, by exact p1243, by exact el_lt etomb_Range p1243 q1244, by exact el_map etomb_Range q1244, by exact p1243, by exact el_lt etomb_Range p1243 q1244, by exact el_map etomb_Range q1244, by exact set1 _ _ _ _, by exact p1246, by exact el_lt etomb_Range p1246 q1247, by exact el_map etomb_Range q1247, by exact set1 _ _ _ _, trivial⟩ ?_
          refine AWp.seq ?_
          refine reg hP hn hm [] [0, 1, 4, 11, 12] [0] ⟨[(0, .own 0), (1, iV .i64 a1), (4, .im (.sc (.func (.func 59) #[] #[]))), (11, iV .i64 (IntKind.i64.wrap (x1186 + (1 : Int)))), (12, iV .i64 x1228)], [(0, some (.row 2 64 (((x1142.set (Int.toNat (x1186)) b1239).set (Int.toNat (x1228)) b1242).map etomb_Range)))], 1⟩ [] (by kernel_rfl) trivial ?_
          refine reg hP hn hm [] [0, 1, 4, 11, 12] [0] ⟨[(0, .own 0), (1, iV .i64 a1), (4, .im (.sc (.func (.func 59) #[] #[]))), (11, iV .i64 (IntKind.i64.wrap (x1186 + (1 : Int)))), (12, iV .i64 (IntKind.i64.wrap (x1228 - (1 : Int))))], [(0, some (.row 2 64 (((x1142.set (Int.toNat (x1186)) b1239).set (Int.toNat (x1228)) b1242).map etomb_Range)))], 1⟩ [] (by kernel_rfl) trivial ?_
          exact LWp.conv (inv := [(0, 0)]) (vk := []) (e0 := []) (t := ⟨[(0, .own 0), (1, iV .i64 a1), (4, .im (.sc (.func (.func 59) #[] #[]))), (11, iV .i64 (IntKind.i64.wrap (x1186 + (1 : Int)))), (12, iV .i64 (IntKind.i64.wrap (x1228 - (1 : Int))))], [(0, some (.row 2 64 (((x1142.set (Int.toNat (x1186)) b1239).set (Int.toNat (x1228)) b1242).map etomb_Range)))], 1⟩) (by kernel_rfl) (ih _ _ _ _ H)
  · obtain ⟨x1248, x1249⟩ := o1250
    rintro e s ⟨rfl, rfl⟩
    refine AWp.seq ?_
    refine reg hP hn hm [] [10] [0] ⟨[(10, iV .i64 x1248)], [(0, some (.row 2 64 (x1249.map etomb_Range)))], 1⟩ [] (by kernel_rfl) trivial ?_
    refine AWp.conv (inv := [(0, 0)]) (vk := []) (e0 := []) (t := ⟨[(10, iV .i64 x1248)], [(0, some (.row 2 64 (x1249.map etomb_Range)))], 1⟩) (by kernel_rfl) ?_
    refine AWp.ret ?_
    obtain rfl := Option.some.inj H
    exact Exists.intro _ (And.intro (fun _ _ h => h) (And.intro (.inl rfl) (And.intro rfl (And.intro (by kernel_rfl) (by kernel_rfl)))))
end Go.Proofs.Yteogljahemehkaa.PvGC1
