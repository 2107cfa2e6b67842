import Derived.Test.YteogljahemehkaaProg
import Derived.Test.YteogljahemehkaaPxRankBelow04
set_option linter.unusedVariables false
set_option linter.unnecessarySimpa false
set_option linter.unusedSimpArgs false
set_option maxRecDepth 10000
namespace Go.Proofs.Yteogljahemehkaa.PvGC
open Go Go.Pv
structure TBucket where
  f0 : Int
  f1 : Int
  deriving DecidableEq, Inhabited
abbrev eBucket (x : TBucket) : List Im := [iI .i64 x.f0, iI .u64 x.f1]
abbrev aBucket (x : TBucket) : List AVal := [iV .i64 x.f0, iV .u64 x.f1]
structure RBucket (x : TBucket) : Prop where
  r0 : I64 x.f0
  r1 : U64 x.f1
structure THist where
  f0 : Int
  f1 : Int
  f2 : Int
  f3 : Int
  f4 : Int
  f5 : Int
  f6 : List TBucket
  f7 : List TBucket
  deriving DecidableEq, Inhabited
abbrev eHist (x : THist) : List Im := [iI .i64 x.f0, iI .i64 x.f1, iI .i64 x.f2, iI .u64 x.f3, iI .u64 x.f4, iI .i64 x.f5, .row (x.f6.map eBucket), .row (x.f7.map eBucket)]
abbrev aHist (x : THist) : List AVal := [iV .i64 x.f0, iV .i64 x.f1, iV .i64 x.f2, iV .u64 x.f3, iV .u64 x.f4, iV .i64 x.f5, .im (.row (x.f6.map eBucket)), .im (.row (x.f7.map eBucket))]
structure RHist (x : THist) : Prop where
  r0 : I64 x.f0
  r1 : I64 x.f1
  r2 : I64 x.f2
  r3 : U64 x.f3
  r4 : U64 x.f4
  r5 : I64 x.f5
  r6 : x.f6.length ≤ maxLen ∧ ∀ y ∈ x.f6, RBucket y
  r7 : x.f7.length ≤ maxLen ∧ ∀ y ∈ x.f7, RBucket y
structure Tnum_Wide where
  f0 : Int
  f1 : Int
  deriving DecidableEq, Inhabited
abbrev anum_Wide (x : Tnum_Wide) : List AVal := [iV .u64 x.f0, iV .u64 x.f1]
structure Rnum_Wide (x : Tnum_Wide) : Prop where
  r0 : U64 x.f0
  r1 : U64 x.f1
structure Tbound_Key where
  f0 : Int
  f1 : Int
  f2 : Int
  deriving DecidableEq, Inhabited
abbrev abound_Key (x : Tbound_Key) : List AVal := [iV .i64 x.f0, iV .i64 x.f1, iV .i64 x.f2]
structure Rbound_Key (x : Tbound_Key) : Prop where
  r0 : I64 x.f0
  r1 : I64 x.f1
  r2 : I64 x.f2
structure Trank_Cell where
  f0 : Tbound_Key
  f1 : Int
  deriving DecidableEq, Inhabited
abbrev erank_Cell (x : Trank_Cell) : List Im := [iI .i64 x.f0.f0, iI .i64 x.f0.f1, iI .i64 x.f0.f2, iI .u64 x.f1]
structure Rrank_Cell (x : Trank_Cell) : Prop where
  r0 : Rbound_Key x.f0
  r1 : U64 x.f1
structure Tpluvialref08_Cell where
  f0 : Int
  f1 : Int
  f2 : Int
  f3 : Int
  deriving DecidableEq, Inhabited
abbrev epluvialref08_Cell (x : Tpluvialref08_Cell) : List Im := [iI .i64 x.f0, iI .i64 x.f1, iI .i64 x.f2, iI .u64 x.f3]
abbrev apluvialref08_Cell (x : Tpluvialref08_Cell) : List AVal := [iV .i64 x.f0, iV .i64 x.f1, iV .i64 x.f2, iV .u64 x.f3]
structure Rpluvialref08_Cell (x : Tpluvialref08_Cell) : Prop where
  r0 : I64 x.f0
  r1 : I64 x.f1
  r2 : I64 x.f2
  r3 : U64 x.f3
structure Trank_Place where
  f0 : Int
  f1 : Int
  deriving DecidableEq, Inhabited
abbrev erank_Place (x : Trank_Place) : List Im := [iI .i64 x.f0, iI .i64 x.f1]
abbrev arank_Place (x : Trank_Place) : List AVal := [iV .i64 x.f0, iV .i64 x.f1]
structure Rrank_Place (x : Trank_Place) : Prop where
  r0 : I64 x.f0
  r1 : I64 x.f1
structure Trank_Part where
  f0 : Int
  f1 : Int
  f2 : Int
  deriving DecidableEq, Inhabited
abbrev arank_Part (x : Trank_Part) : List AVal := [iV .u64 x.f0, iV .u64 x.f1, iV .u64 x.f2]
structure Rrank_Part (x : Trank_Part) : Prop where
  r0 : U64 x.f0
  r1 : U64 x.f1
  r2 : U64 x.f2
def f_pluvialref04_Right.f (a0 : Int) : Option (Bool) := ((if (decide (a0 ≥ (-4))) = true then (some (decide (a0 ≤ (8 : Int)))) else (some false)) : Option (Bool)) >>= fun x9 => some x9
theorem f_pluvialref04_Right.ok (a0 : Int) (r : Bool) (H : f_pluvialref04_Right.f a0 = some r) : Pv.Fn Try.prog 98 [iV .i64 a0] [] 0 (fun x o => x = bV r ∧ o = []) := by
  unfold f_pluvialref04_Right.f at H
  refine Fn.bodyK [] Try.func98 rfl rfl (fun Γ hP hn => ?_)
  have hm : Try.prog.follows .mixedOrders = true := by kernel_rfl
  replace hn : Γ.n = 9 := hn
  refine AWp.seq ?_
  refine reg hP hn hm [] [0] [] ⟨[(0, iV .i64 a0)], [], 0⟩ [] (by kernel_rfl) trivial ?_
  refine AWp.seq ?_
  obtain ⟨o10, e11, H⟩ := bind_of H
  refine AWp.mono (Q := fun e s => (match (generalizing := false) o10 with | x9 => e = .normal ∧ s = ⟨[(2, bV x9)], [], 0⟩)) (AWp.cv ?_) ?_
  · replace H := e11; clear e11
    rcases Bool.eq_false_or_eq_true (decide (a0 ≥ (-4))) with c8 | c8
    · replace H := (ifT c8).symm.trans H
      refine reg hP hn hm [(2, .b true)] [2] [] ⟨[(2, bV (decide (a0 ≤ (8 : Int))))], [], 0⟩ [(decide (a0 ≥ (-4))) = true] (by kernel_rfl) ⟨by exact c8, trivial⟩ ?_
      obtain rfl := Option.some.inj H
      exact Exists.intro _ (And.intro (fun _ _ h => h.conv (inv := []) (vk := []) (e0 := []) (t := ⟨[(2, bV (decide (a0 ≤ (8 : Int))))], [], 0⟩) (by kernel_rfl)) (And.intro rfl rfl))
    · replace H := (ifF c8).symm.trans H
      refine reg hP hn hm [(2, .b false)] [2] [] ⟨[(2, bV false)], [], 0⟩ [(decide (a0 ≥ (-4))) = false] (by kernel_rfl) ⟨by exact c8, trivial⟩ ?_
      obtain rfl := Option.some.inj H
      exact Exists.intro _ (And.intro (fun _ _ h => h.conv (inv := []) (vk := []) (e0 := []) (t := ⟨[(2, bV false)], [], 0⟩) (by kernel_rfl)) (And.intro rfl rfl))
  · obtain ⟨x9, rfl⟩ : ∃ z, z = o10 := ⟨_, rfl⟩
    rintro e s ⟨rfl, rfl⟩
    refine AWp.conv (inv := []) (vk := []) (e0 := []) (t := ⟨[(2, bV x9)], [], 0⟩) (by kernel_rfl) ?_
    refine AWp.ret ?_
    obtain rfl := Option.some.inj H
    exact Exists.intro _ (And.intro (fun _ _ h => h) (And.intro (.inl rfl) (And.intro rfl (And.intro (by kernel_rfl) (by kernel_rfl)))))
def f_pluvialref04_step.l0 (x39 : Int) (x40 : Int) : Option (Int) := if (decide (x40 < (8 : Int))) = true then (f_pluvialref04_step.l0  (IntKind.i64.wrap (x39 * (2 : Int))) (IntKind.i64.wrap (x40 + (1 : Int)))) else (some x39)
partial_fixpoint
def f_pluvialref04_step.f (a0 : Int) : Option (Int) := (f_pluvialref04_step.l0  1 a0) >>= fun x42 => some x42
theorem f_pluvialref04_step.ok (a0 : Int) (r : Int) (H : f_pluvialref04_step.f a0 = some r) : Pv.Fn Try.prog 130 [iV .i64 a0] [] 0 (fun x o => x = iV .i64 r ∧ o = []) := by
  unfold f_pluvialref04_step.f at H
  refine Fn.bodyK [] Try.func130 rfl rfl (fun Γ hP hn => ?_)
  have hm : Try.prog.follows .mixedOrders = true := by kernel_rfl
  replace hn : Γ.n = 13 := hn
  refine AWp.seq ?_
  refine reg hP hn hm [] [0] [] ⟨[(0, iV .i64 a0)], [], 0⟩ [] (by kernel_rfl) trivial ?_
  refine AWp.seq ?_
  refine reg hP hn hm [] [0, 3] [] ⟨[(0, iV .i64 a0), (3, iV .i64 1)], [], 0⟩ [] (by kernel_rfl) trivial ?_
  refine AWp.seq ?_
  refine AWp.seq ?_
  refine reg hP hn hm [] [3, 4] [] ⟨[(3, iV .i64 1), (4, iV .i64 a0)], [], 0⟩ [] (by kernel_rfl) trivial ?_
  refine AWp.block ?_
  obtain ⟨o43, e44, H⟩ := bind_of H
  refine AWp.loop (LWp.conv (inv := []) (vk := []) (e0 := []) (t := ⟨[(3, iV .i64 1), (4, iV .i64 a0)], [], 0⟩) (by kernel_rfl) ?_)
  refine LWp.mono (Q := fun e s => (match (generalizing := false) o43 with | x42 => e = .exit 0 ∧ s = ⟨[(3, iV .i64 x42)], [], 0⟩)) (LWp.cv (withBody (fun body hbody => ?_))) ?_
  · refine f_pluvialref04_step.l0.partial_correctness  (motive := fun x39 x40 o43 => LWp Γ body (fun e s => ∃ t, Cv Γ s t ∧ (match (generalizing := false) o43 with | x42 => e = .exit 0 ∧ t = ⟨[(3, iV .i64 x42)], [], 0⟩)) ⟨[(3, iV .i64 x39), (4, iV .i64 x40)], [], 0⟩) ?_ _ _ _ e44
    clear H e44 o43; intro self ih x39 x40 o43 H
    subst hbody
    refine LWp.round ?_
    refine AWp.seq ?_
    refine AWp.seq ?_
    refine reg hP hn hm [] [3, 4, 7] [] ⟨[(3, iV .i64 x39), (4, iV .i64 x40), (7, bV (decide (x40 < (8 : Int))))], [], 0⟩ [] (by kernel_rfl) trivial ?_
    refine AWp.cond (decide (x40 < (8 : Int))) rfl (fun c41 => ?_) (fun c41 => ?_)
    · replace H := (ifT c41).symm.trans H
      refine AWp.skip ?_
      refine AWp.seq ?_
      refine AWp.block ?_
      refine reg hP hn hm [] [3, 4] [] ⟨[(3, iV .i64 (IntKind.i64.wrap (x39 * (2 : Int)))), (4, iV .i64 x40)], [], 0⟩ [] (by kernel_rfl) trivial ?_
      refine reg hP hn hm [] [3, 4] [] ⟨[(3, iV .i64 (IntKind.i64.wrap (x39 * (2 : Int)))), (4, iV .i64 (IntKind.i64.wrap (x40 + (1 : Int))))], [], 0⟩ [] (by kernel_rfl) trivial ?_
      exact LWp.conv (inv := []) (vk := []) (e0 := []) (t := ⟨[(3, iV .i64 (IntKind.i64.wrap (x39 * (2 : Int)))), (4, iV .i64 (IntKind.i64.wrap (x40 + (1 : Int))))], [], 0⟩) (by kernel_rfl) (ih _ _ _ H)
    · replace H := (ifF c41).symm.trans H
      refine AWp.exit ?_
      obtain rfl := Option.some.inj H
      exact Exists.intro _ (And.intro (fun _ _ h => h.conv (inv := []) (vk := []) (e0 := []) (t := ⟨[(3, iV .i64 x39)], [], 0⟩) (by kernel_rfl)) (And.intro rfl rfl))
  · obtain ⟨x42, rfl⟩ : ∃ z, z = o43 := ⟨_, rfl⟩
    rintro e s ⟨rfl, rfl⟩
    refine AWp.seq ?_
    refine reg hP hn hm [] [2] [] ⟨[(2, iV .i64 x42)], [], 0⟩ [] (by kernel_rfl) trivial ?_
    refine AWp.conv (inv := []) (vk := []) (e0 := []) (t := ⟨[(2, iV .i64 x42)], [], 0⟩) (by kernel_rfl) ?_
    refine AWp.ret ?_
    obtain rfl := Option.some.inj H
    exact Exists.intro _ (And.intro (fun _ _ h => h) (And.intro (.inl rfl) (And.intro rfl (And.intro (by kernel_rfl) (by kernel_rfl)))))
def f_pluvialref04_Units.f (a0 : Int) (a1 : Int) : Option (Int) := (f_pluvialref04_Right.f a0) >>= fun t35 => if (!t35) = true then (some 0) else ((f_pluvialref04_step.f a0) >>= fun t47 => some (IntKind.i64.wrap (a1 * t47)))
theorem f_pluvialref04_Units.ok (a0 : Int) (a1 : Int) (r : Int) (H : f_pluvialref04_Units.f a0 a1 = some r) : Pv.Fn Try.prog 100 [iV .i64 a0, iV .i64 a1] [] 0 (fun x o => x = iV .i64 r ∧ o = []) := by
  unfold f_pluvialref04_Units.f at H
  refine Fn.bodyK [] Try.func100 rfl rfl (fun Γ hP hn => ?_)
  have hm : Try.prog.follows .mixedOrders = true := by kernel_rfl
  replace hn : Γ.n = 12 := hn
  refine AWp.seq ?_
  refine reg hP hn hm [] [0, 1] [] ⟨[(0, iV .i64 a0), (1, iV .i64 a1)], [], 0⟩ [] (by kernel_rfl) trivial ?_
  refine AWp.seq ?_
  refine AWp.seq ?_
  obtain ⟨t35, e36, H⟩ := bind_of H
  refine reg hP hn hm [(1, .call [] [] [] [] 0 (bV t35) [])] [0, 1, 7] [] ⟨[(0, iV .i64 a0), (1, iV .i64 a1), (7, bV (!t35))], [], 0⟩ [Enters Try.prog 98, Pv.Fn Try.prog 98 [iV .i64 a0] [] 0 (fun r o => r = bV t35 ∧ o = [])] (by kernel_rfl) ⟨by exact Try.call98, by exact f_pluvialref04_Right.ok a0 t35 e36, trivial⟩ ?_
  refine AWp.cond (!t35) rfl (fun c37 => ?_) (fun c37 => ?_)
  · replace H := (ifT c37).symm.trans H
    refine AWp.seq ?_
    refine reg hP hn hm [] [4] [] ⟨[(4, iV .i64 0)], [], 0⟩ [] (by kernel_rfl) trivial ?_
    refine AWp.conv (inv := []) (vk := []) (e0 := []) (t := ⟨[(4, iV .i64 0)], [], 0⟩) (by kernel_rfl) ?_
    refine AWp.ret ?_
    obtain rfl := Option.some.inj H
    exact Exists.intro _ (And.intro (fun _ _ h => h) (And.intro (.inl rfl) (And.intro rfl (And.intro (by kernel_rfl) (by kernel_rfl)))))
  · replace H := (ifF c37).symm.trans H
    refine AWp.skip ?_
    refine AWp.seq ?_
    obtain ⟨t47, e48, H⟩ := bind_of H
    refine reg hP hn hm [(2, .call [] [] [] [] 0 (iV .i64 t47) [])] [4] [] ⟨[(4, iV .i64 (IntKind.i64.wrap (a1 * t47)))], [], 0⟩ [Enters Try.prog 130, Pv.Fn Try.prog 130 [iV .i64 a0] [] 0 (fun r o => r = iV .i64 t47 ∧ o = [])] (by kernel_rfl) ⟨by exact Try.call130, by exact f_pluvialref04_step.ok a0 t47 e48, trivial⟩ ?_
    refine AWp.conv (inv := []) (vk := []) (e0 := []) (t := ⟨[(4, iV .i64 (IntKind.i64.wrap (a1 * t47)))], [], 0⟩) (by kernel_rfl) ?_
    refine AWp.ret ?_
    obtain rfl := Option.some.inj H
    exact Exists.intro _ (And.intro (fun _ _ h => h) (And.intro (.inl rfl) (And.intro rfl (And.intro (by kernel_rfl) (by kernel_rfl)))))
def f_pluvialref04_In.f (a0 : Int) (a1 : Int) : Option (Bool) := (((f_pluvialref04_Right.f a0) >>= fun t54 => if t54 = true then (if (decide (a1 > (-262144))) = true then (if (decide (a1 ≤ (262144 : Int))) = true then ((f_pluvialref04_Units.f a0 a1) >>= fun t59 => if (decide (t59 > (-262144))) = true then ((f_pluvialref04_Units.f a0 a1) >>= fun t62 => some (decide (t62 ≤ (262144 : Int)))) else (some false)) else (some false)) else (some false)) else (some false)) : Option (Bool)) >>= fun x64 => some x64
theorem f_pluvialref04_In.ok (a0 : Int) (a1 : Int) (r : Bool) (H : f_pluvialref04_In.f a0 a1 = some r) : Pv.Fn Try.prog 99 [iV .i64 a0, iV .i64 a1] [] 0 (fun x o => x = bV r ∧ o = []) := by
  unfold f_pluvialref04_In.f at H
  refine Fn.bodyK [] Try.func99 rfl rfl (fun Γ hP hn => ?_)
  have hm : Try.prog.follows .mixedOrders = true := by kernel_rfl
  replace hn : Γ.n = 27 := hn
  refine AWp.seq ?_
  refine reg hP hn hm [] [0, 1] [] ⟨[(0, iV .i64 a0), (1, iV .i64 a1)], [], 0⟩ [] (by kernel_rfl) trivial ?_
  refine AWp.seq ?_
  obtain ⟨o65, e66, H⟩ := bind_of H
  refine AWp.mono (Q := fun e s => (match (generalizing := false) o65 with | x64 => e = .normal ∧ s = ⟨[(4, bV x64)], [], 0⟩)) (AWp.cv ?_) ?_
  · replace H := e66; clear e66
    obtain ⟨t54, e55, H⟩ := bind_of H
    rcases Bool.eq_false_or_eq_true t54 with c56 | c56
    · replace H := (ifT c56).symm.trans H
      rcases Bool.eq_false_or_eq_true (decide (a1 > (-262144))) with c57 | c57
      · replace H := (ifT c57).symm.trans H
        rcases Bool.eq_false_or_eq_true (decide (a1 ≤ (262144 : Int))) with c58 | c58
        · replace H := (ifT c58).symm.trans H
          obtain ⟨t59, e60, H⟩ := bind_of H
          rcases Bool.eq_false_or_eq_true (decide (t59 > (-262144))) with c61 | c61
          · replace H := (ifT c61).symm.trans H
            obtain ⟨t62, e63, H⟩ := bind_of H
            refine reg hP hn hm [(1, .call [] [] [] [] 0 (bV t54) []), (2, .b true), (6, .b true), (10, .b true), (13, .call [] [] [] [] 0 (iV .i64 t59) []), (16, .b true), (19, .call [] [] [] [] 0 (iV .i64 t62) [])] [4] [] ⟨[(4, bV (decide (t62 ≤ (262144 : Int))))], [], 0⟩ [Enters Try.prog 98, Pv.Fn Try.prog 98 [iV .i64 a0] [] 0 (fun r o => r = bV t54 ∧ o = []), t54 = true, (decide (a1 > (-262144))) = true, (decide (a1 ≤ (262144 : Int))) = true, Enters Try.prog 100, Pv.Fn Try.prog 100 [iV .i64 a0, iV .i64 a1] [] 0 (fun r o => r = iV .i64 t59 ∧ o = []), (decide (t59 > (-262144))) = true, Enters Try.prog 100, Pv.Fn Try.prog 100 [iV .i64 a0, iV .i64 a1] [] 0 (fun r o => r = iV .i64 t62 ∧ o = [])] (by kernel_rfl) ⟨by exact Try.call98, by exact f_pluvialref04_Right.ok a0 t54 e55, by exact c56, by exact c57, by exact c58, by exact Try.call100, by exact f_pluvialref04_Units.ok a0 a1 t59 e60, by exact c61, by exact Try.call100, by exact f_pluvialref04_Units.ok a0 a1 t62 e63, trivial⟩ ?_
            obtain rfl := Option.some.inj H
            exact Exists.intro _ (And.intro (fun _ _ h => h.conv (inv := []) (vk := []) (e0 := []) (t := ⟨[(4, bV (decide (t62 ≤ (262144 : Int))))], [], 0⟩) (by kernel_rfl)) (And.intro rfl rfl))
          · replace H := (ifF c61).symm.trans H
            refine reg hP hn hm [(1, .call [] [] [] [] 0 (bV t54) []), (2, .b true), (6, .b true), (10, .b true), (13, .call [] [] [] [] 0 (iV .i64 t59) []), (16, .b false)] [4] [] ⟨[(4, bV false)], [], 0⟩ [Enters Try.prog 98, Pv.Fn Try.prog 98 [iV .i64 a0] [] 0 (fun r o => r = bV t54 ∧ o = []), t54 = true, (decide (a1 > (-262144))) = true, (decide (a1 ≤ (262144 : Int))) = true, Enters Try.prog 100, Pv.Fn Try.prog 100 [iV .i64 a0, iV .i64 a1] [] 0 (fun r o => r = iV .i64 t59 ∧ o = []), (decide (t59 > (-262144))) = false] (by kernel_rfl) ⟨by exact Try.call98, by exact f_pluvialref04_Right.ok a0 t54 e55, by exact c56, by exact c57, by exact c58, by exact Try.call100, by exact f_pluvialref04_Units.ok a0 a1 t59 e60, by exact c61, trivial⟩ ?_
            obtain rfl := Option.some.inj H
            exact Exists.intro _ (And.intro (fun _ _ h => h.conv (inv := []) (vk := []) (e0 := []) (t := ⟨[(4, bV false)], [], 0⟩) (by kernel_rfl)) (And.intro rfl rfl))
        · replace H := (ifF c58).symm.trans H
          refine reg hP hn hm [(1, .call [] [] [] [] 0 (bV t54) []), (2, .b true), (6, .b true), (10, .b false)] [4] [] ⟨[(4, bV false)], [], 0⟩ [Enters Try.prog 98, Pv.Fn Try.prog 98 [iV .i64 a0] [] 0 (fun r o => r = bV t54 ∧ o = []), t54 = true, (decide (a1 > (-262144))) = true, (decide (a1 ≤ (262144 : Int))) = false] (by kernel_rfl) ⟨by exact Try.call98, by exact f_pluvialref04_Right.ok a0 t54 e55, by exact c56, by exact c57, by exact c58, trivial⟩ ?_
          obtain rfl := Option.some.inj H
          exact Exists.intro _ (And.intro (fun _ _ h => h.conv (inv := []) (vk := []) (e0 := []) (t := ⟨[(4, bV false)], [], 0⟩) (by kernel_rfl)) (And.intro rfl rfl))
      · replace H := (ifF c57).symm.trans H
        refine reg hP hn hm [(1, .call [] [] [] [] 0 (bV t54) []), (2, .b true), (6, .b false)] [4] [] ⟨[(4, bV false)], [], 0⟩ [Enters Try.prog 98, Pv.Fn Try.prog 98 [iV .i64 a0] [] 0 (fun r o => r = bV t54 ∧ o = []), t54 = true, (decide (a1 > (-262144))) = false] (by kernel_rfl) ⟨by exact Try.call98, by exact f_pluvialref04_Right.ok a0 t54 e55, by exact c56, by exact c57, trivial⟩ ?_
        obtain rfl := Option.some.inj H
        exact Exists.intro _ (And.intro (fun _ _ h => h.conv (inv := []) (vk := []) (e0 := []) (t := ⟨[(4, bV false)], [], 0⟩) (by kernel_rfl)) (And.intro rfl rfl))
    · replace H := (ifF c56).symm.trans H
      refine reg hP hn hm [(1, .call [] [] [] [] 0 (bV t54) []), (2, .b false)] [4] [] ⟨[(4, bV false)], [], 0⟩ [Enters Try.prog 98, Pv.Fn Try.prog 98 [iV .i64 a0] [] 0 (fun r o => r = bV t54 ∧ o = []), t54 = false] (by kernel_rfl) ⟨by exact Try.call98, by exact f_pluvialref04_Right.ok a0 t54 e55, by exact c56, trivial⟩ ?_
      obtain rfl := Option.some.inj H
      exact Exists.intro _ (And.intro (fun _ _ h => h.conv (inv := []) (vk := []) (e0 := []) (t := ⟨[(4, bV false)], [], 0⟩) (by kernel_rfl)) (And.intro rfl rfl))
  · obtain ⟨x64, rfl⟩ : ∃ z, z = o65 := ⟨_, rfl⟩
    rintro e s ⟨rfl, rfl⟩
    refine AWp.conv (inv := []) (vk := []) (e0 := []) (t := ⟨[(4, bV x64)], [], 0⟩) (by kernel_rfl) ?_
    refine AWp.ret ?_
    obtain rfl := Option.some.inj H
    exact Exists.intro _ (And.intro (fun _ _ h => h) (And.intro (.inl rfl) (And.intro rfl (And.intro (by kernel_rfl) (by kernel_rfl)))))
def f_pluvialref01_Add.l0 (a0 : List Int) (x184 : Int) (x185 : Int) : Option ((Int × Int) ⊕ Int) := if (decide (x185 < (a0.length : Int))) = true then ((at? a0 x185) >>= fun b190 => if (decide (b190 > (IntKind.u64.wrap ((18446744073709551615 : Int) - x184)))) = true then (some (.inl (0, 5))) else (f_pluvialref01_Add.l0 a0 (IntKind.u64.wrap (x184 + b190)) (IntKind.i64.wrap (x185 + (1 : Int))))) else (some (.inr x184))
partial_fixpoint
def f_pluvialref01_Add.f (a0 : List Int) : Option (Int × Int) := (f_pluvialref01_Add.l0 a0 0 0) >>= fun oo => match oo with | .inl rr => (some rr) | .inr x194 => (some (x194, 0))
theorem f_pluvialref01_Add.ok (a0 : List Int) (r : Int × Int) (H : f_pluvialref01_Add.f a0 = some r) : Pv.Fn Try.prog 101 [.im (.row (a0.map (encInt .u64)))] [] 0 (fun x o => x = .tup [iV .u64 r.1, iV .i64 r.2] ∧ o = []) := by
  unfold f_pluvialref01_Add.f at H
  refine Fn.bodyK [] Try.func101 rfl rfl (fun Γ hP hn => ?_)
  have hm : Try.prog.follows .mixedOrders = true := by kernel_rfl
  replace hn : Γ.n = 26 := hn
  refine AWp.seq ?_
  refine reg hP hn hm [] [0] [] ⟨[(0, .im (.row (a0.map (encInt .u64))))], [], 0⟩ [] (by kernel_rfl) trivial ?_
  refine AWp.seq ?_
  refine reg hP hn hm [] [0, 4] [] ⟨[(0, .im (.row (a0.map (encInt .u64)))), (4, iV .u64 0)], [], 0⟩ [] (by kernel_rfl) trivial ?_
  refine AWp.seq ?_
  refine AWp.seq ?_
  refine reg hP hn hm [] [0, 4, 5] [] ⟨[(0, .im (.row (a0.map (encInt .u64)))), (4, iV .u64 0), (5, iV .i64 0)], [], 0⟩ [] (by kernel_rfl) trivial ?_
  refine AWp.block ?_
  obtain ⟨o195, e196, H⟩ := bind_of H
  refine AWp.loop (LWp.conv (inv := []) (vk := []) (e0 := []) (t := ⟨[(0, .im (.row (a0.map (encInt .u64)))), (4, iV .u64 0), (5, iV .i64 0)], [], 0⟩) (by kernel_rfl) ?_)
  refine LWp.mono (Q := fun e s => (match (generalizing := false) o195 with | .inl rr => e = .ret ∧ s.floor = 0 ∧ resOf Try.prog Try.f101 s = some (.tup [iV .u64 rr.1, iV .i64 rr.2]) ∧ ([] : List (Nat × Option MObj)) = [] | .inr x194 => e = .exit 0 ∧ s = ⟨[(4, iV .u64 x194)], [], 0⟩)) (LWp.cv (withBody (fun body hbody => ?_))) ?_
  · refine f_pluvialref01_Add.l0.partial_correctness a0 (motive := fun x184 x185 o195 => LWp Γ body (fun e s => ∃ t, Cv Γ s t ∧ (match (generalizing := false) o195 with | .inl rr => e = .ret ∧ t.floor = 0 ∧ resOf Try.prog Try.f101 t = some (.tup [iV .u64 rr.1, iV .i64 rr.2]) ∧ ([] : List (Nat × Option MObj)) = [] | .inr x194 => e = .exit 0 ∧ t = ⟨[(4, iV .u64 x194)], [], 0⟩)) ⟨[(0, .im (.row (a0.map (encInt .u64)))), (4, iV .u64 x184), (5, iV .i64 x185)], [], 0⟩) ?_ _ _ _ e196
    clear H e196 o195; intro self ih x184 x185 o195 H
    subst hbody
    refine LWp.round ?_
    refine AWp.seq ?_
    refine AWp.seq ?_
    refine reg hP hn hm [(2, .any (iV .i64 (a0.length : Int)))] [0, 4, 5, 9] [] ⟨[(0, .im (.row (a0.map (encInt .u64)))), (4, iV .u64 x184), (5, iV .i64 x185), (9, bV (decide (x185 < (a0.length : Int))))], [], 0⟩ [((a0.map (encInt .u64)).length : Int) = (a0.length : Int)] (by kernel_rfl) ⟨by rw [len_map], trivial⟩ ?_
    refine AWp.cond (decide (x185 < (a0.length : Int))) rfl (fun c186 => ?_) (fun c186 => ?_)
    · replace H := (ifT c186).symm.trans H
      refine AWp.skip ?_
      refine AWp.seq ?_
      refine AWp.block ?_
      refine AWp.seq ?_
      refine AWp.seq ?_
      obtain ⟨b190, p191, q192, H⟩ := at_of H
      refine reg hP hn hm [(2, .c ((encInt .u64) b190))] [0, 4, 5, 18] [] ⟨[(0, .im (.row (a0.map (encInt .u64)))), (4, iV .u64 x184), (5, iV .i64 x185), (18, bV (decide (b190 > (IntKind.u64.wrap ((18446744073709551615 : Int) - x184)))))], [], 0⟩ [0 ≤ x185, (a0.map (encInt .u64))[(Int.toNat (x185))]? = some ((encInt .u64) b190)] (by kernel_rfl) ⟨by exact p191, by exact el_map (encInt .u64) q192, trivial⟩ ?_
      refine AWp.cond (decide (b190 > (IntKind.u64.wrap ((18446744073709551615 : Int) - x184)))) rfl (fun c193 => ?_) (fun c193 => ?_)
      · replace H := (ifT c193).symm.trans H
        refine AWp.seq ?_
        refine reg hP hn hm [] [2, 3] [] ⟨[(2, iV .u64 0), (3, iV .i64 5)], [], 0⟩ [] (by kernel_rfl) trivial ?_
        refine AWp.conv (inv := []) (vk := []) (e0 := []) (t := ⟨[(2, iV .u64 0), (3, iV .i64 5)], [], 0⟩) (by kernel_rfl) ?_
        refine AWp.ret ?_
        obtain rfl := Option.some.inj H
        exact Exists.intro _ (And.intro (fun _ _ h => h) (And.intro rfl (And.intro rfl (And.intro (by kernel_rfl) (by kernel_rfl)))))
      · replace H := (ifF c193).symm.trans H
        refine AWp.skip ?_
        refine reg hP hn hm [(3, .c ((encInt .u64) b190))] [0, 4, 5] [] ⟨[(0, .im (.row (a0.map (encInt .u64)))), (4, iV .u64 (IntKind.u64.wrap (x184 + b190))), (5, iV .i64 x185)], [], 0⟩ [0 ≤ x185, (a0.map (encInt .u64))[(Int.toNat (x185))]? = some ((encInt .u64) b190)] (by kernel_rfl) ⟨by exact p191, by exact el_map (encInt .u64) q192, trivial⟩ ?_
        refine reg hP hn hm [] [0, 4, 5] [] ⟨[(0, .im (.row (a0.map (encInt .u64)))), (4, iV .u64 (IntKind.u64.wrap (x184 + b190))), (5, iV .i64 (IntKind.i64.wrap (x185 + (1 : Int))))], [], 0⟩ [] (by kernel_rfl) trivial ?_
        exact LWp.conv (inv := []) (vk := []) (e0 := []) (t := ⟨[(0, .im (.row (a0.map (encInt .u64)))), (4, iV .u64 (IntKind.u64.wrap (x184 + b190))), (5, iV .i64 (IntKind.i64.wrap (x185 + (1 : Int))))], [], 0⟩) (by kernel_rfl) (ih _ _ _ H)
    · replace H := (ifF c186).symm.trans H
      refine AWp.exit ?_
      obtain rfl := Option.some.inj H
      exact Exists.intro _ (And.intro (fun _ _ h => h.conv (inv := []) (vk := []) (e0 := []) (t := ⟨[(4, iV .u64 x184)], [], 0⟩) (by kernel_rfl)) (And.intro rfl rfl))
  · rcases o195 with rr | x194
    · skip
      rintro e s ⟨rfl, hfl, hres⟩
      obtain rfl := Option.some.inj H
      exact Exists.intro _ (And.intro (fun _ _ h => h) (And.intro (.inl rfl) (And.intro hfl hres)))
    · skip
      rintro e s ⟨rfl, rfl⟩
      refine AWp.seq ?_
      refine reg hP hn hm [] [2, 3] [] ⟨[(2, iV .u64 x194), (3, iV .i64 0)], [], 0⟩ [] (by kernel_rfl) trivial ?_
      refine AWp.conv (inv := []) (vk := []) (e0 := []) (t := ⟨[(2, iV .u64 x194), (3, iV .i64 0)], [], 0⟩) (by kernel_rfl) ?_
      refine AWp.ret ?_
      obtain rfl := Option.some.inj H
      exact Exists.intro _ (And.intro (fun _ _ h => h) (And.intro (.inl rfl) (And.intro rfl (And.intro (by kernel_rfl) (by kernel_rfl)))))
def f_pluvialref05_Check.l1 (a0 : THist) (x117 : Int) (x120 : List TBucket) (x142 : List Int) (x143 : Int) : Option (Int ⊕ (List Int)) := if (decide (x143 < (x120.length : Int))) = true then ((at? x120 x143) >>= fun b150 => (f_pluvialref04_In.f a0.f1 b150.f0) >>= fun t153 => if (!t153) = true then (some (.inl 4)) else (((if (decide (x143 > (0 : Int))) = true then ((at? x120 (IntKind.i64.wrap (x143 - (1 : Int)))) >>= fun b161 => some (decide (b150.f0 ≤ b161.f0))) else (some false)) : Option (Bool)) >>= fun x164 => if x164 = true then (some (.inl 32)) else (if (b150.f1 == (0 : Int)) = true then (some (.inl 21)) else ((f_pluvialref04_Units.f a0.f1 (IntKind.i64.wrap (b150.f0 - (1 : Int)))) >>= fun t169 => if (decide (t169 < a0.f2)) = true then (some (.inl 31)) else ((chk ((x142.length + [b150.f1].length) * 8 ≤ 140737488355328)) >>= fun _ => f_pluvialref05_Check.l1 a0 x117 x120 (x142 ++ [b150.f1]) (IntKind.i64.wrap (x143 + (1 : Int)))))))) else (some (.inr x142))
partial_fixpoint
def f_pluvialref05_Check.l0 (a0 : THist) (x116 : List Int) (x117 : Int) : Option (Int ⊕ (List Int)) := if (decide (x117 < (2 : Int))) = true then (((if (x117 == (1 : Int)) = true then (some a0.f7) else (some a0.f6)) : Option (List TBucket)) >>= fun x120 => if (decide ((x120.length : Int) > (512 : Int))) = true then (some (.inl 9)) else ((f_pluvialref05_Check.l1 a0 x117 x120 x116 0) >>= fun oo => match oo with | .inl rr => (some (.inl rr)) | .inr x174 => (f_pluvialref05_Check.l0 a0 x174 (IntKind.i64.wrap (x117 + (1 : Int)))))) else (some (.inr x116))
partial_fixpoint
def f_pluvialref05_Check.f (a0 : THist) : Option (Int) := ((if (a0.f0 != (0 : Int)) = true then (some (a0.f0 != (1 : Int))) else (some false)) : Option (Bool)) >>= fun x5 => if x5 = true then (some 25) else ((f_pluvialref04_Right.f a0.f1) >>= fun t14 => if (!t14) = true then (some 20) else (((if (a0.f2 != (-524288)) = true then (if (decide (a0.f2 ≤ (-262144))) = true then (some true) else (some (decide (a0.f2 > (262144 : Int))))) else (some false)) : Option (Bool)) >>= fun x21 => if x21 = true then (some 31) else ((f_pluvialref05_Check.l0 a0 [a0.f3] 0) >>= fun oo => match oo with | .inl rr => (some rr) | .inr x175 => ((f_pluvialref01_Add.f x175) >>= fun t199 => if (t199.2 != (0 : Int)) = true then (some 5) else (if (t199.1 != a0.f4) = true then (some 21) else (some 0))))))
theorem f_pluvialref05_Check.ok (a0 : THist) (r : Int) (H : f_pluvialref05_Check.f a0 = some r) : Pv.Fn Try.prog 67 [.agg (aHist a0)] [] 0 (fun x o => x = iV .i64 r ∧ o = []) := by
  unfold f_pluvialref05_Check.f at H
  refine Fn.bodyK [] Try.func67 rfl rfl (fun Γ hP hn => ?_)
  have hm : Try.prog.follows .mixedOrders = true := by kernel_rfl
  replace hn : Γ.n = 118 := hn
  refine AWp.seq ?_
  refine reg hP hn hm [(0, .k 0)] [1] [0] ⟨[(1, .ptr 0 0 0)], [(0, some (.box 35 (aHist a0)))], 0⟩ [] (by kernel_rfl) trivial ?_
  refine AWp.seq ?_
  refine AWp.seq ?_
  obtain ⟨o203, e204, H⟩ := bind_of H
  refine AWp.mono (Q := fun e s => (match (generalizing := false) o203 with | x5 => e = .normal ∧ s = ⟨[(1, .ptr 1 0 0), (16, bV x5)], [(1, some (.box 35 (aHist a0)))], 0⟩)) (AWp.cv ?_) ?_
  · replace H := e204; clear e204
    rcases Bool.eq_false_or_eq_true (a0.f0 != (0 : Int)) with c4 | c4
    · replace H := (ifT c4).symm.trans H
      refine reg hP hn hm [(3, .b true)] [1, 16] [0] ⟨[(1, .ptr 0 0 0), (16, bV (a0.f0 != (1 : Int)))], [(0, some (.box 35 (aHist a0)))], 0⟩ [(a0.f0 != (0 : Int)) = true] (by kernel_rfl) ⟨by exact c4, trivial⟩ ?_
      obtain rfl := Option.some.inj H
      exact Exists.intro _ (And.intro (fun _ _ h => h.conv (inv := [(0, 1)]) (vk := []) (e0 := []) (t := ⟨[(1, .ptr 1 0 0), (16, bV (a0.f0 != (1 : Int)))], [(1, some (.box 35 (aHist a0)))], 0⟩) (by kernel_rfl)) (And.intro rfl rfl))
    · replace H := (ifF c4).symm.trans H
      refine reg hP hn hm [(3, .b false)] [1, 16] [0] ⟨[(1, .ptr 0 0 0), (16, bV false)], [(0, some (.box 35 (aHist a0)))], 0⟩ [(a0.f0 != (0 : Int)) = false] (by kernel_rfl) ⟨by exact c4, trivial⟩ ?_
      obtain rfl := Option.some.inj H
      exact Exists.intro _ (And.intro (fun _ _ h => h.conv (inv := [(0, 1)]) (vk := []) (e0 := []) (t := ⟨[(1, .ptr 1 0 0), (16, bV false)], [(1, some (.box 35 (aHist a0)))], 0⟩) (by kernel_rfl)) (And.intro rfl rfl))
  · obtain ⟨x5, rfl⟩ : ∃ z, z = o203 := ⟨_, rfl⟩
    rintro e s ⟨rfl, rfl⟩
    refine AWp.cond x5 rfl (fun c6 => ?_) (fun c6 => ?_)
    · replace H := (ifT c6).symm.trans H
      refine AWp.seq ?_
      refine reg hP hn hm [] [2] [] ⟨[(2, iV .i64 25)], [], 0⟩ [] (by kernel_rfl) trivial ?_
      refine AWp.conv (inv := []) (vk := []) (e0 := []) (t := ⟨[(2, iV .i64 25)], [], 0⟩) (by kernel_rfl) ?_
      refine AWp.ret ?_
      obtain rfl := Option.some.inj H
      exact Exists.intro _ (And.intro (fun _ _ h => h) (And.intro (.inl rfl) (And.intro rfl (And.intro (by kernel_rfl) (by kernel_rfl)))))
    · replace H := (ifF c6).symm.trans H
      refine AWp.skip ?_
      refine AWp.seq ?_
      refine AWp.seq ?_
      obtain ⟨t14, e15, H⟩ := bind_of H
      refine reg hP hn hm [(2, .call [] [] [] [] 0 (bV t14) [])] [1, 20] [1] ⟨[(1, .ptr 1 0 0), (20, bV (!t14))], [(1, some (.box 35 (aHist a0)))], 0⟩ [Enters Try.prog 98, Pv.Fn Try.prog 98 [iV .i64 a0.f1] [] 0 (fun r o => r = bV t14 ∧ o = [])] (by kernel_rfl) ⟨by exact Try.call98, by exact f_pluvialref04_Right.ok a0.f1 t14 e15, trivial⟩ ?_
      refine AWp.cond (!t14) rfl (fun c16 => ?_) (fun c16 => ?_)
      · replace H := (ifT c16).symm.trans H
        refine AWp.seq ?_
        refine reg hP hn hm [] [2] [] ⟨[(2, iV .i64 20)], [], 0⟩ [] (by kernel_rfl) trivial ?_
        refine AWp.conv (inv := []) (vk := []) (e0 := []) (t := ⟨[(2, iV .i64 20)], [], 0⟩) (by kernel_rfl) ?_
        refine AWp.ret ?_
        obtain rfl := Option.some.inj H
        exact Exists.intro _ (And.intro (fun _ _ h => h) (And.intro (.inl rfl) (And.intro rfl (And.intro (by kernel_rfl) (by kernel_rfl)))))
      · replace H := (ifF c16).symm.trans H
        refine AWp.skip ?_
        refine AWp.seq ?_
        refine AWp.seq ?_
        obtain ⟨o205, e206, H⟩ := bind_of H
        refine AWp.mono (Q := fun e s => (match (generalizing := false) o205 with | x21 => e = .normal ∧ s = ⟨[(1, .ptr 2 0 0), (33, bV x21)], [(2, some (.box 35 (aHist a0)))], 0⟩)) (AWp.cv ?_) ?_
        · replace H := e206; clear e206
          rcases Bool.eq_false_or_eq_true (a0.f2 != (-524288)) with c19 | c19
          · replace H := (ifT c19).symm.trans H
            rcases Bool.eq_false_or_eq_true (decide (a0.f2 ≤ (-262144))) with c20 | c20
            · replace H := (ifT c20).symm.trans H
              refine reg hP hn hm [(3, .b true), (7, .b true)] [1, 33] [1] ⟨[(1, .ptr 1 0 0), (33, bV true)], [(1, some (.box 35 (aHist a0)))], 0⟩ [(a0.f2 != (-524288)) = true, (decide (a0.f2 ≤ (-262144))) = true] (by kernel_rfl) ⟨by exact c19, by exact c20, trivial⟩ ?_
              obtain rfl := Option.some.inj H
              exact Exists.intro _ (And.intro (fun _ _ h => h.conv (inv := [(1, 2)]) (vk := []) (e0 := []) (t := ⟨[(1, .ptr 2 0 0), (33, bV true)], [(2, some (.box 35 (aHist a0)))], 0⟩) (by kernel_rfl)) (And.intro rfl rfl))
            · replace H := (ifF c20).symm.trans H
              refine reg hP hn hm [(3, .b true), (7, .b false)] [1, 33] [1] ⟨[(1, .ptr 1 0 0), (33, bV (decide (a0.f2 > (262144 : Int))))], [(1, some (.box 35 (aHist a0)))], 0⟩ [(a0.f2 != (-524288)) = true, (decide (a0.f2 ≤ (-262144))) = false] (by kernel_rfl) ⟨by exact c19, by exact c20, trivial⟩ ?_
              obtain rfl := Option.some.inj H
              exact Exists.intro _ (And.intro (fun _ _ h => h.conv (inv := [(1, 2)]) (vk := []) (e0 := []) (t := ⟨[(1, .ptr 2 0 0), (33, bV (decide (a0.f2 > (262144 : Int))))], [(2, some (.box 35 (aHist a0)))], 0⟩) (by kernel_rfl)) (And.intro rfl rfl))
          · replace H := (ifF c19).symm.trans H
            refine reg hP hn hm [(3, .b false)] [1, 33] [1] ⟨[(1, .ptr 1 0 0), (33, bV false)], [(1, some (.box 35 (aHist a0)))], 0⟩ [(a0.f2 != (-524288)) = false] (by kernel_rfl) ⟨by exact c19, trivial⟩ ?_
            obtain rfl := Option.some.inj H
            exact Exists.intro _ (And.intro (fun _ _ h => h.conv (inv := [(1, 2)]) (vk := []) (e0 := []) (t := ⟨[(1, .ptr 2 0 0), (33, bV false)], [(2, some (.box 35 (aHist a0)))], 0⟩) (by kernel_rfl)) (And.intro rfl rfl))
        · obtain ⟨x21, rfl⟩ : ∃ z, z = o205 := ⟨_, rfl⟩
          rintro e s ⟨rfl, rfl⟩
          refine AWp.cond x21 rfl (fun c22 => ?_) (fun c22 => ?_)
          · replace H := (ifT c22).symm.trans H
            refine AWp.seq ?_
            refine reg hP hn hm [] [2] [] ⟨[(2, iV .i64 31)], [], 0⟩ [] (by kernel_rfl) trivial ?_
            refine AWp.conv (inv := []) (vk := []) (e0 := []) (t := ⟨[(2, iV .i64 31)], [], 0⟩) (by kernel_rfl) ?_
            refine AWp.ret ?_
            obtain rfl := Option.some.inj H
            exact Exists.intro _ (And.intro (fun _ _ h => h) (And.intro (.inl rfl) (And.intro rfl (And.intro (by kernel_rfl) (by kernel_rfl)))))
          · replace H := (ifF c22).symm.trans H
            refine AWp.skip ?_
            refine AWp.seq ?_
            refine reg hP hn hm [(2, .app 3 ([a0.f3].map (encInt .u64)))] [1, 3] [2, 3] ⟨[(1, .ptr 2 0 0), (3, .own 3)], [(2, some (.box 35 (aHist a0))), (3, some (.row 1 32 ([a0.f3].map (encInt .u64))))], 0⟩ [[a0.f3].map (encInt .u64) = [[iI .u64 a0.f3]]] (by kernel_rfl) ⟨by exact rfl, trivial⟩ ?_
            refine AWp.seq ?_
            refine AWp.seq ?_
            refine reg hP hn hm [] [1, 3, 4] [2, 3] ⟨[(1, .ptr 2 0 0), (3, .own 3), (4, iV .i64 0)], [(2, some (.box 35 (aHist a0))), (3, some (.row 1 32 ([a0.f3].map (encInt .u64))))], 0⟩ [] (by kernel_rfl) trivial ?_
            refine AWp.block ?_
            obtain ⟨o207, e208, H⟩ := bind_of H
            refine AWp.loop (LWp.conv (inv := [(2, 14), (3, 15)]) (vk := []) (e0 := []) (t := ⟨[(1, .ptr 14 0 0), (3, .own 15), (4, iV .i64 0)], [(14, some (.box 35 (aHist a0))), (15, some (.row 1 32 ([a0.f3].map (encInt .u64))))], 0⟩) (by kernel_rfl) ?_)
            refine LWp.mono (Q := fun e s => (match (generalizing := false) o207 with | .inl rr => e = .ret ∧ s.floor = 0 ∧ resOf Try.prog Try.f67 s = some (iV .i64 rr) ∧ ([] : List (Nat × Option MObj)) = [] | .inr x175 => e = .exit 0 ∧ s = ⟨[(1, .ptr 28 0 0), (3, .own 29)], [(28, some (.box 35 (aHist a0))), (29, some (.row 1 32 (x175.map (encInt .u64))))], 0⟩)) (LWp.cv (withBody (fun body hbody => ?_))) ?_
            · refine f_pluvialref05_Check.l0.partial_correctness a0 (motive := fun x116 x117 o207 => LWp Γ body (fun e s => ∃ t, Cv Γ s t ∧ (match (generalizing := false) o207 with | .inl rr => e = .ret ∧ t.floor = 0 ∧ resOf Try.prog Try.f67 t = some (iV .i64 rr) ∧ ([] : List (Nat × Option MObj)) = [] | .inr x175 => e = .exit 0 ∧ t = ⟨[(1, .ptr 28 0 0), (3, .own 29)], [(28, some (.box 35 (aHist a0))), (29, some (.row 1 32 (x175.map (encInt .u64))))], 0⟩)) ⟨[(1, .ptr 14 0 0), (3, .own 15), (4, iV .i64 x117)], [(14, some (.box 35 (aHist a0))), (15, some (.row 1 32 (x116.map (encInt .u64))))], 0⟩) ?_ _ _ _ e208
              clear H e208 o207; intro self ih x116 x117 o207 H
              subst hbody
              refine LWp.round ?_
              refine AWp.seq ?_
              refine AWp.seq ?_
              refine reg hP hn hm [] [1, 3, 4, 38] [14, 15] ⟨[(1, .ptr 14 0 0), (3, .own 15), (4, iV .i64 x117), (38, bV (decide (x117 < (2 : Int))))], [(14, some (.box 35 (aHist a0))), (15, some (.row 1 32 (x116.map (encInt .u64))))], 0⟩ [] (by kernel_rfl) trivial ?_
              refine AWp.cond (decide (x117 < (2 : Int))) rfl (fun c118 => ?_) (fun c118 => ?_)
              · replace H := (ifT c118).symm.trans H
                refine AWp.skip ?_
                refine AWp.seq ?_
                refine AWp.block ?_
                refine AWp.seq ?_
                refine reg hP hn hm [] [1, 3, 4, 5] [14, 15] ⟨[(1, .ptr 14 0 0), (3, .own 15), (4, iV .i64 x117), (5, .im (.row (a0.f6.map eBucket)))], [(14, some (.box 35 (aHist a0))), (15, some (.row 1 32 (x116.map (encInt .u64))))], 0⟩ [] (by kernel_rfl) trivial ?_
                refine AWp.seq ?_
                refine AWp.seq ?_
                refine reg hP hn hm [] [1, 3, 4, 5, 44] [14, 15] ⟨[(1, .ptr 14 0 0), (3, .own 15), (4, iV .i64 x117), (5, .im (.row (a0.f6.map eBucket))), (44, bV (x117 == (1 : Int)))], [(14, some (.box 35 (aHist a0))), (15, some (.row 1 32 (x116.map (encInt .u64))))], 0⟩ [] (by kernel_rfl) trivial ?_
                obtain ⟨o209, e210, H⟩ := bind_of H
                refine AWp.mono (Q := fun e s => (match (generalizing := false) o209 with | x120 => e = .normal ∧ s = ⟨[(1, .ptr 16 0 0), (3, .own 17), (4, iV .i64 x117), (5, .im (.row (x120.map eBucket)))], [(16, some (.box 35 (aHist a0))), (17, some (.row 1 32 (x116.map (encInt .u64))))], 0⟩)) (AWp.cv ?_) ?_
                · replace H := e210; clear e210
                  refine AWp.cond (x117 == (1 : Int)) rfl (fun c119 => ?_) (fun c119 => ?_)
                  · replace H := (ifT c119).symm.trans H
                    refine reg hP hn hm [] [1, 3, 4, 5] [14, 15] ⟨[(1, .ptr 14 0 0), (3, .own 15), (4, iV .i64 x117), (5, .im (.row (a0.f7.map eBucket)))], [(14, some (.box 35 (aHist a0))), (15, some (.row 1 32 (x116.map (encInt .u64))))], 0⟩ [] (by kernel_rfl) trivial ?_
                    obtain rfl := Option.some.inj H
                    exact Exists.intro _ (And.intro (fun _ _ h => h.conv (inv := [(14, 16), (15, 17)]) (vk := []) (e0 := []) (t := ⟨[(1, .ptr 16 0 0), (3, .own 17), (4, iV .i64 x117), (5, .im (.row (a0.f7.map eBucket)))], [(16, some (.box 35 (aHist a0))), (17, some (.row 1 32 (x116.map (encInt .u64))))], 0⟩) (by kernel_rfl)) (And.intro rfl rfl))
                  · replace H := (ifF c119).symm.trans H
                    refine AWp.skip ?_
                    obtain rfl := Option.some.inj H
                    exact Exists.intro _ (And.intro (fun _ _ h => h.conv (inv := [(14, 16), (15, 17)]) (vk := []) (e0 := []) (t := ⟨[(1, .ptr 16 0 0), (3, .own 17), (4, iV .i64 x117), (5, .im (.row (a0.f6.map eBucket)))], [(16, some (.box 35 (aHist a0))), (17, some (.row 1 32 (x116.map (encInt .u64))))], 0⟩) (by kernel_rfl)) (And.intro rfl rfl))
                · obtain ⟨x120, rfl⟩ : ∃ z, z = o209 := ⟨_, rfl⟩
                  rintro e s ⟨rfl, rfl⟩
                  refine AWp.seq ?_
                  refine AWp.seq ?_
                  refine reg hP hn hm [(1, .any (iV .i64 (x120.length : Int)))] [1, 3, 4, 5, 49] [16, 17] ⟨[(1, .ptr 16 0 0), (3, .own 17), (4, iV .i64 x117), (5, .im (.row (x120.map eBucket))), (49, bV (decide ((x120.length : Int) > (512 : Int))))], [(16, some (.box 35 (aHist a0))), (17, some (.row 1 32 (x116.map (encInt .u64))))], 0⟩ [((x120.map eBucket).length : Int) = (x120.length : Int)] (by kernel_rfl) ⟨by rw [len_map], trivial⟩ ?_
                  refine AWp.cond (decide ((x120.length : Int) > (512 : Int))) rfl (fun c121 => ?_) (fun c121 => ?_)
                  · replace H := (ifT c121).symm.trans H
                    refine AWp.seq ?_
                    refine reg hP hn hm [] [2] [] ⟨[(2, iV .i64 9)], [], 0⟩ [] (by kernel_rfl) trivial ?_
                    refine AWp.conv (inv := []) (vk := []) (e0 := []) (t := ⟨[(2, iV .i64 9)], [], 0⟩) (by kernel_rfl) ?_
                    refine AWp.ret ?_
                    obtain rfl := Option.some.inj H
                    exact Exists.intro _ (And.intro (fun _ _ h => h) (And.intro rfl (And.intro rfl (And.intro (by kernel_rfl) (by kernel_rfl)))))
                  · replace H := (ifF c121).symm.trans H
                    refine AWp.skip ?_
                    refine AWp.seq ?_
                    refine reg hP hn hm [] [1, 3, 4, 5, 6] [16, 17] ⟨[(1, .ptr 16 0 0), (3, .own 17), (4, iV .i64 x117), (5, .im (.row (x120.map eBucket))), (6, iV .i64 0)], [(16, some (.box 35 (aHist a0))), (17, some (.row 1 32 (x116.map (encInt .u64))))], 0⟩ [] (by kernel_rfl) trivial ?_
                    refine AWp.block ?_
                    obtain ⟨o211, e212, H⟩ := bind_of H
                    refine AWp.loop (LWp.conv (inv := [(16, 20), (17, 21)]) (vk := []) (e0 := []) (t := ⟨[(1, .ptr 20 0 0), (3, .own 21), (4, iV .i64 x117), (5, .im (.row (x120.map eBucket))), (6, iV .i64 0)], [(20, some (.box 35 (aHist a0))), (21, some (.row 1 32 (x116.map (encInt .u64))))], 0⟩) (by kernel_rfl) ?_)
                    refine LWp.mono (Q := fun e s => (match (generalizing := false) o211 with | .inl rr => e = .ret ∧ s.floor = 0 ∧ resOf Try.prog Try.f67 s = some (iV .i64 rr) ∧ ([] : List (Nat × Option MObj)) = [] | .inr x174 => e = .exit 2 ∧ s = ⟨[(1, .ptr 26 0 0), (3, .own 27), (4, iV .i64 x117)], [(26, some (.box 35 (aHist a0))), (27, some (.row 1 32 (x174.map (encInt .u64))))], 0⟩)) (LWp.cv (withBody (fun body hbody => ?_))) ?_
                    · refine f_pluvialref05_Check.l1.partial_correctness a0 x117 x120 (motive := fun x142 x143 o211 => LWp Γ body (fun e s => ∃ t, Cv Γ s t ∧ (match (generalizing := false) o211 with | .inl rr => e = .ret ∧ t.floor = 0 ∧ resOf Try.prog Try.f67 t = some (iV .i64 rr) ∧ ([] : List (Nat × Option MObj)) = [] | .inr x174 => e = .exit 2 ∧ t = ⟨[(1, .ptr 26 0 0), (3, .own 27), (4, iV .i64 x117)], [(26, some (.box 35 (aHist a0))), (27, some (.row 1 32 (x174.map (encInt .u64))))], 0⟩)) ⟨[(1, .ptr 20 0 0), (3, .own 21), (4, iV .i64 x117), (5, .im (.row (x120.map eBucket))), (6, iV .i64 x143)], [(20, some (.box 35 (aHist a0))), (21, some (.row 1 32 (x142.map (encInt .u64))))], 0⟩) ?_ _ _ _ e212
                      clear H e212 o211; intro self ih x142 x143 o211 H
                      subst hbody
                      refine LWp.round ?_
                      refine AWp.seq ?_
                      refine AWp.seq ?_
                      refine reg hP hn hm [(2, .any (iV .i64 (x120.length : Int)))] [1, 3, 4, 5, 6, 53] [20, 21] ⟨[(1, .ptr 20 0 0), (3, .own 21), (4, iV .i64 x117), (5, .im (.row (x120.map eBucket))), (6, iV .i64 x143), (53, bV (decide (x143 < (x120.length : Int))))], [(20, some (.box 35 (aHist a0))), (21, some (.row 1 32 (x142.map (encInt .u64))))], 0⟩ [((x120.map eBucket).length : Int) = (x120.length : Int)] (by kernel_rfl) ⟨by rw [len_map], trivial⟩ ?_
                      refine AWp.cond (decide (x143 < (x120.length : Int))) rfl (fun c144 => ?_) (fun c144 => ?_)
                      · replace H := (ifT c144).symm.trans H
                        refine AWp.skip ?_
                        refine AWp.seq ?_
                        refine AWp.block ?_
                        refine AWp.seq ?_
                        refine AWp.seq ?_
                        obtain ⟨b150, p151, q152, H⟩ := at_of H
                        obtain ⟨t153, e154, H⟩ := bind_of H
                        refine reg hP hn hm [(4, .c (eBucket b150)), (7, .call [] [] [] [] 0 (bV t153) [])] [1, 3, 4, 5, 6, 64] [20, 21] ⟨[(1, .ptr 20 0 0), (3, .own 21), (4, iV .i64 x117), (5, .im (.row (x120.map eBucket))), (6, iV .i64 x143), (64, bV (!t153))], [(20, some (.box 35 (aHist a0))), (21, some (.row 1 32 (x142.map (encInt .u64))))], 0⟩ [0 ≤ x143, (x120.map eBucket)[(Int.toNat (x143))]? = some (eBucket b150), Enters Try.prog 99, Pv.Fn Try.prog 99 [iV .i64 a0.f1, iV .i64 b150.f0] [] 0 (fun r o => r = bV t153 ∧ o = [])] (by kernel_rfl) ⟨by exact p151, by exact el_map eBucket q152, by exact Try.call99, by exact f_pluvialref04_In.ok a0.f1 b150.f0 t153 e154, trivial⟩ ?_
                        refine AWp.cond (!t153) rfl (fun c155 => ?_) (fun c155 => ?_)
                        · replace H := (ifT c155).symm.trans H
                          refine AWp.seq ?_
                          refine reg hP hn hm [] [2] [] ⟨[(2, iV .i64 4)], [], 0⟩ [] (by kernel_rfl) trivial ?_
                          refine AWp.conv (inv := []) (vk := []) (e0 := []) (t := ⟨[(2, iV .i64 4)], [], 0⟩) (by kernel_rfl) ?_
                          refine AWp.ret ?_
                          obtain rfl := Option.some.inj H
                          exact Exists.intro _ (And.intro (fun _ _ h => h) (And.intro rfl (And.intro rfl (And.intro (by kernel_rfl) (by kernel_rfl)))))
                        · replace H := (ifF c155).symm.trans H
                          refine AWp.skip ?_
                          refine AWp.seq ?_
                          refine AWp.seq ?_
                          obtain ⟨o213, e214, H⟩ := bind_of H
                          refine AWp.mono (Q := fun e s => (match (generalizing := false) o213 with | x164 => e = .normal ∧ s = ⟨[(1, .ptr 22 0 0), (3, .own 23), (4, iV .i64 x117), (5, .im (.row (x120.map eBucket))), (6, iV .i64 x143), (80, bV x164)], [(22, some (.box 35 (aHist a0))), (23, some (.row 1 32 (x142.map (encInt .u64))))], 0⟩)) (AWp.cv ?_) ?_
                          · replace H := e214; clear e214
                            rcases Bool.eq_false_or_eq_true (decide (x143 > (0 : Int))) with c160 | c160
                            · replace H := (ifT c160).symm.trans H
                              obtain ⟨b161, p162, q163, H⟩ := at_of H
                              refine reg hP hn hm [(2, .b true), (5, .c (eBucket b150)), (11, .c (eBucket b161))] [1, 3, 4, 5, 6, 68, 69, 70, 71, 72, 73, 74, 75, 76, 77, 78, 79, 80] [20, 21] ⟨[(1, .ptr 20 0 0), (3, .own 21), (4, iV .i64 x117), (5, .im (.row (x120.map eBucket))), (6, iV .i64 x143), (68, .im (.row (x120.map eBucket))), (69, iV .i64 x143), (70, .ip [iI .i64 b150.f0, iI .u64 b150.f1]), (71, .ip [iI .i64 b150.f0, iI .u64 b150.f1]), (72, iV .i64 b150.f0), (73, .im (.row (x120.map eBucket))), (74, iV .i64 x143), (75, iV .i64 (IntKind.i64.wrap (x143 - (1 : Int)))), (76, .ip [iI .i64 b161.f0, iI .u64 b161.f1]), (77, .ip [iI .i64 b161.f0, iI .u64 b161.f1]), (78, iV .i64 b161.f0), (79, bV (decide (b150.f0 ≤ b161.f0))), (80, bV (decide (b150.f0 ≤ b161.f0)))], [(20, some (.box 35 (aHist a0))), (21, some (.row 1 32 (x142.map (encInt .u64))))], 0⟩ [(decide (x143 > (0 : Int))) = true, 0 ≤ x143, (x120.map eBucket)[(Int.toNat (x143))]? = some (eBucket b150), 0 ≤ (IntKind.i64.wrap (x143 - (1 : Int))), (x120.map eBucket)[(Int.toNat (IntKind.i64.wrap (x143 - (1 : Int))))]? = some (eBucket b161)] (by kernel_rfl) ⟨by exact c160, by exact p151, by exact el_map eBucket q152, by exact p162, by exact el_map eBucket q163, trivial⟩ ?_
                              obtain rfl := Option.some.inj H
                              exact Exists.intro _ (And.intro (fun _ _ h => h.conv (inv := [(20, 22), (21, 23)]) (vk := []) (e0 := []) (t := ⟨[(1, .ptr 22 0 0), (3, .own 23), (4, iV .i64 x117), (5, .im (.row (x120.map eBucket))), (6, iV .i64 x143), (80, bV (decide (b150.f0 ≤ b161.f0)))], [(22, some (.box 35 (aHist a0))), (23, some (.row 1 32 (x142.map (encInt .u64))))], 0⟩) (by kernel_rfl)) (And.intro rfl rfl))
                            · replace H := (ifF c160).symm.trans H
                              refine reg hP hn hm [(2, .b false)] [1, 3, 4, 5, 6, 80] [20, 21] ⟨[(1, .ptr 20 0 0), (3, .own 21), (4, iV .i64 x117), (5, .im (.row (x120.map eBucket))), (6, iV .i64 x143), (80, bV false)], [(20, some (.box 35 (aHist a0))), (21, some (.row 1 32 (x142.map (encInt .u64))))], 0⟩ [(decide (x143 > (0 : Int))) = false] (by kernel_rfl) ⟨by exact c160, trivial⟩ ?_
                              obtain rfl := Option.some.inj H
                              exact Exists.intro _ (And.intro (fun _ _ h => h.conv (inv := [(20, 22), (21, 23)]) (vk := []) (e0 := []) (t := ⟨[(1, .ptr 22 0 0), (3, .own 23), (4, iV .i64 x117), (5, .im (.row (x120.map eBucket))), (6, iV .i64 x143), (80, bV false)], [(22, some (.box 35 (aHist a0))), (23, some (.row 1 32 (x142.map (encInt .u64))))], 0⟩) (by kernel_rfl)) (And.intro rfl rfl))
                          · obtain ⟨x164, rfl⟩ : ∃ z, z = o213 := ⟨_, rfl⟩
                            rintro e s ⟨rfl, rfl⟩
                            refine AWp.cond x164 rfl (fun c165 => ?_) (fun c165 => ?_)
                            · replace H := (ifT c165).symm.trans H
                              refine AWp.seq ?_
                              refine reg hP hn hm [] [2] [] ⟨[(2, iV .i64 32)], [], 0⟩ [] (by kernel_rfl) trivial ?_
                              refine AWp.conv (inv := []) (vk := []) (e0 := []) (t := ⟨[(2, iV .i64 32)], [], 0⟩) (by kernel_rfl) ?_
                              refine AWp.ret ?_
                              obtain rfl := Option.some.inj H
                              exact Exists.intro _ (And.intro (fun _ _ h => h) (And.intro rfl (And.intro rfl (And.intro (by kernel_rfl) (by kernel_rfl)))))
                            · replace H := (ifF c165).symm.trans H
                              refine AWp.skip ?_
                              refine AWp.seq ?_
                              refine AWp.seq ?_
                              refine reg hP hn hm [(2, .c (eBucket b150))] [1, 3, 4, 5, 6, 86] [22, 23] ⟨[(1, .ptr 22 0 0), (3, .own 23), (4, iV .i64 x117), (5, .im (.row (x120.map eBucket))), (6, iV .i64 x143), (86, bV (b150.f1 == (0 : Int)))], [(22, some (.box 35 (aHist a0))), (23, some (.row 1 32 (x142.map (encInt .u64))))], 0⟩ [0 ≤ x143, (x120.map eBucket)[(Int.toNat (x143))]? = some (eBucket b150)] (by kernel_rfl) ⟨by exact p151, by exact el_map eBucket q152, trivial⟩ ?_
                              refine AWp.cond (b150.f1 == (0 : Int)) rfl (fun c166 => ?_) (fun c166 => ?_)
                              · replace H := (ifT c166).symm.trans H
                                refine AWp.seq ?_
                                refine reg hP hn hm [] [2] [] ⟨[(2, iV .i64 21)], [], 0⟩ [] (by kernel_rfl) trivial ?_
                                refine AWp.conv (inv := []) (vk := []) (e0 := []) (t := ⟨[(2, iV .i64 21)], [], 0⟩) (by kernel_rfl) ?_
                                refine AWp.ret ?_
                                obtain rfl := Option.some.inj H
                                exact Exists.intro _ (And.intro (fun _ _ h => h) (And.intro rfl (And.intro rfl (And.intro (by kernel_rfl) (by kernel_rfl)))))
                              · replace H := (ifF c166).symm.trans H
                                refine AWp.skip ?_
                                refine AWp.seq ?_
                                refine AWp.seq ?_
                                obtain ⟨t169, e170, H⟩ := bind_of H
                                refine reg hP hn hm [(4, .c (eBucket b150)), (8, .call [] [] [] [] 0 (iV .i64 t169) [])] [1, 3, 4, 5, 6, 98] [22, 23] ⟨[(1, .ptr 22 0 0), (3, .own 23), (4, iV .i64 x117), (5, .im (.row (x120.map eBucket))), (6, iV .i64 x143), (98, bV (decide (t169 < a0.f2)))], [(22, some (.box 35 (aHist a0))), (23, some (.row 1 32 (x142.map (encInt .u64))))], 0⟩ [0 ≤ x143, (x120.map eBucket)[(Int.toNat (x143))]? = some (eBucket b150), Enters Try.prog 100, Pv.Fn Try.prog 100 [iV .i64 a0.f1, iV .i64 (IntKind.i64.wrap (b150.f0 - (1 : Int)))] [] 0 (fun r o => r = iV .i64 t169 ∧ o = [])] (by kernel_rfl) ⟨by exact p151, by exact el_map eBucket q152, by exact Try.call100, by exact f_pluvialref04_Units.ok a0.f1 (IntKind.i64.wrap (b150.f0 - (1 : Int))) t169 e170, trivial⟩ ?_
                                refine AWp.cond (decide (t169 < a0.f2)) rfl (fun c171 => ?_) (fun c171 => ?_)
                                · replace H := (ifT c171).symm.trans H
                                  refine AWp.seq ?_
                                  refine reg hP hn hm [] [2] [] ⟨[(2, iV .i64 31)], [], 0⟩ [] (by kernel_rfl) trivial ?_
                                  refine AWp.conv (inv := []) (vk := []) (e0 := []) (t := ⟨[(2, iV .i64 31)], [], 0⟩) (by kernel_rfl) ?_
                                  refine AWp.ret ?_
                                  obtain rfl := Option.some.inj H
                                  exact Exists.intro _ (And.intro (fun _ _ h => h) (And.intro rfl (And.intro rfl (And.intro (by kernel_rfl) (by kernel_rfl)))))
                                · replace H := (ifF c171).symm.trans H
                                  refine AWp.skip ?_
                                  obtain ⟨c173, H⟩ := chk_of H
                                  refine reg hP hn hm [(3, .c (eBucket b150)), (6, .app 24 ([b150.f1].map (encInt .u64))), (7, .app 25 ((x142 ++ [b150.f1]).map (encInt .u64)))] [1, 3, 4, 5, 6] [22, 25] ⟨[(1, .ptr 22 0 0), (3, .own 25), (4, iV .i64 x117), (5, .im (.row (x120.map eBucket))), (6, iV .i64 x143)], [(22, some (.box 35 (aHist a0))), (25, some (.row 1 32 ((x142 ++ [b150.f1]).map (encInt .u64))))], 0⟩ [0 ≤ x143, (x120.map eBucket)[(Int.toNat (x143))]? = some (eBucket b150), [b150.f1].map (encInt .u64) = [[iI .u64 b150.f1]], (x142 ++ [b150.f1]).map (encInt .u64) = (x142.map (encInt .u64)) ++ ([b150.f1].map (encInt .u64)), ∀ c ∈ ([b150.f1].map (encInt .u64)), c.length = 1, ∀ c ∈ ([b150.f1].map (encInt .u64)), leaves (c.map .im) = true, ((x142.map (encInt .u64)).length + ([b150.f1].map (encInt .u64)).length) * 8 ≤ 140737488355328] (by kernel_rfl) ⟨by exact p151, by exact el_map eBucket q152, by exact rfl, by simp, by exact all_len _ _ _ (fun _ => rfl), by exact all_leaf _ _ (fun _ => rfl), by simpa using c173, trivial⟩ ?_
                                  refine reg hP hn hm [] [1, 3, 4, 5, 6] [22, 25] ⟨[(1, .ptr 22 0 0), (3, .own 25), (4, iV .i64 x117), (5, .im (.row (x120.map eBucket))), (6, iV .i64 (IntKind.i64.wrap (x143 + (1 : Int))))], [(22, some (.box 35 (aHist a0))), (25, some (.row 1 32 ((x142 ++ [b150.f1]).map (encInt .u64))))], 0⟩ [] (by kernel_rfl) trivial ?_
                                  exact LWp.conv (inv := [(22, 20), (25, 21)]) (vk := []) (e0 := []) (t := ⟨[(1, .ptr 20 0 0), (3, .own 21), (4, iV .i64 x117), (5, .im (.row (x120.map eBucket))), (6, iV .i64 (IntKind.i64.wrap (x143 + (1 : Int))))], [(20, some (.box 35 (aHist a0))), (21, some (.row 1 32 ((x142 ++ [b150.f1]).map (encInt .u64))))], 0⟩) (by kernel_rfl) (ih _ _ _ H)
                      · replace H := (ifF c144).symm.trans H
                        refine AWp.exit ?_
                        obtain rfl := Option.some.inj H
                        exact Exists.intro _ (And.intro (fun _ _ h => h.conv (inv := [(20, 26), (21, 27)]) (vk := []) (e0 := []) (t := ⟨[(1, .ptr 26 0 0), (3, .own 27), (4, iV .i64 x117)], [(26, some (.box 35 (aHist a0))), (27, some (.row 1 32 (x142.map (encInt .u64))))], 0⟩) (by kernel_rfl)) (And.intro rfl rfl))
                    · rcases o211 with rr | x174
                      · skip
                        rintro e s ⟨rfl, hfl, hres⟩
                        obtain rfl := Option.some.inj H
                        exact Exists.intro _ (And.intro (fun _ _ h => h) (And.intro rfl (And.intro hfl hres)))
                      · skip
                        rintro e s ⟨rfl, rfl⟩
                        refine reg hP hn hm [] [1, 3, 4] [26, 27] ⟨[(1, .ptr 26 0 0), (3, .own 27), (4, iV .i64 (IntKind.i64.wrap (x117 + (1 : Int))))], [(26, some (.box 35 (aHist a0))), (27, some (.row 1 32 (x174.map (encInt .u64))))], 0⟩ [] (by kernel_rfl) trivial ?_
                        exact LWp.conv (inv := [(26, 14), (27, 15)]) (vk := []) (e0 := []) (t := ⟨[(1, .ptr 14 0 0), (3, .own 15), (4, iV .i64 (IntKind.i64.wrap (x117 + (1 : Int))))], [(14, some (.box 35 (aHist a0))), (15, some (.row 1 32 (x174.map (encInt .u64))))], 0⟩) (by kernel_rfl) (ih _ _ _ H)
              · replace H := (ifF c118).symm.trans H
                refine AWp.exit ?_
                obtain rfl := Option.some.inj H
                exact Exists.intro _ (And.intro (fun _ _ h => h.conv (inv := [(14, 28), (15, 29)]) (vk := []) (e0 := []) (t := ⟨[(1, .ptr 28 0 0), (3, .own 29)], [(28, some (.box 35 (aHist a0))), (29, some (.row 1 32 (x116.map (encInt .u64))))], 0⟩) (by kernel_rfl)) (And.intro rfl rfl))
            · rcases o207 with rr | x175
              · skip
                rintro e s ⟨rfl, hfl, hres⟩
                obtain rfl := Option.some.inj H
                exact Exists.intro _ (And.intro (fun _ _ h => h) (And.intro (.inl rfl) (And.intro hfl hres)))
              · skip
                rintro e s ⟨rfl, rfl⟩
                refine AWp.seq ?_
                obtain ⟨t199, e200, H⟩ := bind_of H
                refine reg hP hn hm [(1, .call [] [] [29] [] 0 (.tup [iV .u64 t199.1, iV .i64 t199.2]) [])] [1, 7, 8] [28] ⟨[(1, .ptr 28 0 0), (7, iV .u64 t199.1), (8, iV .i64 t199.2)], [(28, some (.box 35 (aHist a0)))], 0⟩ [Enters Try.prog 101, Pv.Fn Try.prog 101 [.im (.row (x175.map (encInt .u64)))] [] 0 (fun r o => r = .tup [iV .u64 t199.1, iV .i64 t199.2] ∧ o = [])] (by kernel_rfl) ⟨by exact Try.call101, by exact f_pluvialref01_Add.ok x175 t199 e200, trivial⟩ ?_
                refine AWp.seq ?_
                refine AWp.seq ?_
                refine reg hP hn hm [] [1, 7, 113] [28] ⟨[(1, .ptr 28 0 0), (7, iV .u64 t199.1), (113, bV (t199.2 != (0 : Int)))], [(28, some (.box 35 (aHist a0)))], 0⟩ [] (by kernel_rfl) trivial ?_
                refine AWp.cond (t199.2 != (0 : Int)) rfl (fun c201 => ?_) (fun c201 => ?_)
                · replace H := (ifT c201).symm.trans H
                  refine AWp.seq ?_
                  refine reg hP hn hm [] [2] [] ⟨[(2, iV .i64 5)], [], 0⟩ [] (by kernel_rfl) trivial ?_
                  refine AWp.conv (inv := []) (vk := []) (e0 := []) (t := ⟨[(2, iV .i64 5)], [], 0⟩) (by kernel_rfl) ?_
                  refine AWp.ret ?_
                  obtain rfl := Option.some.inj H
                  exact Exists.intro _ (And.intro (fun _ _ h => h) (And.intro (.inl rfl) (And.intro rfl (And.intro (by kernel_rfl) (by kernel_rfl)))))
                · replace H := (ifF c201).symm.trans H
                  refine AWp.skip ?_
                  refine AWp.seq ?_
                  refine AWp.seq ?_
                  refine reg hP hn hm [] [117] [] ⟨[(117, bV (t199.1 != a0.f4))], [], 0⟩ [] (by kernel_rfl) trivial ?_
                  refine AWp.cond (t199.1 != a0.f4) rfl (fun c202 => ?_) (fun c202 => ?_)
                  · replace H := (ifT c202).symm.trans H
                    refine AWp.seq ?_
                    refine reg hP hn hm [] [2] [] ⟨[(2, iV .i64 21)], [], 0⟩ [] (by kernel_rfl) trivial ?_
                    refine AWp.conv (inv := []) (vk := []) (e0 := []) (t := ⟨[(2, iV .i64 21)], [], 0⟩) (by kernel_rfl) ?_
                    refine AWp.ret ?_
                    obtain rfl := Option.some.inj H
                    exact Exists.intro _ (And.intro (fun _ _ h => h) (And.intro (.inl rfl) (And.intro rfl (And.intro (by kernel_rfl) (by kernel_rfl)))))
                  · replace H := (ifF c202).symm.trans H
                    refine AWp.skip ?_
                    refine AWp.seq ?_
                    refine reg hP hn hm [] [2] [] ⟨[(2, iV .i64 0)], [], 0⟩ [] (by kernel_rfl) trivial ?_
                    refine AWp.conv (inv := []) (vk := []) (e0 := []) (t := ⟨[(2, iV .i64 0)], [], 0⟩) (by kernel_rfl) ?_
                    refine AWp.ret ?_
                    obtain rfl := Option.some.inj H
                    exact Exists.intro _ (And.intro (fun _ _ h => h) (And.intro (.inl rfl) (And.intro rfl (And.intro (by kernel_rfl) (by kernel_rfl)))))
def f_pluviallaw08_right.f (a0 : THist) : Option (Bool) := ((if (decide ((a0.f6.length : Int) ≤ (100 : Int))) = true then (if (decide ((a0.f7.length : Int) ≤ (100 : Int))) = true then ((f_pluvialref05_Check.f a0) >>= fun t219 => some (t219 == (0 : Int))) else (some false)) else (some false)) : Option (Bool)) >>= fun x221 => some x221
theorem f_pluviallaw08_right.ok (a0 : THist) (r : Bool) (H : f_pluviallaw08_right.f a0 = some r) : Pv.Fn Try.prog 19 [.agg (aHist a0)] [] 0 (fun x o => x = bV r ∧ o = []) := by
  unfold f_pluviallaw08_right.f at H
  refine Fn.bodyK [] Try.func19 rfl rfl (fun Γ hP hn => ?_)
  have hm : Try.prog.follows .mixedOrders = true := by kernel_rfl
  replace hn : Γ.n = 18 := hn
  refine AWp.seq ?_
  refine reg hP hn hm [(0, .k 0)] [1] [0] ⟨[(1, .ptr 0 0 0)], [(0, some (.box 35 (aHist a0)))], 0⟩ [] (by kernel_rfl) trivial ?_
  refine AWp.seq ?_
  obtain ⟨o222, e223, H⟩ := bind_of H
  refine AWp.mono (Q := fun e s => (match (generalizing := false) o222 with | x221 => e = .normal ∧ s = ⟨[(2, bV x221)], [], 0⟩)) (AWp.cv ?_) ?_
  · replace H := e223; clear e223
    rcases Bool.eq_false_or_eq_true (decide ((a0.f6.length : Int) ≤ (100 : Int))) with c217 | c217
    · replace H := (ifT c217).symm.trans H
      rcases Bool.eq_false_or_eq_true (decide ((a0.f7.length : Int) ≤ (100 : Int))) with c218 | c218
      · replace H := (ifT c218).symm.trans H
        obtain ⟨t219, e220, H⟩ := bind_of H
        refine reg hP hn hm [(2, .any (iV .i64 (a0.f6.length : Int))), (4, .b true), (7, .any (iV .i64 (a0.f7.length : Int))), (10, .b true), (12, .call [] [] [] [] 0 (iV .i64 t219) [])] [2] [] ⟨[(2, bV (t219 == (0 : Int)))], [], 0⟩ [((a0.f6.map eBucket).length : Int) = (a0.f6.length : Int), (decide ((a0.f6.length : Int) ≤ (100 : Int))) = true, ((a0.f7.map eBucket).length : Int) = (a0.f7.length : Int), (decide ((a0.f7.length : Int) ≤ (100 : Int))) = true, Enters Try.prog 67, Pv.Fn Try.prog 67 [.agg (aHist a0)] [] 0 (fun r o => r = iV .i64 t219 ∧ o = [])] (by kernel_rfl) ⟨by rw [len_map], by exact c217, by rw [len_map], by exact c218, by exact Try.call67, by exact f_pluvialref05_Check.ok a0 t219 e220, trivial⟩ ?_
        obtain rfl := Option.some.inj H
        exact Exists.intro _ (And.intro (fun _ _ h => h.conv (inv := []) (vk := []) (e0 := []) (t := ⟨[(2, bV (t219 == (0 : Int)))], [], 0⟩) (by kernel_rfl)) (And.intro rfl rfl))
      · replace H := (ifF c218).symm.trans H
        refine reg hP hn hm [(2, .any (iV .i64 (a0.f6.length : Int))), (4, .b true), (7, .any (iV .i64 (a0.f7.length : Int))), (10, .b false)] [2] [] ⟨[(2, bV false)], [], 0⟩ [((a0.f6.map eBucket).length : Int) = (a0.f6.length : Int), (decide ((a0.f6.length : Int) ≤ (100 : Int))) = true, ((a0.f7.map eBucket).length : Int) = (a0.f7.length : Int), (decide ((a0.f7.length : Int) ≤ (100 : Int))) = false] (by kernel_rfl) ⟨by rw [len_map], by exact c217, by rw [len_map], by exact c218, trivial⟩ ?_
        obtain rfl := Option.some.inj H
        exact Exists.intro _ (And.intro (fun _ _ h => h.conv (inv := []) (vk := []) (e0 := []) (t := ⟨[(2, bV false)], [], 0⟩) (by kernel_rfl)) (And.intro rfl rfl))
    · replace H := (ifF c217).symm.trans H
      refine reg hP hn hm [(2, .any (iV .i64 (a0.f6.length : Int))), (4, .b false)] [2] [] ⟨[(2, bV false)], [], 0⟩ [((a0.f6.map eBucket).length : Int) = (a0.f6.length : Int), (decide ((a0.f6.length : Int) ≤ (100 : Int))) = false] (by kernel_rfl) ⟨by rw [len_map], by exact c217, trivial⟩ ?_
      obtain rfl := Option.some.inj H
      exact Exists.intro _ (And.intro (fun _ _ h => h.conv (inv := []) (vk := []) (e0 := []) (t := ⟨[(2, bV false)], [], 0⟩) (by kernel_rfl)) (And.intro rfl rfl))
  · obtain ⟨x221, rfl⟩ : ∃ z, z = o222 := ⟨_, rfl⟩
    rintro e s ⟨rfl, rfl⟩
    refine AWp.conv (inv := []) (vk := []) (e0 := []) (t := ⟨[(2, bV x221)], [], 0⟩) (by kernel_rfl) ?_
    refine AWp.ret ?_
    obtain rfl := Option.some.inj H
    exact Exists.intro _ (And.intro (fun _ _ h => h) (And.intro (.inl rfl) (And.intro rfl (And.intro (by kernel_rfl) (by kernel_rfl)))))
def f_hist_Empty.f (a0 : Int) (a1 : Int) : Option (THist) := some (⟨a0, a1, (-524288), 0, 0, 0, [], []⟩ : THist)
theorem f_hist_Empty.ok (a0 : Int) (a1 : Int) (r : THist) (H : f_hist_Empty.f a0 a1 = some r) : Pv.Fn Try.prog 69 [iV .i64 a0, iV .i64 a1] [] 0 (fun x o => x = .agg (aHist (r)) ∧ o = []) := by
  unfold f_hist_Empty.f at H
  refine Fn.bodyK [] Try.func69 rfl rfl (fun Γ hP hn => ?_)
  have hm : Try.prog.follows .mixedOrders = true := by kernel_rfl
  replace hn : Γ.n = 8 := hn
  refine AWp.seq ?_
  refine reg hP hn hm [(0, .k 0)] [0, 1, 4] [0] ⟨[(0, iV .i64 a0), (1, iV .i64 a1), (4, .ptr 0 0 0)], [(0, some (.box 35 [iV .i64 0, iV .i64 0, iV .i64 0, iV .u64 0, iV .u64 0, iV .i64 0, .none0, .none0]))], 0⟩ [] (by kernel_rfl) trivial ?_
  refine AWp.seq ?_
  refine reg hP hn hm [] [4] [0] ⟨[(4, .ptr 0 0 0)], [(0, some (.box 35 [iV .i64 a0, iV .i64 a1, iV .i64 (-524288), iV .u64 0, iV .u64 0, iV .i64 0, .none0, .none0]))], 0⟩ [] (by kernel_rfl) trivial ?_
  refine AWp.conv (inv := [(0, 0)]) (vk := []) (e0 := []) (t := ⟨[(4, .ptr 0 0 0)], [(0, some (.box 35 (aHist ((⟨a0, a1, (-524288), 0, 0, 0, [], []⟩ : THist)))))], 0⟩) (by kernel_rfl) ?_
  refine AWp.ret ?_
  obtain rfl := Option.some.inj H
  exact Exists.intro _ (And.intro (fun _ _ h => h) (And.intro (.inl rfl) (And.intro rfl (And.intro (by kernel_rfl) (by kernel_rfl)))))
def f_slices_Clone_api_Bucket.f (a0 : List TBucket) : Option (List TBucket) := (chk ((([] : List TBucket).length + a0.length) * 16 ≤ 140737488355328)) >>= fun _ => some a0
theorem f_slices_Clone_api_Bucket.ok (a0 r : List TBucket) (H : f_slices_Clone_api_Bucket.f a0 = some r) : Pv.Fn Try.prog 131 [.im (.row (a0.map eBucket))] [] 0 (fun x o => x = .own 0 ∧ o = [(0, some (.row 2 127 (r.map eBucket)))]) := by
  unfold f_slices_Clone_api_Bucket.f at H
  obtain ⟨c1, H⟩ := chk_of H
  obtain rfl := Option.some.inj H
  refine Fn.bodyK [0] Try.func131 rfl rfl (fun Γ hP hn => ?_)
  have hm : Try.prog.follows .mixedOrders = true := by kernel_rfl
  replace hn : Γ.n = 8 := hn
  refine AWp.seq ?_
  refine reg hP hn hm [] [0, 2] [] ⟨[(0, .im (.row (a0.map eBucket))), (2, .none0)], [], 0⟩ [] (by kernel_rfl) trivial ?_
  refine AWp.seq ?_
  cases a0 with
  | nil =>
    refine AWp.nilSplit 0 rfl (fun b m => ?_)
    refine AWp.seq ?_
    cases b with
    | none =>
      refine reg hP hn hm [(1, .more xNil)] [2, 4] [] ⟨[(2, .none0), (4, bV true)], [], 0⟩ [] (by kernel_rfl) trivial ?_
      refine AWp.cond true rfl (fun _ => ?_) (fun h => nomatch h)
      refine AWp.seq ?_
      refine reg hP hn hm [] [2] [] ⟨[(2, .none0)], [], 0⟩ [] (by kernel_rfl) trivial ?_
      refine AWp.conv (inv := []) (vk := []) (e0 := [0]) (t := ⟨[(2, .own 0)], [(0, some (.row 2 127 []))], 0⟩) (by kernel_rfl) ?_
      refine AWp.ret ?_
      exact Exists.intro _ (And.intro (fun _ _ h => h) (And.intro (.inl rfl) (And.intro rfl (And.intro (by kernel_rfl) (by kernel_rfl)))))
    | some b =>
      refine reg hP hn hm [(1, .more xNil)] [0, 2, 4] [] ⟨[(0, .im (.sc (.slice (some b) 0 m))), (2, .none0), (4, bV false)], [], 0⟩ [] (by kernel_rfl) trivial ?_
      refine AWp.cond false rfl (fun h => nomatch h) (fun _ => ?_)
      refine AWp.skip ?_
      refine AWp.unsplit 0 rfl ?_
      refine AWp.seq ?_
      refine reg hP hn hm [(0, .app 0 ([] : List (List Im))), (2, .app 1 (([] : List TBucket).map eBucket))] [2] [1] ⟨[(2, .own 1)], [(1, some (.row 2 127 (([] : List TBucket).map eBucket)))], 0⟩ [([] : List (List Im)) = [], ([] : List TBucket).map eBucket = ([] : List (List Im)) ++ ([] : List TBucket).map eBucket, ∀ c ∈ ([] : List TBucket).map eBucket, c.length = 2, ∀ c ∈ ([] : List TBucket).map eBucket, leaves (c.map .im) = true, (([] : List (List Im)).length + (([] : List TBucket).map eBucket).length) * 16 ≤ 140737488355328] (by kernel_rfl) ⟨rfl, by simp, by exact all_len _ _ _ (fun _ => rfl), by exact all_leaf _ _ (fun _ => rfl), by simpa using c1, trivial⟩ ?_
      refine AWp.conv (inv := [(1, 0)]) (vk := []) (e0 := []) (t := ⟨[(2, .own 0)], [(0, some (.row 2 127 (([] : List TBucket).map eBucket)))], 0⟩) (by kernel_rfl) ?_
      refine AWp.ret ?_
      exact Exists.intro _ (And.intro (fun _ _ h => h) (And.intro (.inl rfl) (And.intro rfl (And.intro (by kernel_rfl) (by kernel_rfl)))))
  | cons y l =>
    refine AWp.seq ?_
    refine reg hP hn hm [(1, .more xNil)] [0, 2, 4] [] ⟨[(0, .im (.row ((y :: l).map eBucket))), (2, .none0), (4, bV false)], [], 0⟩ [] (by kernel_rfl) trivial ?_
    refine AWp.cond false rfl (fun h => nomatch h) (fun _ => ?_)
    refine AWp.skip ?_
    refine AWp.seq ?_
    refine reg hP hn hm [(0, .app 0 ([] : List (List Im))), (2, .app 1 ((y :: l).map eBucket))] [2] [1] ⟨[(2, .own 1)], [(1, some (.row 2 127 ((y :: l).map eBucket)))], 0⟩ [([] : List (List Im)) = [], (y :: l).map eBucket = ([] : List (List Im)) ++ (y :: l).map eBucket, ∀ c ∈ (y :: l).map eBucket, c.length = 2, ∀ c ∈ (y :: l).map eBucket, leaves (c.map .im) = true, (([] : List (List Im)).length + ((y :: l).map eBucket).length) * 16 ≤ 140737488355328] (by kernel_rfl) ⟨rfl, by simp, by exact all_len _ _ _ (fun _ => rfl), by exact all_leaf _ _ (fun _ => rfl), by simpa using c1, trivial⟩ ?_
    refine AWp.conv (inv := [(1, 0)]) (vk := []) (e0 := []) (t := ⟨[(2, .own 0)], [(0, some (.row 2 127 ((y :: l).map eBucket)))], 0⟩) (by kernel_rfl) ?_
    refine AWp.ret ?_
    exact Exists.intro _ (And.intro (fun _ _ h => h) (And.intro (.inl rfl) (And.intro rfl (And.intro (by kernel_rfl) (by kernel_rfl)))))
def f_cmp_isNaN_int.f (a0 : Int) : Option (Unit) := some ()
theorem f_cmp_isNaN_int.ok (a0 : Int) (r : Unit) (H : f_cmp_isNaN_int.f a0 = some r) : Pv.Fn Try.prog 148 [iV .i64 a0] [] 0 (fun x o => x = bV (a0 != a0) ∧ o = []) := by
  unfold f_cmp_isNaN_int.f at H
  refine Fn.bodyK [] Try.func148 rfl rfl (fun Γ hP hn => ?_)
  have hm : Try.prog.follows .mixedOrders = true := by kernel_rfl
  replace hn : Γ.n = 6 := hn
  refine AWp.seq ?_
  refine reg hP hn hm [] [0] [] ⟨[(0, iV .i64 a0)], [], 0⟩ [] (by kernel_rfl) trivial ?_
  refine AWp.seq ?_
  refine reg hP hn hm [] [2] [] ⟨[(2, bV (a0 != a0))], [], 0⟩ [] (by kernel_rfl) trivial ?_
  refine AWp.conv (inv := []) (vk := []) (e0 := []) (t := ⟨[(2, bV (a0 != a0))], [], 0⟩) (by kernel_rfl) ?_
  refine AWp.ret ?_
  obtain rfl := Option.some.inj H
  exact Exists.intro _ (And.intro (fun _ _ h => h) (And.intro (.inl rfl) (And.intro rfl (And.intro (by kernel_rfl) (by kernel_rfl)))))
def f_cmp_Compare_int.f (a0 : Int) (a1 : Int) : Option (Int) := (f_cmp_isNaN_int.f a0) >>= fun t249 => (f_cmp_isNaN_int.f a1) >>= fun t253 => if (a0 != a0) = true then (if (a1 != a1) = true then (some 0) else (some (-1))) else (if (a1 != a1) = true then (some 1) else (if (decide (a0 < a1)) = true then (some (-1)) else (if (decide (a0 > a1)) = true then (some 1) else (some 0))))
theorem f_cmp_Compare_int.ok (a0 : Int) (a1 : Int) (r : Int) (H : f_cmp_Compare_int.f a0 a1 = some r) : Pv.Fn Try.prog 134 [iV .i64 a0, iV .i64 a1] [] 0 (fun x o => x = iV .i64 r ∧ o = []) := by
  unfold f_cmp_Compare_int.f at H
  refine Fn.bodyK [] Try.func134 rfl rfl (fun Γ hP hn => ?_)
  have hm : Try.prog.follows .mixedOrders = true := by kernel_rfl
  replace hn : Γ.n = 20 := hn
  refine AWp.seq ?_
  refine reg hP hn hm [] [0, 1] [] ⟨[(0, iV .i64 a0), (1, iV .i64 a1)], [], 0⟩ [] (by kernel_rfl) trivial ?_
  refine AWp.seq ?_
  obtain ⟨t249, e250, H⟩ := bind_of H
  refine reg hP hn hm [(1, .call [] [] [] [] 0 (bV (a0 != a0)) [])] [0, 1, 5] [] ⟨[(0, iV .i64 a0), (1, iV .i64 a1), (5, bV (a0 != a0))], [], 0⟩ [Enters Try.prog 148, Pv.Fn Try.prog 148 [iV .i64 a0] [] 0 (fun r o => r = bV (a0 != a0) ∧ o = [])] (by kernel_rfl) ⟨by exact Try.call148, by exact f_cmp_isNaN_int.ok a0 t249 e250, trivial⟩ ?_
  refine AWp.seq ?_
  obtain ⟨t253, e254, H⟩ := bind_of H
  refine reg hP hn hm [(1, .call [] [] [] [] 0 (bV (a1 != a1)) [])] [0, 1, 5, 6] [] ⟨[(0, iV .i64 a0), (1, iV .i64 a1), (5, bV (a0 != a0)), (6, bV (a1 != a1))], [], 0⟩ [Enters Try.prog 148, Pv.Fn Try.prog 148 [iV .i64 a1] [] 0 (fun r o => r = bV (a1 != a1) ∧ o = [])] (by kernel_rfl) ⟨by exact Try.call148, by exact f_cmp_isNaN_int.ok a1 t253 e254, trivial⟩ ?_
  refine AWp.seq ?_
  refine AWp.seq ?_
  refine reg hP hn hm [] [0, 1, 6, 11] [] ⟨[(0, iV .i64 a0), (1, iV .i64 a1), (6, bV (a1 != a1)), (11, bV (a0 != a0))], [], 0⟩ [] (by kernel_rfl) trivial ?_
  refine AWp.cond (a0 != a0) rfl (fun c255 => ?_) (fun c255 => ?_)
  · replace H := (ifT c255).symm.trans H
    refine AWp.seq ?_
    refine AWp.seq ?_
    refine reg hP hn hm [] [12] [] ⟨[(12, bV (a1 != a1))], [], 0⟩ [] (by kernel_rfl) trivial ?_
    refine AWp.cond (a1 != a1) rfl (fun c256 => ?_) (fun c256 => ?_)
    · replace H := (ifT c256).symm.trans H
      refine AWp.seq ?_
      refine reg hP hn hm [] [4] [] ⟨[(4, iV .i64 0)], [], 0⟩ [] (by kernel_rfl) trivial ?_
      refine AWp.conv (inv := []) (vk := []) (e0 := []) (t := ⟨[(4, iV .i64 0)], [], 0⟩) (by kernel_rfl) ?_
      refine AWp.ret ?_
      obtain rfl := Option.some.inj H
      exact Exists.intro _ (And.intro (fun _ _ h => h) (And.intro (.inl rfl) (And.intro rfl (And.intro (by kernel_rfl) (by kernel_rfl)))))
    · replace H := (ifF c256).symm.trans H
      refine AWp.skip ?_
      refine AWp.seq ?_
      refine reg hP hn hm [] [4] [] ⟨[(4, iV .i64 (-1))], [], 0⟩ [] (by kernel_rfl) trivial ?_
      refine AWp.conv (inv := []) (vk := []) (e0 := []) (t := ⟨[(4, iV .i64 (-1))], [], 0⟩) (by kernel_rfl) ?_
      refine AWp.ret ?_
      obtain rfl := Option.some.inj H
      exact Exists.intro _ (And.intro (fun _ _ h => h) (And.intro (.inl rfl) (And.intro rfl (And.intro (by kernel_rfl) (by kernel_rfl)))))
  · replace H := (ifF c255).symm.trans H
    refine AWp.skip ?_
    refine AWp.seq ?_
    refine AWp.seq ?_
    refine reg hP hn hm [] [0, 1, 13] [] ⟨[(0, iV .i64 a0), (1, iV .i64 a1), (13, bV (a1 != a1))], [], 0⟩ [] (by kernel_rfl) trivial ?_
    refine AWp.cond (a1 != a1) rfl (fun c257 => ?_) (fun c257 => ?_)
    · replace H := (ifT c257).symm.trans H
      refine AWp.seq ?_
      refine reg hP hn hm [] [4] [] ⟨[(4, iV .i64 1)], [], 0⟩ [] (by kernel_rfl) trivial ?_
      refine AWp.conv (inv := []) (vk := []) (e0 := []) (t := ⟨[(4, iV .i64 1)], [], 0⟩) (by kernel_rfl) ?_
      refine AWp.ret ?_
      obtain rfl := Option.some.inj H
      exact Exists.intro _ (And.intro (fun _ _ h => h) (And.intro (.inl rfl) (And.intro rfl (And.intro (by kernel_rfl) (by kernel_rfl)))))
    · replace H := (ifF c257).symm.trans H
      refine AWp.skip ?_
      refine AWp.seq ?_
      refine AWp.seq ?_
      refine reg hP hn hm [] [0, 1, 16] [] ⟨[(0, iV .i64 a0), (1, iV .i64 a1), (16, bV (decide (a0 < a1)))], [], 0⟩ [] (by kernel_rfl) trivial ?_
      refine AWp.cond (decide (a0 < a1)) rfl (fun c258 => ?_) (fun c258 => ?_)
      · replace H := (ifT c258).symm.trans H
        refine AWp.seq ?_
        refine reg hP hn hm [] [4] [] ⟨[(4, iV .i64 (-1))], [], 0⟩ [] (by kernel_rfl) trivial ?_
        refine AWp.conv (inv := []) (vk := []) (e0 := []) (t := ⟨[(4, iV .i64 (-1))], [], 0⟩) (by kernel_rfl) ?_
        refine AWp.ret ?_
        obtain rfl := Option.some.inj H
        exact Exists.intro _ (And.intro (fun _ _ h => h) (And.intro (.inl rfl) (And.intro rfl (And.intro (by kernel_rfl) (by kernel_rfl)))))
      · replace H := (ifF c258).symm.trans H
        refine AWp.skip ?_
        refine AWp.seq ?_
        refine AWp.seq ?_
        refine reg hP hn hm [] [19] [] ⟨[(19, bV (decide (a0 > a1)))], [], 0⟩ [] (by kernel_rfl) trivial ?_
        refine AWp.cond (decide (a0 > a1)) rfl (fun c259 => ?_) (fun c259 => ?_)
        · replace H := (ifT c259).symm.trans H
          refine AWp.seq ?_
          refine reg hP hn hm [] [4] [] ⟨[(4, iV .i64 1)], [], 0⟩ [] (by kernel_rfl) trivial ?_
          refine AWp.conv (inv := []) (vk := []) (e0 := []) (t := ⟨[(4, iV .i64 1)], [], 0⟩) (by kernel_rfl) ?_
          refine AWp.ret ?_
          obtain rfl := Option.some.inj H
          exact Exists.intro _ (And.intro (fun _ _ h => h) (And.intro (.inl rfl) (And.intro rfl (And.intro (by kernel_rfl) (by kernel_rfl)))))
        · replace H := (ifF c259).symm.trans H
          refine AWp.skip ?_
          refine AWp.seq ?_
          refine reg hP hn hm [] [4] [] ⟨[(4, iV .i64 0)], [], 0⟩ [] (by kernel_rfl) trivial ?_
          refine AWp.conv (inv := []) (vk := []) (e0 := []) (t := ⟨[(4, iV .i64 0)], [], 0⟩) (by kernel_rfl) ?_
          refine AWp.ret ?_
          obtain rfl := Option.some.inj H
          exact Exists.intro _ (And.intro (fun _ _ h => h) (And.intro (.inl rfl) (And.intro rfl (And.intro (by kernel_rfl) (by kernel_rfl)))))
def f_hist_tidy_1.f (a0 : TBucket) (a1 : TBucket) : Option (Int) := (f_cmp_Compare_int.f a0.f0 a1.f0) >>= fun t262 => some t262
theorem f_hist_tidy_1.ok (a0 : TBucket) (a1 : TBucket) (r : Int) (H : f_hist_tidy_1.f a0 a1 = some r) : Pv.Fn Try.prog 133 [.agg (aBucket a0), .agg (aBucket a1)] [] 0 (fun x o => x = iV .i64 r ∧ o = []) := by
  unfold f_hist_tidy_1.f at H
  refine Fn.bodyK [] Try.func133 rfl rfl (fun Γ hP hn => ?_)
  have hm : Try.prog.follows .mixedOrders = true := by kernel_rfl
  replace hn : Γ.n = 10 := hn
  refine AWp.seq ?_
  refine reg hP hn hm [(0, .k 0), (1, .k 1)] [2, 3] [0, 1] ⟨[(2, .ptr 0 0 0), (3, .ptr 1 0 0)], [(0, some (.box 127 (aBucket a0))), (1, some (.box 127 (aBucket a1)))], 0⟩ [] (by kernel_rfl) trivial ?_
  refine AWp.seq ?_
  obtain ⟨t262, e263, H⟩ := bind_of H
  refine reg hP hn hm [(4, .call [] [] [] [] 0 (iV .i64 t262) [])] [4] [] ⟨[(4, iV .i64 t262)], [], 0⟩ [Enters Try.prog 134, Pv.Fn Try.prog 134 [iV .i64 a0.f0, iV .i64 a1.f0] [] 0 (fun r o => r = iV .i64 t262 ∧ o = [])] (by kernel_rfl) ⟨by exact Try.call134, by exact f_cmp_Compare_int.ok a0.f0 a1.f0 t262 e263, trivial⟩ ?_
  refine AWp.conv (inv := []) (vk := []) (e0 := []) (t := ⟨[(4, iV .i64 t262)], [], 0⟩) (by kernel_rfl) ?_
  refine AWp.ret ?_
  obtain rfl := Option.some.inj H
  exact Exists.intro _ (And.intro (fun _ _ h => h) (And.intro (.inl rfl) (And.intro rfl (And.intro (by kernel_rfl) (by kernel_rfl)))))
def f_slices_insertionSortCmpFunc_api_Bucket_hist_tidy_1.l1 (a1 : Int) (a2 : Int) (x337 : Int) (x377 : List TBucket) (x378 : Int) : Option (List TBucket) := ((if (decide (x378 > a1)) = true then ((at? x377 x378) >>= fun b389 => (at? x377 (IntKind.i64.wrap (x378 - (1 : Int)))) >>= fun b392 => (f_hist_tidy_1.f b389 b392) >>= fun t395 => some (decide (t395 < (0 : Int)))) else (some false)) : Option (Bool)) >>= fun x397 => if x397 = true then ((at? x377 (IntKind.i64.wrap (x378 - (1 : Int)))) >>= fun b408 => (at? x377 x378) >>= fun b411 => (at? (x377.set (Int.toNat (x378)) b408) (IntKind.i64.wrap (x378 - (1 : Int)))) >>= fun b414 => f_slices_insertionSortCmpFunc_api_Bucket_hist_tidy_1.l1 a1 a2 x337 ((x377.set (Int.toNat (x378)) b408).set (Int.toNat (IntKind.i64.wrap (x378 - (1 : Int)))) b411) (IntKind.i64.wrap (x378 - (1 : Int)))) else (some x377)
partial_fixpoint
def f_slices_insertionSortCmpFunc_api_Bucket_hist_tidy_1.l0 (a1 : Int) (a2 : Int) (x336 : List TBucket) (x337 : Int) : Option (List TBucket) := if (decide (x337 < a2)) = true then ((f_slices_insertionSortCmpFunc_api_Bucket_hist_tidy_1.l1 a1 a2 x337 x336 x337) >>= fun x417 => f_slices_insertionSortCmpFunc_api_Bucket_hist_tidy_1.l0 a1 a2 x417 (IntKind.i64.wrap (x337 + (1 : Int)))) else (some x336)
partial_fixpoint
def f_slices_insertionSortCmpFunc_api_Bucket_hist_tidy_1.f (a0 : List TBucket) (a1 : Int) (a2 : Int) : Option (List TBucket) := (f_slices_insertionSortCmpFunc_api_Bucket_hist_tidy_1.l0 a1 a2 a0 (IntKind.i64.wrap (a1 + (1 : Int)))) >>= fun x418 => some x418
theorem f_slices_insertionSortCmpFunc_api_Bucket_hist_tidy_1.ok (a0 : List TBucket) (a1 : Int) (a2 : Int) (r : List TBucket) (H : f_slices_insertionSortCmpFunc_api_Bucket_hist_tidy_1.f a0 a1 a2 = some r) : Pv.Fn Try.prog 150 [.own 0, iV .i64 a1, iV .i64 a2, .im (.sc (.func (.func 133) #[] #[]))] [(0, some (.row 2 127 (a0.map eBucket)))] 1 (fun x o => x = .tup [] ∧ o = [(0, some (.row 2 127 (r.map eBucket)))]) := by
  unfold f_slices_insertionSortCmpFunc_api_Bucket_hist_tidy_1.f at H
  refine Fn.bodyK [0] Try.func150 rfl rfl (fun Γ hP hn => ?_)
  have hm : Try.prog.follows .mixedOrders = true := by kernel_rfl
  replace hn : Γ.n = 53 := hn
  refine AWp.seq ?_
  refine reg hP hn hm [] [0, 1, 2, 3, 8] [0] ⟨[(0, .own 0), (1, iV .i64 a1), (2, iV .i64 a2), (3, .im (.sc (.func (.func 133) #[] #[]))), (8, iV .i64 (IntKind.i64.wrap (a1 + (1 : Int))))], [(0, some (.row 2 127 (a0.map eBucket)))], 1⟩ [] (by kernel_rfl) trivial ?_
  refine AWp.block ?_
  obtain ⟨o419, e420, H⟩ := bind_of H
  refine AWp.loop (LWp.conv (inv := [(0, 0)]) (vk := []) (e0 := []) (t := ⟨[(0, .own 0), (1, iV .i64 a1), (2, iV .i64 a2), (3, .im (.sc (.func (.func 133) #[] #[]))), (8, iV .i64 (IntKind.i64.wrap (a1 + (1 : Int))))], [(0, some (.row 2 127 (a0.map eBucket)))], 1⟩) (by kernel_rfl) ?_)
  refine LWp.mono (Q := fun e s => (match (generalizing := false) o419 with | x418 => e = .exit 0 ∧ s = ⟨[], [(0, some (.row 2 127 (x418.map eBucket)))], 1⟩)) (LWp.cv (withBody (fun body hbody => ?_))) ?_
  · refine f_slices_insertionSortCmpFunc_api_Bucket_hist_tidy_1.l0.partial_correctness a1 a2 (motive := fun x336 x337 o419 => LWp Γ body (fun e s => ∃ t, Cv Γ s t ∧ (match (generalizing := false) o419 with | x418 => e = .exit 0 ∧ t = ⟨[], [(0, some (.row 2 127 (x418.map eBucket)))], 1⟩)) ⟨[(0, .own 0), (1, iV .i64 a1), (2, iV .i64 a2), (3, .im (.sc (.func (.func 133) #[] #[]))), (8, iV .i64 x337)], [(0, some (.row 2 127 (x336.map eBucket)))], 1⟩) ?_ _ _ _ e420
    clear H e420 o419; intro self ih x336 x337 o419 H
    subst hbody
    refine LWp.round ?_
    refine AWp.seq ?_
    refine AWp.seq ?_
    refine reg hP hn hm [] [0, 1, 2, 3, 8, 14] [0] ⟨[(0, .own 0), (1, iV .i64 a1), (2, iV .i64 a2), (3, .im (.sc (.func (.func 133) #[] #[]))), (8, iV .i64 x337), (14, bV (decide (x337 < a2)))], [(0, some (.row 2 127 (x336.map eBucket)))], 1⟩ [] (by kernel_rfl) trivial ?_
    refine AWp.cond (decide (x337 < a2)) rfl (fun c338 => ?_) (fun c338 => ?_)
    · replace H := (ifT c338).symm.trans H
      refine AWp.skip ?_
      refine AWp.seq ?_
      refine AWp.block ?_
      refine AWp.seq ?_
      refine reg hP hn hm [] [0, 1, 2, 3, 8, 9] [0] ⟨[(0, .own 0), (1, iV .i64 a1), (2, iV .i64 a2), (3, .im (.sc (.func (.func 133) #[] #[]))), (8, iV .i64 x337), (9, iV .i64 x337)], [(0, some (.row 2 127 (x336.map eBucket)))], 1⟩ [] (by kernel_rfl) trivial ?_
      refine AWp.block ?_
      obtain ⟨o421, e422, H⟩ := bind_of H
      refine AWp.loop (LWp.conv (inv := [(0, 0)]) (vk := []) (e0 := []) (t := ⟨[(0, .own 0), (1, iV .i64 a1), (2, iV .i64 a2), (3, .im (.sc (.func (.func 133) #[] #[]))), (8, iV .i64 x337), (9, iV .i64 x337)], [(0, some (.row 2 127 (x336.map eBucket)))], 1⟩) (by kernel_rfl) ?_)
      refine LWp.mono (Q := fun e s => (match (generalizing := false) o421 with | x417 => e = .exit 2 ∧ s = ⟨[(0, .own 0), (1, iV .i64 a1), (2, iV .i64 a2), (3, .im (.sc (.func (.func 133) #[] #[]))), (8, iV .i64 x337)], [(0, some (.row 2 127 (x417.map eBucket)))], 1⟩)) (LWp.cv (withBody (fun body hbody => ?_))) ?_
      · refine f_slices_insertionSortCmpFunc_api_Bucket_hist_tidy_1.l1.partial_correctness a1 a2 x337 (motive := fun x377 x378 o421 => LWp Γ body (fun e s => ∃ t, Cv Γ s t ∧ (match (generalizing := false) o421 with | x417 => e = .exit 2 ∧ t = ⟨[(0, .own 0), (1, iV .i64 a1), (2, iV .i64 a2), (3, .im (.sc (.func (.func 133) #[] #[]))), (8, iV .i64 x337)], [(0, some (.row 2 127 (x417.map eBucket)))], 1⟩)) ⟨[(0, .own 0), (1, iV .i64 a1), (2, iV .i64 a2), (3, .im (.sc (.func (.func 133) #[] #[]))), (8, iV .i64 x337), (9, iV .i64 x378)], [(0, some (.row 2 127 (x377.map eBucket)))], 1⟩) ?_ _ _ _ e422
        clear H e422 o421; intro self ih x377 x378 o421 H
        subst hbody
        refine LWp.round ?_
        refine AWp.seq ?_
        refine AWp.seq ?_
        obtain ⟨o423, e424, H⟩ := bind_of H
        refine AWp.mono (Q := fun e s => (match (generalizing := false) o423 with | x397 => e = .normal ∧ s = ⟨[(0, .own 0), (1, iV .i64 a1), (2, iV .i64 a2), (3, .im (.sc (.func (.func 133) #[] #[]))), (8, iV .i64 x337), (9, iV .i64 x378), (34, bV x397)], [(0, some (.row 2 127 (x377.map eBucket)))], 1⟩)) (AWp.cv ?_) ?_
        · replace H := e424; clear e424
          rcases Bool.eq_false_or_eq_true (decide (x378 > a1)) with c388 | c388
          · replace H := (ifT c388).symm.trans H
            obtain ⟨b389, p390, q391, H⟩ := at_of H
            obtain ⟨b392, p393, q394, H⟩ := at_of H
            obtain ⟨t395, e396, H⟩ := bind_of H
            refine reg hP hn hm [(3, .b true), (8, .c (eBucket b389)), (13, .c (eBucket b392)), (14, .call [] [] [] [] 0 (iV .i64 t395) [])] [0, 1, 2, 3, 8, 9, 22, 23, 24, 25, 26, 27, 28, 29, 30, 31, 32, 33, 34] [0] ⟨[(0, .own 0), (1, iV .i64 a1), (2, iV .i64 a2), (3, .im (.sc (.func (.func 133) #[] #[]))), (8, iV .i64 x337), (9, iV .i64 x378), (22, .im (.sc (.func (.func 133) #[] #[]))), (23, .own 0), (24, iV .i64 x378), (25, .ptr 0 (Int.toNat (x378)) 0), (26, .agg (aBucket b389)), (27, .own 0), (28, iV .i64 x378), (29, iV .i64 (IntKind.i64.wrap (x378 - (1 : Int)))), (30, .ptr 0 (Int.toNat (IntKind.i64.wrap (x378 - (1 : Int)))) 0), (31, .agg (aBucket b392)), (32, iV .i64 t395), (33, bV (decide (t395 < (0 : Int)))), (34, bV (decide (t395 < (0 : Int))))], [(0, some (.row 2 127 (x377.map eBucket)))], 1⟩ [(decide (x378 > a1)) = true, 0 ≤ x378, x378 < (((x377.map eBucket).length : Nat) : Int), (x377.map eBucket)[(Int.toNat (x378))]? = some (eBucket b389), 0 ≤ (IntKind.i64.wrap (x378 - (1 : Int))), IntKind.i64.wrap (x378 - (1 : Int)) < (((x377.map eBucket).length : Nat) : Int), (x377.map eBucket)[(Int.toNat (IntKind.i64.wrap (x378 - (1 : Int))))]? = some (eBucket b392), Enters Try.prog 133, Pv.Fn Try.prog 133 [.agg (aBucket b389), .agg (aBucket b392)] [] 0 (fun r o => r = iV .i64 t395 ∧ o = [])] (by kernel_rfl) ⟨by exact c388, by exact p390, by exact el_lt eBucket p390 q391, by exact el_map eBucket q391, by exact p393, by exact el_lt eBucket p393 q394, by exact el_map eBucket q394, by exact Try.call133, by exact f_hist_tidy_1.ok b389 b392 t395 e396, trivial⟩ ?_
            obtain rfl := Option.some.inj H
            exact Exists.intro _ (And.intro (fun _ _ h => h.conv (inv := [(0, 0)]) (vk := []) (e0 := []) (t := ⟨[(0, .own 0), (1, iV .i64 a1), (2, iV .i64 a2), (3, .im (.sc (.func (.func 133) #[] #[]))), (8, iV .i64 x337), (9, iV .i64 x378), (34, bV (decide (t395 < (0 : Int))))], [(0, some (.row 2 127 (x377.map eBucket)))], 1⟩) (by kernel_rfl)) (And.intro rfl rfl))
          · replace H := (ifF c388).symm.trans H
            refine reg hP hn hm [(3, .b false)] [0, 1, 2, 3, 8, 9, 34] [0] ⟨[(0, .own 0), (1, iV .i64 a1), (2, iV .i64 a2), (3, .im (.sc (.func (.func 133) #[] #[]))), (8, iV .i64 x337), (9, iV .i64 x378), (34, bV false)], [(0, some (.row 2 127 (x377.map eBucket)))], 1⟩ [(decide (x378 > a1)) = false] (by kernel_rfl) ⟨by exact c388, trivial⟩ ?_
            obtain rfl := Option.some.inj H
            exact Exists.intro _ (And.intro (fun _ _ h => h.conv (inv := [(0, 0)]) (vk := []) (e0 := []) (t := ⟨[(0, .own 0), (1, iV .i64 a1), (2, iV .i64 a2), (3, .im (.sc (.func (.func 133) #[] #[]))), (8, iV .i64 x337), (9, iV .i64 x378), (34, bV false)], [(0, some (.row 2 127 (x377.map eBucket)))], 1⟩) (by kernel_rfl)) (And.intro rfl rfl))
        · obtain ⟨x397, rfl⟩ : ∃ z, z = o423 := ⟨_, rfl⟩
          rintro e s ⟨rfl, rfl⟩
          refine AWp.cond x397 rfl (fun c398 => ?_) (fun c398 => ?_)
          · replace H := (ifT c398).symm.trans H
            refine AWp.skip ?_
            refine AWp.seq ?_
            refine AWp.block ?_
            obtain ⟨b408, p409, q410, H⟩ := at_of H
            obtain ⟨b411, p412, q413, H⟩ := at_of H
            obtain ⟨b414, p415, q416, H⟩ := at_of H
            refine reg hP hn hm [(9, .c (eBucket b408)), (13, .c (eBucket b411)), (15, .put (eBucket b411) ((x377.set (Int.toNat (x378)) b408).map eBucket)), (17, .put (eBucket b414) (((x377.set (Int.toNat (x378)) b408).set (Int.toNat (IntKind.i64.wrap (x378 - (1 : Int)))) b411).map eBucket))] [0, 1, 2, 3, 8, 9] [0] ⟨[(0, .own 0), (1, iV .i64 a1), (2, iV .i64 a2), (3, .im (.sc (.func (.func 133) #[] #[]))), (8, iV .i64 x337), (9, iV .i64 x378)], [(0, some (.row 2 127 (((x377.set (Int.toNat (x378)) b408).set (Int.toNat (IntKind.i64.wrap (x378 - (1 : Int)))) b411).map eBucket)))], 1⟩ [0 ≤ (IntKind.i64.wrap (x378 - (1 : Int))), IntKind.i64.wrap (x378 - (1 : Int)) < (((x377.map eBucket).length : Nat) : Int), (x377.map eBucket)[(Int.toNat (IntKind.i64.wrap (x378 - (1 : Int))))]? = some (eBucket b408), 0 ≤ x378, x378 < (((x377.map eBucket).length : Nat) : Int), (x377.map eBucket)[(Int.toNat (x378))]? = some (eBucket b411), 0 ≤ x378, x378 < (((x377.map eBucket).length : Nat) : Int), (x377.map eBucket)[(Int.toNat (x378))]? = some (eBucket b411), (x377.set (Int.toNat (x378)) b408).map eBucket = (x377.map eBucket).set (Int.toNat (x378)) (splice (eBucket b411) 0 [iI .i64 b408.f0, iI .u64 b408.f1]), 0 ≤ (IntKind.i64.wrap (x378 - (1 : Int))), IntKind.i64.wrap (x378 - (1 : Int)) < ((((x377.set (Int.toNat (x378)) b408).map eBucket).length : Nat) : Int), ((x377.set (Int.toNat (x378)) b408).map eBucket)[(Int.toNat (IntKind.i64.wrap (x378 - (1 : Int))))]? = some (eBucket b414), ((x377.set (Int.toNat (x378)) b408).set (Int.toNat (IntKind.i64.wrap (x378 - (1 : Int)))) b411).map eBucket = ((x377.set (Int.toNat (x378)) b408).map eBucket).set (Int.toNat (IntKind.i64.wrap (x378 - (1 : Int)))) (splice (eBucket b414) 0 [iI .i64 b411.f0, iI .u64 b411.f1])] (by kernel_rfl) ⟨by exact p409, by exact el_lt eBucket p409 q410, by exact el_map eBucket q410, by exact p412, by exact el_lt eBucket p412 q413, by exact el_map eBucket q413, by exact p412, by exact el_lt eBucket p412 q413, by exact el_map eBucket q413, by exact set1 _ _ _ _, by exact p415, by exact el_lt eBucket p415 q416, by exact el_map eBucket q416, by exact set1 _ _ _ _, trivial⟩ ?_
            refine reg hP hn hm [] [0, 1, 2, 3, 8, 9] [0] ⟨[(0, .own 0), (1, iV .i64 a1), (2, iV .i64 a2), (3, .im (.sc (.func (.func 133) #[] #[]))), (8, iV .i64 x337), (9, iV .i64 (IntKind.i64.wrap (x378 - (1 : Int))))], [(0, some (.row 2 127 (((x377.set (Int.toNat (x378)) b408).set (Int.toNat (IntKind.i64.wrap (x378 - (1 : Int)))) b411).map eBucket)))], 1⟩ [] (by kernel_rfl) trivial ?_
            exact LWp.conv (inv := [(0, 0)]) (vk := []) (e0 := []) (t := ⟨[(0, .own 0), (1, iV .i64 a1), (2, iV .i64 a2), (3, .im (.sc (.func (.func 133) #[] #[]))), (8, iV .i64 x337), (9, iV .i64 (IntKind.i64.wrap (x378 - (1 : Int))))], [(0, some (.row 2 127 (((x377.set (Int.toNat (x378)) b408).set (Int.toNat (IntKind.i64.wrap (x378 - (1 : Int)))) b411).map eBucket)))], 1⟩) (by kernel_rfl) (ih _ _ _ H)
          · replace H := (ifF c398).symm.trans H
            refine AWp.exit ?_
            obtain rfl := Option.some.inj H
            exact Exists.intro _ (And.intro (fun _ _ h => h.conv (inv := [(0, 0)]) (vk := []) (e0 := []) (t := ⟨[(0, .own 0), (1, iV .i64 a1), (2, iV .i64 a2), (3, .im (.sc (.func (.func 133) #[] #[]))), (8, iV .i64 x337)], [(0, some (.row 2 127 (x377.map eBucket)))], 1⟩) (by kernel_rfl)) (And.intro rfl rfl))
      · obtain ⟨x417, rfl⟩ : ∃ z, z = o421 := ⟨_, rfl⟩
        rintro e s ⟨rfl, rfl⟩
        refine reg hP hn hm [] [0, 1, 2, 3, 8] [0] ⟨[(0, .own 0), (1, iV .i64 a1), (2, iV .i64 a2), (3, .im (.sc (.func (.func 133) #[] #[]))), (8, iV .i64 (IntKind.i64.wrap (x337 + (1 : Int))))], [(0, some (.row 2 127 (x417.map eBucket)))], 1⟩ [] (by kernel_rfl) trivial ?_
        exact LWp.conv (inv := [(0, 0)]) (vk := []) (e0 := []) (t := ⟨[(0, .own 0), (1, iV .i64 a1), (2, iV .i64 a2), (3, .im (.sc (.func (.func 133) #[] #[]))), (8, iV .i64 (IntKind.i64.wrap (x337 + (1 : Int))))], [(0, some (.row 2 127 (x417.map eBucket)))], 1⟩) (by kernel_rfl) (ih _ _ _ H)
    · replace H := (ifF c338).symm.trans H
      refine AWp.exit ?_
      obtain rfl := Option.some.inj H
      exact Exists.intro _ (And.intro (fun _ _ h => h.conv (inv := [(0, 0)]) (vk := []) (e0 := []) (t := ⟨[], [(0, some (.row 2 127 (x336.map eBucket)))], 1⟩) (by kernel_rfl)) (And.intro rfl rfl))
  · obtain ⟨x418, rfl⟩ : ∃ z, z = o419 := ⟨_, rfl⟩
    rintro e s ⟨rfl, rfl⟩
    obtain rfl := Option.some.inj H
    exact Exists.intro ⟨[], [(0, some (.row 2 127 (x418.map eBucket)))], 1⟩ (And.intro (fun _ _ h => h.conv (inv := [(0, 0)]) (vk := []) (e0 := []) (t := ⟨[], [(0, some (.row 2 127 (x418.map eBucket)))], 1⟩) (by kernel_rfl)) (And.intro (.inr rfl) (And.intro rfl (And.intro (by kernel_rfl) (by kernel_rfl)))))
def f_slices_swapRangeCmpFunc_api_Bucket_hist_tidy_1.l0 (a1 : Int) (a2 : Int) (a3 : Int) (x686 : List TBucket) (x687 : Int) : Option (List TBucket) := if (decide (x687 < a3)) = true then ((at? x686 (IntKind.i64.wrap (a2 + x687))) >>= fun b698 => (at? x686 (IntKind.i64.wrap (a1 + x687))) >>= fun b701 => (at? (x686.set (Int.toNat (IntKind.i64.wrap (a1 + x687))) b698) (IntKind.i64.wrap (a2 + x687))) >>= fun b704 => f_slices_swapRangeCmpFunc_api_Bucket_hist_tidy_1.l0 a1 a2 a3 ((x686.set (Int.toNat (IntKind.i64.wrap (a1 + x687))) b698).set (Int.toNat (IntKind.i64.wrap (a2 + x687))) b701) (IntKind.i64.wrap (x687 + (1 : Int)))) else (some x686)
partial_fixpoint
def f_slices_swapRangeCmpFunc_api_Bucket_hist_tidy_1.f (a0 : List TBucket) (a1 : Int) (a2 : Int) (a3 : Int) : Option (List TBucket) := (f_slices_swapRangeCmpFunc_api_Bucket_hist_tidy_1.l0 a1 a2 a3 a0 0) >>= fun x707 => some x707
theorem f_slices_swapRangeCmpFunc_api_Bucket_hist_tidy_1.ok (a0 : List TBucket) (a1 : Int) (a2 : Int) (a3 : Int) (r : List TBucket) (H : f_slices_swapRangeCmpFunc_api_Bucket_hist_tidy_1.f a0 a1 a2 a3 = some r) : Pv.Fn Try.prog 153 [.own 0, iV .i64 a1, iV .i64 a2, iV .i64 a3, .im (.sc (.func (.func 133) #[] #[]))] [(0, some (.row 2 127 (a0.map eBucket)))] 1 (fun x o => x = .tup [] ∧ o = [(0, some (.row 2 127 (r.map eBucket)))]) := by
  unfold f_slices_swapRangeCmpFunc_api_Bucket_hist_tidy_1.f at H
  refine Fn.bodyK [0] Try.func153 rfl rfl (fun Γ hP hn => ?_)
  have hm : Try.prog.follows .mixedOrders = true := by kernel_rfl
  replace hn : Γ.n = 38 := hn
  refine AWp.seq ?_
  refine reg hP hn hm [] [0, 1, 2, 3, 10] [0] ⟨[(0, .own 0), (1, iV .i64 a1), (2, iV .i64 a2), (3, iV .i64 a3), (10, iV .i64 0)], [(0, some (.row 2 127 (a0.map eBucket)))], 1⟩ [] (by kernel_rfl) trivial ?_
  refine AWp.block ?_
  obtain ⟨o708, e709, H⟩ := bind_of H
  refine AWp.loop (LWp.conv (inv := [(0, 0)]) (vk := []) (e0 := []) (t := ⟨[(0, .own 0), (1, iV .i64 a1), (2, iV .i64 a2), (3, iV .i64 a3), (10, iV .i64 0)], [(0, some (.row 2 127 (a0.map eBucket)))], 1⟩) (by kernel_rfl) ?_)
  refine LWp.mono (Q := fun e s => (match (generalizing := false) o708 with | x707 => e = .exit 0 ∧ s = ⟨[], [(0, some (.row 2 127 (x707.map eBucket)))], 1⟩)) (LWp.cv (withBody (fun body hbody => ?_))) ?_
  · refine f_slices_swapRangeCmpFunc_api_Bucket_hist_tidy_1.l0.partial_correctness a1 a2 a3 (motive := fun x686 x687 o708 => LWp Γ body (fun e s => ∃ t, Cv Γ s t ∧ (match (generalizing := false) o708 with | x707 => e = .exit 0 ∧ t = ⟨[], [(0, some (.row 2 127 (x707.map eBucket)))], 1⟩)) ⟨[(0, .own 0), (1, iV .i64 a1), (2, iV .i64 a2), (3, iV .i64 a3), (10, iV .i64 x687)], [(0, some (.row 2 127 (x686.map eBucket)))], 1⟩) ?_ _ _ _ e709
    clear H e709 o708; intro self ih x686 x687 o708 H
    subst hbody
    refine LWp.round ?_
    refine AWp.seq ?_
    refine AWp.seq ?_
    refine reg hP hn hm [] [0, 1, 2, 3, 10, 13] [0] ⟨[(0, .own 0), (1, iV .i64 a1), (2, iV .i64 a2), (3, iV .i64 a3), (10, iV .i64 x687), (13, bV (decide (x687 < a3)))], [(0, some (.row 2 127 (x686.map eBucket)))], 1⟩ [] (by kernel_rfl) trivial ?_
    refine AWp.cond (decide (x687 < a3)) rfl (fun c688 => ?_) (fun c688 => ?_)
    · replace H := (ifT c688).symm.trans H
      refine AWp.skip ?_
      refine AWp.seq ?_
      refine AWp.block ?_
      obtain ⟨b698, p699, q700, H⟩ := at_of H
      obtain ⟨b701, p702, q703, H⟩ := at_of H
      obtain ⟨b704, p705, q706, H⟩ := at_of H
      refine reg hP hn hm [(13, .c (eBucket b698)), (19, .c (eBucket b701)), (21, .put (eBucket b701) ((x686.set (Int.toNat (IntKind.i64.wrap (a1 + x687))) b698).map eBucket)), (23, .put (eBucket b704) (((x686.set (Int.toNat (IntKind.i64.wrap (a1 + x687))) b698).set (Int.toNat (IntKind.i64.wrap (a2 + x687))) b701).map eBucket))] [0, 1, 2, 3, 10] [0] ⟨[(0, .own 0), (1, iV .i64 a1), (2, iV .i64 a2), (3, iV .i64 a3), (10, iV .i64 x687)], [(0, some (.row 2 127 (((x686.set (Int.toNat (IntKind.i64.wrap (a1 + x687))) b698).set (Int.toNat (IntKind.i64.wrap (a2 + x687))) b701).map eBucket)))], 1⟩ [0 ≤ (IntKind.i64.wrap (a2 + x687)), IntKind.i64.wrap (a2 + x687) < (((x686.map eBucket).length : Nat) : Int), (x686.map eBucket)[(Int.toNat (IntKind.i64.wrap (a2 + x687)))]? = some (eBucket b698), 0 ≤ (IntKind.i64.wrap (a1 + x687)), IntKind.i64.wrap (a1 + x687) < (((x686.map eBucket).length : Nat) : Int), (x686.map eBucket)[(Int.toNat (IntKind.i64.wrap (a1 + x687)))]? = some (eBucket b701), 0 ≤ (IntKind.i64.wrap (a1 + x687)), IntKind.i64.wrap (a1 + x687) < (((x686.map eBucket).length : Nat) : Int), (x686.map eBucket)[(Int.toNat (IntKind.i64.wrap (a1 + x687)))]? = some (eBucket b701), (x686.set (Int.toNat (IntKind.i64.wrap (a1 + x687))) b698).map eBucket = (x686.map eBucket).set (Int.toNat (IntKind.i64.wrap (a1 + x687))) (splice (eBucket b701) 0 [iI .i64 b698.f0, iI .u64 b698.f1]), 0 ≤ (IntKind.i64.wrap (a2 + x687)), IntKind.i64.wrap (a2 + x687) < ((((x686.set (Int.toNat (IntKind.i64.wrap (a1 + x687))) b698).map eBucket).length : Nat) : Int), ((x686.set (Int.toNat (IntKind.i64.wrap (a1 + x687))) b698).map eBucket)[(Int.toNat (IntKind.i64.wrap (a2 + x687)))]? = some (eBucket b704), ((x686.set (Int.toNat (IntKind.i64.wrap (a1 + x687))) b698).set (Int.toNat (IntKind.i64.wrap (a2 + x687))) b701).map eBucket = ((x686.set (Int.toNat (IntKind.i64.wrap (a1 + x687))) b698).map eBucket).set (Int.toNat (IntKind.i64.wrap (a2 + x687))) (splice (eBucket b704) 0 [iI .i64 b701.f0, iI .u64 b701.f1])] (by kernel_rfl) ⟨by exact p699, by exact el_lt eBucket p699 q700, by exact el_map eBucket q700, by exact p702, by exact el_lt eBucket p702 q703, by exact el_map eBucket q703, by exact p702, by exact el_lt eBucket p702 q703, by exact el_map eBucket q703, by exact set1 _ _ _ _, by exact p705, by exact el_lt eBucket p705 q706, by exact el_map eBucket q706, by exact set1 _ _ _ _, trivial⟩ ?_
      refine reg hP hn hm [] [0, 1, 2, 3, 10] [0] ⟨[(0, .own 0), (1, iV .i64 a1), (2, iV .i64 a2), (3, iV .i64 a3), (10, iV .i64 (IntKind.i64.wrap (x687 + (1 : Int))))], [(0, some (.row 2 127 (((x686.set (Int.toNat (IntKind.i64.wrap (a1 + x687))) b698).set (Int.toNat (IntKind.i64.wrap (a2 + x687))) b701).map eBucket)))], 1⟩ [] (by kernel_rfl) trivial ?_
      exact LWp.conv (inv := [(0, 0)]) (vk := []) (e0 := []) (t := ⟨[(0, .own 0), (1, iV .i64 a1), (2, iV .i64 a2), (3, iV .i64 a3), (10, iV .i64 (IntKind.i64.wrap (x687 + (1 : Int))))], [(0, some (.row 2 127 (((x686.set (Int.toNat (IntKind.i64.wrap (a1 + x687))) b698).set (Int.toNat (IntKind.i64.wrap (a2 + x687))) b701).map eBucket)))], 1⟩) (by kernel_rfl) (ih _ _ _ H)
    · replace H := (ifF c688).symm.trans H
      refine AWp.exit ?_
      obtain rfl := Option.some.inj H
      exact Exists.intro _ (And.intro (fun _ _ h => h.conv (inv := [(0, 0)]) (vk := []) (e0 := []) (t := ⟨[], [(0, some (.row 2 127 (x686.map eBucket)))], 1⟩) (by kernel_rfl)) (And.intro rfl rfl))
  · obtain ⟨x707, rfl⟩ : ∃ z, z = o708 := ⟨_, rfl⟩
    rintro e s ⟨rfl, rfl⟩
    obtain rfl := Option.some.inj H
    exact Exists.intro ⟨[], [(0, some (.row 2 127 (x707.map eBucket)))], 1⟩ (And.intro (fun _ _ h => h.conv (inv := [(0, 0)]) (vk := []) (e0 := []) (t := ⟨[], [(0, some (.row 2 127 (x707.map eBucket)))], 1⟩) (by kernel_rfl)) (And.intro (.inr rfl) (And.intro rfl (And.intro (by kernel_rfl) (by kernel_rfl)))))
def f_slices_rotateCmpFunc_api_Bucket_hist_tidy_1.l0 (a2 : Int) (x721 : List TBucket) (x722 : Int) (x723 : Int) : Option ((List TBucket) × Int) := if (x722 != x723) = true then (((if (decide (x722 > x723)) = true then ((f_slices_swapRangeCmpFunc_api_Bucket_hist_tidy_1.f x721 (IntKind.i64.wrap (a2 - x722)) a2 x723) >>= fun t728 => some (t728, IntKind.i64.wrap (x722 - x723), x723)) else ((f_slices_swapRangeCmpFunc_api_Bucket_hist_tidy_1.f x721 (IntKind.i64.wrap (a2 - x722)) (IntKind.i64.wrap ((IntKind.i64.wrap (a2 + x723)) - x722)) x722) >>= fun t732 => some (t732, x722, IntKind.i64.wrap (x723 - x722)))) : Option ((List TBucket) × Int × Int)) >>= fun oo => match oo with | (x734, x735, x736) => (f_slices_rotateCmpFunc_api_Bucket_hist_tidy_1.l0 a2 x734 x735 x736)) else (some (x721, x722))
partial_fixpoint
def f_slices_rotateCmpFunc_api_Bucket_hist_tidy_1.f (a0 : List TBucket) (a1 : Int) (a2 : Int) (a3 : Int) : Option (List TBucket) := (f_slices_rotateCmpFunc_api_Bucket_hist_tidy_1.l0 a2 a0 (IntKind.i64.wrap (a2 - a1)) (IntKind.i64.wrap (a3 - a2))) >>= fun oo => match oo with | (x737, x738) => ((f_slices_swapRangeCmpFunc_api_Bucket_hist_tidy_1.f x737 (IntKind.i64.wrap (a2 - x738)) a2 x738) >>= fun t741 => some t741)
theorem f_slices_rotateCmpFunc_api_Bucket_hist_tidy_1.ok (a0 : List TBucket) (a1 : Int) (a2 : Int) (a3 : Int) (r : List TBucket) (H : f_slices_rotateCmpFunc_api_Bucket_hist_tidy_1.f a0 a1 a2 a3 = some r) : Pv.Fn Try.prog 152 [.own 0, iV .i64 a1, iV .i64 a2, iV .i64 a3, .im (.sc (.func (.func 133) #[] #[]))] [(0, some (.row 2 127 (a0.map eBucket)))] 1 (fun x o => x = .tup [] ∧ o = [(0, some (.row 2 127 (r.map eBucket)))]) := by
  unfold f_slices_rotateCmpFunc_api_Bucket_hist_tidy_1.f at H
  refine Fn.bodyK [0] Try.func152 rfl rfl (fun Γ hP hn => ?_)
  have hm : Try.prog.follows .mixedOrders = true := by kernel_rfl
  replace hn : Γ.n = 58 := hn
  refine AWp.seq ?_
  refine reg hP hn hm [] [0, 2, 3, 4, 10] [0] ⟨[(0, .own 0), (2, iV .i64 a2), (3, iV .i64 a3), (4, .im (.sc (.func (.func 133) #[] #[]))), (10, iV .i64 (IntKind.i64.wrap (a2 - a1)))], [(0, some (.row 2 127 (a0.map eBucket)))], 1⟩ [] (by kernel_rfl) trivial ?_
  refine AWp.seq ?_
  refine reg hP hn hm [] [0, 2, 4, 10, 11] [0] ⟨[(0, .own 0), (2, iV .i64 a2), (4, .im (.sc (.func (.func 133) #[] #[]))), (10, iV .i64 (IntKind.i64.wrap (a2 - a1))), (11, iV .i64 (IntKind.i64.wrap (a3 - a2)))], [(0, some (.row 2 127 (a0.map eBucket)))], 1⟩ [] (by kernel_rfl) trivial ?_
  refine AWp.seq ?_
  refine AWp.block ?_
  obtain ⟨o743, e744, H⟩ := bind_of H
  refine AWp.loop (LWp.conv (inv := [(0, 0)]) (vk := []) (e0 := []) (t := ⟨[(0, .own 0), (2, iV .i64 a2), (4, .im (.sc (.func (.func 133) #[] #[]))), (10, iV .i64 (IntKind.i64.wrap (a2 - a1))), (11, iV .i64 (IntKind.i64.wrap (a3 - a2)))], [(0, some (.row 2 127 (a0.map eBucket)))], 1⟩) (by kernel_rfl) ?_)
  refine LWp.mono (Q := fun e s => (match (generalizing := false) o743 with | (x737, x738) => e = .exit 0 ∧ s = ⟨[(0, .own 0), (2, iV .i64 a2), (4, .im (.sc (.func (.func 133) #[] #[]))), (10, iV .i64 x738)], [(0, some (.row 2 127 (x737.map eBucket)))], 1⟩)) (LWp.cv (withBody (fun body hbody => ?_))) ?_
  · refine f_slices_rotateCmpFunc_api_Bucket_hist_tidy_1.l0.partial_correctness a2 (motive := fun x721 x722 x723 o743 => LWp Γ body (fun e s => ∃ t, Cv Γ s t ∧ (match (generalizing := false) o743 with | (x737, x738) => e = .exit 0 ∧ t = ⟨[(0, .own 0), (2, iV .i64 a2), (4, .im (.sc (.func (.func 133) #[] #[]))), (10, iV .i64 x738)], [(0, some (.row 2 127 (x737.map eBucket)))], 1⟩)) ⟨[(0, .own 0), (2, iV .i64 a2), (4, .im (.sc (.func (.func 133) #[] #[]))), (10, iV .i64 x722), (11, iV .i64 x723)], [(0, some (.row 2 127 (x721.map eBucket)))], 1⟩) ?_ _ _ _ _ e744
    clear H e744 o743; intro self ih x721 x722 x723 o743 H
    subst hbody
    refine LWp.round ?_
    refine AWp.seq ?_
    refine AWp.seq ?_
    refine reg hP hn hm [] [0, 2, 4, 10, 11, 20] [0] ⟨[(0, .own 0), (2, iV .i64 a2), (4, .im (.sc (.func (.func 133) #[] #[]))), (10, iV .i64 x722), (11, iV .i64 x723), (20, bV (x722 != x723))], [(0, some (.row 2 127 (x721.map eBucket)))], 1⟩ [] (by kernel_rfl) trivial ?_
    refine AWp.cond (x722 != x723) rfl (fun c724 => ?_) (fun c724 => ?_)
    · replace H := (ifT c724).symm.trans H
      refine AWp.skip ?_
      refine AWp.block ?_
      refine AWp.seq ?_
      refine reg hP hn hm [] [0, 2, 4, 10, 11, 23] [0] ⟨[(0, .own 0), (2, iV .i64 a2), (4, .im (.sc (.func (.func 133) #[] #[]))), (10, iV .i64 x722), (11, iV .i64 x723), (23, bV (decide (x722 > x723)))], [(0, some (.row 2 127 (x721.map eBucket)))], 1⟩ [] (by kernel_rfl) trivial ?_
      obtain ⟨o745, e746, H⟩ := bind_of H
      refine AWp.mono (Q := fun e s => (match (generalizing := false) o745 with | (x734, x735, x736) => e = .normal ∧ s = ⟨[(0, .own 0), (2, iV .i64 a2), (4, .im (.sc (.func (.func 133) #[] #[]))), (10, iV .i64 x735), (11, iV .i64 x736)], [(0, some (.row 2 127 (x734.map eBucket)))], 1⟩)) (AWp.cv ?_) ?_
      · replace H := e746; clear e746
        refine AWp.cond (decide (x722 > x723)) rfl (fun c725 => ?_) (fun c725 => ?_)
        · replace H := (ifT c725).symm.trans H
          refine AWp.seq ?_
          obtain ⟨t728, e729, H⟩ := bind_of H
          refine reg hP hn hm [(7, .call [(0, 0)] [(0, 0)] [] [] 1 (.tup []) [(0, some (.row 2 127 (t728.map eBucket)))])] [0, 2, 4, 10, 11] [0] ⟨[(0, .own 0), (2, iV .i64 a2), (4, .im (.sc (.func (.func 133) #[] #[]))), (10, iV .i64 x722), (11, iV .i64 x723)], [(0, some (.row 2 127 (t728.map eBucket)))], 1⟩ [Enters Try.prog 153, Pv.Fn Try.prog 153 [.own 0, iV .i64 (IntKind.i64.wrap (a2 - x722)), iV .i64 a2, iV .i64 x723, .im (.sc (.func (.func 133) #[] #[]))] [(0, some (.row 2 127 (x721.map eBucket)))] 1 (fun r o => r = .tup [] ∧ o = [(0, some (.row 2 127 (t728.map eBucket)))])] (by kernel_rfl) ⟨by exact Try.call153, by exact f_slices_swapRangeCmpFunc_api_Bucket_hist_tidy_1.ok x721 (IntKind.i64.wrap (a2 - x722)) a2 x723 t728 e729, trivial⟩ ?_
          refine reg hP hn hm [] [0, 2, 4, 10, 11] [0] ⟨[(0, .own 0), (2, iV .i64 a2), (4, .im (.sc (.func (.func 133) #[] #[]))), (10, iV .i64 (IntKind.i64.wrap (x722 - x723))), (11, iV .i64 x723)], [(0, some (.row 2 127 (t728.map eBucket)))], 1⟩ [] (by kernel_rfl) trivial ?_
          obtain rfl := Option.some.inj H
          exact Exists.intro _ (And.intro (fun _ _ h => h.conv (inv := [(0, 0)]) (vk := []) (e0 := []) (t := ⟨[(0, .own 0), (2, iV .i64 a2), (4, .im (.sc (.func (.func 133) #[] #[]))), (10, iV .i64 (IntKind.i64.wrap (x722 - x723))), (11, iV .i64 x723)], [(0, some (.row 2 127 (t728.map eBucket)))], 1⟩) (by kernel_rfl)) (And.intro rfl rfl))
        · replace H := (ifF c725).symm.trans H
          refine AWp.seq ?_
          obtain ⟨t732, e733, H⟩ := bind_of H
          refine reg hP hn hm [(11, .call [(0, 0)] [(0, 0)] [] [] 1 (.tup []) [(0, some (.row 2 127 (t732.map eBucket)))])] [0, 2, 4, 10, 11] [0] ⟨[(0, .own 0), (2, iV .i64 a2), (4, .im (.sc (.func (.func 133) #[] #[]))), (10, iV .i64 x722), (11, iV .i64 x723)], [(0, some (.row 2 127 (t732.map eBucket)))], 1⟩ [Enters Try.prog 153, Pv.Fn Try.prog 153 [.own 0, iV .i64 (IntKind.i64.wrap (a2 - x722)), iV .i64 (IntKind.i64.wrap ((IntKind.i64.wrap (a2 + x723)) - x722)), iV .i64 x722, .im (.sc (.func (.func 133) #[] #[]))] [(0, some (.row 2 127 (x721.map eBucket)))] 1 (fun r o => r = .tup [] ∧ o = [(0, some (.row 2 127 (t732.map eBucket)))])] (by kernel_rfl) ⟨by exact Try.call153, by exact f_slices_swapRangeCmpFunc_api_Bucket_hist_tidy_1.ok x721 (IntKind.i64.wrap (a2 - x722)) (IntKind.i64.wrap ((IntKind.i64.wrap (a2 + x723)) - x722)) x722 t732 e733, trivial⟩ ?_
          refine reg hP hn hm [] [0, 2, 4, 10, 11] [0] ⟨[(0, .own 0), (2, iV .i64 a2), (4, .im (.sc (.func (.func 133) #[] #[]))), (10, iV .i64 x722), (11, iV .i64 (IntKind.i64.wrap (x723 - x722)))], [(0, some (.row 2 127 (t732.map eBucket)))], 1⟩ [] (by kernel_rfl) trivial ?_
          obtain rfl := Option.some.inj H
          exact Exists.intro _ (And.intro (fun _ _ h => h.conv (inv := [(0, 0)]) (vk := []) (e0 := []) (t := ⟨[(0, .own 0), (2, iV .i64 a2), (4, .im (.sc (.func (.func 133) #[] #[]))), (10, iV .i64 x722), (11, iV .i64 (IntKind.i64.wrap (x723 - x722)))], [(0, some (.row 2 127 (t732.map eBucket)))], 1⟩) (by kernel_rfl)) (And.intro rfl rfl))
      · obtain ⟨x734, x735, x736⟩ := o745
        rintro e s ⟨rfl, rfl⟩
        exact LWp.conv (inv := [(0, 0)]) (vk := []) (e0 := []) (t := ⟨[(0, .own 0), (2, iV .i64 a2), (4, .im (.sc (.func (.func 133) #[] #[]))), (10, iV .i64 x735), (11, iV .i64 x736)], [(0, some (.row 2 127 (x734.map eBucket)))], 1⟩) (by kernel_rfl) (ih _ _ _ _ H)
    · replace H := (ifF c724).symm.trans H
      refine AWp.exit ?_
      obtain rfl := Option.some.inj H
      exact Exists.intro _ (And.intro (fun _ _ h => h.conv (inv := [(0, 0)]) (vk := []) (e0 := []) (t := ⟨[(0, .own 0), (2, iV .i64 a2), (4, .im (.sc (.func (.func 133) #[] #[]))), (10, iV .i64 x722)], [(0, some (.row 2 127 (x721.map eBucket)))], 1⟩) (by kernel_rfl)) (And.intro rfl rfl))
  · obtain ⟨x737, x738⟩ := o743
    rintro e s ⟨rfl, rfl⟩
    obtain ⟨t741, e742, H⟩ := bind_of H
    refine reg hP hn hm [(7, .call [(0, 0)] [(0, 0)] [] [] 1 (.tup []) [(0, some (.row 2 127 (t741.map eBucket)))])] [] [0] ⟨[], [(0, some (.row 2 127 (t741.map eBucket)))], 1⟩ [Enters Try.prog 153, Pv.Fn Try.prog 153 [.own 0, iV .i64 (IntKind.i64.wrap (a2 - x738)), iV .i64 a2, iV .i64 x738, .im (.sc (.func (.func 133) #[] #[]))] [(0, some (.row 2 127 (x737.map eBucket)))] 1 (fun r o => r = .tup [] ∧ o = [(0, some (.row 2 127 (t741.map eBucket)))])] (by kernel_rfl) ⟨by exact Try.call153, by exact f_slices_swapRangeCmpFunc_api_Bucket_hist_tidy_1.ok x737 (IntKind.i64.wrap (a2 - x738)) a2 x738 t741 e742, trivial⟩ ?_
    obtain rfl := Option.some.inj H
    exact Exists.intro ⟨[], [(0, some (.row 2 127 (t741.map eBucket)))], 1⟩ (And.intro (fun _ _ h => h.conv (inv := [(0, 0)]) (vk := []) (e0 := []) (t := ⟨[], [(0, some (.row 2 127 (t741.map eBucket)))], 1⟩) (by kernel_rfl)) (And.intro (.inr rfl) (And.intro rfl (And.intro (by kernel_rfl) (by kernel_rfl)))))
def f_slices_symMergeCmpFunc_api_Bucket_hist_tidy_1.l0 (a0 : List TBucket) (a1 : Int) (x466 : Int) (x467 : Int) : Option (Int) := if (decide (x466 < x467)) = true then ((at? a0 (IntKind.i64.wrap (Int.fdiv (IntKind.u64.wrap (IntKind.i64.wrap (x466 + x467))) 2))) >>= fun b477 => (at? a0 a1) >>= fun b480 => (f_hist_tidy_1.f b477 b480) >>= fun t483 => ((if (decide (t483 < (0 : Int))) = true then (some (IntKind.i64.wrap ((IntKind.i64.wrap (Int.fdiv (IntKind.u64.wrap (IntKind.i64.wrap (x466 + x467))) 2)) + (1 : Int)), x467)) else (some (x466, IntKind.i64.wrap (Int.fdiv (IntKind.u64.wrap (IntKind.i64.wrap (x466 + x467))) 2)))) : Option (Int × Int)) >>= fun oo => match oo with | (x486, x487) => (f_slices_symMergeCmpFunc_api_Bucket_hist_tidy_1.l0 a0 a1 x486 x487)) else (some x466)
partial_fixpoint
def f_slices_symMergeCmpFunc_api_Bucket_hist_tidy_1.l1 (x488 : Int) (x508 : List TBucket) (x509 : Int) : Option (List TBucket) := if (decide (x509 < (IntKind.i64.wrap (x488 - (1 : Int))))) = true then ((at? x508 (IntKind.i64.wrap (x509 + (1 : Int)))) >>= fun b520 => (at? x508 x509) >>= fun b523 => (at? (x508.set (Int.toNat (x509)) b520) (IntKind.i64.wrap (x509 + (1 : Int)))) >>= fun b526 => f_slices_symMergeCmpFunc_api_Bucket_hist_tidy_1.l1 x488 ((x508.set (Int.toNat (x509)) b520).set (Int.toNat (IntKind.i64.wrap (x509 + (1 : Int)))) b523) (IntKind.i64.wrap (x509 + (1 : Int)))) else (some x508)
partial_fixpoint
def f_slices_symMergeCmpFunc_api_Bucket_hist_tidy_1.l2 (a0 : List TBucket) (a2 : Int) (x551 : Int) (x552 : Int) : Option (Int) := if (decide (x551 < x552)) = true then ((at? a0 a2) >>= fun b562 => (at? a0 (IntKind.i64.wrap (Int.fdiv (IntKind.u64.wrap (IntKind.i64.wrap (x551 + x552))) 2))) >>= fun b565 => (f_hist_tidy_1.f b562 b565) >>= fun t568 => ((if (!(decide (t568 < (0 : Int)))) = true then (some (IntKind.i64.wrap ((IntKind.i64.wrap (Int.fdiv (IntKind.u64.wrap (IntKind.i64.wrap (x551 + x552))) 2)) + (1 : Int)), x552)) else (some (x551, IntKind.i64.wrap (Int.fdiv (IntKind.u64.wrap (IntKind.i64.wrap (x551 + x552))) 2)))) : Option (Int × Int)) >>= fun oo => match oo with | (x571, x572) => (f_slices_symMergeCmpFunc_api_Bucket_hist_tidy_1.l2 a0 a2 x571 x572)) else (some x551)
partial_fixpoint
def f_slices_symMergeCmpFunc_api_Bucket_hist_tidy_1.l3 (x573 : Int) (x593 : List TBucket) (x594 : Int) : Option (List TBucket) := if (decide (x594 > x573)) = true then ((at? x593 (IntKind.i64.wrap (x594 - (1 : Int)))) >>= fun b605 => (at? x593 x594) >>= fun b608 => (at? (x593.set (Int.toNat (x594)) b605) (IntKind.i64.wrap (x594 - (1 : Int)))) >>= fun b611 => f_slices_symMergeCmpFunc_api_Bucket_hist_tidy_1.l3 x573 ((x593.set (Int.toNat (x594)) b605).set (Int.toNat (IntKind.i64.wrap (x594 - (1 : Int)))) b608) (IntKind.i64.wrap (x594 - (1 : Int)))) else (some x593)
partial_fixpoint
def f_slices_symMergeCmpFunc_api_Bucket_hist_tidy_1.l4 (a0 : List TBucket) (a1 : Int) (a2 : Int) (a3 : Int) (x638 : Int) (x639 : Int) : Option (Int) := if (decide (x638 < x639)) = true then ((at? a0 (IntKind.i64.wrap ((IntKind.i64.wrap ((IntKind.i64.wrap ((IntKind.i64.wrap (Int.fdiv (IntKind.u64.wrap (IntKind.i64.wrap (a1 + a3))) 2)) + a2)) - (1 : Int))) - (IntKind.i64.wrap (Int.fdiv (IntKind.u64.wrap (IntKind.i64.wrap (x638 + x639))) 2))))) >>= fun b649 => (at? a0 (IntKind.i64.wrap (Int.fdiv (IntKind.u64.wrap (IntKind.i64.wrap (x638 + x639))) 2))) >>= fun b652 => (f_hist_tidy_1.f b649 b652) >>= fun t655 => ((if (!(decide (t655 < (0 : Int)))) = true then (some (IntKind.i64.wrap ((IntKind.i64.wrap (Int.fdiv (IntKind.u64.wrap (IntKind.i64.wrap (x638 + x639))) 2)) + (1 : Int)), x639)) else (some (x638, IntKind.i64.wrap (Int.fdiv (IntKind.u64.wrap (IntKind.i64.wrap (x638 + x639))) 2)))) : Option (Int × Int)) >>= fun oo => match oo with | (x658, x659) => (f_slices_symMergeCmpFunc_api_Bucket_hist_tidy_1.l4 a0 a1 a2 a3 x658 x659)) else (some x638)
partial_fixpoint
def f_slices_symMergeCmpFunc_api_Bucket_hist_tidy_1.f (a0 : List TBucket) (a1 : Int) (a2 : Int) (a3 : Int) : Option (List TBucket) := if ((IntKind.i64.wrap (a2 - a1)) == (1 : Int)) = true then ((f_slices_symMergeCmpFunc_api_Bucket_hist_tidy_1.l0 a0 a1 a2 a3) >>= fun x488 => (f_slices_symMergeCmpFunc_api_Bucket_hist_tidy_1.l1 x488 a0 a1) >>= fun x529 => some x529) else (if ((IntKind.i64.wrap (a3 - a2)) == (1 : Int)) = true then ((f_slices_symMergeCmpFunc_api_Bucket_hist_tidy_1.l2 a0 a2 a1 a2) >>= fun x573 => (f_slices_symMergeCmpFunc_api_Bucket_hist_tidy_1.l3 x573 a0 a2) >>= fun x614 => some x614) else (((if (decide (a2 > (IntKind.i64.wrap (Int.fdiv (IntKind.u64.wrap (IntKind.i64.wrap (a1 + a3))) 2)))) = true then (some (IntKind.i64.wrap ((IntKind.i64.wrap ((IntKind.i64.wrap (Int.fdiv (IntKind.u64.wrap (IntKind.i64.wrap (a1 + a3))) 2)) + a2)) - a3), IntKind.i64.wrap (Int.fdiv (IntKind.u64.wrap (IntKind.i64.wrap (a1 + a3))) 2))) else (some (a1, a2))) : Option (Int × Int)) >>= fun oo => match oo with | (x616, x617) => ((f_slices_symMergeCmpFunc_api_Bucket_hist_tidy_1.l4 a0 a1 a2 a3 x616 x617) >>= fun x660 => ((if (decide (x660 < a2)) = true then (some (decide (a2 < (IntKind.i64.wrap ((IntKind.i64.wrap ((IntKind.i64.wrap (Int.fdiv (IntKind.u64.wrap (IntKind.i64.wrap (a1 + a3))) 2)) + a2)) - x660))))) else (some false)) : Option (Bool)) >>= fun x663 => ((if x663 = true then ((f_slices_rotateCmpFunc_api_Bucket_hist_tidy_1.f a0 x660 a2 (IntKind.i64.wrap ((IntKind.i64.wrap ((IntKind.i64.wrap (Int.fdiv (IntKind.u64.wrap (IntKind.i64.wrap (a1 + a3))) 2)) + a2)) - x660))) >>= fun t749 => some t749) else (some a0)) : Option (List TBucket)) >>= fun x751 => ((if (decide (a1 < x660)) = true then (some (decide (x660 < (IntKind.i64.wrap (Int.fdiv (IntKind.u64.wrap (IntKind.i64.wrap (a1 + a3))) 2))))) else (some false)) : Option (Bool)) >>= fun x754 => ((if x754 = true then ((f_slices_symMergeCmpFunc_api_Bucket_hist_tidy_1.f x751 a1 x660 (IntKind.i64.wrap (Int.fdiv (IntKind.u64.wrap (IntKind.i64.wrap (a1 + a3))) 2))) >>= fun t758 => some t758) else (some x751)) : Option (List TBucket)) >>= fun x760 => ((if (decide ((IntKind.i64.wrap (Int.fdiv (IntKind.u64.wrap (IntKind.i64.wrap (a1 + a3))) 2)) < (IntKind.i64.wrap ((IntKind.i64.wrap ((IntKind.i64.wrap (Int.fdiv (IntKind.u64.wrap (IntKind.i64.wrap (a1 + a3))) 2)) + a2)) - x660)))) = true then (some (decide ((IntKind.i64.wrap ((IntKind.i64.wrap ((IntKind.i64.wrap (Int.fdiv (IntKind.u64.wrap (IntKind.i64.wrap (a1 + a3))) 2)) + a2)) - x660)) < a3))) else (some false)) : Option (Bool)) >>= fun x763 => ((if x763 = true then ((f_slices_symMergeCmpFunc_api_Bucket_hist_tidy_1.f x760 (IntKind.i64.wrap (Int.fdiv (IntKind.u64.wrap (IntKind.i64.wrap (a1 + a3))) 2)) (IntKind.i64.wrap ((IntKind.i64.wrap ((IntKind.i64.wrap (Int.fdiv (IntKind.u64.wrap (IntKind.i64.wrap (a1 + a3))) 2)) + a2)) - x660)) a3) >>= fun t767 => some t767) else (some x760)) : Option (List TBucket)) >>= fun x769 => some x769)))
partial_fixpoint
theorem f_slices_symMergeCmpFunc_api_Bucket_hist_tidy_1.ok (a0 : List TBucket) (a1 : Int) (a2 : Int) (a3 : Int) (r : List TBucket) (H : f_slices_symMergeCmpFunc_api_Bucket_hist_tidy_1.f a0 a1 a2 a3 = some r) : Pv.Fn Try.prog 151 [.own 0, iV .i64 a1, iV .i64 a2, iV .i64 a3, .im (.sc (.func (.func 133) #[] #[]))] [(0, some (.row 2 127 (a0.map eBucket)))] 1 (fun x o => x = .tup [] ∧ o = [(0, some (.row 2 127 (r.map eBucket)))]) := by
  refine f_slices_symMergeCmpFunc_api_Bucket_hist_tidy_1.f.partial_correctness (motive := fun a0 a1 a2 a3 r => Pv.Fn Try.prog 151 [.own 0, iV .i64 a1, iV .i64 a2, iV .i64 a3, .im (.sc (.func (.func 133) #[] #[]))] [(0, some (.row 2 127 (a0.map eBucket)))] 1 (fun x o => x = .tup [] ∧ o = [(0, some (.row 2 127 (r.map eBucket)))])) ?_ a0 a1 a2 a3 r H
  clear H a0 a1 a2 a3 r; intro self ihF a0 a1 a2 a3 r H
  refine Fn.bodyK [0] Try.func151 rfl rfl (fun Γ hP hn => ?_)
  have hm : Try.prog.follows .mixedOrders = true := by kernel_rfl
  replace hn : Γ.n = 220 := hn
  refine AWp.seq ?_
  refine AWp.seq ?_
  refine reg hP hn hm [] [0, 1, 2, 3, 4, 28] [0] ⟨[(0, .own 0), (1, iV .i64 a1), (2, iV .i64 a2), (3, iV .i64 a3), (4, .im (.sc (.func (.func 133) #[] #[]))), (28, bV ((IntKind.i64.wrap (a2 - a1)) == (1 : Int)))], [(0, some (.row 2 127 (a0.map eBucket)))], 1⟩ [] (by kernel_rfl) trivial ?_
  refine AWp.cond ((IntKind.i64.wrap (a2 - a1)) == (1 : Int)) rfl (fun c445 => ?_) (fun c445 => ?_)
  · replace H := (ifT c445).symm.trans H
    refine AWp.seq ?_
    refine reg hP hn hm [] [0, 1, 3, 4, 10] [0] ⟨[(0, .own 0), (1, iV .i64 a1), (3, iV .i64 a3), (4, .im (.sc (.func (.func 133) #[] #[]))), (10, iV .i64 a2)], [(0, some (.row 2 127 (a0.map eBucket)))], 1⟩ [] (by kernel_rfl) trivial ?_
    refine AWp.seq ?_
    refine reg hP hn hm [] [0, 1, 4, 10, 11] [0] ⟨[(0, .own 0), (1, iV .i64 a1), (4, .im (.sc (.func (.func 133) #[] #[]))), (10, iV .i64 a2), (11, iV .i64 a3)], [(0, some (.row 2 127 (a0.map eBucket)))], 1⟩ [] (by kernel_rfl) trivial ?_
    refine AWp.seq ?_
    refine AWp.block ?_
    obtain ⟨o770, e771, H⟩ := bind_of H
    refine AWp.loop (LWp.conv (inv := [(0, 0)]) (vk := []) (e0 := []) (t := ⟨[(0, .own 0), (1, iV .i64 a1), (4, .im (.sc (.func (.func 133) #[] #[]))), (10, iV .i64 a2), (11, iV .i64 a3)], [(0, some (.row 2 127 (a0.map eBucket)))], 1⟩) (by kernel_rfl) ?_)
    refine LWp.mono (Q := fun e s => (match (generalizing := false) o770 with | x488 => e = .exit 0 ∧ s = ⟨[(0, .own 0), (1, iV .i64 a1), (10, iV .i64 x488)], [(0, some (.row 2 127 (a0.map eBucket)))], 1⟩)) (LWp.cv (withBody (fun body hbody => ?_))) ?_
    · refine f_slices_symMergeCmpFunc_api_Bucket_hist_tidy_1.l0.partial_correctness a0 a1 (motive := fun x466 x467 o770 => LWp Γ body (fun e s => ∃ t, Cv Γ s t ∧ (match (generalizing := false) o770 with | x488 => e = .exit 0 ∧ t = ⟨[(0, .own 0), (1, iV .i64 a1), (10, iV .i64 x488)], [(0, some (.row 2 127 (a0.map eBucket)))], 1⟩)) ⟨[(0, .own 0), (1, iV .i64 a1), (4, .im (.sc (.func (.func 133) #[] #[]))), (10, iV .i64 x466), (11, iV .i64 x467)], [(0, some (.row 2 127 (a0.map eBucket)))], 1⟩) ?_ _ _ _ e771
      clear H e771 o770; intro self ih x466 x467 o770 H
      subst hbody
      refine LWp.round ?_
      refine AWp.seq ?_
      refine AWp.seq ?_
      refine reg hP hn hm [] [0, 1, 4, 10, 11, 33] [0] ⟨[(0, .own 0), (1, iV .i64 a1), (4, .im (.sc (.func (.func 133) #[] #[]))), (10, iV .i64 x466), (11, iV .i64 x467), (33, bV (decide (x466 < x467)))], [(0, some (.row 2 127 (a0.map eBucket)))], 1⟩ [] (by kernel_rfl) trivial ?_
      refine AWp.cond (decide (x466 < x467)) rfl (fun c468 => ?_) (fun c468 => ?_)
      · replace H := (ifT c468).symm.trans H
        refine AWp.skip ?_
        refine AWp.block ?_
        refine AWp.seq ?_
        refine reg hP hn hm [] [0, 1, 4, 10, 11, 12] [0] ⟨[(0, .own 0), (1, iV .i64 a1), (4, .im (.sc (.func (.func 133) #[] #[]))), (10, iV .i64 x466), (11, iV .i64 x467), (12, iV .i64 (IntKind.i64.wrap (Int.fdiv (IntKind.u64.wrap (IntKind.i64.wrap (x466 + x467))) 2)))], [(0, some (.row 2 127 (a0.map eBucket)))], 1⟩ [(0 : Int) ≤ 1] (by kernel_rfl) ⟨by decide, trivial⟩ ?_
        refine AWp.seq ?_
        obtain ⟨b477, p478, q479, H⟩ := at_of H
        obtain ⟨b480, p481, q482, H⟩ := at_of H
        obtain ⟨t483, e484, H⟩ := bind_of H
        refine reg hP hn hm [(4, .c (eBucket b477)), (8, .c (eBucket b480)), (9, .call [] [] [] [] 0 (iV .i64 t483) [])] [0, 1, 4, 10, 11, 12, 50] [0] ⟨[(0, .own 0), (1, iV .i64 a1), (4, .im (.sc (.func (.func 133) #[] #[]))), (10, iV .i64 x466), (11, iV .i64 x467), (12, iV .i64 (IntKind.i64.wrap (Int.fdiv (IntKind.u64.wrap (IntKind.i64.wrap (x466 + x467))) 2))), (50, bV (decide (t483 < (0 : Int))))], [(0, some (.row 2 127 (a0.map eBucket)))], 1⟩ [0 ≤ (IntKind.i64.wrap (Int.fdiv (IntKind.u64.wrap (IntKind.i64.wrap (x466 + x467))) 2)), IntKind.i64.wrap (Int.fdiv (IntKind.u64.wrap (IntKind.i64.wrap (x466 + x467))) 2) < (((a0.map eBucket).length : Nat) : Int), (a0.map eBucket)[(Int.toNat (IntKind.i64.wrap (Int.fdiv (IntKind.u64.wrap (IntKind.i64.wrap (x466 + x467))) 2)))]? = some (eBucket b477), 0 ≤ a1, a1 < (((a0.map eBucket).length : Nat) : Int), (a0.map eBucket)[(Int.toNat (a1))]? = some (eBucket b480), Enters Try.prog 133, Pv.Fn Try.prog 133 [.agg (aBucket b477), .agg (aBucket b480)] [] 0 (fun r o => r = iV .i64 t483 ∧ o = [])] (by kernel_rfl) ⟨by exact p478, by exact el_lt eBucket p478 q479, by exact el_map eBucket q479, by exact p481, by exact el_lt eBucket p481 q482, by exact el_map eBucket q482, by exact Try.call133, by exact f_hist_tidy_1.ok b477 b480 t483 e484, trivial⟩ ?_
        obtain ⟨o772, e773, H⟩ := bind_of H
        refine AWp.mono (Q := fun e s => (match (generalizing := false) o772 with | (x486, x487) => e = .normal ∧ s = ⟨[(0, .own 0), (1, iV .i64 a1), (4, .im (.sc (.func (.func 133) #[] #[]))), (10, iV .i64 x486), (11, iV .i64 x487)], [(0, some (.row 2 127 (a0.map eBucket)))], 1⟩)) (AWp.cv ?_) ?_
        · replace H := e773; clear e773
          refine AWp.cond (decide (t483 < (0 : Int))) rfl (fun c485 => ?_) (fun c485 => ?_)
          · replace H := (ifT c485).symm.trans H
            refine reg hP hn hm [] [0, 1, 4, 10, 11] [0] ⟨[(0, .own 0), (1, iV .i64 a1), (4, .im (.sc (.func (.func 133) #[] #[]))), (10, iV .i64 (IntKind.i64.wrap ((IntKind.i64.wrap (Int.fdiv (IntKind.u64.wrap (IntKind.i64.wrap (x466 + x467))) 2)) + (1 : Int)))), (11, iV .i64 x467)], [(0, some (.row 2 127 (a0.map eBucket)))], 1⟩ [] (by kernel_rfl) trivial ?_
            obtain rfl := Option.some.inj H
            exact Exists.intro _ (And.intro (fun _ _ h => h.conv (inv := [(0, 0)]) (vk := []) (e0 := []) (t := ⟨[(0, .own 0), (1, iV .i64 a1), (4, .im (.sc (.func (.func 133) #[] #[]))), (10, iV .i64 (IntKind.i64.wrap ((IntKind.i64.wrap (Int.fdiv (IntKind.u64.wrap (IntKind.i64.wrap (x466 + x467))) 2)) + (1 : Int)))), (11, iV .i64 x467)], [(0, some (.row 2 127 (a0.map eBucket)))], 1⟩) (by kernel_rfl)) (And.intro rfl rfl))
          · replace H := (ifF c485).symm.trans H
            refine reg hP hn hm [] [0, 1, 4, 10, 11] [0] ⟨[(0, .own 0), (1, iV .i64 a1), (4, .im (.sc (.func (.func 133) #[] #[]))), (10, iV .i64 x466), (11, iV .i64 (IntKind.i64.wrap (Int.fdiv (IntKind.u64.wrap (IntKind.i64.wrap (x466 + x467))) 2)))], [(0, some (.row 2 127 (a0.map eBucket)))], 1⟩ [] (by kernel_rfl) trivial ?_
            obtain rfl := Option.some.inj H
            exact Exists.intro _ (And.intro (fun _ _ h => h.conv (inv := [(0, 0)]) (vk := []) (e0 := []) (t := ⟨[(0, .own 0), (1, iV .i64 a1), (4, .im (.sc (.func (.func 133) #[] #[]))), (10, iV .i64 x466), (11, iV .i64 (IntKind.i64.wrap (Int.fdiv (IntKind.u64.wrap (IntKind.i64.wrap (x466 + x467))) 2)))], [(0, some (.row 2 127 (a0.map eBucket)))], 1⟩) (by kernel_rfl)) (And.intro rfl rfl))
        · obtain ⟨x486, x487⟩ := o772
          rintro e s ⟨rfl, rfl⟩
          exact LWp.conv (inv := [(0, 0)]) (vk := []) (e0 := []) (t := ⟨[(0, .own 0), (1, iV .i64 a1), (4, .im (.sc (.func (.func 133) #[] #[]))), (10, iV .i64 x486), (11, iV .i64 x487)], [(0, some (.row 2 127 (a0.map eBucket)))], 1⟩) (by kernel_rfl) (ih _ _ _ H)
      · replace H := (ifF c468).symm.trans H
        refine AWp.exit ?_
        obtain rfl := Option.some.inj H
        exact Exists.intro _ (And.intro (fun _ _ h => h.conv (inv := [(0, 0)]) (vk := []) (e0 := []) (t := ⟨[(0, .own 0), (1, iV .i64 a1), (10, iV .i64 x466)], [(0, some (.row 2 127 (a0.map eBucket)))], 1⟩) (by kernel_rfl)) (And.intro rfl rfl))
    · obtain ⟨x488, rfl⟩ : ∃ z, z = o770 := ⟨_, rfl⟩
      rintro e s ⟨rfl, rfl⟩
      refine AWp.seq ?_
      refine AWp.seq ?_
      refine reg hP hn hm [] [0, 10, 13] [0] ⟨[(0, .own 0), (10, iV .i64 x488), (13, iV .i64 a1)], [(0, some (.row 2 127 (a0.map eBucket)))], 1⟩ [] (by kernel_rfl) trivial ?_
      refine AWp.block ?_
      obtain ⟨o774, e775, H⟩ := bind_of H
      refine AWp.loop (LWp.conv (inv := [(0, 0)]) (vk := []) (e0 := []) (t := ⟨[(0, .own 0), (10, iV .i64 x488), (13, iV .i64 a1)], [(0, some (.row 2 127 (a0.map eBucket)))], 1⟩) (by kernel_rfl) ?_)
      refine LWp.mono (Q := fun e s => (match (generalizing := false) o774 with | x529 => e = .exit 2 ∧ s = ⟨[], [(0, some (.row 2 127 (x529.map eBucket)))], 1⟩)) (LWp.cv (withBody (fun body hbody => ?_))) ?_
      · refine f_slices_symMergeCmpFunc_api_Bucket_hist_tidy_1.l1.partial_correctness x488 (motive := fun x508 x509 o774 => LWp Γ body (fun e s => ∃ t, Cv Γ s t ∧ (match (generalizing := false) o774 with | x529 => e = .exit 2 ∧ t = ⟨[], [(0, some (.row 2 127 (x529.map eBucket)))], 1⟩)) ⟨[(0, .own 0), (10, iV .i64 x488), (13, iV .i64 x509)], [(0, some (.row 2 127 (x508.map eBucket)))], 1⟩) ?_ _ _ _ e775
        clear H e775 o774; intro self ih x508 x509 o774 H
        subst hbody
        refine LWp.round ?_
        refine AWp.seq ?_
        refine AWp.seq ?_
        refine reg hP hn hm [] [0, 10, 13, 58] [0] ⟨[(0, .own 0), (10, iV .i64 x488), (13, iV .i64 x509), (58, bV (decide (x509 < (IntKind.i64.wrap (x488 - (1 : Int))))))], [(0, some (.row 2 127 (x508.map eBucket)))], 1⟩ [] (by kernel_rfl) trivial ?_
        refine AWp.cond (decide (x509 < (IntKind.i64.wrap (x488 - (1 : Int))))) rfl (fun c510 => ?_) (fun c510 => ?_)
        · replace H := (ifT c510).symm.trans H
          refine AWp.skip ?_
          refine AWp.seq ?_
          refine AWp.block ?_
          obtain ⟨b520, p521, q522, H⟩ := at_of H
          obtain ⟨b523, p524, q525, H⟩ := at_of H
          obtain ⟨b526, p527, q528, H⟩ := at_of H
          refine reg hP hn hm [(9, .c (eBucket b520)), (13, .c (eBucket b523)), (15, .put (eBucket b523) ((x508.set (Int.toNat (x509)) b520).map eBucket)), (17, .put (eBucket b526) (((x508.set (Int.toNat (x509)) b520).set (Int.toNat (IntKind.i64.wrap (x509 + (1 : Int)))) b523).map eBucket))] [0, 10, 13] [0] ⟨[(0, .own 0), (10, iV .i64 x488), (13, iV .i64 x509)], [(0, some (.row 2 127 (((x508.set (Int.toNat (x509)) b520).set (Int.toNat (IntKind.i64.wrap (x509 + (1 : Int)))) b523).map eBucket)))], 1⟩ [0 ≤ (IntKind.i64.wrap (x509 + (1 : Int))), IntKind.i64.wrap (x509 + (1 : Int)) < (((x508.map eBucket).length : Nat) : Int), (x508.map eBucket)[(Int.toNat (IntKind.i64.wrap (x509 + (1 : Int))))]? = some (eBucket b520), 0 ≤ x509, x509 < (((x508.map eBucket).length : Nat) : Int), (x508.map eBucket)[(Int.toNat (x509))]? = some (eBucket b523), 0 ≤ x509, x509 < (((x508.map eBucket).length : Nat) : Int), (x508.map eBucket)[(Int.toNat (x509))]? = some (eBucket b523), (x508.set (Int.toNat (x509)) b520).map eBucket = (x508.map eBucket).set (Int.toNat (x509)) (splice (eBucket b523) 0 [iI .i64 b520.f0, iI .u64 b520.f1]), 0 ≤ (IntKind.i64.wrap (x509 + (1 : Int))), IntKind.i64.wrap (x509 + (1 : Int)) < ((((x508.set (Int.toNat (x509)) b520).map eBucket).length : Nat) : Int), ((x508.set (Int.toNat (x509)) b520).map eBucket)[(Int.toNat (IntKind.i64.wrap (x509 + (1 : Int))))]? = some (eBucket b526), ((x508.set (Int.toNat (x509)) b520).set (Int.toNat (IntKind.i64.wrap (x509 + (1 : Int)))) b523).map eBucket = ((x508.set (Int.toNat (x509)) b520).map eBucket).set (Int.toNat (IntKind.i64.wrap (x509 + (1 : Int)))) (splice (eBucket b526) 0 [iI .i64 b523.f0, iI .u64 b523.f1])] (by kernel_rfl) ⟨by exact p521, by exact el_lt eBucket p521 q522, by exact el_map eBucket q522, by exact p524, by exact el_lt eBucket p524 q525, by exact el_map eBucket q525, by exact p524, by exact el_lt eBucket p524 q525, by exact el_map eBucket q525, by exact set1 _ _ _ _, by exact p527, by exact el_lt eBucket p527 q528, by exact el_map eBucket q528, by exact set1 _ _ _ _, trivial⟩ ?_
          refine reg hP hn hm [] [0, 10, 13] [0] ⟨[(0, .own 0), (10, iV .i64 x488), (13, iV .i64 (IntKind.i64.wrap (x509 + (1 : Int))))], [(0, some (.row 2 127 (((x508.set (Int.toNat (x509)) b520).set (Int.toNat (IntKind.i64.wrap (x509 + (1 : Int)))) b523).map eBucket)))], 1⟩ [] (by kernel_rfl) trivial ?_
          exact LWp.conv (inv := [(0, 0)]) (vk := []) (e0 := []) (t := ⟨[(0, .own 0), (10, iV .i64 x488), (13, iV .i64 (IntKind.i64.wrap (x509 + (1 : Int))))], [(0, some (.row 2 127 (((x508.set (Int.toNat (x509)) b520).set (Int.toNat (IntKind.i64.wrap (x509 + (1 : Int)))) b523).map eBucket)))], 1⟩) (by kernel_rfl) (ih _ _ _ H)
        · replace H := (ifF c510).symm.trans H
          refine AWp.exit ?_
          obtain rfl := Option.some.inj H
          exact Exists.intro _ (And.intro (fun _ _ h => h.conv (inv := [(0, 0)]) (vk := []) (e0 := []) (t := ⟨[], [(0, some (.row 2 127 (x508.map eBucket)))], 1⟩) (by kernel_rfl)) (And.intro rfl rfl))
      · obtain ⟨x529, rfl⟩ : ∃ z, z = o774 := ⟨_, rfl⟩
        rintro e s ⟨rfl, rfl⟩
        refine AWp.conv (inv := [(0, 0)]) (vk := []) (e0 := []) (t := ⟨[], [(0, some (.row 2 127 (x529.map eBucket)))], 1⟩) (by kernel_rfl) ?_
        refine AWp.ret ?_
        obtain rfl := Option.some.inj H
        exact Exists.intro _ (And.intro (fun _ _ h => h) (And.intro (.inl rfl) (And.intro rfl (And.intro (by kernel_rfl) (by kernel_rfl)))))
  · replace H := (ifF c445).symm.trans H
    refine AWp.skip ?_
    refine AWp.seq ?_
    refine AWp.seq ?_
    refine reg hP hn hm [] [0, 1, 2, 3, 4, 80] [0] ⟨[(0, .own 0), (1, iV .i64 a1), (2, iV .i64 a2), (3, iV .i64 a3), (4, .im (.sc (.func (.func 133) #[] #[]))), (80, bV ((IntKind.i64.wrap (a3 - a2)) == (1 : Int)))], [(0, some (.row 2 127 (a0.map eBucket)))], 1⟩ [] (by kernel_rfl) trivial ?_
    refine AWp.cond ((IntKind.i64.wrap (a3 - a2)) == (1 : Int)) rfl (fun c530 => ?_) (fun c530 => ?_)
    · replace H := (ifT c530).symm.trans H
      refine AWp.seq ?_
      refine reg hP hn hm [] [0, 2, 4, 14] [0] ⟨[(0, .own 0), (2, iV .i64 a2), (4, .im (.sc (.func (.func 133) #[] #[]))), (14, iV .i64 a1)], [(0, some (.row 2 127 (a0.map eBucket)))], 1⟩ [] (by kernel_rfl) trivial ?_
      refine AWp.seq ?_
      refine reg hP hn hm [] [0, 2, 4, 14, 15] [0] ⟨[(0, .own 0), (2, iV .i64 a2), (4, .im (.sc (.func (.func 133) #[] #[]))), (14, iV .i64 a1), (15, iV .i64 a2)], [(0, some (.row 2 127 (a0.map eBucket)))], 1⟩ [] (by kernel_rfl) trivial ?_
      refine AWp.seq ?_
      refine AWp.block ?_
      obtain ⟨o776, e777, H⟩ := bind_of H
      refine AWp.loop (LWp.conv (inv := [(0, 0)]) (vk := []) (e0 := []) (t := ⟨[(0, .own 0), (2, iV .i64 a2), (4, .im (.sc (.func (.func 133) #[] #[]))), (14, iV .i64 a1), (15, iV .i64 a2)], [(0, some (.row 2 127 (a0.map eBucket)))], 1⟩) (by kernel_rfl) ?_)
      refine LWp.mono (Q := fun e s => (match (generalizing := false) o776 with | x573 => e = .exit 4 ∧ s = ⟨[(0, .own 0), (2, iV .i64 a2), (14, iV .i64 x573)], [(0, some (.row 2 127 (a0.map eBucket)))], 1⟩)) (LWp.cv (withBody (fun body hbody => ?_))) ?_
      · refine f_slices_symMergeCmpFunc_api_Bucket_hist_tidy_1.l2.partial_correctness a0 a2 (motive := fun x551 x552 o776 => LWp Γ body (fun e s => ∃ t, Cv Γ s t ∧ (match (generalizing := false) o776 with | x573 => e = .exit 4 ∧ t = ⟨[(0, .own 0), (2, iV .i64 a2), (14, iV .i64 x573)], [(0, some (.row 2 127 (a0.map eBucket)))], 1⟩)) ⟨[(0, .own 0), (2, iV .i64 a2), (4, .im (.sc (.func (.func 133) #[] #[]))), (14, iV .i64 x551), (15, iV .i64 x552)], [(0, some (.row 2 127 (a0.map eBucket)))], 1⟩) ?_ _ _ _ e777
        clear H e777 o776; intro self ih x551 x552 o776 H
        subst hbody
        refine LWp.round ?_
        refine AWp.seq ?_
        refine AWp.seq ?_
        refine reg hP hn hm [] [0, 2, 4, 14, 15, 85] [0] ⟨[(0, .own 0), (2, iV .i64 a2), (4, .im (.sc (.func (.func 133) #[] #[]))), (14, iV .i64 x551), (15, iV .i64 x552), (85, bV (decide (x551 < x552)))], [(0, some (.row 2 127 (a0.map eBucket)))], 1⟩ [] (by kernel_rfl) trivial ?_
        refine AWp.cond (decide (x551 < x552)) rfl (fun c553 => ?_) (fun c553 => ?_)
        · replace H := (ifT c553).symm.trans H
          refine AWp.skip ?_
          refine AWp.block ?_
          refine AWp.seq ?_
          refine reg hP hn hm [] [0, 2, 4, 14, 15, 16] [0] ⟨[(0, .own 0), (2, iV .i64 a2), (4, .im (.sc (.func (.func 133) #[] #[]))), (14, iV .i64 x551), (15, iV .i64 x552), (16, iV .i64 (IntKind.i64.wrap (Int.fdiv (IntKind.u64.wrap (IntKind.i64.wrap (x551 + x552))) 2)))], [(0, some (.row 2 127 (a0.map eBucket)))], 1⟩ [(0 : Int) ≤ 1] (by kernel_rfl) ⟨by decide, trivial⟩ ?_
          refine AWp.seq ?_
          obtain ⟨b562, p563, q564, H⟩ := at_of H
          obtain ⟨b565, p566, q567, H⟩ := at_of H
          obtain ⟨t568, e569, H⟩ := bind_of H
          refine reg hP hn hm [(4, .c (eBucket b562)), (8, .c (eBucket b565)), (9, .call [] [] [] [] 0 (iV .i64 t568) [])] [0, 2, 4, 14, 15, 16, 103] [0] ⟨[(0, .own 0), (2, iV .i64 a2), (4, .im (.sc (.func (.func 133) #[] #[]))), (14, iV .i64 x551), (15, iV .i64 x552), (16, iV .i64 (IntKind.i64.wrap (Int.fdiv (IntKind.u64.wrap (IntKind.i64.wrap (x551 + x552))) 2))), (103, bV (!(decide (t568 < (0 : Int)))))], [(0, some (.row 2 127 (a0.map eBucket)))], 1⟩ [0 ≤ a2, a2 < (((a0.map eBucket).length : Nat) : Int), (a0.map eBucket)[(Int.toNat (a2))]? = some (eBucket b562), 0 ≤ (IntKind.i64.wrap (Int.fdiv (IntKind.u64.wrap (IntKind.i64.wrap (x551 + x552))) 2)), IntKind.i64.wrap (Int.fdiv (IntKind.u64.wrap (IntKind.i64.wrap (x551 + x552))) 2) < (((a0.map eBucket).length : Nat) : Int), (a0.map eBucket)[(Int.toNat (IntKind.i64.wrap (Int.fdiv (IntKind.u64.wrap (IntKind.i64.wrap (x551 + x552))) 2)))]? = some (eBucket b565), Enters Try.prog 133, Pv.Fn Try.prog 133 [.agg (aBucket b562), .agg (aBucket b565)] [] 0 (fun r o => r = iV .i64 t568 ∧ o = [])] (by kernel_rfl) ⟨by exact p563, by exact el_lt eBucket p563 q564, by exact el_map eBucket q564, by exact p566, by exact el_lt eBucket p566 q567, by exact el_map eBucket q567, by exact Try.call133, by exact f_hist_tidy_1.ok b562 b565 t568 e569, trivial⟩ ?_
          obtain ⟨o778, e779, H⟩ := bind_of H
          refine AWp.mono (Q := fun e s => (match (generalizing := false) o778 with | (x571, x572) => e = .normal ∧ s = ⟨[(0, .own 0), (2, iV .i64 a2), (4, .im (.sc (.func (.func 133) #[] #[]))), (14, iV .i64 x571), (15, iV .i64 x572)], [(0, some (.row 2 127 (a0.map eBucket)))], 1⟩)) (AWp.cv ?_) ?_
          · replace H := e779; clear e779
            refine AWp.cond (!(decide (t568 < (0 : Int)))) rfl (fun c570 => ?_) (fun c570 => ?_)
            · replace H := (ifT c570).symm.trans H
              refine reg hP hn hm [] [0, 2, 4, 14, 15] [0] ⟨[(0, .own 0), (2, iV .i64 a2), (4, .im (.sc (.func (.func 133) #[] #[]))), (14, iV .i64 (IntKind.i64.wrap ((IntKind.i64.wrap (Int.fdiv (IntKind.u64.wrap (IntKind.i64.wrap (x551 + x552))) 2)) + (1 : Int)))), (15, iV .i64 x552)], [(0, some (.row 2 127 (a0.map eBucket)))], 1⟩ [] (by kernel_rfl) trivial ?_
              obtain rfl := Option.some.inj H
              exact Exists.intro _ (And.intro (fun _ _ h => h.conv (inv := [(0, 0)]) (vk := []) (e0 := []) (t := ⟨[(0, .own 0), (2, iV .i64 a2), (4, .im (.sc (.func (.func 133) #[] #[]))), (14, iV .i64 (IntKind.i64.wrap ((IntKind.i64.wrap (Int.fdiv (IntKind.u64.wrap (IntKind.i64.wrap (x551 + x552))) 2)) + (1 : Int)))), (15, iV .i64 x552)], [(0, some (.row 2 127 (a0.map eBucket)))], 1⟩) (by kernel_rfl)) (And.intro rfl rfl))
            · replace H := (ifF c570).symm.trans H
              refine reg hP hn hm [] [0, 2, 4, 14, 15] [0] ⟨[(0, .own 0), (2, iV .i64 a2), (4, .im (.sc (.func (.func 133) #[] #[]))), (14, iV .i64 x551), (15, iV .i64 (IntKind.i64.wrap (Int.fdiv (IntKind.u64.wrap (IntKind.i64.wrap (x551 + x552))) 2)))], [(0, some (.row 2 127 (a0.map eBucket)))], 1⟩ [] (by kernel_rfl) trivial ?_
              obtain rfl := Option.some.inj H
              exact Exists.intro _ (And.intro (fun _ _ h => h.conv (inv := [(0, 0)]) (vk := []) (e0 := []) (t := ⟨[(0, .own 0), (2, iV .i64 a2), (4, .im (.sc (.func (.func 133) #[] #[]))), (14, iV .i64 x551), (15, iV .i64 (IntKind.i64.wrap (Int.fdiv (IntKind.u64.wrap (IntKind.i64.wrap (x551 + x552))) 2)))], [(0, some (.row 2 127 (a0.map eBucket)))], 1⟩) (by kernel_rfl)) (And.intro rfl rfl))
          · obtain ⟨x571, x572⟩ := o778
            rintro e s ⟨rfl, rfl⟩
            exact LWp.conv (inv := [(0, 0)]) (vk := []) (e0 := []) (t := ⟨[(0, .own 0), (2, iV .i64 a2), (4, .im (.sc (.func (.func 133) #[] #[]))), (14, iV .i64 x571), (15, iV .i64 x572)], [(0, some (.row 2 127 (a0.map eBucket)))], 1⟩) (by kernel_rfl) (ih _ _ _ H)
        · replace H := (ifF c553).symm.trans H
          refine AWp.exit ?_
          obtain rfl := Option.some.inj H
          exact Exists.intro _ (And.intro (fun _ _ h => h.conv (inv := [(0, 0)]) (vk := []) (e0 := []) (t := ⟨[(0, .own 0), (2, iV .i64 a2), (14, iV .i64 x551)], [(0, some (.row 2 127 (a0.map eBucket)))], 1⟩) (by kernel_rfl)) (And.intro rfl rfl))
      · obtain ⟨x573, rfl⟩ : ∃ z, z = o776 := ⟨_, rfl⟩
        rintro e s ⟨rfl, rfl⟩
        refine AWp.seq ?_
        refine AWp.seq ?_
        refine reg hP hn hm [] [0, 14, 17] [0] ⟨[(0, .own 0), (14, iV .i64 x573), (17, iV .i64 a2)], [(0, some (.row 2 127 (a0.map eBucket)))], 1⟩ [] (by kernel_rfl) trivial ?_
        refine AWp.block ?_
        obtain ⟨o780, e781, H⟩ := bind_of H
        refine AWp.loop (LWp.conv (inv := [(0, 0)]) (vk := []) (e0 := []) (t := ⟨[(0, .own 0), (14, iV .i64 x573), (17, iV .i64 a2)], [(0, some (.row 2 127 (a0.map eBucket)))], 1⟩) (by kernel_rfl) ?_)
        refine LWp.mono (Q := fun e s => (match (generalizing := false) o780 with | x614 => e = .exit 6 ∧ s = ⟨[], [(0, some (.row 2 127 (x614.map eBucket)))], 1⟩)) (LWp.cv (withBody (fun body hbody => ?_))) ?_
        · refine f_slices_symMergeCmpFunc_api_Bucket_hist_tidy_1.l3.partial_correctness x573 (motive := fun x593 x594 o780 => LWp Γ body (fun e s => ∃ t, Cv Γ s t ∧ (match (generalizing := false) o780 with | x614 => e = .exit 6 ∧ t = ⟨[], [(0, some (.row 2 127 (x614.map eBucket)))], 1⟩)) ⟨[(0, .own 0), (14, iV .i64 x573), (17, iV .i64 x594)], [(0, some (.row 2 127 (x593.map eBucket)))], 1⟩) ?_ _ _ _ e781
          clear H e781 o780; intro self ih x593 x594 o780 H
          subst hbody
          refine LWp.round ?_
          refine AWp.seq ?_
          refine AWp.seq ?_
          refine reg hP hn hm [] [0, 14, 17, 110] [0] ⟨[(0, .own 0), (14, iV .i64 x573), (17, iV .i64 x594), (110, bV (decide (x594 > x573)))], [(0, some (.row 2 127 (x593.map eBucket)))], 1⟩ [] (by kernel_rfl) trivial ?_
          refine AWp.cond (decide (x594 > x573)) rfl (fun c595 => ?_) (fun c595 => ?_)
          · replace H := (ifT c595).symm.trans H
            refine AWp.skip ?_
            refine AWp.seq ?_
            refine AWp.block ?_
            obtain ⟨b605, p606, q607, H⟩ := at_of H
            obtain ⟨b608, p609, q610, H⟩ := at_of H
            obtain ⟨b611, p612, q613, H⟩ := at_of H
            refine reg hP hn hm [(9, .c (eBucket b605)), (13, .c (eBucket b608)), (15, .put (eBucket b608) ((x593.set (Int.toNat (x594)) b605).map eBucket)), (17, .put (eBucket b611) (((x593.set (Int.toNat (x594)) b605).set (Int.toNat (IntKind.i64.wrap (x594 - (1 : Int)))) b608).map eBucket))] [0, 14, 17] [0] ⟨[(0, .own 0), (14, iV .i64 x573), (17, iV .i64 x594)], [(0, some (.row 2 127 (((x593.set (Int.toNat (x594)) b605).set (Int.toNat (IntKind.i64.wrap (x594 - (1 : Int)))) b608).map eBucket)))], 1⟩ [0 ≤ (IntKind.i64.wrap (x594 - (1 : Int))), IntKind.i64.wrap (x594 - (1 : Int)) < (((x593.map eBucket).length : Nat) : Int), (x593.map eBucket)[(Int.toNat (IntKind.i64.wrap (x594 - (1 : Int))))]? = some (eBucket b605), 0 ≤ x594, x594 < (((x593.map eBucket).length : Nat) : Int), (x593.map eBucket)[(Int.toNat (x594))]? = some (eBucket b608), 0 ≤ x594, x594 < (((x593.map eBucket).length : Nat) : Int), (x593.map eBucket)[(Int.toNat (x594))]? = some (eBucket b608), (x593.set (Int.toNat (x594)) b605).map eBucket = (x593.map eBucket).set (Int.toNat (x594)) (splice (eBucket b608) 0 [iI .i64 b605.f0, iI .u64 b605.f1]), 0 ≤ (IntKind.i64.wrap (x594 - (1 : Int))), IntKind.i64.wrap (x594 - (1 : Int)) < ((((x593.set (Int.toNat (x594)) b605).map eBucket).length : Nat) : Int), ((x593.set (Int.toNat (x594)) b605).map eBucket)[(Int.toNat (IntKind.i64.wrap (x594 - (1 : Int))))]? = some (eBucket b611), ((x593.set (Int.toNat (x594)) b605).set (Int.toNat (IntKind.i64.wrap (x594 - (1 : Int)))) b608).map eBucket = ((x593.set (Int.toNat (x594)) b605).map eBucket).set (Int.toNat (IntKind.i64.wrap (x594 - (1 : Int)))) (splice (eBucket b611) 0 [iI .i64 b608.f0, iI .u64 b608.f1])] (by kernel_rfl) ⟨by exact p606, by exact el_lt eBucket p606 q607, by exact el_map eBucket q607, by exact p609, by exact el_lt eBucket p609 q610, by exact el_map eBucket q610, by exact p609, by exact el_lt eBucket p609 q610, by exact el_map eBucket q610, by exact set1 _ _ _ _, by exact p612, by exact el_lt eBucket p612 q613, by exact el_map eBucket q613, by exact set1 _ _ _ _, trivial⟩ ?_
            refine reg hP hn hm [] [0, 14, 17] [0] ⟨[(0, .own 0), (14, iV .i64 x573), (17, iV .i64 (IntKind.i64.wrap (x594 - (1 : Int))))], [(0, some (.row 2 127 (((x593.set (Int.toNat (x594)) b605).set (Int.toNat (IntKind.i64.wrap (x594 - (1 : Int)))) b608).map eBucket)))], 1⟩ [] (by kernel_rfl) trivial ?_
            exact LWp.conv (inv := [(0, 0)]) (vk := []) (e0 := []) (t := ⟨[(0, .own 0), (14, iV .i64 x573), (17, iV .i64 (IntKind.i64.wrap (x594 - (1 : Int))))], [(0, some (.row 2 127 (((x593.set (Int.toNat (x594)) b605).set (Int.toNat (IntKind.i64.wrap (x594 - (1 : Int)))) b608).map eBucket)))], 1⟩) (by kernel_rfl) (ih _ _ _ H)
          · replace H := (ifF c595).symm.trans H
            refine AWp.exit ?_
            obtain rfl := Option.some.inj H
            exact Exists.intro _ (And.intro (fun _ _ h => h.conv (inv := [(0, 0)]) (vk := []) (e0 := []) (t := ⟨[], [(0, some (.row 2 127 (x593.map eBucket)))], 1⟩) (by kernel_rfl)) (And.intro rfl rfl))
        · obtain ⟨x614, rfl⟩ : ∃ z, z = o780 := ⟨_, rfl⟩
          rintro e s ⟨rfl, rfl⟩
          refine AWp.conv (inv := [(0, 0)]) (vk := []) (e0 := []) (t := ⟨[], [(0, some (.row 2 127 (x614.map eBucket)))], 1⟩) (by kernel_rfl) ?_
          refine AWp.ret ?_
          obtain rfl := Option.some.inj H
          exact Exists.intro _ (And.intro (fun _ _ h => h) (And.intro (.inl rfl) (And.intro rfl (And.intro (by kernel_rfl) (by kernel_rfl)))))
    · replace H := (ifF c530).symm.trans H
      refine AWp.skip ?_
      refine AWp.seq ?_
      refine reg hP hn hm [] [0, 1, 2, 3, 4, 18] [0] ⟨[(0, .own 0), (1, iV .i64 a1), (2, iV .i64 a2), (3, iV .i64 a3), (4, .im (.sc (.func (.func 133) #[] #[]))), (18, iV .i64 (IntKind.i64.wrap (Int.fdiv (IntKind.u64.wrap (IntKind.i64.wrap (a1 + a3))) 2)))], [(0, some (.row 2 127 (a0.map eBucket)))], 1⟩ [(0 : Int) ≤ 1] (by kernel_rfl) ⟨by decide, trivial⟩ ?_
      refine AWp.seq ?_
      refine reg hP hn hm [] [0, 1, 2, 3, 4, 18, 19] [0] ⟨[(0, .own 0), (1, iV .i64 a1), (2, iV .i64 a2), (3, iV .i64 a3), (4, .im (.sc (.func (.func 133) #[] #[]))), (18, iV .i64 (IntKind.i64.wrap (Int.fdiv (IntKind.u64.wrap (IntKind.i64.wrap (a1 + a3))) 2))), (19, iV .i64 (IntKind.i64.wrap ((IntKind.i64.wrap (Int.fdiv (IntKind.u64.wrap (IntKind.i64.wrap (a1 + a3))) 2)) + a2)))], [(0, some (.row 2 127 (a0.map eBucket)))], 1⟩ [] (by kernel_rfl) trivial ?_
      refine AWp.seq ?_
      refine reg hP hn hm [] [0, 1, 2, 3, 4, 18, 19] [0] ⟨[(0, .own 0), (1, iV .i64 a1), (2, iV .i64 a2), (3, iV .i64 a3), (4, .im (.sc (.func (.func 133) #[] #[]))), (18, iV .i64 (IntKind.i64.wrap (Int.fdiv (IntKind.u64.wrap (IntKind.i64.wrap (a1 + a3))) 2))), (19, iV .i64 (IntKind.i64.wrap ((IntKind.i64.wrap (Int.fdiv (IntKind.u64.wrap (IntKind.i64.wrap (a1 + a3))) 2)) + a2)))], [(0, some (.row 2 127 (a0.map eBucket)))], 1⟩ [] (by kernel_rfl) trivial ?_
      refine AWp.seq ?_
      refine AWp.seq ?_
      refine reg hP hn hm [] [0, 1, 2, 3, 4, 18, 19, 140] [0] ⟨[(0, .own 0), (1, iV .i64 a1), (2, iV .i64 a2), (3, iV .i64 a3), (4, .im (.sc (.func (.func 133) #[] #[]))), (18, iV .i64 (IntKind.i64.wrap (Int.fdiv (IntKind.u64.wrap (IntKind.i64.wrap (a1 + a3))) 2))), (19, iV .i64 (IntKind.i64.wrap ((IntKind.i64.wrap (Int.fdiv (IntKind.u64.wrap (IntKind.i64.wrap (a1 + a3))) 2)) + a2))), (140, bV (decide (a2 > (IntKind.i64.wrap (Int.fdiv (IntKind.u64.wrap (IntKind.i64.wrap (a1 + a3))) 2)))))], [(0, some (.row 2 127 (a0.map eBucket)))], 1⟩ [] (by kernel_rfl) trivial ?_
      obtain ⟨o782, e783, H⟩ := bind_of H
      refine AWp.mono (Q := fun e s => (match (generalizing := false) o782 with | (x616, x617) => e = .normal ∧ s = ⟨[(0, .own 0), (1, iV .i64 a1), (2, iV .i64 a2), (3, iV .i64 a3), (4, .im (.sc (.func (.func 133) #[] #[]))), (18, iV .i64 (IntKind.i64.wrap (Int.fdiv (IntKind.u64.wrap (IntKind.i64.wrap (a1 + a3))) 2))), (19, iV .i64 (IntKind.i64.wrap ((IntKind.i64.wrap (Int.fdiv (IntKind.u64.wrap (IntKind.i64.wrap (a1 + a3))) 2)) + a2))), (20, iV .i64 x616), (21, iV .i64 x617)], [(0, some (.row 2 127 (a0.map eBucket)))], 1⟩)) (AWp.cv ?_) ?_
      · replace H := e783; clear e783
        refine AWp.cond (decide (a2 > (IntKind.i64.wrap (Int.fdiv (IntKind.u64.wrap (IntKind.i64.wrap (a1 + a3))) 2)))) rfl (fun c615 => ?_) (fun c615 => ?_)
        · replace H := (ifT c615).symm.trans H
          refine AWp.seq ?_
          refine reg hP hn hm [] [0, 1, 2, 3, 4, 18, 19, 20] [0] ⟨[(0, .own 0), (1, iV .i64 a1), (2, iV .i64 a2), (3, iV .i64 a3), (4, .im (.sc (.func (.func 133) #[] #[]))), (18, iV .i64 (IntKind.i64.wrap (Int.fdiv (IntKind.u64.wrap (IntKind.i64.wrap (a1 + a3))) 2))), (19, iV .i64 (IntKind.i64.wrap ((IntKind.i64.wrap (Int.fdiv (IntKind.u64.wrap (IntKind.i64.wrap (a1 + a3))) 2)) + a2))), (20, iV .i64 (IntKind.i64.wrap ((IntKind.i64.wrap ((IntKind.i64.wrap (Int.fdiv (IntKind.u64.wrap (IntKind.i64.wrap (a1 + a3))) 2)) + a2)) - a3)))], [(0, some (.row 2 127 (a0.map eBucket)))], 1⟩ [] (by kernel_rfl) trivial ?_
          refine reg hP hn hm [] [0, 1, 2, 3, 4, 18, 19, 20, 21] [0] ⟨[(0, .own 0), (1, iV .i64 a1), (2, iV .i64 a2), (3, iV .i64 a3), (4, .im (.sc (.func (.func 133) #[] #[]))), (18, iV .i64 (IntKind.i64.wrap (Int.fdiv (IntKind.u64.wrap (IntKind.i64.wrap (a1 + a3))) 2))), (19, iV .i64 (IntKind.i64.wrap ((IntKind.i64.wrap (Int.fdiv (IntKind.u64.wrap (IntKind.i64.wrap (a1 + a3))) 2)) + a2))), (20, iV .i64 (IntKind.i64.wrap ((IntKind.i64.wrap ((IntKind.i64.wrap (Int.fdiv (IntKind.u64.wrap (IntKind.i64.wrap (a1 + a3))) 2)) + a2)) - a3))), (21, iV .i64 (IntKind.i64.wrap (Int.fdiv (IntKind.u64.wrap (IntKind.i64.wrap (a1 + a3))) 2)))], [(0, some (.row 2 127 (a0.map eBucket)))], 1⟩ [] (by kernel_rfl) trivial ?_
          obtain rfl := Option.some.inj H
          exact Exists.intro _ (And.intro (fun _ _ h => h.conv (inv := [(0, 0)]) (vk := []) (e0 := []) (t := ⟨[(0, .own 0), (1, iV .i64 a1), (2, iV .i64 a2), (3, iV .i64 a3), (4, .im (.sc (.func (.func 133) #[] #[]))), (18, iV .i64 (IntKind.i64.wrap (Int.fdiv (IntKind.u64.wrap (IntKind.i64.wrap (a1 + a3))) 2))), (19, iV .i64 (IntKind.i64.wrap ((IntKind.i64.wrap (Int.fdiv (IntKind.u64.wrap (IntKind.i64.wrap (a1 + a3))) 2)) + a2))), (20, iV .i64 (IntKind.i64.wrap ((IntKind.i64.wrap ((IntKind.i64.wrap (Int.fdiv (IntKind.u64.wrap (IntKind.i64.wrap (a1 + a3))) 2)) + a2)) - a3))), (21, iV .i64 (IntKind.i64.wrap (Int.fdiv (IntKind.u64.wrap (IntKind.i64.wrap (a1 + a3))) 2)))], [(0, some (.row 2 127 (a0.map eBucket)))], 1⟩) (by kernel_rfl)) (And.intro rfl rfl))
        · replace H := (ifF c615).symm.trans H
          refine AWp.seq ?_
          refine reg hP hn hm [] [0, 1, 2, 3, 4, 18, 19, 20] [0] ⟨[(0, .own 0), (1, iV .i64 a1), (2, iV .i64 a2), (3, iV .i64 a3), (4, .im (.sc (.func (.func 133) #[] #[]))), (18, iV .i64 (IntKind.i64.wrap (Int.fdiv (IntKind.u64.wrap (IntKind.i64.wrap (a1 + a3))) 2))), (19, iV .i64 (IntKind.i64.wrap ((IntKind.i64.wrap (Int.fdiv (IntKind.u64.wrap (IntKind.i64.wrap (a1 + a3))) 2)) + a2))), (20, iV .i64 a1)], [(0, some (.row 2 127 (a0.map eBucket)))], 1⟩ [] (by kernel_rfl) trivial ?_
          refine reg hP hn hm [] [0, 1, 2, 3, 4, 18, 19, 20, 21] [0] ⟨[(0, .own 0), (1, iV .i64 a1), (2, iV .i64 a2), (3, iV .i64 a3), (4, .im (.sc (.func (.func 133) #[] #[]))), (18, iV .i64 (IntKind.i64.wrap (Int.fdiv (IntKind.u64.wrap (IntKind.i64.wrap (a1 + a3))) 2))), (19, iV .i64 (IntKind.i64.wrap ((IntKind.i64.wrap (Int.fdiv (IntKind.u64.wrap (IntKind.i64.wrap (a1 + a3))) 2)) + a2))), (20, iV .i64 a1), (21, iV .i64 a2)], [(0, some (.row 2 127 (a0.map eBucket)))], 1⟩ [] (by kernel_rfl) trivial ?_
          obtain rfl := Option.some.inj H
          exact Exists.intro _ (And.intro (fun _ _ h => h.conv (inv := [(0, 0)]) (vk := []) (e0 := []) (t := ⟨[(0, .own 0), (1, iV .i64 a1), (2, iV .i64 a2), (3, iV .i64 a3), (4, .im (.sc (.func (.func 133) #[] #[]))), (18, iV .i64 (IntKind.i64.wrap (Int.fdiv (IntKind.u64.wrap (IntKind.i64.wrap (a1 + a3))) 2))), (19, iV .i64 (IntKind.i64.wrap ((IntKind.i64.wrap (Int.fdiv (IntKind.u64.wrap (IntKind.i64.wrap (a1 + a3))) 2)) + a2))), (20, iV .i64 a1), (21, iV .i64 a2)], [(0, some (.row 2 127 (a0.map eBucket)))], 1⟩) (by kernel_rfl)) (And.intro rfl rfl))
      · obtain ⟨x616, x617⟩ := o782
        rintro e s ⟨rfl, rfl⟩
        refine AWp.seq ?_
        refine reg hP hn hm [] [0, 1, 2, 3, 4, 18, 19, 20, 21, 22] [0] ⟨[(0, .own 0), (1, iV .i64 a1), (2, iV .i64 a2), (3, iV .i64 a3), (4, .im (.sc (.func (.func 133) #[] #[]))), (18, iV .i64 (IntKind.i64.wrap (Int.fdiv (IntKind.u64.wrap (IntKind.i64.wrap (a1 + a3))) 2))), (19, iV .i64 (IntKind.i64.wrap ((IntKind.i64.wrap (Int.fdiv (IntKind.u64.wrap (IntKind.i64.wrap (a1 + a3))) 2)) + a2))), (20, iV .i64 x616), (21, iV .i64 x617), (22, iV .i64 (IntKind.i64.wrap ((IntKind.i64.wrap ((IntKind.i64.wrap (Int.fdiv (IntKind.u64.wrap (IntKind.i64.wrap (a1 + a3))) 2)) + a2)) - (1 : Int))))], [(0, some (.row 2 127 (a0.map eBucket)))], 1⟩ [] (by kernel_rfl) trivial ?_
        refine AWp.seq ?_
        refine AWp.block ?_
        obtain ⟨o784, e785, H⟩ := bind_of H
        refine AWp.loop (LWp.conv (inv := [(0, 0)]) (vk := []) (e0 := []) (t := ⟨[(0, .own 0), (1, iV .i64 a1), (2, iV .i64 a2), (3, iV .i64 a3), (4, .im (.sc (.func (.func 133) #[] #[]))), (18, iV .i64 (IntKind.i64.wrap (Int.fdiv (IntKind.u64.wrap (IntKind.i64.wrap (a1 + a3))) 2))), (19, iV .i64 (IntKind.i64.wrap ((IntKind.i64.wrap (Int.fdiv (IntKind.u64.wrap (IntKind.i64.wrap (a1 + a3))) 2)) + a2))), (20, iV .i64 x616), (21, iV .i64 x617), (22, iV .i64 (IntKind.i64.wrap ((IntKind.i64.wrap ((IntKind.i64.wrap (Int.fdiv (IntKind.u64.wrap (IntKind.i64.wrap (a1 + a3))) 2)) + a2)) - (1 : Int))))], [(0, some (.row 2 127 (a0.map eBucket)))], 1⟩) (by kernel_rfl) ?_)
        refine LWp.mono (Q := fun e s => (match (generalizing := false) o784 with | x660 => e = .exit 8 ∧ s = ⟨[(0, .own 0), (1, iV .i64 a1), (2, iV .i64 a2), (3, iV .i64 a3), (4, .im (.sc (.func (.func 133) #[] #[]))), (18, iV .i64 (IntKind.i64.wrap (Int.fdiv (IntKind.u64.wrap (IntKind.i64.wrap (a1 + a3))) 2))), (19, iV .i64 (IntKind.i64.wrap ((IntKind.i64.wrap (Int.fdiv (IntKind.u64.wrap (IntKind.i64.wrap (a1 + a3))) 2)) + a2))), (20, iV .i64 x660)], [(0, some (.row 2 127 (a0.map eBucket)))], 1⟩)) (LWp.cv (withBody (fun body hbody => ?_))) ?_
        · refine f_slices_symMergeCmpFunc_api_Bucket_hist_tidy_1.l4.partial_correctness a0 a1 a2 a3 (motive := fun x638 x639 o784 => LWp Γ body (fun e s => ∃ t, Cv Γ s t ∧ (match (generalizing := false) o784 with | x660 => e = .exit 8 ∧ t = ⟨[(0, .own 0), (1, iV .i64 a1), (2, iV .i64 a2), (3, iV .i64 a3), (4, .im (.sc (.func (.func 133) #[] #[]))), (18, iV .i64 (IntKind.i64.wrap (Int.fdiv (IntKind.u64.wrap (IntKind.i64.wrap (a1 + a3))) 2))), (19, iV .i64 (IntKind.i64.wrap ((IntKind.i64.wrap (Int.fdiv (IntKind.u64.wrap (IntKind.i64.wrap (a1 + a3))) 2)) + a2))), (20, iV .i64 x660)], [(0, some (.row 2 127 (a0.map eBucket)))], 1⟩)) ⟨[(0, .own 0), (1, iV .i64 a1), (2, iV .i64 a2), (3, iV .i64 a3), (4, .im (.sc (.func (.func 133) #[] #[]))), (18, iV .i64 (IntKind.i64.wrap (Int.fdiv (IntKind.u64.wrap (IntKind.i64.wrap (a1 + a3))) 2))), (19, iV .i64 (IntKind.i64.wrap ((IntKind.i64.wrap (Int.fdiv (IntKind.u64.wrap (IntKind.i64.wrap (a1 + a3))) 2)) + a2))), (20, iV .i64 x638), (21, iV .i64 x639), (22, iV .i64 (IntKind.i64.wrap ((IntKind.i64.wrap ((IntKind.i64.wrap (Int.fdiv (IntKind.u64.wrap (IntKind.i64.wrap (a1 + a3))) 2)) + a2)) - (1 : Int))))], [(0, some (.row 2 127 (a0.map eBucket)))], 1⟩) ?_ _ _ _ e785
          clear H e785 o784; intro self ih x638 x639 o784 H
          subst hbody
          refine LWp.round ?_
          refine AWp.seq ?_
          refine AWp.seq ?_
          refine reg hP hn hm [] [0, 1, 2, 3, 4, 18, 19, 20, 21, 22, 151] [0] ⟨[(0, .own 0), (1, iV .i64 a1), (2, iV .i64 a2), (3, iV .i64 a3), (4, .im (.sc (.func (.func 133) #[] #[]))), (18, iV .i64 (IntKind.i64.wrap (Int.fdiv (IntKind.u64.wrap (IntKind.i64.wrap (a1 + a3))) 2))), (19, iV .i64 (IntKind.i64.wrap ((IntKind.i64.wrap (Int.fdiv (IntKind.u64.wrap (IntKind.i64.wrap (a1 + a3))) 2)) + a2))), (20, iV .i64 x638), (21, iV .i64 x639), (22, iV .i64 (IntKind.i64.wrap ((IntKind.i64.wrap ((IntKind.i64.wrap (Int.fdiv (IntKind.u64.wrap (IntKind.i64.wrap (a1 + a3))) 2)) + a2)) - (1 : Int)))), (151, bV (decide (x638 < x639)))], [(0, some (.row 2 127 (a0.map eBucket)))], 1⟩ [] (by kernel_rfl) trivial ?_
          refine AWp.cond (decide (x638 < x639)) rfl (fun c640 => ?_) (fun c640 => ?_)
          · replace H := (ifT c640).symm.trans H
            refine AWp.skip ?_
            refine AWp.block ?_
            refine AWp.seq ?_
            refine reg hP hn hm [] [0, 1, 2, 3, 4, 18, 19, 20, 21, 22, 23] [0] ⟨[(0, .own 0), (1, iV .i64 a1), (2, iV .i64 a2), (3, iV .i64 a3), (4, .im (.sc (.func (.func 133) #[] #[]))), (18, iV .i64 (IntKind.i64.wrap (Int.fdiv (IntKind.u64.wrap (IntKind.i64.wrap (a1 + a3))) 2))), (19, iV .i64 (IntKind.i64.wrap ((IntKind.i64.wrap (Int.fdiv (IntKind.u64.wrap (IntKind.i64.wrap (a1 + a3))) 2)) + a2))), (20, iV .i64 x638), (21, iV .i64 x639), (22, iV .i64 (IntKind.i64.wrap ((IntKind.i64.wrap ((IntKind.i64.wrap (Int.fdiv (IntKind.u64.wrap (IntKind.i64.wrap (a1 + a3))) 2)) + a2)) - (1 : Int)))), (23, iV .i64 (IntKind.i64.wrap (Int.fdiv (IntKind.u64.wrap (IntKind.i64.wrap (x638 + x639))) 2)))], [(0, some (.row 2 127 (a0.map eBucket)))], 1⟩ [(0 : Int) ≤ 1] (by kernel_rfl) ⟨by decide, trivial⟩ ?_
            refine AWp.seq ?_
            obtain ⟨b649, p650, q651, H⟩ := at_of H
            obtain ⟨b652, p653, q654, H⟩ := at_of H
            obtain ⟨t655, e656, H⟩ := bind_of H
            refine reg hP hn hm [(6, .c (eBucket b649)), (10, .c (eBucket b652)), (11, .call [] [] [] [] 0 (iV .i64 t655) [])] [0, 1, 2, 3, 4, 18, 19, 20, 21, 22, 23, 171] [0] ⟨[(0, .own 0), (1, iV .i64 a1), (2, iV .i64 a2), (3, iV .i64 a3), (4, .im (.sc (.func (.func 133) #[] #[]))), (18, iV .i64 (IntKind.i64.wrap (Int.fdiv (IntKind.u64.wrap (IntKind.i64.wrap (a1 + a3))) 2))), (19, iV .i64 (IntKind.i64.wrap ((IntKind.i64.wrap (Int.fdiv (IntKind.u64.wrap (IntKind.i64.wrap (a1 + a3))) 2)) + a2))), (20, iV .i64 x638), (21, iV .i64 x639), (22, iV .i64 (IntKind.i64.wrap ((IntKind.i64.wrap ((IntKind.i64.wrap (Int.fdiv (IntKind.u64.wrap (IntKind.i64.wrap (a1 + a3))) 2)) + a2)) - (1 : Int)))), (23, iV .i64 (IntKind.i64.wrap (Int.fdiv (IntKind.u64.wrap (IntKind.i64.wrap (x638 + x639))) 2))), (171, bV (!(decide (t655 < (0 : Int)))))], [(0, some (.row 2 127 (a0.map eBucket)))], 1⟩ [0 ≤ (IntKind.i64.wrap ((IntKind.i64.wrap ((IntKind.i64.wrap ((IntKind.i64.wrap (Int.fdiv (IntKind.u64.wrap (IntKind.i64.wrap (a1 + a3))) 2)) + a2)) - (1 : Int))) - (IntKind.i64.wrap (Int.fdiv (IntKind.u64.wrap (IntKind.i64.wrap (x638 + x639))) 2)))), IntKind.i64.wrap ((IntKind.i64.wrap ((IntKind.i64.wrap ((IntKind.i64.wrap (Int.fdiv (IntKind.u64.wrap (IntKind.i64.wrap (a1 + a3))) 2)) + a2)) - (1 : Int))) - (IntKind.i64.wrap (Int.fdiv (IntKind.u64.wrap (IntKind.i64.wrap (x638 + x639))) 2))) < (((a0.map eBucket).length : Nat) : Int), (a0.map eBucket)[(Int.toNat (IntKind.i64.wrap ((IntKind.i64.wrap ((IntKind.i64.wrap ((IntKind.i64.wrap (Int.fdiv (IntKind.u64.wrap (IntKind.i64.wrap (a1 + a3))) 2)) + a2)) - (1 : Int))) - (IntKind.i64.wrap (Int.fdiv (IntKind.u64.wrap (IntKind.i64.wrap (x638 + x639))) 2)))))]? = some (eBucket b649), 0 ≤ (IntKind.i64.wrap (Int.fdiv (IntKind.u64.wrap (IntKind.i64.wrap (x638 + x639))) 2)), IntKind.i64.wrap (Int.fdiv (IntKind.u64.wrap (IntKind.i64.wrap (x638 + x639))) 2) < (((a0.map eBucket).length : Nat) : Int), (a0.map eBucket)[(Int.toNat (IntKind.i64.wrap (Int.fdiv (IntKind.u64.wrap (IntKind.i64.wrap (x638 + x639))) 2)))]? = some (eBucket b652), Enters Try.prog 133, Pv.Fn Try.prog 133 [.agg (aBucket b649), .agg (aBucket b652)] [] 0 (fun r o => r = iV .i64 t655 ∧ o = [])] (by kernel_rfl) ⟨by exact p650, by exact el_lt eBucket p650 q651, by exact el_map eBucket q651, by exact p653, by exact el_lt eBucket p653 q654, by exact el_map eBucket q654, by exact Try.call133, by exact f_hist_tidy_1.ok b649 b652 t655 e656, trivial⟩ ?_
            obtain ⟨o786, e787, H⟩ := bind_of H
            refine AWp.mono (Q := fun e s => (match (generalizing := false) o786 with | (x658, x659) => e = .normal ∧ s = ⟨[(0, .own 0), (1, iV .i64 a1), (2, iV .i64 a2), (3, iV .i64 a3), (4, .im (.sc (.func (.func 133) #[] #[]))), (18, iV .i64 (IntKind.i64.wrap (Int.fdiv (IntKind.u64.wrap (IntKind.i64.wrap (a1 + a3))) 2))), (19, iV .i64 (IntKind.i64.wrap ((IntKind.i64.wrap (Int.fdiv (IntKind.u64.wrap (IntKind.i64.wrap (a1 + a3))) 2)) + a2))), (20, iV .i64 x658), (21, iV .i64 x659), (22, iV .i64 (IntKind.i64.wrap ((IntKind.i64.wrap ((IntKind.i64.wrap (Int.fdiv (IntKind.u64.wrap (IntKind.i64.wrap (a1 + a3))) 2)) + a2)) - (1 : Int))))], [(0, some (.row 2 127 (a0.map eBucket)))], 1⟩)) (AWp.cv ?_) ?_
            · replace H := e787; clear e787
              refine AWp.cond (!(decide (t655 < (0 : Int)))) rfl (fun c657 => ?_) (fun c657 => ?_)
              · replace H := (ifT c657).symm.trans H
                refine reg hP hn hm [] [0, 1, 2, 3, 4, 18, 19, 20, 21, 22] [0] ⟨[(0, .own 0), (1, iV .i64 a1), (2, iV .i64 a2), (3, iV .i64 a3), (4, .im (.sc (.func (.func 133) #[] #[]))), (18, iV .i64 (IntKind.i64.wrap (Int.fdiv (IntKind.u64.wrap (IntKind.i64.wrap (a1 + a3))) 2))), (19, iV .i64 (IntKind.i64.wrap ((IntKind.i64.wrap (Int.fdiv (IntKind.u64.wrap (IntKind.i64.wrap (a1 + a3))) 2)) + a2))), (20, iV .i64 (IntKind.i64.wrap ((IntKind.i64.wrap (Int.fdiv (IntKind.u64.wrap (IntKind.i64.wrap (x638 + x639))) 2)) + (1 : Int)))), (21, iV .i64 x639), (22, iV .i64 (IntKind.i64.wrap ((IntKind.i64.wrap ((IntKind.i64.wrap (Int.fdiv (IntKind.u64.wrap (IntKind.i64.wrap (a1 + a3))) 2)) + a2)) - (1 : Int))))], [(0, some (.row 2 127 (a0.map eBucket)))], 1⟩ [] (by kernel_rfl) trivial ?_
                obtain rfl := Option.some.inj H
                exact Exists.intro _ (And.intro (fun _ _ h => h.conv (inv := [(0, 0)]) (vk := []) (e0 := []) (t := ⟨[(0, .own 0), (1, iV .i64 a1), (2, iV .i64 a2), (3, iV .i64 a3), (4, .im (.sc (.func (.func 133) #[] #[]))), (18, iV .i64 (IntKind.i64.wrap (Int.fdiv (IntKind.u64.wrap (IntKind.i64.wrap (a1 + a3))) 2))), (19, iV .i64 (IntKind.i64.wrap ((IntKind.i64.wrap (Int.fdiv (IntKind.u64.wrap (IntKind.i64.wrap (a1 + a3))) 2)) + a2))), (20, iV .i64 (IntKind.i64.wrap ((IntKind.i64.wrap (Int.fdiv (IntKind.u64.wrap (IntKind.i64.wrap (x638 + x639))) 2)) + (1 : Int)))), (21, iV .i64 x639), (22, iV .i64 (IntKind.i64.wrap ((IntKind.i64.wrap ((IntKind.i64.wrap (Int.fdiv (IntKind.u64.wrap (IntKind.i64.wrap (a1 + a3))) 2)) + a2)) - (1 : Int))))], [(0, some (.row 2 127 (a0.map eBucket)))], 1⟩) (by kernel_rfl)) (And.intro rfl rfl))
              · replace H := (ifF c657).symm.trans H
                refine reg hP hn hm [] [0, 1, 2, 3, 4, 18, 19, 20, 21, 22] [0] ⟨[(0, .own 0), (1, iV .i64 a1), (2, iV .i64 a2), (3, iV .i64 a3), (4, .im (.sc (.func (.func 133) #[] #[]))), (18, iV .i64 (IntKind.i64.wrap (Int.fdiv (IntKind.u64.wrap (IntKind.i64.wrap (a1 + a3))) 2))), (19, iV .i64 (IntKind.i64.wrap ((IntKind.i64.wrap (Int.fdiv (IntKind.u64.wrap (IntKind.i64.wrap (a1 + a3))) 2)) + a2))), (20, iV .i64 x638), (21, iV .i64 (IntKind.i64.wrap (Int.fdiv (IntKind.u64.wrap (IntKind.i64.wrap (x638 + x639))) 2))), (22, iV .i64 (IntKind.i64.wrap ((IntKind.i64.wrap ((IntKind.i64.wrap (Int.fdiv (IntKind.u64.wrap (IntKind.i64.wrap (a1 + a3))) 2)) + a2)) - (1 : Int))))], [(0, some (.row 2 127 (a0.map eBucket)))], 1⟩ [] (by kernel_rfl) trivial ?_
                obtain rfl := Option.some.inj H
                exact Exists.intro _ (And.intro (fun _ _ h => h.conv (inv := [(0, 0)]) (vk := []) (e0 := []) (t := ⟨[(0, .own 0), (1, iV .i64 a1), (2, iV .i64 a2), (3, iV .i64 a3), (4, .im (.sc (.func (.func 133) #[] #[]))), (18, iV .i64 (IntKind.i64.wrap (Int.fdiv (IntKind.u64.wrap (IntKind.i64.wrap (a1 + a3))) 2))), (19, iV .i64 (IntKind.i64.wrap ((IntKind.i64.wrap (Int.fdiv (IntKind.u64.wrap (IntKind.i64.wrap (a1 + a3))) 2)) + a2))), (20, iV .i64 x638), (21, iV .i64 (IntKind.i64.wrap (Int.fdiv (IntKind.u64.wrap (IntKind.i64.wrap (x638 + x639))) 2))), (22, iV .i64 (IntKind.i64.wrap ((IntKind.i64.wrap ((IntKind.i64.wrap (Int.fdiv (IntKind.u64.wrap (IntKind.i64.wrap (a1 + a3))) 2)) + a2)) - (1 : Int))))], [(0, some (.row 2 127 (a0.map eBucket)))], 1⟩) (by kernel_rfl)) (And.intro rfl rfl))
            · obtain ⟨x658, x659⟩ := o786
              rintro e s ⟨rfl, rfl⟩
              exact LWp.conv (inv := [(0, 0)]) (vk := []) (e0 := []) (t := ⟨[(0, .own 0), (1, iV .i64 a1), (2, iV .i64 a2), (3, iV .i64 a3), (4, .im (.sc (.func (.func 133) #[] #[]))), (18, iV .i64 (IntKind.i64.wrap (Int.fdiv (IntKind.u64.wrap (IntKind.i64.wrap (a1 + a3))) 2))), (19, iV .i64 (IntKind.i64.wrap ((IntKind.i64.wrap (Int.fdiv (IntKind.u64.wrap (IntKind.i64.wrap (a1 + a3))) 2)) + a2))), (20, iV .i64 x658), (21, iV .i64 x659), (22, iV .i64 (IntKind.i64.wrap ((IntKind.i64.wrap ((IntKind.i64.wrap (Int.fdiv (IntKind.u64.wrap (IntKind.i64.wrap (a1 + a3))) 2)) + a2)) - (1 : Int))))], [(0, some (.row 2 127 (a0.map eBucket)))], 1⟩) (by kernel_rfl) (ih _ _ _ H)
          · replace H := (ifF c640).symm.trans H
            refine AWp.exit ?_
            obtain rfl := Option.some.inj H
            exact Exists.intro _ (And.intro (fun _ _ h => h.conv (inv := [(0, 0)]) (vk := []) (e0 := []) (t := ⟨[(0, .own 0), (1, iV .i64 a1), (2, iV .i64 a2), (3, iV .i64 a3), (4, .im (.sc (.func (.func 133) #[] #[]))), (18, iV .i64 (IntKind.i64.wrap (Int.fdiv (IntKind.u64.wrap (IntKind.i64.wrap (a1 + a3))) 2))), (19, iV .i64 (IntKind.i64.wrap ((IntKind.i64.wrap (Int.fdiv (IntKind.u64.wrap (IntKind.i64.wrap (a1 + a3))) 2)) + a2))), (20, iV .i64 x638)], [(0, some (.row 2 127 (a0.map eBucket)))], 1⟩) (by kernel_rfl)) (And.intro rfl rfl))
        · obtain ⟨x660, rfl⟩ : ∃ z, z = o784 := ⟨_, rfl⟩
          rintro e s ⟨rfl, rfl⟩
          refine AWp.seq ?_
          refine reg hP hn hm [] [0, 1, 2, 3, 4, 18, 20, 24] [0] ⟨[(0, .own 0), (1, iV .i64 a1), (2, iV .i64 a2), (3, iV .i64 a3), (4, .im (.sc (.func (.func 133) #[] #[]))), (18, iV .i64 (IntKind.i64.wrap (Int.fdiv (IntKind.u64.wrap (IntKind.i64.wrap (a1 + a3))) 2))), (20, iV .i64 x660), (24, iV .i64 (IntKind.i64.wrap ((IntKind.i64.wrap ((IntKind.i64.wrap (Int.fdiv (IntKind.u64.wrap (IntKind.i64.wrap (a1 + a3))) 2)) + a2)) - x660)))], [(0, some (.row 2 127 (a0.map eBucket)))], 1⟩ [] (by kernel_rfl) trivial ?_
          refine AWp.seq ?_
          refine AWp.seq ?_
          obtain ⟨o788, e789, H⟩ := bind_of H
          refine AWp.mono (Q := fun e s => (match (generalizing := false) o788 with | x663 => e = .normal ∧ s = ⟨[(0, .own 0), (1, iV .i64 a1), (2, iV .i64 a2), (3, iV .i64 a3), (4, .im (.sc (.func (.func 133) #[] #[]))), (18, iV .i64 (IntKind.i64.wrap (Int.fdiv (IntKind.u64.wrap (IntKind.i64.wrap (a1 + a3))) 2))), (20, iV .i64 x660), (24, iV .i64 (IntKind.i64.wrap ((IntKind.i64.wrap ((IntKind.i64.wrap (Int.fdiv (IntKind.u64.wrap (IntKind.i64.wrap (a1 + a3))) 2)) + a2)) - x660))), (185, bV x663)], [(0, some (.row 2 127 (a0.map eBucket)))], 1⟩)) (AWp.cv ?_) ?_
          · replace H := e789; clear e789
            rcases Bool.eq_false_or_eq_true (decide (x660 < a2)) with c662 | c662
            · replace H := (ifT c662).symm.trans H
              refine reg hP hn hm [(3, .b true)] [0, 1, 2, 3, 4, 18, 20, 24, 185] [0] ⟨[(0, .own 0), (1, iV .i64 a1), (2, iV .i64 a2), (3, iV .i64 a3), (4, .im (.sc (.func (.func 133) #[] #[]))), (18, iV .i64 (IntKind.i64.wrap (Int.fdiv (IntKind.u64.wrap (IntKind.i64.wrap (a1 + a3))) 2))), (20, iV .i64 x660), (24, iV .i64 (IntKind.i64.wrap ((IntKind.i64.wrap ((IntKind.i64.wrap (Int.fdiv (IntKind.u64.wrap (IntKind.i64.wrap (a1 + a3))) 2)) + a2)) - x660))), (185, bV (decide (a2 < (IntKind.i64.wrap ((IntKind.i64.wrap ((IntKind.i64.wrap (Int.fdiv (IntKind.u64.wrap (IntKind.i64.wrap (a1 + a3))) 2)) + a2)) - x660)))))], [(0, some (.row 2 127 (a0.map eBucket)))], 1⟩ [(decide (x660 < a2)) = true] (by kernel_rfl) ⟨by exact c662, trivial⟩ ?_
              obtain rfl := Option.some.inj H
              exact Exists.intro _ (And.intro (fun _ _ h => h.conv (inv := [(0, 0)]) (vk := []) (e0 := []) (t := ⟨[(0, .own 0), (1, iV .i64 a1), (2, iV .i64 a2), (3, iV .i64 a3), (4, .im (.sc (.func (.func 133) #[] #[]))), (18, iV .i64 (IntKind.i64.wrap (Int.fdiv (IntKind.u64.wrap (IntKind.i64.wrap (a1 + a3))) 2))), (20, iV .i64 x660), (24, iV .i64 (IntKind.i64.wrap ((IntKind.i64.wrap ((IntKind.i64.wrap (Int.fdiv (IntKind.u64.wrap (IntKind.i64.wrap (a1 + a3))) 2)) + a2)) - x660))), (185, bV (decide (a2 < (IntKind.i64.wrap ((IntKind.i64.wrap ((IntKind.i64.wrap (Int.fdiv (IntKind.u64.wrap (IntKind.i64.wrap (a1 + a3))) 2)) + a2)) - x660)))))], [(0, some (.row 2 127 (a0.map eBucket)))], 1⟩) (by kernel_rfl)) (And.intro rfl rfl))
            · replace H := (ifF c662).symm.trans H
              refine reg hP hn hm [(3, .b false)] [0, 1, 2, 3, 4, 18, 20, 24, 185] [0] ⟨[(0, .own 0), (1, iV .i64 a1), (2, iV .i64 a2), (3, iV .i64 a3), (4, .im (.sc (.func (.func 133) #[] #[]))), (18, iV .i64 (IntKind.i64.wrap (Int.fdiv (IntKind.u64.wrap (IntKind.i64.wrap (a1 + a3))) 2))), (20, iV .i64 x660), (24, iV .i64 (IntKind.i64.wrap ((IntKind.i64.wrap ((IntKind.i64.wrap (Int.fdiv (IntKind.u64.wrap (IntKind.i64.wrap (a1 + a3))) 2)) + a2)) - x660))), (185, bV false)], [(0, some (.row 2 127 (a0.map eBucket)))], 1⟩ [(decide (x660 < a2)) = false] (by kernel_rfl) ⟨by exact c662, trivial⟩ ?_
              obtain rfl := Option.some.inj H
              exact Exists.intro _ (And.intro (fun _ _ h => h.conv (inv := [(0, 0)]) (vk := []) (e0 := []) (t := ⟨[(0, .own 0), (1, iV .i64 a1), (2, iV .i64 a2), (3, iV .i64 a3), (4, .im (.sc (.func (.func 133) #[] #[]))), (18, iV .i64 (IntKind.i64.wrap (Int.fdiv (IntKind.u64.wrap (IntKind.i64.wrap (a1 + a3))) 2))), (20, iV .i64 x660), (24, iV .i64 (IntKind.i64.wrap ((IntKind.i64.wrap ((IntKind.i64.wrap (Int.fdiv (IntKind.u64.wrap (IntKind.i64.wrap (a1 + a3))) 2)) + a2)) - x660))), (185, bV false)], [(0, some (.row 2 127 (a0.map eBucket)))], 1⟩) (by kernel_rfl)) (And.intro rfl rfl))
          · obtain ⟨x663, rfl⟩ : ∃ z, z = o788 := ⟨_, rfl⟩
            rintro e s ⟨rfl, rfl⟩
            obtain ⟨o790, e791, H⟩ := bind_of H
            refine AWp.mono (Q := fun e s => (match (generalizing := false) o790 with | x751 => e = .normal ∧ s = ⟨[(0, .own 0), (1, iV .i64 a1), (3, iV .i64 a3), (4, .im (.sc (.func (.func 133) #[] #[]))), (18, iV .i64 (IntKind.i64.wrap (Int.fdiv (IntKind.u64.wrap (IntKind.i64.wrap (a1 + a3))) 2))), (20, iV .i64 x660), (24, iV .i64 (IntKind.i64.wrap ((IntKind.i64.wrap ((IntKind.i64.wrap (Int.fdiv (IntKind.u64.wrap (IntKind.i64.wrap (a1 + a3))) 2)) + a2)) - x660)))], [(0, some (.row 2 127 (x751.map eBucket)))], 1⟩)) (AWp.cv ?_) ?_
            · replace H := e791; clear e791
              refine AWp.cond x663 rfl (fun c664 => ?_) (fun c664 => ?_)
              · replace H := (ifT c664).symm.trans H
                obtain ⟨t749, e750, H⟩ := bind_of H
                refine reg hP hn hm [(5, .call [(0, 0)] [(0, 0)] [] [] 1 (.tup []) [(0, some (.row 2 127 (t749.map eBucket)))])] [0, 1, 3, 4, 18, 20, 24] [0] ⟨[(0, .own 0), (1, iV .i64 a1), (3, iV .i64 a3), (4, .im (.sc (.func (.func 133) #[] #[]))), (18, iV .i64 (IntKind.i64.wrap (Int.fdiv (IntKind.u64.wrap (IntKind.i64.wrap (a1 + a3))) 2))), (20, iV .i64 x660), (24, iV .i64 (IntKind.i64.wrap ((IntKind.i64.wrap ((IntKind.i64.wrap (Int.fdiv (IntKind.u64.wrap (IntKind.i64.wrap (a1 + a3))) 2)) + a2)) - x660)))], [(0, some (.row 2 127 (t749.map eBucket)))], 1⟩ [Enters Try.prog 152, Pv.Fn Try.prog 152 [.own 0, iV .i64 x660, iV .i64 a2, iV .i64 (IntKind.i64.wrap ((IntKind.i64.wrap ((IntKind.i64.wrap (Int.fdiv (IntKind.u64.wrap (IntKind.i64.wrap (a1 + a3))) 2)) + a2)) - x660)), .im (.sc (.func (.func 133) #[] #[]))] [(0, some (.row 2 127 (a0.map eBucket)))] 1 (fun r o => r = .tup [] ∧ o = [(0, some (.row 2 127 (t749.map eBucket)))])] (by kernel_rfl) ⟨by exact Try.call152, by exact f_slices_rotateCmpFunc_api_Bucket_hist_tidy_1.ok a0 x660 a2 (IntKind.i64.wrap ((IntKind.i64.wrap ((IntKind.i64.wrap (Int.fdiv (IntKind.u64.wrap (IntKind.i64.wrap (a1 + a3))) 2)) + a2)) - x660)) t749 e750, trivial⟩ ?_
                obtain rfl := Option.some.inj H
                exact Exists.intro _ (And.intro (fun _ _ h => h.conv (inv := [(0, 0)]) (vk := []) (e0 := []) (t := ⟨[(0, .own 0), (1, iV .i64 a1), (3, iV .i64 a3), (4, .im (.sc (.func (.func 133) #[] #[]))), (18, iV .i64 (IntKind.i64.wrap (Int.fdiv (IntKind.u64.wrap (IntKind.i64.wrap (a1 + a3))) 2))), (20, iV .i64 x660), (24, iV .i64 (IntKind.i64.wrap ((IntKind.i64.wrap ((IntKind.i64.wrap (Int.fdiv (IntKind.u64.wrap (IntKind.i64.wrap (a1 + a3))) 2)) + a2)) - x660)))], [(0, some (.row 2 127 (t749.map eBucket)))], 1⟩) (by kernel_rfl)) (And.intro rfl rfl))
              · replace H := (ifF c664).symm.trans H
                refine AWp.skip ?_
                obtain rfl := Option.some.inj H
                exact Exists.intro _ (And.intro (fun _ _ h => h.conv (inv := [(0, 0)]) (vk := []) (e0 := []) (t := ⟨[(0, .own 0), (1, iV .i64 a1), (3, iV .i64 a3), (4, .im (.sc (.func (.func 133) #[] #[]))), (18, iV .i64 (IntKind.i64.wrap (Int.fdiv (IntKind.u64.wrap (IntKind.i64.wrap (a1 + a3))) 2))), (20, iV .i64 x660), (24, iV .i64 (IntKind.i64.wrap ((IntKind.i64.wrap ((IntKind.i64.wrap (Int.fdiv (IntKind.u64.wrap (IntKind.i64.wrap (a1 + a3))) 2)) + a2)) - x660)))], [(0, some (.row 2 127 (a0.map eBucket)))], 1⟩) (by kernel_rfl)) (And.intro rfl rfl))
            · obtain ⟨x751, rfl⟩ : ∃ z, z = o790 := ⟨_, rfl⟩
              rintro e s ⟨rfl, rfl⟩
              refine AWp.seq ?_
              refine AWp.seq ?_
              obtain ⟨o792, e793, H⟩ := bind_of H
              refine AWp.mono (Q := fun e s => (match (generalizing := false) o792 with | x754 => e = .normal ∧ s = ⟨[(0, .own 0), (1, iV .i64 a1), (3, iV .i64 a3), (4, .im (.sc (.func (.func 133) #[] #[]))), (18, iV .i64 (IntKind.i64.wrap (Int.fdiv (IntKind.u64.wrap (IntKind.i64.wrap (a1 + a3))) 2))), (20, iV .i64 x660), (24, iV .i64 (IntKind.i64.wrap ((IntKind.i64.wrap ((IntKind.i64.wrap (Int.fdiv (IntKind.u64.wrap (IntKind.i64.wrap (a1 + a3))) 2)) + a2)) - x660))), (199, bV x754)], [(0, some (.row 2 127 (x751.map eBucket)))], 1⟩)) (AWp.cv ?_) ?_
              · replace H := e793; clear e793
                rcases Bool.eq_false_or_eq_true (decide (a1 < x660)) with c753 | c753
                · replace H := (ifT c753).symm.trans H
                  refine reg hP hn hm [(3, .b true)] [0, 1, 3, 4, 18, 20, 24, 199] [0] ⟨[(0, .own 0), (1, iV .i64 a1), (3, iV .i64 a3), (4, .im (.sc (.func (.func 133) #[] #[]))), (18, iV .i64 (IntKind.i64.wrap (Int.fdiv (IntKind.u64.wrap (IntKind.i64.wrap (a1 + a3))) 2))), (20, iV .i64 x660), (24, iV .i64 (IntKind.i64.wrap ((IntKind.i64.wrap ((IntKind.i64.wrap (Int.fdiv (IntKind.u64.wrap (IntKind.i64.wrap (a1 + a3))) 2)) + a2)) - x660))), (199, bV (decide (x660 < (IntKind.i64.wrap (Int.fdiv (IntKind.u64.wrap (IntKind.i64.wrap (a1 + a3))) 2)))))], [(0, some (.row 2 127 (x751.map eBucket)))], 1⟩ [(decide (a1 < x660)) = true] (by kernel_rfl) ⟨by exact c753, trivial⟩ ?_
                  obtain rfl := Option.some.inj H
                  exact Exists.intro _ (And.intro (fun _ _ h => h.conv (inv := [(0, 0)]) (vk := []) (e0 := []) (t := ⟨[(0, .own 0), (1, iV .i64 a1), (3, iV .i64 a3), (4, .im (.sc (.func (.func 133) #[] #[]))), (18, iV .i64 (IntKind.i64.wrap (Int.fdiv (IntKind.u64.wrap (IntKind.i64.wrap (a1 + a3))) 2))), (20, iV .i64 x660), (24, iV .i64 (IntKind.i64.wrap ((IntKind.i64.wrap ((IntKind.i64.wrap (Int.fdiv (IntKind.u64.wrap (IntKind.i64.wrap (a1 + a3))) 2)) + a2)) - x660))), (199, bV (decide (x660 < (IntKind.i64.wrap (Int.fdiv (IntKind.u64.wrap (IntKind.i64.wrap (a1 + a3))) 2)))))], [(0, some (.row 2 127 (x751.map eBucket)))], 1⟩) (by kernel_rfl)) (And.intro rfl rfl))
                · replace H := (ifF c753).symm.trans H
                  refine reg hP hn hm [(3, .b false)] [0, 1, 3, 4, 18, 20, 24, 199] [0] ⟨[(0, .own 0), (1, iV .i64 a1), (3, iV .i64 a3), (4, .im (.sc (.func (.func 133) #[] #[]))), (18, iV .i64 (IntKind.i64.wrap (Int.fdiv (IntKind.u64.wrap (IntKind.i64.wrap (a1 + a3))) 2))), (20, iV .i64 x660), (24, iV .i64 (IntKind.i64.wrap ((IntKind.i64.wrap ((IntKind.i64.wrap (Int.fdiv (IntKind.u64.wrap (IntKind.i64.wrap (a1 + a3))) 2)) + a2)) - x660))), (199, bV false)], [(0, some (.row 2 127 (x751.map eBucket)))], 1⟩ [(decide (a1 < x660)) = false] (by kernel_rfl) ⟨by exact c753, trivial⟩ ?_
                  obtain rfl := Option.some.inj H
                  exact Exists.intro _ (And.intro (fun _ _ h => h.conv (inv := [(0, 0)]) (vk := []) (e0 := []) (t := ⟨[(0, .own 0), (1, iV .i64 a1), (3, iV .i64 a3), (4, .im (.sc (.func (.func 133) #[] #[]))), (18, iV .i64 (IntKind.i64.wrap (Int.fdiv (IntKind.u64.wrap (IntKind.i64.wrap (a1 + a3))) 2))), (20, iV .i64 x660), (24, iV .i64 (IntKind.i64.wrap ((IntKind.i64.wrap ((IntKind.i64.wrap (Int.fdiv (IntKind.u64.wrap (IntKind.i64.wrap (a1 + a3))) 2)) + a2)) - x660))), (199, bV false)], [(0, some (.row 2 127 (x751.map eBucket)))], 1⟩) (by kernel_rfl)) (And.intro rfl rfl))
              · obtain ⟨x754, rfl⟩ : ∃ z, z = o792 := ⟨_, rfl⟩
                rintro e s ⟨rfl, rfl⟩
                obtain ⟨o794, e795, H⟩ := bind_of H
                refine AWp.mono (Q := fun e s => (match (generalizing := false) o794 with | x760 => e = .normal ∧ s = ⟨[(0, .own 0), (3, iV .i64 a3), (4, .im (.sc (.func (.func 133) #[] #[]))), (18, iV .i64 (IntKind.i64.wrap (Int.fdiv (IntKind.u64.wrap (IntKind.i64.wrap (a1 + a3))) 2))), (24, iV .i64 (IntKind.i64.wrap ((IntKind.i64.wrap ((IntKind.i64.wrap (Int.fdiv (IntKind.u64.wrap (IntKind.i64.wrap (a1 + a3))) 2)) + a2)) - x660)))], [(0, some (.row 2 127 (x760.map eBucket)))], 1⟩)) (AWp.cv ?_) ?_
                · replace H := e795; clear e795
                  refine AWp.cond x754 rfl (fun c755 => ?_) (fun c755 => ?_)
                  · replace H := (ifT c755).symm.trans H
                    obtain ⟨t758, e759, H⟩ := bind_of H
                    refine reg hP hn hm [(5, .call [(0, 0)] [(0, 0)] [] [] 1 (.tup []) [(0, some (.row 2 127 (t758.map eBucket)))])] [0, 3, 4, 18, 24] [0] ⟨[(0, .own 0), (3, iV .i64 a3), (4, .im (.sc (.func (.func 133) #[] #[]))), (18, iV .i64 (IntKind.i64.wrap (Int.fdiv (IntKind.u64.wrap (IntKind.i64.wrap (a1 + a3))) 2))), (24, iV .i64 (IntKind.i64.wrap ((IntKind.i64.wrap ((IntKind.i64.wrap (Int.fdiv (IntKind.u64.wrap (IntKind.i64.wrap (a1 + a3))) 2)) + a2)) - x660)))], [(0, some (.row 2 127 (t758.map eBucket)))], 1⟩ [Enters Try.prog 151, Pv.Fn Try.prog 151 [.own 0, iV .i64 a1, iV .i64 x660, iV .i64 (IntKind.i64.wrap (Int.fdiv (IntKind.u64.wrap (IntKind.i64.wrap (a1 + a3))) 2)), .im (.sc (.func (.func 133) #[] #[]))] [(0, some (.row 2 127 (x751.map eBucket)))] 1 (fun r o => r = .tup [] ∧ o = [(0, some (.row 2 127 (t758.map eBucket)))])] (by kernel_rfl) ⟨by exact Try.call151, by exact ihF x751 a1 x660 (IntKind.i64.wrap (Int.fdiv (IntKind.u64.wrap (IntKind.i64.wrap (a1 + a3))) 2)) _ e759, trivial⟩ ?_
                    obtain rfl := Option.some.inj H
                    exact Exists.intro _ (And.intro (fun _ _ h => h.conv (inv := [(0, 0)]) (vk := []) (e0 := []) (t := ⟨[(0, .own 0), (3, iV .i64 a3), (4, .im (.sc (.func (.func 133) #[] #[]))), (18, iV .i64 (IntKind.i64.wrap (Int.fdiv (IntKind.u64.wrap (IntKind.i64.wrap (a1 + a3))) 2))), (24, iV .i64 (IntKind.i64.wrap ((IntKind.i64.wrap ((IntKind.i64.wrap (Int.fdiv (IntKind.u64.wrap (IntKind.i64.wrap (a1 + a3))) 2)) + a2)) - x660)))], [(0, some (.row 2 127 (t758.map eBucket)))], 1⟩) (by kernel_rfl)) (And.intro rfl rfl))
                  · replace H := (ifF c755).symm.trans H
                    refine AWp.skip ?_
                    obtain rfl := Option.some.inj H
                    exact Exists.intro _ (And.intro (fun _ _ h => h.conv (inv := [(0, 0)]) (vk := []) (e0 := []) (t := ⟨[(0, .own 0), (3, iV .i64 a3), (4, .im (.sc (.func (.func 133) #[] #[]))), (18, iV .i64 (IntKind.i64.wrap (Int.fdiv (IntKind.u64.wrap (IntKind.i64.wrap (a1 + a3))) 2))), (24, iV .i64 (IntKind.i64.wrap ((IntKind.i64.wrap ((IntKind.i64.wrap (Int.fdiv (IntKind.u64.wrap (IntKind.i64.wrap (a1 + a3))) 2)) + a2)) - x660)))], [(0, some (.row 2 127 (x751.map eBucket)))], 1⟩) (by kernel_rfl)) (And.intro rfl rfl))
                · obtain ⟨x760, rfl⟩ : ∃ z, z = o794 := ⟨_, rfl⟩
                  rintro e s ⟨rfl, rfl⟩
                  refine AWp.seq ?_
                  obtain ⟨o796, e797, H⟩ := bind_of H
                  refine AWp.mono (Q := fun e s => (match (generalizing := false) o796 with | x763 => e = .normal ∧ s = ⟨[(0, .own 0), (3, iV .i64 a3), (4, .im (.sc (.func (.func 133) #[] #[]))), (18, iV .i64 (IntKind.i64.wrap (Int.fdiv (IntKind.u64.wrap (IntKind.i64.wrap (a1 + a3))) 2))), (24, iV .i64 (IntKind.i64.wrap ((IntKind.i64.wrap ((IntKind.i64.wrap (Int.fdiv (IntKind.u64.wrap (IntKind.i64.wrap (a1 + a3))) 2)) + a2)) - x660))), (213, bV x763)], [(0, some (.row 2 127 (x760.map eBucket)))], 1⟩)) (AWp.cv ?_) ?_
                  · replace H := e797; clear e797
                    rcases Bool.eq_false_or_eq_true (decide ((IntKind.i64.wrap (Int.fdiv (IntKind.u64.wrap (IntKind.i64.wrap (a1 + a3))) 2)) < (IntKind.i64.wrap ((IntKind.i64.wrap ((IntKind.i64.wrap (Int.fdiv (IntKind.u64.wrap (IntKind.i64.wrap (a1 + a3))) 2)) + a2)) - x660)))) with c762 | c762
                    · replace H := (ifT c762).symm.trans H
                      refine reg hP hn hm [(3, .b true)] [0, 3, 4, 18, 24, 213] [0] ⟨[(0, .own 0), (3, iV .i64 a3), (4, .im (.sc (.func (.func 133) #[] #[]))), (18, iV .i64 (IntKind.i64.wrap (Int.fdiv (IntKind.u64.wrap (IntKind.i64.wrap (a1 + a3))) 2))), (24, iV .i64 (IntKind.i64.wrap ((IntKind.i64.wrap ((IntKind.i64.wrap (Int.fdiv (IntKind.u64.wrap (IntKind.i64.wrap (a1 + a3))) 2)) + a2)) - x660))), (213, bV (decide ((IntKind.i64.wrap ((IntKind.i64.wrap ((IntKind.i64.wrap (Int.fdiv (IntKind.u64.wrap (IntKind.i64.wrap (a1 + a3))) 2)) + a2)) - x660)) < a3)))], [(0, some (.row 2 127 (x760.map eBucket)))], 1⟩ [(decide ((IntKind.i64.wrap (Int.fdiv (IntKind.u64.wrap (IntKind.i64.wrap (a1 + a3))) 2)) < (IntKind.i64.wrap ((IntKind.i64.wrap ((IntKind.i64.wrap (Int.fdiv (IntKind.u64.wrap (IntKind.i64.wrap (a1 + a3))) 2)) + a2)) - x660)))) = true] (by kernel_rfl) ⟨by exact c762, trivial⟩ ?_
                      obtain rfl := Option.some.inj H
                      exact Exists.intro _ (And.intro (fun _ _ h => h.conv (inv := [(0, 0)]) (vk := []) (e0 := []) (t := ⟨[(0, .own 0), (3, iV .i64 a3), (4, .im (.sc (.func (.func 133) #[] #[]))), (18, iV .i64 (IntKind.i64.wrap (Int.fdiv (IntKind.u64.wrap (IntKind.i64.wrap (a1 + a3))) 2))), (24, iV .i64 (IntKind.i64.wrap ((IntKind.i64.wrap ((IntKind.i64.wrap (Int.fdiv (IntKind.u64.wrap (IntKind.i64.wrap (a1 + a3))) 2)) + a2)) - x660))), (213, bV (decide ((IntKind.i64.wrap ((IntKind.i64.wrap ((IntKind.i64.wrap (Int.fdiv (IntKind.u64.wrap (IntKind.i64.wrap (a1 + a3))) 2)) + a2)) - x660)) < a3)))], [(0, some (.row 2 127 (x760.map eBucket)))], 1⟩) (by kernel_rfl)) (And.intro rfl rfl))
                    · replace H := (ifF c762).symm.trans H
                      refine reg hP hn hm [(3, .b false)] [0, 3, 4, 18, 24, 213] [0] ⟨[(0, .own 0), (3, iV .i64 a3), (4, .im (.sc (.func (.func 133) #[] #[]))), (18, iV .i64 (IntKind.i64.wrap (Int.fdiv (IntKind.u64.wrap (IntKind.i64.wrap (a1 + a3))) 2))), (24, iV .i64 (IntKind.i64.wrap ((IntKind.i64.wrap ((IntKind.i64.wrap (Int.fdiv (IntKind.u64.wrap (IntKind.i64.wrap (a1 + a3))) 2)) + a2)) - x660))), (213, bV false)], [(0, some (.row 2 127 (x760.map eBucket)))], 1⟩ [(decide ((IntKind.i64.wrap (Int.fdiv (IntKind.u64.wrap (IntKind.i64.wrap (a1 + a3))) 2)) < (IntKind.i64.wrap ((IntKind.i64.wrap ((IntKind.i64.wrap (Int.fdiv (IntKind.u64.wrap (IntKind.i64.wrap (a1 + a3))) 2)) + a2)) - x660)))) = false] (by kernel_rfl) ⟨by exact c762, trivial⟩ ?_
                      obtain rfl := Option.some.inj H
                      exact Exists.intro _ (And.intro (fun _ _ h => h.conv (inv := [(0, 0)]) (vk := []) (e0 := []) (t := ⟨[(0, .own 0), (3, iV .i64 a3), (4, .im (.sc (.func (.func 133) #[] #[]))), (18, iV .i64 (IntKind.i64.wrap (Int.fdiv (IntKind.u64.wrap (IntKind.i64.wrap (a1 + a3))) 2))), (24, iV .i64 (IntKind.i64.wrap ((IntKind.i64.wrap ((IntKind.i64.wrap (Int.fdiv (IntKind.u64.wrap (IntKind.i64.wrap (a1 + a3))) 2)) + a2)) - x660))), (213, bV false)], [(0, some (.row 2 127 (x760.map eBucket)))], 1⟩) (by kernel_rfl)) (And.intro rfl rfl))
                  · obtain ⟨x763, rfl⟩ : ∃ z, z = o796 := ⟨_, rfl⟩
                    rintro e s ⟨rfl, rfl⟩
                    obtain ⟨o798, e799, H⟩ := bind_of H
                    refine AWp.mono (Q := fun e s => (match (generalizing := false) o798 with | x769 => e = .normal ∧ s = ⟨[], [(0, some (.row 2 127 (x769.map eBucket)))], 1⟩)) (AWp.cv ?_) ?_
                    · replace H := e799; clear e799
                      refine AWp.cond x763 rfl (fun c764 => ?_) (fun c764 => ?_)
                      · replace H := (ifT c764).symm.trans H
                        obtain ⟨t767, e768, H⟩ := bind_of H
                        refine reg hP hn hm [(5, .call [(0, 0)] [(0, 0)] [] [] 1 (.tup []) [(0, some (.row 2 127 (t767.map eBucket)))])] [] [0] ⟨[], [(0, some (.row 2 127 (t767.map eBucket)))], 1⟩ [Enters Try.prog 151, Pv.Fn Try.prog 151 [.own 0, iV .i64 (IntKind.i64.wrap (Int.fdiv (IntKind.u64.wrap (IntKind.i64.wrap (a1 + a3))) 2)), iV .i64 (IntKind.i64.wrap ((IntKind.i64.wrap ((IntKind.i64.wrap (Int.fdiv (IntKind.u64.wrap (IntKind.i64.wrap (a1 + a3))) 2)) + a2)) - x660)), iV .i64 a3, .im (.sc (.func (.func 133) #[] #[]))] [(0, some (.row 2 127 (x760.map eBucket)))] 1 (fun r o => r = .tup [] ∧ o = [(0, some (.row 2 127 (t767.map eBucket)))])] (by kernel_rfl) ⟨by exact Try.call151, by exact ihF x760 (IntKind.i64.wrap (Int.fdiv (IntKind.u64.wrap (IntKind.i64.wrap (a1 + a3))) 2)) (IntKind.i64.wrap ((IntKind.i64.wrap ((IntKind.i64.wrap (Int.fdiv (IntKind.u64.wrap (IntKind.i64.wrap (a1 + a3))) 2)) + a2)) - x660)) a3 _ e768, trivial⟩ ?_
                        obtain rfl := Option.some.inj H
                        exact Exists.intro _ (And.intro (fun _ _ h => h.conv (inv := [(0, 0)]) (vk := []) (e0 := []) (t := ⟨[], [(0, some (.row 2 127 (t767.map eBucket)))], 1⟩) (by kernel_rfl)) (And.intro rfl rfl))
                      · replace H := (ifF c764).symm.trans H
                        refine AWp.skip ?_
                        obtain rfl := Option.some.inj H
                        exact Exists.intro _ (And.intro (fun _ _ h => h.conv (inv := [(0, 0)]) (vk := []) (e0 := []) (t := ⟨[], [(0, some (.row 2 127 (x760.map eBucket)))], 1⟩) (by kernel_rfl)) (And.intro rfl rfl))
                    · obtain ⟨x769, rfl⟩ : ∃ z, z = o798 := ⟨_, rfl⟩
                      rintro e s ⟨rfl, rfl⟩
                      obtain rfl := Option.some.inj H
                      exact Exists.intro ⟨[], [(0, some (.row 2 127 (x769.map eBucket)))], 1⟩ (And.intro (fun _ _ h => h.conv (inv := [(0, 0)]) (vk := []) (e0 := []) (t := ⟨[], [(0, some (.row 2 127 (x769.map eBucket)))], 1⟩) (by kernel_rfl)) (And.intro (.inr rfl) (And.intro rfl (And.intro (by kernel_rfl) (by kernel_rfl)))))
def f_slices_stableCmpFunc_api_Bucket_hist_tidy_1.l0 (a1 : Int) (x429 : List TBucket) (x430 : Int) (x431 : Int) : Option ((List TBucket) × Int) := if (decide (x431 ≤ a1)) = true then ((f_slices_insertionSortCmpFunc_api_Bucket_hist_tidy_1.f x429 x430 x431) >>= fun t435 => f_slices_stableCmpFunc_api_Bucket_hist_tidy_1.l0 a1 t435 x431 (IntKind.i64.wrap (x431 + (20 : Int)))) else (some (x429, x430))
partial_fixpoint
def f_slices_stableCmpFunc_api_Bucket_hist_tidy_1.l2 (a1 : Int) (x821 : Int) (x828 : List TBucket) (x829 : Int) (x830 : Int) : Option ((List TBucket) × Int) := if (decide (x830 ≤ a1)) = true then ((f_slices_symMergeCmpFunc_api_Bucket_hist_tidy_1.f x828 x829 (IntKind.i64.wrap (x829 + x821)) x830) >>= fun t834 => f_slices_stableCmpFunc_api_Bucket_hist_tidy_1.l2 a1 x821 t834 x830 (IntKind.i64.wrap (x830 + (IntKind.i64.wrap ((2 : Int) * x821))))) else (some (x828, x829))
partial_fixpoint
def f_slices_stableCmpFunc_api_Bucket_hist_tidy_1.l1 (a1 : Int) (x820 : List TBucket) (x821 : Int) : Option (List TBucket) := if (decide (x821 < a1)) = true then ((f_slices_stableCmpFunc_api_Bucket_hist_tidy_1.l2 a1 x821 x820 0 (IntKind.i64.wrap ((2 : Int) * x821))) >>= fun oo => match oo with | (x836, x837) => (((if (decide ((IntKind.i64.wrap (x837 + x821)) < a1)) = true then ((f_slices_symMergeCmpFunc_api_Bucket_hist_tidy_1.f x836 x837 (IntKind.i64.wrap (x837 + x821)) a1) >>= fun t841 => some t841) else (some x836)) : Option (List TBucket)) >>= fun x843 => f_slices_stableCmpFunc_api_Bucket_hist_tidy_1.l1 a1 x843 (IntKind.i64.wrap (x821 * (2 : Int))))) else (some x820)
partial_fixpoint
def f_slices_stableCmpFunc_api_Bucket_hist_tidy_1.f (a0 : List TBucket) (a1 : Int) : Option (List TBucket) := (f_slices_stableCmpFunc_api_Bucket_hist_tidy_1.l0 a1 a0 0 20) >>= fun oo => match oo with | (x437, x438) => ((f_slices_insertionSortCmpFunc_api_Bucket_hist_tidy_1.f x437 x438 a1) >>= fun t441 => (f_slices_stableCmpFunc_api_Bucket_hist_tidy_1.l1 a1 t441 20) >>= fun x844 => some x844)
theorem f_slices_stableCmpFunc_api_Bucket_hist_tidy_1.ok (a0 : List TBucket) (a1 : Int) (r : List TBucket) (H : f_slices_stableCmpFunc_api_Bucket_hist_tidy_1.f a0 a1 = some r) : Pv.Fn Try.prog 147 [.own 0, iV .i64 a1, .im (.sc (.func (.func 133) #[] #[]))] [(0, some (.row 2 127 (a0.map eBucket)))] 1 (fun x o => x = .tup [] ∧ o = [(0, some (.row 2 127 (r.map eBucket)))]) := by
  unfold f_slices_stableCmpFunc_api_Bucket_hist_tidy_1.f at H
  refine Fn.bodyK [0] Try.func147 rfl rfl (fun Γ hP hn => ?_)
  have hm : Try.prog.follows .mixedOrders = true := by kernel_rfl
  replace hn : Γ.n = 63 := hn
  refine AWp.seq ?_
  refine reg hP hn hm [] [0, 1, 2, 6] [0] ⟨[(0, .own 0), (1, iV .i64 a1), (2, .im (.sc (.func (.func 133) #[] #[]))), (6, iV .i64 20)], [(0, some (.row 2 127 (a0.map eBucket)))], 1⟩ [] (by kernel_rfl) trivial ?_
  refine AWp.seq ?_
  refine reg hP hn hm [] [0, 1, 2, 6, 7, 8] [0] ⟨[(0, .own 0), (1, iV .i64 a1), (2, .im (.sc (.func (.func 133) #[] #[]))), (6, iV .i64 20), (7, iV .i64 0), (8, iV .i64 20)], [(0, some (.row 2 127 (a0.map eBucket)))], 1⟩ [] (by kernel_rfl) trivial ?_
  refine AWp.seq ?_
  refine AWp.block ?_
  obtain ⟨o845, e846, H⟩ := bind_of H
  refine AWp.loop (LWp.conv (inv := [(0, 0)]) (vk := []) (e0 := []) (t := ⟨[(0, .own 0), (1, iV .i64 a1), (2, .im (.sc (.func (.func 133) #[] #[]))), (6, iV .i64 20), (7, iV .i64 0), (8, iV .i64 20)], [(0, some (.row 2 127 (a0.map eBucket)))], 1⟩) (by kernel_rfl) ?_)
  refine LWp.mono (Q := fun e s => (match (generalizing := false) o845 with | (x437, x438) => e = .exit 0 ∧ s = ⟨[(0, .own 0), (1, iV .i64 a1), (2, .im (.sc (.func (.func 133) #[] #[]))), (6, iV .i64 20), (7, iV .i64 x438)], [(0, some (.row 2 127 (x437.map eBucket)))], 1⟩)) (LWp.cv (withBody (fun body hbody => ?_))) ?_
  · refine f_slices_stableCmpFunc_api_Bucket_hist_tidy_1.l0.partial_correctness a1 (motive := fun x429 x430 x431 o845 => LWp Γ body (fun e s => ∃ t, Cv Γ s t ∧ (match (generalizing := false) o845 with | (x437, x438) => e = .exit 0 ∧ t = ⟨[(0, .own 0), (1, iV .i64 a1), (2, .im (.sc (.func (.func 133) #[] #[]))), (6, iV .i64 20), (7, iV .i64 x438)], [(0, some (.row 2 127 (x437.map eBucket)))], 1⟩)) ⟨[(0, .own 0), (1, iV .i64 a1), (2, .im (.sc (.func (.func 133) #[] #[]))), (6, iV .i64 20), (7, iV .i64 x430), (8, iV .i64 x431)], [(0, some (.row 2 127 (x429.map eBucket)))], 1⟩) ?_ _ _ _ _ e846
    clear H e846 o845; intro self ih x429 x430 x431 o845 H
    subst hbody
    refine LWp.round ?_
    refine AWp.seq ?_
    refine AWp.seq ?_
    refine reg hP hn hm [] [0, 1, 2, 6, 7, 8, 13] [0] ⟨[(0, .own 0), (1, iV .i64 a1), (2, .im (.sc (.func (.func 133) #[] #[]))), (6, iV .i64 20), (7, iV .i64 x430), (8, iV .i64 x431), (13, bV (decide (x431 ≤ a1)))], [(0, some (.row 2 127 (x429.map eBucket)))], 1⟩ [] (by kernel_rfl) trivial ?_
    refine AWp.cond (decide (x431 ≤ a1)) rfl (fun c432 => ?_) (fun c432 => ?_)
    · replace H := (ifT c432).symm.trans H
      refine AWp.skip ?_
      refine AWp.block ?_
      refine AWp.seq ?_
      obtain ⟨t435, e436, H⟩ := bind_of H
      refine reg hP hn hm [(4, .call [(0, 0)] [(0, 0)] [] [] 1 (.tup []) [(0, some (.row 2 127 (t435.map eBucket)))])] [0, 1, 2, 6, 8] [0] ⟨[(0, .own 0), (1, iV .i64 a1), (2, .im (.sc (.func (.func 133) #[] #[]))), (6, iV .i64 20), (8, iV .i64 x431)], [(0, some (.row 2 127 (t435.map eBucket)))], 1⟩ [Enters Try.prog 150, Pv.Fn Try.prog 150 [.own 0, iV .i64 x430, iV .i64 x431, .im (.sc (.func (.func 133) #[] #[]))] [(0, some (.row 2 127 (x429.map eBucket)))] 1 (fun r o => r = .tup [] ∧ o = [(0, some (.row 2 127 (t435.map eBucket)))])] (by kernel_rfl) ⟨by exact Try.call150, by exact f_slices_insertionSortCmpFunc_api_Bucket_hist_tidy_1.ok x429 x430 x431 t435 e436, trivial⟩ ?_
      refine AWp.seq ?_
      refine reg hP hn hm [] [0, 1, 2, 6, 7, 8] [0] ⟨[(0, .own 0), (1, iV .i64 a1), (2, .im (.sc (.func (.func 133) #[] #[]))), (6, iV .i64 20), (7, iV .i64 x431), (8, iV .i64 x431)], [(0, some (.row 2 127 (t435.map eBucket)))], 1⟩ [] (by kernel_rfl) trivial ?_
      refine reg hP hn hm [] [0, 1, 2, 6, 7, 8] [0] ⟨[(0, .own 0), (1, iV .i64 a1), (2, .im (.sc (.func (.func 133) #[] #[]))), (6, iV .i64 20), (7, iV .i64 x431), (8, iV .i64 (IntKind.i64.wrap (x431 + (20 : Int))))], [(0, some (.row 2 127 (t435.map eBucket)))], 1⟩ [] (by kernel_rfl) trivial ?_
      exact LWp.conv (inv := [(0, 0)]) (vk := []) (e0 := []) (t := ⟨[(0, .own 0), (1, iV .i64 a1), (2, .im (.sc (.func (.func 133) #[] #[]))), (6, iV .i64 20), (7, iV .i64 x431), (8, iV .i64 (IntKind.i64.wrap (x431 + (20 : Int))))], [(0, some (.row 2 127 (t435.map eBucket)))], 1⟩) (by kernel_rfl) (ih _ _ _ _ H)
    · replace H := (ifF c432).symm.trans H
      refine AWp.exit ?_
      obtain rfl := Option.some.inj H
      exact Exists.intro _ (And.intro (fun _ _ h => h.conv (inv := [(0, 0)]) (vk := []) (e0 := []) (t := ⟨[(0, .own 0), (1, iV .i64 a1), (2, .im (.sc (.func (.func 133) #[] #[]))), (6, iV .i64 20), (7, iV .i64 x430)], [(0, some (.row 2 127 (x429.map eBucket)))], 1⟩) (by kernel_rfl)) (And.intro rfl rfl))
  · obtain ⟨x437, x438⟩ := o845
    rintro e s ⟨rfl, rfl⟩
    refine AWp.seq ?_
    obtain ⟨t441, e442, H⟩ := bind_of H
    refine reg hP hn hm [(4, .call [(0, 0)] [(0, 0)] [] [] 1 (.tup []) [(0, some (.row 2 127 (t441.map eBucket)))])] [0, 1, 2, 6] [0] ⟨[(0, .own 0), (1, iV .i64 a1), (2, .im (.sc (.func (.func 133) #[] #[]))), (6, iV .i64 20)], [(0, some (.row 2 127 (t441.map eBucket)))], 1⟩ [Enters Try.prog 150, Pv.Fn Try.prog 150 [.own 0, iV .i64 x438, iV .i64 a1, .im (.sc (.func (.func 133) #[] #[]))] [(0, some (.row 2 127 (x437.map eBucket)))] 1 (fun r o => r = .tup [] ∧ o = [(0, some (.row 2 127 (t441.map eBucket)))])] (by kernel_rfl) ⟨by exact Try.call150, by exact f_slices_insertionSortCmpFunc_api_Bucket_hist_tidy_1.ok x437 x438 a1 t441 e442, trivial⟩ ?_
    refine AWp.block ?_
    obtain ⟨o847, e848, H⟩ := bind_of H
    refine AWp.loop (LWp.conv (inv := [(0, 0)]) (vk := []) (e0 := []) (t := ⟨[(0, .own 0), (1, iV .i64 a1), (2, .im (.sc (.func (.func 133) #[] #[]))), (6, iV .i64 20)], [(0, some (.row 2 127 (t441.map eBucket)))], 1⟩) (by kernel_rfl) ?_)
    refine LWp.mono (Q := fun e s => (match (generalizing := false) o847 with | x844 => e = .exit 2 ∧ s = ⟨[], [(0, some (.row 2 127 (x844.map eBucket)))], 1⟩)) (LWp.cv (withBody (fun body hbody => ?_))) ?_
    · refine f_slices_stableCmpFunc_api_Bucket_hist_tidy_1.l1.partial_correctness a1 (motive := fun x820 x821 o847 => LWp Γ body (fun e s => ∃ t, Cv Γ s t ∧ (match (generalizing := false) o847 with | x844 => e = .exit 2 ∧ t = ⟨[], [(0, some (.row 2 127 (x844.map eBucket)))], 1⟩)) ⟨[(0, .own 0), (1, iV .i64 a1), (2, .im (.sc (.func (.func 133) #[] #[]))), (6, iV .i64 x821)], [(0, some (.row 2 127 (x820.map eBucket)))], 1⟩) ?_ _ _ _ e848
      clear H e848 o847; intro self ih x820 x821 o847 H
      subst hbody
      refine LWp.round ?_
      refine AWp.seq ?_
      refine AWp.seq ?_
      refine reg hP hn hm [] [0, 1, 2, 6, 30] [0] ⟨[(0, .own 0), (1, iV .i64 a1), (2, .im (.sc (.func (.func 133) #[] #[]))), (6, iV .i64 x821), (30, bV (decide (x821 < a1)))], [(0, some (.row 2 127 (x820.map eBucket)))], 1⟩ [] (by kernel_rfl) trivial ?_
      refine AWp.cond (decide (x821 < a1)) rfl (fun c822 => ?_) (fun c822 => ?_)
      · replace H := (ifT c822).symm.trans H
        refine AWp.skip ?_
        refine AWp.block ?_
        refine AWp.seq ?_
        refine reg hP hn hm [] [0, 1, 2, 6, 7, 8] [0] ⟨[(0, .own 0), (1, iV .i64 a1), (2, .im (.sc (.func (.func 133) #[] #[]))), (6, iV .i64 x821), (7, iV .i64 0), (8, iV .i64 (IntKind.i64.wrap ((2 : Int) * x821)))], [(0, some (.row 2 127 (x820.map eBucket)))], 1⟩ [] (by kernel_rfl) trivial ?_
        refine AWp.seq ?_
        refine AWp.block ?_
        obtain ⟨o849, e850, H⟩ := bind_of H
        refine AWp.loop (LWp.conv (inv := [(0, 0)]) (vk := []) (e0 := []) (t := ⟨[(0, .own 0), (1, iV .i64 a1), (2, .im (.sc (.func (.func 133) #[] #[]))), (6, iV .i64 x821), (7, iV .i64 0), (8, iV .i64 (IntKind.i64.wrap ((2 : Int) * x821)))], [(0, some (.row 2 127 (x820.map eBucket)))], 1⟩) (by kernel_rfl) ?_)
        refine LWp.mono (Q := fun e s => (match (generalizing := false) o849 with | (x836, x837) => e = .exit 4 ∧ s = ⟨[(0, .own 0), (1, iV .i64 a1), (2, .im (.sc (.func (.func 133) #[] #[]))), (6, iV .i64 x821), (7, iV .i64 x837)], [(0, some (.row 2 127 (x836.map eBucket)))], 1⟩)) (LWp.cv (withBody (fun body hbody => ?_))) ?_
        · refine f_slices_stableCmpFunc_api_Bucket_hist_tidy_1.l2.partial_correctness a1 x821 (motive := fun x828 x829 x830 o849 => LWp Γ body (fun e s => ∃ t, Cv Γ s t ∧ (match (generalizing := false) o849 with | (x836, x837) => e = .exit 4 ∧ t = ⟨[(0, .own 0), (1, iV .i64 a1), (2, .im (.sc (.func (.func 133) #[] #[]))), (6, iV .i64 x821), (7, iV .i64 x837)], [(0, some (.row 2 127 (x836.map eBucket)))], 1⟩)) ⟨[(0, .own 0), (1, iV .i64 a1), (2, .im (.sc (.func (.func 133) #[] #[]))), (6, iV .i64 x821), (7, iV .i64 x829), (8, iV .i64 x830)], [(0, some (.row 2 127 (x828.map eBucket)))], 1⟩) ?_ _ _ _ _ e850
          clear H e850 o849; intro self ih x828 x829 x830 o849 H
          subst hbody
          refine LWp.round ?_
          refine AWp.seq ?_
          refine AWp.seq ?_
          refine reg hP hn hm [] [0, 1, 2, 6, 7, 8, 35] [0] ⟨[(0, .own 0), (1, iV .i64 a1), (2, .im (.sc (.func (.func 133) #[] #[]))), (6, iV .i64 x821), (7, iV .i64 x829), (8, iV .i64 x830), (35, bV (decide (x830 ≤ a1)))], [(0, some (.row 2 127 (x828.map eBucket)))], 1⟩ [] (by kernel_rfl) trivial ?_
          refine AWp.cond (decide (x830 ≤ a1)) rfl (fun c831 => ?_) (fun c831 => ?_)
          · replace H := (ifT c831).symm.trans H
            refine AWp.skip ?_
            refine AWp.block ?_
            refine AWp.seq ?_
            obtain ⟨t834, e835, H⟩ := bind_of H
            refine reg hP hn hm [(7, .call [(0, 0)] [(0, 0)] [] [] 1 (.tup []) [(0, some (.row 2 127 (t834.map eBucket)))])] [0, 1, 2, 6, 8] [0] ⟨[(0, .own 0), (1, iV .i64 a1), (2, .im (.sc (.func (.func 133) #[] #[]))), (6, iV .i64 x821), (8, iV .i64 x830)], [(0, some (.row 2 127 (t834.map eBucket)))], 1⟩ [Enters Try.prog 151, Pv.Fn Try.prog 151 [.own 0, iV .i64 x829, iV .i64 (IntKind.i64.wrap (x829 + x821)), iV .i64 x830, .im (.sc (.func (.func 133) #[] #[]))] [(0, some (.row 2 127 (x828.map eBucket)))] 1 (fun r o => r = .tup [] ∧ o = [(0, some (.row 2 127 (t834.map eBucket)))])] (by kernel_rfl) ⟨by exact Try.call151, by exact f_slices_symMergeCmpFunc_api_Bucket_hist_tidy_1.ok x828 x829 (IntKind.i64.wrap (x829 + x821)) x830 t834 e835, trivial⟩ ?_
            refine AWp.seq ?_
            refine reg hP hn hm [] [0, 1, 2, 6, 7, 8] [0] ⟨[(0, .own 0), (1, iV .i64 a1), (2, .im (.sc (.func (.func 133) #[] #[]))), (6, iV .i64 x821), (7, iV .i64 x830), (8, iV .i64 x830)], [(0, some (.row 2 127 (t834.map eBucket)))], 1⟩ [] (by kernel_rfl) trivial ?_
            refine reg hP hn hm [] [0, 1, 2, 6, 7, 8] [0] ⟨[(0, .own 0), (1, iV .i64 a1), (2, .im (.sc (.func (.func 133) #[] #[]))), (6, iV .i64 x821), (7, iV .i64 x830), (8, iV .i64 (IntKind.i64.wrap (x830 + (IntKind.i64.wrap ((2 : Int) * x821)))))], [(0, some (.row 2 127 (t834.map eBucket)))], 1⟩ [] (by kernel_rfl) trivial ?_
            exact LWp.conv (inv := [(0, 0)]) (vk := []) (e0 := []) (t := ⟨[(0, .own 0), (1, iV .i64 a1), (2, .im (.sc (.func (.func 133) #[] #[]))), (6, iV .i64 x821), (7, iV .i64 x830), (8, iV .i64 (IntKind.i64.wrap (x830 + (IntKind.i64.wrap ((2 : Int) * x821)))))], [(0, some (.row 2 127 (t834.map eBucket)))], 1⟩) (by kernel_rfl) (ih _ _ _ _ H)
          · replace H := (ifF c831).symm.trans H
            refine AWp.exit ?_
            obtain rfl := Option.some.inj H
            exact Exists.intro _ (And.intro (fun _ _ h => h.conv (inv := [(0, 0)]) (vk := []) (e0 := []) (t := ⟨[(0, .own 0), (1, iV .i64 a1), (2, .im (.sc (.func (.func 133) #[] #[]))), (6, iV .i64 x821), (7, iV .i64 x829)], [(0, some (.row 2 127 (x828.map eBucket)))], 1⟩) (by kernel_rfl)) (And.intro rfl rfl))
        · obtain ⟨x836, x837⟩ := o849
          rintro e s ⟨rfl, rfl⟩
          refine AWp.seq ?_
          refine AWp.seq ?_
          refine reg hP hn hm [] [0, 1, 2, 6, 7, 9] [0] ⟨[(0, .own 0), (1, iV .i64 a1), (2, .im (.sc (.func (.func 133) #[] #[]))), (6, iV .i64 x821), (7, iV .i64 x837), (9, iV .i64 (IntKind.i64.wrap (x837 + x821)))], [(0, some (.row 2 127 (x836.map eBucket)))], 1⟩ [] (by kernel_rfl) trivial ?_
          refine AWp.seq ?_
          refine reg hP hn hm [] [0, 1, 2, 6, 7, 9, 54] [0] ⟨[(0, .own 0), (1, iV .i64 a1), (2, .im (.sc (.func (.func 133) #[] #[]))), (6, iV .i64 x821), (7, iV .i64 x837), (9, iV .i64 (IntKind.i64.wrap (x837 + x821))), (54, bV (decide ((IntKind.i64.wrap (x837 + x821)) < a1)))], [(0, some (.row 2 127 (x836.map eBucket)))], 1⟩ [] (by kernel_rfl) trivial ?_
          obtain ⟨o851, e852, H⟩ := bind_of H
          refine AWp.mono (Q := fun e s => (match (generalizing := false) o851 with | x843 => e = .normal ∧ s = ⟨[(0, .own 0), (1, iV .i64 a1), (2, .im (.sc (.func (.func 133) #[] #[]))), (6, iV .i64 x821)], [(0, some (.row 2 127 (x843.map eBucket)))], 1⟩)) (AWp.cv ?_) ?_
          · replace H := e852; clear e852
            refine AWp.cond (decide ((IntKind.i64.wrap (x837 + x821)) < a1)) rfl (fun c838 => ?_) (fun c838 => ?_)
            · replace H := (ifT c838).symm.trans H
              obtain ⟨t841, e842, H⟩ := bind_of H
              refine reg hP hn hm [(5, .call [(0, 0)] [(0, 0)] [] [] 1 (.tup []) [(0, some (.row 2 127 (t841.map eBucket)))])] [0, 1, 2, 6] [0] ⟨[(0, .own 0), (1, iV .i64 a1), (2, .im (.sc (.func (.func 133) #[] #[]))), (6, iV .i64 x821)], [(0, some (.row 2 127 (t841.map eBucket)))], 1⟩ [Enters Try.prog 151, Pv.Fn Try.prog 151 [.own 0, iV .i64 x837, iV .i64 (IntKind.i64.wrap (x837 + x821)), iV .i64 a1, .im (.sc (.func (.func 133) #[] #[]))] [(0, some (.row 2 127 (x836.map eBucket)))] 1 (fun r o => r = .tup [] ∧ o = [(0, some (.row 2 127 (t841.map eBucket)))])] (by kernel_rfl) ⟨by exact Try.call151, by exact f_slices_symMergeCmpFunc_api_Bucket_hist_tidy_1.ok x836 x837 (IntKind.i64.wrap (x837 + x821)) a1 t841 e842, trivial⟩ ?_
              obtain rfl := Option.some.inj H
              exact Exists.intro _ (And.intro (fun _ _ h => h.conv (inv := [(0, 0)]) (vk := []) (e0 := []) (t := ⟨[(0, .own 0), (1, iV .i64 a1), (2, .im (.sc (.func (.func 133) #[] #[]))), (6, iV .i64 x821)], [(0, some (.row 2 127 (t841.map eBucket)))], 1⟩) (by kernel_rfl)) (And.intro rfl rfl))
            · replace H := (ifF c838).symm.trans H
              refine AWp.skip ?_
              obtain rfl := Option.some.inj H
              exact Exists.intro _ (And.intro (fun _ _ h => h.conv (inv := [(0, 0)]) (vk := []) (e0 := []) (t := ⟨[(0, .own 0), (1, iV .i64 a1), (2, .im (.sc (.func (.func 133) #[] #[]))), (6, iV .i64 x821)], [(0, some (.row 2 127 (x836.map eBucket)))], 1⟩) (by kernel_rfl)) (And.intro rfl rfl))
          · obtain ⟨x843, rfl⟩ : ∃ z, z = o851 := ⟨_, rfl⟩
            rintro e s ⟨rfl, rfl⟩
            refine reg hP hn hm [] [0, 1, 2, 6] [0] ⟨[(0, .own 0), (1, iV .i64 a1), (2, .im (.sc (.func (.func 133) #[] #[]))), (6, iV .i64 (IntKind.i64.wrap (x821 * (2 : Int))))], [(0, some (.row 2 127 (x843.map eBucket)))], 1⟩ [] (by kernel_rfl) trivial ?_
            exact LWp.conv (inv := [(0, 0)]) (vk := []) (e0 := []) (t := ⟨[(0, .own 0), (1, iV .i64 a1), (2, .im (.sc (.func (.func 133) #[] #[]))), (6, iV .i64 (IntKind.i64.wrap (x821 * (2 : Int))))], [(0, some (.row 2 127 (x843.map eBucket)))], 1⟩) (by kernel_rfl) (ih _ _ _ H)
      · replace H := (ifF c822).symm.trans H
        refine AWp.exit ?_
        obtain rfl := Option.some.inj H
        exact Exists.intro _ (And.intro (fun _ _ h => h.conv (inv := [(0, 0)]) (vk := []) (e0 := []) (t := ⟨[], [(0, some (.row 2 127 (x820.map eBucket)))], 1⟩) (by kernel_rfl)) (And.intro rfl rfl))
    · obtain ⟨x844, rfl⟩ : ∃ z, z = o847 := ⟨_, rfl⟩
      rintro e s ⟨rfl, rfl⟩
      obtain rfl := Option.some.inj H
      exact Exists.intro ⟨[], [(0, some (.row 2 127 (x844.map eBucket)))], 1⟩ (And.intro (fun _ _ h => h.conv (inv := [(0, 0)]) (vk := []) (e0 := []) (t := ⟨[], [(0, some (.row 2 127 (x844.map eBucket)))], 1⟩) (by kernel_rfl)) (And.intro (.inr rfl) (And.intro rfl (And.intro (by kernel_rfl) (by kernel_rfl)))))
def f_slices_SortStableFunc_api_Bucket_hist_tidy_1.f (a0 : List TBucket) : Option (List TBucket) := (f_slices_stableCmpFunc_api_Bucket_hist_tidy_1.f a0 (a0.length : Int)) >>= fun t855 => some t855
theorem f_slices_SortStableFunc_api_Bucket_hist_tidy_1.ok (a0 : List TBucket) (r : List TBucket) (H : f_slices_SortStableFunc_api_Bucket_hist_tidy_1.f a0 = some r) : Pv.Fn Try.prog 132 [.own 0, .im (.sc (.func (.func 133) #[] #[]))] [(0, some (.row 2 127 (a0.map eBucket)))] 1 (fun x o => x = .tup [] ∧ o = [(0, some (.row 2 127 (r.map eBucket)))]) := by
  unfold f_slices_SortStableFunc_api_Bucket_hist_tidy_1.f at H
  refine Fn.bodyK [0] Try.func132 rfl rfl (fun Γ hP hn => ?_)
  have hm : Try.prog.follows .mixedOrders = true := by kernel_rfl
  replace hn : Γ.n = 9 := hn
  obtain ⟨t855, e856, H⟩ := bind_of H
  refine reg hP hn hm [(2, .any (iV .i64 (a0.length : Int))), (4, .call [(0, 0)] [(0, 0)] [] [] 1 (.tup []) [(0, some (.row 2 127 (t855.map eBucket)))])] [] [0] ⟨[], [(0, some (.row 2 127 (t855.map eBucket)))], 1⟩ [((a0.map eBucket).length : Int) = (a0.length : Int), Enters Try.prog 147, Pv.Fn Try.prog 147 [.own 0, iV .i64 (a0.length : Int), .im (.sc (.func (.func 133) #[] #[]))] [(0, some (.row 2 127 (a0.map eBucket)))] 1 (fun r o => r = .tup [] ∧ o = [(0, some (.row 2 127 (t855.map eBucket)))])] (by kernel_rfl) ⟨by rw [len_map], by exact Try.call147, by exact f_slices_stableCmpFunc_api_Bucket_hist_tidy_1.ok a0 (a0.length : Int) t855 e856, trivial⟩ ?_
  obtain rfl := Option.some.inj H
  exact Exists.intro ⟨[], [(0, some (.row 2 127 (t855.map eBucket)))], 1⟩ (And.intro (fun _ _ h => h.conv (inv := [(0, 0)]) (vk := []) (e0 := []) (t := ⟨[], [(0, some (.row 2 127 (t855.map eBucket)))], 1⟩) (by kernel_rfl)) (And.intro (.inr rfl) (And.intro rfl (And.intro (by kernel_rfl) (by kernel_rfl)))))
def f_num_Add.l0 (a0 : List Int) (x905 : Int) (x906 : Int) : Option ((Int × Int) ⊕ Int) := if (decide (x906 < (a0.length : Int))) = true then ((at? a0 x906) >>= fun b911 => (chk (0 ≤ x905 ∧ 0 ≤ b911 ∧ 0 ≤ (0 : Int) ∧ (0 : Int) ≤ (1 : Int))) >>= fun _ => if (((x905 + b911 + (0 : Int)) / 18446744073709551616) != (0 : Int)) = true then (some (.inl (0, 5))) else (f_num_Add.l0 a0 ((x905 + b911 + (0 : Int)) % 18446744073709551616) (IntKind.i64.wrap (x906 + (1 : Int))))) else (some (.inr x905))
partial_fixpoint
def f_num_Add.f (a0 : List Int) : Option (Int × Int) := (f_num_Add.l0 a0 0 0) >>= fun oo => match oo with | .inl rr => (some rr) | .inr x917 => (some (x917, 0))
theorem f_num_Add.ok (a0 : List Int) (r : Int × Int) (H : f_num_Add.f a0 = some r) : Pv.Fn Try.prog 107 [.im (.row (a0.map (encInt .u64)))] [] 0 (fun x o => x = .tup [iV .u64 r.1, iV .i64 r.2] ∧ o = []) := by
  unfold f_num_Add.f at H
  refine Fn.bodyK [] Try.func107 rfl rfl (fun Γ hP hn => ?_)
  have hm : Try.prog.follows .mixedOrders = true := by kernel_rfl
  replace hn : Γ.n = 26 := hn
  refine AWp.seq ?_
  refine reg hP hn hm [] [0] [] ⟨[(0, .im (.row (a0.map (encInt .u64))))], [], 0⟩ [] (by kernel_rfl) trivial ?_
  refine AWp.seq ?_
  refine reg hP hn hm [] [0, 4] [] ⟨[(0, .im (.row (a0.map (encInt .u64)))), (4, iV .u64 0)], [], 0⟩ [] (by kernel_rfl) trivial ?_
  refine AWp.seq ?_
  refine AWp.seq ?_
  refine reg hP hn hm [(1, .any (iV .i64 (a0.length : Int)))] [4, 9, 10, 11] [] ⟨[(4, iV .u64 0), (9, .im (.row (a0.map (encInt .u64)))), (10, iV .i64 (a0.length : Int)), (11, iV .i64 0)], [], 0⟩ [((a0.map (encInt .u64)).length : Int) = (a0.length : Int)] (by kernel_rfl) ⟨by rw [len_map], trivial⟩ ?_
  refine AWp.block ?_
  obtain ⟨o918, e919, H⟩ := bind_of H
  refine AWp.loop (LWp.conv (inv := []) (vk := []) (e0 := []) (t := ⟨[(4, iV .u64 0), (9, .im (.row (a0.map (encInt .u64)))), (10, iV .i64 (a0.length : Int)), (11, iV .i64 0)], [], 0⟩) (by kernel_rfl) ?_)
  refine LWp.mono (Q := fun e s => (match (generalizing := false) o918 with | .inl rr => e = .ret ∧ s.floor = 0 ∧ resOf Try.prog Try.f107 s = some (.tup [iV .u64 rr.1, iV .i64 rr.2]) ∧ ([] : List (Nat × Option MObj)) = [] | .inr x917 => e = .exit 0 ∧ s = ⟨[(4, iV .u64 x917)], [], 0⟩)) (LWp.cv (withBody (fun body hbody => ?_))) ?_
  · refine f_num_Add.l0.partial_correctness a0 (motive := fun x905 x906 o918 => LWp Γ body (fun e s => ∃ t, Cv Γ s t ∧ (match (generalizing := false) o918 with | .inl rr => e = .ret ∧ t.floor = 0 ∧ resOf Try.prog Try.f107 t = some (.tup [iV .u64 rr.1, iV .i64 rr.2]) ∧ ([] : List (Nat × Option MObj)) = [] | .inr x917 => e = .exit 0 ∧ t = ⟨[(4, iV .u64 x917)], [], 0⟩)) ⟨[(4, iV .u64 x905), (9, .im (.row (a0.map (encInt .u64)))), (10, iV .i64 (a0.length : Int)), (11, iV .i64 x906)], [], 0⟩) ?_ _ _ _ e919
    clear H e919 o918; intro self ih x905 x906 o918 H
    subst hbody
    refine LWp.round ?_
    refine AWp.seq ?_
    refine reg hP hn hm [] [4, 9, 10, 11, 12] [] ⟨[(4, iV .u64 x905), (9, .im (.row (a0.map (encInt .u64)))), (10, iV .i64 (a0.length : Int)), (11, iV .i64 x906), (12, bV (decide (x906 < (a0.length : Int))))], [], 0⟩ [] (by kernel_rfl) trivial ?_
    refine AWp.seq ?_
    refine AWp.cond (decide (x906 < (a0.length : Int))) rfl (fun c907 => ?_) (fun c907 => ?_)
    · replace H := (ifT c907).symm.trans H
      refine AWp.skip ?_
      refine AWp.seq ?_
      refine AWp.block ?_
      refine AWp.seq ?_
      obtain ⟨b911, p912, q913, H⟩ := at_of H
      refine reg hP hn hm [(0, .c ((encInt .u64) b911))] [4, 6, 9, 10, 11] [] ⟨[(4, iV .u64 x905), (6, iV .u64 b911), (9, .im (.row (a0.map (encInt .u64)))), (10, iV .i64 (a0.length : Int)), (11, iV .i64 x906)], [], 0⟩ [0 ≤ x906, (a0.map (encInt .u64))[(Int.toNat (x906))]? = some ((encInt .u64) b911)] (by kernel_rfl) ⟨by exact p912, by exact el_map (encInt .u64) q913, trivial⟩ ?_
      refine AWp.seq ?_
      obtain ⟨c915, H⟩ := chk_of H
      refine reg hP hn hm [(2, .ext (.tup [iV .u64 ((x905 + b911 + (0 : Int)) % 18446744073709551616), iV .u64 ((x905 + b911 + (0 : Int)) / 18446744073709551616)]))] [7, 8, 9, 10, 11] [] ⟨[(7, iV .u64 ((x905 + b911 + (0 : Int)) % 18446744073709551616)), (8, iV .u64 ((x905 + b911 + (0 : Int)) / 18446744073709551616)), (9, .im (.row (a0.map (encInt .u64)))), (10, iV .i64 (a0.length : Int)), (11, iV .i64 x906)], [], 0⟩ [∀ w, (callFunc 137 ([.int .u64 x905, .int .u64 b911, .int .u64 (0 : Int)] : List Value).toArray).run Try.prog w = .ok (.value (.tuple #[.int .u64 ((x905 + b911 + (0 : Int)) % 18446744073709551616), .int .u64 ((x905 + b911 + (0 : Int)) / 18446744073709551616)])) w] (by kernel_rfl) ⟨by exact fun w => x_add64 (fn := Try.f137) Try.func137 (by kernel_rfl) rfl (by kernel_rfl) (by kernel_rfl) c915 w, trivial⟩ ?_
      refine AWp.seq ?_
      refine AWp.seq ?_
      refine reg hP hn hm [] [7, 9, 10, 11, 22] [] ⟨[(7, iV .u64 ((x905 + b911 + (0 : Int)) % 18446744073709551616)), (9, .im (.row (a0.map (encInt .u64)))), (10, iV .i64 (a0.length : Int)), (11, iV .i64 x906), (22, bV (((x905 + b911 + (0 : Int)) / 18446744073709551616) != (0 : Int)))], [], 0⟩ [] (by kernel_rfl) trivial ?_
      refine AWp.cond (((x905 + b911 + (0 : Int)) / 18446744073709551616) != (0 : Int)) rfl (fun c916 => ?_) (fun c916 => ?_)
      · replace H := (ifT c916).symm.trans H
        refine AWp.seq ?_
        refine reg hP hn hm [] [2, 3] [] ⟨[(2, iV .u64 0), (3, iV .i64 5)], [], 0⟩ [] (by kernel_rfl) trivial ?_
        refine AWp.conv (inv := []) (vk := []) (e0 := []) (t := ⟨[(2, iV .u64 0), (3, iV .i64 5)], [], 0⟩) (by kernel_rfl) ?_
        refine AWp.ret ?_
        obtain rfl := Option.some.inj H
        exact Exists.intro _ (And.intro (fun _ _ h => h) (And.intro rfl (And.intro rfl (And.intro (by kernel_rfl) (by kernel_rfl)))))
      · replace H := (ifF c916).symm.trans H
        refine AWp.skip ?_
        refine reg hP hn hm [] [4, 9, 10, 11] [] ⟨[(4, iV .u64 ((x905 + b911 + (0 : Int)) % 18446744073709551616)), (9, .im (.row (a0.map (encInt .u64)))), (10, iV .i64 (a0.length : Int)), (11, iV .i64 x906)], [], 0⟩ [] (by kernel_rfl) trivial ?_
        refine reg hP hn hm [] [4, 9, 10, 11] [] ⟨[(4, iV .u64 ((x905 + b911 + (0 : Int)) % 18446744073709551616)), (9, .im (.row (a0.map (encInt .u64)))), (10, iV .i64 (a0.length : Int)), (11, iV .i64 (IntKind.i64.wrap (x906 + (1 : Int))))], [], 0⟩ [] (by kernel_rfl) trivial ?_
        exact LWp.conv (inv := []) (vk := []) (e0 := []) (t := ⟨[(4, iV .u64 ((x905 + b911 + (0 : Int)) % 18446744073709551616)), (9, .im (.row (a0.map (encInt .u64)))), (10, iV .i64 (a0.length : Int)), (11, iV .i64 (IntKind.i64.wrap (x906 + (1 : Int))))], [], 0⟩) (by kernel_rfl) (ih _ _ _ H)
    · replace H := (ifF c907).symm.trans H
      refine AWp.exit ?_
      obtain rfl := Option.some.inj H
      exact Exists.intro _ (And.intro (fun _ _ h => h.conv (inv := []) (vk := []) (e0 := []) (t := ⟨[(4, iV .u64 x905)], [], 0⟩) (by kernel_rfl)) (And.intro rfl rfl))
  · rcases o918 with rr | x917
    · skip
      rintro e s ⟨rfl, hfl, hres⟩
      obtain rfl := Option.some.inj H
      exact Exists.intro _ (And.intro (fun _ _ h => h) (And.intro (.inl rfl) (And.intro hfl hres)))
    · skip
      rintro e s ⟨rfl, rfl⟩
      refine AWp.seq ?_
      refine reg hP hn hm [] [2, 3] [] ⟨[(2, iV .u64 x917), (3, iV .i64 0)], [], 0⟩ [] (by kernel_rfl) trivial ?_
      refine AWp.conv (inv := []) (vk := []) (e0 := []) (t := ⟨[(2, iV .u64 x917), (3, iV .i64 0)], [], 0⟩) (by kernel_rfl) ?_
      refine AWp.ret ?_
      obtain rfl := Option.some.inj H
      exact Exists.intro _ (And.intro (fun _ _ h => h) (And.intro (.inl rfl) (And.intro rfl (And.intro (by kernel_rfl) (by kernel_rfl)))))
end Go.Proofs.Yteogljahemehkaa.PvGC
