import Derived.Test.YticdbkmekkbiiaaProg
import Derived.Test.YticdbkmekkbiiaaPxMeldRises04
set_option linter.unusedVariables false
set_option linter.unnecessarySimpa false
set_option linter.unusedSimpArgs false
set_option maxRecDepth 10000
namespace Go.Proofs.Yticdbkmekkbiiaa.PvGB
open Go Go.Pv
structure TBucket where
  f0 : Int
  f1 : Int
  deriving DecidableEq, Inhabited
abbrev eBucket (x : TBucket) : List Im := [iI .i64 x.f0, iI .u64 x.f1]
abbrev aBucket (x : TBucket) : List AVal := [iV .i64 x.f0, iV .u64 x.f1]
structure RBucket (x : TBucket) : Prop where
  r0 : I64 x.f0
  r1 : U64 x.f1
structure THist where
  f0 : Int
  f1 : Int
  f2 : Int
  f3 : Int
  f4 : Int
  f5 : Int
  f6 : List TBucket
  f7 : List TBucket
  deriving DecidableEq, Inhabited
abbrev eHist (x : THist) : List Im := [iI .i64 x.f0, iI .i64 x.f1, iI .i64 x.f2, iI .u64 x.f3, iI .u64 x.f4, iI .i64 x.f5, .row (x.f6.map eBucket), .row (x.f7.map eBucket)]
abbrev aHist (x : THist) : List AVal := [iV .i64 x.f0, iV .i64 x.f1, iV .i64 x.f2, iV .u64 x.f3, iV .u64 x.f4, iV .i64 x.f5, .im (.row (x.f6.map eBucket)), .im (.row (x.f7.map eBucket))]
structure RHist (x : THist) : Prop where
  r0 : I64 x.f0
  r1 : I64 x.f1
  r2 : I64 x.f2
  r3 : U64 x.f3
  r4 : U64 x.f4
  r5 : I64 x.f5
  r6 : x.f6.length ≤ maxLen ∧ ∀ y ∈ x.f6, RBucket y
  r7 : x.f7.length ≤ maxLen ∧ ∀ y ∈ x.f7, RBucket y
def f_pluvialref04_Right.f (a0 : Int) : Option (Bool) := ((if (decide (a0 ≥ (-4))) = true then (some (decide (a0 ≤ (8 : Int)))) else (some false)) : Option (Bool)) >>= fun x16 => some x16
theorem f_pluvialref04_Right.ok (a0 : Int) (r : Bool) (H : f_pluvialref04_Right.f a0 = some r) : Pv.Fn Try.prog 40 [iV .i64 a0] [] 0 (fun x o => x = bV r ∧ o = []) := by
  unfold f_pluvialref04_Right.f at H
  refine Fn.bodyK [] Try.func40 rfl rfl (fun Γ hP hn => ?_)
  have hm : Try.prog.follows .mixedOrders = true := by kernel_rfl
  replace hn : Γ.n = 9 := hn
  refine AWp.seq ?_
  refine reg hP hn hm [] [0] [] ⟨[(0, iV .i64 a0)], [], 0⟩ [] (by kernel_rfl) trivial ?_
  refine AWp.seq ?_
  obtain ⟨o17, e18, H⟩ := bind_of H
  refine AWp.mono (Q := fun e s => (match (generalizing := false) o17 with | x16 => e = .normal ∧ s = ⟨[(2, bV x16)], [], 0⟩)) (AWp.cv ?_) ?_
  · replace H := e18; clear e18
    rcases Bool.eq_false_or_eq_true (decide (a0 ≥ (-4))) with c15 | c15
    · replace H := (ifT c15).symm.trans H
      refine reg hP hn hm [(2, .b true)] [2] [] ⟨[(2, bV (decide (a0 ≤ (8 : Int))))], [], 0⟩ [(decide (a0 ≥ (-4))) = true] (by kernel_rfl) ⟨by exact c15, trivial⟩ ?_
      obtain rfl := Option.some.inj H
      exact Exists.intro _ (And.intro (fun _ _ h => h.conv (inv := []) (vk := []) (e0 := []) (t := ⟨[(2, bV (decide (a0 ≤ (8 : Int))))], [], 0⟩) (by kernel_rfl)) (And.intro rfl rfl))
    · replace H := (ifF c15).symm.trans H
      refine reg hP hn hm [(2, .b false)] [2] [] ⟨[(2, bV false)], [], 0⟩ [(decide (a0 ≥ (-4))) = false] (by kernel_rfl) ⟨by exact c15, trivial⟩ ?_
      obtain rfl := Option.some.inj H
      exact Exists.intro _ (And.intro (fun _ _ h => h.conv (inv := []) (vk := []) (e0 := []) (t := ⟨[(2, bV false)], [], 0⟩) (by kernel_rfl)) (And.intro rfl rfl))
  · obtain ⟨x16, rfl⟩ : ∃ z, z = o17 := ⟨_, rfl⟩
    rintro e s ⟨rfl, rfl⟩
    refine AWp.conv (inv := []) (vk := []) (e0 := []) (t := ⟨[(2, bV x16)], [], 0⟩) (by kernel_rfl) ?_
    refine AWp.ret ?_
    obtain rfl := Option.some.inj H
    exact Exists.intro _ (And.intro (fun _ _ h => h) (And.intro (.inl rfl) (And.intro rfl (And.intro (by kernel_rfl) (by kernel_rfl)))))
def f_pluvialref04_step.l0 (x46 : Int) (x47 : Int) : Option (Int) := if (decide (x47 < (8 : Int))) = true then (f_pluvialref04_step.l0  (IntKind.i64.wrap (x46 * (2 : Int))) (IntKind.i64.wrap (x47 + (1 : Int)))) else (some x46)
partial_fixpoint
def f_pluvialref04_step.f (a0 : Int) : Option (Int) := (f_pluvialref04_step.l0  1 a0) >>= fun x49 => some x49
theorem f_pluvialref04_step.ok (a0 : Int) (r : Int) (H : f_pluvialref04_step.f a0 = some r) : Pv.Fn Try.prog 68 [iV .i64 a0] [] 0 (fun x o => x = iV .i64 r ∧ o = []) := by
  unfold f_pluvialref04_step.f at H
  refine Fn.bodyK [] Try.func68 rfl rfl (fun Γ hP hn => ?_)
  have hm : Try.prog.follows .mixedOrders = true := by kernel_rfl
  replace hn : Γ.n = 13 := hn
  refine AWp.seq ?_
  refine reg hP hn hm [] [0] [] ⟨[(0, iV .i64 a0)], [], 0⟩ [] (by kernel_rfl) trivial ?_
  refine AWp.seq ?_
  refine reg hP hn hm [] [0, 3] [] ⟨[(0, iV .i64 a0), (3, iV .i64 1)], [], 0⟩ [] (by kernel_rfl) trivial ?_
  refine AWp.seq ?_
  refine AWp.seq ?_
  refine reg hP hn hm [] [3, 4] [] ⟨[(3, iV .i64 1), (4, iV .i64 a0)], [], 0⟩ [] (by kernel_rfl) trivial ?_
  refine AWp.block ?_
  obtain ⟨o50, e51, H⟩ := bind_of H
  refine AWp.loop (LWp.conv (inv := []) (vk := []) (e0 := []) (t := ⟨[(3, iV .i64 1), (4, iV .i64 a0)], [], 0⟩) (by kernel_rfl) ?_)
  refine LWp.mono (Q := fun e s => (match (generalizing := false) o50 with | x49 => e = .exit 0 ∧ s = ⟨[(3, iV .i64 x49)], [], 0⟩)) (LWp.cv (withBody (fun body hbody => ?_))) ?_
  · refine f_pluvialref04_step.l0.partial_correctness  (motive := fun x46 x47 o50 => LWp Γ body (fun e s => ∃ t, Cv Γ s t ∧ (match (generalizing := false) o50 with | x49 => e = .exit 0 ∧ t = ⟨[(3, iV .i64 x49)], [], 0⟩)) ⟨[(3, iV .i64 x46), (4, iV .i64 x47)], [], 0⟩) ?_ _ _ _ e51
    clear H e51 o50; intro self ih x46 x47 o50 H
    subst hbody
    refine LWp.round ?_
    refine AWp.seq ?_
    refine AWp.seq ?_
    refine reg hP hn hm [] [3, 4, 7] [] ⟨[(3, iV .i64 x46), (4, iV .i64 x47), (7, bV (decide (x47 < (8 : Int))))], [], 0⟩ [] (by kernel_rfl) trivial ?_
    refine AWp.cond (decide (x47 < (8 : Int))) rfl (fun c48 => ?_) (fun c48 => ?_)
    · replace H := (ifT c48).symm.trans H
      refine AWp.skip ?_
      refine AWp.seq ?_
      refine AWp.block ?_
      refine reg hP hn hm [] [3, 4] [] ⟨[(3, iV .i64 (IntKind.i64.wrap (x46 * (2 : Int)))), (4, iV .i64 x47)], [], 0⟩ [] (by kernel_rfl) trivial ?_
      refine reg hP hn hm [] [3, 4] [] ⟨[(3, iV .i64 (IntKind.i64.wrap (x46 * (2 : Int)))), (4, iV .i64 (IntKind.i64.wrap (x47 + (1 : Int))))], [], 0⟩ [] (by kernel_rfl) trivial ?_
      exact LWp.conv (inv := []) (vk := []) (e0 := []) (t := ⟨[(3, iV .i64 (IntKind.i64.wrap (x46 * (2 : Int)))), (4, iV .i64 (IntKind.i64.wrap (x47 + (1 : Int))))], [], 0⟩) (by kernel_rfl) (ih _ _ _ H)
    · replace H := (ifF c48).symm.trans H
      refine AWp.exit ?_
      obtain rfl := Option.some.inj H
      exact Exists.intro _ (And.intro (fun _ _ h => h.conv (inv := []) (vk := []) (e0 := []) (t := ⟨[(3, iV .i64 x46)], [], 0⟩) (by kernel_rfl)) (And.intro rfl rfl))
  · obtain ⟨x49, rfl⟩ : ∃ z, z = o50 := ⟨_, rfl⟩
    rintro e s ⟨rfl, rfl⟩
    refine AWp.seq ?_
    refine reg hP hn hm [] [2] [] ⟨[(2, iV .i64 x49)], [], 0⟩ [] (by kernel_rfl) trivial ?_
    refine AWp.conv (inv := []) (vk := []) (e0 := []) (t := ⟨[(2, iV .i64 x49)], [], 0⟩) (by kernel_rfl) ?_
    refine AWp.ret ?_
    obtain rfl := Option.some.inj H
    exact Exists.intro _ (And.intro (fun _ _ h => h) (And.intro (.inl rfl) (And.intro rfl (And.intro (by kernel_rfl) (by kernel_rfl)))))
def f_pluvialref04_Units.f (a0 : Int) (a1 : Int) : Option (Int) := (f_pluvialref04_Right.f a0) >>= fun t42 => if (!t42) = true then (some 0) else ((f_pluvialref04_step.f a0) >>= fun t54 => some (IntKind.i64.wrap (a1 * t54)))
theorem f_pluvialref04_Units.ok (a0 : Int) (a1 : Int) (r : Int) (H : f_pluvialref04_Units.f a0 a1 = some r) : Pv.Fn Try.prog 55 [iV .i64 a0, iV .i64 a1] [] 0 (fun x o => x = iV .i64 r ∧ o = []) := by
  unfold f_pluvialref04_Units.f at H
  refine Fn.bodyK [] Try.func55 rfl rfl (fun Γ hP hn => ?_)
  have hm : Try.prog.follows .mixedOrders = true := by kernel_rfl
  replace hn : Γ.n = 12 := hn
  refine AWp.seq ?_
  refine reg hP hn hm [] [0, 1] [] ⟨[(0, iV .i64 a0), (1, iV .i64 a1)], [], 0⟩ [] (by kernel_rfl) trivial ?_
  refine AWp.seq ?_
  refine AWp.seq ?_
  obtain ⟨t42, e43, H⟩ := bind_of H
  refine reg hP hn hm [(1, .call [] [] [] [] 0 (bV t42) [])] [0, 1, 7] [] ⟨[(0, iV .i64 a0), (1, iV .i64 a1), (7, bV (!t42))], [], 0⟩ [Enters Try.prog 40, Pv.Fn Try.prog 40 [iV .i64 a0] [] 0 (fun r o => r = bV t42 ∧ o = [])] (by kernel_rfl) ⟨by exact Try.call40, by exact f_pluvialref04_Right.ok a0 t42 e43, trivial⟩ ?_
  refine AWp.cond (!t42) rfl (fun c44 => ?_) (fun c44 => ?_)
  · replace H := (ifT c44).symm.trans H
    refine AWp.seq ?_
    refine reg hP hn hm [] [4] [] ⟨[(4, iV .i64 0)], [], 0⟩ [] (by kernel_rfl) trivial ?_
    refine AWp.conv (inv := []) (vk := []) (e0 := []) (t := ⟨[(4, iV .i64 0)], [], 0⟩) (by kernel_rfl) ?_
    refine AWp.ret ?_
    obtain rfl := Option.some.inj H
    exact Exists.intro _ (And.intro (fun _ _ h => h) (And.intro (.inl rfl) (And.intro rfl (And.intro (by kernel_rfl) (by kernel_rfl)))))
  · replace H := (ifF c44).symm.trans H
    refine AWp.skip ?_
    refine AWp.seq ?_
    obtain ⟨t54, e55, H⟩ := bind_of H
    refine reg hP hn hm [(2, .call [] [] [] [] 0 (iV .i64 t54) [])] [4] [] ⟨[(4, iV .i64 (IntKind.i64.wrap (a1 * t54)))], [], 0⟩ [Enters Try.prog 68, Pv.Fn Try.prog 68 [iV .i64 a0] [] 0 (fun r o => r = iV .i64 t54 ∧ o = [])] (by kernel_rfl) ⟨by exact Try.call68, by exact f_pluvialref04_step.ok a0 t54 e55, trivial⟩ ?_
    refine AWp.conv (inv := []) (vk := []) (e0 := []) (t := ⟨[(4, iV .i64 (IntKind.i64.wrap (a1 * t54)))], [], 0⟩) (by kernel_rfl) ?_
    refine AWp.ret ?_
    obtain rfl := Option.some.inj H
    exact Exists.intro _ (And.intro (fun _ _ h => h) (And.intro (.inl rfl) (And.intro rfl (And.intro (by kernel_rfl) (by kernel_rfl)))))
def f_pluvialref04_In.f (a0 : Int) (a1 : Int) : Option (Bool) := (((f_pluvialref04_Right.f a0) >>= fun t61 => if t61 = true then (if (decide (a1 > (-262144))) = true then (if (decide (a1 ≤ (262144 : Int))) = true then ((f_pluvialref04_Units.f a0 a1) >>= fun t66 => if (decide (t66 > (-262144))) = true then ((f_pluvialref04_Units.f a0 a1) >>= fun t69 => some (decide (t69 ≤ (262144 : Int)))) else (some false)) else (some false)) else (some false)) else (some false)) : Option (Bool)) >>= fun x71 => some x71
theorem f_pluvialref04_In.ok (a0 : Int) (a1 : Int) (r : Bool) (H : f_pluvialref04_In.f a0 a1 = some r) : Pv.Fn Try.prog 54 [iV .i64 a0, iV .i64 a1] [] 0 (fun x o => x = bV r ∧ o = []) := by
  unfold f_pluvialref04_In.f at H
  refine Fn.bodyK [] Try.func54 rfl rfl (fun Γ hP hn => ?_)
  have hm : Try.prog.follows .mixedOrders = true := by kernel_rfl
  replace hn : Γ.n = 27 := hn
  refine AWp.seq ?_
  refine reg hP hn hm [] [0, 1] [] ⟨[(0, iV .i64 a0), (1, iV .i64 a1)], [], 0⟩ [] (by kernel_rfl) trivial ?_
  refine AWp.seq ?_
  obtain ⟨o72, e73, H⟩ := bind_of H
  refine AWp.mono (Q := fun e s => (match (generalizing := false) o72 with | x71 => e = .normal ∧ s = ⟨[(4, bV x71)], [], 0⟩)) (AWp.cv ?_) ?_
  · replace H := e73; clear e73
    obtain ⟨t61, e62, H⟩ := bind_of H
    rcases Bool.eq_false_or_eq_true t61 with c63 | c63
    · replace H := (ifT c63).symm.trans H
      rcases Bool.eq_false_or_eq_true (decide (a1 > (-262144))) with c64 | c64
      · replace H := (ifT c64).symm.trans H
        rcases Bool.eq_false_or_eq_true (decide (a1 ≤ (262144 : Int))) with c65 | c65
        · replace H := (ifT c65).symm.trans H
          obtain ⟨t66, e67, H⟩ := bind_of H
          rcases Bool.eq_false_or_eq_true (decide (t66 > (-262144))) with c68 | c68
          · replace H := (ifT c68).symm.trans H
            obtain ⟨t69, e70, H⟩ := bind_of H
            refine reg hP hn hm [(1, .call [] [] [] [] 0 (bV t61) []), (2, .b true), (6, .b true), (10, .b true), (13, .call [] [] [] [] 0 (iV .i64 t66) []), (16, .b true), (19, .call [] [] [] [] 0 (iV .i64 t69) [])] [4] [] ⟨[(4, bV (decide (t69 ≤ (262144 : Int))))], [], 0⟩ [Enters Try.prog 40, Pv.Fn Try.prog 40 [iV .i64 a0] [] 0 (fun r o => r = bV t61 ∧ o = []), t61 = true, (decide (a1 > (-262144))) = true, (decide (a1 ≤ (262144 : Int))) = true, Enters Try.prog 55, Pv.Fn Try.prog 55 [iV .i64 a0, iV .i64 a1] [] 0 (fun r o => r = iV .i64 t66 ∧ o = []), (decide (t66 > (-262144))) = true, Enters Try.prog 55, Pv.Fn Try.prog 55 [iV .i64 a0, iV .i64 a1] [] 0 (fun r o => r = iV .i64 t69 ∧ o = [])] (by kernel_rfl) ⟨by exact Try.call40, by exact f_pluvialref04_Right.ok a0 t61 e62, by exact c63, by exact c64, by exact c65, by exact Try.call55, by exact f_pluvialref04_Units.ok a0 a1 t66 e67, by exact c68, by exact Try.call55, by exact f_pluvialref04_Units.ok a0 a1 t69 e70, trivial⟩ ?_
            obtain rfl := Option.some.inj H
            exact Exists.intro _ (And.intro (fun _ _ h => h.conv (inv := []) (vk := []) (e0 := []) (t := ⟨[(4, bV (decide (t69 ≤ (262144 : Int))))], [], 0⟩) (by kernel_rfl)) (And.intro rfl rfl))
          · replace H := (ifF c68).symm.trans H
            refine reg hP hn hm [(1, .call [] [] [] [] 0 (bV t61) []), (2, .b true), (6, .b true), (10, .b true), (13, .call [] [] [] [] 0 (iV .i64 t66) []), (16, .b false)] [4] [] ⟨[(4, bV false)], [], 0⟩ [Enters Try.prog 40, Pv.Fn Try.prog 40 [iV .i64 a0] [] 0 (fun r o => r = bV t61 ∧ o = []), t61 = true, (decide (a1 > (-262144))) = true, (decide (a1 ≤ (262144 : Int))) = true, Enters Try.prog 55, Pv.Fn Try.prog 55 [iV .i64 a0, iV .i64 a1] [] 0 (fun r o => r = iV .i64 t66 ∧ o = []), (decide (t66 > (-262144))) = false] (by kernel_rfl) ⟨by exact Try.call40, by exact f_pluvialref04_Right.ok a0 t61 e62, by exact c63, by exact c64, by exact c65, by exact Try.call55, by exact f_pluvialref04_Units.ok a0 a1 t66 e67, by exact c68, trivial⟩ ?_
            obtain rfl := Option.some.inj H
            exact Exists.intro _ (And.intro (fun _ _ h => h.conv (inv := []) (vk := []) (e0 := []) (t := ⟨[(4, bV false)], [], 0⟩) (by kernel_rfl)) (And.intro rfl rfl))
        · replace H := (ifF c65).symm.trans H
          refine reg hP hn hm [(1, .call [] [] [] [] 0 (bV t61) []), (2, .b true), (6, .b true), (10, .b false)] [4] [] ⟨[(4, bV false)], [], 0⟩ [Enters Try.prog 40, Pv.Fn Try.prog 40 [iV .i64 a0] [] 0 (fun r o => r = bV t61 ∧ o = []), t61 = true, (decide (a1 > (-262144))) = true, (decide (a1 ≤ (262144 : Int))) = false] (by kernel_rfl) ⟨by exact Try.call40, by exact f_pluvialref04_Right.ok a0 t61 e62, by exact c63, by exact c64, by exact c65, trivial⟩ ?_
          obtain rfl := Option.some.inj H
          exact Exists.intro _ (And.intro (fun _ _ h => h.conv (inv := []) (vk := []) (e0 := []) (t := ⟨[(4, bV false)], [], 0⟩) (by kernel_rfl)) (And.intro rfl rfl))
      · replace H := (ifF c64).symm.trans H
        refine reg hP hn hm [(1, .call [] [] [] [] 0 (bV t61) []), (2, .b true), (6, .b false)] [4] [] ⟨[(4, bV false)], [], 0⟩ [Enters Try.prog 40, Pv.Fn Try.prog 40 [iV .i64 a0] [] 0 (fun r o => r = bV t61 ∧ o = []), t61 = true, (decide (a1 > (-262144))) = false] (by kernel_rfl) ⟨by exact Try.call40, by exact f_pluvialref04_Right.ok a0 t61 e62, by exact c63, by exact c64, trivial⟩ ?_
        obtain rfl := Option.some.inj H
        exact Exists.intro _ (And.intro (fun _ _ h => h.conv (inv := []) (vk := []) (e0 := []) (t := ⟨[(4, bV false)], [], 0⟩) (by kernel_rfl)) (And.intro rfl rfl))
    · replace H := (ifF c63).symm.trans H
      refine reg hP hn hm [(1, .call [] [] [] [] 0 (bV t61) []), (2, .b false)] [4] [] ⟨[(4, bV false)], [], 0⟩ [Enters Try.prog 40, Pv.Fn Try.prog 40 [iV .i64 a0] [] 0 (fun r o => r = bV t61 ∧ o = []), t61 = false] (by kernel_rfl) ⟨by exact Try.call40, by exact f_pluvialref04_Right.ok a0 t61 e62, by exact c63, trivial⟩ ?_
      obtain rfl := Option.some.inj H
      exact Exists.intro _ (And.intro (fun _ _ h => h.conv (inv := []) (vk := []) (e0 := []) (t := ⟨[(4, bV false)], [], 0⟩) (by kernel_rfl)) (And.intro rfl rfl))
  · obtain ⟨x71, rfl⟩ : ∃ z, z = o72 := ⟨_, rfl⟩
    rintro e s ⟨rfl, rfl⟩
    refine AWp.conv (inv := []) (vk := []) (e0 := []) (t := ⟨[(4, bV x71)], [], 0⟩) (by kernel_rfl) ?_
    refine AWp.ret ?_
    obtain rfl := Option.some.inj H
    exact Exists.intro _ (And.intro (fun _ _ h => h) (And.intro (.inl rfl) (And.intro rfl (And.intro (by kernel_rfl) (by kernel_rfl)))))
def f_pluvialref01_Add.l0 (a0 : List Int) (x191 : Int) (x192 : Int) : Option ((Int × Int) ⊕ Int) := if (decide (x192 < (a0.length : Int))) = true then ((at? a0 x192) >>= fun b197 => if (decide (b197 > (IntKind.u64.wrap ((18446744073709551615 : Int) - x191)))) = true then (some (.inl (0, 5))) else (f_pluvialref01_Add.l0 a0 (IntKind.u64.wrap (x191 + b197)) (IntKind.i64.wrap (x192 + (1 : Int))))) else (some (.inr x191))
partial_fixpoint
def f_pluvialref01_Add.f (a0 : List Int) : Option (Int × Int) := (f_pluvialref01_Add.l0 a0 0 0) >>= fun oo => match oo with | .inl rr => (some rr) | .inr x201 => (some (x201, 0))
theorem f_pluvialref01_Add.ok (a0 : List Int) (r : Int × Int) (H : f_pluvialref01_Add.f a0 = some r) : Pv.Fn Try.prog 47 [.im (.row (a0.map (encInt .u64)))] [] 0 (fun x o => x = .tup [iV .u64 r.1, iV .i64 r.2] ∧ o = []) := by
  unfold f_pluvialref01_Add.f at H
  refine Fn.bodyK [] Try.func47 rfl rfl (fun Γ hP hn => ?_)
  have hm : Try.prog.follows .mixedOrders = true := by kernel_rfl
  replace hn : Γ.n = 26 := hn
  refine AWp.seq ?_
  refine reg hP hn hm [] [0] [] ⟨[(0, .im (.row (a0.map (encInt .u64))))], [], 0⟩ [] (by kernel_rfl) trivial ?_
  refine AWp.seq ?_
  refine reg hP hn hm [] [0, 4] [] ⟨[(0, .im (.row (a0.map (encInt .u64)))), (4, iV .u64 0)], [], 0⟩ [] (by kernel_rfl) trivial ?_
  refine AWp.seq ?_
  refine AWp.seq ?_
  refine reg hP hn hm [] [0, 4, 5] [] ⟨[(0, .im (.row (a0.map (encInt .u64)))), (4, iV .u64 0), (5, iV .i64 0)], [], 0⟩ [] (by kernel_rfl) trivial ?_
  refine AWp.block ?_
  obtain ⟨o202, e203, H⟩ := bind_of H
  refine AWp.loop (LWp.conv (inv := []) (vk := []) (e0 := []) (t := ⟨[(0, .im (.row (a0.map (encInt .u64)))), (4, iV .u64 0), (5, iV .i64 0)], [], 0⟩) (by kernel_rfl) ?_)
  refine LWp.mono (Q := fun e s => (match (generalizing := false) o202 with | .inl rr => e = .ret ∧ s.floor = 0 ∧ resOf Try.prog Try.f47 s = some (.tup [iV .u64 rr.1, iV .i64 rr.2]) ∧ ([] : List (Nat × Option MObj)) = [] | .inr x201 => e = .exit 0 ∧ s = ⟨[(4, iV .u64 x201)], [], 0⟩)) (LWp.cv (withBody (fun body hbody => ?_))) ?_
  · refine f_pluvialref01_Add.l0.partial_correctness a0 (motive := fun x191 x192 o202 => LWp Γ body (fun e s => ∃ t, Cv Γ s t ∧ (match (generalizing := false) o202 with | .inl rr => e = .ret ∧ t.floor = 0 ∧ resOf Try.prog Try.f47 t = some (.tup [iV .u64 rr.1, iV .i64 rr.2]) ∧ ([] : List (Nat × Option MObj)) = [] | .inr x201 => e = .exit 0 ∧ t = ⟨[(4, iV .u64 x201)], [], 0⟩)) ⟨[(0, .im (.row (a0.map (encInt .u64)))), (4, iV .u64 x191), (5, iV .i64 x192)], [], 0⟩) ?_ _ _ _ e203
    clear H e203 o202; intro self ih x191 x192 o202 H
    subst hbody
    refine LWp.round ?_
    refine AWp.seq ?_
    refine AWp.seq ?_
    refine reg hP hn hm [(2, .any (iV .i64 (a0.length : Int)))] [0, 4, 5, 9] [] ⟨[(0, .im (.row (a0.map (encInt .u64)))), (4, iV .u64 x191), (5, iV .i64 x192), (9, bV (decide (x192 < (a0.length : Int))))], [], 0⟩ [((a0.map (encInt .u64)).length : Int) = (a0.length : Int)] (by kernel_rfl) ⟨by rw [len_map], trivial⟩ ?_
    refine AWp.cond (decide (x192 < (a0.length : Int))) rfl (fun c193 => ?_) (fun c193 => ?_)
    · replace H := (ifT c193).symm.trans H
      refine AWp.skip ?_
      refine AWp.seq ?_
      refine AWp.block ?_
      refine AWp.seq ?_
      refine AWp.seq ?_
      obtain ⟨b197, p198, q199, H⟩ := at_of H
      refine reg hP hn hm [(2, .c ((encInt .u64) b197))] [0, 4, 5, 18] [] ⟨[(0, .im (.row (a0.map (encInt .u64)))), (4, iV .u64 x191), (5, iV .i64 x192), (18, bV (decide (b197 > (IntKind.u64.wrap ((18446744073709551615 : Int) - x191)))))], [], 0⟩ [0 ≤ x192, (a0.map (encInt .u64))[(Int.toNat (x192))]? = some ((encInt .u64) b197)] (by kernel_rfl) ⟨by exact p198, by exact el_map (encInt .u64) q199, trivial⟩ ?_
      refine AWp.cond (decide (b197 > (IntKind.u64.wrap ((18446744073709551615 : Int) - x191)))) rfl (fun c200 => ?_) (fun c200 => ?_)
      · replace H := (ifT c200).symm.trans H
        refine AWp.seq ?_
        refine reg hP hn hm [] [2, 3] [] ⟨[(2, iV .u64 0), (3, iV .i64 5)], [], 0⟩ [] (by kernel_rfl) trivial ?_
        refine AWp.conv (inv := []) (vk := []) (e0 := []) (t := ⟨[(2, iV .u64 0), (3, iV .i64 5)], [], 0⟩) (by kernel_rfl) ?_
        refine AWp.ret ?_
        obtain rfl := Option.some.inj H
        exact Exists.intro _ (And.intro (fun _ _ h => h) (And.intro rfl (And.intro rfl (And.intro (by kernel_rfl) (by kernel_rfl)))))
      · replace H := (ifF c200).symm.trans H
        refine AWp.skip ?_
        refine reg hP hn hm [(3, .c ((encInt .u64) b197))] [0, 4, 5] [] ⟨[(0, .im (.row (a0.map (encInt .u64)))), (4, iV .u64 (IntKind.u64.wrap (x191 + b197))), (5, iV .i64 x192)], [], 0⟩ [0 ≤ x192, (a0.map (encInt .u64))[(Int.toNat (x192))]? = some ((encInt .u64) b197)] (by kernel_rfl) ⟨by exact p198, by exact el_map (encInt .u64) q199, trivial⟩ ?_
        refine reg hP hn hm [] [0, 4, 5] [] ⟨[(0, .im (.row (a0.map (encInt .u64)))), (4, iV .u64 (IntKind.u64.wrap (x191 + b197))), (5, iV .i64 (IntKind.i64.wrap (x192 + (1 : Int))))], [], 0⟩ [] (by kernel_rfl) trivial ?_
        exact LWp.conv (inv := []) (vk := []) (e0 := []) (t := ⟨[(0, .im (.row (a0.map (encInt .u64)))), (4, iV .u64 (IntKind.u64.wrap (x191 + b197))), (5, iV .i64 (IntKind.i64.wrap (x192 + (1 : Int))))], [], 0⟩) (by kernel_rfl) (ih _ _ _ H)
    · replace H := (ifF c193).symm.trans H
      refine AWp.exit ?_
      obtain rfl := Option.some.inj H
      exact Exists.intro _ (And.intro (fun _ _ h => h.conv (inv := []) (vk := []) (e0 := []) (t := ⟨[(4, iV .u64 x191)], [], 0⟩) (by kernel_rfl)) (And.intro rfl rfl))
  · rcases o202 with rr | x201
    · skip
      rintro e s ⟨rfl, hfl, hres⟩
      obtain rfl := Option.some.inj H
      exact Exists.intro _ (And.intro (fun _ _ h => h) (And.intro (.inl rfl) (And.intro hfl hres)))
    · skip
      rintro e s ⟨rfl, rfl⟩
      refine AWp.seq ?_
      refine reg hP hn hm [] [2, 3] [] ⟨[(2, iV .u64 x201), (3, iV .i64 0)], [], 0⟩ [] (by kernel_rfl) trivial ?_
      refine AWp.conv (inv := []) (vk := []) (e0 := []) (t := ⟨[(2, iV .u64 x201), (3, iV .i64 0)], [], 0⟩) (by kernel_rfl) ?_
      refine AWp.ret ?_
      obtain rfl := Option.some.inj H
      exact Exists.intro _ (And.intro (fun _ _ h => h) (And.intro (.inl rfl) (And.intro rfl (And.intro (by kernel_rfl) (by kernel_rfl)))))
def f_pluvialref05_Check.l1 (a0 : THist) (x124 : Int) (x127 : List TBucket) (x149 : List Int) (x150 : Int) : Option (Int ⊕ (List Int)) := if (decide (x150 < (x127.length : Int))) = true then ((at? x127 x150) >>= fun b157 => (f_pluvialref04_In.f a0.f1 b157.f0) >>= fun t160 => if (!t160) = true then (some (.inl 4)) else (((if (decide (x150 > (0 : Int))) = true then ((at? x127 (IntKind.i64.wrap (x150 - (1 : Int)))) >>= fun b168 => some (decide (b157.f0 ≤ b168.f0))) else (some false)) : Option (Bool)) >>= fun x171 => if x171 = true then (some (.inl 32)) else (if (b157.f1 == (0 : Int)) = true then (some (.inl 21)) else ((f_pluvialref04_Units.f a0.f1 (IntKind.i64.wrap (b157.f0 - (1 : Int)))) >>= fun t176 => if (decide (t176 < a0.f2)) = true then (some (.inl 31)) else ((chk ((x149.length + [b157.f1].length) * 8 ≤ 140737488355328)) >>= fun _ => f_pluvialref05_Check.l1 a0 x124 x127 (x149 ++ [b157.f1]) (IntKind.i64.wrap (x150 + (1 : Int)))))))) else (some (.inr x149))
partial_fixpoint
def f_pluvialref05_Check.l0 (a0 : THist) (x123 : List Int) (x124 : Int) : Option (Int ⊕ (List Int)) := if (decide (x124 < (2 : Int))) = true then (((if (x124 == (1 : Int)) = true then (some a0.f7) else (some a0.f6)) : Option (List TBucket)) >>= fun x127 => if (decide ((x127.length : Int) > (512 : Int))) = true then (some (.inl 9)) else ((f_pluvialref05_Check.l1 a0 x124 x127 x123 0) >>= fun oo => match oo with | .inl rr => (some (.inl rr)) | .inr x181 => (f_pluvialref05_Check.l0 a0 x181 (IntKind.i64.wrap (x124 + (1 : Int)))))) else (some (.inr x123))
partial_fixpoint
def f_pluvialref05_Check.f (a0 : THist) : Option (Int) := ((if (a0.f0 != (0 : Int)) = true then (some (a0.f0 != (1 : Int))) else (some false)) : Option (Bool)) >>= fun x12 => if x12 = true then (some 25) else ((f_pluvialref04_Right.f a0.f1) >>= fun t21 => if (!t21) = true then (some 20) else (((if (a0.f2 != (-524288)) = true then (if (decide (a0.f2 ≤ (-262144))) = true then (some true) else (some (decide (a0.f2 > (262144 : Int))))) else (some false)) : Option (Bool)) >>= fun x28 => if x28 = true then (some 31) else ((f_pluvialref05_Check.l0 a0 [a0.f3] 0) >>= fun oo => match oo with | .inl rr => (some rr) | .inr x182 => ((f_pluvialref01_Add.f x182) >>= fun t206 => if (t206.2 != (0 : Int)) = true then (some 5) else (if (t206.1 != a0.f4) = true then (some 21) else (some 0))))))
theorem f_pluvialref05_Check.ok (a0 : THist) (r : Int) (H : f_pluvialref05_Check.f a0 = some r) : Pv.Fn Try.prog 32 [.agg (aHist a0)] [] 0 (fun x o => x = iV .i64 r ∧ o = []) := by
  unfold f_pluvialref05_Check.f at H
  refine Fn.bodyK [] Try.func32 rfl rfl (fun Γ hP hn => ?_)
  have hm : Try.prog.follows .mixedOrders = true := by kernel_rfl
  replace hn : Γ.n = 118 := hn
  refine AWp.seq ?_
  refine reg hP hn hm [(0, .k 0)] [1] [0] ⟨[(1, .ptr 0 0 0)], [(0, some (.box 25 (aHist a0)))], 0⟩ [] (by kernel_rfl) trivial ?_
  refine AWp.seq ?_
  refine AWp.seq ?_
  obtain ⟨o210, e211, H⟩ := bind_of H
  refine AWp.mono (Q := fun e s => (match (generalizing := false) o210 with | x12 => e = .normal ∧ s = ⟨[(1, .ptr 1 0 0), (16, bV x12)], [(1, some (.box 25 (aHist a0)))], 0⟩)) (AWp.cv ?_) ?_
  · replace H := e211; clear e211
    rcases Bool.eq_false_or_eq_true (a0.f0 != (0 : Int)) with c11 | c11
    · replace H := (ifT c11).symm.trans H
      refine reg hP hn hm [(3, .b true)] [1, 16] [0] ⟨[(1, .ptr 0 0 0), (16, bV (a0.f0 != (1 : Int)))], [(0, some (.box 25 (aHist a0)))], 0⟩ [(a0.f0 != (0 : Int)) = true] (by kernel_rfl) ⟨by exact c11, trivial⟩ ?_
      obtain rfl := Option.some.inj H
      exact Exists.intro _ (And.intro (fun _ _ h => h.conv (inv := [(0, 1)]) (vk := []) (e0 := []) (t := ⟨[(1, .ptr 1 0 0), (16, bV (a0.f0 != (1 : Int)))], [(1, some (.box 25 (aHist a0)))], 0⟩) (by kernel_rfl)) (And.intro rfl rfl))
    · replace H := (ifF c11).symm.trans H
      refine reg hP hn hm [(3, .b false)] [1, 16] [0] ⟨[(1, .ptr 0 0 0), (16, bV false)], [(0, some (.box 25 (aHist a0)))], 0⟩ [(a0.f0 != (0 : Int)) = false] (by kernel_rfl) ⟨by exact c11, trivial⟩ ?_
      obtain rfl := Option.some.inj H
      exact Exists.intro _ (And.intro (fun _ _ h => h.conv (inv := [(0, 1)]) (vk := []) (e0 := []) (t := ⟨[(1, .ptr 1 0 0), (16, bV false)], [(1, some (.box 25 (aHist a0)))], 0⟩) (by kernel_rfl)) (And.intro rfl rfl))
  · obtain ⟨x12, rfl⟩ : ∃ z, z = o210 := ⟨_, rfl⟩
    rintro e s ⟨rfl, rfl⟩
    refine AWp.cond x12 rfl (fun c13 => ?_) (fun c13 => ?_)
    · replace H := (ifT c13).symm.trans H
      refine AWp.seq ?_
      refine reg hP hn hm [] [2] [] ⟨[(2, iV .i64 25)], [], 0⟩ [] (by kernel_rfl) trivial ?_
      refine AWp.conv (inv := []) (vk := []) (e0 := []) (t := ⟨[(2, iV .i64 25)], [], 0⟩) (by kernel_rfl) ?_
      refine AWp.ret ?_
      obtain rfl := Option.some.inj H
      exact Exists.intro _ (And.intro (fun _ _ h => h) (And.intro (.inl rfl) (And.intro rfl (And.intro (by kernel_rfl) (by kernel_rfl)))))
    · replace H := (ifF c13).symm.trans H
      refine AWp.skip ?_
      refine AWp.seq ?_
      refine AWp.seq ?_
      obtain ⟨t21, e22, H⟩ := bind_of H
      refine reg hP hn hm [(2, .call [] [] [] [] 0 (bV t21) [])] [1, 20] [1] ⟨[(1, .ptr 1 0 0), (20, bV (!t21))], [(1, some (.box 25 (aHist a0)))], 0⟩ [Enters Try.prog 40, Pv.Fn Try.prog 40 [iV .i64 a0.f1] [] 0 (fun r o => r = bV t21 ∧ o = [])] (by kernel_rfl) ⟨by exact Try.call40, by exact f_pluvialref04_Right.ok a0.f1 t21 e22, trivial⟩ ?_
      refine AWp.cond (!t21) rfl (fun c23 => ?_) (fun c23 => ?_)
      · replace H := (ifT c23).symm.trans H
        refine AWp.seq ?_
        refine reg hP hn hm [] [2] [] ⟨[(2, iV .i64 20)], [], 0⟩ [] (by kernel_rfl) trivial ?_
        refine AWp.conv (inv := []) (vk := []) (e0 := []) (t := ⟨[(2, iV .i64 20)], [], 0⟩) (by kernel_rfl) ?_
        refine AWp.ret ?_
        obtain rfl := Option.some.inj H
        exact Exists.intro _ (And.intro (fun _ _ h => h) (And.intro (.inl rfl) (And.intro rfl (And.intro (by kernel_rfl) (by kernel_rfl)))))
      · replace H := (ifF c23).symm.trans H
        refine AWp.skip ?_
        refine AWp.seq ?_
        refine AWp.seq ?_
        obtain ⟨o212, e213, H⟩ := bind_of H
        refine AWp.mono (Q := fun e s => (match (generalizing := false) o212 with | x28 => e = .normal ∧ s = ⟨[(1, .ptr 2 0 0), (33, bV x28)], [(2, some (.box 25 (aHist a0)))], 0⟩)) (AWp.cv ?_) ?_
        · replace H := e213; clear e213
          rcases Bool.eq_false_or_eq_true (a0.f2 != (-524288)) with c26 | c26
          · replace H := (ifT c26).symm.trans H
            rcases Bool.eq_false_or_eq_true (decide (a0.f2 ≤ (-262144))) with c27 | c27
            · replace H := (ifT c27).symm.trans H
              refine reg hP hn hm [(3, .b true), (7, .b true)] [1, 33] [1] ⟨[(1, .ptr 1 0 0), (33, bV true)], [(1, some (.box 25 (aHist a0)))], 0⟩ [(a0.f2 != (-524288)) = true, (decide (a0.f2 ≤ (-262144))) = true] (by kernel_rfl) ⟨by exact c26, by exact c27, trivial⟩ ?_
              obtain rfl := Option.some.inj H
              exact Exists.intro _ (And.intro (fun _ _ h => h.conv (inv := [(1, 2)]) (vk := []) (e0 := []) (t := ⟨[(1, .ptr 2 0 0), (33, bV true)], [(2, some (.box 25 (aHist a0)))], 0⟩) (by kernel_rfl)) (And.intro rfl rfl))
            · replace H := (ifF c27).symm.trans H
              refine reg hP hn hm [(3, .b true), (7, .b false)] [1, 33] [1] ⟨[(1, .ptr 1 0 0), (33, bV (decide (a0.f2 > (262144 : Int))))], [(1, some (.box 25 (aHist a0)))], 0⟩ [(a0.f2 != (-524288)) = true, (decide (a0.f2 ≤ (-262144))) = false] (by kernel_rfl) ⟨by exact c26, by exact c27, trivial⟩ ?_
              obtain rfl := Option.some.inj H
              exact Exists.intro _ (And.intro (fun _ _ h => h.conv (inv := [(1, 2)]) (vk := []) (e0 := []) (t := ⟨[(1, .ptr 2 0 0), (33, bV (decide (a0.f2 > (262144 : Int))))], [(2, some (.box 25 (aHist a0)))], 0⟩) (by kernel_rfl)) (And.intro rfl rfl))
          · replace H := (ifF c26).symm.trans H
            refine reg hP hn hm [(3, .b false)] [1, 33] [1] ⟨[(1, .ptr 1 0 0), (33, bV false)], [(1, some (.box 25 (aHist a0)))], 0⟩ [(a0.f2 != (-524288)) = false] (by kernel_rfl) ⟨by exact c26, trivial⟩ ?_
            obtain rfl := Option.some.inj H
            exact Exists.intro _ (And.intro (fun _ _ h => h.conv (inv := [(1, 2)]) (vk := []) (e0 := []) (t := ⟨[(1, .ptr 2 0 0), (33, bV false)], [(2, some (.box 25 (aHist a0)))], 0⟩) (by kernel_rfl)) (And.intro rfl rfl))
        · obtain ⟨x28, rfl⟩ : ∃ z, z = o212 := ⟨_, rfl⟩
          rintro e s ⟨rfl, rfl⟩
          refine AWp.cond x28 rfl (fun c29 => ?_) (fun c29 => ?_)
          · replace H := (ifT c29).symm.trans H
            refine AWp.seq ?_
            refine reg hP hn hm [] [2] [] ⟨[(2, iV .i64 31)], [], 0⟩ [] (by kernel_rfl) trivial ?_
            refine AWp.conv (inv := []) (vk := []) (e0 := []) (t := ⟨[(2, iV .i64 31)], [], 0⟩) (by kernel_rfl) ?_
            refine AWp.ret ?_
            obtain rfl := Option.some.inj H
            exact Exists.intro _ (And.intro (fun _ _ h => h) (And.intro (.inl rfl) (And.intro rfl (And.intro (by kernel_rfl) (by kernel_rfl)))))
          · replace H := (ifF c29).symm.trans H
            refine AWp.skip ?_
            refine AWp.seq ?_
            refine reg hP hn hm [(2, .app 3 ([a0.f3].map (encInt .u64)))] [1, 3] [2, 3] ⟨[(1, .ptr 2 0 0), (3, .own 3)], [(2, some (.box 25 (aHist a0))), (3, some (.row 1 22 ([a0.f3].map (encInt .u64))))], 0⟩ [[a0.f3].map (encInt .u64) = [[iI .u64 a0.f3]]] (by kernel_rfl) ⟨by exact rfl, trivial⟩ ?_
            refine AWp.seq ?_
            refine AWp.seq ?_
            refine reg hP hn hm [] [1, 3, 4] [2, 3] ⟨[(1, .ptr 2 0 0), (3, .own 3), (4, iV .i64 0)], [(2, some (.box 25 (aHist a0))), (3, some (.row 1 22 ([a0.f3].map (encInt .u64))))], 0⟩ [] (by kernel_rfl) trivial ?_
            refine AWp.block ?_
            obtain ⟨o214, e215, H⟩ := bind_of H
            refine AWp.loop (LWp.conv (inv := [(2, 14), (3, 15)]) (vk := []) (e0 := []) (t := ⟨[(1, .ptr 14 0 0), (3, .own 15), (4, iV .i64 0)], [(14, some (.box 25 (aHist a0))), (15, some (.row 1 22 ([a0.f3].map (encInt .u64))))], 0⟩) (by kernel_rfl) ?_)
            refine LWp.mono (Q := fun e s => (match (generalizing := false) o214 with | .inl rr => e = .ret ∧ s.floor = 0 ∧ resOf Try.prog Try.f32 s = some (iV .i64 rr) ∧ ([] : List (Nat × Option MObj)) = [] | .inr x182 => e = .exit 0 ∧ s = ⟨[(1, .ptr 28 0 0), (3, .own 29)], [(28, some (.box 25 (aHist a0))), (29, some (.row 1 22 (x182.map (encInt .u64))))], 0⟩)) (LWp.cv (withBody (fun body hbody => ?_))) ?_
            · refine f_pluvialref05_Check.l0.partial_correctness a0 (motive := fun x123 x124 o214 => LWp Γ body (fun e s => ∃ t, Cv Γ s t ∧ (match (generalizing := false) o214 with | .inl rr => e = .ret ∧ t.floor = 0 ∧ resOf Try.prog Try.f32 t = some (iV .i64 rr) ∧ ([] : List (Nat × Option MObj)) = [] | .inr x182 => e = .exit 0 ∧ t = ⟨[(1, .ptr 28 0 0), (3, .own 29)], [(28, some (.box 25 (aHist a0))), (29, some (.row 1 22 (x182.map (encInt .u64))))], 0⟩)) ⟨[(1, .ptr 14 0 0), (3, .own 15), (4, iV .i64 x124)], [(14, some (.box 25 (aHist a0))), (15, some (.row 1 22 (x123.map (encInt .u64))))], 0⟩) ?_ _ _ _ e215
              clear H e215 o214; intro self ih x123 x124 o214 H
              subst hbody
              refine LWp.round ?_
              refine AWp.seq ?_
              refine AWp.seq ?_
              refine reg hP hn hm [] [1, 3, 4, 38] [14, 15] ⟨[(1, .ptr 14 0 0), (3, .own 15), (4, iV .i64 x124), (38, bV (decide (x124 < (2 : Int))))], [(14, some (.box 25 (aHist a0))), (15, some (.row 1 22 (x123.map (encInt .u64))))], 0⟩ [] (by kernel_rfl) trivial ?_
              refine AWp.cond (decide (x124 < (2 : Int))) rfl (fun c125 => ?_) (fun c125 => ?_)
              · replace H := (ifT c125).symm.trans H
                refine AWp.skip ?_
                refine AWp.seq ?_
                refine AWp.block ?_
                refine AWp.seq ?_
                refine reg hP hn hm [] [1, 3, 4, 5] [14, 15] ⟨[(1, .ptr 14 0 0), (3, .own 15), (4, iV .i64 x124), (5, .im (.row (a0.f6.map eBucket)))], [(14, some (.box 25 (aHist a0))), (15, some (.row 1 22 (x123.map (encInt .u64))))], 0⟩ [] (by kernel_rfl) trivial ?_
                refine AWp.seq ?_
                refine AWp.seq ?_
                refine reg hP hn hm [] [1, 3, 4, 5, 44] [14, 15] ⟨[(1, .ptr 14 0 0), (3, .own 15), (4, iV .i64 x124), (5, .im (.row (a0.f6.map eBucket))), (44, bV (x124 == (1 : Int)))], [(14, some (.box 25 (aHist a0))), (15, some (.row 1 22 (x123.map (encInt .u64))))], 0⟩ [] (by kernel_rfl) trivial ?_
                obtain ⟨o216, e217, H⟩ := bind_of H
                refine AWp.mono (Q := fun e s => (match (generalizing := false) o216 with | x127 => e = .normal ∧ s = ⟨[(1, .ptr 16 0 0), (3, .own 17), (4, iV .i64 x124), (5, .im (.row (x127.map eBucket)))], [(16, some (.box 25 (aHist a0))), (17, some (.row 1 22 (x123.map (encInt .u64))))], 0⟩)) (AWp.cv ?_) ?_
                · replace H := e217; clear e217
                  refine AWp.cond (x124 == (1 : Int)) rfl (fun c126 => ?_) (fun c126 => ?_)
                  · replace H := (ifT c126).symm.trans H
                    refine reg hP hn hm [] [1, 3, 4, 5] [14, 15] ⟨[(1, .ptr 14 0 0), (3, .own 15), (4, iV .i64 x124), (5, .im (.row (a0.f7.map eBucket)))], [(14, some (.box 25 (aHist a0))), (15, some (.row 1 22 (x123.map (encInt .u64))))], 0⟩ [] (by kernel_rfl) trivial ?_
                    obtain rfl := Option.some.inj H
                    exact Exists.intro _ (And.intro (fun _ _ h => h.conv (inv := [(14, 16), (15, 17)]) (vk := []) (e0 := []) (t := ⟨[(1, .ptr 16 0 0), (3, .own 17), (4, iV .i64 x124), (5, .im (.row (a0.f7.map eBucket)))], [(16, some (.box 25 (aHist a0))), (17, some (.row 1 22 (x123.map (encInt .u64))))], 0⟩) (by kernel_rfl)) (And.intro rfl rfl))
                  · replace H := (ifF c126).symm.trans H
                    refine AWp.skip ?_
                    obtain rfl := Option.some.inj H
                    exact Exists.intro _ (And.intro (fun _ _ h => h.conv (inv := [(14, 16), (15, 17)]) (vk := []) (e0 := []) (t := ⟨[(1, .ptr 16 0 0), (3, .own 17), (4, iV .i64 x124), (5, .im (.row (a0.f6.map eBucket)))], [(16, some (.box 25 (aHist a0))), (17, some (.row 1 22 (x123.map (encInt .u64))))], 0⟩) (by kernel_rfl)) (And.intro rfl rfl))
                · obtain ⟨x127, rfl⟩ : ∃ z, z = o216 := ⟨_, rfl⟩
                  rintro e s ⟨rfl, rfl⟩
                  refine AWp.seq ?_
                  refine AWp.seq ?_
                  refine reg hP hn hm [(1, .any (iV .i64 (x127.length : Int)))] [1, 3, 4, 5, 49] [16, 17] ⟨[(1, .ptr 16 0 0), (3, .own 17), (4, iV .i64 x124), (5, .im (.row (x127.map eBucket))), (49, bV (decide ((x127.length : Int) > (512 : Int))))], [(16, some (.box 25 (aHist a0))), (17, some (.row 1 22 (x123.map (encInt .u64))))], 0⟩ [((x127.map eBucket).length : Int) = (x127.length : Int)] (by kernel_rfl) ⟨by rw [len_map], trivial⟩ ?_
                  refine AWp.cond (decide ((x127.length : Int) > (512 : Int))) rfl (fun c128 => ?_) (fun c128 => ?_)
                  · replace H := (ifT c128).symm.trans H
                    refine AWp.seq ?_
                    refine reg hP hn hm [] [2] [] ⟨[(2, iV .i64 9)], [], 0⟩ [] (by kernel_rfl) trivial ?_
                    refine AWp.conv (inv := []) (vk := []) (e0 := []) (t := ⟨[(2, iV .i64 9)], [], 0⟩) (by kernel_rfl) ?_
                    refine AWp.ret ?_
                    obtain rfl := Option.some.inj H
                    exact Exists.intro _ (And.intro (fun _ _ h => h) (And.intro rfl (And.intro rfl (And.intro (by kernel_rfl) (by kernel_rfl)))))
                  · replace H := (ifF c128).symm.trans H
                    refine AWp.skip ?_
                    refine AWp.seq ?_
                    refine reg hP hn hm [] [1, 3, 4, 5, 6] [16, 17] ⟨[(1, .ptr 16 0 0), (3, .own 17), (4, iV .i64 x124), (5, .im (.row (x127.map eBucket))), (6, iV .i64 0)], [(16, some (.box 25 (aHist a0))), (17, some (.row 1 22 (x123.map (encInt .u64))))], 0⟩ [] (by kernel_rfl) trivial ?_
                    refine AWp.block ?_
                    obtain ⟨o218, e219, H⟩ := bind_of H
                    refine AWp.loop (LWp.conv (inv := [(16, 20), (17, 21)]) (vk := []) (e0 := []) (t := ⟨[(1, .ptr 20 0 0), (3, .own 21), (4, iV .i64 x124), (5, .im (.row (x127.map eBucket))), (6, iV .i64 0)], [(20, some (.box 25 (aHist a0))), (21, some (.row 1 22 (x123.map (encInt .u64))))], 0⟩) (by kernel_rfl) ?_)
                    refine LWp.mono (Q := fun e s => (match (generalizing := false) o218 with | .inl rr => e = .ret ∧ s.floor = 0 ∧ resOf Try.prog Try.f32 s = some (iV .i64 rr) ∧ ([] : List (Nat × Option MObj)) = [] | .inr x181 => e = .exit 2 ∧ s = ⟨[(1, .ptr 26 0 0), (3, .own 27), (4, iV .i64 x124)], [(26, some (.box 25 (aHist a0))), (27, some (.row 1 22 (x181.map (encInt .u64))))], 0⟩)) (LWp.cv (withBody (fun body hbody => ?_))) ?_
                    · refine f_pluvialref05_Check.l1.partial_correctness a0 x124 x127 (motive := fun x149 x150 o218 => LWp Γ body (fun e s => ∃ t, Cv Γ s t ∧ (match (generalizing := false) o218 with | .inl rr => e = .ret ∧ t.floor = 0 ∧ resOf Try.prog Try.f32 t = some (iV .i64 rr) ∧ ([] : List (Nat × Option MObj)) = [] | .inr x181 => e = .exit 2 ∧ t = ⟨[(1, .ptr 26 0 0), (3, .own 27), (4, iV .i64 x124)], [(26, some (.box 25 (aHist a0))), (27, some (.row 1 22 (x181.map (encInt .u64))))], 0⟩)) ⟨[(1, .ptr 20 0 0), (3, .own 21), (4, iV .i64 x124), (5, .im (.row (x127.map eBucket))), (6, iV .i64 x150)], [(20, some (.box 25 (aHist a0))), (21, some (.row 1 22 (x149.map (encInt .u64))))], 0⟩) ?_ _ _ _ e219
                      clear H e219 o218; intro self ih x149 x150 o218 H
                      subst hbody
                      refine LWp.round ?_
                      refine AWp.seq ?_
                      refine AWp.seq ?_
                      refine reg hP hn hm [(2, .any (iV .i64 (x127.length : Int)))] [1, 3, 4, 5, 6, 53] [20, 21] ⟨[(1, .ptr 20 0 0), (3, .own 21), (4, iV .i64 x124), (5, .im (.row (x127.map eBucket))), (6, iV .i64 x150), (53, bV (decide (x150 < (x127.length : Int))))], [(20, some (.box 25 (aHist a0))), (21, some (.row 1 22 (x149.map (encInt .u64))))], 0⟩ [((x127.map eBucket).length : Int) = (x127.length : Int)] (by kernel_rfl) ⟨by rw [len_map], trivial⟩ ?_
                      refine AWp.cond (decide (x150 < (x127.length : Int))) rfl (fun c151 => ?_) (fun c151 => ?_)
                      · replace H := (ifT c151).symm.trans H
                        refine AWp.skip ?_
                        refine AWp.seq ?_
                        refine AWp.block ?_
                        refine AWp.seq ?_
                        refine AWp.seq ?_
                        obtain ⟨b157, p158, q159, H⟩ := at_of H
                        obtain ⟨t160, e161, H⟩ := bind_of H
                        refine reg hP hn hm [(4, .c (eBucket b157)), (7, .call [] [] [] [] 0 (bV t160) [])] [1, 3, 4, 5, 6, 64] [20, 21] ⟨[(1, .ptr 20 0 0), (3, .own 21), (4, iV .i64 x124), (5, .im (.row (x127.map eBucket))), (6, iV .i64 x150), (64, bV (!t160))], [(20, some (.box 25 (aHist a0))), (21, some (.row 1 22 (x149.map (encInt .u64))))], 0⟩ [0 ≤ x150, (x127.map eBucket)[(Int.toNat (x150))]? = some (eBucket b157), Enters Try.prog 54, Pv.Fn Try.prog 54 [iV .i64 a0.f1, iV .i64 b157.f0] [] 0 (fun r o => r = bV t160 ∧ o = [])] (by kernel_rfl) ⟨by exact p158, by exact el_map eBucket q159, by exact Try.call54, by exact f_pluvialref04_In.ok a0.f1 b157.f0 t160 e161, trivial⟩ ?_
                        refine AWp.cond (!t160) rfl (fun c162 => ?_) (fun c162 => ?_)
                        · replace H := (ifT c162).symm.trans H
                          refine AWp.seq ?_
                          refine reg hP hn hm [] [2] [] ⟨[(2, iV .i64 4)], [], 0⟩ [] (by kernel_rfl) trivial ?_
                          refine AWp.conv (inv := []) (vk := []) (e0 := []) (t := ⟨[(2, iV .i64 4)], [], 0⟩) (by kernel_rfl) ?_
                          refine AWp.ret ?_
                          obtain rfl := Option.some.inj H
                          exact Exists.intro _ (And.intro (fun _ _ h => h) (And.intro rfl (And.intro rfl (And.intro (by kernel_rfl) (by kernel_rfl)))))
                        · replace H := (ifF c162).symm.trans H
                          refine AWp.skip ?_
                          refine AWp.seq ?_
                          refine AWp.seq ?_
                          obtain ⟨o220, e221, H⟩ := bind_of H
                          refine AWp.mono (Q := fun e s => (match (generalizing := false) o220 with | x171 => e = .normal ∧ s = ⟨[(1, .ptr 22 0 0), (3, .own 23), (4, iV .i64 x124), (5, .im (.row (x127.map eBucket))), (6, iV .i64 x150), (80, bV x171)], [(22, some (.box 25 (aHist a0))), (23, some (.row 1 22 (x149.map (encInt .u64))))], 0⟩)) (AWp.cv ?_) ?_
                          · replace H := e221; clear e221
                            rcases Bool.eq_false_or_eq_true (decide (x150 > (0 : Int))) with c167 | c167
                            · replace H := (ifT c167).symm.trans H
                              obtain ⟨b168, p169, q170, H⟩ := at_of H
                              refine reg hP hn hm [(2, .b true), (5, .c (eBucket b157)), (11, .c (eBucket b168))] [1, 3, 4, 5, 6, 68, 69, 70, 71, 72, 73, 74, 75, 76, 77, 78, 79, 80] [20, 21] ⟨[(1, .ptr 20 0 0), (3, .own 21), (4, iV .i64 x124), (5, .im (.row (x127.map eBucket))), (6, iV .i64 x150), (68, .im (.row (x127.map eBucket))), (69, iV .i64 x150), (70, .ip [iI .i64 b157.f0, iI .u64 b157.f1]), (71, .ip [iI .i64 b157.f0, iI .u64 b157.f1]), (72, iV .i64 b157.f0), (73, .im (.row (x127.map eBucket))), (74, iV .i64 x150), (75, iV .i64 (IntKind.i64.wrap (x150 - (1 : Int)))), (76, .ip [iI .i64 b168.f0, iI .u64 b168.f1]), (77, .ip [iI .i64 b168.f0, iI .u64 b168.f1]), (78, iV .i64 b168.f0), (79, bV (decide (b157.f0 ≤ b168.f0))), (80, bV (decide (b157.f0 ≤ b168.f0)))], [(20, some (.box 25 (aHist a0))), (21, some (.row 1 22 (x149.map (encInt .u64))))], 0⟩ [(decide (x150 > (0 : Int))) = true, 0 ≤ x150, (x127.map eBucket)[(Int.toNat (x150))]? = some (eBucket b157), 0 ≤ (IntKind.i64.wrap (x150 - (1 : Int))), (x127.map eBucket)[(Int.toNat (IntKind.i64.wrap (x150 - (1 : Int))))]? = some (eBucket b168)] (by kernel_rfl) ⟨by exact c167, by exact p158, by exact el_map eBucket q159, by exact p169, by exact el_map eBucket q170, trivial⟩ ?_
                              obtain rfl := Option.some.inj H
                              exact Exists.intro _ (And.intro (fun _ _ h => h.conv (inv := [(20, 22), (21, 23)]) (vk := []) (e0 := []) (t := ⟨[(1, .ptr 22 0 0), (3, .own 23), (4, iV .i64 x124), (5, .im (.row (x127.map eBucket))), (6, iV .i64 x150), (80, bV (decide (b157.f0 ≤ b168.f0)))], [(22, some (.box 25 (aHist a0))), (23, some (.row 1 22 (x149.map (encInt .u64))))], 0⟩) (by kernel_rfl)) (And.intro rfl rfl))
                            · replace H := (ifF c167).symm.trans H
                              refine reg hP hn hm [(2, .b false)] [1, 3, 4, 5, 6, 80] [20, 21] ⟨[(1, .ptr 20 0 0), (3, .own 21), (4, iV .i64 x124), (5, .im (.row (x127.map eBucket))), (6, iV .i64 x150), (80, bV false)], [(20, some (.box 25 (aHist a0))), (21, some (.row 1 22 (x149.map (encInt .u64))))], 0⟩ [(decide (x150 > (0 : Int))) = false] (by kernel_rfl) ⟨by exact c167, trivial⟩ ?_
                              obtain rfl := Option.some.inj H
                              exact Exists.intro _ (And.intro (fun _ _ h => h.conv (inv := [(20, 22), (21, 23)]) (vk := []) (e0 := []) (t := ⟨[(1, .ptr 22 0 0), (3, .own 23), (4, iV .i64 x124), (5, .im (.row (x127.map eBucket))), (6, iV .i64 x150), (80, bV false)], [(22, some (.box 25 (aHist a0))), (23, some (.row 1 22 (x149.map (encInt .u64))))], 0⟩) (by kernel_rfl)) (And.intro rfl rfl))
                          · obtain ⟨x171, rfl⟩ : ∃ z, z = o220 := ⟨_, rfl⟩
                            rintro e s ⟨rfl, rfl⟩
                            refine AWp.cond x171 rfl (fun c172 => ?_) (fun c172 => ?_)
                            · replace H := (ifT c172).symm.trans H
                              refine AWp.seq ?_
                              refine reg hP hn hm [] [2] [] ⟨[(2, iV .i64 32)], [], 0⟩ [] (by kernel_rfl) trivial ?_
                              refine AWp.conv (inv := []) (vk := []) (e0 := []) (t := ⟨[(2, iV .i64 32)], [], 0⟩) (by kernel_rfl) ?_
                              refine AWp.ret ?_
                              obtain rfl := Option.some.inj H
                              exact Exists.intro _ (And.intro (fun _ _ h => h) (And.intro rfl (And.intro rfl (And.intro (by kernel_rfl) (by kernel_rfl)))))
                            · replace H := (ifF c172).symm.trans H
                              refine AWp.skip ?_
                              refine AWp.seq ?_
                              refine AWp.seq ?_
                              refine reg hP hn hm [(2, .c (eBucket b157))] [1, 3, 4, 5, 6, 86] [22, 23] ⟨[(1, .ptr 22 0 0), (3, .own 23), (4, iV .i64 x124), (5, .im (.row (x127.map eBucket))), (6, iV .i64 x150), (86, bV (b157.f1 == (0 : Int)))], [(22, some (.box 25 (aHist a0))), (23, some (.row 1 22 (x149.map (encInt .u64))))], 0⟩ [0 ≤ x150, (x127.map eBucket)[(Int.toNat (x150))]? = some (eBucket b157)] (by kernel_rfl) ⟨by exact p158, by exact el_map eBucket q159, trivial⟩ ?_
                              refine AWp.cond (b157.f1 == (0 : Int)) rfl (fun c173 => ?_) (fun c173 => ?_)
                              · replace H := (ifT c173).symm.trans H
                                refine AWp.seq ?_
                                refine reg hP hn hm [] [2] [] ⟨[(2, iV .i64 21)], [], 0⟩ [] (by kernel_rfl) trivial ?_
                                refine AWp.conv (inv := []) (vk := []) (e0 := []) (t := ⟨[(2, iV .i64 21)], [], 0⟩) (by kernel_rfl) ?_
                                refine AWp.ret ?_
                                obtain rfl := Option.some.inj H
                                exact Exists.intro _ (And.intro (fun _ _ h => h) (And.intro rfl (And.intro rfl (And.intro (by kernel_rfl) (by kernel_rfl)))))
                              · replace H := (ifF c173).symm.trans H
                                refine AWp.skip ?_
                                refine AWp.seq ?_
                                refine AWp.seq ?_
                                obtain ⟨t176, e177, H⟩ := bind_of H
                                refine reg hP hn hm [(4, .c (eBucket b157)), (8, .call [] [] [] [] 0 (iV .i64 t176) [])] [1, 3, 4, 5, 6, 98] [22, 23] ⟨[(1, .ptr 22 0 0), (3, .own 23), (4, iV .i64 x124), (5, .im (.row (x127.map eBucket))), (6, iV .i64 x150), (98, bV (decide (t176 < a0.f2)))], [(22, some (.box 25 (aHist a0))), (23, some (.row 1 22 (x149.map (encInt .u64))))], 0⟩ [0 ≤ x150, (x127.map eBucket)[(Int.toNat (x150))]? = some (eBucket b157), Enters Try.prog 55, Pv.Fn Try.prog 55 [iV .i64 a0.f1, iV .i64 (IntKind.i64.wrap (b157.f0 - (1 : Int)))] [] 0 (fun r o => r = iV .i64 t176 ∧ o = [])] (by kernel_rfl) ⟨by exact p158, by exact el_map eBucket q159, by exact Try.call55, by exact f_pluvialref04_Units.ok a0.f1 (IntKind.i64.wrap (b157.f0 - (1 : Int))) t176 e177, trivial⟩ ?_
                                refine AWp.cond (decide (t176 < a0.f2)) rfl (fun c178 => ?_) (fun c178 => ?_)
                                · replace H := (ifT c178).symm.trans H
                                  refine AWp.seq ?_
                                  refine reg hP hn hm [] [2] [] ⟨[(2, iV .i64 31)], [], 0⟩ [] (by kernel_rfl) trivial ?_
                                  refine AWp.conv (inv := []) (vk := []) (e0 := []) (t := ⟨[(2, iV .i64 31)], [], 0⟩) (by kernel_rfl) ?_
                                  refine AWp.ret ?_
                                  obtain rfl := Option.some.inj H
                                  exact Exists.intro _ (And.intro (fun _ _ h => h) (And.intro rfl (And.intro rfl (And.intro (by kernel_rfl) (by kernel_rfl)))))
                                · replace H := (ifF c178).symm.trans H
                                  refine AWp.skip ?_
                                  obtain ⟨c180, H⟩ := chk_of H
                                  refine reg hP hn hm [(3, .c (eBucket b157)), (6, .app 24 ([b157.f1].map (encInt .u64))), (7, .app 25 ((x149 ++ [b157.f1]).map (encInt .u64)))] [1, 3, 4, 5, 6] [22, 25] ⟨[(1, .ptr 22 0 0), (3, .own 25), (4, iV .i64 x124), (5, .im (.row (x127.map eBucket))), (6, iV .i64 x150)], [(22, some (.box 25 (aHist a0))), (25, some (.row 1 22 ((x149 ++ [b157.f1]).map (encInt .u64))))], 0⟩ [0 ≤ x150, (x127.map eBucket)[(Int.toNat (x150))]? = some (eBucket b157), [b157.f1].map (encInt .u64) = [[iI .u64 b157.f1]], (x149 ++ [b157.f1]).map (encInt .u64) = (x149.map (encInt .u64)) ++ ([b157.f1].map (encInt .u64)), ∀ c ∈ ([b157.f1].map (encInt .u64)), c.length = 1, ∀ c ∈ ([b157.f1].map (encInt .u64)), leaves (c.map .im) = true, ((x149.map (encInt .u64)).length + ([b157.f1].map (encInt .u64)).length) * 8 ≤ 140737488355328] (by kernel_rfl) ⟨by exact p158, by exact el_map eBucket q159, by exact rfl, by simp, by exact all_len _ _ _ (fun _ => rfl), by exact all_leaf _ _ (fun _ => rfl), by simpa using c180, trivial⟩ ?_
                                  refine reg hP hn hm [] [1, 3, 4, 5, 6] [22, 25] ⟨[(1, .ptr 22 0 0), (3, .own 25), (4, iV .i64 x124), (5, .im (.row (x127.map eBucket))), (6, iV .i64 (IntKind.i64.wrap (x150 + (1 : Int))))], [(22, some (.box 25 (aHist a0))), (25, some (.row 1 22 ((x149 ++ [b157.f1]).map (encInt .u64))))], 0⟩ [] (by kernel_rfl) trivial ?_
                                  exact LWp.conv (inv := [(22, 20), (25, 21)]) (vk := []) (e0 := []) (t := ⟨[(1, .ptr 20 0 0), (3, .own 21), (4, iV .i64 x124), (5, .im (.row (x127.map eBucket))), (6, iV .i64 (IntKind.i64.wrap (x150 + (1 : Int))))], [(20, some (.box 25 (aHist a0))), (21, some (.row 1 22 ((x149 ++ [b157.f1]).map (encInt .u64))))], 0⟩) (by kernel_rfl) (ih _ _ _ H)
                      · replace H := (ifF c151).symm.trans H
                        refine AWp.exit ?_
                        obtain rfl := Option.some.inj H
                        exact Exists.intro _ (And.intro (fun _ _ h => h.conv (inv := [(20, 26), (21, 27)]) (vk := []) (e0 := []) (t := ⟨[(1, .ptr 26 0 0), (3, .own 27), (4, iV .i64 x124)], [(26, some (.box 25 (aHist a0))), (27, some (.row 1 22 (x149.map (encInt .u64))))], 0⟩) (by kernel_rfl)) (And.intro rfl rfl))
                    · rcases o218 with rr | x181
                      · skip
                        rintro e s ⟨rfl, hfl, hres⟩
                        obtain rfl := Option.some.inj H
                        exact Exists.intro _ (And.intro (fun _ _ h => h) (And.intro rfl (And.intro hfl hres)))
                      · skip
                        rintro e s ⟨rfl, rfl⟩
                        refine reg hP hn hm [] [1, 3, 4] [26, 27] ⟨[(1, .ptr 26 0 0), (3, .own 27), (4, iV .i64 (IntKind.i64.wrap (x124 + (1 : Int))))], [(26, some (.box 25 (aHist a0))), (27, some (.row 1 22 (x181.map (encInt .u64))))], 0⟩ [] (by kernel_rfl) trivial ?_
                        exact LWp.conv (inv := [(26, 14), (27, 15)]) (vk := []) (e0 := []) (t := ⟨[(1, .ptr 14 0 0), (3, .own 15), (4, iV .i64 (IntKind.i64.wrap (x124 + (1 : Int))))], [(14, some (.box 25 (aHist a0))), (15, some (.row 1 22 (x181.map (encInt .u64))))], 0⟩) (by kernel_rfl) (ih _ _ _ H)
              · replace H := (ifF c125).symm.trans H
                refine AWp.exit ?_
                obtain rfl := Option.some.inj H
                exact Exists.intro _ (And.intro (fun _ _ h => h.conv (inv := [(14, 28), (15, 29)]) (vk := []) (e0 := []) (t := ⟨[(1, .ptr 28 0 0), (3, .own 29)], [(28, some (.box 25 (aHist a0))), (29, some (.row 1 22 (x123.map (encInt .u64))))], 0⟩) (by kernel_rfl)) (And.intro rfl rfl))
            · rcases o214 with rr | x182
              · skip
                rintro e s ⟨rfl, hfl, hres⟩
                obtain rfl := Option.some.inj H
                exact Exists.intro _ (And.intro (fun _ _ h => h) (And.intro (.inl rfl) (And.intro hfl hres)))
              · skip
                rintro e s ⟨rfl, rfl⟩
                refine AWp.seq ?_
                obtain ⟨t206, e207, H⟩ := bind_of H
                refine reg hP hn hm [(1, .call [] [] [29] [] 0 (.tup [iV .u64 t206.1, iV .i64 t206.2]) [])] [1, 7, 8] [28] ⟨[(1, .ptr 28 0 0), (7, iV .u64 t206.1), (8, iV .i64 t206.2)], [(28, some (.box 25 (aHist a0)))], 0⟩ [Enters Try.prog 47, Pv.Fn Try.prog 47 [.im (.row (x182.map (encInt .u64)))] [] 0 (fun r o => r = .tup [iV .u64 t206.1, iV .i64 t206.2] ∧ o = [])] (by kernel_rfl) ⟨by exact Try.call47, by exact f_pluvialref01_Add.ok x182 t206 e207, trivial⟩ ?_
                refine AWp.seq ?_
                refine AWp.seq ?_
                refine reg hP hn hm [] [1, 7, 113] [28] ⟨[(1, .ptr 28 0 0), (7, iV .u64 t206.1), (113, bV (t206.2 != (0 : Int)))], [(28, some (.box 25 (aHist a0)))], 0⟩ [] (by kernel_rfl) trivial ?_
                refine AWp.cond (t206.2 != (0 : Int)) rfl (fun c208 => ?_) (fun c208 => ?_)
                · replace H := (ifT c208).symm.trans H
                  refine AWp.seq ?_
                  refine reg hP hn hm [] [2] [] ⟨[(2, iV .i64 5)], [], 0⟩ [] (by kernel_rfl) trivial ?_
                  refine AWp.conv (inv := []) (vk := []) (e0 := []) (t := ⟨[(2, iV .i64 5)], [], 0⟩) (by kernel_rfl) ?_
                  refine AWp.ret ?_
                  obtain rfl := Option.some.inj H
                  exact Exists.intro _ (And.intro (fun _ _ h => h) (And.intro (.inl rfl) (And.intro rfl (And.intro (by kernel_rfl) (by kernel_rfl)))))
                · replace H := (ifF c208).symm.trans H
                  refine AWp.skip ?_
                  refine AWp.seq ?_
                  refine AWp.seq ?_
                  refine reg hP hn hm [] [117] [] ⟨[(117, bV (t206.1 != a0.f4))], [], 0⟩ [] (by kernel_rfl) trivial ?_
                  refine AWp.cond (t206.1 != a0.f4) rfl (fun c209 => ?_) (fun c209 => ?_)
                  · replace H := (ifT c209).symm.trans H
                    refine AWp.seq ?_
                    refine reg hP hn hm [] [2] [] ⟨[(2, iV .i64 21)], [], 0⟩ [] (by kernel_rfl) trivial ?_
                    refine AWp.conv (inv := []) (vk := []) (e0 := []) (t := ⟨[(2, iV .i64 21)], [], 0⟩) (by kernel_rfl) ?_
                    refine AWp.ret ?_
                    obtain rfl := Option.some.inj H
                    exact Exists.intro _ (And.intro (fun _ _ h => h) (And.intro (.inl rfl) (And.intro rfl (And.intro (by kernel_rfl) (by kernel_rfl)))))
                  · replace H := (ifF c209).symm.trans H
                    refine AWp.skip ?_
                    refine AWp.seq ?_
                    refine reg hP hn hm [] [2] [] ⟨[(2, iV .i64 0)], [], 0⟩ [] (by kernel_rfl) trivial ?_
                    refine AWp.conv (inv := []) (vk := []) (e0 := []) (t := ⟨[(2, iV .i64 0)], [], 0⟩) (by kernel_rfl) ?_
                    refine AWp.ret ?_
                    obtain rfl := Option.some.inj H
                    exact Exists.intro _ (And.intro (fun _ _ h => h) (And.intro (.inl rfl) (And.intro rfl (And.intro (by kernel_rfl) (by kernel_rfl)))))
def f_pluviallaw07_right.l0 (a0 : List THist) (x230 : Int) : Option (Bool ⊕ Unit) := if (decide (x230 < (a0.length : Int))) = true then ((at? a0 x230) >>= fun b235 => ((if (decide ((b235.f6.length : Int) > (100 : Int))) = true then (some true) else (if (decide ((b235.f7.length : Int) > (100 : Int))) = true then (some true) else ((f_pluvialref05_Check.f b235) >>= fun t244 => some (t244 != (0 : Int))))) : Option (Bool)) >>= fun x246 => if x246 = true then (some (.inl false)) else (f_pluviallaw07_right.l0 a0 (IntKind.i64.wrap (x230 + (1 : Int))))) else (some (.inr ()))
partial_fixpoint
def f_pluviallaw07_right.f (a0 : List THist) : Option (Bool) := (f_pluviallaw07_right.l0 a0 0) >>= fun oo => match oo with | .inl rr => (some rr) | .inr _ => (some true)
theorem f_pluviallaw07_right.ok (a0 : List THist) (r : Bool) (H : f_pluviallaw07_right.f a0 = some r) : Pv.Fn Try.prog 10 [.im (.row (a0.map eHist))] [] 0 (fun x o => x = bV r ∧ o = []) := by
  unfold f_pluviallaw07_right.f at H
  refine Fn.bodyK [] Try.func10 rfl rfl (fun Γ hP hn => ?_)
  have hm : Try.prog.follows .mixedOrders = true := by kernel_rfl
  replace hn : Γ.n = 27 := hn
  refine AWp.seq ?_
  refine reg hP hn hm [] [0] [] ⟨[(0, .im (.row (a0.map eHist)))], [], 0⟩ [] (by kernel_rfl) trivial ?_
  refine AWp.seq ?_
  refine AWp.seq ?_
  refine reg hP hn hm [(1, .any (iV .i64 (a0.length : Int)))] [5, 6, 7] [] ⟨[(5, .im (.row (a0.map eHist))), (6, iV .i64 (a0.length : Int)), (7, iV .i64 0)], [], 0⟩ [((a0.map eHist).length : Int) = (a0.length : Int)] (by kernel_rfl) ⟨by rw [len_map], trivial⟩ ?_
  refine AWp.block ?_
  obtain ⟨o248, e249, H⟩ := bind_of H
  refine AWp.loop (LWp.conv (inv := []) (vk := []) (e0 := []) (t := ⟨[(5, .im (.row (a0.map eHist))), (6, iV .i64 (a0.length : Int)), (7, iV .i64 0)], [], 0⟩) (by kernel_rfl) ?_)
  refine LWp.mono (Q := fun e s => (match (generalizing := false) o248 with | .inl rr => e = .ret ∧ s.floor = 0 ∧ resOf Try.prog Try.f10 s = some (bV rr) ∧ ([] : List (Nat × Option MObj)) = [] | .inr _ => e = .exit 0 ∧ s = ⟨[], [], 0⟩)) (LWp.cv (withBody (fun body hbody => ?_))) ?_
  · refine f_pluviallaw07_right.l0.partial_correctness a0 (motive := fun x230 o248 => LWp Γ body (fun e s => ∃ t, Cv Γ s t ∧ (match (generalizing := false) o248 with | .inl rr => e = .ret ∧ t.floor = 0 ∧ resOf Try.prog Try.f10 t = some (bV rr) ∧ ([] : List (Nat × Option MObj)) = [] | .inr _ => e = .exit 0 ∧ t = ⟨[], [], 0⟩)) ⟨[(5, .im (.row (a0.map eHist))), (6, iV .i64 (a0.length : Int)), (7, iV .i64 x230)], [], 0⟩) ?_ _ _ e249
    clear H e249 o248; intro self ih x230 o248 H
    subst hbody
    refine LWp.round ?_
    refine AWp.seq ?_
    refine reg hP hn hm [] [5, 6, 7, 8] [] ⟨[(5, .im (.row (a0.map eHist))), (6, iV .i64 (a0.length : Int)), (7, iV .i64 x230), (8, bV (decide (x230 < (a0.length : Int))))], [], 0⟩ [] (by kernel_rfl) trivial ?_
    refine AWp.seq ?_
    refine AWp.cond (decide (x230 < (a0.length : Int))) rfl (fun c231 => ?_) (fun c231 => ?_)
    · replace H := (ifT c231).symm.trans H
      refine AWp.skip ?_
      refine AWp.seq ?_
      refine AWp.block ?_
      refine AWp.seq ?_
      obtain ⟨b235, p236, q237, H⟩ := at_of H
      refine reg hP hn hm [(0, .c (eHist b235)), (2, .k 1)] [4, 5, 6, 7] [1] ⟨[(4, .ptr 1 0 0), (5, .im (.row (a0.map eHist))), (6, iV .i64 (a0.length : Int)), (7, iV .i64 x230)], [(1, some (.box 25 (aHist b235)))], 0⟩ [0 ≤ x230, (a0.map eHist)[(Int.toNat (x230))]? = some (eHist b235)] (by kernel_rfl) ⟨by exact p236, by exact el_map eHist q237, trivial⟩ ?_
      refine AWp.seq ?_
      obtain ⟨o250, e251, H⟩ := bind_of H
      refine AWp.mono (Q := fun e s => (match (generalizing := false) o250 with | x246 => e = .normal ∧ s = ⟨[(5, .im (.row (a0.map eHist))), (6, iV .i64 (a0.length : Int)), (7, iV .i64 x230), (25, bV x246)], [], 0⟩)) (AWp.cv ?_) ?_
      · replace H := e251; clear e251
        rcases Bool.eq_false_or_eq_true (decide ((b235.f6.length : Int) > (100 : Int))) with c242 | c242
        · replace H := (ifT c242).symm.trans H
          refine reg hP hn hm [(2, .any (iV .i64 (b235.f6.length : Int))), (4, .b true)] [5, 6, 7, 25] [] ⟨[(5, .im (.row (a0.map eHist))), (6, iV .i64 (a0.length : Int)), (7, iV .i64 x230), (25, bV true)], [], 0⟩ [((b235.f6.map eBucket).length : Int) = (b235.f6.length : Int), (decide ((b235.f6.length : Int) > (100 : Int))) = true] (by kernel_rfl) ⟨by rw [len_map], by exact c242, trivial⟩ ?_
          obtain rfl := Option.some.inj H
          exact Exists.intro _ (And.intro (fun _ _ h => h.conv (inv := []) (vk := []) (e0 := []) (t := ⟨[(5, .im (.row (a0.map eHist))), (6, iV .i64 (a0.length : Int)), (7, iV .i64 x230), (25, bV true)], [], 0⟩) (by kernel_rfl)) (And.intro rfl rfl))
        · replace H := (ifF c242).symm.trans H
          rcases Bool.eq_false_or_eq_true (decide ((b235.f7.length : Int) > (100 : Int))) with c243 | c243
          · replace H := (ifT c243).symm.trans H
            refine reg hP hn hm [(2, .any (iV .i64 (b235.f6.length : Int))), (4, .b false), (7, .any (iV .i64 (b235.f7.length : Int))), (10, .b true)] [5, 6, 7, 16, 17, 18, 19, 25] [1] ⟨[(5, .im (.row (a0.map eHist))), (6, iV .i64 (a0.length : Int)), (7, iV .i64 x230), (16, .ptr 1 0 7), (17, .im (.row (b235.f7.map eBucket))), (18, iV .i64 (b235.f7.length : Int)), (19, bV (decide ((b235.f7.length : Int) > (100 : Int)))), (25, bV true)], [(1, some (.box 25 (aHist b235)))], 0⟩ [((b235.f6.map eBucket).length : Int) = (b235.f6.length : Int), (decide ((b235.f6.length : Int) > (100 : Int))) = false, ((b235.f7.map eBucket).length : Int) = (b235.f7.length : Int), (decide ((b235.f7.length : Int) > (100 : Int))) = true] (by kernel_rfl) ⟨by rw [len_map], by exact c242, by rw [len_map], by exact c243, trivial⟩ ?_
            obtain rfl := Option.some.inj H
            exact Exists.intro _ (And.intro (fun _ _ h => h.conv (inv := []) (vk := []) (e0 := []) (t := ⟨[(5, .im (.row (a0.map eHist))), (6, iV .i64 (a0.length : Int)), (7, iV .i64 x230), (25, bV true)], [], 0⟩) (by kernel_rfl)) (And.intro rfl rfl))
          · replace H := (ifF c243).symm.trans H
            obtain ⟨t244, e245, H⟩ := bind_of H
            refine reg hP hn hm [(2, .any (iV .i64 (b235.f6.length : Int))), (4, .b false), (7, .any (iV .i64 (b235.f7.length : Int))), (10, .b false), (12, .call [] [] [] [] 0 (iV .i64 t244) [])] [5, 6, 7, 16, 17, 18, 19, 22, 23, 24, 25] [1] ⟨[(5, .im (.row (a0.map eHist))), (6, iV .i64 (a0.length : Int)), (7, iV .i64 x230), (16, .ptr 1 0 7), (17, .im (.row (b235.f7.map eBucket))), (18, iV .i64 (b235.f7.length : Int)), (19, bV (decide ((b235.f7.length : Int) > (100 : Int)))), (22, .agg (aHist b235)), (23, iV .i64 t244), (24, bV (t244 != (0 : Int))), (25, bV (t244 != (0 : Int)))], [(1, some (.box 25 (aHist b235)))], 0⟩ [((b235.f6.map eBucket).length : Int) = (b235.f6.length : Int), (decide ((b235.f6.length : Int) > (100 : Int))) = false, ((b235.f7.map eBucket).length : Int) = (b235.f7.length : Int), (decide ((b235.f7.length : Int) > (100 : Int))) = false, Enters Try.prog 32, Pv.Fn Try.prog 32 [.agg (aHist b235)] [] 0 (fun r o => r = iV .i64 t244 ∧ o = [])] (by kernel_rfl) ⟨by rw [len_map], by exact c242, by rw [len_map], by exact c243, by exact Try.call32, by exact f_pluvialref05_Check.ok b235 t244 e245, trivial⟩ ?_
            obtain rfl := Option.some.inj H
            exact Exists.intro _ (And.intro (fun _ _ h => h.conv (inv := []) (vk := []) (e0 := []) (t := ⟨[(5, .im (.row (a0.map eHist))), (6, iV .i64 (a0.length : Int)), (7, iV .i64 x230), (25, bV (t244 != (0 : Int)))], [], 0⟩) (by kernel_rfl)) (And.intro rfl rfl))
      · obtain ⟨x246, rfl⟩ : ∃ z, z = o250 := ⟨_, rfl⟩
        rintro e s ⟨rfl, rfl⟩
        refine AWp.cond x246 rfl (fun c247 => ?_) (fun c247 => ?_)
        · replace H := (ifT c247).symm.trans H
          refine AWp.seq ?_
          refine reg hP hn hm [] [2] [] ⟨[(2, bV false)], [], 0⟩ [] (by kernel_rfl) trivial ?_
          refine AWp.conv (inv := []) (vk := []) (e0 := []) (t := ⟨[(2, bV false)], [], 0⟩) (by kernel_rfl) ?_
          refine AWp.ret ?_
          obtain rfl := Option.some.inj H
          exact Exists.intro _ (And.intro (fun _ _ h => h) (And.intro rfl (And.intro rfl (And.intro (by kernel_rfl) (by kernel_rfl)))))
        · replace H := (ifF c247).symm.trans H
          refine AWp.skip ?_
          refine reg hP hn hm [] [5, 6, 7] [] ⟨[(5, .im (.row (a0.map eHist))), (6, iV .i64 (a0.length : Int)), (7, iV .i64 (IntKind.i64.wrap (x230 + (1 : Int))))], [], 0⟩ [] (by kernel_rfl) trivial ?_
          exact LWp.conv (inv := []) (vk := []) (e0 := []) (t := ⟨[(5, .im (.row (a0.map eHist))), (6, iV .i64 (a0.length : Int)), (7, iV .i64 (IntKind.i64.wrap (x230 + (1 : Int))))], [], 0⟩) (by kernel_rfl) (ih _ _ H)
    · replace H := (ifF c231).symm.trans H
      refine AWp.exit ?_
      obtain rfl := Option.some.inj H
      exact Exists.intro _ (And.intro (fun _ _ h => h.conv (inv := []) (vk := []) (e0 := []) (t := ⟨[], [], 0⟩) (by kernel_rfl)) (And.intro rfl rfl))
  · rcases o248 with rr | _
    · skip
      rintro e s ⟨rfl, hfl, hres⟩
      obtain rfl := Option.some.inj H
      exact Exists.intro _ (And.intro (fun _ _ h => h) (And.intro (.inl rfl) (And.intro hfl hres)))
    · skip
      rintro e s ⟨rfl, rfl⟩
      refine AWp.seq ?_
      refine reg hP hn hm [] [2] [] ⟨[(2, bV true)], [], 0⟩ [] (by kernel_rfl) trivial ?_
      refine AWp.conv (inv := []) (vk := []) (e0 := []) (t := ⟨[(2, bV true)], [], 0⟩) (by kernel_rfl) ?_
      refine AWp.ret ?_
      obtain rfl := Option.some.inj H
      exact Exists.intro _ (And.intro (fun _ _ h => h) (And.intro (.inl rfl) (And.intro rfl (And.intro (by kernel_rfl) (by kernel_rfl)))))
def f_hist_Empty.f (a0 : Int) (a1 : Int) : Option (THist) := some (⟨a0, a1, (-524288), 0, 0, 0, [], []⟩ : THist)
theorem f_hist_Empty.ok (a0 : Int) (a1 : Int) (r : THist) (H : f_hist_Empty.f a0 a1 = some r) : Pv.Fn Try.prog 31 [iV .i64 a0, iV .i64 a1] [] 0 (fun x o => x = .agg (aHist (r)) ∧ o = []) := by
  unfold f_hist_Empty.f at H
  refine Fn.bodyK [] Try.func31 rfl rfl (fun Γ hP hn => ?_)
  have hm : Try.prog.follows .mixedOrders = true := by kernel_rfl
  replace hn : Γ.n = 8 := hn
  refine AWp.seq ?_
  refine reg hP hn hm [(0, .k 0)] [0, 1, 4] [0] ⟨[(0, iV .i64 a0), (1, iV .i64 a1), (4, .ptr 0 0 0)], [(0, some (.box 25 [iV .i64 0, iV .i64 0, iV .i64 0, iV .u64 0, iV .u64 0, iV .i64 0, .none0, .none0]))], 0⟩ [] (by kernel_rfl) trivial ?_
  refine AWp.seq ?_
  refine reg hP hn hm [] [4] [0] ⟨[(4, .ptr 0 0 0)], [(0, some (.box 25 [iV .i64 a0, iV .i64 a1, iV .i64 (-524288), iV .u64 0, iV .u64 0, iV .i64 0, .none0, .none0]))], 0⟩ [] (by kernel_rfl) trivial ?_
  refine AWp.conv (inv := [(0, 0)]) (vk := []) (e0 := []) (t := ⟨[(4, .ptr 0 0 0)], [(0, some (.box 25 (aHist ((⟨a0, a1, (-524288), 0, 0, 0, [], []⟩ : THist)))))], 0⟩) (by kernel_rfl) ?_
  refine AWp.ret ?_
  obtain rfl := Option.some.inj H
  exact Exists.intro _ (And.intro (fun _ _ h => h) (And.intro (.inl rfl) (And.intro rfl (And.intro (by kernel_rfl) (by kernel_rfl)))))
def f_slices_Clone_api_Bucket.f (a0 : List TBucket) : Option (List TBucket) := (chk ((([] : List TBucket).length + a0.length) * 16 ≤ 140737488355328)) >>= fun _ => some a0
theorem f_slices_Clone_api_Bucket.ok (a0 r : List TBucket) (H : f_slices_Clone_api_Bucket.f a0 = some r) : Pv.Fn Try.prog 53 [.im (.row (a0.map eBucket))] [] 0 (fun x o => x = .own 0 ∧ o = [(0, some (.row 2 54 (r.map eBucket)))]) := by
  unfold f_slices_Clone_api_Bucket.f at H
  obtain ⟨c1, H⟩ := chk_of H
  obtain rfl := Option.some.inj H
  refine Fn.bodyK [0] Try.func53 rfl rfl (fun Γ hP hn => ?_)
  have hm : Try.prog.follows .mixedOrders = true := by kernel_rfl
  replace hn : Γ.n = 8 := hn
  refine AWp.seq ?_
  refine reg hP hn hm [] [0, 2] [] ⟨[(0, .im (.row (a0.map eBucket))), (2, .none0)], [], 0⟩ [] (by kernel_rfl) trivial ?_
  refine AWp.seq ?_
  cases a0 with
  | nil =>
    refine AWp.nilSplit 0 rfl (fun b m => ?_)
    refine AWp.seq ?_
    cases b with
    | none =>
      refine reg hP hn hm [(1, .more xNil)] [2, 4] [] ⟨[(2, .none0), (4, bV true)], [], 0⟩ [] (by kernel_rfl) trivial ?_
      refine AWp.cond true rfl (fun _ => ?_) (fun h => nomatch h)
      refine AWp.seq ?_
      refine reg hP hn hm [] [2] [] ⟨[(2, .none0)], [], 0⟩ [] (by kernel_rfl) trivial ?_
      refine AWp.conv (inv := []) (vk := []) (e0 := [0]) (t := ⟨[(2, .own 0)], [(0, some (.row 2 54 []))], 0⟩) (by kernel_rfl) ?_
      refine AWp.ret ?_
      exact Exists.intro _ (And.intro (fun _ _ h => h) (And.intro (.inl rfl) (And.intro rfl (And.intro (by kernel_rfl) (by kernel_rfl)))))
    | some b =>
      refine reg hP hn hm [(1, .more xNil)] [0, 2, 4] [] ⟨[(0, .im (.sc (.slice (some b) 0 m))), (2, .none0), (4, bV false)], [], 0⟩ [] (by kernel_rfl) trivial ?_
      refine AWp.cond false rfl (fun h => nomatch h) (fun _ => ?_)
      refine AWp.skip ?_
      refine AWp.unsplit 0 rfl ?_
      refine AWp.seq ?_
      refine reg hP hn hm [(0, .app 0 ([] : List (List Im))), (2, .app 1 (([] : List TBucket).map eBucket))] [2] [1] ⟨[(2, .own 1)], [(1, some (.row 2 54 (([] : List TBucket).map eBucket)))], 0⟩ [([] : List (List Im)) = [], ([] : List TBucket).map eBucket = ([] : List (List Im)) ++ ([] : List TBucket).map eBucket, ∀ c ∈ ([] : List TBucket).map eBucket, c.length = 2, ∀ c ∈ ([] : List TBucket).map eBucket, leaves (c.map .im) = true, (([] : List (List Im)).length + (([] : List TBucket).map eBucket).length) * 16 ≤ 140737488355328] (by kernel_rfl) ⟨rfl, by simp, by exact all_len _ _ _ (fun _ => rfl), by exact all_leaf _ _ (fun _ => rfl), by simpa using c1, trivial⟩ ?_
      refine AWp.conv (inv := [(1, 0)]) (vk := []) (e0 := []) (t := ⟨[(2, .own 0)], [(0, some (.row 2 54 (([] : List TBucket).map eBucket)))], 0⟩) (by kernel_rfl) ?_
      refine AWp.ret ?_
      exact Exists.intro _ (And.intro (fun _ _ h => h) (And.intro (.inl rfl) (And.intro rfl (And.intro (by kernel_rfl) (by kernel_rfl)))))
  | cons y l =>
    refine AWp.seq ?_
    refine reg hP hn hm [(1, .more xNil)] [0, 2, 4] [] ⟨[(0, .im (.row ((y :: l).map eBucket))), (2, .none0), (4, bV false)], [], 0⟩ [] (by kernel_rfl) trivial ?_
    refine AWp.cond false rfl (fun h => nomatch h) (fun _ => ?_)
    refine AWp.skip ?_
    refine AWp.seq ?_
    refine reg hP hn hm [(0, .app 0 ([] : List (List Im))), (2, .app 1 ((y :: l).map eBucket))] [2] [1] ⟨[(2, .own 1)], [(1, some (.row 2 54 ((y :: l).map eBucket)))], 0⟩ [([] : List (List Im)) = [], (y :: l).map eBucket = ([] : List (List Im)) ++ (y :: l).map eBucket, ∀ c ∈ (y :: l).map eBucket, c.length = 2, ∀ c ∈ (y :: l).map eBucket, leaves (c.map .im) = true, (([] : List (List Im)).length + ((y :: l).map eBucket).length) * 16 ≤ 140737488355328] (by kernel_rfl) ⟨rfl, by simp, by exact all_len _ _ _ (fun _ => rfl), by exact all_leaf _ _ (fun _ => rfl), by simpa using c1, trivial⟩ ?_
    refine AWp.conv (inv := [(1, 0)]) (vk := []) (e0 := []) (t := ⟨[(2, .own 0)], [(0, some (.row 2 54 ((y :: l).map eBucket)))], 0⟩) (by kernel_rfl) ?_
    refine AWp.ret ?_
    exact Exists.intro _ (And.intro (fun _ _ h => h) (And.intro (.inl rfl) (And.intro rfl (And.intro (by kernel_rfl) (by kernel_rfl)))))
def f_cmp_isNaN_int.f (a0 : Int) : Option (Unit) := some ()
theorem f_cmp_isNaN_int.ok (a0 : Int) (r : Unit) (H : f_cmp_isNaN_int.f a0 = some r) : Pv.Fn Try.prog 78 [iV .i64 a0] [] 0 (fun x o => x = bV (a0 != a0) ∧ o = []) := by
  unfold f_cmp_isNaN_int.f at H
  refine Fn.bodyK [] Try.func78 rfl rfl (fun Γ hP hn => ?_)
  have hm : Try.prog.follows .mixedOrders = true := by kernel_rfl
  replace hn : Γ.n = 6 := hn
  refine AWp.seq ?_
  refine reg hP hn hm [] [0] [] ⟨[(0, iV .i64 a0)], [], 0⟩ [] (by kernel_rfl) trivial ?_
  refine AWp.seq ?_
  refine reg hP hn hm [] [2] [] ⟨[(2, bV (a0 != a0))], [], 0⟩ [] (by kernel_rfl) trivial ?_
  refine AWp.conv (inv := []) (vk := []) (e0 := []) (t := ⟨[(2, bV (a0 != a0))], [], 0⟩) (by kernel_rfl) ?_
  refine AWp.ret ?_
  obtain rfl := Option.some.inj H
  exact Exists.intro _ (And.intro (fun _ _ h => h) (And.intro (.inl rfl) (And.intro rfl (And.intro (by kernel_rfl) (by kernel_rfl)))))
def f_cmp_Compare_int.f (a0 : Int) (a1 : Int) : Option (Int) := (f_cmp_isNaN_int.f a0) >>= fun t274 => (f_cmp_isNaN_int.f a1) >>= fun t278 => if (a0 != a0) = true then (if (a1 != a1) = true then (some 0) else (some (-1))) else (if (a1 != a1) = true then (some 1) else (if (decide (a0 < a1)) = true then (some (-1)) else (if (decide (a0 > a1)) = true then (some 1) else (some 0))))
theorem f_cmp_Compare_int.ok (a0 : Int) (a1 : Int) (r : Int) (H : f_cmp_Compare_int.f a0 a1 = some r) : Pv.Fn Try.prog 71 [iV .i64 a0, iV .i64 a1] [] 0 (fun x o => x = iV .i64 r ∧ o = []) := by
  unfold f_cmp_Compare_int.f at H
  refine Fn.bodyK [] Try.func71 rfl rfl (fun Γ hP hn => ?_)
  have hm : Try.prog.follows .mixedOrders = true := by kernel_rfl
  replace hn : Γ.n = 20 := hn
  refine AWp.seq ?_
  refine reg hP hn hm [] [0, 1] [] ⟨[(0, iV .i64 a0), (1, iV .i64 a1)], [], 0⟩ [] (by kernel_rfl) trivial ?_
  refine AWp.seq ?_
  obtain ⟨t274, e275, H⟩ := bind_of H
  refine reg hP hn hm [(1, .call [] [] [] [] 0 (bV (a0 != a0)) [])] [0, 1, 5] [] ⟨[(0, iV .i64 a0), (1, iV .i64 a1), (5, bV (a0 != a0))], [], 0⟩ [Enters Try.prog 78, Pv.Fn Try.prog 78 [iV .i64 a0] [] 0 (fun r o => r = bV (a0 != a0) ∧ o = [])] (by kernel_rfl) ⟨by exact Try.call78, by exact f_cmp_isNaN_int.ok a0 t274 e275, trivial⟩ ?_
  refine AWp.seq ?_
  obtain ⟨t278, e279, H⟩ := bind_of H
  refine reg hP hn hm [(1, .call [] [] [] [] 0 (bV (a1 != a1)) [])] [0, 1, 5, 6] [] ⟨[(0, iV .i64 a0), (1, iV .i64 a1), (5, bV (a0 != a0)), (6, bV (a1 != a1))], [], 0⟩ [Enters Try.prog 78, Pv.Fn Try.prog 78 [iV .i64 a1] [] 0 (fun r o => r = bV (a1 != a1) ∧ o = [])] (by kernel_rfl) ⟨by exact Try.call78, by exact f_cmp_isNaN_int.ok a1 t278 e279, trivial⟩ ?_
  refine AWp.seq ?_
  refine AWp.seq ?_
  refine reg hP hn hm [] [0, 1, 6, 11] [] ⟨[(0, iV .i64 a0), (1, iV .i64 a1), (6, bV (a1 != a1)), (11, bV (a0 != a0))], [], 0⟩ [] (by kernel_rfl) trivial ?_
  refine AWp.cond (a0 != a0) rfl (fun c280 => ?_) (fun c280 => ?_)
  · replace H := (ifT c280).symm.trans H
    refine AWp.seq ?_
    refine AWp.seq ?_
    refine reg hP hn hm [] [12] [] ⟨[(12, bV (a1 != a1))], [], 0⟩ [] (by kernel_rfl) trivial ?_
    refine AWp.cond (a1 != a1) rfl (fun c281 => ?_) (fun c281 => ?_)
    · replace H := (ifT c281).symm.trans H
      refine AWp.seq ?_
      refine reg hP hn hm [] [4] [] ⟨[(4, iV .i64 0)], [], 0⟩ [] (by kernel_rfl) trivial ?_
      refine AWp.conv (inv := []) (vk := []) (e0 := []) (t := ⟨[(4, iV .i64 0)], [], 0⟩) (by kernel_rfl) ?_
      refine AWp.ret ?_
      obtain rfl := Option.some.inj H
      exact Exists.intro _ (And.intro (fun _ _ h => h) (And.intro (.inl rfl) (And.intro rfl (And.intro (by kernel_rfl) (by kernel_rfl)))))
    · replace H := (ifF c281).symm.trans H
      refine AWp.skip ?_
      refine AWp.seq ?_
      refine reg hP hn hm [] [4] [] ⟨[(4, iV .i64 (-1))], [], 0⟩ [] (by kernel_rfl) trivial ?_
      refine AWp.conv (inv := []) (vk := []) (e0 := []) (t := ⟨[(4, iV .i64 (-1))], [], 0⟩) (by kernel_rfl) ?_
      refine AWp.ret ?_
      obtain rfl := Option.some.inj H
      exact Exists.intro _ (And.intro (fun _ _ h => h) (And.intro (.inl rfl) (And.intro rfl (And.intro (by kernel_rfl) (by kernel_rfl)))))
  · replace H := (ifF c280).symm.trans H
    refine AWp.skip ?_
    refine AWp.seq ?_
    refine AWp.seq ?_
    refine reg hP hn hm [] [0, 1, 13] [] ⟨[(0, iV .i64 a0), (1, iV .i64 a1), (13, bV (a1 != a1))], [], 0⟩ [] (by kernel_rfl) trivial ?_
    refine AWp.cond (a1 != a1) rfl (fun c282 => ?_) (fun c282 => ?_)
    · replace H := (ifT c282).symm.trans H
      refine AWp.seq ?_
      refine reg hP hn hm [] [4] [] ⟨[(4, iV .i64 1)], [], 0⟩ [] (by kernel_rfl) trivial ?_
      refine AWp.conv (inv := []) (vk := []) (e0 := []) (t := ⟨[(4, iV .i64 1)], [], 0⟩) (by kernel_rfl) ?_
      refine AWp.ret ?_
      obtain rfl := Option.some.inj H
      exact Exists.intro _ (And.intro (fun _ _ h => h) (And.intro (.inl rfl) (And.intro rfl (And.intro (by kernel_rfl) (by kernel_rfl)))))
    · replace H := (ifF c282).symm.trans H
      refine AWp.skip ?_
      refine AWp.seq ?_
      refine AWp.seq ?_
      refine reg hP hn hm [] [0, 1, 16] [] ⟨[(0, iV .i64 a0), (1, iV .i64 a1), (16, bV (decide (a0 < a1)))], [], 0⟩ [] (by kernel_rfl) trivial ?_
      refine AWp.cond (decide (a0 < a1)) rfl (fun c283 => ?_) (fun c283 => ?_)
      · replace H := (ifT c283).symm.trans H
        refine AWp.seq ?_
        refine reg hP hn hm [] [4] [] ⟨[(4, iV .i64 (-1))], [], 0⟩ [] (by kernel_rfl) trivial ?_
        refine AWp.conv (inv := []) (vk := []) (e0 := []) (t := ⟨[(4, iV .i64 (-1))], [], 0⟩) (by kernel_rfl) ?_
        refine AWp.ret ?_
        obtain rfl := Option.some.inj H
        exact Exists.intro _ (And.intro (fun _ _ h => h) (And.intro (.inl rfl) (And.intro rfl (And.intro (by kernel_rfl) (by kernel_rfl)))))
      · replace H := (ifF c283).symm.trans H
        refine AWp.skip ?_
        refine AWp.seq ?_
        refine AWp.seq ?_
        refine reg hP hn hm [] [19] [] ⟨[(19, bV (decide (a0 > a1)))], [], 0⟩ [] (by kernel_rfl) trivial ?_
        refine AWp.cond (decide (a0 > a1)) rfl (fun c284 => ?_) (fun c284 => ?_)
        · replace H := (ifT c284).symm.trans H
          refine AWp.seq ?_
          refine reg hP hn hm [] [4] [] ⟨[(4, iV .i64 1)], [], 0⟩ [] (by kernel_rfl) trivial ?_
          refine AWp.conv (inv := []) (vk := []) (e0 := []) (t := ⟨[(4, iV .i64 1)], [], 0⟩) (by kernel_rfl) ?_
          refine AWp.ret ?_
          obtain rfl := Option.some.inj H
          exact Exists.intro _ (And.intro (fun _ _ h => h) (And.intro (.inl rfl) (And.intro rfl (And.intro (by kernel_rfl) (by kernel_rfl)))))
        · replace H := (ifF c284).symm.trans H
          refine AWp.skip ?_
          refine AWp.seq ?_
          refine reg hP hn hm [] [4] [] ⟨[(4, iV .i64 0)], [], 0⟩ [] (by kernel_rfl) trivial ?_
          refine AWp.conv (inv := []) (vk := []) (e0 := []) (t := ⟨[(4, iV .i64 0)], [], 0⟩) (by kernel_rfl) ?_
          refine AWp.ret ?_
          obtain rfl := Option.some.inj H
          exact Exists.intro _ (And.intro (fun _ _ h => h) (And.intro (.inl rfl) (And.intro rfl (And.intro (by kernel_rfl) (by kernel_rfl)))))
def f_hist_tidy_1.f (a0 : TBucket) (a1 : TBucket) : Option (Int) := (f_cmp_Compare_int.f a0.f0 a1.f0) >>= fun t287 => some t287
theorem f_hist_tidy_1.ok (a0 : TBucket) (a1 : TBucket) (r : Int) (H : f_hist_tidy_1.f a0 a1 = some r) : Pv.Fn Try.prog 70 [.agg (aBucket a0), .agg (aBucket a1)] [] 0 (fun x o => x = iV .i64 r ∧ o = []) := by
  unfold f_hist_tidy_1.f at H
  refine Fn.bodyK [] Try.func70 rfl rfl (fun Γ hP hn => ?_)
  have hm : Try.prog.follows .mixedOrders = true := by kernel_rfl
  replace hn : Γ.n = 10 := hn
  refine AWp.seq ?_
  refine reg hP hn hm [(0, .k 0), (1, .k 1)] [2, 3] [0, 1] ⟨[(2, .ptr 0 0 0), (3, .ptr 1 0 0)], [(0, some (.box 54 (aBucket a0))), (1, some (.box 54 (aBucket a1)))], 0⟩ [] (by kernel_rfl) trivial ?_
  refine AWp.seq ?_
  obtain ⟨t287, e288, H⟩ := bind_of H
  refine reg hP hn hm [(4, .call [] [] [] [] 0 (iV .i64 t287) [])] [4] [] ⟨[(4, iV .i64 t287)], [], 0⟩ [Enters Try.prog 71, Pv.Fn Try.prog 71 [iV .i64 a0.f0, iV .i64 a1.f0] [] 0 (fun r o => r = iV .i64 t287 ∧ o = [])] (by kernel_rfl) ⟨by exact Try.call71, by exact f_cmp_Compare_int.ok a0.f0 a1.f0 t287 e288, trivial⟩ ?_
  refine AWp.conv (inv := []) (vk := []) (e0 := []) (t := ⟨[(4, iV .i64 t287)], [], 0⟩) (by kernel_rfl) ?_
  refine AWp.ret ?_
  obtain rfl := Option.some.inj H
  exact Exists.intro _ (And.intro (fun _ _ h => h) (And.intro (.inl rfl) (And.intro rfl (And.intro (by kernel_rfl) (by kernel_rfl)))))
def f_slices_insertionSortCmpFunc_api_Bucket_hist_tidy_1.l1 (a1 : Int) (a2 : Int) (x362 : Int) (x402 : List TBucket) (x403 : Int) : Option (List TBucket) := ((if (decide (x403 > a1)) = true then ((at? x402 x403) >>= fun b414 => (at? x402 (IntKind.i64.wrap (x403 - (1 : Int)))) >>= fun b417 => (f_hist_tidy_1.f b414 b417) >>= fun t420 => some (decide (t420 < (0 : Int)))) else (some false)) : Option (Bool)) >>= fun x422 => if x422 = true then ((at? x402 (IntKind.i64.wrap (x403 - (1 : Int)))) >>= fun b433 => (at? x402 x403) >>= fun b436 => (at? (x402.set (Int.toNat (x403)) b433) (IntKind.i64.wrap (x403 - (1 : Int)))) >>= fun b439 => f_slices_insertionSortCmpFunc_api_Bucket_hist_tidy_1.l1 a1 a2 x362 ((x402.set (Int.toNat (x403)) b433).set (Int.toNat (IntKind.i64.wrap (x403 - (1 : Int)))) b436) (IntKind.i64.wrap (x403 - (1 : Int)))) else (some x402)
partial_fixpoint
def f_slices_insertionSortCmpFunc_api_Bucket_hist_tidy_1.l0 (a1 : Int) (a2 : Int) (x361 : List TBucket) (x362 : Int) : Option (List TBucket) := if (decide (x362 < a2)) = true then ((f_slices_insertionSortCmpFunc_api_Bucket_hist_tidy_1.l1 a1 a2 x362 x361 x362) >>= fun x442 => f_slices_insertionSortCmpFunc_api_Bucket_hist_tidy_1.l0 a1 a2 x442 (IntKind.i64.wrap (x362 + (1 : Int)))) else (some x361)
partial_fixpoint
def f_slices_insertionSortCmpFunc_api_Bucket_hist_tidy_1.f (a0 : List TBucket) (a1 : Int) (a2 : Int) : Option (List TBucket) := (f_slices_insertionSortCmpFunc_api_Bucket_hist_tidy_1.l0 a1 a2 a0 (IntKind.i64.wrap (a1 + (1 : Int)))) >>= fun x443 => some x443
theorem f_slices_insertionSortCmpFunc_api_Bucket_hist_tidy_1.ok (a0 : List TBucket) (a1 : Int) (a2 : Int) (r : List TBucket) (H : f_slices_insertionSortCmpFunc_api_Bucket_hist_tidy_1.f a0 a1 a2 = some r) : Pv.Fn Try.prog 79 [.own 0, iV .i64 a1, iV .i64 a2, .im (.sc (.func (.func 70) #[] #[]))] [(0, some (.row 2 54 (a0.map eBucket)))] 1 (fun x o => x = .tup [] ∧ o = [(0, some (.row 2 54 (r.map eBucket)))]) := by
  unfold f_slices_insertionSortCmpFunc_api_Bucket_hist_tidy_1.f at H
  refine Fn.bodyK [0] Try.func79 rfl rfl (fun Γ hP hn => ?_)
  have hm : Try.prog.follows .mixedOrders = true := by kernel_rfl
  replace hn : Γ.n = 53 := hn
  refine AWp.seq ?_
  refine reg hP hn hm [] [0, 1, 2, 3, 8] [0] ⟨[(0, .own 0), (1, iV .i64 a1), (2, iV .i64 a2), (3, .im (.sc (.func (.func 70) #[] #[]))), (8, iV .i64 (IntKind.i64.wrap (a1 + (1 : Int))))], [(0, some (.row 2 54 (a0.map eBucket)))], 1⟩ [] (by kernel_rfl) trivial ?_
  refine AWp.block ?_
  obtain ⟨o444, e445, H⟩ := bind_of H
  refine AWp.loop (LWp.conv (inv := [(0, 0)]) (vk := []) (e0 := []) (t := ⟨[(0, .own 0), (1, iV .i64 a1), (2, iV .i64 a2), (3, .im (.sc (.func (.func 70) #[] #[]))), (8, iV .i64 (IntKind.i64.wrap (a1 + (1 : Int))))], [(0, some (.row 2 54 (a0.map eBucket)))], 1⟩) (by kernel_rfl) ?_)
  refine LWp.mono (Q := fun e s => (match (generalizing := false) o444 with | x443 => e = .exit 0 ∧ s = ⟨[], [(0, some (.row 2 54 (x443.map eBucket)))], 1⟩)) (LWp.cv (withBody (fun body hbody => ?_))) ?_
  · refine f_slices_insertionSortCmpFunc_api_Bucket_hist_tidy_1.l0.partial_correctness a1 a2 (motive := fun x361 x362 o444 => LWp Γ body (fun e s => ∃ t, Cv Γ s t ∧ (match (generalizing := false) o444 with | x443 => e = .exit 0 ∧ t = ⟨[], [(0, some (.row 2 54 (x443.map eBucket)))], 1⟩)) ⟨[(0, .own 0), (1, iV .i64 a1), (2, iV .i64 a2), (3, .im (.sc (.func (.func 70) #[] #[]))), (8, iV .i64 x362)], [(0, some (.row 2 54 (x361.map eBucket)))], 1⟩) ?_ _ _ _ e445
    clear H e445 o444; intro self ih x361 x362 o444 H
    subst hbody
    refine LWp.round ?_
    refine AWp.seq ?_
    refine AWp.seq ?_
    refine reg hP hn hm [] [0, 1, 2, 3, 8, 14] [0] ⟨[(0, .own 0), (1, iV .i64 a1), (2, iV .i64 a2), (3, .im (.sc (.func (.func 70) #[] #[]))), (8, iV .i64 x362), (14, bV (decide (x362 < a2)))], [(0, some (.row 2 54 (x361.map eBucket)))], 1⟩ [] (by kernel_rfl) trivial ?_
    refine AWp.cond (decide (x362 < a2)) rfl (fun c363 => ?_) (fun c363 => ?_)
    · replace H := (ifT c363).symm.trans H
      refine AWp.skip ?_
      refine AWp.seq ?_
      refine AWp.block ?_
      refine AWp.seq ?_
      refine reg hP hn hm [] [0, 1, 2, 3, 8, 9] [0] ⟨[(0, .own 0), (1, iV .i64 a1), (2, iV .i64 a2), (3, .im (.sc (.func (.func 70) #[] #[]))), (8, iV .i64 x362), (9, iV .i64 x362)], [(0, some (.row 2 54 (x361.map eBucket)))], 1⟩ [] (by kernel_rfl) trivial ?_
      refine AWp.block ?_
      obtain ⟨o446, e447, H⟩ := bind_of H
      refine AWp.loop (LWp.conv (inv := [(0, 0)]) (vk := []) (e0 := []) (t := ⟨[(0, .own 0), (1, iV .i64 a1), (2, iV .i64 a2), (3, .im (.sc (.func (.func 70) #[] #[]))), (8, iV .i64 x362), (9, iV .i64 x362)], [(0, some (.row 2 54 (x361.map eBucket)))], 1⟩) (by kernel_rfl) ?_)
      refine LWp.mono (Q := fun e s => (match (generalizing := false) o446 with | x442 => e = .exit 2 ∧ s = ⟨[(0, .own 0), (1, iV .i64 a1), (2, iV .i64 a2), (3, .im (.sc (.func (.func 70) #[] #[]))), (8, iV .i64 x362)], [(0, some (.row 2 54 (x442.map eBucket)))], 1⟩)) (LWp.cv (withBody (fun body hbody => ?_))) ?_
      · refine f_slices_insertionSortCmpFunc_api_Bucket_hist_tidy_1.l1.partial_correctness a1 a2 x362 (motive := fun x402 x403 o446 => LWp Γ body (fun e s => ∃ t, Cv Γ s t ∧ (match (generalizing := false) o446 with | x442 => e = .exit 2 ∧ t = ⟨[(0, .own 0), (1, iV .i64 a1), (2, iV .i64 a2), (3, .im (.sc (.func (.func 70) #[] #[]))), (8, iV .i64 x362)], [(0, some (.row 2 54 (x442.map eBucket)))], 1⟩)) ⟨[(0, .own 0), (1, iV .i64 a1), (2, iV .i64 a2), (3, .im (.sc (.func (.func 70) #[] #[]))), (8, iV .i64 x362), (9, iV .i64 x403)], [(0, some (.row 2 54 (x402.map eBucket)))], 1⟩) ?_ _ _ _ e447
        clear H e447 o446; intro self ih x402 x403 o446 H
        subst hbody
        refine LWp.round ?_
        refine AWp.seq ?_
        refine AWp.seq ?_
        obtain ⟨o448, e449, H⟩ := bind_of H
        refine AWp.mono (Q := fun e s => (match (generalizing := false) o448 with | x422 => e = .normal ∧ s = ⟨[(0, .own 0), (1, iV .i64 a1), (2, iV .i64 a2), (3, .im (.sc (.func (.func 70) #[] #[]))), (8, iV .i64 x362), (9, iV .i64 x403), (34, bV x422)], [(0, some (.row 2 54 (x402.map eBucket)))], 1⟩)) (AWp.cv ?_) ?_
        · replace H := e449; clear e449
          rcases Bool.eq_false_or_eq_true (decide (x403 > a1)) with c413 | c413
          · replace H := (ifT c413).symm.trans H
            obtain ⟨b414, p415, q416, H⟩ := at_of H
            obtain ⟨b417, p418, q419, H⟩ := at_of H
            obtain ⟨t420, e421, H⟩ := bind_of H
            refine reg hP hn hm [(3, .b true), (8, .c (eBucket b414)), (13, .c (eBucket b417)), (14, .call [] [] [] [] 0 (iV .i64 t420) [])] [0, 1, 2, 3, 8, 9, 22, 23, 24, 25, 26, 27, 28, 29, 30, 31, 32, 33, 34] [0] ⟨[(0, .own 0), (1, iV .i64 a1), (2, iV .i64 a2), (3, .im (.sc (.func (.func 70) #[] #[]))), (8, iV .i64 x362), (9, iV .i64 x403), (22, .im (.sc (.func (.func 70) #[] #[]))), (23, .own 0), (24, iV .i64 x403), (25, .ptr 0 (Int.toNat (x403)) 0), (26, .agg (aBucket b414)), (27, .own 0), (28, iV .i64 x403), (29, iV .i64 (IntKind.i64.wrap (x403 - (1 : Int)))), (30, .ptr 0 (Int.toNat (IntKind.i64.wrap (x403 - (1 : Int)))) 0), (31, .agg (aBucket b417)), (32, iV .i64 t420), (33, bV (decide (t420 < (0 : Int)))), (34, bV (decide (t420 < (0 : Int))))], [(0, some (.row 2 54 (x402.map eBucket)))], 1⟩ [(decide (x403 > a1)) = true, 0 ≤ x403, x403 < (((x402.map eBucket).length : Nat) : Int), (x402.map eBucket)[(Int.toNat (x403))]? = some (eBucket b414), 0 ≤ (IntKind.i64.wrap (x403 - (1 : Int))), IntKind.i64.wrap (x403 - (1 : Int)) < (((x402.map eBucket).length : Nat) : Int), (x402.map eBucket)[(Int.toNat (IntKind.i64.wrap (x403 - (1 : Int))))]? = some (eBucket b417), Enters Try.prog 70, Pv.Fn Try.prog 70 [.agg (aBucket b414), .agg (aBucket b417)] [] 0 (fun r o => r = iV .i64 t420 ∧ o = [])] (by kernel_rfl) ⟨by exact c413, by exact p415, by exact el_lt eBucket p415 q416, by exact el_map eBucket q416, by exact p418, by exact el_lt eBucket p418 q419, by exact el_map eBucket q419, by exact Try.call70, by exact f_hist_tidy_1.ok b414 b417 t420 e421, trivial⟩ ?_
            obtain rfl := Option.some.inj H
            exact Exists.intro _ (And.intro (fun _ _ h => h.conv (inv := [(0, 0)]) (vk := []) (e0 := []) (t := ⟨[(0, .own 0), (1, iV .i64 a1), (2, iV .i64 a2), (3, .im (.sc (.func (.func 70) #[] #[]))), (8, iV .i64 x362), (9, iV .i64 x403), (34, bV (decide (t420 < (0 : Int))))], [(0, some (.row 2 54 (x402.map eBucket)))], 1⟩) (by kernel_rfl)) (And.intro rfl rfl))
          · replace H := (ifF c413).symm.trans H
            refine reg hP hn hm [(3, .b false)] [0, 1, 2, 3, 8, 9, 34] [0] ⟨[(0, .own 0), (1, iV .i64 a1), (2, iV .i64 a2), (3, .im (.sc (.func (.func 70) #[] #[]))), (8, iV .i64 x362), (9, iV .i64 x403), (34, bV false)], [(0, some (.row 2 54 (x402.map eBucket)))], 1⟩ [(decide (x403 > a1)) = false] (by kernel_rfl) ⟨by exact c413, trivial⟩ ?_
            obtain rfl := Option.some.inj H
            exact Exists.intro _ (And.intro (fun _ _ h => h.conv (inv := [(0, 0)]) (vk := []) (e0 := []) (t := ⟨[(0, .own 0), (1, iV .i64 a1), (2, iV .i64 a2), (3, .im (.sc (.func (.func 70) #[] #[]))), (8, iV .i64 x362), (9, iV .i64 x403), (34, bV false)], [(0, some (.row 2 54 (x402.map eBucket)))], 1⟩) (by kernel_rfl)) (And.intro rfl rfl))
        · obtain ⟨x422, rfl⟩ : ∃ z, z = o448 := ⟨_, rfl⟩
          rintro e s ⟨rfl, rfl⟩
          refine AWp.cond x422 rfl (fun c423 => ?_) (fun c423 => ?_)
          · replace H := (ifT c423).symm.trans H
            refine AWp.skip ?_
            refine AWp.seq ?_
            refine AWp.block ?_
            obtain ⟨b433, p434, q435, H⟩ := at_of H
            obtain ⟨b436, p437, q438, H⟩ := at_of H
            obtain ⟨b439, p440, q441, H⟩ := at_of H
            refine reg hP hn hm [(9, .c (eBucket b433)), (13, .c (eBucket b436)), (15, .put (eBucket b436) ((x402.set (Int.toNat (x403)) b433).map eBucket)), (17, .put (eBucket b439) (((x402.set (Int.toNat (x403)) b433).set (Int.toNat (IntKind.i64.wrap (x403 - (1 : Int)))) b436).map eBucket))] [0, 1, 2, 3, 8, 9] [0] ⟨[(0, .own 0), (1, iV .i64 a1), (2, iV .i64 a2), (3, .im (.sc (.func (.func 70) #[] #[]))), (8, iV .i64 x362), (9, iV .i64 x403)], [(0, some (.row 2 54 (((x402.set (Int.toNat (x403)) b433).set (Int.toNat (IntKind.i64.wrap (x403 - (1 : Int)))) b436).map eBucket)))], 1⟩ [0 ≤ (IntKind.i64.wrap (x403 - (1 : Int))), IntKind.i64.wrap (x403 - (1 : Int)) < (((x402.map eBucket).length : Nat) : Int), (x402.map eBucket)[(Int.toNat (IntKind.i64.wrap (x403 - (1 : Int))))]? = some (eBucket b433), 0 ≤ x403, x403 < (((x402.map eBucket).length : Nat) : Int), (x402.map eBucket)[(Int.toNat (x403))]? = some (eBucket b436), 0 ≤ x403, x403 < (((x402.map eBucket).length : Nat) : Int), (x402.map eBucket)[(Int.toNat (x403))]? = some (eBucket b436), (x402.set (Int.toNat (x403)) b433).map eBucket = (x402.map eBucket).set (Int.toNat (x403)) (splice (eBucket b436) 0 [iI .i64 b433.f0, iI .u64 b433.f1]), 0 ≤ (IntKind.i64.wrap (x403 - (1 : Int))), IntKind.i64.wrap (x403 - (1 : Int)) < ((((x402.set (Int.toNat (x403)) b433).map eBucket).length : Nat) : Int), ((x402.set (Int.toNat (x403)) b433).map eBucket)[(Int.toNat (IntKind.i64.wrap (x403 - (1 : Int))))]? = some (eBucket b439), ((x402.set (Int.toNat (x403)) b433).set (Int.toNat (IntKind.i64.wrap (x403 - (1 : Int)))) b436).map eBucket = ((x402.set (Int.toNat (x403)) b433).map eBucket).set (Int.toNat (IntKind.i64.wrap (x403 - (1 : Int)))) (splice (eBucket b439) 0 [iI .i64 b436.f0, iI .u64 b436.f1])] (by kernel_rfl) ⟨by exact p434, by exact el_lt eBucket p434 q435, by exact el_map eBucket q435, by exact p437, by exact el_lt eBucket p437 q438, by exact el_map eBucket q438, by exact p437, by exact el_lt eBucket p437 q438, by exact el_map eBucket q438, by exact set1 _ _ _ _, by exact p440, by exact el_lt eBucket p440 q441, by exact el_map eBucket q441, by exact set1 _ _ _ _, trivial⟩ ?_
            refine reg hP hn hm [] [0, 1, 2, 3, 8, 9] [0] ⟨[(0, .own 0), (1, iV .i64 a1), (2, iV .i64 a2), (3, .im (.sc (.func (.func 70) #[] #[]))), (8, iV .i64 x362), (9, iV .i64 (IntKind.i64.wrap (x403 - (1 : Int))))], [(0, some (.row 2 54 (((x402.set (Int.toNat (x403)) b433).set (Int.toNat (IntKind.i64.wrap (x403 - (1 : Int)))) b436).map eBucket)))], 1⟩ [] (by kernel_rfl) trivial ?_
            exact LWp.conv (inv := [(0, 0)]) (vk := []) (e0 := []) (t := ⟨[(0, .own 0), (1, iV .i64 a1), (2, iV .i64 a2), (3, .im (.sc (.func (.func 70) #[] #[]))), (8, iV .i64 x362), (9, iV .i64 (IntKind.i64.wrap (x403 - (1 : Int))))], [(0, some (.row 2 54 (((x402.set (Int.toNat (x403)) b433).set (Int.toNat (IntKind.i64.wrap (x403 - (1 : Int)))) b436).map eBucket)))], 1⟩) (by kernel_rfl) (ih _ _ _ H)
          · replace H := (ifF c423).symm.trans H
            refine AWp.exit ?_
            obtain rfl := Option.some.inj H
            exact Exists.intro _ (And.intro (fun _ _ h => h.conv (inv := [(0, 0)]) (vk := []) (e0 := []) (t := ⟨[(0, .own 0), (1, iV .i64 a1), (2, iV .i64 a2), (3, .im (.sc (.func (.func 70) #[] #[]))), (8, iV .i64 x362)], [(0, some (.row 2 54 (x402.map eBucket)))], 1⟩) (by kernel_rfl)) (And.intro rfl rfl))
      · obtain ⟨x442, rfl⟩ : ∃ z, z = o446 := ⟨_, rfl⟩
        rintro e s ⟨rfl, rfl⟩
        refine reg hP hn hm [] [0, 1, 2, 3, 8] [0] ⟨[(0, .own 0), (1, iV .i64 a1), (2, iV .i64 a2), (3, .im (.sc (.func (.func 70) #[] #[]))), (8, iV .i64 (IntKind.i64.wrap (x362 + (1 : Int))))], [(0, some (.row 2 54 (x442.map eBucket)))], 1⟩ [] (by kernel_rfl) trivial ?_
        exact LWp.conv (inv := [(0, 0)]) (vk := []) (e0 := []) (t := ⟨[(0, .own 0), (1, iV .i64 a1), (2, iV .i64 a2), (3, .im (.sc (.func (.func 70) #[] #[]))), (8, iV .i64 (IntKind.i64.wrap (x362 + (1 : Int))))], [(0, some (.row 2 54 (x442.map eBucket)))], 1⟩) (by kernel_rfl) (ih _ _ _ H)
    · replace H := (ifF c363).symm.trans H
      refine AWp.exit ?_
      obtain rfl := Option.some.inj H
      exact Exists.intro _ (And.intro (fun _ _ h => h.conv (inv := [(0, 0)]) (vk := []) (e0 := []) (t := ⟨[], [(0, some (.row 2 54 (x361.map eBucket)))], 1⟩) (by kernel_rfl)) (And.intro rfl rfl))
  · obtain ⟨x443, rfl⟩ : ∃ z, z = o444 := ⟨_, rfl⟩
    rintro e s ⟨rfl, rfl⟩
    obtain rfl := Option.some.inj H
    exact Exists.intro ⟨[], [(0, some (.row 2 54 (x443.map eBucket)))], 1⟩ (And.intro (fun _ _ h => h.conv (inv := [(0, 0)]) (vk := []) (e0 := []) (t := ⟨[], [(0, some (.row 2 54 (x443.map eBucket)))], 1⟩) (by kernel_rfl)) (And.intro (.inr rfl) (And.intro rfl (And.intro (by kernel_rfl) (by kernel_rfl)))))
def f_slices_swapRangeCmpFunc_api_Bucket_hist_tidy_1.l0 (a1 : Int) (a2 : Int) (a3 : Int) (x711 : List TBucket) (x712 : Int) : Option (List TBucket) := if (decide (x712 < a3)) = true then ((at? x711 (IntKind.i64.wrap (a2 + x712))) >>= fun b723 => (at? x711 (IntKind.i64.wrap (a1 + x712))) >>= fun b726 => (at? (x711.set (Int.toNat (IntKind.i64.wrap (a1 + x712))) b723) (IntKind.i64.wrap (a2 + x712))) >>= fun b729 => f_slices_swapRangeCmpFunc_api_Bucket_hist_tidy_1.l0 a1 a2 a3 ((x711.set (Int.toNat (IntKind.i64.wrap (a1 + x712))) b723).set (Int.toNat (IntKind.i64.wrap (a2 + x712))) b726) (IntKind.i64.wrap (x712 + (1 : Int)))) else (some x711)
partial_fixpoint
def f_slices_swapRangeCmpFunc_api_Bucket_hist_tidy_1.f (a0 : List TBucket) (a1 : Int) (a2 : Int) (a3 : Int) : Option (List TBucket) := (f_slices_swapRangeCmpFunc_api_Bucket_hist_tidy_1.l0 a1 a2 a3 a0 0) >>= fun x732 => some x732
theorem f_slices_swapRangeCmpFunc_api_Bucket_hist_tidy_1.ok (a0 : List TBucket) (a1 : Int) (a2 : Int) (a3 : Int) (r : List TBucket) (H : f_slices_swapRangeCmpFunc_api_Bucket_hist_tidy_1.f a0 a1 a2 a3 = some r) : Pv.Fn Try.prog 82 [.own 0, iV .i64 a1, iV .i64 a2, iV .i64 a3, .im (.sc (.func (.func 70) #[] #[]))] [(0, some (.row 2 54 (a0.map eBucket)))] 1 (fun x o => x = .tup [] ∧ o = [(0, some (.row 2 54 (r.map eBucket)))]) := by
  unfold f_slices_swapRangeCmpFunc_api_Bucket_hist_tidy_1.f at H
  refine Fn.bodyK [0] Try.func82 rfl rfl (fun Γ hP hn => ?_)
  have hm : Try.prog.follows .mixedOrders = true := by kernel_rfl
  replace hn : Γ.n = 38 := hn
  refine AWp.seq ?_
  refine reg hP hn hm [] [0, 1, 2, 3, 10] [0] ⟨[(0, .own 0), (1, iV .i64 a1), (2, iV .i64 a2), (3, iV .i64 a3), (10, iV .i64 0)], [(0, some (.row 2 54 (a0.map eBucket)))], 1⟩ [] (by kernel_rfl) trivial ?_
  refine AWp.block ?_
  obtain ⟨o733, e734, H⟩ := bind_of H
  refine AWp.loop (LWp.conv (inv := [(0, 0)]) (vk := []) (e0 := []) (t := ⟨[(0, .own 0), (1, iV .i64 a1), (2, iV .i64 a2), (3, iV .i64 a3), (10, iV .i64 0)], [(0, some (.row 2 54 (a0.map eBucket)))], 1⟩) (by kernel_rfl) ?_)
  refine LWp.mono (Q := fun e s => (match (generalizing := false) o733 with | x732 => e = .exit 0 ∧ s = ⟨[], [(0, some (.row 2 54 (x732.map eBucket)))], 1⟩)) (LWp.cv (withBody (fun body hbody => ?_))) ?_
  · refine f_slices_swapRangeCmpFunc_api_Bucket_hist_tidy_1.l0.partial_correctness a1 a2 a3 (motive := fun x711 x712 o733 => LWp Γ body (fun e s => ∃ t, Cv Γ s t ∧ (match (generalizing := false) o733 with | x732 => e = .exit 0 ∧ t = ⟨[], [(0, some (.row 2 54 (x732.map eBucket)))], 1⟩)) ⟨[(0, .own 0), (1, iV .i64 a1), (2, iV .i64 a2), (3, iV .i64 a3), (10, iV .i64 x712)], [(0, some (.row 2 54 (x711.map eBucket)))], 1⟩) ?_ _ _ _ e734
    clear H e734 o733; intro self ih x711 x712 o733 H
    subst hbody
    refine LWp.round ?_
    refine AWp.seq ?_
    refine AWp.seq ?_
    refine reg hP hn hm [] [0, 1, 2, 3, 10, 13] [0] ⟨[(0, .own 0), (1, iV .i64 a1), (2, iV .i64 a2), (3, iV .i64 a3), (10, iV .i64 x712), (13, bV (decide (x712 < a3)))], [(0, some (.row 2 54 (x711.map eBucket)))], 1⟩ [] (by kernel_rfl) trivial ?_
    refine AWp.cond (decide (x712 < a3)) rfl (fun c713 => ?_) (fun c713 => ?_)
    · replace H := (ifT c713).symm.trans H
      refine AWp.skip ?_
      refine AWp.seq ?_
      refine AWp.block ?_
      obtain ⟨b723, p724, q725, H⟩ := at_of H
      obtain ⟨b726, p727, q728, H⟩ := at_of H
      obtain ⟨b729, p730, q731, H⟩ := at_of H
      refine reg hP hn hm [(13, .c (eBucket b723)), (19, .c (eBucket b726)), (21, .put (eBucket b726) ((x711.set (Int.toNat (IntKind.i64.wrap (a1 + x712))) b723).map eBucket)), (23, .put (eBucket b729) (((x711.set (Int.toNat (IntKind.i64.wrap (a1 + x712))) b723).set (Int.toNat (IntKind.i64.wrap (a2 + x712))) b726).map eBucket))] [0, 1, 2, 3, 10] [0] ⟨[(0, .own 0), (1, iV .i64 a1), (2, iV .i64 a2), (3, iV .i64 a3), (10, iV .i64 x712)], [(0, some (.row 2 54 (((x711.set (Int.toNat (IntKind.i64.wrap (a1 + x712))) b723).set (Int.toNat (IntKind.i64.wrap (a2 + x712))) b726).map eBucket)))], 1⟩ [0 ≤ (IntKind.i64.wrap (a2 + x712)), IntKind.i64.wrap (a2 + x712) < (((x711.map eBucket).length : Nat) : Int), (x711.map eBucket)[(Int.toNat (IntKind.i64.wrap (a2 + x712)))]? = some (eBucket b723), 0 ≤ (IntKind.i64.wrap (a1 + x712)), IntKind.i64.wrap (a1 + x712) < (((x711.map eBucket).length : Nat) : Int), (x711.map eBucket)[(Int.toNat (IntKind.i64.wrap (a1 + x712)))]? = some (eBucket b726), 0 ≤ (IntKind.i64.wrap (a1 + x712)), IntKind.i64.wrap (a1 + x712) < (((x711.map eBucket).length : Nat) : Int), (x711.map eBucket)[(Int.toNat (IntKind.i64.wrap (a1 + x712)))]? = some (eBucket b726), (x711.set (Int.toNat (IntKind.i64.wrap (a1 + x712))) b723).map eBucket = (x711.map eBucket).set (Int.toNat (IntKind.i64.wrap (a1 + x712))) (splice (eBucket b726) 0 [iI .i64 b723.f0, iI .u64 b723.f1]), 0 ≤ (IntKind.i64.wrap (a2 + x712)), IntKind.i64.wrap (a2 + x712) < ((((x711.set (Int.toNat (IntKind.i64.wrap (a1 + x712))) b723).map eBucket).length : Nat) : Int), ((x711.set (Int.toNat (IntKind.i64.wrap (a1 + x712))) b723).map eBucket)[(Int.toNat (IntKind.i64.wrap (a2 + x712)))]? = some (eBucket b729), ((x711.set (Int.toNat (IntKind.i64.wrap (a1 + x712))) b723).set (Int.toNat (IntKind.i64.wrap (a2 + x712))) b726).map eBucket = ((x711.set (Int.toNat (IntKind.i64.wrap (a1 + x712))) b723).map eBucket).set (Int.toNat (IntKind.i64.wrap (a2 + x712))) (splice (eBucket b729) 0 [iI .i64 b726.f0, iI .u64 b726.f1])] (by kernel_rfl) ⟨by exact p724, by exact el_lt eBucket p724 q725, by exact el_map eBucket q725, by exact p727, by exact el_lt eBucket p727 q728, by exact el_map eBucket q728, by exact p727, by exact el_lt eBucket p727 q728, by exact el_map eBucket q728, by exact set1 _ _ _ _, by exact p730, by exact el_lt eBucket p730 q731, by exact el_map eBucket q731, by exact set1 _ _ _ _, trivial⟩ ?_
      refine reg hP hn hm [] [0, 1, 2, 3, 10] [0] ⟨[(0, .own 0), (1, iV .i64 a1), (2, iV .i64 a2), (3, iV .i64 a3), (10, iV .i64 (IntKind.i64.wrap (x712 + (1 : Int))))], [(0, some (.row 2 54 (((x711.set (Int.toNat (IntKind.i64.wrap (a1 + x712))) b723).set (Int.toNat (IntKind.i64.wrap (a2 + x712))) b726).map eBucket)))], 1⟩ [] (by kernel_rfl) trivial ?_
      exact LWp.conv (inv := [(0, 0)]) (vk := []) (e0 := []) (t := ⟨[(0, .own 0), (1, iV .i64 a1), (2, iV .i64 a2), (3, iV .i64 a3), (10, iV .i64 (IntKind.i64.wrap (x712 + (1 : Int))))], [(0, some (.row 2 54 (((x711.set (Int.toNat (IntKind.i64.wrap (a1 + x712))) b723).set (Int.toNat (IntKind.i64.wrap (a2 + x712))) b726).map eBucket)))], 1⟩) (by kernel_rfl) (ih _ _ _ H)
    · replace H := (ifF c713).symm.trans H
      refine AWp.exit ?_
      obtain rfl := Option.some.inj H
      exact Exists.intro _ (And.intro (fun _ _ h => h.conv (inv := [(0, 0)]) (vk := []) (e0 := []) (t := ⟨[], [(0, some (.row 2 54 (x711.map eBucket)))], 1⟩) (by kernel_rfl)) (And.intro rfl rfl))
  · obtain ⟨x732, rfl⟩ : ∃ z, z = o733 := ⟨_, rfl⟩
    rintro e s ⟨rfl, rfl⟩
    obtain rfl := Option.some.inj H
    exact Exists.intro ⟨[], [(0, some (.row 2 54 (x732.map eBucket)))], 1⟩ (And.intro (fun _ _ h => h.conv (inv := [(0, 0)]) (vk := []) (e0 := []) (t := ⟨[], [(0, some (.row 2 54 (x732.map eBucket)))], 1⟩) (by kernel_rfl)) (And.intro (.inr rfl) (And.intro rfl (And.intro (by kernel_rfl) (by kernel_rfl)))))
def f_slices_rotateCmpFunc_api_Bucket_hist_tidy_1.l0 (a2 : Int) (x746 : List TBucket) (x747 : Int) (x748 : Int) : Option ((List TBucket) × Int) := if (x747 != x748) = true then (((if (decide (x747 > x748)) = true then ((f_slices_swapRangeCmpFunc_api_Bucket_hist_tidy_1.f x746 (IntKind.i64.wrap (a2 - x747)) a2 x748) >>= fun t753 => some (t753, IntKind.i64.wrap (x747 - x748), x748)) else ((f_slices_swapRangeCmpFunc_api_Bucket_hist_tidy_1.f x746 (IntKind.i64.wrap (a2 - x747)) (IntKind.i64.wrap ((IntKind.i64.wrap (a2 + x748)) - x747)) x747) >>= fun t757 => some (t757, x747, IntKind.i64.wrap (x748 - x747)))) : Option ((List TBucket) × Int × Int)) >>= fun oo => match oo with | (x759, x760, x761) => (f_slices_rotateCmpFunc_api_Bucket_hist_tidy_1.l0 a2 x759 x760 x761)) else (some (x746, x747))
partial_fixpoint
def f_slices_rotateCmpFunc_api_Bucket_hist_tidy_1.f (a0 : List TBucket) (a1 : Int) (a2 : Int) (a3 : Int) : Option (List TBucket) := (f_slices_rotateCmpFunc_api_Bucket_hist_tidy_1.l0 a2 a0 (IntKind.i64.wrap (a2 - a1)) (IntKind.i64.wrap (a3 - a2))) >>= fun oo => match oo with | (x762, x763) => ((f_slices_swapRangeCmpFunc_api_Bucket_hist_tidy_1.f x762 (IntKind.i64.wrap (a2 - x763)) a2 x763) >>= fun t766 => some t766)
theorem f_slices_rotateCmpFunc_api_Bucket_hist_tidy_1.ok (a0 : List TBucket) (a1 : Int) (a2 : Int) (a3 : Int) (r : List TBucket) (H : f_slices_rotateCmpFunc_api_Bucket_hist_tidy_1.f a0 a1 a2 a3 = some r) : Pv.Fn Try.prog 81 [.own 0, iV .i64 a1, iV .i64 a2, iV .i64 a3, .im (.sc (.func (.func 70) #[] #[]))] [(0, some (.row 2 54 (a0.map eBucket)))] 1 (fun x o => x = .tup [] ∧ o = [(0, some (.row 2 54 (r.map eBucket)))]) := by
  unfold f_slices_rotateCmpFunc_api_Bucket_hist_tidy_1.f at H
  refine Fn.bodyK [0] Try.func81 rfl rfl (fun Γ hP hn => ?_)
  have hm : Try.prog.follows .mixedOrders = true := by kernel_rfl
  replace hn : Γ.n = 58 := hn
  refine AWp.seq ?_
  refine reg hP hn hm [] [0, 2, 3, 4, 10] [0] ⟨[(0, .own 0), (2, iV .i64 a2), (3, iV .i64 a3), (4, .im (.sc (.func (.func 70) #[] #[]))), (10, iV .i64 (IntKind.i64.wrap (a2 - a1)))], [(0, some (.row 2 54 (a0.map eBucket)))], 1⟩ [] (by kernel_rfl) trivial ?_
  refine AWp.seq ?_
  refine reg hP hn hm [] [0, 2, 4, 10, 11] [0] ⟨[(0, .own 0), (2, iV .i64 a2), (4, .im (.sc (.func (.func 70) #[] #[]))), (10, iV .i64 (IntKind.i64.wrap (a2 - a1))), (11, iV .i64 (IntKind.i64.wrap (a3 - a2)))], [(0, some (.row 2 54 (a0.map eBucket)))], 1⟩ [] (by kernel_rfl) trivial ?_
  refine AWp.seq ?_
  refine AWp.block ?_
  obtain ⟨o768, e769, H⟩ := bind_of H
  refine AWp.loop (LWp.conv (inv := [(0, 0)]) (vk := []) (e0 := []) (t := ⟨[(0, .own 0), (2, iV .i64 a2), (4, .im (.sc (.func (.func 70) #[] #[]))), (10, iV .i64 (IntKind.i64.wrap (a2 - a1))), (11, iV .i64 (IntKind.i64.wrap (a3 - a2)))], [(0, some (.row 2 54 (a0.map eBucket)))], 1⟩) (by kernel_rfl) ?_)
  refine LWp.mono (Q := fun e s => (match (generalizing := false) o768 with | (x762, x763) => e = .exit 0 ∧ s = ⟨[(0, .own 0), (2, iV .i64 a2), (4, .im (.sc (.func (.func 70) #[] #[]))), (10, iV .i64 x763)], [(0, some (.row 2 54 (x762.map eBucket)))], 1⟩)) (LWp.cv (withBody (fun body hbody => ?_))) ?_
  · refine f_slices_rotateCmpFunc_api_Bucket_hist_tidy_1.l0.partial_correctness a2 (motive := fun x746 x747 x748 o768 => LWp Γ body (fun e s => ∃ t, Cv Γ s t ∧ (match (generalizing := false) o768 with | (x762, x763) => e = .exit 0 ∧ t = ⟨[(0, .own 0), (2, iV .i64 a2), (4, .im (.sc (.func (.func 70) #[] #[]))), (10, iV .i64 x763)], [(0, some (.row 2 54 (x762.map eBucket)))], 1⟩)) ⟨[(0, .own 0), (2, iV .i64 a2), (4, .im (.sc (.func (.func 70) #[] #[]))), (10, iV .i64 x747), (11, iV .i64 x748)], [(0, some (.row 2 54 (x746.map eBucket)))], 1⟩) ?_ _ _ _ _ e769
    clear H e769 o768; intro self ih x746 x747 x748 o768 H
    subst hbody
    refine LWp.round ?_
    refine AWp.seq ?_
    refine AWp.seq ?_
    refine reg hP hn hm [] [0, 2, 4, 10, 11, 20] [0] ⟨[(0, .own 0), (2, iV .i64 a2), (4, .im (.sc (.func (.func 70) #[] #[]))), (10, iV .i64 x747), (11, iV .i64 x748), (20, bV (x747 != x748))], [(0, some (.row 2 54 (x746.map eBucket)))], 1⟩ [] (by kernel_rfl) trivial ?_
    refine AWp.cond (x747 != x748) rfl (fun c749 => ?_) (fun c749 => ?_)
    · replace H := (ifT c749).symm.trans H
      refine AWp.skip ?_
      refine AWp.block ?_
      refine AWp.seq ?_
      refine reg hP hn hm [] [0, 2, 4, 10, 11, 23] [0] ⟨[(0, .own 0), (2, iV .i64 a2), (4, .im (.sc (.func (.func 70) #[] #[]))), (10, iV .i64 x747), (11, iV .i64 x748), (23, bV (decide (x747 > x748)))], [(0, some (.row 2 54 (x746.map eBucket)))], 1⟩ [] (by kernel_rfl) trivial ?_
      obtain ⟨o770, e771, H⟩ := bind_of H
      refine AWp.mono (Q := fun e s => (match (generalizing := false) o770 with | (x759, x760, x761) => e = .normal ∧ s = ⟨[(0, .own 0), (2, iV .i64 a2), (4, .im (.sc (.func (.func 70) #[] #[]))), (10, iV .i64 x760), (11, iV .i64 x761)], [(0, some (.row 2 54 (x759.map eBucket)))], 1⟩)) (AWp.cv ?_) ?_
      · replace H := e771; clear e771
        refine AWp.cond (decide (x747 > x748)) rfl (fun c750 => ?_) (fun c750 => ?_)
        · replace H := (ifT c750).symm.trans H
          refine AWp.seq ?_
          obtain ⟨t753, e754, H⟩ := bind_of H
          refine reg hP hn hm [(7, .call [(0, 0)] [(0, 0)] [] [] 1 (.tup []) [(0, some (.row 2 54 (t753.map eBucket)))])] [0, 2, 4, 10, 11] [0] ⟨[(0, .own 0), (2, iV .i64 a2), (4, .im (.sc (.func (.func 70) #[] #[]))), (10, iV .i64 x747), (11, iV .i64 x748)], [(0, some (.row 2 54 (t753.map eBucket)))], 1⟩ [Enters Try.prog 82, Pv.Fn Try.prog 82 [.own 0, iV .i64 (IntKind.i64.wrap (a2 - x747)), iV .i64 a2, iV .i64 x748, .im (.sc (.func (.func 70) #[] #[]))] [(0, some (.row 2 54 (x746.map eBucket)))] 1 (fun r o => r = .tup [] ∧ o = [(0, some (.row 2 54 (t753.map eBucket)))])] (by kernel_rfl) ⟨by exact Try.call82, by exact f_slices_swapRangeCmpFunc_api_Bucket_hist_tidy_1.ok x746 (IntKind.i64.wrap (a2 - x747)) a2 x748 t753 e754, trivial⟩ ?_
          refine reg hP hn hm [] [0, 2, 4, 10, 11] [0] ⟨[(0, .own 0), (2, iV .i64 a2), (4, .im (.sc (.func (.func 70) #[] #[]))), (10, iV .i64 (IntKind.i64.wrap (x747 - x748))), (11, iV .i64 x748)], [(0, some (.row 2 54 (t753.map eBucket)))], 1⟩ [] (by kernel_rfl) trivial ?_
          obtain rfl := Option.some.inj H
          exact Exists.intro _ (And.intro (fun _ _ h => h.conv (inv := [(0, 0)]) (vk := []) (e0 := []) (t := ⟨[(0, .own 0), (2, iV .i64 a2), (4, .im (.sc (.func (.func 70) #[] #[]))), (10, iV .i64 (IntKind.i64.wrap (x747 - x748))), (11, iV .i64 x748)], [(0, some (.row 2 54 (t753.map eBucket)))], 1⟩) (by kernel_rfl)) (And.intro rfl rfl))
        · replace H := (ifF c750).symm.trans H
          refine AWp.seq ?_
          obtain ⟨t757, e758, H⟩ := bind_of H
          refine reg hP hn hm [(11, .call [(0, 0)] [(0, 0)] [] [] 1 (.tup []) [(0, some (.row 2 54 (t757.map eBucket)))])] [0, 2, 4, 10, 11] [0] ⟨[(0, .own 0), (2, iV .i64 a2), (4, .im (.sc (.func (.func 70) #[] #[]))), (10, iV .i64 x747), (11, iV .i64 x748)], [(0, some (.row 2 54 (t757.map eBucket)))], 1⟩ [Enters Try.prog 82, Pv.Fn Try.prog 82 [.own 0, iV .i64 (IntKind.i64.wrap (a2 - x747)), iV .i64 (IntKind.i64.wrap ((IntKind.i64.wrap (a2 + x748)) - x747)), iV .i64 x747, .im (.sc (.func (.func 70) #[] #[]))] [(0, some (.row 2 54 (x746.map eBucket)))] 1 (fun r o => r = .tup [] ∧ o = [(0, some (.row 2 54 (t757.map eBucket)))])] (by kernel_rfl) ⟨by exact Try.call82, by exact f_slices_swapRangeCmpFunc_api_Bucket_hist_tidy_1.ok x746 (IntKind.i64.wrap (a2 - x747)) (IntKind.i64.wrap ((IntKind.i64.wrap (a2 + x748)) - x747)) x747 t757 e758, trivial⟩ ?_
          refine reg hP hn hm [] [0, 2, 4, 10, 11] [0] ⟨[(0, .own 0), (2, iV .i64 a2), (4, .im (.sc (.func (.func 70) #[] #[]))), (10, iV .i64 x747), (11, iV .i64 (IntKind.i64.wrap (x748 - x747)))], [(0, some (.row 2 54 (t757.map eBucket)))], 1⟩ [] (by kernel_rfl) trivial ?_
          obtain rfl := Option.some.inj H
          exact Exists.intro _ (And.intro (fun _ _ h => h.conv (inv := [(0, 0)]) (vk := []) (e0 := []) (t := ⟨[(0, .own 0), (2, iV .i64 a2), (4, .im (.sc (.func (.func 70) #[] #[]))), (10, iV .i64 x747), (11, iV .i64 (IntKind.i64.wrap (x748 - x747)))], [(0, some (.row 2 54 (t757.map eBucket)))], 1⟩) (by kernel_rfl)) (And.intro rfl rfl))
      · obtain ⟨x759, x760, x761⟩ := o770
        rintro e s ⟨rfl, rfl⟩
        exact LWp.conv (inv := [(0, 0)]) (vk := []) (e0 := []) (t := ⟨[(0, .own 0), (2, iV .i64 a2), (4, .im (.sc (.func (.func 70) #[] #[]))), (10, iV .i64 x760), (11, iV .i64 x761)], [(0, some (.row 2 54 (x759.map eBucket)))], 1⟩) (by kernel_rfl) (ih _ _ _ _ H)
    · replace H := (ifF c749).symm.trans H
      refine AWp.exit ?_
      obtain rfl := Option.some.inj H
      exact Exists.intro _ (And.intro (fun _ _ h => h.conv (inv := [(0, 0)]) (vk := []) (e0 := []) (t := ⟨[(0, .own 0), (2, iV .i64 a2), (4, .im (.sc (.func (.func 70) #[] #[]))), (10, iV .i64 x747)], [(0, some (.row 2 54 (x746.map eBucket)))], 1⟩) (by kernel_rfl)) (And.intro rfl rfl))
  · obtain ⟨x762, x763⟩ := o768
    rintro e s ⟨rfl, rfl⟩
    obtain ⟨t766, e767, H⟩ := bind_of H
    refine reg hP hn hm [(7, .call [(0, 0)] [(0, 0)] [] [] 1 (.tup []) [(0, some (.row 2 54 (t766.map eBucket)))])] [] [0] ⟨[], [(0, some (.row 2 54 (t766.map eBucket)))], 1⟩ [Enters Try.prog 82, Pv.Fn Try.prog 82 [.own 0, iV .i64 (IntKind.i64.wrap (a2 - x763)), iV .i64 a2, iV .i64 x763, .im (.sc (.func (.func 70) #[] #[]))] [(0, some (.row 2 54 (x762.map eBucket)))] 1 (fun r o => r = .tup [] ∧ o = [(0, some (.row 2 54 (t766.map eBucket)))])] (by kernel_rfl) ⟨by exact Try.call82, by exact f_slices_swapRangeCmpFunc_api_Bucket_hist_tidy_1.ok x762 (IntKind.i64.wrap (a2 - x763)) a2 x763 t766 e767, trivial⟩ ?_
    obtain rfl := Option.some.inj H
    exact Exists.intro ⟨[], [(0, some (.row 2 54 (t766.map eBucket)))], 1⟩ (And.intro (fun _ _ h => h.conv (inv := [(0, 0)]) (vk := []) (e0 := []) (t := ⟨[], [(0, some (.row 2 54 (t766.map eBucket)))], 1⟩) (by kernel_rfl)) (And.intro (.inr rfl) (And.intro rfl (And.intro (by kernel_rfl) (by kernel_rfl)))))
def f_slices_symMergeCmpFunc_api_Bucket_hist_tidy_1.l0 (a0 : List TBucket) (a1 : Int) (x491 : Int) (x492 : Int) : Option (Int) := if (decide (x491 < x492)) = true then ((at? a0 (IntKind.i64.wrap (Int.fdiv (IntKind.u64.wrap (IntKind.i64.wrap (x491 + x492))) 2))) >>= fun b502 => (at? a0 a1) >>= fun b505 => (f_hist_tidy_1.f b502 b505) >>= fun t508 => ((if (decide (t508 < (0 : Int))) = true then (some (IntKind.i64.wrap ((IntKind.i64.wrap (Int.fdiv (IntKind.u64.wrap (IntKind.i64.wrap (x491 + x492))) 2)) + (1 : Int)), x492)) else (some (x491, IntKind.i64.wrap (Int.fdiv (IntKind.u64.wrap (IntKind.i64.wrap (x491 + x492))) 2)))) : Option (Int × Int)) >>= fun oo => match oo with | (x511, x512) => (f_slices_symMergeCmpFunc_api_Bucket_hist_tidy_1.l0 a0 a1 x511 x512)) else (some x491)
partial_fixpoint
def f_slices_symMergeCmpFunc_api_Bucket_hist_tidy_1.l1 (x513 : Int) (x533 : List TBucket) (x534 : Int) : Option (List TBucket) := if (decide (x534 < (IntKind.i64.wrap (x513 - (1 : Int))))) = true then ((at? x533 (IntKind.i64.wrap (x534 + (1 : Int)))) >>= fun b545 => (at? x533 x534) >>= fun b548 => (at? (x533.set (Int.toNat (x534)) b545) (IntKind.i64.wrap (x534 + (1 : Int)))) >>= fun b551 => f_slices_symMergeCmpFunc_api_Bucket_hist_tidy_1.l1 x513 ((x533.set (Int.toNat (x534)) b545).set (Int.toNat (IntKind.i64.wrap (x534 + (1 : Int)))) b548) (IntKind.i64.wrap (x534 + (1 : Int)))) else (some x533)
partial_fixpoint
def f_slices_symMergeCmpFunc_api_Bucket_hist_tidy_1.l2 (a0 : List TBucket) (a2 : Int) (x576 : Int) (x577 : Int) : Option (Int) := if (decide (x576 < x577)) = true then ((at? a0 a2) >>= fun b587 => (at? a0 (IntKind.i64.wrap (Int.fdiv (IntKind.u64.wrap (IntKind.i64.wrap (x576 + x577))) 2))) >>= fun b590 => (f_hist_tidy_1.f b587 b590) >>= fun t593 => ((if (!(decide (t593 < (0 : Int)))) = true then (some (IntKind.i64.wrap ((IntKind.i64.wrap (Int.fdiv (IntKind.u64.wrap (IntKind.i64.wrap (x576 + x577))) 2)) + (1 : Int)), x577)) else (some (x576, IntKind.i64.wrap (Int.fdiv (IntKind.u64.wrap (IntKind.i64.wrap (x576 + x577))) 2)))) : Option (Int × Int)) >>= fun oo => match oo with | (x596, x597) => (f_slices_symMergeCmpFunc_api_Bucket_hist_tidy_1.l2 a0 a2 x596 x597)) else (some x576)
partial_fixpoint
def f_slices_symMergeCmpFunc_api_Bucket_hist_tidy_1.l3 (x598 : Int) (x618 : List TBucket) (x619 : Int) : Option (List TBucket) := if (decide (x619 > x598)) = true then ((at? x618 (IntKind.i64.wrap (x619 - (1 : Int)))) >>= fun b630 => (at? x618 x619) >>= fun b633 => (at? (x618.set (Int.toNat (x619)) b630) (IntKind.i64.wrap (x619 - (1 : Int)))) >>= fun b636 => f_slices_symMergeCmpFunc_api_Bucket_hist_tidy_1.l3 x598 ((x618.set (Int.toNat (x619)) b630).set (Int.toNat (IntKind.i64.wrap (x619 - (1 : Int)))) b633) (IntKind.i64.wrap (x619 - (1 : Int)))) else (some x618)
partial_fixpoint
def f_slices_symMergeCmpFunc_api_Bucket_hist_tidy_1.l4 (a0 : List TBucket) (a1 : Int) (a2 : Int) (a3 : Int) (x663 : Int) (x664 : Int) : Option (Int) := if (decide (x663 < x664)) = true then ((at? a0 (IntKind.i64.wrap ((IntKind.i64.wrap ((IntKind.i64.wrap ((IntKind.i64.wrap (Int.fdiv (IntKind.u64.wrap (IntKind.i64.wrap (a1 + a3))) 2)) + a2)) - (1 : Int))) - (IntKind.i64.wrap (Int.fdiv (IntKind.u64.wrap (IntKind.i64.wrap (x663 + x664))) 2))))) >>= fun b674 => (at? a0 (IntKind.i64.wrap (Int.fdiv (IntKind.u64.wrap (IntKind.i64.wrap (x663 + x664))) 2))) >>= fun b677 => (f_hist_tidy_1.f b674 b677) >>= fun t680 => ((if (!(decide (t680 < (0 : Int)))) = true then (some (IntKind.i64.wrap ((IntKind.i64.wrap (Int.fdiv (IntKind.u64.wrap (IntKind.i64.wrap (x663 + x664))) 2)) + (1 : Int)), x664)) else (some (x663, IntKind.i64.wrap (Int.fdiv (IntKind.u64.wrap (IntKind.i64.wrap (x663 + x664))) 2)))) : Option (Int × Int)) >>= fun oo => match oo with | (x683, x684) => (f_slices_symMergeCmpFunc_api_Bucket_hist_tidy_1.l4 a0 a1 a2 a3 x683 x684)) else (some x663)
partial_fixpoint
def f_slices_symMergeCmpFunc_api_Bucket_hist_tidy_1.f (a0 : List TBucket) (a1 : Int) (a2 : Int) (a3 : Int) : Option (List TBucket) := if ((IntKind.i64.wrap (a2 - a1)) == (1 : Int)) = true then ((f_slices_symMergeCmpFunc_api_Bucket_hist_tidy_1.l0 a0 a1 a2 a3) >>= fun x513 => (f_slices_symMergeCmpFunc_api_Bucket_hist_tidy_1.l1 x513 a0 a1) >>= fun x554 => some x554) else (if ((IntKind.i64.wrap (a3 - a2)) == (1 : Int)) = true then ((f_slices_symMergeCmpFunc_api_Bucket_hist_tidy_1.l2 a0 a2 a1 a2) >>= fun x598 => (f_slices_symMergeCmpFunc_api_Bucket_hist_tidy_1.l3 x598 a0 a2) >>= fun x639 => some x639) else (((if (decide (a2 > (IntKind.i64.wrap (Int.fdiv (IntKind.u64.wrap (IntKind.i64.wrap (a1 + a3))) 2)))) = true then (some (IntKind.i64.wrap ((IntKind.i64.wrap ((IntKind.i64.wrap (Int.fdiv (IntKind.u64.wrap (IntKind.i64.wrap (a1 + a3))) 2)) + a2)) - a3), IntKind.i64.wrap (Int.fdiv (IntKind.u64.wrap (IntKind.i64.wrap (a1 + a3))) 2))) else (some (a1, a2))) : Option (Int × Int)) >>= fun oo => match oo with | (x641, x642) => ((f_slices_symMergeCmpFunc_api_Bucket_hist_tidy_1.l4 a0 a1 a2 a3 x641 x642) >>= fun x685 => ((if (decide (x685 < a2)) = true then (some (decide (a2 < (IntKind.i64.wrap ((IntKind.i64.wrap ((IntKind.i64.wrap (Int.fdiv (IntKind.u64.wrap (IntKind.i64.wrap (a1 + a3))) 2)) + a2)) - x685))))) else (some false)) : Option (Bool)) >>= fun x688 => ((if x688 = true then ((f_slices_rotateCmpFunc_api_Bucket_hist_tidy_1.f a0 x685 a2 (IntKind.i64.wrap ((IntKind.i64.wrap ((IntKind.i64.wrap (Int.fdiv (IntKind.u64.wrap (IntKind.i64.wrap (a1 + a3))) 2)) + a2)) - x685))) >>= fun t774 => some t774) else (some a0)) : Option (List TBucket)) >>= fun x776 => ((if (decide (a1 < x685)) = true then (some (decide (x685 < (IntKind.i64.wrap (Int.fdiv (IntKind.u64.wrap (IntKind.i64.wrap (a1 + a3))) 2))))) else (some false)) : Option (Bool)) >>= fun x779 => ((if x779 = true then ((f_slices_symMergeCmpFunc_api_Bucket_hist_tidy_1.f x776 a1 x685 (IntKind.i64.wrap (Int.fdiv (IntKind.u64.wrap (IntKind.i64.wrap (a1 + a3))) 2))) >>= fun t783 => some t783) else (some x776)) : Option (List TBucket)) >>= fun x785 => ((if (decide ((IntKind.i64.wrap (Int.fdiv (IntKind.u64.wrap (IntKind.i64.wrap (a1 + a3))) 2)) < (IntKind.i64.wrap ((IntKind.i64.wrap ((IntKind.i64.wrap (Int.fdiv (IntKind.u64.wrap (IntKind.i64.wrap (a1 + a3))) 2)) + a2)) - x685)))) = true then (some (decide ((IntKind.i64.wrap ((IntKind.i64.wrap ((IntKind.i64.wrap (Int.fdiv (IntKind.u64.wrap (IntKind.i64.wrap (a1 + a3))) 2)) + a2)) - x685)) < a3))) else (some false)) : Option (Bool)) >>= fun x788 => ((if x788 = true then ((f_slices_symMergeCmpFunc_api_Bucket_hist_tidy_1.f x785 (IntKind.i64.wrap (Int.fdiv (IntKind.u64.wrap (IntKind.i64.wrap (a1 + a3))) 2)) (IntKind.i64.wrap ((IntKind.i64.wrap ((IntKind.i64.wrap (Int.fdiv (IntKind.u64.wrap (IntKind.i64.wrap (a1 + a3))) 2)) + a2)) - x685)) a3) >>= fun t792 => some t792) else (some x785)) : Option (List TBucket)) >>= fun x794 => some x794)))
partial_fixpoint
theorem f_slices_symMergeCmpFunc_api_Bucket_hist_tidy_1.ok (a0 : List TBucket) (a1 : Int) (a2 : Int) (a3 : Int) (r : List TBucket) (H : f_slices_symMergeCmpFunc_api_Bucket_hist_tidy_1.f a0 a1 a2 a3 = some r) : Pv.Fn Try.prog 80 [.own 0, iV .i64 a1, iV .i64 a2, iV .i64 a3, .im (.sc (.func (.func 70) #[] #[]))] [(0, some (.row 2 54 (a0.map eBucket)))] 1 (fun x o => x = .tup [] ∧ o = [(0, some (.row 2 54 (r.map eBucket)))]) := by
  refine f_slices_symMergeCmpFunc_api_Bucket_hist_tidy_1.f.partial_correctness (motive := fun a0 a1 a2 a3 r => Pv.Fn Try.prog 80 [.own 0, iV .i64 a1, iV .i64 a2, iV .i64 a3, .im (.sc (.func (.func 70) #[] #[]))] [(0, some (.row 2 54 (a0.map eBucket)))] 1 (fun x o => x = .tup [] ∧ o = [(0, some (.row 2 54 (r.map eBucket)))])) ?_ a0 a1 a2 a3 r H
  clear H a0 a1 a2 a3 r; intro self ihF a0 a1 a2 a3 r H
  refine Fn.bodyK [0] Try.func80 rfl rfl (fun Γ hP hn => ?_)
  have hm : Try.prog.follows .mixedOrders = true := by kernel_rfl
  replace hn : Γ.n = 220 := hn
  refine AWp.seq ?_
  refine AWp.seq ?_
  refine reg hP hn hm [] [0, 1, 2, 3, 4, 28] [0] ⟨[(0, .own 0), (1, iV .i64 a1), (2, iV .i64 a2), (3, iV .i64 a3), (4, .im (.sc (.func (.func 70) #[] #[]))), (28, bV ((IntKind.i64.wrap (a2 - a1)) == (1 : Int)))], [(0, some (.row 2 54 (a0.map eBucket)))], 1⟩ [] (by kernel_rfl) trivial ?_
  refine AWp.cond ((IntKind.i64.wrap (a2 - a1)) == (1 : Int)) rfl (fun c470 => ?_) (fun c470 => ?_)
  · replace H := (ifT c470).symm.trans H
    refine AWp.seq ?_
    refine reg hP hn hm [] [0, 1, 3, 4, 10] [0] ⟨[(0, .own 0), (1, iV .i64 a1), (3, iV .i64 a3), (4, .im (.sc (.func (.func 70) #[] #[]))), (10, iV .i64 a2)], [(0, some (.row 2 54 (a0.map eBucket)))], 1⟩ [] (by kernel_rfl) trivial ?_
    refine AWp.seq ?_
    refine reg hP hn hm [] [0, 1, 4, 10, 11] [0] ⟨[(0, .own 0), (1, iV .i64 a1), (4, .im (.sc (.func (.func 70) #[] #[]))), (10, iV .i64 a2), (11, iV .i64 a3)], [(0, some (.row 2 54 (a0.map eBucket)))], 1⟩ [] (by kernel_rfl) trivial ?_
    refine AWp.seq ?_
    refine AWp.block ?_
    obtain ⟨o795, e796, H⟩ := bind_of H
    refine AWp.loop (LWp.conv (inv := [(0, 0)]) (vk := []) (e0 := []) (t := ⟨[(0, .own 0), (1, iV .i64 a1), (4, .im (.sc (.func (.func 70) #[] #[]))), (10, iV .i64 a2), (11, iV .i64 a3)], [(0, some (.row 2 54 (a0.map eBucket)))], 1⟩) (by kernel_rfl) ?_)
    refine LWp.mono (Q := fun e s => (match (generalizing := false) o795 with | x513 => e = .exit 0 ∧ s = ⟨[(0, .own 0), (1, iV .i64 a1), (10, iV .i64 x513)], [(0, some (.row 2 54 (a0.map eBucket)))], 1⟩)) (LWp.cv (withBody (fun body hbody => ?_))) ?_
    · refine f_slices_symMergeCmpFunc_api_Bucket_hist_tidy_1.l0.partial_correctness a0 a1 (motive := fun x491 x492 o795 => LWp Γ body (fun e s => ∃ t, Cv Γ s t ∧ (match (generalizing := false) o795 with | x513 => e = .exit 0 ∧ t = ⟨[(0, .own 0), (1, iV .i64 a1), (10, iV .i64 x513)], [(0, some (.row 2 54 (a0.map eBucket)))], 1⟩)) ⟨[(0, .own 0), (1, iV .i64 a1), (4, .im (.sc (.func (.func 70) #[] #[]))), (10, iV .i64 x491), (11, iV .i64 x492)], [(0, some (.row 2 54 (a0.map eBucket)))], 1⟩) ?_ _ _ _ e796
      clear H e796 o795; intro self ih x491 x492 o795 H
      subst hbody
      refine LWp.round ?_
      refine AWp.seq ?_
      refine AWp.seq ?_
      refine reg hP hn hm [] [0, 1, 4, 10, 11, 33] [0] ⟨[(0, .own 0), (1, iV .i64 a1), (4, .im (.sc (.func (.func 70) #[] #[]))), (10, iV .i64 x491), (11, iV .i64 x492), (33, bV (decide (x491 < x492)))], [(0, some (.row 2 54 (a0.map eBucket)))], 1⟩ [] (by kernel_rfl) trivial ?_
      refine AWp.cond (decide (x491 < x492)) rfl (fun c493 => ?_) (fun c493 => ?_)
      · replace H := (ifT c493).symm.trans H
        refine AWp.skip ?_
        refine AWp.block ?_
        refine AWp.seq ?_
        refine reg hP hn hm [] [0, 1, 4, 10, 11, 12] [0] ⟨[(0, .own 0), (1, iV .i64 a1), (4, .im (.sc (.func (.func 70) #[] #[]))), (10, iV .i64 x491), (11, iV .i64 x492), (12, iV .i64 (IntKind.i64.wrap (Int.fdiv (IntKind.u64.wrap (IntKind.i64.wrap (x491 + x492))) 2)))], [(0, some (.row 2 54 (a0.map eBucket)))], 1⟩ [(0 : Int) ≤ 1] (by kernel_rfl) ⟨by decide, trivial⟩ ?_
        refine AWp.seq ?_
        obtain ⟨b502, p503, q504, H⟩ := at_of H
        obtain ⟨b505, p506, q507, H⟩ := at_of H
        obtain ⟨t508, e509, H⟩ := bind_of H
        refine reg hP hn hm [(4, .c (eBucket b502)), (8, .c (eBucket b505)), (9, .call [] [] [] [] 0 (iV .i64 t508) [])] [0, 1, 4, 10, 11, 12, 50] [0] ⟨[(0, .own 0), (1, iV .i64 a1), (4, .im (.sc (.func (.func 70) #[] #[]))), (10, iV .i64 x491), (11, iV .i64 x492), (12, iV .i64 (IntKind.i64.wrap (Int.fdiv (IntKind.u64.wrap (IntKind.i64.wrap (x491 + x492))) 2))), (50, bV (decide (t508 < (0 : Int))))], [(0, some (.row 2 54 (a0.map eBucket)))], 1⟩ [0 ≤ (IntKind.i64.wrap (Int.fdiv (IntKind.u64.wrap (IntKind.i64.wrap (x491 + x492))) 2)), IntKind.i64.wrap (Int.fdiv (IntKind.u64.wrap (IntKind.i64.wrap (x491 + x492))) 2) < (((a0.map eBucket).length : Nat) : Int), (a0.map eBucket)[(Int.toNat (IntKind.i64.wrap (Int.fdiv (IntKind.u64.wrap (IntKind.i64.wrap (x491 + x492))) 2)))]? = some (eBucket b502), 0 ≤ a1, a1 < (((a0.map eBucket).length : Nat) : Int), (a0.map eBucket)[(Int.toNat (a1))]? = some (eBucket b505), Enters Try.prog 70, Pv.Fn Try.prog 70 [.agg (aBucket b502), .agg (aBucket b505)] [] 0 (fun r o => r = iV .i64 t508 ∧ o = [])] (by kernel_rfl) ⟨by exact p503, by exact el_lt eBucket p503 q504, by exact el_map eBucket q504, by exact p506, by exact el_lt eBucket p506 q507, by exact el_map eBucket q507, by exact Try.call70, by exact f_hist_tidy_1.ok b502 b505 t508 e509, trivial⟩ ?_
        obtain ⟨o797, e798, H⟩ := bind_of H
        refine AWp.mono (Q := fun e s => (match (generalizing := false) o797 with | (x511, x512) => e = .normal ∧ s = ⟨[(0, .own 0), (1, iV .i64 a1), (4, .im (.sc (.func (.func 70) #[] #[]))), (10, iV .i64 x511), (11, iV .i64 x512)], [(0, some (.row 2 54 (a0.map eBucket)))], 1⟩)) (AWp.cv ?_) ?_
        · replace H := e798; clear e798
          refine AWp.cond (decide (t508 < (0 : Int))) rfl (fun c510 => ?_) (fun c510 => ?_)
          · replace H := (ifT c510).symm.trans H
            refine reg hP hn hm [] [0, 1, 4, 10, 11] [0] ⟨[(0, .own 0), (1, iV .i64 a1), (4, .im (.sc (.func (.func 70) #[] #[]))), (10, iV .i64 (IntKind.i64.wrap ((IntKind.i64.wrap (Int.fdiv (IntKind.u64.wrap (IntKind.i64.wrap (x491 + x492))) 2)) + (1 : Int)))), (11, iV .i64 x492)], [(0, some (.row 2 54 (a0.map eBucket)))], 1⟩ [] (by kernel_rfl) trivial ?_
            obtain rfl := Option.some.inj H
            exact Exists.intro _ (And.intro (fun _ _ h => h.conv (inv := [(0, 0)]) (vk := []) (e0 := []) (t := ⟨[(0, .own 0), (1, iV .i64 a1), (4, .im (.sc (.func (.func 70) #[] #[]))), (10, iV .i64 (IntKind.i64.wrap ((IntKind.i64.wrap (Int.fdiv (IntKind.u64.wrap (IntKind.i64.wrap (x491 + x492))) 2)) + (1 : Int)))), (11, iV .i64 x492)], [(0, some (.row 2 54 (a0.map eBucket)))], 1⟩) (by kernel_rfl)) (And.intro rfl rfl))
          · replace H := (ifF c510).symm.trans H
            refine reg hP hn hm [] [0, 1, 4, 10, 11] [0] ⟨[(0, .own 0), (1, iV .i64 a1), (4, .im (.sc (.func (.func 70) #[] #[]))), (10, iV .i64 x491), (11, iV .i64 (IntKind.i64.wrap (Int.fdiv (IntKind.u64.wrap (IntKind.i64.wrap (x491 + x492))) 2)))], [(0, some (.row 2 54 (a0.map eBucket)))], 1⟩ [] (by kernel_rfl) trivial ?_
            obtain rfl := Option.some.inj H
            exact Exists.intro _ (And.intro (fun _ _ h => h.conv (inv := [(0, 0)]) (vk := []) (e0 := []) (t := ⟨[(0, .own 0), (1, iV .i64 a1), (4, .im (.sc (.func (.func 70) #[] #[]))), (10, iV .i64 x491), (11, iV .i64 (IntKind.i64.wrap (Int.fdiv (IntKind.u64.wrap (IntKind.i64.wrap (x491 + x492))) 2)))], [(0, some (.row 2 54 (a0.map eBucket)))], 1⟩) (by kernel_rfl)) (And.intro rfl rfl))
        · obtain ⟨x511, x512⟩ := o797
          rintro e s ⟨rfl, rfl⟩
          exact LWp.conv (inv := [(0, 0)]) (vk := []) (e0 := []) (t := ⟨[(0, .own 0), (1, iV .i64 a1), (4, .im (.sc (.func (.func 70) #[] #[]))), (10, iV .i64 x511), (11, iV .i64 x512)], [(0, some (.row 2 54 (a0.map eBucket)))], 1⟩) (by kernel_rfl) (ih _ _ _ H)
      · replace H := (ifF c493).symm.trans H
        refine AWp.exit ?_
        obtain rfl := Option.some.inj H
        exact Exists.intro _ (And.intro (fun _ _ h => h.conv (inv := [(0, 0)]) (vk := []) (e0 := []) (t := ⟨[(0, .own 0), (1, iV .i64 a1), (10, iV .i64 x491)], [(0, some (.row 2 54 (a0.map eBucket)))], 1⟩) (by kernel_rfl)) (And.intro rfl rfl))
    · obtain ⟨x513, rfl⟩ : ∃ z, z = o795 := ⟨_, rfl⟩
      rintro e s ⟨rfl, rfl⟩
      refine AWp.seq ?_
      refine AWp.seq ?_
      refine reg hP hn hm [] [0, 10, 13] [0] ⟨[(0, .own 0), (10, iV .i64 x513), (13, iV .i64 a1)], [(0, some (.row 2 54 (a0.map eBucket)))], 1⟩ [] (by kernel_rfl) trivial ?_
      refine AWp.block ?_
      obtain ⟨o799, e800, H⟩ := bind_of H
      refine AWp.loop (LWp.conv (inv := [(0, 0)]) (vk := []) (e0 := []) (t := ⟨[(0, .own 0), (10, iV .i64 x513), (13, iV .i64 a1)], [(0, some (.row 2 54 (a0.map eBucket)))], 1⟩) (by kernel_rfl) ?_)
      refine LWp.mono (Q := fun e s => (match (generalizing := false) o799 with | x554 => e = .exit 2 ∧ s = ⟨[], [(0, some (.row 2 54 (x554.map eBucket)))], 1⟩)) (LWp.cv (withBody (fun body hbody => ?_))) ?_
      · refine f_slices_symMergeCmpFunc_api_Bucket_hist_tidy_1.l1.partial_correctness x513 (motive := fun x533 x534 o799 => LWp Γ body (fun e s => ∃ t, Cv Γ s t ∧ (match (generalizing := false) o799 with | x554 => e = .exit 2 ∧ t = ⟨[], [(0, some (.row 2 54 (x554.map eBucket)))], 1⟩)) ⟨[(0, .own 0), (10, iV .i64 x513), (13, iV .i64 x534)], [(0, some (.row 2 54 (x533.map eBucket)))], 1⟩) ?_ _ _ _ e800
        clear H e800 o799; intro self ih x533 x534 o799 H
        subst hbody
        refine LWp.round ?_
        refine AWp.seq ?_
        refine AWp.seq ?_
        refine reg hP hn hm [] [0, 10, 13, 58] [0] ⟨[(0, .own 0), (10, iV .i64 x513), (13, iV .i64 x534), (58, bV (decide (x534 < (IntKind.i64.wrap (x513 - (1 : Int))))))], [(0, some (.row 2 54 (x533.map eBucket)))], 1⟩ [] (by kernel_rfl) trivial ?_
        refine AWp.cond (decide (x534 < (IntKind.i64.wrap (x513 - (1 : Int))))) rfl (fun c535 => ?_) (fun c535 => ?_)
        · replace H := (ifT c535).symm.trans H
          refine AWp.skip ?_
          refine AWp.seq ?_
          refine AWp.block ?_
          obtain ⟨b545, p546, q547, H⟩ := at_of H
          obtain ⟨b548, p549, q550, H⟩ := at_of H
          obtain ⟨b551, p552, q553, H⟩ := at_of H
          refine reg hP hn hm [(9, .c (eBucket b545)), (13, .c (eBucket b548)), (15, .put (eBucket b548) ((x533.set (Int.toNat (x534)) b545).map eBucket)), (17, .put (eBucket b551) (((x533.set (Int.toNat (x534)) b545).set (Int.toNat (IntKind.i64.wrap (x534 + (1 : Int)))) b548).map eBucket))] [0, 10, 13] [0] ⟨[(0, .own 0), (10, iV .i64 x513), (13, iV .i64 x534)], [(0, some (.row 2 54 (((x533.set (Int.toNat (x534)) b545).set (Int.toNat (IntKind.i64.wrap (x534 + (1 : Int)))) b548).map eBucket)))], 1⟩ [0 ≤ (IntKind.i64.wrap (x534 + (1 : Int))), IntKind.i64.wrap (x534 + (1 : Int)) < (((x533.map eBucket).length : Nat) : Int), (x533.map eBucket)[(Int.toNat (IntKind.i64.wrap (x534 + (1 : Int))))]? = some (eBucket b545), 0 ≤ x534, x534 < (((x533.map eBucket).length : Nat) : Int), (x533.map eBucket)[(Int.toNat (x534))]? = some (eBucket b548), 0 ≤ x534, x534 < (((x533.map eBucket).length : Nat) : Int), (x533.map eBucket)[(Int.toNat (x534))]? = some (eBucket b548), (x533.set (Int.toNat (x534)) b545).map eBucket = (x533.map eBucket).set (Int.toNat (x534)) (splice (eBucket b548) 0 [iI .i64 b545.f0, iI .u64 b545.f1]), 0 ≤ (IntKind.i64.wrap (x534 + (1 : Int))), IntKind.i64.wrap (x534 + (1 : Int)) < ((((x533.set (Int.toNat (x534)) b545).map eBucket).length : Nat) : Int), ((x533.set (Int.toNat (x534)) b545).map eBucket)[(Int.toNat (IntKind.i64.wrap (x534 + (1 : Int))))]? = some (eBucket b551), ((x533.set (Int.toNat (x534)) b545).set (Int.toNat (IntKind.i64.wrap (x534 + (1 : Int)))) b548).map eBucket = ((x533.set (Int.toNat (x534)) b545).map eBucket).set (Int.toNat (IntKind.i64.wrap (x534 + (1 : Int)))) (splice (eBucket b551) 0 [iI .i64 b548.f0, iI .u64 b548.f1])] (by kernel_rfl) ⟨by exact p546, by exact el_lt eBucket p546 q547, by exact el_map eBucket q547, by exact p549, by exact el_lt eBucket p549 q550, by exact el_map eBucket q550, by exact p549, by exact el_lt eBucket p549 q550, by exact el_map eBucket q550, by exact set1 _ _ _ _, by exact p552, by exact el_lt eBucket p552 q553, by exact el_map eBucket q553, by exact set1 _ _ _ _, trivial⟩ ?_
          refine reg hP hn hm [] [0, 10, 13] [0] ⟨[(0, .own 0), (10, iV .i64 x513), (13, iV .i64 (IntKind.i64.wrap (x534 + (1 : Int))))], [(0, some (.row 2 54 (((x533.set (Int.toNat (x534)) b545).set (Int.toNat (IntKind.i64.wrap (x534 + (1 : Int)))) b548).map eBucket)))], 1⟩ [] (by kernel_rfl) trivial ?_
          exact LWp.conv (inv := [(0, 0)]) (vk := []) (e0 := []) (t := ⟨[(0, .own 0), (10, iV .i64 x513), (13, iV .i64 (IntKind.i64.wrap (x534 + (1 : Int))))], [(0, some (.row 2 54 (((x533.set (Int.toNat (x534)) b545).set (Int.toNat (IntKind.i64.wrap (x534 + (1 : Int)))) b548).map eBucket)))], 1⟩) (by kernel_rfl) (ih _ _ _ H)
        · replace H := (ifF c535).symm.trans H
          refine AWp.exit ?_
          obtain rfl := Option.some.inj H
          exact Exists.intro _ (And.intro (fun _ _ h => h.conv (inv := [(0, 0)]) (vk := []) (e0 := []) (t := ⟨[], [(0, some (.row 2 54 (x533.map eBucket)))], 1⟩) (by kernel_rfl)) (And.intro rfl rfl))
      · obtain ⟨x554, rfl⟩ : ∃ z, z = o799 := ⟨_, rfl⟩
        rintro e s ⟨rfl, rfl⟩
        refine AWp.conv (inv := [(0, 0)]) (vk := []) (e0 := []) (t := ⟨[], [(0, some (.row 2 54 (x554.map eBucket)))], 1⟩) (by kernel_rfl) ?_
        refine AWp.ret ?_
        obtain rfl := Option.some.inj H
        exact Exists.intro _ (And.intro (fun _ _ h => h) (And.intro (.inl rfl) (And.intro rfl (And.intro (by kernel_rfl) (by kernel_rfl)))))
  · replace H := (ifF c470).symm.trans H
    refine AWp.skip ?_
    refine AWp.seq ?_
    refine AWp.seq ?_
    refine reg hP hn hm [] [0, 1, 2, 3, 4, 80] [0] ⟨[(0, .own 0), (1, iV .i64 a1), (2, iV .i64 a2), (3, iV .i64 a3), (4, .im (.sc (.func (.func 70) #[] #[]))), (80, bV ((IntKind.i64.wrap (a3 - a2)) == (1 : Int)))], [(0, some (.row 2 54 (a0.map eBucket)))], 1⟩ [] (by kernel_rfl) trivial ?_
    refine AWp.cond ((IntKind.i64.wrap (a3 - a2)) == (1 : Int)) rfl (fun c555 => ?_) (fun c555 => ?_)
    · replace H := (ifT c555).symm.trans H
      refine AWp.seq ?_
      refine reg hP hn hm [] [0, 2, 4, 14] [0] ⟨[(0, .own 0), (2, iV .i64 a2), (4, .im (.sc (.func (.func 70) #[] #[]))), (14, iV .i64 a1)], [(0, some (.row 2 54 (a0.map eBucket)))], 1⟩ [] (by kernel_rfl) trivial ?_
      refine AWp.seq ?_
      refine reg hP hn hm [] [0, 2, 4, 14, 15] [0] ⟨[(0, .own 0), (2, iV .i64 a2), (4, .im (.sc (.func (.func 70) #[] #[]))), (14, iV .i64 a1), (15, iV .i64 a2)], [(0, some (.row 2 54 (a0.map eBucket)))], 1⟩ [] (by kernel_rfl) trivial ?_
      refine AWp.seq ?_
      refine AWp.block ?_
      obtain ⟨o801, e802, H⟩ := bind_of H
      refine AWp.loop (LWp.conv (inv := [(0, 0)]) (vk := []) (e0 := []) (t := ⟨[(0, .own 0), (2, iV .i64 a2), (4, .im (.sc (.func (.func 70) #[] #[]))), (14, iV .i64 a1), (15, iV .i64 a2)], [(0, some (.row 2 54 (a0.map eBucket)))], 1⟩) (by kernel_rfl) ?_)
      refine LWp.mono (Q := fun e s => (match (generalizing := false) o801 with | x598 => e = .exit 4 ∧ s = ⟨[(0, .own 0), (2, iV .i64 a2), (14, iV .i64 x598)], [(0, some (.row 2 54 (a0.map eBucket)))], 1⟩)) (LWp.cv (withBody (fun body hbody => ?_))) ?_
      · refine f_slices_symMergeCmpFunc_api_Bucket_hist_tidy_1.l2.partial_correctness a0 a2 (motive := fun x576 x577 o801 => LWp Γ body (fun e s => ∃ t, Cv Γ s t ∧ (match (generalizing := false) o801 with | x598 => e = .exit 4 ∧ t = ⟨[(0, .own 0), (2, iV .i64 a2), (14, iV .i64 x598)], [(0, some (.row 2 54 (a0.map eBucket)))], 1⟩)) ⟨[(0, .own 0), (2, iV .i64 a2), (4, .im (.sc (.func (.func 70) #[] #[]))), (14, iV .i64 x576), (15, iV .i64 x577)], [(0, some (.row 2 54 (a0.map eBucket)))], 1⟩) ?_ _ _ _ e802
        clear H e802 o801; intro self ih x576 x577 o801 H
        subst hbody
        refine LWp.round ?_
        refine AWp.seq ?_
        refine AWp.seq ?_
        refine reg hP hn hm [] [0, 2, 4, 14, 15, 85] [0] ⟨[(0, .own 0), (2, iV .i64 a2), (4, .im (.sc (.func (.func 70) #[] #[]))), (14, iV .i64 x576), (15, iV .i64 x577), (85, bV (decide (x576 < x577)))], [(0, some (.row 2 54 (a0.map eBucket)))], 1⟩ [] (by kernel_rfl) trivial ?_
        refine AWp.cond (decide (x576 < x577)) rfl (fun c578 => ?_) (fun c578 => ?_)
        · replace H := (ifT c578).symm.trans H
          refine AWp.skip ?_
          refine AWp.block ?_
          refine AWp.seq ?_
          refine reg hP hn hm [] [0, 2, 4, 14, 15, 16] [0] ⟨[(0, .own 0), (2, iV .i64 a2), (4, .im (.sc (.func (.func 70) #[] #[]))), (14, iV .i64 x576), (15, iV .i64 x577), (16, iV .i64 (IntKind.i64.wrap (Int.fdiv (IntKind.u64.wrap (IntKind.i64.wrap (x576 + x577))) 2)))], [(0, some (.row 2 54 (a0.map eBucket)))], 1⟩ [(0 : Int) ≤ 1] (by kernel_rfl) ⟨by decide, trivial⟩ ?_
          refine AWp.seq ?_
          obtain ⟨b587, p588, q589, H⟩ := at_of H
          obtain ⟨b590, p591, q592, H⟩ := at_of H
          obtain ⟨t593, e594, H⟩ := bind_of H
          refine reg hP hn hm [(4, .c (eBucket b587)), (8, .c (eBucket b590)), (9, .call [] [] [] [] 0 (iV .i64 t593) [])] [0, 2, 4, 14, 15, 16, 103] [0] ⟨[(0, .own 0), (2, iV .i64 a2), (4, .im (.sc (.func (.func 70) #[] #[]))), (14, iV .i64 x576), (15, iV .i64 x577), (16, iV .i64 (IntKind.i64.wrap (Int.fdiv (IntKind.u64.wrap (IntKind.i64.wrap (x576 + x577))) 2))), (103, bV (!(decide (t593 < (0 : Int)))))], [(0, some (.row 2 54 (a0.map eBucket)))], 1⟩ [0 ≤ a2, a2 < (((a0.map eBucket).length : Nat) : Int), (a0.map eBucket)[(Int.toNat (a2))]? = some (eBucket b587), 0 ≤ (IntKind.i64.wrap (Int.fdiv (IntKind.u64.wrap (IntKind.i64.wrap (x576 + x577))) 2)), IntKind.i64.wrap (Int.fdiv (IntKind.u64.wrap (IntKind.i64.wrap (x576 + x577))) 2) < (((a0.map eBucket).length : Nat) : Int), (a0.map eBucket)[(Int.toNat (IntKind.i64.wrap (Int.fdiv (IntKind.u64.wrap (IntKind.i64.wrap (x576 + x577))) 2)))]? = some (eBucket b590), Enters Try.prog 70, Pv.Fn Try.prog 70 [.agg (aBucket b587), .agg (aBucket b590)] [] 0 (fun r o => r = iV .i64 t593 ∧ o = [])] (by kernel_rfl) ⟨by exact p588, by exact el_lt eBucket p588 q589, by exact el_map eBucket q589, by exact p591, by exact el_lt eBucket p591 q592, by exact el_map eBucket q592, by exact Try.call70, by exact f_hist_tidy_1.ok b587 b590 t593 e594, trivial⟩ ?_
          obtain ⟨o803, e804, H⟩ := bind_of H
          refine AWp.mono (Q := fun e s => (match (generalizing := false) o803 with | (x596, x597) => e = .normal ∧ s = ⟨[(0, .own 0), (2, iV .i64 a2), (4, .im (.sc (.func (.func 70) #[] #[]))), (14, iV .i64 x596), (15, iV .i64 x597)], [(0, some (.row 2 54 (a0.map eBucket)))], 1⟩)) (AWp.cv ?_) ?_
          · replace H := e804; clear e804
            refine AWp.cond (!(decide (t593 < (0 : Int)))) rfl (fun c595 => ?_) (fun c595 => ?_)
            · replace H := (ifT c595).symm.trans H
              refine reg hP hn hm [] [0, 2, 4, 14, 15] [0] ⟨[(0, .own 0), (2, iV .i64 a2), (4, .im (.sc (.func (.func 70) #[] #[]))), (14, iV .i64 (IntKind.i64.wrap ((IntKind.i64.wrap (Int.fdiv (IntKind.u64.wrap (IntKind.i64.wrap (x576 + x577))) 2)) + (1 : Int)))), (15, iV .i64 x577)], [(0, some (.row 2 54 (a0.map eBucket)))], 1⟩ [] (by kernel_rfl) trivial ?_
              obtain rfl := Option.some.inj H
              exact Exists.intro _ (And.intro (fun _ _ h => h.conv (inv := [(0, 0)]) (vk := []) (e0 := []) (t := ⟨[(0, .own 0), (2, iV .i64 a2), (4, .im (.sc (.func (.func 70) #[] #[]))), (14, iV .i64 (IntKind.i64.wrap ((IntKind.i64.wrap (Int.fdiv (IntKind.u64.wrap (IntKind.i64.wrap (x576 + x577))) 2)) + (1 : Int)))), (15, iV .i64 x577)], [(0, some (.row 2 54 (a0.map eBucket)))], 1⟩) (by kernel_rfl)) (And.intro rfl rfl))
            · replace H := (ifF c595).symm.trans H
              refine reg hP hn hm [] [0, 2, 4, 14, 15] [0] ⟨[(0, .own 0), (2, iV .i64 a2), (4, .im (.sc (.func (.func 70) #[] #[]))), (14, iV .i64 x576), (15, iV .i64 (IntKind.i64.wrap (Int.fdiv (IntKind.u64.wrap (IntKind.i64.wrap (x576 + x577))) 2)))], [(0, some (.row 2 54 (a0.map eBucket)))], 1⟩ [] (by kernel_rfl) trivial ?_
              obtain rfl := Option.some.inj H
              exact Exists.intro _ (And.intro (fun _ _ h => h.conv (inv := [(0, 0)]) (vk := []) (e0 := []) (t := ⟨[(0, .own 0), (2, iV .i64 a2), (4, .im (.sc (.func (.func 70) #[] #[]))), (14, iV .i64 x576), (15, iV .i64 (IntKind.i64.wrap (Int.fdiv (IntKind.u64.wrap (IntKind.i64.wrap (x576 + x577))) 2)))], [(0, some (.row 2 54 (a0.map eBucket)))], 1⟩) (by kernel_rfl)) (And.intro rfl rfl))
          · obtain ⟨x596, x597⟩ := o803
            rintro e s ⟨rfl, rfl⟩
            exact LWp.conv (inv := [(0, 0)]) (vk := []) (e0 := []) (t := ⟨[(0, .own 0), (2, iV .i64 a2), (4, .im (.sc (.func (.func 70) #[] #[]))), (14, iV .i64 x596), (15, iV .i64 x597)], [(0, some (.row 2 54 (a0.map eBucket)))], 1⟩) (by kernel_rfl) (ih _ _ _ H)
        · replace H := (ifF c578).symm.trans H
          refine AWp.exit ?_
          obtain rfl := Option.some.inj H
          exact Exists.intro _ (And.intro (fun _ _ h => h.conv (inv := [(0, 0)]) (vk := []) (e0 := []) (t := ⟨[(0, .own 0), (2, iV .i64 a2), (14, iV .i64 x576)], [(0, some (.row 2 54 (a0.map eBucket)))], 1⟩) (by kernel_rfl)) (And.intro rfl rfl))
      · obtain ⟨x598, rfl⟩ : ∃ z, z = o801 := ⟨_, rfl⟩
        rintro e s ⟨rfl, rfl⟩
        refine AWp.seq ?_
        refine AWp.seq ?_
        refine reg hP hn hm [] [0, 14, 17] [0] ⟨[(0, .own 0), (14, iV .i64 x598), (17, iV .i64 a2)], [(0, some (.row 2 54 (a0.map eBucket)))], 1⟩ [] (by kernel_rfl) trivial ?_
        refine AWp.block ?_
        obtain ⟨o805, e806, H⟩ := bind_of H
        refine AWp.loop (LWp.conv (inv := [(0, 0)]) (vk := []) (e0 := []) (t := ⟨[(0, .own 0), (14, iV .i64 x598), (17, iV .i64 a2)], [(0, some (.row 2 54 (a0.map eBucket)))], 1⟩) (by kernel_rfl) ?_)
        refine LWp.mono (Q := fun e s => (match (generalizing := false) o805 with | x639 => e = .exit 6 ∧ s = ⟨[], [(0, some (.row 2 54 (x639.map eBucket)))], 1⟩)) (LWp.cv (withBody (fun body hbody => ?_))) ?_
        · refine f_slices_symMergeCmpFunc_api_Bucket_hist_tidy_1.l3.partial_correctness x598 (motive := fun x618 x619 o805 => LWp Γ body (fun e s => ∃ t, Cv Γ s t ∧ (match (generalizing := false) o805 with | x639 => e = .exit 6 ∧ t = ⟨[], [(0, some (.row 2 54 (x639.map eBucket)))], 1⟩)) ⟨[(0, .own 0), (14, iV .i64 x598), (17, iV .i64 x619)], [(0, some (.row 2 54 (x618.map eBucket)))], 1⟩) ?_ _ _ _ e806
          clear H e806 o805; intro self ih x618 x619 o805 H
          subst hbody
          refine LWp.round ?_
          refine AWp.seq ?_
          refine AWp.seq ?_
          refine reg hP hn hm [] [0, 14, 17, 110] [0] ⟨[(0, .own 0), (14, iV .i64 x598), (17, iV .i64 x619), (110, bV (decide (x619 > x598)))], [(0, some (.row 2 54 (x618.map eBucket)))], 1⟩ [] (by kernel_rfl) trivial ?_
          refine AWp.cond (decide (x619 > x598)) rfl (fun c620 => ?_) (fun c620 => ?_)
          · replace H := (ifT c620).symm.trans H
            refine AWp.skip ?_
            refine AWp.seq ?_
            refine AWp.block ?_
            obtain ⟨b630, p631, q632, H⟩ := at_of H
            obtain ⟨b633, p634, q635, H⟩ := at_of H
            obtain ⟨b636, p637, q638, H⟩ := at_of H
            refine reg hP hn hm [(9, .c (eBucket b630)), (13, .c (eBucket b633)), (15, .put (eBucket b633) ((x618.set (Int.toNat (x619)) b630).map eBucket)), (17, .put (eBucket b636) (((x618.set (Int.toNat (x619)) b630).set (Int.toNat (IntKind.i64.wrap (x619 - (1 : Int)))) b633).map eBucket))] [0, 14, 17] [0] ⟨[(0, .own 0), (14, iV .i64 x598), (17, iV .i64 x619)], [(0, some (.row 2 54 (((x618.set (Int.toNat (x619)) b630).set (Int.toNat (IntKind.i64.wrap (x619 - (1 : Int)))) b633).map eBucket)))], 1⟩ [0 ≤ (IntKind.i64.wrap (x619 - (1 : Int))), IntKind.i64.wrap (x619 - (1 : Int)) < (((x618.map eBucket).length : Nat) : Int), (x618.map eBucket)[(Int.toNat (IntKind.i64.wrap (x619 - (1 : Int))))]? = some (eBucket b630), 0 ≤ x619, x619 < (((x618.map eBucket).length : Nat) : Int), (x618.map eBucket)[(Int.toNat (x619))]? = some (eBucket b633), 0 ≤ x619, x619 < (((x618.map eBucket).length : Nat) : Int), (x618.map eBucket)[(Int.toNat (x619))]? = some (eBucket b633), (x618.set (Int.toNat (x619)) b630).map eBucket = (x618.map eBucket).set (Int.toNat (x619)) (splice (eBucket b633) 0 [iI .i64 b630.f0, iI .u64 b630.f1]), 0 ≤ (IntKind.i64.wrap (x619 - (1 : Int))), IntKind.i64.wrap (x619 - (1 : Int)) < ((((x618.set (Int.toNat (x619)) b630).map eBucket).length : Nat) : Int), ((x618.set (Int.toNat (x619)) b630).map eBucket)[(Int.toNat (IntKind.i64.wrap (x619 - (1 : Int))))]? = some (eBucket b636), ((x618.set (Int.toNat (x619)) b630).set (Int.toNat (IntKind.i64.wrap (x619 - (1 : Int)))) b633).map eBucket = ((x618.set (Int.toNat (x619)) b630).map eBucket).set (Int.toNat (IntKind.i64.wrap (x619 - (1 : Int)))) (splice (eBucket b636) 0 [iI .i64 b633.f0, iI .u64 b633.f1])] (by kernel_rfl) ⟨by exact p631, by exact el_lt eBucket p631 q632, by exact el_map eBucket q632, by exact p634, by exact el_lt eBucket p634 q635, by exact el_map eBucket q635, by exact p634, by exact el_lt eBucket p634 q635, by exact el_map eBucket q635, by exact set1 _ _ _ _, by exact p637, by exact el_lt eBucket p637 q638, by exact el_map eBucket q638, by exact set1 _ _ _ _, trivial⟩ ?_
            refine reg hP hn hm [] [0, 14, 17] [0] ⟨[(0, .own 0), (14, iV .i64 x598), (17, iV .i64 (IntKind.i64.wrap (x619 - (1 : Int))))], [(0, some (.row 2 54 (((x618.set (Int.toNat (x619)) b630).set (Int.toNat (IntKind.i64.wrap (x619 - (1 : Int)))) b633).map eBucket)))], 1⟩ [] (by kernel_rfl) trivial ?_
            exact LWp.conv (inv := [(0, 0)]) (vk := []) (e0 := []) (t := ⟨[(0, .own 0), (14, iV .i64 x598), (17, iV .i64 (IntKind.i64.wrap (x619 - (1 : Int))))], [(0, some (.row 2 54 (((x618.set (Int.toNat (x619)) b630).set (Int.toNat (IntKind.i64.wrap (x619 - (1 : Int)))) b633).map eBucket)))], 1⟩) (by kernel_rfl) (ih _ _ _ H)
          · replace H := (ifF c620).symm.trans H
            refine AWp.exit ?_
            obtain rfl := Option.some.inj H
            exact Exists.intro _ (And.intro (fun _ _ h => h.conv (inv := [(0, 0)]) (vk := []) (e0 := []) (t := ⟨[], [(0, some (.row 2 54 (x618.map eBucket)))], 1⟩) (by kernel_rfl)) (And.intro rfl rfl))
        · obtain ⟨x639, rfl⟩ : ∃ z, z = o805 := ⟨_, rfl⟩
          rintro e s ⟨rfl, rfl⟩
          refine AWp.conv (inv := [(0, 0)]) (vk := []) (e0 := []) (t := ⟨[], [(0, some (.row 2 54 (x639.map eBucket)))], 1⟩) (by kernel_rfl) ?_
          refine AWp.ret ?_
          obtain rfl := Option.some.inj H
          exact Exists.intro _ (And.intro (fun _ _ h => h) (And.intro (.inl rfl) (And.intro rfl (And.intro (by kernel_rfl) (by kernel_rfl)))))
    · replace H := (ifF c555).symm.trans H
      refine AWp.skip ?_
      refine AWp.seq ?_
      refine reg hP hn hm [] [0, 1, 2, 3, 4, 18] [0] ⟨[(0, .own 0), (1, iV .i64 a1), (2, iV .i64 a2), (3, iV .i64 a3), (4, .im (.sc (.func (.func 70) #[] #[]))), (18, iV .i64 (IntKind.i64.wrap (Int.fdiv (IntKind.u64.wrap (IntKind.i64.wrap (a1 + a3))) 2)))], [(0, some (.row 2 54 (a0.map eBucket)))], 1⟩ [(0 : Int) ≤ 1] (by kernel_rfl) ⟨by decide, trivial⟩ ?_
      refine AWp.seq ?_
      refine reg hP hn hm [] [0, 1, 2, 3, 4, 18, 19] [0] ⟨[(0, .own 0), (1, iV .i64 a1), (2, iV .i64 a2), (3, iV .i64 a3), (4, .im (.sc (.func (.func 70) #[] #[]))), (18, iV .i64 (IntKind.i64.wrap (Int.fdiv (IntKind.u64.wrap (IntKind.i64.wrap (a1 + a3))) 2))), (19, iV .i64 (IntKind.i64.wrap ((IntKind.i64.wrap (Int.fdiv (IntKind.u64.wrap (IntKind.i64.wrap (a1 + a3))) 2)) + a2)))], [(0, some (.row 2 54 (a0.map eBucket)))], 1⟩ [] (by kernel_rfl) trivial ?_
      refine AWp.seq ?_
      refine reg hP hn hm [] [0, 1, 2, 3, 4, 18, 19] [0] ⟨[(0, .own 0), (1, iV .i64 a1), (2, iV .i64 a2), (3, iV .i64 a3), (4, .im (.sc (.func (.func 70) #[] #[]))), (18, iV .i64 (IntKind.i64.wrap (Int.fdiv (IntKind.u64.wrap (IntKind.i64.wrap (a1 + a3))) 2))), (19, iV .i64 (IntKind.i64.wrap ((IntKind.i64.wrap (Int.fdiv (IntKind.u64.wrap (IntKind.i64.wrap (a1 + a3))) 2)) + a2)))], [(0, some (.row 2 54 (a0.map eBucket)))], 1⟩ [] (by kernel_rfl) trivial ?_
      refine AWp.seq ?_
      refine AWp.seq ?_
      refine reg hP hn hm [] [0, 1, 2, 3, 4, 18, 19, 140] [0] ⟨[(0, .own 0), (1, iV .i64 a1), (2, iV .i64 a2), (3, iV .i64 a3), (4, .im (.sc (.func (.func 70) #[] #[]))), (18, iV .i64 (IntKind.i64.wrap (Int.fdiv (IntKind.u64.wrap (IntKind.i64.wrap (a1 + a3))) 2))), (19, iV .i64 (IntKind.i64.wrap ((IntKind.i64.wrap (Int.fdiv (IntKind.u64.wrap (IntKind.i64.wrap (a1 + a3))) 2)) + a2))), (140, bV (decide (a2 > (IntKind.i64.wrap (Int.fdiv (IntKind.u64.wrap (IntKind.i64.wrap (a1 + a3))) 2)))))], [(0, some (.row 2 54 (a0.map eBucket)))], 1⟩ [] (by kernel_rfl) trivial ?_
      obtain ⟨o807, e808, H⟩ := bind_of H
      refine AWp.mono (Q := fun e s => (match (generalizing := false) o807 with | (x641, x642) => e = .normal ∧ s = ⟨[(0, .own 0), (1, iV .i64 a1), (2, iV .i64 a2), (3, iV .i64 a3), (4, .im (.sc (.func (.func 70) #[] #[]))), (18, iV .i64 (IntKind.i64.wrap (Int.fdiv (IntKind.u64.wrap (IntKind.i64.wrap (a1 + a3))) 2))), (19, iV .i64 (IntKind.i64.wrap ((IntKind.i64.wrap (Int.fdiv (IntKind.u64.wrap (IntKind.i64.wrap (a1 + a3))) 2)) + a2))), (20, iV .i64 x641), (21, iV .i64 x642)], [(0, some (.row 2 54 (a0.map eBucket)))], 1⟩)) (AWp.cv ?_) ?_
      · replace H := e808; clear e808
        refine AWp.cond (decide (a2 > (IntKind.i64.wrap (Int.fdiv (IntKind.u64.wrap (IntKind.i64.wrap (a1 + a3))) 2)))) rfl (fun c640 => ?_) (fun c640 => ?_)
        · replace H := (ifT c640).symm.trans H
          refine AWp.seq ?_
          refine reg hP hn hm [] [0, 1, 2, 3, 4, 18, 19, 20] [0] ⟨[(0, .own 0), (1, iV .i64 a1), (2, iV .i64 a2), (3, iV .i64 a3), (4, .im (.sc (.func (.func 70) #[] #[]))), (18, iV .i64 (IntKind.i64.wrap (Int.fdiv (IntKind.u64.wrap (IntKind.i64.wrap (a1 + a3))) 2))), (19, iV .i64 (IntKind.i64.wrap ((IntKind.i64.wrap (Int.fdiv (IntKind.u64.wrap (IntKind.i64.wrap (a1 + a3))) 2)) + a2))), (20, iV .i64 (IntKind.i64.wrap ((IntKind.i64.wrap ((IntKind.i64.wrap (Int.fdiv (IntKind.u64.wrap (IntKind.i64.wrap (a1 + a3))) 2)) + a2)) - a3)))], [(0, some (.row 2 54 (a0.map eBucket)))], 1⟩ [] (by kernel_rfl) trivial ?_
          refine reg hP hn hm [] [0, 1, 2, 3, 4, 18, 19, 20, 21] [0] ⟨[(0, .own 0), (1, iV .i64 a1), (2, iV .i64 a2), (3, iV .i64 a3), (4, .im (.sc (.func (.func 70) #[] #[]))), (18, iV .i64 (IntKind.i64.wrap (Int.fdiv (IntKind.u64.wrap (IntKind.i64.wrap (a1 + a3))) 2))), (19, iV .i64 (IntKind.i64.wrap ((IntKind.i64.wrap (Int.fdiv (IntKind.u64.wrap (IntKind.i64.wrap (a1 + a3))) 2)) + a2))), (20, iV .i64 (IntKind.i64.wrap ((IntKind.i64.wrap ((IntKind.i64.wrap (Int.fdiv (IntKind.u64.wrap (IntKind.i64.wrap (a1 + a3))) 2)) + a2)) - a3))), (21, iV .i64 (IntKind.i64.wrap (Int.fdiv (IntKind.u64.wrap (IntKind.i64.wrap (a1 + a3))) 2)))], [(0, some (.row 2 54 (a0.map eBucket)))], 1⟩ [] (by kernel_rfl) trivial ?_
          obtain rfl := Option.some.inj H
          exact Exists.intro _ (And.intro (fun _ _ h => h.conv (inv := [(0, 0)]) (vk := []) (e0 := []) (t := ⟨[(0, .own 0), (1, iV .i64 a1), (2, iV .i64 a2), (3, iV .i64 a3), (4, .im (.sc (.func (.func 70) #[] #[]))), (18, iV .i64 (IntKind.i64.wrap (Int.fdiv (IntKind.u64.wrap (IntKind.i64.wrap (a1 + a3))) 2))), (19, iV .i64 (IntKind.i64.wrap ((IntKind.i64.wrap (Int.fdiv (IntKind.u64.wrap (IntKind.i64.wrap (a1 + a3))) 2)) + a2))), (20, iV .i64 (IntKind.i64.wrap ((IntKind.i64.wrap ((IntKind.i64.wrap (Int.fdiv (IntKind.u64.wrap (IntKind.i64.wrap (a1 + a3))) 2)) + a2)) - a3))), (21, iV .i64 (IntKind.i64.wrap (Int.fdiv (IntKind.u64.wrap (IntKind.i64.wrap (a1 + a3))) 2)))], [(0, some (.row 2 54 (a0.map eBucket)))], 1⟩) (by kernel_rfl)) (And.intro rfl rfl))
        · replace H := (ifF c640).symm.trans H
          refine AWp.seq ?_
          refine reg hP hn hm [] [0, 1, 2, 3, 4, 18, 19, 20] [0] ⟨[(0, .own 0), (1, iV .i64 a1), (2, iV .i64 a2), (3, iV .i64 a3), (4, .im (.sc (.func (.func 70) #[] #[]))), (18, iV .i64 (IntKind.i64.wrap (Int.fdiv (IntKind.u64.wrap (IntKind.i64.wrap (a1 + a3))) 2))), (19, iV .i64 (IntKind.i64.wrap ((IntKind.i64.wrap (Int.fdiv (IntKind.u64.wrap (IntKind.i64.wrap (a1 + a3))) 2)) + a2))), (20, iV .i64 a1)], [(0, some (.row 2 54 (a0.map eBucket)))], 1⟩ [] (by kernel_rfl) trivial ?_
          refine reg hP hn hm [] [0, 1, 2, 3, 4, 18, 19, 20, 21] [0] ⟨[(0, .own 0), (1, iV .i64 a1), (2, iV .i64 a2), (3, iV .i64 a3), (4, .im (.sc (.func (.func 70) #[] #[]))), (18, iV .i64 (IntKind.i64.wrap (Int.fdiv (IntKind.u64.wrap (IntKind.i64.wrap (a1 + a3))) 2))), (19, iV .i64 (IntKind.i64.wrap ((IntKind.i64.wrap (Int.fdiv (IntKind.u64.wrap (IntKind.i64.wrap (a1 + a3))) 2)) + a2))), (20, iV .i64 a1), (21, iV .i64 a2)], [(0, some (.row 2 54 (a0.map eBucket)))], 1⟩ [] (by kernel_rfl) trivial ?_
          obtain rfl := Option.some.inj H
          exact Exists.intro _ (And.intro (fun _ _ h => h.conv (inv := [(0, 0)]) (vk := []) (e0 := []) (t := ⟨[(0, .own 0), (1, iV .i64 a1), (2, iV .i64 a2), (3, iV .i64 a3), (4, .im (.sc (.func (.func 70) #[] #[]))), (18, iV .i64 (IntKind.i64.wrap (Int.fdiv (IntKind.u64.wrap (IntKind.i64.wrap (a1 + a3))) 2))), (19, iV .i64 (IntKind.i64.wrap ((IntKind.i64.wrap (Int.fdiv (IntKind.u64.wrap (IntKind.i64.wrap (a1 + a3))) 2)) + a2))), (20, iV .i64 a1), (21, iV .i64 a2)], [(0, some (.row 2 54 (a0.map eBucket)))], 1⟩) (by kernel_rfl)) (And.intro rfl rfl))
      · obtain ⟨x641, x642⟩ := o807
        rintro e s ⟨rfl, rfl⟩
        refine AWp.seq ?_
        refine reg hP hn hm [] [0, 1, 2, 3, 4, 18, 19, 20, 21, 22] [0] ⟨[(0, .own 0), (1, iV .i64 a1), (2, iV .i64 a2), (3, iV .i64 a3), (4, .im (.sc (.func (.func 70) #[] #[]))), (18, iV .i64 (IntKind.i64.wrap (Int.fdiv (IntKind.u64.wrap (IntKind.i64.wrap (a1 + a3))) 2))), (19, iV .i64 (IntKind.i64.wrap ((IntKind.i64.wrap (Int.fdiv (IntKind.u64.wrap (IntKind.i64.wrap (a1 + a3))) 2)) + a2))), (20, iV .i64 x641), (21, iV .i64 x642), (22, iV .i64 (IntKind.i64.wrap ((IntKind.i64.wrap ((IntKind.i64.wrap (Int.fdiv (IntKind.u64.wrap (IntKind.i64.wrap (a1 + a3))) 2)) + a2)) - (1 : Int))))], [(0, some (.row 2 54 (a0.map eBucket)))], 1⟩ [] (by kernel_rfl) trivial ?_
        refine AWp.seq ?_
        refine AWp.block ?_
        obtain ⟨o809, e810, H⟩ := bind_of H
        refine AWp.loop (LWp.conv (inv := [(0, 0)]) (vk := []) (e0 := []) (t := ⟨[(0, .own 0), (1, iV .i64 a1), (2, iV .i64 a2), (3, iV .i64 a3), (4, .im (.sc (.func (.func 70) #[] #[]))), (18, iV .i64 (IntKind.i64.wrap (Int.fdiv (IntKind.u64.wrap (IntKind.i64.wrap (a1 + a3))) 2))), (19, iV .i64 (IntKind.i64.wrap ((IntKind.i64.wrap (Int.fdiv (IntKind.u64.wrap (IntKind.i64.wrap (a1 + a3))) 2)) + a2))), (20, iV .i64 x641), (21, iV .i64 x642), (22, iV .i64 (IntKind.i64.wrap ((IntKind.i64.wrap ((IntKind.i64.wrap (Int.fdiv (IntKind.u64.wrap (IntKind.i64.wrap (a1 + a3))) 2)) + a2)) - (1 : Int))))], [(0, some (.row 2 54 (a0.map eBucket)))], 1⟩) (by kernel_rfl) ?_)
        refine LWp.mono (Q := fun e s => (match (generalizing := false) o809 with | x685 => e = .exit 8 ∧ s = ⟨[(0, .own 0), (1, iV .i64 a1), (2, iV .i64 a2), (3, iV .i64 a3), (4, .im (.sc (.func (.func 70) #[] #[]))), (18, iV .i64 (IntKind.i64.wrap (Int.fdiv (IntKind.u64.wrap (IntKind.i64.wrap (a1 + a3))) 2))), (19, iV .i64 (IntKind.i64.wrap ((IntKind.i64.wrap (Int.fdiv (IntKind.u64.wrap (IntKind.i64.wrap (a1 + a3))) 2)) + a2))), (20, iV .i64 x685)], [(0, some (.row 2 54 (a0.map eBucket)))], 1⟩)) (LWp.cv (withBody (fun body hbody => ?_))) ?_
        · refine f_slices_symMergeCmpFunc_api_Bucket_hist_tidy_1.l4.partial_correctness a0 a1 a2 a3 (motive := fun x663 x664 o809 => LWp Γ body (fun e s => ∃ t, Cv Γ s t ∧ (match (generalizing := false) o809 with | x685 => e = .exit 8 ∧ t = ⟨[(0, .own 0), (1, iV .i64 a1), (2, iV .i64 a2), (3, iV .i64 a3), (4, .im (.sc (.func (.func 70) #[] #[]))), (18, iV .i64 (IntKind.i64.wrap (Int.fdiv (IntKind.u64.wrap (IntKind.i64.wrap (a1 + a3))) 2))), (19, iV .i64 (IntKind.i64.wrap ((IntKind.i64.wrap (Int.fdiv (IntKind.u64.wrap (IntKind.i64.wrap (a1 + a3))) 2)) + a2))), (20, iV .i64 x685)], [(0, some (.row 2 54 (a0.map eBucket)))], 1⟩)) ⟨[(0, .own 0), (1, iV .i64 a1), (2, iV .i64 a2), (3, iV .i64 a3), (4, .im (.sc (.func (.func 70) #[] #[]))), (18, iV .i64 (IntKind.i64.wrap (Int.fdiv (IntKind.u64.wrap (IntKind.i64.wrap (a1 + a3))) 2))), (19, iV .i64 (IntKind.i64.wrap ((IntKind.i64.wrap (Int.fdiv (IntKind.u64.wrap (IntKind.i64.wrap (a1 + a3))) 2)) + a2))), (20, iV .i64 x663), (21, iV .i64 x664), (22, iV .i64 (IntKind.i64.wrap ((IntKind.i64.wrap ((IntKind.i64.wrap (Int.fdiv (IntKind.u64.wrap (IntKind.i64.wrap (a1 + a3))) 2)) + a2)) - (1 : Int))))], [(0, some (.row 2 54 (a0.map eBucket)))], 1⟩) ?_ _ _ _ e810
          clear H e810 o809; intro self ih x663 x664 o809 H
          subst hbody
          refine LWp.round ?_
          refine AWp.seq ?_
          refine AWp.seq ?_
          refine reg hP hn hm [] [0, 1, 2, 3, 4, 18, 19, 20, 21, 22, 151] [0] ⟨[(0, .own 0), (1, iV .i64 a1), (2, iV .i64 a2), (3, iV .i64 a3), (4, .im (.sc (.func (.func 70) #[] #[]))), (18, iV .i64 (IntKind.i64.wrap (Int.fdiv (IntKind.u64.wrap (IntKind.i64.wrap (a1 + a3))) 2))), (19, iV .i64 (IntKind.i64.wrap ((IntKind.i64.wrap (Int.fdiv (IntKind.u64.wrap (IntKind.i64.wrap (a1 + a3))) 2)) + a2))), (20, iV .i64 x663), (21, iV .i64 x664), (22, iV .i64 (IntKind.i64.wrap ((IntKind.i64.wrap ((IntKind.i64.wrap (Int.fdiv (IntKind.u64.wrap (IntKind.i64.wrap (a1 + a3))) 2)) + a2)) - (1 : Int)))), (151, bV (decide (x663 < x664)))], [(0, some (.row 2 54 (a0.map eBucket)))], 1⟩ [] (by kernel_rfl) trivial ?_
          refine AWp.cond (decide (x663 < x664)) rfl (fun c665 => ?_) (fun c665 => ?_)
          · replace H := (ifT c665).symm.trans H
            refine AWp.skip ?_
            refine AWp.block ?_
            refine AWp.seq ?_
            refine reg hP hn hm [] [0, 1, 2, 3, 4, 18, 19, 20, 21, 22, 23] [0] ⟨[(0, .own 0), (1, iV .i64 a1), (2, iV .i64 a2), (3, iV .i64 a3), (4, .im (.sc (.func (.func 70) #[] #[]))), (18, iV .i64 (IntKind.i64.wrap (Int.fdiv (IntKind.u64.wrap (IntKind.i64.wrap (a1 + a3))) 2))), (19, iV .i64 (IntKind.i64.wrap ((IntKind.i64.wrap (Int.fdiv (IntKind.u64.wrap (IntKind.i64.wrap (a1 + a3))) 2)) + a2))), (20, iV .i64 x663), (21, iV .i64 x664), (22, iV .i64 (IntKind.i64.wrap ((IntKind.i64.wrap ((IntKind.i64.wrap (Int.fdiv (IntKind.u64.wrap (IntKind.i64.wrap (a1 + a3))) 2)) + a2)) - (1 : Int)))), (23, iV .i64 (IntKind.i64.wrap (Int.fdiv (IntKind.u64.wrap (IntKind.i64.wrap (x663 + x664))) 2)))], [(0, some (.row 2 54 (a0.map eBucket)))], 1⟩ [(0 : Int) ≤ 1] (by kernel_rfl) ⟨by decide, trivial⟩ ?_
            refine AWp.seq ?_
            obtain ⟨b674, p675, q676, H⟩ := at_of H
            obtain ⟨b677, p678, q679, H⟩ := at_of H
            obtain ⟨t680, e681, H⟩ := bind_of H
            refine reg hP hn hm [(6, .c (eBucket b674)), (10, .c (eBucket b677)), (11, .call [] [] [] [] 0 (iV .i64 t680) [])] [0, 1, 2, 3, 4, 18, 19, 20, 21, 22, 23, 171] [0] ⟨[(0, .own 0), (1, iV .i64 a1), (2, iV .i64 a2), (3, iV .i64 a3), (4, .im (.sc (.func (.func 70) #[] #[]))), (18, iV .i64 (IntKind.i64.wrap (Int.fdiv (IntKind.u64.wrap (IntKind.i64.wrap (a1 + a3))) 2))), (19, iV .i64 (IntKind.i64.wrap ((IntKind.i64.wrap (Int.fdiv (IntKind.u64.wrap (IntKind.i64.wrap (a1 + a3))) 2)) + a2))), (20, iV .i64 x663), (21, iV .i64 x664), (22, iV .i64 (IntKind.i64.wrap ((IntKind.i64.wrap ((IntKind.i64.wrap (Int.fdiv (IntKind.u64.wrap (IntKind.i64.wrap (a1 + a3))) 2)) + a2)) - (1 : Int)))), (23, iV .i64 (IntKind.i64.wrap (Int.fdiv (IntKind.u64.wrap (IntKind.i64.wrap (x663 + x664))) 2))), (171, bV (!(decide (t680 < (0 : Int)))))], [(0, some (.row 2 54 (a0.map eBucket)))], 1⟩ [0 ≤ (IntKind.i64.wrap ((IntKind.i64.wrap ((IntKind.i64.wrap ((IntKind.i64.wrap (Int.fdiv (IntKind.u64.wrap (IntKind.i64.wrap (a1 + a3))) 2)) + a2)) - (1 : Int))) - (IntKind.i64.wrap (Int.fdiv (IntKind.u64.wrap (IntKind.i64.wrap (x663 + x664))) 2)))), IntKind.i64.wrap ((IntKind.i64.wrap ((IntKind.i64.wrap ((IntKind.i64.wrap (Int.fdiv (IntKind.u64.wrap (IntKind.i64.wrap (a1 + a3))) 2)) + a2)) - (1 : Int))) - (IntKind.i64.wrap (Int.fdiv (IntKind.u64.wrap (IntKind.i64.wrap (x663 + x664))) 2))) < (((a0.map eBucket).length : Nat) : Int), (a0.map eBucket)[(Int.toNat (IntKind.i64.wrap ((IntKind.i64.wrap ((IntKind.i64.wrap ((IntKind.i64.wrap (Int.fdiv (IntKind.u64.wrap (IntKind.i64.wrap (a1 + a3))) 2)) + a2)) - (1 : Int))) - (IntKind.i64.wrap (Int.fdiv (IntKind.u64.wrap (IntKind.i64.wrap (x663 + x664))) 2)))))]? = some (eBucket b674), 0 ≤ (IntKind.i64.wrap (Int.fdiv (IntKind.u64.wrap (IntKind.i64.wrap (x663 + x664))) 2)), IntKind.i64.wrap (Int.fdiv (IntKind.u64.wrap (IntKind.i64.wrap (x663 + x664))) 2) < (((a0.map eBucket).length : Nat) : Int), (a0.map eBucket)[(Int.toNat (IntKind.i64.wrap (Int.fdiv (IntKind.u64.wrap (IntKind.i64.wrap (x663 + x664))) 2)))]? = some (eBucket b677), Enters Try.prog 70, Pv.Fn Try.prog 70 [.agg (aBucket b674), .agg (aBucket b677)] [] 0 (fun r o => r = iV .i64 t680 ∧ o = [])] (by kernel_rfl) ⟨by exact p675, by exact el_lt eBucket p675 q676, by exact el_map eBucket q676, by exact p678, by exact el_lt eBucket p678 q679, by exact el_map eBucket q679, by exact Try.call70, by exact f_hist_tidy_1.ok b674 b677 t680 e681, trivial⟩ ?_
            obtain ⟨o811, e812, H⟩ := bind_of H
            refine AWp.mono (Q := fun e s => (match (generalizing := false) o811 with | (x683, x684) => e = .normal ∧ s = ⟨[(0, .own 0), (1, iV .i64 a1), (2, iV .i64 a2), (3, iV .i64 a3), (4, .im (.sc (.func (.func 70) #[] #[]))), (18, iV .i64 (IntKind.i64.wrap (Int.fdiv (IntKind.u64.wrap (IntKind.i64.wrap (a1 + a3))) 2))), (19, iV .i64 (IntKind.i64.wrap ((IntKind.i64.wrap (Int.fdiv (IntKind.u64.wrap (IntKind.i64.wrap (a1 + a3))) 2)) + a2))), (20, iV .i64 x683), (21, iV .i64 x684), (22, iV .i64 (IntKind.i64.wrap ((IntKind.i64.wrap ((IntKind.i64.wrap (Int.fdiv (IntKind.u64.wrap (IntKind.i64.wrap (a1 + a3))) 2)) + a2)) - (1 : Int))))], [(0, some (.row 2 54 (a0.map eBucket)))], 1⟩)) (AWp.cv ?_) ?_
            · replace H := e812; clear e812
              refine AWp.cond (!(decide (t680 < (0 : Int)))) rfl (fun c682 => ?_) (fun c682 => ?_)
              · replace H := (ifT c682).symm.trans H
                refine reg hP hn hm [] [0, 1, 2, 3, 4, 18, 19, 20, 21, 22] [0] ⟨[(0, .own 0), (1, iV .i64 a1), (2, iV .i64 a2), (3, iV .i64 a3), (4, .im (.sc (.func (.func 70) #[] #[]))), (18, iV .i64 (IntKind.i64.wrap (Int.fdiv (IntKind.u64.wrap (IntKind.i64.wrap (a1 + a3))) 2))), (19, iV .i64 (IntKind.i64.wrap ((IntKind.i64.wrap (Int.fdiv (IntKind.u64.wrap (IntKind.i64.wrap (a1 + a3))) 2)) + a2))), (20, iV .i64 (IntKind.i64.wrap ((IntKind.i64.wrap (Int.fdiv (IntKind.u64.wrap (IntKind.i64.wrap (x663 + x664))) 2)) + (1 : Int)))), (21, iV .i64 x664), (22, iV .i64 (IntKind.i64.wrap ((IntKind.i64.wrap ((IntKind.i64.wrap (Int.fdiv (IntKind.u64.wrap (IntKind.i64.wrap (a1 + a3))) 2)) + a2)) - (1 : Int))))], [(0, some (.row 2 54 (a0.map eBucket)))], 1⟩ [] (by kernel_rfl) trivial ?_
                obtain rfl := Option.some.inj H
                exact Exists.intro _ (And.intro (fun _ _ h => h.conv (inv := [(0, 0)]) (vk := []) (e0 := []) (t := ⟨[(0, .own 0), (1, iV .i64 a1), (2, iV .i64 a2), (3, iV .i64 a3), (4, .im (.sc (.func (.func 70) #[] #[]))), (18, iV .i64 (IntKind.i64.wrap (Int.fdiv (IntKind.u64.wrap (IntKind.i64.wrap (a1 + a3))) 2))), (19, iV .i64 (IntKind.i64.wrap ((IntKind.i64.wrap (Int.fdiv (IntKind.u64.wrap (IntKind.i64.wrap (a1 + a3))) 2)) + a2))), (20, iV .i64 (IntKind.i64.wrap ((IntKind.i64.wrap (Int.fdiv (IntKind.u64.wrap (IntKind.i64.wrap (x663 + x664))) 2)) + (1 : Int)))), (21, iV .i64 x664), (22, iV .i64 (IntKind.i64.wrap ((IntKind.i64.wrap ((IntKind.i64.wrap (Int.fdiv (IntKind.u64.wrap (IntKind.i64.wrap (a1 + a3))) 2)) + a2)) - (1 : Int))))], [(0, some (.row 2 54 (a0.map eBucket)))], 1⟩) (by kernel_rfl)) (And.intro rfl rfl))
              · replace H := (ifF c682).symm.trans H
                refine reg hP hn hm [] [0, 1, 2, 3, 4, 18, 19, 20, 21, 22] [0] ⟨[(0, .own 0), (1, iV .i64 a1), (2, iV .i64 a2), (3, iV .i64 a3), (4, .im (.sc (.func (.func 70) #[] #[]))), (18, iV .i64 (IntKind.i64.wrap (Int.fdiv (IntKind.u64.wrap (IntKind.i64.wrap (a1 + a3))) 2))), (19, iV .i64 (IntKind.i64.wrap ((IntKind.i64.wrap (Int.fdiv (IntKind.u64.wrap (IntKind.i64.wrap (a1 + a3))) 2)) + a2))), (20, iV .i64 x663), (21, iV .i64 (IntKind.i64.wrap (Int.fdiv (IntKind.u64.wrap (IntKind.i64.wrap (x663 + x664))) 2))), (22, iV .i64 (IntKind.i64.wrap ((IntKind.i64.wrap ((IntKind.i64.wrap (Int.fdiv (IntKind.u64.wrap (IntKind.i64.wrap (a1 + a3))) 2)) + a2)) - (1 : Int))))], [(0, some (.row 2 54 (a0.map eBucket)))], 1⟩ [] (by kernel_rfl) trivial ?_
                obtain rfl := Option.some.inj H
                exact Exists.intro _ (And.intro (fun _ _ h => h.conv (inv := [(0, 0)]) (vk := []) (e0 := []) (t := ⟨[(0, .own 0), (1, iV .i64 a1), (2, iV .i64 a2), (3, iV .i64 a3), (4, .im (.sc (.func (.func 70) #[] #[]))), (18, iV .i64 (IntKind.i64.wrap (Int.fdiv (IntKind.u64.wrap (IntKind.i64.wrap (a1 + a3))) 2))), (19, iV .i64 (IntKind.i64.wrap ((IntKind.i64.wrap (Int.fdiv (IntKind.u64.wrap (IntKind.i64.wrap (a1 + a3))) 2)) + a2))), (20, iV .i64 x663), (21, iV .i64 (IntKind.i64.wrap (Int.fdiv (IntKind.u64.wrap (IntKind.i64.wrap (x663 + x664))) 2))), (22, iV .i64 (IntKind.i64.wrap ((IntKind.i64.wrap ((IntKind.i64.wrap (Int.fdiv (IntKind.u64.wrap (IntKind.i64.wrap (a1 + a3))) 2)) + a2)) - (1 : Int))))], [(0, some (.row 2 54 (a0.map eBucket)))], 1⟩) (by kernel_rfl)) (And.intro rfl rfl))
            · obtain ⟨x683, x684⟩ := o811
              rintro e s ⟨rfl, rfl⟩
              exact LWp.conv (inv := [(0, 0)]) (vk := []) (e0 := []) (t := ⟨[(0, .own 0), (1, iV .i64 a1), (2, iV .i64 a2), (3, iV .i64 a3), (4, .im (.sc (.func (.func 70) #[] #[]))), (18, iV .i64 (IntKind.i64.wrap (Int.fdiv (IntKind.u64.wrap (IntKind.i64.wrap (a1 + a3))) 2))), (19, iV .i64 (IntKind.i64.wrap ((IntKind.i64.wrap (Int.fdiv (IntKind.u64.wrap (IntKind.i64.wrap (a1 + a3))) 2)) + a2))), (20, iV .i64 x683), (21, iV .i64 x684), (22, iV .i64 (IntKind.i64.wrap ((IntKind.i64.wrap ((IntKind.i64.wrap (Int.fdiv (IntKind.u64.wrap (IntKind.i64.wrap (a1 + a3))) 2)) + a2)) - (1 : Int))))], [(0, some (.row 2 54 (a0.map eBucket)))], 1⟩) (by kernel_rfl) (ih _ _ _ H)
          · replace H := (ifF c665).symm.trans H
            refine AWp.exit ?_
            obtain rfl := Option.some.inj H
            exact Exists.intro _ (And.intro (fun _ _ h => h.conv (inv := [(0, 0)]) (vk := []) (e0 := []) (t := ⟨[(0, .own 0), (1, iV .i64 a1), (2, iV .i64 a2), (3, iV .i64 a3), (4, .im (.sc (.func (.func 70) #[] #[]))), (18, iV .i64 (IntKind.i64.wrap (Int.fdiv (IntKind.u64.wrap (IntKind.i64.wrap (a1 + a3))) 2))), (19, iV .i64 (IntKind.i64.wrap ((IntKind.i64.wrap (Int.fdiv (IntKind.u64.wrap (IntKind.i64.wrap (a1 + a3))) 2)) + a2))), (20, iV .i64 x663)], [(0, some (.row 2 54 (a0.map eBucket)))], 1⟩) (by kernel_rfl)) (And.intro rfl rfl))
        · obtain ⟨x685, rfl⟩ : ∃ z, z = o809 := ⟨_, rfl⟩
          rintro e s ⟨rfl, rfl⟩
          refine AWp.seq ?_
          refine reg hP hn hm [] [0, 1, 2, 3, 4, 18, 20, 24] [0] ⟨[(0, .own 0), (1, iV .i64 a1), (2, iV .i64 a2), (3, iV .i64 a3), (4, .im (.sc (.func (.func 70) #[] #[]))), (18, iV .i64 (IntKind.i64.wrap (Int.fdiv (IntKind.u64.wrap (IntKind.i64.wrap (a1 + a3))) 2))), (20, iV .i64 x685), (24, iV .i64 (IntKind.i64.wrap ((IntKind.i64.wrap ((IntKind.i64.wrap (Int.fdiv (IntKind.u64.wrap (IntKind.i64.wrap (a1 + a3))) 2)) + a2)) - x685)))], [(0, some (.row 2 54 (a0.map eBucket)))], 1⟩ [] (by kernel_rfl) trivial ?_
          refine AWp.seq ?_
          refine AWp.seq ?_
          obtain ⟨o813, e814, H⟩ := bind_of H
          refine AWp.mono (Q := fun e s => (match (generalizing := false) o813 with | x688 => e = .normal ∧ s = ⟨[(0, .own 0), (1, iV .i64 a1), (2, iV .i64 a2), (3, iV .i64 a3), (4, .im (.sc (.func (.func 70) #[] #[]))), (18, iV .i64 (IntKind.i64.wrap (Int.fdiv (IntKind.u64.wrap (IntKind.i64.wrap (a1 + a3))) 2))), (20, iV .i64 x685), (24, iV .i64 (IntKind.i64.wrap ((IntKind.i64.wrap ((IntKind.i64.wrap (Int.fdiv (IntKind.u64.wrap (IntKind.i64.wrap (a1 + a3))) 2)) + a2)) - x685))), (185, bV x688)], [(0, some (.row 2 54 (a0.map eBucket)))], 1⟩)) (AWp.cv ?_) ?_
          · replace H := e814; clear e814
            rcases Bool.eq_false_or_eq_true (decide (x685 < a2)) with c687 | c687
            · replace H := (ifT c687).symm.trans H
              refine reg hP hn hm [(3, .b true)] [0, 1, 2, 3, 4, 18, 20, 24, 185] [0] ⟨[(0, .own 0), (1, iV .i64 a1), (2, iV .i64 a2), (3, iV .i64 a3), (4, .im (.sc (.func (.func 70) #[] #[]))), (18, iV .i64 (IntKind.i64.wrap (Int.fdiv (IntKind.u64.wrap (IntKind.i64.wrap (a1 + a3))) 2))), (20, iV .i64 x685), (24, iV .i64 (IntKind.i64.wrap ((IntKind.i64.wrap ((IntKind.i64.wrap (Int.fdiv (IntKind.u64.wrap (IntKind.i64.wrap (a1 + a3))) 2)) + a2)) - x685))), (185, bV (decide (a2 < (IntKind.i64.wrap ((IntKind.i64.wrap ((IntKind.i64.wrap (Int.fdiv (IntKind.u64.wrap (IntKind.i64.wrap (a1 + a3))) 2)) + a2)) - x685)))))], [(0, some (.row 2 54 (a0.map eBucket)))], 1⟩ [(decide (x685 < a2)) = true] (by kernel_rfl) ⟨by exact c687, trivial⟩ ?_
              obtain rfl := Option.some.inj H
              exact Exists.intro _ (And.intro (fun _ _ h => h.conv (inv := [(0, 0)]) (vk := []) (e0 := []) (t := ⟨[(0, .own 0), (1, iV .i64 a1), (2, iV .i64 a2), (3, iV .i64 a3), (4, .im (.sc (.func (.func 70) #[] #[]))), (18, iV .i64 (IntKind.i64.wrap (Int.fdiv (IntKind.u64.wrap (IntKind.i64.wrap (a1 + a3))) 2))), (20, iV .i64 x685), (24, iV .i64 (IntKind.i64.wrap ((IntKind.i64.wrap ((IntKind.i64.wrap (Int.fdiv (IntKind.u64.wrap (IntKind.i64.wrap (a1 + a3))) 2)) + a2)) - x685))), (185, bV (decide (a2 < (IntKind.i64.wrap ((IntKind.i64.wrap ((IntKind.i64.wrap (Int.fdiv (IntKind.u64.wrap (IntKind.i64.wrap (a1 + a3))) 2)) + a2)) - x685)))))], [(0, some (.row 2 54 (a0.map eBucket)))], 1⟩) (by kernel_rfl)) (And.intro rfl rfl))
            · replace H := (ifF c687).symm.trans H
              refine reg hP hn hm [(3, .b false)] [0, 1, 2, 3, 4, 18, 20, 24, 185] [0] ⟨[(0, .own 0), (1, iV .i64 a1), (2, iV .i64 a2), (3, iV .i64 a3), (4, .im (.sc (.func (.func 70) #[] #[]))), (18, iV .i64 (IntKind.i64.wrap (Int.fdiv (IntKind.u64.wrap (IntKind.i64.wrap (a1 + a3))) 2))), (20, iV .i64 x685), (24, iV .i64 (IntKind.i64.wrap ((IntKind.i64.wrap ((IntKind.i64.wrap (Int.fdiv (IntKind.u64.wrap (IntKind.i64.wrap (a1 + a3))) 2)) + a2)) - x685))), (185, bV false)], [(0, some (.row 2 54 (a0.map eBucket)))], 1⟩ [(decide (x685 < a2)) = false] (by kernel_rfl) ⟨by exact c687, trivial⟩ ?_
              obtain rfl := Option.some.inj H
              exact Exists.intro _ (And.intro (fun _ _ h => h.conv (inv := [(0, 0)]) (vk := []) (e0 := []) (t := ⟨[(0, .own 0), (1, iV .i64 a1), (2, iV .i64 a2), (3, iV .i64 a3), (4, .im (.sc (.func (.func 70) #[] #[]))), (18, iV .i64 (IntKind.i64.wrap (Int.fdiv (IntKind.u64.wrap (IntKind.i64.wrap (a1 + a3))) 2))), (20, iV .i64 x685), (24, iV .i64 (IntKind.i64.wrap ((IntKind.i64.wrap ((IntKind.i64.wrap (Int.fdiv (IntKind.u64.wrap (IntKind.i64.wrap (a1 + a3))) 2)) + a2)) - x685))), (185, bV false)], [(0, some (.row 2 54 (a0.map eBucket)))], 1⟩) (by kernel_rfl)) (And.intro rfl rfl))
          · obtain ⟨x688, rfl⟩ : ∃ z, z = o813 := ⟨_, rfl⟩
            rintro e s ⟨rfl, rfl⟩
            obtain ⟨o815, e816, H⟩ := bind_of H
            refine AWp.mono (Q := fun e s => (match (generalizing := false) o815 with | x776 => e = .normal ∧ s = ⟨[(0, .own 0), (1, iV .i64 a1), (3, iV .i64 a3), (4, .im (.sc (.func (.func 70) #[] #[]))), (18, iV .i64 (IntKind.i64.wrap (Int.fdiv (IntKind.u64.wrap (IntKind.i64.wrap (a1 + a3))) 2))), (20, iV .i64 x685), (24, iV .i64 (IntKind.i64.wrap ((IntKind.i64.wrap ((IntKind.i64.wrap (Int.fdiv (IntKind.u64.wrap (IntKind.i64.wrap (a1 + a3))) 2)) + a2)) - x685)))], [(0, some (.row 2 54 (x776.map eBucket)))], 1⟩)) (AWp.cv ?_) ?_
            · replace H := e816; clear e816
              refine AWp.cond x688 rfl (fun c689 => ?_) (fun c689 => ?_)
              · replace H := (ifT c689).symm.trans H
                obtain ⟨t774, e775, H⟩ := bind_of H
                refine reg hP hn hm [(5, .call [(0, 0)] [(0, 0)] [] [] 1 (.tup []) [(0, some (.row 2 54 (t774.map eBucket)))])] [0, 1, 3, 4, 18, 20, 24] [0] ⟨[(0, .own 0), (1, iV .i64 a1), (3, iV .i64 a3), (4, .im (.sc (.func (.func 70) #[] #[]))), (18, iV .i64 (IntKind.i64.wrap (Int.fdiv (IntKind.u64.wrap (IntKind.i64.wrap (a1 + a3))) 2))), (20, iV .i64 x685), (24, iV .i64 (IntKind.i64.wrap ((IntKind.i64.wrap ((IntKind.i64.wrap (Int.fdiv (IntKind.u64.wrap (IntKind.i64.wrap (a1 + a3))) 2)) + a2)) - x685)))], [(0, some (.row 2 54 (t774.map eBucket)))], 1⟩ [Enters Try.prog 81, Pv.Fn Try.prog 81 [.own 0, iV .i64 x685, iV .i64 a2, iV .i64 (IntKind.i64.wrap ((IntKind.i64.wrap ((IntKind.i64.wrap (Int.fdiv (IntKind.u64.wrap (IntKind.i64.wrap (a1 + a3))) 2)) + a2)) - x685)), .im (.sc (.func (.func 70) #[] #[]))] [(0, some (.row 2 54 (a0.map eBucket)))] 1 (fun r o => r = .tup [] ∧ o = [(0, some (.row 2 54 (t774.map eBucket)))])] (by kernel_rfl) ⟨by exact Try.call81, by exact f_slices_rotateCmpFunc_api_Bucket_hist_tidy_1.ok a0 x685 a2 (IntKind.i64.wrap ((IntKind.i64.wrap ((IntKind.i64.wrap (Int.fdiv (IntKind.u64.wrap (IntKind.i64.wrap (a1 + a3))) 2)) + a2)) - x685)) t774 e775, trivial⟩ ?_
                obtain rfl := Option.some.inj H
                exact Exists.intro _ (And.intro (fun _ _ h => h.conv (inv := [(0, 0)]) (vk := []) (e0 := []) (t := ⟨[(0, .own 0), (1, iV .i64 a1), (3, iV .i64 a3), (4, .im (.sc (.func (.func 70) #[] #[]))), (18, iV .i64 (IntKind.i64.wrap (Int.fdiv (IntKind.u64.wrap (IntKind.i64.wrap (a1 + a3))) 2))), (20, iV .i64 x685), (24, iV .i64 (IntKind.i64.wrap ((IntKind.i64.wrap ((IntKind.i64.wrap (Int.fdiv (IntKind.u64.wrap (IntKind.i64.wrap (a1 + a3))) 2)) + a2)) - x685)))], [(0, some (.row 2 54 (t774.map eBucket)))], 1⟩) (by kernel_rfl)) (And.intro rfl rfl))
              · replace H := (ifF c689).symm.trans H
                refine AWp.skip ?_
                obtain rfl := Option.some.inj H
                exact Exists.intro _ (And.intro (fun _ _ h => h.conv (inv := [(0, 0)]) (vk := []) (e0 := []) (t := ⟨[(0, .own 0), (1, iV .i64 a1), (3, iV .i64 a3), (4, .im (.sc (.func (.func 70) #[] #[]))), (18, iV .i64 (IntKind.i64.wrap (Int.fdiv (IntKind.u64.wrap (IntKind.i64.wrap (a1 + a3))) 2))), (20, iV .i64 x685), (24, iV .i64 (IntKind.i64.wrap ((IntKind.i64.wrap ((IntKind.i64.wrap (Int.fdiv (IntKind.u64.wrap (IntKind.i64.wrap (a1 + a3))) 2)) + a2)) - x685)))], [(0, some (.row 2 54 (a0.map eBucket)))], 1⟩) (by kernel_rfl)) (And.intro rfl rfl))
            · obtain ⟨x776, rfl⟩ : ∃ z, z = o815 := ⟨_, rfl⟩
              rintro e s ⟨rfl, rfl⟩
              refine AWp.seq ?_
              refine AWp.seq ?_
              obtain ⟨o817, e818, H⟩ := bind_of H
              refine AWp.mono (Q := fun e s => (match (generalizing := false) o817 with | x779 => e = .normal ∧ s = ⟨[(0, .own 0), (1, iV .i64 a1), (3, iV .i64 a3), (4, .im (.sc (.func (.func 70) #[] #[]))), (18, iV .i64 (IntKind.i64.wrap (Int.fdiv (IntKind.u64.wrap (IntKind.i64.wrap (a1 + a3))) 2))), (20, iV .i64 x685), (24, iV .i64 (IntKind.i64.wrap ((IntKind.i64.wrap ((IntKind.i64.wrap (Int.fdiv (IntKind.u64.wrap (IntKind.i64.wrap (a1 + a3))) 2)) + a2)) - x685))), (199, bV x779)], [(0, some (.row 2 54 (x776.map eBucket)))], 1⟩)) (AWp.cv ?_) ?_
              · replace H := e818; clear e818
                rcases Bool.eq_false_or_eq_true (decide (a1 < x685)) with c778 | c778
                · replace H := (ifT c778).symm.trans H
                  refine reg hP hn hm [(3, .b true)] [0, 1, 3, 4, 18, 20, 24, 199] [0] ⟨[(0, .own 0), (1, iV .i64 a1), (3, iV .i64 a3), (4, .im (.sc (.func (.func 70) #[] #[]))), (18, iV .i64 (IntKind.i64.wrap (Int.fdiv (IntKind.u64.wrap (IntKind.i64.wrap (a1 + a3))) 2))), (20, iV .i64 x685), (24, iV .i64 (IntKind.i64.wrap ((IntKind.i64.wrap ((IntKind.i64.wrap (Int.fdiv (IntKind.u64.wrap (IntKind.i64.wrap (a1 + a3))) 2)) + a2)) - x685))), (199, bV (decide (x685 < (IntKind.i64.wrap (Int.fdiv (IntKind.u64.wrap (IntKind.i64.wrap (a1 + a3))) 2)))))], [(0, some (.row 2 54 (x776.map eBucket)))], 1⟩ [(decide (a1 < x685)) = true] (by kernel_rfl) ⟨by exact c778, trivial⟩ ?_
                  obtain rfl := Option.some.inj H
                  exact Exists.intro _ (And.intro (fun _ _ h => h.conv (inv := [(0, 0)]) (vk := []) (e0 := []) (t := ⟨[(0, .own 0), (1, iV .i64 a1), (3, iV .i64 a3), (4, .im (.sc (.func (.func 70) #[] #[]))), (18, iV .i64 (IntKind.i64.wrap (Int.fdiv (IntKind.u64.wrap (IntKind.i64.wrap (a1 + a3))) 2))), (20, iV .i64 x685), (24, iV .i64 (IntKind.i64.wrap ((IntKind.i64.wrap ((IntKind.i64.wrap (Int.fdiv (IntKind.u64.wrap (IntKind.i64.wrap (a1 + a3))) 2)) + a2)) - x685))), (199, bV (decide (x685 < (IntKind.i64.wrap (Int.fdiv (IntKind.u64.wrap (IntKind.i64.wrap (a1 + a3))) 2)))))], [(0, some (.row 2 54 (x776.map eBucket)))], 1⟩) (by kernel_rfl)) (And.intro rfl rfl))
                · replace H := (ifF c778).symm.trans H
                  refine reg hP hn hm [(3, .b false)] [0, 1, 3, 4, 18, 20, 24, 199] [0] ⟨[(0, .own 0), (1, iV .i64 a1), (3, iV .i64 a3), (4, .im (.sc (.func (.func 70) #[] #[]))), (18, iV .i64 (IntKind.i64.wrap (Int.fdiv (IntKind.u64.wrap (IntKind.i64.wrap (a1 + a3))) 2))), (20, iV .i64 x685), (24, iV .i64 (IntKind.i64.wrap ((IntKind.i64.wrap ((IntKind.i64.wrap (Int.fdiv (IntKind.u64.wrap (IntKind.i64.wrap (a1 + a3))) 2)) + a2)) - x685))), (199, bV false)], [(0, some (.row 2 54 (x776.map eBucket)))], 1⟩ [(decide (a1 < x685)) = false] (by kernel_rfl) ⟨by exact c778, trivial⟩ ?_
                  obtain rfl := Option.some.inj H
                  exact Exists.intro _ (And.intro (fun _ _ h => h.conv (inv := [(0, 0)]) (vk := []) (e0 := []) (t := ⟨[(0, .own 0), (1, iV .i64 a1), (3, iV .i64 a3), (4, .im (.sc (.func (.func 70) #[] #[]))), (18, iV .i64 (IntKind.i64.wrap (Int.fdiv (IntKind.u64.wrap (IntKind.i64.wrap (a1 + a3))) 2))), (20, iV .i64 x685), (24, iV .i64 (IntKind.i64.wrap ((IntKind.i64.wrap ((IntKind.i64.wrap (Int.fdiv (IntKind.u64.wrap (IntKind.i64.wrap (a1 + a3))) 2)) + a2)) - x685))), (199, bV false)], [(0, some (.row 2 54 (x776.map eBucket)))], 1⟩) (by kernel_rfl)) (And.intro rfl rfl))
              · obtain ⟨x779, rfl⟩ : ∃ z, z = o817 := ⟨_, rfl⟩
                rintro e s ⟨rfl, rfl⟩
                obtain ⟨o819, e820, H⟩ := bind_of H
                refine AWp.mono (Q := fun e s => (match (generalizing := false) o819 with | x785 => e = .normal ∧ s = ⟨[(0, .own 0), (3, iV .i64 a3), (4, .im (.sc (.func (.func 70) #[] #[]))), (18, iV .i64 (IntKind.i64.wrap (Int.fdiv (IntKind.u64.wrap (IntKind.i64.wrap (a1 + a3))) 2))), (24, iV .i64 (IntKind.i64.wrap ((IntKind.i64.wrap ((IntKind.i64.wrap (Int.fdiv (IntKind.u64.wrap (IntKind.i64.wrap (a1 + a3))) 2)) + a2)) - x685)))], [(0, some (.row 2 54 (x785.map eBucket)))], 1⟩)) (AWp.cv ?_) ?_
                · replace H := e820; clear e820
                  refine AWp.cond x779 rfl (fun c780 => ?_) (fun c780 => ?_)
                  · replace H := (ifT c780).symm.trans H
                    obtain ⟨t783, e784, H⟩ := bind_of H
                    refine reg hP hn hm [(5, .call [(0, 0)] [(0, 0)] [] [] 1 (.tup []) [(0, some (.row 2 54 (t783.map eBucket)))])] [0, 3, 4, 18, 24] [0] ⟨[(0, .own 0), (3, iV .i64 a3), (4, .im (.sc (.func (.func 70) #[] #[]))), (18, iV .i64 (IntKind.i64.wrap (Int.fdiv (IntKind.u64.wrap (IntKind.i64.wrap (a1 + a3))) 2))), (24, iV .i64 (IntKind.i64.wrap ((IntKind.i64.wrap ((IntKind.i64.wrap (Int.fdiv (IntKind.u64.wrap (IntKind.i64.wrap (a1 + a3))) 2)) + a2)) - x685)))], [(0, some (.row 2 54 (t783.map eBucket)))], 1⟩ [Enters Try.prog 80, Pv.Fn Try.prog 80 [.own 0, iV .i64 a1, iV .i64 x685, iV .i64 (IntKind.i64.wrap (Int.fdiv (IntKind.u64.wrap (IntKind.i64.wrap (a1 + a3))) 2)), .im (.sc (.func (.func 70) #[] #[]))] [(0, some (.row 2 54 (x776.map eBucket)))] 1 (fun r o => r = .tup [] ∧ o = [(0, some (.row 2 54 (t783.map eBucket)))])] (by kernel_rfl) ⟨by exact Try.call80, by exact ihF x776 a1 x685 (IntKind.i64.wrap (Int.fdiv (IntKind.u64.wrap (IntKind.i64.wrap (a1 + a3))) 2)) _ e784, trivial⟩ ?_
                    obtain rfl := Option.some.inj H
                    exact Exists.intro _ (And.intro (fun _ _ h => h.conv (inv := [(0, 0)]) (vk := []) (e0 := []) (t := ⟨[(0, .own 0), (3, iV .i64 a3), (4, .im (.sc (.func (.func 70) #[] #[]))), (18, iV .i64 (IntKind.i64.wrap (Int.fdiv (IntKind.u64.wrap (IntKind.i64.wrap (a1 + a3))) 2))), (24, iV .i64 (IntKind.i64.wrap ((IntKind.i64.wrap ((IntKind.i64.wrap (Int.fdiv (IntKind.u64.wrap (IntKind.i64.wrap (a1 + a3))) 2)) + a2)) - x685)))], [(0, some (.row 2 54 (t783.map eBucket)))], 1⟩) (by kernel_rfl)) (And.intro rfl rfl))
                  · replace H := (ifF c780).symm.trans H
                    refine AWp.skip ?_
                    obtain rfl := Option.some.inj H
                    exact Exists.intro _ (And.intro (fun _ _ h => h.conv (inv := [(0, 0)]) (vk := []) (e0 := []) (t := ⟨[(0, .own 0), (3, iV .i64 a3), (4, .im (.sc (.func (.func 70) #[] #[]))), (18, iV .i64 (IntKind.i64.wrap (Int.fdiv (IntKind.u64.wrap (IntKind.i64.wrap (a1 + a3))) 2))), (24, iV .i64 (IntKind.i64.wrap ((IntKind.i64.wrap ((IntKind.i64.wrap (Int.fdiv (IntKind.u64.wrap (IntKind.i64.wrap (a1 + a3))) 2)) + a2)) - x685)))], [(0, some (.row 2 54 (x776.map eBucket)))], 1⟩) (by kernel_rfl)) (And.intro rfl rfl))
                · obtain ⟨x785, rfl⟩ : ∃ z, z = o819 := ⟨_, rfl⟩
                  rintro e s ⟨rfl, rfl⟩
                  refine AWp.seq ?_
                  obtain ⟨o821, e822, H⟩ := bind_of H
                  refine AWp.mono (Q := fun e s => (match (generalizing := false) o821 with | x788 => e = .normal ∧ s = ⟨[(0, .own 0), (3, iV .i64 a3), (4, .im (.sc (.func (.func 70) #[] #[]))), (18, iV .i64 (IntKind.i64.wrap (Int.fdiv (IntKind.u64.wrap (IntKind.i64.wrap (a1 + a3))) 2))), (24, iV .i64 (IntKind.i64.wrap ((IntKind.i64.wrap ((IntKind.i64.wrap (Int.fdiv (IntKind.u64.wrap (IntKind.i64.wrap (a1 + a3))) 2)) + a2)) - x685))), (213, bV x788)], [(0, some (.row 2 54 (x785.map eBucket)))], 1⟩)) (AWp.cv ?_) ?_
                  · replace H := e822; clear e822
                    rcases Bool.eq_false_or_eq_true (decide ((IntKind.i64.wrap (Int.fdiv (IntKind.u64.wrap (IntKind.i64.wrap (a1 + a3))) 2)) < (IntKind.i64.wrap ((IntKind.i64.wrap ((IntKind.i64.wrap (Int.fdiv (IntKind.u64.wrap (IntKind.i64.wrap (a1 + a3))) 2)) + a2)) - x685)))) with c787 | c787
                    · replace H := (ifT c787).symm.trans H
                      refine reg hP hn hm [(3, .b true)] [0, 3, 4, 18, 24, 213] [0] ⟨[(0, .own 0), (3, iV .i64 a3), (4, .im (.sc (.func (.func 70) #[] #[]))), (18, iV .i64 (IntKind.i64.wrap (Int.fdiv (IntKind.u64.wrap (IntKind.i64.wrap (a1 + a3))) 2))), (24, iV .i64 (IntKind.i64.wrap ((IntKind.i64.wrap ((IntKind.i64.wrap (Int.fdiv (IntKind.u64.wrap (IntKind.i64.wrap (a1 + a3))) 2)) + a2)) - x685))), (213, bV (decide ((IntKind.i64.wrap ((IntKind.i64.wrap ((IntKind.i64.wrap (Int.fdiv (IntKind.u64.wrap (IntKind.i64.wrap (a1 + a3))) 2)) + a2)) - x685)) < a3)))], [(0, some (.row 2 54 (x785.map eBucket)))], 1⟩ [(decide ((IntKind.i64.wrap (Int.fdiv (IntKind.u64.wrap (IntKind.i64.wrap (a1 + a3))) 2)) < (IntKind.i64.wrap ((IntKind.i64.wrap ((IntKind.i64.wrap (Int.fdiv (IntKind.u64.wrap (IntKind.i64.wrap (a1 + a3))) 2)) + a2)) - x685)))) = true] (by kernel_rfl) ⟨by exact c787, trivial⟩ ?_
                      obtain rfl := Option.some.inj H
                      exact Exists.intro _ (And.intro (fun _ _ h => h.conv (inv := [(0, 0)]) (vk := []) (e0 := []) (t := ⟨[(0, .own 0), (3, iV .i64 a3), (4, .im (.sc (.func (.func 70) #[] #[]))), (18, iV .i64 (IntKind.i64.wrap (Int.fdiv (IntKind.u64.wrap (IntKind.i64.wrap (a1 + a3))) 2))), (24, iV .i64 (IntKind.i64.wrap ((IntKind.i64.wrap ((IntKind.i64.wrap (Int.fdiv (IntKind.u64.wrap (IntKind.i64.wrap (a1 + a3))) 2)) + a2)) - x685))), (213, bV (decide ((IntKind.i64.wrap ((IntKind.i64.wrap ((IntKind.i64.wrap (Int.fdiv (IntKind.u64.wrap (IntKind.i64.wrap (a1 + a3))) 2)) + a2)) - x685)) < a3)))], [(0, some (.row 2 54 (x785.map eBucket)))], 1⟩) (by kernel_rfl)) (And.intro rfl rfl))
                    · replace H := (ifF c787).symm.trans H
                      refine reg hP hn hm [(3, .b false)] [0, 3, 4, 18, 24, 213] [0] ⟨[(0, .own 0), (3, iV .i64 a3), (4, .im (.sc (.func (.func 70) #[] #[]))), (18, iV .i64 (IntKind.i64.wrap (Int.fdiv (IntKind.u64.wrap (IntKind.i64.wrap (a1 + a3))) 2))), (24, iV .i64 (IntKind.i64.wrap ((IntKind.i64.wrap ((IntKind.i64.wrap (Int.fdiv (IntKind.u64.wrap (IntKind.i64.wrap (a1 + a3))) 2)) + a2)) - x685))), (213, bV false)], [(0, some (.row 2 54 (x785.map eBucket)))], 1⟩ [(decide ((IntKind.i64.wrap (Int.fdiv (IntKind.u64.wrap (IntKind.i64.wrap (a1 + a3))) 2)) < (IntKind.i64.wrap ((IntKind.i64.wrap ((IntKind.i64.wrap (Int.fdiv (IntKind.u64.wrap (IntKind.i64.wrap (a1 + a3))) 2)) + a2)) - x685)))) = false] (by kernel_rfl) ⟨by exact c787, trivial⟩ ?_
                      obtain rfl := Option.some.inj H
                      exact Exists.intro _ (And.intro (fun _ _ h => h.conv (inv := [(0, 0)]) (vk := []) (e0 := []) (t := ⟨[(0, .own 0), (3, iV .i64 a3), (4, .im (.sc (.func (.func 70) #[] #[]))), (18, iV .i64 (IntKind.i64.wrap (Int.fdiv (IntKind.u64.wrap (IntKind.i64.wrap (a1 + a3))) 2))), (24, iV .i64 (IntKind.i64.wrap ((IntKind.i64.wrap ((IntKind.i64.wrap (Int.fdiv (IntKind.u64.wrap (IntKind.i64.wrap (a1 + a3))) 2)) + a2)) - x685))), (213, bV false)], [(0, some (.row 2 54 (x785.map eBucket)))], 1⟩) (by kernel_rfl)) (And.intro rfl rfl))
                  · obtain ⟨x788, rfl⟩ : ∃ z, z = o821 := ⟨_, rfl⟩
                    rintro e s ⟨rfl, rfl⟩
                    obtain ⟨o823, e824, H⟩ := bind_of H
                    refine AWp.mono (Q := fun e s => (match (generalizing := false) o823 with | x794 => e = .normal ∧ s = ⟨[], [(0, some (.row 2 54 (x794.map eBucket)))], 1⟩)) (AWp.cv ?_) ?_
                    · replace H := e824; clear e824
                      refine AWp.cond x788 rfl (fun c789 => ?_) (fun c789 => ?_)
                      · replace H := (ifT c789).symm.trans H
                        obtain ⟨t792, e793, H⟩ := bind_of H
                        refine reg hP hn hm [(5, .call [(0, 0)] [(0, 0)] [] [] 1 (.tup []) [(0, some (.row 2 54 (t792.map eBucket)))])] [] [0] ⟨[], [(0, some (.row 2 54 (t792.map eBucket)))], 1⟩ [Enters Try.prog 80, Pv.Fn Try.prog 80 [.own 0, iV .i64 (IntKind.i64.wrap (Int.fdiv (IntKind.u64.wrap (IntKind.i64.wrap (a1 + a3))) 2)), iV .i64 (IntKind.i64.wrap ((IntKind.i64.wrap ((IntKind.i64.wrap (Int.fdiv (IntKind.u64.wrap (IntKind.i64.wrap (a1 + a3))) 2)) + a2)) - x685)), iV .i64 a3, .im (.sc (.func (.func 70) #[] #[]))] [(0, some (.row 2 54 (x785.map eBucket)))] 1 (fun r o => r = .tup [] ∧ o = [(0, some (.row 2 54 (t792.map eBucket)))])] (by kernel_rfl) ⟨by exact Try.call80, by exact ihF x785 (IntKind.i64.wrap (Int.fdiv (IntKind.u64.wrap (IntKind.i64.wrap (a1 + a3))) 2)) (IntKind.i64.wrap ((IntKind.i64.wrap ((IntKind.i64.wrap (Int.fdiv (IntKind.u64.wrap (IntKind.i64.wrap (a1 + a3))) 2)) + a2)) - x685)) a3 _ e793, trivial⟩ ?_
                        obtain rfl := Option.some.inj H
                        exact Exists.intro _ (And.intro (fun _ _ h => h.conv (inv := [(0, 0)]) (vk := []) (e0 := []) (t := ⟨[], [(0, some (.row 2 54 (t792.map eBucket)))], 1⟩) (by kernel_rfl)) (And.intro rfl rfl))
                      · replace H := (ifF c789).symm.trans H
                        refine AWp.skip ?_
                        obtain rfl := Option.some.inj H
                        exact Exists.intro _ (And.intro (fun _ _ h => h.conv (inv := [(0, 0)]) (vk := []) (e0 := []) (t := ⟨[], [(0, some (.row 2 54 (x785.map eBucket)))], 1⟩) (by kernel_rfl)) (And.intro rfl rfl))
                    · obtain ⟨x794, rfl⟩ : ∃ z, z = o823 := ⟨_, rfl⟩
                      rintro e s ⟨rfl, rfl⟩
                      obtain rfl := Option.some.inj H
                      exact Exists.intro ⟨[], [(0, some (.row 2 54 (x794.map eBucket)))], 1⟩ (And.intro (fun _ _ h => h.conv (inv := [(0, 0)]) (vk := []) (e0 := []) (t := ⟨[], [(0, some (.row 2 54 (x794.map eBucket)))], 1⟩) (by kernel_rfl)) (And.intro (.inr rfl) (And.intro rfl (And.intro (by kernel_rfl) (by kernel_rfl)))))
def f_slices_stableCmpFunc_api_Bucket_hist_tidy_1.l0 (a1 : Int) (x454 : List TBucket) (x455 : Int) (x456 : Int) : Option ((List TBucket) × Int) := if (decide (x456 ≤ a1)) = true then ((f_slices_insertionSortCmpFunc_api_Bucket_hist_tidy_1.f x454 x455 x456) >>= fun t460 => f_slices_stableCmpFunc_api_Bucket_hist_tidy_1.l0 a1 t460 x456 (IntKind.i64.wrap (x456 + (20 : Int)))) else (some (x454, x455))
partial_fixpoint
def f_slices_stableCmpFunc_api_Bucket_hist_tidy_1.l2 (a1 : Int) (x846 : Int) (x853 : List TBucket) (x854 : Int) (x855 : Int) : Option ((List TBucket) × Int) := if (decide (x855 ≤ a1)) = true then ((f_slices_symMergeCmpFunc_api_Bucket_hist_tidy_1.f x853 x854 (IntKind.i64.wrap (x854 + x846)) x855) >>= fun t859 => f_slices_stableCmpFunc_api_Bucket_hist_tidy_1.l2 a1 x846 t859 x855 (IntKind.i64.wrap (x855 + (IntKind.i64.wrap ((2 : Int) * x846))))) else (some (x853, x854))
partial_fixpoint
def f_slices_stableCmpFunc_api_Bucket_hist_tidy_1.l1 (a1 : Int) (x845 : List TBucket) (x846 : Int) : Option (List TBucket) := if (decide (x846 < a1)) = true then ((f_slices_stableCmpFunc_api_Bucket_hist_tidy_1.l2 a1 x846 x845 0 (IntKind.i64.wrap ((2 : Int) * x846))) >>= fun oo => match oo with | (x861, x862) => (((if (decide ((IntKind.i64.wrap (x862 + x846)) < a1)) = true then ((f_slices_symMergeCmpFunc_api_Bucket_hist_tidy_1.f x861 x862 (IntKind.i64.wrap (x862 + x846)) a1) >>= fun t866 => some t866) else (some x861)) : Option (List TBucket)) >>= fun x868 => f_slices_stableCmpFunc_api_Bucket_hist_tidy_1.l1 a1 x868 (IntKind.i64.wrap (x846 * (2 : Int))))) else (some x845)
partial_fixpoint
def f_slices_stableCmpFunc_api_Bucket_hist_tidy_1.f (a0 : List TBucket) (a1 : Int) : Option (List TBucket) := (f_slices_stableCmpFunc_api_Bucket_hist_tidy_1.l0 a1 a0 0 20) >>= fun oo => match oo with | (x462, x463) => ((f_slices_insertionSortCmpFunc_api_Bucket_hist_tidy_1.f x462 x463 a1) >>= fun t466 => (f_slices_stableCmpFunc_api_Bucket_hist_tidy_1.l1 a1 t466 20) >>= fun x869 => some x869)
theorem f_slices_stableCmpFunc_api_Bucket_hist_tidy_1.ok (a0 : List TBucket) (a1 : Int) (r : List TBucket) (H : f_slices_stableCmpFunc_api_Bucket_hist_tidy_1.f a0 a1 = some r) : Pv.Fn Try.prog 77 [.own 0, iV .i64 a1, .im (.sc (.func (.func 70) #[] #[]))] [(0, some (.row 2 54 (a0.map eBucket)))] 1 (fun x o => x = .tup [] ∧ o = [(0, some (.row 2 54 (r.map eBucket)))]) := by
  unfold f_slices_stableCmpFunc_api_Bucket_hist_tidy_1.f at H
  refine Fn.bodyK [0] Try.func77 rfl rfl (fun Γ hP hn => ?_)
  have hm : Try.prog.follows .mixedOrders = true := by kernel_rfl
  replace hn : Γ.n = 63 := hn
  refine AWp.seq ?_
  refine reg hP hn hm [] [0, 1, 2, 6] [0] ⟨[(0, .own 0), (1, iV .i64 a1), (2, .im (.sc (.func (.func 70) #[] #[]))), (6, iV .i64 20)], [(0, some (.row 2 54 (a0.map eBucket)))], 1⟩ [] (by kernel_rfl) trivial ?_
  refine AWp.seq ?_
  refine reg hP hn hm [] [0, 1, 2, 6, 7, 8] [0] ⟨[(0, .own 0), (1, iV .i64 a1), (2, .im (.sc (.func (.func 70) #[] #[]))), (6, iV .i64 20), (7, iV .i64 0), (8, iV .i64 20)], [(0, some (.row 2 54 (a0.map eBucket)))], 1⟩ [] (by kernel_rfl) trivial ?_
  refine AWp.seq ?_
  refine AWp.block ?_
  obtain ⟨o870, e871, H⟩ := bind_of H
  refine AWp.loop (LWp.conv (inv := [(0, 0)]) (vk := []) (e0 := []) (t := ⟨[(0, .own 0), (1, iV .i64 a1), (2, .im (.sc (.func (.func 70) #[] #[]))), (6, iV .i64 20), (7, iV .i64 0), (8, iV .i64 20)], [(0, some (.row 2 54 (a0.map eBucket)))], 1⟩) (by kernel_rfl) ?_)
  refine LWp.mono (Q := fun e s => (match (generalizing := false) o870 with | (x462, x463) => e = .exit 0 ∧ s = ⟨[(0, .own 0), (1, iV .i64 a1), (2, .im (.sc (.func (.func 70) #[] #[]))), (6, iV .i64 20), (7, iV .i64 x463)], [(0, some (.row 2 54 (x462.map eBucket)))], 1⟩)) (LWp.cv (withBody (fun body hbody => ?_))) ?_
  · refine f_slices_stableCmpFunc_api_Bucket_hist_tidy_1.l0.partial_correctness a1 (motive := fun x454 x455 x456 o870 => LWp Γ body (fun e s => ∃ t, Cv Γ s t ∧ (match (generalizing := false) o870 with | (x462, x463) => e = .exit 0 ∧ t = ⟨[(0, .own 0), (1, iV .i64 a1), (2, .im (.sc (.func (.func 70) #[] #[]))), (6, iV .i64 20), (7, iV .i64 x463)], [(0, some (.row 2 54 (x462.map eBucket)))], 1⟩)) ⟨[(0, .own 0), (1, iV .i64 a1), (2, .im (.sc (.func (.func 70) #[] #[]))), (6, iV .i64 20), (7, iV .i64 x455), (8, iV .i64 x456)], [(0, some (.row 2 54 (x454.map eBucket)))], 1⟩) ?_ _ _ _ _ e871
    clear H e871 o870; intro self ih x454 x455 x456 o870 H
    subst hbody
    refine LWp.round ?_
    refine AWp.seq ?_
    refine AWp.seq ?_
    refine reg hP hn hm [] [0, 1, 2, 6, 7, 8, 13] [0] ⟨[(0, .own 0), (1, iV .i64 a1), (2, .im (.sc (.func (.func 70) #[] #[]))), (6, iV .i64 20), (7, iV .i64 x455), (8, iV .i64 x456), (13, bV (decide (x456 ≤ a1)))], [(0, some (.row 2 54 (x454.map eBucket)))], 1⟩ [] (by kernel_rfl) trivial ?_
    refine AWp.cond (decide (x456 ≤ a1)) rfl (fun c457 => ?_) (fun c457 => ?_)
    · replace H := (ifT c457).symm.trans H
      refine AWp.skip ?_
      refine AWp.block ?_
      refine AWp.seq ?_
      obtain ⟨t460, e461, H⟩ := bind_of H
      refine reg hP hn hm [(4, .call [(0, 0)] [(0, 0)] [] [] 1 (.tup []) [(0, some (.row 2 54 (t460.map eBucket)))])] [0, 1, 2, 6, 8] [0] ⟨[(0, .own 0), (1, iV .i64 a1), (2, .im (.sc (.func (.func 70) #[] #[]))), (6, iV .i64 20), (8, iV .i64 x456)], [(0, some (.row 2 54 (t460.map eBucket)))], 1⟩ [Enters Try.prog 79, Pv.Fn Try.prog 79 [.own 0, iV .i64 x455, iV .i64 x456, .im (.sc (.func (.func 70) #[] #[]))] [(0, some (.row 2 54 (x454.map eBucket)))] 1 (fun r o => r = .tup [] ∧ o = [(0, some (.row 2 54 (t460.map eBucket)))])] (by kernel_rfl) ⟨by exact Try.call79, by exact f_slices_insertionSortCmpFunc_api_Bucket_hist_tidy_1.ok x454 x455 x456 t460 e461, trivial⟩ ?_
      refine AWp.seq ?_
      refine reg hP hn hm [] [0, 1, 2, 6, 7, 8] [0] ⟨[(0, .own 0), (1, iV .i64 a1), (2, .im (.sc (.func (.func 70) #[] #[]))), (6, iV .i64 20), (7, iV .i64 x456), (8, iV .i64 x456)], [(0, some (.row 2 54 (t460.map eBucket)))], 1⟩ [] (by kernel_rfl) trivial ?_
      refine reg hP hn hm [] [0, 1, 2, 6, 7, 8] [0] ⟨[(0, .own 0), (1, iV .i64 a1), (2, .im (.sc (.func (.func 70) #[] #[]))), (6, iV .i64 20), (7, iV .i64 x456), (8, iV .i64 (IntKind.i64.wrap (x456 + (20 : Int))))], [(0, some (.row 2 54 (t460.map eBucket)))], 1⟩ [] (by kernel_rfl) trivial ?_
      exact LWp.conv (inv := [(0, 0)]) (vk := []) (e0 := []) (t := ⟨[(0, .own 0), (1, iV .i64 a1), (2, .im (.sc (.func (.func 70) #[] #[]))), (6, iV .i64 20), (7, iV .i64 x456), (8, iV .i64 (IntKind.i64.wrap (x456 + (20 : Int))))], [(0, some (.row 2 54 (t460.map eBucket)))], 1⟩) (by kernel_rfl) (ih _ _ _ _ H)
    · replace H := (ifF c457).symm.trans H
      refine AWp.exit ?_
      obtain rfl := Option.some.inj H
      exact Exists.intro _ (And.intro (fun _ _ h => h.conv (inv := [(0, 0)]) (vk := []) (e0 := []) (t := ⟨[(0, .own 0), (1, iV .i64 a1), (2, .im (.sc (.func (.func 70) #[] #[]))), (6, iV .i64 20), (7, iV .i64 x455)], [(0, some (.row 2 54 (x454.map eBucket)))], 1⟩) (by kernel_rfl)) (And.intro rfl rfl))
  · obtain ⟨x462, x463⟩ := o870
    rintro e s ⟨rfl, rfl⟩
    refine AWp.seq ?_
    obtain ⟨t466, e467, H⟩ := bind_of H
    refine reg hP hn hm [(4, .call [(0, 0)] [(0, 0)] [] [] 1 (.tup []) [(0, some (.row 2 54 (t466.map eBucket)))])] [0, 1, 2, 6] [0] ⟨[(0, .own 0), (1, iV .i64 a1), (2, .im (.sc (.func (.func 70) #[] #[]))), (6, iV .i64 20)], [(0, some (.row 2 54 (t466.map eBucket)))], 1⟩ [Enters Try.prog 79, Pv.Fn Try.prog 79 [.own 0, iV .i64 x463, iV .i64 a1, .im (.sc (.func (.func 70) #[] #[]))] [(0, some (.row 2 54 (x462.map eBucket)))] 1 (fun r o => r = .tup [] ∧ o = [(0, some (.row 2 54 (t466.map eBucket)))])] (by kernel_rfl) ⟨by exact Try.call79, by exact f_slices_insertionSortCmpFunc_api_Bucket_hist_tidy_1.ok x462 x463 a1 t466 e467, trivial⟩ ?_
    refine AWp.block ?_
    obtain ⟨o872, e873, H⟩ := bind_of H
    refine AWp.loop (LWp.conv (inv := [(0, 0)]) (vk := []) (e0 := []) (t := ⟨[(0, .own 0), (1, iV .i64 a1), (2, .im (.sc (.func (.func 70) #[] #[]))), (6, iV .i64 20)], [(0, some (.row 2 54 (t466.map eBucket)))], 1⟩) (by kernel_rfl) ?_)
    refine LWp.mono (Q := fun e s => (match (generalizing := false) o872 with | x869 => e = .exit 2 ∧ s = ⟨[], [(0, some (.row 2 54 (x869.map eBucket)))], 1⟩)) (LWp.cv (withBody (fun body hbody => ?_))) ?_
    · refine f_slices_stableCmpFunc_api_Bucket_hist_tidy_1.l1.partial_correctness a1 (motive := fun x845 x846 o872 => LWp Γ body (fun e s => ∃ t, Cv Γ s t ∧ (match (generalizing := false) o872 with | x869 => e = .exit 2 ∧ t = ⟨[], [(0, some (.row 2 54 (x869.map eBucket)))], 1⟩)) ⟨[(0, .own 0), (1, iV .i64 a1), (2, .im (.sc (.func (.func 70) #[] #[]))), (6, iV .i64 x846)], [(0, some (.row 2 54 (x845.map eBucket)))], 1⟩) ?_ _ _ _ e873
      clear H e873 o872; intro self ih x845 x846 o872 H
      subst hbody
      refine LWp.round ?_
      refine AWp.seq ?_
      refine AWp.seq ?_
      refine reg hP hn hm [] [0, 1, 2, 6, 30] [0] ⟨[(0, .own 0), (1, iV .i64 a1), (2, .im (.sc (.func (.func 70) #[] #[]))), (6, iV .i64 x846), (30, bV (decide (x846 < a1)))], [(0, some (.row 2 54 (x845.map eBucket)))], 1⟩ [] (by kernel_rfl) trivial ?_
      refine AWp.cond (decide (x846 < a1)) rfl (fun c847 => ?_) (fun c847 => ?_)
      · replace H := (ifT c847).symm.trans H
        refine AWp.skip ?_
        refine AWp.block ?_
        refine AWp.seq ?_
        refine reg hP hn hm [] [0, 1, 2, 6, 7, 8] [0] ⟨[(0, .own 0), (1, iV .i64 a1), (2, .im (.sc (.func (.func 70) #[] #[]))), (6, iV .i64 x846), (7, iV .i64 0), (8, iV .i64 (IntKind.i64.wrap ((2 : Int) * x846)))], [(0, some (.row 2 54 (x845.map eBucket)))], 1⟩ [] (by kernel_rfl) trivial ?_
        refine AWp.seq ?_
        refine AWp.block ?_
        obtain ⟨o874, e875, H⟩ := bind_of H
        refine AWp.loop (LWp.conv (inv := [(0, 0)]) (vk := []) (e0 := []) (t := ⟨[(0, .own 0), (1, iV .i64 a1), (2, .im (.sc (.func (.func 70) #[] #[]))), (6, iV .i64 x846), (7, iV .i64 0), (8, iV .i64 (IntKind.i64.wrap ((2 : Int) * x846)))], [(0, some (.row 2 54 (x845.map eBucket)))], 1⟩) (by kernel_rfl) ?_)
        refine LWp.mono (Q := fun e s => (match (generalizing := false) o874 with | (x861, x862) => e = .exit 4 ∧ s = ⟨[(0, .own 0), (1, iV .i64 a1), (2, .im (.sc (.func (.func 70) #[] #[]))), (6, iV .i64 x846), (7, iV .i64 x862)], [(0, some (.row 2 54 (x861.map eBucket)))], 1⟩)) (LWp.cv (withBody (fun body hbody => ?_))) ?_
        · refine f_slices_stableCmpFunc_api_Bucket_hist_tidy_1.l2.partial_correctness a1 x846 (motive := fun x853 x854 x855 o874 => LWp Γ body (fun e s => ∃ t, Cv Γ s t ∧ (match (generalizing := false) o874 with | (x861, x862) => e = .exit 4 ∧ t = ⟨[(0, .own 0), (1, iV .i64 a1), (2, .im (.sc (.func (.func 70) #[] #[]))), (6, iV .i64 x846), (7, iV .i64 x862)], [(0, some (.row 2 54 (x861.map eBucket)))], 1⟩)) ⟨[(0, .own 0), (1, iV .i64 a1), (2, .im (.sc (.func (.func 70) #[] #[]))), (6, iV .i64 x846), (7, iV .i64 x854), (8, iV .i64 x855)], [(0, some (.row 2 54 (x853.map eBucket)))], 1⟩) ?_ _ _ _ _ e875
          clear H e875 o874; intro self ih x853 x854 x855 o874 H
          subst hbody
          refine LWp.round ?_
          refine AWp.seq ?_
          refine AWp.seq ?_
          refine reg hP hn hm [] [0, 1, 2, 6, 7, 8, 35] [0] ⟨[(0, .own 0), (1, iV .i64 a1), (2, .im (.sc (.func (.func 70) #[] #[]))), (6, iV .i64 x846), (7, iV .i64 x854), (8, iV .i64 x855), (35, bV (decide (x855 ≤ a1)))], [(0, some (.row 2 54 (x853.map eBucket)))], 1⟩ [] (by kernel_rfl) trivial ?_
          refine AWp.cond (decide (x855 ≤ a1)) rfl (fun c856 => ?_) (fun c856 => ?_)
          · replace H := (ifT c856).symm.trans H
            refine AWp.skip ?_
            refine AWp.block ?_
            refine AWp.seq ?_
            obtain ⟨t859, e860, H⟩ := bind_of H
            refine reg hP hn hm [(7, .call [(0, 0)] [(0, 0)] [] [] 1 (.tup []) [(0, some (.row 2 54 (t859.map eBucket)))])] [0, 1, 2, 6, 8] [0] ⟨[(0, .own 0), (1, iV .i64 a1), (2, .im (.sc (.func (.func 70) #[] #[]))), (6, iV .i64 x846), (8, iV .i64 x855)], [(0, some (.row 2 54 (t859.map eBucket)))], 1⟩ [Enters Try.prog 80, Pv.Fn Try.prog 80 [.own 0, iV .i64 x854, iV .i64 (IntKind.i64.wrap (x854 + x846)), iV .i64 x855, .im (.sc (.func (.func 70) #[] #[]))] [(0, some (.row 2 54 (x853.map eBucket)))] 1 (fun r o => r = .tup [] ∧ o = [(0, some (.row 2 54 (t859.map eBucket)))])] (by kernel_rfl) ⟨by exact Try.call80, by exact f_slices_symMergeCmpFunc_api_Bucket_hist_tidy_1.ok x853 x854 (IntKind.i64.wrap (x854 + x846)) x855 t859 e860, trivial⟩ ?_
            refine AWp.seq ?_
            refine reg hP hn hm [] [0, 1, 2, 6, 7, 8] [0] ⟨[(0, .own 0), (1, iV .i64 a1), (2, .im (.sc (.func (.func 70) #[] #[]))), (6, iV .i64 x846), (7, iV .i64 x855), (8, iV .i64 x855)], [(0, some (.row 2 54 (t859.map eBucket)))], 1⟩ [] (by kernel_rfl) trivial ?_
            refine reg hP hn hm [] [0, 1, 2, 6, 7, 8] [0] ⟨[(0, .own 0), (1, iV .i64 a1), (2, .im (.sc (.func (.func 70) #[] #[]))), (6, iV .i64 x846), (7, iV .i64 x855), (8, iV .i64 (IntKind.i64.wrap (x855 + (IntKind.i64.wrap ((2 : Int) * x846)))))], [(0, some (.row 2 54 (t859.map eBucket)))], 1⟩ [] (by kernel_rfl) trivial ?_
            exact LWp.conv (inv := [(0, 0)]) (vk := []) (e0 := []) (t := ⟨[(0, .own 0), (1, iV .i64 a1), (2, .im (.sc (.func (.func 70) #[] #[]))), (6, iV .i64 x846), (7, iV .i64 x855), (8, iV .i64 (IntKind.i64.wrap (x855 + (IntKind.i64.wrap ((2 : Int) * x846)))))], [(0, some (.row 2 54 (t859.map eBucket)))], 1⟩) (by kernel_rfl) (ih _ _ _ _ H)
          · replace H := (ifF c856).symm.trans H
            refine AWp.exit ?_
            obtain rfl := Option.some.inj H
            exact Exists.intro _ (And.intro (fun _ _ h => h.conv (inv := [(0, 0)]) (vk := []) (e0 := []) (t := ⟨[(0, .own 0), (1, iV .i64 a1), (2, .im (.sc (.func (.func 70) #[] #[]))), (6, iV .i64 x846), (7, iV .i64 x854)], [(0, some (.row 2 54 (x853.map eBucket)))], 1⟩) (by kernel_rfl)) (And.intro rfl rfl))
        · obtain ⟨x861, x862⟩ := o874
          rintro e s ⟨rfl, rfl⟩
          refine AWp.seq ?_
          refine AWp.seq ?_
          refine reg hP hn hm [] [0, 1, 2, 6, 7, 9] [0] ⟨[(0, .own 0), (1, iV .i64 a1), (2, .im (.sc (.func (.func 70) #[] #[]))), (6, iV .i64 x846), (7, iV .i64 x862), (9, iV .i64 (IntKind.i64.wrap (x862 + x846)))], [(0, some (.row 2 54 (x861.map eBucket)))], 1⟩ [] (by kernel_rfl) trivial ?_
          refine AWp.seq ?_
          refine reg hP hn hm [] [0, 1, 2, 6, 7, 9, 54] [0] ⟨[(0, .own 0), (1, iV .i64 a1), (2, .im (.sc (.func (.func 70) #[] #[]))), (6, iV .i64 x846), (7, iV .i64 x862), (9, iV .i64 (IntKind.i64.wrap (x862 + x846))), (54, bV (decide ((IntKind.i64.wrap (x862 + x846)) < a1)))], [(0, some (.row 2 54 (x861.map eBucket)))], 1⟩ [] (by kernel_rfl) trivial ?_
          obtain ⟨o876, e877, H⟩ := bind_of H
          refine AWp.mono (Q := fun e s => (match (generalizing := false) o876 with | x868 => e = .normal ∧ s = ⟨[(0, .own 0), (1, iV .i64 a1), (2, .im (.sc (.func (.func 70) #[] #[]))), (6, iV .i64 x846)], [(0, some (.row 2 54 (x868.map eBucket)))], 1⟩)) (AWp.cv ?_) ?_
          · replace H := e877; clear e877
            refine AWp.cond (decide ((IntKind.i64.wrap (x862 + x846)) < a1)) rfl (fun c863 => ?_) (fun c863 => ?_)
            · replace H := (ifT c863).symm.trans H
              obtain ⟨t866, e867, H⟩ := bind_of H
              refine reg hP hn hm [(5, .call [(0, 0)] [(0, 0)] [] [] 1 (.tup []) [(0, some (.row 2 54 (t866.map eBucket)))])] [0, 1, 2, 6] [0] ⟨[(0, .own 0), (1, iV .i64 a1), (2, .im (.sc (.func (.func 70) #[] #[]))), (6, iV .i64 x846)], [(0, some (.row 2 54 (t866.map eBucket)))], 1⟩ [Enters Try.prog 80, Pv.Fn Try.prog 80 [.own 0, iV .i64 x862, iV .i64 (IntKind.i64.wrap (x862 + x846)), iV .i64 a1, .im (.sc (.func (.func 70) #[] #[]))] [(0, some (.row 2 54 (x861.map eBucket)))] 1 (fun r o => r = .tup [] ∧ o = [(0, some (.row 2 54 (t866.map eBucket)))])] (by kernel_rfl) ⟨by exact Try.call80, by exact f_slices_symMergeCmpFunc_api_Bucket_hist_tidy_1.ok x861 x862 (IntKind.i64.wrap (x862 + x846)) a1 t866 e867, trivial⟩ ?_
              obtain rfl := Option.some.inj H
              exact Exists.intro _ (And.intro (fun _ _ h => h.conv (inv := [(0, 0)]) (vk := []) (e0 := []) (t := ⟨[(0, .own 0), (1, iV .i64 a1), (2, .im (.sc (.func (.func 70) #[] #[]))), (6, iV .i64 x846)], [(0, some (.row 2 54 (t866.map eBucket)))], 1⟩) (by kernel_rfl)) (And.intro rfl rfl))
            · replace H := (ifF c863).symm.trans H
              refine AWp.skip ?_
              obtain rfl := Option.some.inj H
              exact Exists.intro _ (And.intro (fun _ _ h => h.conv (inv := [(0, 0)]) (vk := []) (e0 := []) (t := ⟨[(0, .own 0), (1, iV .i64 a1), (2, .im (.sc (.func (.func 70) #[] #[]))), (6, iV .i64 x846)], [(0, some (.row 2 54 (x861.map eBucket)))], 1⟩) (by kernel_rfl)) (And.intro rfl rfl))
          · obtain ⟨x868, rfl⟩ : ∃ z, z = o876 := ⟨_, rfl⟩
            rintro e s ⟨rfl, rfl⟩
            refine reg hP hn hm [] [0, 1, 2, 6] [0] ⟨[(0, .own 0), (1, iV .i64 a1), (2, .im (.sc (.func (.func 70) #[] #[]))), (6, iV .i64 (IntKind.i64.wrap (x846 * (2 : Int))))], [(0, some (.row 2 54 (x868.map eBucket)))], 1⟩ [] (by kernel_rfl) trivial ?_
            exact LWp.conv (inv := [(0, 0)]) (vk := []) (e0 := []) (t := ⟨[(0, .own 0), (1, iV .i64 a1), (2, .im (.sc (.func (.func 70) #[] #[]))), (6, iV .i64 (IntKind.i64.wrap (x846 * (2 : Int))))], [(0, some (.row 2 54 (x868.map eBucket)))], 1⟩) (by kernel_rfl) (ih _ _ _ H)
      · replace H := (ifF c847).symm.trans H
        refine AWp.exit ?_
        obtain rfl := Option.some.inj H
        exact Exists.intro _ (And.intro (fun _ _ h => h.conv (inv := [(0, 0)]) (vk := []) (e0 := []) (t := ⟨[], [(0, some (.row 2 54 (x845.map eBucket)))], 1⟩) (by kernel_rfl)) (And.intro rfl rfl))
    · obtain ⟨x869, rfl⟩ : ∃ z, z = o872 := ⟨_, rfl⟩
      rintro e s ⟨rfl, rfl⟩
      obtain rfl := Option.some.inj H
      exact Exists.intro ⟨[], [(0, some (.row 2 54 (x869.map eBucket)))], 1⟩ (And.intro (fun _ _ h => h.conv (inv := [(0, 0)]) (vk := []) (e0 := []) (t := ⟨[], [(0, some (.row 2 54 (x869.map eBucket)))], 1⟩) (by kernel_rfl)) (And.intro (.inr rfl) (And.intro rfl (And.intro (by kernel_rfl) (by kernel_rfl)))))
def f_slices_SortStableFunc_api_Bucket_hist_tidy_1.f (a0 : List TBucket) : Option (List TBucket) := (f_slices_stableCmpFunc_api_Bucket_hist_tidy_1.f a0 (a0.length : Int)) >>= fun t880 => some t880
theorem f_slices_SortStableFunc_api_Bucket_hist_tidy_1.ok (a0 : List TBucket) (r : List TBucket) (H : f_slices_SortStableFunc_api_Bucket_hist_tidy_1.f a0 = some r) : Pv.Fn Try.prog 69 [.own 0, .im (.sc (.func (.func 70) #[] #[]))] [(0, some (.row 2 54 (a0.map eBucket)))] 1 (fun x o => x = .tup [] ∧ o = [(0, some (.row 2 54 (r.map eBucket)))]) := by
  unfold f_slices_SortStableFunc_api_Bucket_hist_tidy_1.f at H
  refine Fn.bodyK [0] Try.func69 rfl rfl (fun Γ hP hn => ?_)
  have hm : Try.prog.follows .mixedOrders = true := by kernel_rfl
  replace hn : Γ.n = 9 := hn
  obtain ⟨t880, e881, H⟩ := bind_of H
  refine reg hP hn hm [(2, .any (iV .i64 (a0.length : Int))), (4, .call [(0, 0)] [(0, 0)] [] [] 1 (.tup []) [(0, some (.row 2 54 (t880.map eBucket)))])] [] [0] ⟨[], [(0, some (.row 2 54 (t880.map eBucket)))], 1⟩ [((a0.map eBucket).length : Int) = (a0.length : Int), Enters Try.prog 77, Pv.Fn Try.prog 77 [.own 0, iV .i64 (a0.length : Int), .im (.sc (.func (.func 70) #[] #[]))] [(0, some (.row 2 54 (a0.map eBucket)))] 1 (fun r o => r = .tup [] ∧ o = [(0, some (.row 2 54 (t880.map eBucket)))])] (by kernel_rfl) ⟨by rw [len_map], by exact Try.call77, by exact f_slices_stableCmpFunc_api_Bucket_hist_tidy_1.ok a0 (a0.length : Int) t880 e881, trivial⟩ ?_
  obtain rfl := Option.some.inj H
  exact Exists.intro ⟨[], [(0, some (.row 2 54 (t880.map eBucket)))], 1⟩ (And.intro (fun _ _ h => h.conv (inv := [(0, 0)]) (vk := []) (e0 := []) (t := ⟨[], [(0, some (.row 2 54 (t880.map eBucket)))], 1⟩) (by kernel_rfl)) (And.intro (.inr rfl) (And.intro rfl (And.intro (by kernel_rfl) (by kernel_rfl)))))
def f_num_Add.l0 (a0 : List Int) (x930 : Int) (x931 : Int) : Option ((Int × Int) ⊕ Int) := if (decide (x931 < (a0.length : Int))) = true then ((at? a0 x931) >>= fun b936 => (chk (0 ≤ x930 ∧ 0 ≤ b936 ∧ 0 ≤ (0 : Int) ∧ (0 : Int) ≤ (1 : Int))) >>= fun _ => if (((x930 + b936 + (0 : Int)) / 18446744073709551616) != (0 : Int)) = true then (some (.inl (0, 5))) else (f_num_Add.l0 a0 ((x930 + b936 + (0 : Int)) % 18446744073709551616) (IntKind.i64.wrap (x931 + (1 : Int))))) else (some (.inr x930))
partial_fixpoint
def f_num_Add.f (a0 : List Int) : Option (Int × Int) := (f_num_Add.l0 a0 0 0) >>= fun oo => match oo with | .inl rr => (some rr) | .inr x942 => (some (x942, 0))
theorem f_num_Add.ok (a0 : List Int) (r : Int × Int) (H : f_num_Add.f a0 = some r) : Pv.Fn Try.prog 45 [.im (.row (a0.map (encInt .u64)))] [] 0 (fun x o => x = .tup [iV .u64 r.1, iV .i64 r.2] ∧ o = []) := by
  unfold f_num_Add.f at H
  refine Fn.bodyK [] Try.func45 rfl rfl (fun Γ hP hn => ?_)
  have hm : Try.prog.follows .mixedOrders = true := by kernel_rfl
  replace hn : Γ.n = 26 := hn
  refine AWp.seq ?_
  refine reg hP hn hm [] [0] [] ⟨[(0, .im (.row (a0.map (encInt .u64))))], [], 0⟩ [] (by kernel_rfl) trivial ?_
  refine AWp.seq ?_
  refine reg hP hn hm [] [0, 4] [] ⟨[(0, .im (.row (a0.map (encInt .u64)))), (4, iV .u64 0)], [], 0⟩ [] (by kernel_rfl) trivial ?_
  refine AWp.seq ?_
  refine AWp.seq ?_
  refine reg hP hn hm [(1, .any (iV .i64 (a0.length : Int)))] [4, 9, 10, 11] [] ⟨[(4, iV .u64 0), (9, .im (.row (a0.map (encInt .u64)))), (10, iV .i64 (a0.length : Int)), (11, iV .i64 0)], [], 0⟩ [((a0.map (encInt .u64)).length : Int) = (a0.length : Int)] (by kernel_rfl) ⟨by rw [len_map], trivial⟩ ?_
  refine AWp.block ?_
  obtain ⟨o943, e944, H⟩ := bind_of H
  refine AWp.loop (LWp.conv (inv := []) (vk := []) (e0 := []) (t := ⟨[(4, iV .u64 0), (9, .im (.row (a0.map (encInt .u64)))), (10, iV .i64 (a0.length : Int)), (11, iV .i64 0)], [], 0⟩) (by kernel_rfl) ?_)
  refine LWp.mono (Q := fun e s => (match (generalizing := false) o943 with | .inl rr => e = .ret ∧ s.floor = 0 ∧ resOf Try.prog Try.f45 s = some (.tup [iV .u64 rr.1, iV .i64 rr.2]) ∧ ([] : List (Nat × Option MObj)) = [] | .inr x942 => e = .exit 0 ∧ s = ⟨[(4, iV .u64 x942)], [], 0⟩)) (LWp.cv (withBody (fun body hbody => ?_))) ?_
  · refine f_num_Add.l0.partial_correctness a0 (motive := fun x930 x931 o943 => LWp Γ body (fun e s => ∃ t, Cv Γ s t ∧ (match (generalizing := false) o943 with | .inl rr => e = .ret ∧ t.floor = 0 ∧ resOf Try.prog Try.f45 t = some (.tup [iV .u64 rr.1, iV .i64 rr.2]) ∧ ([] : List (Nat × Option MObj)) = [] | .inr x942 => e = .exit 0 ∧ t = ⟨[(4, iV .u64 x942)], [], 0⟩)) ⟨[(4, iV .u64 x930), (9, .im (.row (a0.map (encInt .u64)))), (10, iV .i64 (a0.length : Int)), (11, iV .i64 x931)], [], 0⟩) ?_ _ _ _ e944
    clear H e944 o943; intro self ih x930 x931 o943 H
    subst hbody
    refine LWp.round ?_
    refine AWp.seq ?_
    refine reg hP hn hm [] [4, 9, 10, 11, 12] [] ⟨[(4, iV .u64 x930), (9, .im (.row (a0.map (encInt .u64)))), (10, iV .i64 (a0.length : Int)), (11, iV .i64 x931), (12, bV (decide (x931 < (a0.length : Int))))], [], 0⟩ [] (by kernel_rfl) trivial ?_
    refine AWp.seq ?_
    refine AWp.cond (decide (x931 < (a0.length : Int))) rfl (fun c932 => ?_) (fun c932 => ?_)
    · replace H := (ifT c932).symm.trans H
      refine AWp.skip ?_
      refine AWp.seq ?_
      refine AWp.block ?_
      refine AWp.seq ?_
      obtain ⟨b936, p937, q938, H⟩ := at_of H
      refine reg hP hn hm [(0, .c ((encInt .u64) b936))] [4, 6, 9, 10, 11] [] ⟨[(4, iV .u64 x930), (6, iV .u64 b936), (9, .im (.row (a0.map (encInt .u64)))), (10, iV .i64 (a0.length : Int)), (11, iV .i64 x931)], [], 0⟩ [0 ≤ x931, (a0.map (encInt .u64))[(Int.toNat (x931))]? = some ((encInt .u64) b936)] (by kernel_rfl) ⟨by exact p937, by exact el_map (encInt .u64) q938, trivial⟩ ?_
      refine AWp.seq ?_
      obtain ⟨c940, H⟩ := chk_of H
      refine reg hP hn hm [(2, .ext (.tup [iV .u64 ((x930 + b936 + (0 : Int)) % 18446744073709551616), iV .u64 ((x930 + b936 + (0 : Int)) / 18446744073709551616)]))] [7, 8, 9, 10, 11] [] ⟨[(7, iV .u64 ((x930 + b936 + (0 : Int)) % 18446744073709551616)), (8, iV .u64 ((x930 + b936 + (0 : Int)) / 18446744073709551616)), (9, .im (.row (a0.map (encInt .u64)))), (10, iV .i64 (a0.length : Int)), (11, iV .i64 x931)], [], 0⟩ [∀ w, (callFunc 65 ([.int .u64 x930, .int .u64 b936, .int .u64 (0 : Int)] : List Value).toArray).run Try.prog w = .ok (.value (.tuple #[.int .u64 ((x930 + b936 + (0 : Int)) % 18446744073709551616), .int .u64 ((x930 + b936 + (0 : Int)) / 18446744073709551616)])) w] (by kernel_rfl) ⟨by exact fun w => x_add64 (fn := Try.f65) Try.func65 (by kernel_rfl) rfl (by kernel_rfl) (by kernel_rfl) c940 w, trivial⟩ ?_
      refine AWp.seq ?_
      refine AWp.seq ?_
      refine reg hP hn hm [] [7, 9, 10, 11, 22] [] ⟨[(7, iV .u64 ((x930 + b936 + (0 : Int)) % 18446744073709551616)), (9, .im (.row (a0.map (encInt .u64)))), (10, iV .i64 (a0.length : Int)), (11, iV .i64 x931), (22, bV (((x930 + b936 + (0 : Int)) / 18446744073709551616) != (0 : Int)))], [], 0⟩ [] (by kernel_rfl) trivial ?_
      refine AWp.cond (((x930 + b936 + (0 : Int)) / 18446744073709551616) != (0 : Int)) rfl (fun c941 => ?_) (fun c941 => ?_)
      · replace H := (ifT c941).symm.trans H
        refine AWp.seq ?_
        refine reg hP hn hm [] [2, 3] [] ⟨[(2, iV .u64 0), (3, iV .i64 5)], [], 0⟩ [] (by kernel_rfl) trivial ?_
        refine AWp.conv (inv := []) (vk := []) (e0 := []) (t := ⟨[(2, iV .u64 0), (3, iV .i64 5)], [], 0⟩) (by kernel_rfl) ?_
        refine AWp.ret ?_
        obtain rfl := Option.some.inj H
        exact Exists.intro _ (And.intro (fun _ _ h => h) (And.intro rfl (And.intro rfl (And.intro (by kernel_rfl) (by kernel_rfl)))))
      · replace H := (ifF c941).symm.trans H
        refine AWp.skip ?_
        refine reg hP hn hm [] [4, 9, 10, 11] [] ⟨[(4, iV .u64 ((x930 + b936 + (0 : Int)) % 18446744073709551616)), (9, .im (.row (a0.map (encInt .u64)))), (10, iV .i64 (a0.length : Int)), (11, iV .i64 x931)], [], 0⟩ [] (by kernel_rfl) trivial ?_
        refine reg hP hn hm [] [4, 9, 10, 11] [] ⟨[(4, iV .u64 ((x930 + b936 + (0 : Int)) % 18446744073709551616)), (9, .im (.row (a0.map (encInt .u64)))), (10, iV .i64 (a0.length : Int)), (11, iV .i64 (IntKind.i64.wrap (x931 + (1 : Int))))], [], 0⟩ [] (by kernel_rfl) trivial ?_
        exact LWp.conv (inv := []) (vk := []) (e0 := []) (t := ⟨[(4, iV .u64 ((x930 + b936 + (0 : Int)) % 18446744073709551616)), (9, .im (.row (a0.map (encInt .u64)))), (10, iV .i64 (a0.length : Int)), (11, iV .i64 (IntKind.i64.wrap (x931 + (1 : Int))))], [], 0⟩) (by kernel_rfl) (ih _ _ _ H)
    · replace H := (ifF c932).symm.trans H
      refine AWp.exit ?_
      obtain rfl := Option.some.inj H
      exact Exists.intro _ (And.intro (fun _ _ h => h.conv (inv := []) (vk := []) (e0 := []) (t := ⟨[(4, iV .u64 x930)], [], 0⟩) (by kernel_rfl)) (And.intro rfl rfl))
  · rcases o943 with rr | x942
    · skip
      rintro e s ⟨rfl, hfl, hres⟩
      obtain rfl := Option.some.inj H
      exact Exists.intro _ (And.intro (fun _ _ h => h) (And.intro (.inl rfl) (And.intro hfl hres)))
    · skip
      rintro e s ⟨rfl, rfl⟩
      refine AWp.seq ?_
      refine reg hP hn hm [] [2, 3] [] ⟨[(2, iV .u64 x942), (3, iV .i64 0)], [], 0⟩ [] (by kernel_rfl) trivial ?_
      refine AWp.conv (inv := []) (vk := []) (e0 := []) (t := ⟨[(2, iV .u64 x942), (3, iV .i64 0)], [], 0⟩) (by kernel_rfl) ?_
      refine AWp.ret ?_
      obtain rfl := Option.some.inj H
      exact Exists.intro _ (And.intro (fun _ _ h => h) (And.intro (.inl rfl) (And.intro rfl (And.intro (by kernel_rfl) (by kernel_rfl)))))
end Go.Proofs.Yticdbkmekkbiiaa.PvGB
