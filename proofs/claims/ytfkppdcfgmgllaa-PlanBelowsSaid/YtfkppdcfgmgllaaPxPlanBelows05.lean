import Derived.Test.YtfkppdcfgmgllaaProg
import Derived.Test.YtfkppdcfgmgllaaPxPlanBelows04
set_option linter.unusedVariables false
set_option linter.unnecessarySimpa false
set_option linter.unusedSimpArgs false
set_option maxRecDepth 10000
namespace Go.Proofs.Ytfkppdcfgmgllaa.PvGD4
open Go Go.Pv
structure Tpluvialref17_Item where
  f0 : Int
  f1 : Int
  f2 : Int
  f3 : Int
  deriving DecidableEq, Inhabited
abbrev epluvialref17_Item (x : Tpluvialref17_Item) : List Im := [iI .i64 x.f0, iI .i64 x.f1, iI .i64 x.f2, iI .i64 x.f3]
abbrev apluvialref17_Item (x : Tpluvialref17_Item) : List AVal := [iV .i64 x.f0, iV .i64 x.f1, iV .i64 x.f2, iV .i64 x.f3]
structure Rpluvialref17_Item (x : Tpluvialref17_Item) : Prop where
  r0 : I64 x.f0
  r1 : I64 x.f1
  r2 : I64 x.f2
  r3 : I64 x.f3
structure Tblock_Meta where
  f0 : Int
  f1 : Int
  f2 : Int
  deriving DecidableEq, Inhabited
structure Rblock_Meta (x : Tblock_Meta) : Prop where
  r0 : I64 x.f0
  r1 : I64 x.f1
  r2 : I64 x.f2
structure Tplan_Item where
  f0 : Int
  f1 : Tblock_Meta
  deriving DecidableEq, Inhabited
abbrev eplan_Item (x : Tplan_Item) : List Im := [iI .i64 x.f0, iI .i64 x.f1.f0, iI .i64 x.f1.f1, iI .i64 x.f1.f2]
structure Rplan_Item (x : Tplan_Item) : Prop where
  r0 : I64 x.f0
  r1 : Rblock_Meta x.f1
structure Tplan_Step where
  f0 : List Int
  f1 : Int
  deriving DecidableEq, Inhabited
structure Rplan_Step (x : Tplan_Step) : Prop where
  r0 : x.f0.length ≤ maxLen ∧ ∀ y ∈ x.f0, I64 y
  r1 : I64 x.f1
def f_pluvialref16_Width.l0 (a0 : Int) (x18 : Int) (x19 : Int) : Option (Int) := ((if (decide (x19 < a0)) = true then (some (decide (x19 < (4 : Int)))) else (some false)) : Option (Bool)) >>= fun x22 => if x22 = true then (f_pluvialref16_Width.l0 a0 (IntKind.i64.wrap (x18 * (4 : Int))) (IntKind.i64.wrap (x19 + (1 : Int)))) else (some x18)
partial_fixpoint
def f_pluvialref16_Width.f (a0 : Int) : Option (Int) := (f_pluvialref16_Width.l0 a0 64 0) >>= fun x24 => some x24
theorem f_pluvialref16_Width.ok (a0 : Int) (r : Int) (H : f_pluvialref16_Width.f a0 = some r) : Pv.Fn Try.prog 19 [iV .i64 a0] [] 0 (fun x o => x = iV .i64 r ∧ o = []) := by
  unfold f_pluvialref16_Width.f at H
  refine Fn.bodyK [] Try.func19 rfl rfl (fun Γ hP hn => ?_)
  have hm : Try.prog.follows .mixedOrders = true := by kernel_rfl
  replace hn : Γ.n = 17 := hn
  refine AWp.seq ?_
  refine reg hP hn hm [] [0] [] ⟨[(0, iV .i64 a0)], [], 0⟩ [] (by kernel_rfl) trivial ?_
  refine AWp.seq ?_
  refine reg hP hn hm [] [0, 3] [] ⟨[(0, iV .i64 a0), (3, iV .i64 64)], [], 0⟩ [] (by kernel_rfl) trivial ?_
  refine AWp.seq ?_
  refine AWp.seq ?_
  refine reg hP hn hm [] [0, 3, 4] [] ⟨[(0, iV .i64 a0), (3, iV .i64 64), (4, iV .i64 0)], [], 0⟩ [] (by kernel_rfl) trivial ?_
  refine AWp.block ?_
  obtain ⟨o25, e26, H⟩ := bind_of H
  refine AWp.loop (LWp.conv (inv := []) (vk := []) (e0 := []) (t := ⟨[(0, iV .i64 a0), (3, iV .i64 64), (4, iV .i64 0)], [], 0⟩) (by kernel_rfl) ?_)
  refine LWp.mono (Q := fun e s => (match (generalizing := false) o25 with | x24 => e = .exit 0 ∧ s = ⟨[(3, iV .i64 x24)], [], 0⟩)) (LWp.cv (withBody (fun body hbody => ?_))) ?_
  · refine f_pluvialref16_Width.l0.partial_correctness a0 (motive := fun x18 x19 o25 => LWp Γ body (fun e s => ∃ t, Cv Γ s t ∧ (match (generalizing := false) o25 with | x24 => e = .exit 0 ∧ t = ⟨[(3, iV .i64 x24)], [], 0⟩)) ⟨[(0, iV .i64 a0), (3, iV .i64 x18), (4, iV .i64 x19)], [], 0⟩) ?_ _ _ _ e26
    clear H e26 o25; intro self ih x18 x19 o25 H
    subst hbody
    refine LWp.round ?_
    refine AWp.seq ?_
    refine AWp.seq ?_
    obtain ⟨o27, e28, H⟩ := bind_of H
    refine AWp.mono (Q := fun e s => (match (generalizing := false) o27 with | x22 => e = .normal ∧ s = ⟨[(0, iV .i64 a0), (3, iV .i64 x18), (4, iV .i64 x19), (11, bV x22)], [], 0⟩)) (AWp.cv ?_) ?_
    · replace H := e28; clear e28
      rcases Bool.eq_false_or_eq_true (decide (x19 < a0)) with c21 | c21
      · replace H := (ifT c21).symm.trans H
        refine reg hP hn hm [(3, .b true)] [0, 3, 4, 9, 10, 11] [] ⟨[(0, iV .i64 a0), (3, iV .i64 x18), (4, iV .i64 x19), (9, iV .i64 x19), (10, bV (decide (x19 < (4 : Int)))), (11, bV (decide (x19 < (4 : Int))))], [], 0⟩ [(decide (x19 < a0)) = true] (by kernel_rfl) ⟨by exact c21, trivial⟩ ?_
        obtain rfl := Option.some.inj H
        exact Exists.intro _ (And.intro (fun _ _ h => h.conv (inv := []) (vk := []) (e0 := []) (t := ⟨[(0, iV .i64 a0), (3, iV .i64 x18), (4, iV .i64 x19), (11, bV (decide (x19 < (4 : Int))))], [], 0⟩) (by kernel_rfl)) (And.intro rfl rfl))
      · replace H := (ifF c21).symm.trans H
        refine reg hP hn hm [(3, .b false)] [0, 3, 4, 11] [] ⟨[(0, iV .i64 a0), (3, iV .i64 x18), (4, iV .i64 x19), (11, bV false)], [], 0⟩ [(decide (x19 < a0)) = false] (by kernel_rfl) ⟨by exact c21, trivial⟩ ?_
        obtain rfl := Option.some.inj H
        exact Exists.intro _ (And.intro (fun _ _ h => h.conv (inv := []) (vk := []) (e0 := []) (t := ⟨[(0, iV .i64 a0), (3, iV .i64 x18), (4, iV .i64 x19), (11, bV false)], [], 0⟩) (by kernel_rfl)) (And.intro rfl rfl))
    · obtain ⟨x22, rfl⟩ : ∃ z, z = o27 := ⟨_, rfl⟩
      rintro e s ⟨rfl, rfl⟩
      refine AWp.cond x22 rfl (fun c23 => ?_) (fun c23 => ?_)
      · replace H := (ifT c23).symm.trans H
        refine AWp.skip ?_
        refine AWp.seq ?_
        refine AWp.block ?_
        refine reg hP hn hm [] [0, 3, 4] [] ⟨[(0, iV .i64 a0), (3, iV .i64 (IntKind.i64.wrap (x18 * (4 : Int)))), (4, iV .i64 x19)], [], 0⟩ [] (by kernel_rfl) trivial ?_
        refine reg hP hn hm [] [0, 3, 4] [] ⟨[(0, iV .i64 a0), (3, iV .i64 (IntKind.i64.wrap (x18 * (4 : Int)))), (4, iV .i64 (IntKind.i64.wrap (x19 + (1 : Int))))], [], 0⟩ [] (by kernel_rfl) trivial ?_
        exact LWp.conv (inv := []) (vk := []) (e0 := []) (t := ⟨[(0, iV .i64 a0), (3, iV .i64 (IntKind.i64.wrap (x18 * (4 : Int)))), (4, iV .i64 (IntKind.i64.wrap (x19 + (1 : Int))))], [], 0⟩) (by kernel_rfl) (ih _ _ _ H)
      · replace H := (ifF c23).symm.trans H
        refine AWp.exit ?_
        obtain rfl := Option.some.inj H
        exact Exists.intro _ (And.intro (fun _ _ h => h.conv (inv := []) (vk := []) (e0 := []) (t := ⟨[(3, iV .i64 x18)], [], 0⟩) (by kernel_rfl)) (And.intro rfl rfl))
  · obtain ⟨x24, rfl⟩ : ∃ z, z = o25 := ⟨_, rfl⟩
    rintro e s ⟨rfl, rfl⟩
    refine AWp.seq ?_
    refine reg hP hn hm [] [2] [] ⟨[(2, iV .i64 x24)], [], 0⟩ [] (by kernel_rfl) trivial ?_
    refine AWp.conv (inv := []) (vk := []) (e0 := []) (t := ⟨[(2, iV .i64 x24)], [], 0⟩) (by kernel_rfl) ?_
    refine AWp.ret ?_
    obtain rfl := Option.some.inj H
    exact Exists.intro _ (And.intro (fun _ _ h => h) (And.intro (.inl rfl) (And.intro rfl (And.intro (by kernel_rfl) (by kernel_rfl)))))
def f_pluvialref17_Right.l1 (a0 : List Tpluvialref17_Item) (x47 : Int) (x63 : Int) : Option (Bool ⊕ Unit) := if (decide (x63 < x47)) = true then ((at? a0 x63) >>= fun b71 => (at? a0 x47) >>= fun b74 => if (b71.f0 == b74.f0) = true then (some (.inl false)) else (f_pluvialref17_Right.l1 a0 x47 (IntKind.i64.wrap (x63 + (1 : Int))))) else (some (.inr ()))
partial_fixpoint
def f_pluvialref17_Right.l0 (a0 : List Tpluvialref17_Item) (x47 : Int) : Option (Bool ⊕ Unit) := if (decide (x47 < (a0.length : Int))) = true then ((f_pluvialref17_Right.l1 a0 x47 0) >>= fun oo => match oo with | .inl rr => (some (.inl rr)) | .inr _ => ((at? a0 x47) >>= fun b81 => ((if (decide (b81.f1 < (0 : Int))) = true then (some true) else (if (decide (b81.f1 > (4 : Int))) = true then (some true) else (if (decide (b81.f2 < (0 : Int))) = true then (some true) else (if (decide (b81.f2 > (1099511627776 : Int))) = true then (some true) else ((f_pluvialref16_Width.f b81.f1) >>= fun t98 => (chk (t98 ≠ 0)) >>= fun _ => if ((Int.tmod b81.f2 t98) != (0 : Int)) = true then (some true) else ((f_pluvialref16_Width.f b81.f1) >>= fun t102 => some (b81.f3 != (IntKind.i64.wrap (b81.f2 + t102))))))))) : Option (Bool)) >>= fun x104 => if x104 = true then (some (.inl false)) else (f_pluvialref17_Right.l0 a0 (IntKind.i64.wrap (x47 + (1 : Int)))))) else (some (.inr ()))
partial_fixpoint
def f_pluvialref17_Right.f (a0 : List Tpluvialref17_Item) : Option (Bool) := (f_pluvialref17_Right.l0 a0 0) >>= fun oo => match oo with | .inl rr => (some rr) | .inr _ => (some true)
theorem f_pluvialref17_Right.ok (a0 : List Tpluvialref17_Item) (r : Bool) (H : f_pluvialref17_Right.f a0 = some r) : Pv.Fn Try.prog 12 [.im (.row (a0.map epluvialref17_Item))] [] 0 (fun x o => x = bV r ∧ o = []) := by
  unfold f_pluvialref17_Right.f at H
  refine Fn.bodyK [] Try.func12 rfl rfl (fun Γ hP hn => ?_)
  have hm : Try.prog.follows .mixedOrders = true := by kernel_rfl
  replace hn : Γ.n = 70 := hn
  refine AWp.seq ?_
  refine reg hP hn hm [] [0] [] ⟨[(0, .im (.row (a0.map epluvialref17_Item)))], [], 0⟩ [] (by kernel_rfl) trivial ?_
  refine AWp.seq ?_
  refine AWp.seq ?_
  refine reg hP hn hm [] [0, 3] [] ⟨[(0, .im (.row (a0.map epluvialref17_Item))), (3, iV .i64 0)], [], 0⟩ [] (by kernel_rfl) trivial ?_
  refine AWp.block ?_
  obtain ⟨o106, e107, H⟩ := bind_of H
  refine AWp.loop (LWp.conv (inv := []) (vk := []) (e0 := []) (t := ⟨[(0, .im (.row (a0.map epluvialref17_Item))), (3, iV .i64 0)], [], 0⟩) (by kernel_rfl) ?_)
  refine LWp.mono (Q := fun e s => (match (generalizing := false) o106 with | .inl rr => e = .ret ∧ s.floor = 0 ∧ resOf Try.prog Try.f12 s = some (bV rr) ∧ ([] : List (Nat × Option MObj)) = [] | .inr _ => e = .exit 0 ∧ s = ⟨[], [], 0⟩)) (LWp.cv (withBody (fun body hbody => ?_))) ?_
  · refine f_pluvialref17_Right.l0.partial_correctness a0 (motive := fun x47 o106 => LWp Γ body (fun e s => ∃ t, Cv Γ s t ∧ (match (generalizing := false) o106 with | .inl rr => e = .ret ∧ t.floor = 0 ∧ resOf Try.prog Try.f12 t = some (bV rr) ∧ ([] : List (Nat × Option MObj)) = [] | .inr _ => e = .exit 0 ∧ t = ⟨[], [], 0⟩)) ⟨[(0, .im (.row (a0.map epluvialref17_Item))), (3, iV .i64 x47)], [], 0⟩) ?_ _ _ e107
    clear H e107 o106; intro self ih x47 o106 H
    subst hbody
    refine LWp.round ?_
    refine AWp.seq ?_
    refine AWp.seq ?_
    refine reg hP hn hm [(2, .any (iV .i64 (a0.length : Int)))] [0, 3, 9] [] ⟨[(0, .im (.row (a0.map epluvialref17_Item))), (3, iV .i64 x47), (9, bV (decide (x47 < (a0.length : Int))))], [], 0⟩ [((a0.map epluvialref17_Item).length : Int) = (a0.length : Int)] (by kernel_rfl) ⟨by rw [len_map], trivial⟩ ?_
    refine AWp.cond (decide (x47 < (a0.length : Int))) rfl (fun c48 => ?_) (fun c48 => ?_)
    · replace H := (ifT c48).symm.trans H
      refine AWp.skip ?_
      refine AWp.seq ?_
      refine AWp.block ?_
      refine AWp.seq ?_
      refine AWp.seq ?_
      refine reg hP hn hm [] [0, 3, 4] [] ⟨[(0, .im (.row (a0.map epluvialref17_Item))), (3, iV .i64 x47), (4, iV .i64 0)], [], 0⟩ [] (by kernel_rfl) trivial ?_
      refine AWp.block ?_
      obtain ⟨o108, e109, H⟩ := bind_of H
      refine AWp.loop (LWp.conv (inv := []) (vk := []) (e0 := []) (t := ⟨[(0, .im (.row (a0.map epluvialref17_Item))), (3, iV .i64 x47), (4, iV .i64 0)], [], 0⟩) (by kernel_rfl) ?_)
      refine LWp.mono (Q := fun e s => (match (generalizing := false) o108 with | .inl rr => e = .ret ∧ s.floor = 0 ∧ resOf Try.prog Try.f12 s = some (bV rr) ∧ ([] : List (Nat × Option MObj)) = [] | .inr _ => e = .exit 2 ∧ s = ⟨[(0, .im (.row (a0.map epluvialref17_Item))), (3, iV .i64 x47)], [], 0⟩)) (LWp.cv (withBody (fun body hbody => ?_))) ?_
      · refine f_pluvialref17_Right.l1.partial_correctness a0 x47 (motive := fun x63 o108 => LWp Γ body (fun e s => ∃ t, Cv Γ s t ∧ (match (generalizing := false) o108 with | .inl rr => e = .ret ∧ t.floor = 0 ∧ resOf Try.prog Try.f12 t = some (bV rr) ∧ ([] : List (Nat × Option MObj)) = [] | .inr _ => e = .exit 2 ∧ t = ⟨[(0, .im (.row (a0.map epluvialref17_Item))), (3, iV .i64 x47)], [], 0⟩)) ⟨[(0, .im (.row (a0.map epluvialref17_Item))), (3, iV .i64 x47), (4, iV .i64 x63)], [], 0⟩) ?_ _ _ e109
        clear H e109 o108; intro self ih x63 o108 H
        subst hbody
        refine LWp.round ?_
        refine AWp.seq ?_
        refine AWp.seq ?_
        refine reg hP hn hm [] [0, 3, 4, 14] [] ⟨[(0, .im (.row (a0.map epluvialref17_Item))), (3, iV .i64 x47), (4, iV .i64 x63), (14, bV (decide (x63 < x47)))], [], 0⟩ [] (by kernel_rfl) trivial ?_
        refine AWp.cond (decide (x63 < x47)) rfl (fun c64 => ?_) (fun c64 => ?_)
        · replace H := (ifT c64).symm.trans H
          refine AWp.skip ?_
          refine AWp.seq ?_
          refine AWp.block ?_
          refine AWp.seq ?_
          obtain ⟨b71, p72, q73, H⟩ := at_of H
          obtain ⟨b74, p75, q76, H⟩ := at_of H
          refine reg hP hn hm [(2, .c (epluvialref17_Item b71)), (7, .c (epluvialref17_Item b74))] [0, 3, 4, 27] [] ⟨[(0, .im (.row (a0.map epluvialref17_Item))), (3, iV .i64 x47), (4, iV .i64 x63), (27, bV (b71.f0 == b74.f0))], [], 0⟩ [0 ≤ x63, (a0.map epluvialref17_Item)[(Int.toNat (x63))]? = some (epluvialref17_Item b71), 0 ≤ x47, (a0.map epluvialref17_Item)[(Int.toNat (x47))]? = some (epluvialref17_Item b74)] (by kernel_rfl) ⟨by exact p72, by exact el_map epluvialref17_Item q73, by exact p75, by exact el_map epluvialref17_Item q76, trivial⟩ ?_
          refine AWp.cond (b71.f0 == b74.f0) rfl (fun c77 => ?_) (fun c77 => ?_)
          · replace H := (ifT c77).symm.trans H
            refine AWp.seq ?_
            refine reg hP hn hm [] [2] [] ⟨[(2, bV false)], [], 0⟩ [] (by kernel_rfl) trivial ?_
            refine AWp.conv (inv := []) (vk := []) (e0 := []) (t := ⟨[(2, bV false)], [], 0⟩) (by kernel_rfl) ?_
            refine AWp.ret ?_
            obtain rfl := Option.some.inj H
            exact Exists.intro _ (And.intro (fun _ _ h => h) (And.intro rfl (And.intro rfl (And.intro (by kernel_rfl) (by kernel_rfl)))))
          · replace H := (ifF c77).symm.trans H
            refine AWp.skip ?_
            refine reg hP hn hm [] [0, 3, 4] [] ⟨[(0, .im (.row (a0.map epluvialref17_Item))), (3, iV .i64 x47), (4, iV .i64 (IntKind.i64.wrap (x63 + (1 : Int))))], [], 0⟩ [] (by kernel_rfl) trivial ?_
            exact LWp.conv (inv := []) (vk := []) (e0 := []) (t := ⟨[(0, .im (.row (a0.map epluvialref17_Item))), (3, iV .i64 x47), (4, iV .i64 (IntKind.i64.wrap (x63 + (1 : Int))))], [], 0⟩) (by kernel_rfl) (ih _ _ H)
        · replace H := (ifF c64).symm.trans H
          refine AWp.exit ?_
          obtain rfl := Option.some.inj H
          exact Exists.intro _ (And.intro (fun _ _ h => h.conv (inv := []) (vk := []) (e0 := []) (t := ⟨[(0, .im (.row (a0.map epluvialref17_Item))), (3, iV .i64 x47)], [], 0⟩) (by kernel_rfl)) (And.intro rfl rfl))
      · rcases o108 with rr | _
        · skip
          rintro e s ⟨rfl, hfl, hres⟩
          obtain rfl := Option.some.inj H
          exact Exists.intro _ (And.intro (fun _ _ h => h) (And.intro rfl (And.intro hfl hres)))
        · skip
          rintro e s ⟨rfl, rfl⟩
          refine AWp.seq ?_
          obtain ⟨b81, p82, q83, H⟩ := at_of H
          refine reg hP hn hm [(2, .c (epluvialref17_Item b81)), (4, .k 1)] [0, 3, 5] [1] ⟨[(0, .im (.row (a0.map epluvialref17_Item))), (3, iV .i64 x47), (5, .ptr 1 0 0)], [(1, some (.box 31 (apluvialref17_Item b81)))], 0⟩ [0 ≤ x47, (a0.map epluvialref17_Item)[(Int.toNat (x47))]? = some (epluvialref17_Item b81)] (by kernel_rfl) ⟨by exact p82, by exact el_map epluvialref17_Item q83, trivial⟩ ?_
          refine AWp.seq ?_
          obtain ⟨o110, e111, H⟩ := bind_of H
          refine AWp.mono (Q := fun e s => (match (generalizing := false) o110 with | x104 => e = .normal ∧ s = ⟨[(0, .im (.row (a0.map epluvialref17_Item))), (3, iV .i64 x47), (69, bV x104)], [], 0⟩)) (AWp.cv ?_) ?_
          · replace H := e111; clear e111
            rcases Bool.eq_false_or_eq_true (decide (b81.f1 < (0 : Int))) with c94 | c94
            · replace H := (ifT c94).symm.trans H
              refine reg hP hn hm [(3, .b true)] [0, 3, 69] [] ⟨[(0, .im (.row (a0.map epluvialref17_Item))), (3, iV .i64 x47), (69, bV true)], [], 0⟩ [(decide (b81.f1 < (0 : Int))) = true] (by kernel_rfl) ⟨by exact c94, trivial⟩ ?_
              obtain rfl := Option.some.inj H
              exact Exists.intro _ (And.intro (fun _ _ h => h.conv (inv := []) (vk := []) (e0 := []) (t := ⟨[(0, .im (.row (a0.map epluvialref17_Item))), (3, iV .i64 x47), (69, bV true)], [], 0⟩) (by kernel_rfl)) (And.intro rfl rfl))
            · replace H := (ifF c94).symm.trans H
              rcases Bool.eq_false_or_eq_true (decide (b81.f1 > (4 : Int))) with c95 | c95
              · replace H := (ifT c95).symm.trans H
                refine reg hP hn hm [(3, .b false), (8, .b true)] [0, 3, 36, 37, 38, 69] [1] ⟨[(0, .im (.row (a0.map epluvialref17_Item))), (3, iV .i64 x47), (36, .ptr 1 0 1), (37, iV .i64 b81.f1), (38, bV (decide (b81.f1 > (4 : Int)))), (69, bV true)], [(1, some (.box 31 (apluvialref17_Item b81)))], 0⟩ [(decide (b81.f1 < (0 : Int))) = false, (decide (b81.f1 > (4 : Int))) = true] (by kernel_rfl) ⟨by exact c94, by exact c95, trivial⟩ ?_
                obtain rfl := Option.some.inj H
                exact Exists.intro _ (And.intro (fun _ _ h => h.conv (inv := []) (vk := []) (e0 := []) (t := ⟨[(0, .im (.row (a0.map epluvialref17_Item))), (3, iV .i64 x47), (69, bV true)], [], 0⟩) (by kernel_rfl)) (And.intro rfl rfl))
              · replace H := (ifF c95).symm.trans H
                rcases Bool.eq_false_or_eq_true (decide (b81.f2 < (0 : Int))) with c96 | c96
                · replace H := (ifT c96).symm.trans H
                  refine reg hP hn hm [(3, .b false), (8, .b false), (13, .b true)] [0, 3, 36, 37, 38, 41, 42, 43, 69] [1] ⟨[(0, .im (.row (a0.map epluvialref17_Item))), (3, iV .i64 x47), (36, .ptr 1 0 1), (37, iV .i64 b81.f1), (38, bV (decide (b81.f1 > (4 : Int)))), (41, .ptr 1 0 2), (42, iV .i64 b81.f2), (43, bV (decide (b81.f2 < (0 : Int)))), (69, bV true)], [(1, some (.box 31 (apluvialref17_Item b81)))], 0⟩ [(decide (b81.f1 < (0 : Int))) = false, (decide (b81.f1 > (4 : Int))) = false, (decide (b81.f2 < (0 : Int))) = true] (by kernel_rfl) ⟨by exact c94, by exact c95, by exact c96, trivial⟩ ?_
                  obtain rfl := Option.some.inj H
                  exact Exists.intro _ (And.intro (fun _ _ h => h.conv (inv := []) (vk := []) (e0 := []) (t := ⟨[(0, .im (.row (a0.map epluvialref17_Item))), (3, iV .i64 x47), (69, bV true)], [], 0⟩) (by kernel_rfl)) (And.intro rfl rfl))
                · replace H := (ifF c96).symm.trans H
                  rcases Bool.eq_false_or_eq_true (decide (b81.f2 > (1099511627776 : Int))) with c97 | c97
                  · replace H := (ifT c97).symm.trans H
                    refine reg hP hn hm [(3, .b false), (8, .b false), (13, .b false), (18, .b true)] [0, 3, 36, 37, 38, 41, 42, 43, 46, 47, 48, 69] [1] ⟨[(0, .im (.row (a0.map epluvialref17_Item))), (3, iV .i64 x47), (36, .ptr 1 0 1), (37, iV .i64 b81.f1), (38, bV (decide (b81.f1 > (4 : Int)))), (41, .ptr 1 0 2), (42, iV .i64 b81.f2), (43, bV (decide (b81.f2 < (0 : Int)))), (46, .ptr 1 0 2), (47, iV .i64 b81.f2), (48, bV (decide (b81.f2 > (1099511627776 : Int)))), (69, bV true)], [(1, some (.box 31 (apluvialref17_Item b81)))], 0⟩ [(decide (b81.f1 < (0 : Int))) = false, (decide (b81.f1 > (4 : Int))) = false, (decide (b81.f2 < (0 : Int))) = false, (decide (b81.f2 > (1099511627776 : Int))) = true] (by kernel_rfl) ⟨by exact c94, by exact c95, by exact c96, by exact c97, trivial⟩ ?_
                    obtain rfl := Option.some.inj H
                    exact Exists.intro _ (And.intro (fun _ _ h => h.conv (inv := []) (vk := []) (e0 := []) (t := ⟨[(0, .im (.row (a0.map epluvialref17_Item))), (3, iV .i64 x47), (69, bV true)], [], 0⟩) (by kernel_rfl)) (And.intro rfl rfl))
                  · replace H := (ifF c97).symm.trans H
                    obtain ⟨t98, e99, H⟩ := bind_of H
                    obtain ⟨c100, H⟩ := chk_of H
                    rcases Bool.eq_false_or_eq_true ((Int.tmod b81.f2 t98) != (0 : Int)) with c101 | c101
                    · replace H := (ifT c101).symm.trans H
                      refine reg hP hn hm [(3, .b false), (8, .b false), (13, .b false), (18, .b false), (23, .call [] [] [] [] 0 (iV .i64 t98) []), (27, .b true)] [0, 3, 36, 37, 38, 41, 42, 43, 46, 47, 48, 51, 52, 53, 54, 55, 56, 57, 69] [1] ⟨[(0, .im (.row (a0.map epluvialref17_Item))), (3, iV .i64 x47), (36, .ptr 1 0 1), (37, iV .i64 b81.f1), (38, bV (decide (b81.f1 > (4 : Int)))), (41, .ptr 1 0 2), (42, iV .i64 b81.f2), (43, bV (decide (b81.f2 < (0 : Int)))), (46, .ptr 1 0 2), (47, iV .i64 b81.f2), (48, bV (decide (b81.f2 > (1099511627776 : Int)))), (51, .ptr 1 0 2), (52, iV .i64 b81.f2), (53, .ptr 1 0 1), (54, iV .i64 b81.f1), (55, iV .i64 t98), (56, iV .i64 (Int.tmod b81.f2 t98)), (57, bV ((Int.tmod b81.f2 t98) != (0 : Int))), (69, bV true)], [(1, some (.box 31 (apluvialref17_Item b81)))], 0⟩ [(decide (b81.f1 < (0 : Int))) = false, (decide (b81.f1 > (4 : Int))) = false, (decide (b81.f2 < (0 : Int))) = false, (decide (b81.f2 > (1099511627776 : Int))) = false, Enters Try.prog 19, Pv.Fn Try.prog 19 [iV .i64 b81.f1] [] 0 (fun r o => r = iV .i64 t98 ∧ o = []), t98 ≠ 0, ((Int.tmod b81.f2 t98) != (0 : Int)) = true] (by kernel_rfl) ⟨by exact c94, by exact c95, by exact c96, by exact c97, by exact Try.call19, by exact f_pluvialref16_Width.ok b81.f1 t98 e99, by exact c100, by exact c101, trivial⟩ ?_
                      obtain rfl := Option.some.inj H
                      exact Exists.intro _ (And.intro (fun _ _ h => h.conv (inv := []) (vk := []) (e0 := []) (t := ⟨[(0, .im (.row (a0.map epluvialref17_Item))), (3, iV .i64 x47), (69, bV true)], [], 0⟩) (by kernel_rfl)) (And.intro rfl rfl))
                    · replace H := (ifF c101).symm.trans H
                      obtain ⟨t102, e103, H⟩ := bind_of H
                      refine reg hP hn hm [(3, .b false), (8, .b false), (13, .b false), (18, .b false), (23, .call [] [] [] [] 0 (iV .i64 t98) []), (27, .b false), (34, .call [] [] [] [] 0 (iV .i64 t102) [])] [0, 3, 36, 37, 38, 41, 42, 43, 46, 47, 48, 51, 52, 53, 54, 55, 56, 57, 60, 61, 62, 63, 64, 65, 66, 67, 68, 69] [1] ⟨[(0, .im (.row (a0.map epluvialref17_Item))), (3, iV .i64 x47), (36, .ptr 1 0 1), (37, iV .i64 b81.f1), (38, bV (decide (b81.f1 > (4 : Int)))), (41, .ptr 1 0 2), (42, iV .i64 b81.f2), (43, bV (decide (b81.f2 < (0 : Int)))), (46, .ptr 1 0 2), (47, iV .i64 b81.f2), (48, bV (decide (b81.f2 > (1099511627776 : Int)))), (51, .ptr 1 0 2), (52, iV .i64 b81.f2), (53, .ptr 1 0 1), (54, iV .i64 b81.f1), (55, iV .i64 t98), (56, iV .i64 (Int.tmod b81.f2 t98)), (57, bV ((Int.tmod b81.f2 t98) != (0 : Int))), (60, .ptr 1 0 3), (61, iV .i64 b81.f3), (62, .ptr 1 0 2), (63, iV .i64 b81.f2), (64, .ptr 1 0 1), (65, iV .i64 b81.f1), (66, iV .i64 t102), (67, iV .i64 (IntKind.i64.wrap (b81.f2 + t102))), (68, bV (b81.f3 != (IntKind.i64.wrap (b81.f2 + t102)))), (69, bV (b81.f3 != (IntKind.i64.wrap (b81.f2 + t102))))], [(1, some (.box 31 (apluvialref17_Item b81)))], 0⟩ [(decide (b81.f1 < (0 : Int))) = false, (decide (b81.f1 > (4 : Int))) = false, (decide (b81.f2 < (0 : Int))) = false, (decide (b81.f2 > (1099511627776 : Int))) = false, Enters Try.prog 19, Pv.Fn Try.prog 19 [iV .i64 b81.f1] [] 0 (fun r o => r = iV .i64 t98 ∧ o = []), t98 ≠ 0, ((Int.tmod b81.f2 t98) != (0 : Int)) = false, Enters Try.prog 19, Pv.Fn Try.prog 19 [iV .i64 b81.f1] [] 0 (fun r o => r = iV .i64 t102 ∧ o = [])] (by kernel_rfl) ⟨by exact c94, by exact c95, by exact c96, by exact c97, by exact Try.call19, by exact f_pluvialref16_Width.ok b81.f1 t98 e99, by exact c100, by exact c101, by exact Try.call19, by exact f_pluvialref16_Width.ok b81.f1 t102 e103, trivial⟩ ?_
                      obtain rfl := Option.some.inj H
                      exact Exists.intro _ (And.intro (fun _ _ h => h.conv (inv := []) (vk := []) (e0 := []) (t := ⟨[(0, .im (.row (a0.map epluvialref17_Item))), (3, iV .i64 x47), (69, bV (b81.f3 != (IntKind.i64.wrap (b81.f2 + t102))))], [], 0⟩) (by kernel_rfl)) (And.intro rfl rfl))
          · obtain ⟨x104, rfl⟩ : ∃ z, z = o110 := ⟨_, rfl⟩
            rintro e s ⟨rfl, rfl⟩
            refine AWp.cond x104 rfl (fun c105 => ?_) (fun c105 => ?_)
            · replace H := (ifT c105).symm.trans H
              refine AWp.seq ?_
              refine reg hP hn hm [] [2] [] ⟨[(2, bV false)], [], 0⟩ [] (by kernel_rfl) trivial ?_
              refine AWp.conv (inv := []) (vk := []) (e0 := []) (t := ⟨[(2, bV false)], [], 0⟩) (by kernel_rfl) ?_
              refine AWp.ret ?_
              obtain rfl := Option.some.inj H
              exact Exists.intro _ (And.intro (fun _ _ h => h) (And.intro rfl (And.intro rfl (And.intro (by kernel_rfl) (by kernel_rfl)))))
            · replace H := (ifF c105).symm.trans H
              refine AWp.skip ?_
              refine reg hP hn hm [] [0, 3] [] ⟨[(0, .im (.row (a0.map epluvialref17_Item))), (3, iV .i64 (IntKind.i64.wrap (x47 + (1 : Int))))], [], 0⟩ [] (by kernel_rfl) trivial ?_
              exact LWp.conv (inv := []) (vk := []) (e0 := []) (t := ⟨[(0, .im (.row (a0.map epluvialref17_Item))), (3, iV .i64 (IntKind.i64.wrap (x47 + (1 : Int))))], [], 0⟩) (by kernel_rfl) (ih _ _ H)
    · replace H := (ifF c48).symm.trans H
      refine AWp.exit ?_
      obtain rfl := Option.some.inj H
      exact Exists.intro _ (And.intro (fun _ _ h => h.conv (inv := []) (vk := []) (e0 := []) (t := ⟨[], [], 0⟩) (by kernel_rfl)) (And.intro rfl rfl))
  · rcases o106 with rr | _
    · skip
      rintro e s ⟨rfl, hfl, hres⟩
      obtain rfl := Option.some.inj H
      exact Exists.intro _ (And.intro (fun _ _ h => h) (And.intro (.inl rfl) (And.intro hfl hres)))
    · skip
      rintro e s ⟨rfl, rfl⟩
      refine AWp.seq ?_
      refine reg hP hn hm [] [2] [] ⟨[(2, bV true)], [], 0⟩ [] (by kernel_rfl) trivial ?_
      refine AWp.conv (inv := []) (vk := []) (e0 := []) (t := ⟨[(2, bV true)], [], 0⟩) (by kernel_rfl) ?_
      refine AWp.ret ?_
      obtain rfl := Option.some.inj H
      exact Exists.intro _ (And.intro (fun _ _ h => h) (And.intro (.inl rfl) (And.intro rfl (And.intro (by kernel_rfl) (by kernel_rfl)))))
def f_pluviallaw17_To.l0 (a0 : List Tpluvialref17_Item) (x136 : List Tplan_Item) (x137 : Int) : Option (List Tplan_Item) := if (decide (x137 < (a0.length : Int))) = true then ((at? a0 x137) >>= fun b142 => (chk ((x136.length + [(⟨b142.f0, (⟨b142.f2, b142.f3, b142.f1⟩ : Tblock_Meta)⟩ : Tplan_Item)].length) * 32 ≤ 140737488355328)) >>= fun _ => f_pluviallaw17_To.l0 a0 (x136 ++ [(⟨b142.f0, (⟨b142.f2, b142.f3, b142.f1⟩ : Tblock_Meta)⟩ : Tplan_Item)]) (IntKind.i64.wrap (x137 + (1 : Int)))) else (some x136)
partial_fixpoint
def f_pluviallaw17_To.f (a0 : List Tpluvialref17_Item) : Option (List Tplan_Item) := (f_pluviallaw17_To.l0 a0 [] 0) >>= fun x147 => some x147
theorem f_pluviallaw17_To.ok (a0 : List Tpluvialref17_Item) (r : List Tplan_Item) (H : f_pluviallaw17_To.f a0 = some r) : Pv.Fn Try.prog 15 [.im (.row (a0.map epluvialref17_Item))] [] 0 (fun x o => x = .own 0 ∧ o = [(0, some (.row 4 89 (r.map eplan_Item)))]) := by
  unfold f_pluviallaw17_To.f at H
  refine Fn.bodyK [0] Try.func15 rfl rfl (fun Γ hP hn => ?_)
  have hm : Try.prog.follows .mixedOrders = true := by kernel_rfl
  replace hn : Γ.n = 27 := hn
  refine AWp.seq ?_
  refine reg hP hn hm [] [0] [] ⟨[(0, .im (.row (a0.map epluvialref17_Item)))], [], 0⟩ [] (by kernel_rfl) trivial ?_
  refine AWp.seq ?_
  refine reg hP hn hm [] [0, 3] [] ⟨[(0, .im (.row (a0.map epluvialref17_Item))), (3, .none0)], [], 0⟩ [] (by kernel_rfl) trivial ?_
  refine AWp.seq ?_
  refine AWp.seq ?_
  refine reg hP hn hm [(1, .any (iV .i64 (a0.length : Int)))] [3, 6, 7, 8] [] ⟨[(3, .none0), (6, .im (.row (a0.map epluvialref17_Item))), (7, iV .i64 (a0.length : Int)), (8, iV .i64 0)], [], 0⟩ [((a0.map epluvialref17_Item).length : Int) = (a0.length : Int)] (by kernel_rfl) ⟨by rw [len_map], trivial⟩ ?_
  refine AWp.block ?_
  obtain ⟨o148, e149, H⟩ := bind_of H
  refine AWp.loop (LWp.conv (inv := []) (vk := []) (e0 := [3]) (t := ⟨[(3, .own 3), (6, .im (.row (a0.map epluvialref17_Item))), (7, iV .i64 (a0.length : Int)), (8, iV .i64 0)], [(3, some (.row 4 89 ([].map eplan_Item)))], 0⟩) (by kernel_rfl) ?_)
  refine LWp.mono (Q := fun e s => (match (generalizing := false) o148 with | x147 => e = .exit 0 ∧ s = ⟨[(3, .own 7)], [(7, some (.row 4 89 (x147.map eplan_Item)))], 0⟩)) (LWp.cv (withBody (fun body hbody => ?_))) ?_
  · refine f_pluviallaw17_To.l0.partial_correctness a0 (motive := fun x136 x137 o148 => LWp Γ body (fun e s => ∃ t, Cv Γ s t ∧ (match (generalizing := false) o148 with | x147 => e = .exit 0 ∧ t = ⟨[(3, .own 7)], [(7, some (.row 4 89 (x147.map eplan_Item)))], 0⟩)) ⟨[(3, .own 3), (6, .im (.row (a0.map epluvialref17_Item))), (7, iV .i64 (a0.length : Int)), (8, iV .i64 x137)], [(3, some (.row 4 89 (x136.map eplan_Item)))], 0⟩) ?_ _ _ _ e149
    clear H e149 o148; intro self ih x136 x137 o148 H
    subst hbody
    refine LWp.round ?_
    refine AWp.seq ?_
    refine reg hP hn hm [] [3, 6, 7, 8, 9] [3] ⟨[(3, .own 3), (6, .im (.row (a0.map epluvialref17_Item))), (7, iV .i64 (a0.length : Int)), (8, iV .i64 x137), (9, bV (decide (x137 < (a0.length : Int))))], [(3, some (.row 4 89 (x136.map eplan_Item)))], 0⟩ [] (by kernel_rfl) trivial ?_
    refine AWp.seq ?_
    refine AWp.cond (decide (x137 < (a0.length : Int))) rfl (fun c138 => ?_) (fun c138 => ?_)
    · replace H := (ifT c138).symm.trans H
      refine AWp.skip ?_
      refine AWp.seq ?_
      refine AWp.block ?_
      refine AWp.seq ?_
      obtain ⟨b142, p143, q144, H⟩ := at_of H
      refine reg hP hn hm [(0, .c (epluvialref17_Item b142)), (2, .k 4)] [3, 5, 6, 7, 8] [3, 4] ⟨[(3, .own 3), (5, .ptr 4 0 0), (6, .im (.row (a0.map epluvialref17_Item))), (7, iV .i64 (a0.length : Int)), (8, iV .i64 x137)], [(3, some (.row 4 89 (x136.map eplan_Item))), (4, some (.box 31 (apluvialref17_Item b142)))], 0⟩ [0 ≤ x137, (a0.map epluvialref17_Item)[(Int.toNat (x137))]? = some (epluvialref17_Item b142)] (by kernel_rfl) ⟨by exact p143, by exact el_map epluvialref17_Item q144, trivial⟩ ?_
      obtain ⟨c146, H⟩ := chk_of H
      refine reg hP hn hm [(11, .app 5 ([(⟨b142.f0, (⟨b142.f2, b142.f3, b142.f1⟩ : Tblock_Meta)⟩ : Tplan_Item)].map eplan_Item)), (12, .app 6 ((x136 ++ [(⟨b142.f0, (⟨b142.f2, b142.f3, b142.f1⟩ : Tblock_Meta)⟩ : Tplan_Item)]).map eplan_Item))] [3, 6, 7, 8] [6] ⟨[(3, .own 6), (6, .im (.row (a0.map epluvialref17_Item))), (7, iV .i64 (a0.length : Int)), (8, iV .i64 x137)], [(6, some (.row 4 89 ((x136 ++ [(⟨b142.f0, (⟨b142.f2, b142.f3, b142.f1⟩ : Tblock_Meta)⟩ : Tplan_Item)]).map eplan_Item)))], 0⟩ [[(⟨b142.f0, (⟨b142.f2, b142.f3, b142.f1⟩ : Tblock_Meta)⟩ : Tplan_Item)].map eplan_Item = [[iI .i64 b142.f0, iI .i64 b142.f2, iI .i64 b142.f3, iI .i64 b142.f1]], (x136 ++ [(⟨b142.f0, (⟨b142.f2, b142.f3, b142.f1⟩ : Tblock_Meta)⟩ : Tplan_Item)]).map eplan_Item = (x136.map eplan_Item) ++ ([(⟨b142.f0, (⟨b142.f2, b142.f3, b142.f1⟩ : Tblock_Meta)⟩ : Tplan_Item)].map eplan_Item), ∀ c ∈ ([(⟨b142.f0, (⟨b142.f2, b142.f3, b142.f1⟩ : Tblock_Meta)⟩ : Tplan_Item)].map eplan_Item), c.length = 4, ∀ c ∈ ([(⟨b142.f0, (⟨b142.f2, b142.f3, b142.f1⟩ : Tblock_Meta)⟩ : Tplan_Item)].map eplan_Item), leaves (c.map .im) = true, ((x136.map eplan_Item).length + ([(⟨b142.f0, (⟨b142.f2, b142.f3, b142.f1⟩ : Tblock_Meta)⟩ : Tplan_Item)].map eplan_Item).length) * 32 ≤ 140737488355328] (by kernel_rfl) ⟨by exact rfl, by simp, by exact all_len _ _ _ (fun _ => rfl), by exact all_leaf _ _ (fun _ => rfl), by simpa using c146, trivial⟩ ?_
      refine reg hP hn hm [] [3, 6, 7, 8] [6] ⟨[(3, .own 6), (6, .im (.row (a0.map epluvialref17_Item))), (7, iV .i64 (a0.length : Int)), (8, iV .i64 (IntKind.i64.wrap (x137 + (1 : Int))))], [(6, some (.row 4 89 ((x136 ++ [(⟨b142.f0, (⟨b142.f2, b142.f3, b142.f1⟩ : Tblock_Meta)⟩ : Tplan_Item)]).map eplan_Item)))], 0⟩ [] (by kernel_rfl) trivial ?_
      exact LWp.conv (inv := [(6, 3)]) (vk := []) (e0 := []) (t := ⟨[(3, .own 3), (6, .im (.row (a0.map epluvialref17_Item))), (7, iV .i64 (a0.length : Int)), (8, iV .i64 (IntKind.i64.wrap (x137 + (1 : Int))))], [(3, some (.row 4 89 ((x136 ++ [(⟨b142.f0, (⟨b142.f2, b142.f3, b142.f1⟩ : Tblock_Meta)⟩ : Tplan_Item)]).map eplan_Item)))], 0⟩) (by kernel_rfl) (ih _ _ _ H)
    · replace H := (ifF c138).symm.trans H
      refine AWp.exit ?_
      obtain rfl := Option.some.inj H
      exact Exists.intro _ (And.intro (fun _ _ h => h.conv (inv := [(3, 7)]) (vk := []) (e0 := []) (t := ⟨[(3, .own 7)], [(7, some (.row 4 89 (x136.map eplan_Item)))], 0⟩) (by kernel_rfl)) (And.intro rfl rfl))
  · obtain ⟨x147, rfl⟩ : ∃ z, z = o148 := ⟨_, rfl⟩
    rintro e s ⟨rfl, rfl⟩
    refine AWp.seq ?_
    refine reg hP hn hm [] [2] [7] ⟨[(2, .own 7)], [(7, some (.row 4 89 (x147.map eplan_Item)))], 0⟩ [] (by kernel_rfl) trivial ?_
    refine AWp.conv (inv := [(7, 0)]) (vk := []) (e0 := []) (t := ⟨[(2, .own 0)], [(0, some (.row 4 89 (x147.map eplan_Item)))], 0⟩) (by kernel_rfl) ?_
    refine AWp.ret ?_
    obtain rfl := Option.some.inj H
    exact Exists.intro _ (And.intro (fun _ _ h => h) (And.intro (.inl rfl) (And.intro rfl (And.intro (by kernel_rfl) (by kernel_rfl)))))
def f_slices_Clone_plan_Item.f (a0 : List Tplan_Item) : Option (List Tplan_Item) := (chk ((([] : List Tplan_Item).length + a0.length) * 32 ≤ 140737488355328)) >>= fun _ => some a0
theorem f_slices_Clone_plan_Item.ok (a0 r : List Tplan_Item) (H : f_slices_Clone_plan_Item.f a0 = some r) : Pv.Fn Try.prog 48 [.im (.row (a0.map eplan_Item))] [] 0 (fun x o => x = .own 0 ∧ o = [(0, some (.row 4 89 (r.map eplan_Item)))]) := by
  unfold f_slices_Clone_plan_Item.f at H
  obtain ⟨c1, H⟩ := chk_of H
  obtain rfl := Option.some.inj H
  refine Fn.bodyK [0] Try.func48 rfl rfl (fun Γ hP hn => ?_)
  have hm : Try.prog.follows .mixedOrders = true := by kernel_rfl
  replace hn : Γ.n = 8 := hn
  refine AWp.seq ?_
  refine reg hP hn hm [] [0, 2] [] ⟨[(0, .im (.row (a0.map eplan_Item))), (2, .none0)], [], 0⟩ [] (by kernel_rfl) trivial ?_
  refine AWp.seq ?_
  cases a0 with
  | nil =>
    refine AWp.nilSplit 0 rfl (fun b m => ?_)
    refine AWp.seq ?_
    cases b with
    | none =>
      refine reg hP hn hm [(1, .more xNil)] [2, 4] [] ⟨[(2, .none0), (4, bV true)], [], 0⟩ [] (by kernel_rfl) trivial ?_
      refine AWp.cond true rfl (fun _ => ?_) (fun h => nomatch h)
      refine AWp.seq ?_
      refine reg hP hn hm [] [2] [] ⟨[(2, .none0)], [], 0⟩ [] (by kernel_rfl) trivial ?_
      refine AWp.conv (inv := []) (vk := []) (e0 := [0]) (t := ⟨[(2, .own 0)], [(0, some (.row 4 89 []))], 0⟩) (by kernel_rfl) ?_
      refine AWp.ret ?_
      exact Exists.intro _ (And.intro (fun _ _ h => h) (And.intro (.inl rfl) (And.intro rfl (And.intro (by kernel_rfl) (by kernel_rfl)))))
    | some b =>
      refine reg hP hn hm [(1, .more xNil)] [0, 2, 4] [] ⟨[(0, .im (.sc (.slice (some b) 0 m))), (2, .none0), (4, bV false)], [], 0⟩ [] (by kernel_rfl) trivial ?_
      refine AWp.cond false rfl (fun h => nomatch h) (fun _ => ?_)
      refine AWp.skip ?_
      refine AWp.unsplit 0 rfl ?_
      refine AWp.seq ?_
      refine reg hP hn hm [(0, .app 0 ([] : List (List Im))), (2, .app 1 (([] : List Tplan_Item).map eplan_Item))] [2] [1] ⟨[(2, .own 1)], [(1, some (.row 4 89 (([] : List Tplan_Item).map eplan_Item)))], 0⟩ [([] : List (List Im)) = [], ([] : List Tplan_Item).map eplan_Item = ([] : List (List Im)) ++ ([] : List Tplan_Item).map eplan_Item, ∀ c ∈ ([] : List Tplan_Item).map eplan_Item, c.length = 4, ∀ c ∈ ([] : List Tplan_Item).map eplan_Item, leaves (c.map .im) = true, (([] : List (List Im)).length + (([] : List Tplan_Item).map eplan_Item).length) * 32 ≤ 140737488355328] (by kernel_rfl) ⟨rfl, by simp, by exact all_len _ _ _ (fun _ => rfl), by exact all_leaf _ _ (fun _ => rfl), by simpa using c1, trivial⟩ ?_
      refine AWp.conv (inv := [(1, 0)]) (vk := []) (e0 := []) (t := ⟨[(2, .own 0)], [(0, some (.row 4 89 (([] : List Tplan_Item).map eplan_Item)))], 0⟩) (by kernel_rfl) ?_
      refine AWp.ret ?_
      exact Exists.intro _ (And.intro (fun _ _ h => h) (And.intro (.inl rfl) (And.intro rfl (And.intro (by kernel_rfl) (by kernel_rfl)))))
  | cons y l =>
    refine AWp.seq ?_
    refine reg hP hn hm [(1, .more xNil)] [0, 2, 4] [] ⟨[(0, .im (.row ((y :: l).map eplan_Item))), (2, .none0), (4, bV false)], [], 0⟩ [] (by kernel_rfl) trivial ?_
    refine AWp.cond false rfl (fun h => nomatch h) (fun _ => ?_)
    refine AWp.skip ?_
    refine AWp.seq ?_
    refine reg hP hn hm [(0, .app 0 ([] : List (List Im))), (2, .app 1 ((y :: l).map eplan_Item))] [2] [1] ⟨[(2, .own 1)], [(1, some (.row 4 89 ((y :: l).map eplan_Item)))], 0⟩ [([] : List (List Im)) = [], (y :: l).map eplan_Item = ([] : List (List Im)) ++ (y :: l).map eplan_Item, ∀ c ∈ (y :: l).map eplan_Item, c.length = 4, ∀ c ∈ (y :: l).map eplan_Item, leaves (c.map .im) = true, (([] : List (List Im)).length + ((y :: l).map eplan_Item).length) * 32 ≤ 140737488355328] (by kernel_rfl) ⟨rfl, by simp, by exact all_len _ _ _ (fun _ => rfl), by exact all_leaf _ _ (fun _ => rfl), by simpa using c1, trivial⟩ ?_
    refine AWp.conv (inv := [(1, 0)]) (vk := []) (e0 := []) (t := ⟨[(2, .own 0)], [(0, some (.row 4 89 ((y :: l).map eplan_Item)))], 0⟩) (by kernel_rfl) ?_
    refine AWp.ret ?_
    exact Exists.intro _ (And.intro (fun _ _ h => h) (And.intro (.inl rfl) (And.intro rfl (And.intro (by kernel_rfl) (by kernel_rfl)))))
def f_bits_Len64.f (a0 : Int) : Option (Int) := ((if (decide (a0 ≥ (4294967296 : Int))) = true then (some (Int.fdiv a0 4294967296, 32)) else (some (a0, 0))) : Option (Int × Int)) >>= fun oo => match oo with | (x157, x158) => (((if (decide (x157 ≥ (65536 : Int))) = true then (some (Int.fdiv x157 65536, IntKind.i64.wrap (x158 + (16 : Int)))) else (some (x157, x158))) : Option (Int × Int)) >>= fun oo => match oo with | (x160, x161) => (((if (decide (x160 ≥ (256 : Int))) = true then (some (Int.fdiv x160 256, IntKind.i64.wrap (x161 + (8 : Int)))) else (some (x160, x161))) : Option (Int × Int)) >>= fun oo => match oo with | (x163, x164) => ((chk (0 ≤ (IntKind.u8.wrap (x163)) ∧ (IntKind.u8.wrap (x163)) < ((⟨#[0, 1, 2, 2, 3, 3, 3, 3, 4, 4, 4, 4, 4, 4, 4, 4, 5, 5, 5, 5, 5, 5, 5, 5, 5, 5, 5, 5, 5, 5, 5, 5, 6, 6, 6, 6, 6, 6, 6, 6, 6, 6, 6, 6, 6, 6, 6, 6, 6, 6, 6, 6, 6, 6, 6, 6, 6, 6, 6, 6, 6, 6, 6, 6, 7, 7, 7, 7, 7, 7, 7, 7, 7, 7, 7, 7, 7, 7, 7, 7, 7, 7, 7, 7, 7, 7, 7, 7, 7, 7, 7, 7, 7, 7, 7, 7, 7, 7, 7, 7, 7, 7, 7, 7, 7, 7, 7, 7, 7, 7, 7, 7, 7, 7, 7, 7, 7, 7, 7, 7, 7, 7, 7, 7, 7, 7, 7, 7, 8, 8, 8, 8, 8, 8, 8, 8, 8, 8, 8, 8, 8, 8, 8, 8, 8, 8, 8, 8, 8, 8, 8, 8, 8, 8, 8, 8, 8, 8, 8, 8, 8, 8, 8, 8, 8, 8, 8, 8, 8, 8, 8, 8, 8, 8, 8, 8, 8, 8, 8, 8, 8, 8, 8, 8, 8, 8, 8, 8, 8, 8, 8, 8, 8, 8, 8, 8, 8, 8, 8, 8, 8, 8, 8, 8, 8, 8, 8, 8, 8, 8, 8, 8, 8, 8, 8, 8, 8, 8, 8, 8, 8, 8, 8, 8, 8, 8, 8, 8, 8, 8, 8, 8, 8, 8, 8, 8, 8, 8, 8, 8, 8, 8, 8, 8, 8, 8, 8, 8, 8, 8, 8, 8, 8, 8, 8, 8]⟩ : ByteArray).size : Int))) >>= fun _ => some (IntKind.i64.wrap (x164 + (IntKind.i64.wrap (bt (⟨#[0, 1, 2, 2, 3, 3, 3, 3, 4, 4, 4, 4, 4, 4, 4, 4, 5, 5, 5, 5, 5, 5, 5, 5, 5, 5, 5, 5, 5, 5, 5, 5, 6, 6, 6, 6, 6, 6, 6, 6, 6, 6, 6, 6, 6, 6, 6, 6, 6, 6, 6, 6, 6, 6, 6, 6, 6, 6, 6, 6, 6, 6, 6, 6, 7, 7, 7, 7, 7, 7, 7, 7, 7, 7, 7, 7, 7, 7, 7, 7, 7, 7, 7, 7, 7, 7, 7, 7, 7, 7, 7, 7, 7, 7, 7, 7, 7, 7, 7, 7, 7, 7, 7, 7, 7, 7, 7, 7, 7, 7, 7, 7, 7, 7, 7, 7, 7, 7, 7, 7, 7, 7, 7, 7, 7, 7, 7, 7, 8, 8, 8, 8, 8, 8, 8, 8, 8, 8, 8, 8, 8, 8, 8, 8, 8, 8, 8, 8, 8, 8, 8, 8, 8, 8, 8, 8, 8, 8, 8, 8, 8, 8, 8, 8, 8, 8, 8, 8, 8, 8, 8, 8, 8, 8, 8, 8, 8, 8, 8, 8, 8, 8, 8, 8, 8, 8, 8, 8, 8, 8, 8, 8, 8, 8, 8, 8, 8, 8, 8, 8, 8, 8, 8, 8, 8, 8, 8, 8, 8, 8, 8, 8, 8, 8, 8, 8, 8, 8, 8, 8, 8, 8, 8, 8, 8, 8, 8, 8, 8, 8, 8, 8, 8, 8, 8, 8, 8, 8, 8, 8, 8, 8, 8, 8, 8, 8, 8, 8, 8, 8, 8, 8, 8, 8, 8, 8]⟩ : ByteArray) (IntKind.u8.wrap (x163)))))))))
theorem f_bits_Len64.ok (a0 : Int) (r : Int) (H : f_bits_Len64.f a0 = some r) : Pv.Fn Try.prog 77 [iV .u64 a0] [] 0 (fun x o => x = iV .i64 r ∧ o = []) := by
  unfold f_bits_Len64.f at H
  refine Fn.bodyK [] Try.func77 rfl rfl (fun Γ hP hn => ?_)
  have hm : Try.prog.follows .mixedOrders = true := by kernel_rfl
  replace hn : Γ.n = 25 := hn
  refine AWp.seq ?_
  refine reg hP hn hm [] [0, 2] [] ⟨[(0, iV .u64 a0), (2, iV .i64 0)], [], 0⟩ [] (by kernel_rfl) trivial ?_
  refine AWp.seq ?_
  refine AWp.seq ?_
  refine reg hP hn hm [] [0, 2, 4] [] ⟨[(0, iV .u64 a0), (2, iV .i64 0), (4, bV (decide (a0 ≥ (4294967296 : Int))))], [], 0⟩ [] (by kernel_rfl) trivial ?_
  obtain ⟨o167, e168, H⟩ := bind_of H
  refine AWp.mono (Q := fun e s => (match (generalizing := false) o167 with | (x157, x158) => e = .normal ∧ s = ⟨[(0, iV .u64 x157), (2, iV .i64 x158)], [], 0⟩)) (AWp.cv ?_) ?_
  · replace H := e168; clear e168
    refine AWp.cond (decide (a0 ≥ (4294967296 : Int))) rfl (fun c156 => ?_) (fun c156 => ?_)
    · replace H := (ifT c156).symm.trans H
      refine AWp.seq ?_
      refine reg hP hn hm [] [0] [] ⟨[(0, iV .u64 (Int.fdiv a0 4294967296))], [], 0⟩ [(0 : Int) ≤ 32] (by kernel_rfl) ⟨by decide, trivial⟩ ?_
      refine reg hP hn hm [] [0, 2] [] ⟨[(0, iV .u64 (Int.fdiv a0 4294967296)), (2, iV .i64 32)], [], 0⟩ [] (by kernel_rfl) trivial ?_
      obtain rfl := Option.some.inj H
      exact Exists.intro _ (And.intro (fun _ _ h => h.conv (inv := []) (vk := []) (e0 := []) (t := ⟨[(0, iV .u64 (Int.fdiv a0 4294967296)), (2, iV .i64 32)], [], 0⟩) (by kernel_rfl)) (And.intro rfl rfl))
    · replace H := (ifF c156).symm.trans H
      refine AWp.skip ?_
      obtain rfl := Option.some.inj H
      exact Exists.intro _ (And.intro (fun _ _ h => h.conv (inv := []) (vk := []) (e0 := []) (t := ⟨[(0, iV .u64 a0), (2, iV .i64 0)], [], 0⟩) (by kernel_rfl)) (And.intro rfl rfl))
  · obtain ⟨x157, x158⟩ := o167
    rintro e s ⟨rfl, rfl⟩
    refine AWp.seq ?_
    refine AWp.seq ?_
    refine reg hP hn hm [] [0, 2, 8] [] ⟨[(0, iV .u64 x157), (2, iV .i64 x158), (8, bV (decide (x157 ≥ (65536 : Int))))], [], 0⟩ [] (by kernel_rfl) trivial ?_
    obtain ⟨o169, e170, H⟩ := bind_of H
    refine AWp.mono (Q := fun e s => (match (generalizing := false) o169 with | (x160, x161) => e = .normal ∧ s = ⟨[(0, iV .u64 x160), (2, iV .i64 x161)], [], 0⟩)) (AWp.cv ?_) ?_
    · replace H := e170; clear e170
      refine AWp.cond (decide (x157 ≥ (65536 : Int))) rfl (fun c159 => ?_) (fun c159 => ?_)
      · replace H := (ifT c159).symm.trans H
        refine AWp.seq ?_
        refine reg hP hn hm [] [0, 2] [] ⟨[(0, iV .u64 (Int.fdiv x157 65536)), (2, iV .i64 x158)], [], 0⟩ [(0 : Int) ≤ 16] (by kernel_rfl) ⟨by decide, trivial⟩ ?_
        refine reg hP hn hm [] [0, 2] [] ⟨[(0, iV .u64 (Int.fdiv x157 65536)), (2, iV .i64 (IntKind.i64.wrap (x158 + (16 : Int))))], [], 0⟩ [] (by kernel_rfl) trivial ?_
        obtain rfl := Option.some.inj H
        exact Exists.intro _ (And.intro (fun _ _ h => h.conv (inv := []) (vk := []) (e0 := []) (t := ⟨[(0, iV .u64 (Int.fdiv x157 65536)), (2, iV .i64 (IntKind.i64.wrap (x158 + (16 : Int))))], [], 0⟩) (by kernel_rfl)) (And.intro rfl rfl))
      · replace H := (ifF c159).symm.trans H
        refine AWp.skip ?_
        obtain rfl := Option.some.inj H
        exact Exists.intro _ (And.intro (fun _ _ h => h.conv (inv := []) (vk := []) (e0 := []) (t := ⟨[(0, iV .u64 x157), (2, iV .i64 x158)], [], 0⟩) (by kernel_rfl)) (And.intro rfl rfl))
    · obtain ⟨x160, x161⟩ := o169
      rintro e s ⟨rfl, rfl⟩
      refine AWp.seq ?_
      refine AWp.seq ?_
      refine reg hP hn hm [] [0, 2, 14] [] ⟨[(0, iV .u64 x160), (2, iV .i64 x161), (14, bV (decide (x160 ≥ (256 : Int))))], [], 0⟩ [] (by kernel_rfl) trivial ?_
      obtain ⟨o171, e172, H⟩ := bind_of H
      refine AWp.mono (Q := fun e s => (match (generalizing := false) o171 with | (x163, x164) => e = .normal ∧ s = ⟨[(0, iV .u64 x163), (2, iV .i64 x164)], [], 0⟩)) (AWp.cv ?_) ?_
      · replace H := e172; clear e172
        refine AWp.cond (decide (x160 ≥ (256 : Int))) rfl (fun c162 => ?_) (fun c162 => ?_)
        · replace H := (ifT c162).symm.trans H
          refine AWp.seq ?_
          refine reg hP hn hm [] [0, 2] [] ⟨[(0, iV .u64 (Int.fdiv x160 256)), (2, iV .i64 x161)], [], 0⟩ [(0 : Int) ≤ 8] (by kernel_rfl) ⟨by decide, trivial⟩ ?_
          refine reg hP hn hm [] [0, 2] [] ⟨[(0, iV .u64 (Int.fdiv x160 256)), (2, iV .i64 (IntKind.i64.wrap (x161 + (8 : Int))))], [], 0⟩ [] (by kernel_rfl) trivial ?_
          obtain rfl := Option.some.inj H
          exact Exists.intro _ (And.intro (fun _ _ h => h.conv (inv := []) (vk := []) (e0 := []) (t := ⟨[(0, iV .u64 (Int.fdiv x160 256)), (2, iV .i64 (IntKind.i64.wrap (x161 + (8 : Int))))], [], 0⟩) (by kernel_rfl)) (And.intro rfl rfl))
        · replace H := (ifF c162).symm.trans H
          refine AWp.skip ?_
          obtain rfl := Option.some.inj H
          exact Exists.intro _ (And.intro (fun _ _ h => h.conv (inv := []) (vk := []) (e0 := []) (t := ⟨[(0, iV .u64 x160), (2, iV .i64 x161)], [], 0⟩) (by kernel_rfl)) (And.intro rfl rfl))
      · obtain ⟨x163, x164⟩ := o171
        rintro e s ⟨rfl, rfl⟩
        refine AWp.seq ?_
        obtain ⟨c166, H⟩ := chk_of H
        refine reg hP hn hm [] [2] [] ⟨[(2, iV .i64 (IntKind.i64.wrap (x164 + (IntKind.i64.wrap (bt (⟨#[0, 1, 2, 2, 3, 3, 3, 3, 4, 4, 4, 4, 4, 4, 4, 4, 5, 5, 5, 5, 5, 5, 5, 5, 5, 5, 5, 5, 5, 5, 5, 5, 6, 6, 6, 6, 6, 6, 6, 6, 6, 6, 6, 6, 6, 6, 6, 6, 6, 6, 6, 6, 6, 6, 6, 6, 6, 6, 6, 6, 6, 6, 6, 6, 7, 7, 7, 7, 7, 7, 7, 7, 7, 7, 7, 7, 7, 7, 7, 7, 7, 7, 7, 7, 7, 7, 7, 7, 7, 7, 7, 7, 7, 7, 7, 7, 7, 7, 7, 7, 7, 7, 7, 7, 7, 7, 7, 7, 7, 7, 7, 7, 7, 7, 7, 7, 7, 7, 7, 7, 7, 7, 7, 7, 7, 7, 7, 7, 8, 8, 8, 8, 8, 8, 8, 8, 8, 8, 8, 8, 8, 8, 8, 8, 8, 8, 8, 8, 8, 8, 8, 8, 8, 8, 8, 8, 8, 8, 8, 8, 8, 8, 8, 8, 8, 8, 8, 8, 8, 8, 8, 8, 8, 8, 8, 8, 8, 8, 8, 8, 8, 8, 8, 8, 8, 8, 8, 8, 8, 8, 8, 8, 8, 8, 8, 8, 8, 8, 8, 8, 8, 8, 8, 8, 8, 8, 8, 8, 8, 8, 8, 8, 8, 8, 8, 8, 8, 8, 8, 8, 8, 8, 8, 8, 8, 8, 8, 8, 8, 8, 8, 8, 8, 8, 8, 8, 8, 8, 8, 8, 8, 8, 8, 8, 8, 8, 8, 8, 8, 8, 8, 8, 8, 8, 8, 8]⟩ : ByteArray) (IntKind.u8.wrap (x163)))))))], [], 0⟩ [0 ≤ (IntKind.u8.wrap (x163)), (IntKind.u8.wrap (x163)) < ((⟨#[0, 1, 2, 2, 3, 3, 3, 3, 4, 4, 4, 4, 4, 4, 4, 4, 5, 5, 5, 5, 5, 5, 5, 5, 5, 5, 5, 5, 5, 5, 5, 5, 6, 6, 6, 6, 6, 6, 6, 6, 6, 6, 6, 6, 6, 6, 6, 6, 6, 6, 6, 6, 6, 6, 6, 6, 6, 6, 6, 6, 6, 6, 6, 6, 7, 7, 7, 7, 7, 7, 7, 7, 7, 7, 7, 7, 7, 7, 7, 7, 7, 7, 7, 7, 7, 7, 7, 7, 7, 7, 7, 7, 7, 7, 7, 7, 7, 7, 7, 7, 7, 7, 7, 7, 7, 7, 7, 7, 7, 7, 7, 7, 7, 7, 7, 7, 7, 7, 7, 7, 7, 7, 7, 7, 7, 7, 7, 7, 8, 8, 8, 8, 8, 8, 8, 8, 8, 8, 8, 8, 8, 8, 8, 8, 8, 8, 8, 8, 8, 8, 8, 8, 8, 8, 8, 8, 8, 8, 8, 8, 8, 8, 8, 8, 8, 8, 8, 8, 8, 8, 8, 8, 8, 8, 8, 8, 8, 8, 8, 8, 8, 8, 8, 8, 8, 8, 8, 8, 8, 8, 8, 8, 8, 8, 8, 8, 8, 8, 8, 8, 8, 8, 8, 8, 8, 8, 8, 8, 8, 8, 8, 8, 8, 8, 8, 8, 8, 8, 8, 8, 8, 8, 8, 8, 8, 8, 8, 8, 8, 8, 8, 8, 8, 8, 8, 8, 8, 8, 8, 8, 8, 8, 8, 8, 8, 8, 8, 8, 8, 8, 8, 8, 8, 8, 8, 8]⟩ : ByteArray).size : Int)] (by kernel_rfl) ⟨by exact c166.1, by exact c166.2, trivial⟩ ?_
        refine AWp.conv (inv := []) (vk := []) (e0 := []) (t := ⟨[(2, iV .i64 (IntKind.i64.wrap (x164 + (IntKind.i64.wrap (bt (⟨#[0, 1, 2, 2, 3, 3, 3, 3, 4, 4, 4, 4, 4, 4, 4, 4, 5, 5, 5, 5, 5, 5, 5, 5, 5, 5, 5, 5, 5, 5, 5, 5, 6, 6, 6, 6, 6, 6, 6, 6, 6, 6, 6, 6, 6, 6, 6, 6, 6, 6, 6, 6, 6, 6, 6, 6, 6, 6, 6, 6, 6, 6, 6, 6, 7, 7, 7, 7, 7, 7, 7, 7, 7, 7, 7, 7, 7, 7, 7, 7, 7, 7, 7, 7, 7, 7, 7, 7, 7, 7, 7, 7, 7, 7, 7, 7, 7, 7, 7, 7, 7, 7, 7, 7, 7, 7, 7, 7, 7, 7, 7, 7, 7, 7, 7, 7, 7, 7, 7, 7, 7, 7, 7, 7, 7, 7, 7, 7, 8, 8, 8, 8, 8, 8, 8, 8, 8, 8, 8, 8, 8, 8, 8, 8, 8, 8, 8, 8, 8, 8, 8, 8, 8, 8, 8, 8, 8, 8, 8, 8, 8, 8, 8, 8, 8, 8, 8, 8, 8, 8, 8, 8, 8, 8, 8, 8, 8, 8, 8, 8, 8, 8, 8, 8, 8, 8, 8, 8, 8, 8, 8, 8, 8, 8, 8, 8, 8, 8, 8, 8, 8, 8, 8, 8, 8, 8, 8, 8, 8, 8, 8, 8, 8, 8, 8, 8, 8, 8, 8, 8, 8, 8, 8, 8, 8, 8, 8, 8, 8, 8, 8, 8, 8, 8, 8, 8, 8, 8, 8, 8, 8, 8, 8, 8, 8, 8, 8, 8, 8, 8, 8, 8, 8, 8, 8, 8]⟩ : ByteArray) (IntKind.u8.wrap (x163)))))))], [], 0⟩) (by kernel_rfl) ?_
        refine AWp.ret ?_
        obtain rfl := Option.some.inj H
        exact Exists.intro _ (And.intro (fun _ _ h => h) (And.intro (.inl rfl) (And.intro rfl (And.intro (by kernel_rfl) (by kernel_rfl)))))
def f_bits_Len.f (a0 : Int) : Option (Int) := (f_bits_Len64.f a0) >>= fun t175 => some t175
theorem f_bits_Len.ok (a0 : Int) (r : Int) (H : f_bits_Len.f a0 = some r) : Pv.Fn Try.prog 47 [iV .u64 a0] [] 0 (fun x o => x = iV .i64 r ∧ o = []) := by
  unfold f_bits_Len.f at H
  refine Fn.bodyK [] Try.func47 rfl rfl (fun Γ hP hn => ?_)
  have hm : Try.prog.follows .mixedOrders = true := by kernel_rfl
  replace hn : Γ.n = 8 := hn
  refine AWp.seq ?_
  refine reg hP hn hm [] [0] [] ⟨[(0, iV .u64 a0)], [], 0⟩ [] (by kernel_rfl) trivial ?_
  refine AWp.seq ?_
  refine AWp.cond false rfl (fun h => nomatch h) (fun _ => ?_)
  refine AWp.skip ?_
  refine AWp.seq ?_
  obtain ⟨t175, e176, H⟩ := bind_of H
  refine reg hP hn hm [(1, .call [] [] [] [] 0 (iV .i64 t175) [])] [2] [] ⟨[(2, iV .i64 t175)], [], 0⟩ [Enters Try.prog 77, Pv.Fn Try.prog 77 [iV .u64 a0] [] 0 (fun r o => r = iV .i64 t175 ∧ o = [])] (by kernel_rfl) ⟨by exact Try.call77, by exact f_bits_Len64.ok a0 t175 e176, trivial⟩ ?_
  refine AWp.conv (inv := []) (vk := []) (e0 := []) (t := ⟨[(2, iV .i64 t175)], [], 0⟩) (by kernel_rfl) ?_
  refine AWp.ret ?_
  obtain rfl := Option.some.inj H
  exact Exists.intro _ (And.intro (fun _ _ h => h) (And.intro (.inl rfl) (And.intro rfl (And.intro (by kernel_rfl) (by kernel_rfl)))))
def f_cmp_isNaN_int64.f (a0 : Int) : Option (Unit) := some ()
theorem f_cmp_isNaN_int64.ok (a0 : Int) (r : Unit) (H : f_cmp_isNaN_int64.f a0 = some r) : Pv.Fn Try.prog 79 [iV .i64 a0] [] 0 (fun x o => x = bV (a0 != a0) ∧ o = []) := by
  unfold f_cmp_isNaN_int64.f at H
  refine Fn.bodyK [] Try.func79 rfl rfl (fun Γ hP hn => ?_)
  have hm : Try.prog.follows .mixedOrders = true := by kernel_rfl
  replace hn : Γ.n = 6 := hn
  refine AWp.seq ?_
  refine reg hP hn hm [] [0] [] ⟨[(0, iV .i64 a0)], [], 0⟩ [] (by kernel_rfl) trivial ?_
  refine AWp.seq ?_
  refine reg hP hn hm [] [2] [] ⟨[(2, bV (a0 != a0))], [], 0⟩ [] (by kernel_rfl) trivial ?_
  refine AWp.conv (inv := []) (vk := []) (e0 := []) (t := ⟨[(2, bV (a0 != a0))], [], 0⟩) (by kernel_rfl) ?_
  refine AWp.ret ?_
  obtain rfl := Option.some.inj H
  exact Exists.intro _ (And.intro (fun _ _ h => h) (And.intro (.inl rfl) (And.intro rfl (And.intro (by kernel_rfl) (by kernel_rfl)))))
def f_cmp_Compare_int64.f (a0 : Int) (a1 : Int) : Option (Int) := (f_cmp_isNaN_int64.f a0) >>= fun t190 => (f_cmp_isNaN_int64.f a1) >>= fun t194 => if (a0 != a0) = true then (if (a1 != a1) = true then (some 0) else (some (-1))) else (if (a1 != a1) = true then (some 1) else (if (decide (a0 < a1)) = true then (some (-1)) else (if (decide (a0 > a1)) = true then (some 1) else (some 0))))
theorem f_cmp_Compare_int64.ok (a0 : Int) (a1 : Int) (r : Int) (H : f_cmp_Compare_int64.f a0 a1 = some r) : Pv.Fn Try.prog 52 [iV .i64 a0, iV .i64 a1] [] 0 (fun x o => x = iV .i64 r ∧ o = []) := by
  unfold f_cmp_Compare_int64.f at H
  refine Fn.bodyK [] Try.func52 rfl rfl (fun Γ hP hn => ?_)
  have hm : Try.prog.follows .mixedOrders = true := by kernel_rfl
  replace hn : Γ.n = 20 := hn
  refine AWp.seq ?_
  refine reg hP hn hm [] [0, 1] [] ⟨[(0, iV .i64 a0), (1, iV .i64 a1)], [], 0⟩ [] (by kernel_rfl) trivial ?_
  refine AWp.seq ?_
  obtain ⟨t190, e191, H⟩ := bind_of H
  refine reg hP hn hm [(1, .call [] [] [] [] 0 (bV (a0 != a0)) [])] [0, 1, 5] [] ⟨[(0, iV .i64 a0), (1, iV .i64 a1), (5, bV (a0 != a0))], [], 0⟩ [Enters Try.prog 79, Pv.Fn Try.prog 79 [iV .i64 a0] [] 0 (fun r o => r = bV (a0 != a0) ∧ o = [])] (by kernel_rfl) ⟨by exact Try.call79, by exact f_cmp_isNaN_int64.ok a0 t190 e191, trivial⟩ ?_
  refine AWp.seq ?_
  obtain ⟨t194, e195, H⟩ := bind_of H
  refine reg hP hn hm [(1, .call [] [] [] [] 0 (bV (a1 != a1)) [])] [0, 1, 5, 6] [] ⟨[(0, iV .i64 a0), (1, iV .i64 a1), (5, bV (a0 != a0)), (6, bV (a1 != a1))], [], 0⟩ [Enters Try.prog 79, Pv.Fn Try.prog 79 [iV .i64 a1] [] 0 (fun r o => r = bV (a1 != a1) ∧ o = [])] (by kernel_rfl) ⟨by exact Try.call79, by exact f_cmp_isNaN_int64.ok a1 t194 e195, trivial⟩ ?_
  refine AWp.seq ?_
  refine AWp.seq ?_
  refine reg hP hn hm [] [0, 1, 6, 11] [] ⟨[(0, iV .i64 a0), (1, iV .i64 a1), (6, bV (a1 != a1)), (11, bV (a0 != a0))], [], 0⟩ [] (by kernel_rfl) trivial ?_
  refine AWp.cond (a0 != a0) rfl (fun c196 => ?_) (fun c196 => ?_)
  · replace H := (ifT c196).symm.trans H
    refine AWp.seq ?_
    refine AWp.seq ?_
    refine reg hP hn hm [] [12] [] ⟨[(12, bV (a1 != a1))], [], 0⟩ [] (by kernel_rfl) trivial ?_
    refine AWp.cond (a1 != a1) rfl (fun c197 => ?_) (fun c197 => ?_)
    · replace H := (ifT c197).symm.trans H
      refine AWp.seq ?_
      refine reg hP hn hm [] [4] [] ⟨[(4, iV .i64 0)], [], 0⟩ [] (by kernel_rfl) trivial ?_
      refine AWp.conv (inv := []) (vk := []) (e0 := []) (t := ⟨[(4, iV .i64 0)], [], 0⟩) (by kernel_rfl) ?_
      refine AWp.ret ?_
      obtain rfl := Option.some.inj H
      exact Exists.intro _ (And.intro (fun _ _ h => h) (And.intro (.inl rfl) (And.intro rfl (And.intro (by kernel_rfl) (by kernel_rfl)))))
    · replace H := (ifF c197).symm.trans H
      refine AWp.skip ?_
      refine AWp.seq ?_
      refine reg hP hn hm [] [4] [] ⟨[(4, iV .i64 (-1))], [], 0⟩ [] (by kernel_rfl) trivial ?_
      refine AWp.conv (inv := []) (vk := []) (e0 := []) (t := ⟨[(4, iV .i64 (-1))], [], 0⟩) (by kernel_rfl) ?_
      refine AWp.ret ?_
      obtain rfl := Option.some.inj H
      exact Exists.intro _ (And.intro (fun _ _ h => h) (And.intro (.inl rfl) (And.intro rfl (And.intro (by kernel_rfl) (by kernel_rfl)))))
  · replace H := (ifF c196).symm.trans H
    refine AWp.skip ?_
    refine AWp.seq ?_
    refine AWp.seq ?_
    refine reg hP hn hm [] [0, 1, 13] [] ⟨[(0, iV .i64 a0), (1, iV .i64 a1), (13, bV (a1 != a1))], [], 0⟩ [] (by kernel_rfl) trivial ?_
    refine AWp.cond (a1 != a1) rfl (fun c198 => ?_) (fun c198 => ?_)
    · replace H := (ifT c198).symm.trans H
      refine AWp.seq ?_
      refine reg hP hn hm [] [4] [] ⟨[(4, iV .i64 1)], [], 0⟩ [] (by kernel_rfl) trivial ?_
      refine AWp.conv (inv := []) (vk := []) (e0 := []) (t := ⟨[(4, iV .i64 1)], [], 0⟩) (by kernel_rfl) ?_
      refine AWp.ret ?_
      obtain rfl := Option.some.inj H
      exact Exists.intro _ (And.intro (fun _ _ h => h) (And.intro (.inl rfl) (And.intro rfl (And.intro (by kernel_rfl) (by kernel_rfl)))))
    · replace H := (ifF c198).symm.trans H
      refine AWp.skip ?_
      refine AWp.seq ?_
      refine AWp.seq ?_
      refine reg hP hn hm [] [0, 1, 16] [] ⟨[(0, iV .i64 a0), (1, iV .i64 a1), (16, bV (decide (a0 < a1)))], [], 0⟩ [] (by kernel_rfl) trivial ?_
      refine AWp.cond (decide (a0 < a1)) rfl (fun c199 => ?_) (fun c199 => ?_)
      · replace H := (ifT c199).symm.trans H
        refine AWp.seq ?_
        refine reg hP hn hm [] [4] [] ⟨[(4, iV .i64 (-1))], [], 0⟩ [] (by kernel_rfl) trivial ?_
        refine AWp.conv (inv := []) (vk := []) (e0 := []) (t := ⟨[(4, iV .i64 (-1))], [], 0⟩) (by kernel_rfl) ?_
        refine AWp.ret ?_
        obtain rfl := Option.some.inj H
        exact Exists.intro _ (And.intro (fun _ _ h => h) (And.intro (.inl rfl) (And.intro rfl (And.intro (by kernel_rfl) (by kernel_rfl)))))
      · replace H := (ifF c199).symm.trans H
        refine AWp.skip ?_
        refine AWp.seq ?_
        refine AWp.seq ?_
        refine reg hP hn hm [] [19] [] ⟨[(19, bV (decide (a0 > a1)))], [], 0⟩ [] (by kernel_rfl) trivial ?_
        refine AWp.cond (decide (a0 > a1)) rfl (fun c200 => ?_) (fun c200 => ?_)
        · replace H := (ifT c200).symm.trans H
          refine AWp.seq ?_
          refine reg hP hn hm [] [4] [] ⟨[(4, iV .i64 1)], [], 0⟩ [] (by kernel_rfl) trivial ?_
          refine AWp.conv (inv := []) (vk := []) (e0 := []) (t := ⟨[(4, iV .i64 1)], [], 0⟩) (by kernel_rfl) ?_
          refine AWp.ret ?_
          obtain rfl := Option.some.inj H
          exact Exists.intro _ (And.intro (fun _ _ h => h) (And.intro (.inl rfl) (And.intro rfl (And.intro (by kernel_rfl) (by kernel_rfl)))))
        · replace H := (ifF c200).symm.trans H
          refine AWp.skip ?_
          refine AWp.seq ?_
          refine reg hP hn hm [] [4] [] ⟨[(4, iV .i64 0)], [], 0⟩ [] (by kernel_rfl) trivial ?_
          refine AWp.conv (inv := []) (vk := []) (e0 := []) (t := ⟨[(4, iV .i64 0)], [], 0⟩) (by kernel_rfl) ?_
          refine AWp.ret ?_
          obtain rfl := Option.some.inj H
          exact Exists.intro _ (And.intro (fun _ _ h => h) (And.intro (.inl rfl) (And.intro rfl (And.intro (by kernel_rfl) (by kernel_rfl)))))
def f_cmp_isNaN_int.f (a0 : Int) : Option (Unit) := some ()
theorem f_cmp_isNaN_int.ok (a0 : Int) (r : Unit) (H : f_cmp_isNaN_int.f a0 = some r) : Pv.Fn Try.prog 80 [iV .i64 a0] [] 0 (fun x o => x = bV (a0 != a0) ∧ o = []) := by
  unfold f_cmp_isNaN_int.f at H
  refine Fn.bodyK [] Try.func80 rfl rfl (fun Γ hP hn => ?_)
  have hm : Try.prog.follows .mixedOrders = true := by kernel_rfl
  replace hn : Γ.n = 6 := hn
  refine AWp.seq ?_
  refine reg hP hn hm [] [0] [] ⟨[(0, iV .i64 a0)], [], 0⟩ [] (by kernel_rfl) trivial ?_
  refine AWp.seq ?_
  refine reg hP hn hm [] [2] [] ⟨[(2, bV (a0 != a0))], [], 0⟩ [] (by kernel_rfl) trivial ?_
  refine AWp.conv (inv := []) (vk := []) (e0 := []) (t := ⟨[(2, bV (a0 != a0))], [], 0⟩) (by kernel_rfl) ?_
  refine AWp.ret ?_
  obtain rfl := Option.some.inj H
  exact Exists.intro _ (And.intro (fun _ _ h => h) (And.intro (.inl rfl) (And.intro rfl (And.intro (by kernel_rfl) (by kernel_rfl)))))
def f_cmp_Compare_int.f (a0 : Int) (a1 : Int) : Option (Int) := (f_cmp_isNaN_int.f a0) >>= fun t205 => (f_cmp_isNaN_int.f a1) >>= fun t209 => if (a0 != a0) = true then (if (a1 != a1) = true then (some 0) else (some (-1))) else (if (a1 != a1) = true then (some 1) else (if (decide (a0 < a1)) = true then (some (-1)) else (if (decide (a0 > a1)) = true then (some 1) else (some 0))))
theorem f_cmp_Compare_int.ok (a0 : Int) (a1 : Int) (r : Int) (H : f_cmp_Compare_int.f a0 a1 = some r) : Pv.Fn Try.prog 53 [iV .i64 a0, iV .i64 a1] [] 0 (fun x o => x = iV .i64 r ∧ o = []) := by
  unfold f_cmp_Compare_int.f at H
  refine Fn.bodyK [] Try.func53 rfl rfl (fun Γ hP hn => ?_)
  have hm : Try.prog.follows .mixedOrders = true := by kernel_rfl
  replace hn : Γ.n = 20 := hn
  refine AWp.seq ?_
  refine reg hP hn hm [] [0, 1] [] ⟨[(0, iV .i64 a0), (1, iV .i64 a1)], [], 0⟩ [] (by kernel_rfl) trivial ?_
  refine AWp.seq ?_
  obtain ⟨t205, e206, H⟩ := bind_of H
  refine reg hP hn hm [(1, .call [] [] [] [] 0 (bV (a0 != a0)) [])] [0, 1, 5] [] ⟨[(0, iV .i64 a0), (1, iV .i64 a1), (5, bV (a0 != a0))], [], 0⟩ [Enters Try.prog 80, Pv.Fn Try.prog 80 [iV .i64 a0] [] 0 (fun r o => r = bV (a0 != a0) ∧ o = [])] (by kernel_rfl) ⟨by exact Try.call80, by exact f_cmp_isNaN_int.ok a0 t205 e206, trivial⟩ ?_
  refine AWp.seq ?_
  obtain ⟨t209, e210, H⟩ := bind_of H
  refine reg hP hn hm [(1, .call [] [] [] [] 0 (bV (a1 != a1)) [])] [0, 1, 5, 6] [] ⟨[(0, iV .i64 a0), (1, iV .i64 a1), (5, bV (a0 != a0)), (6, bV (a1 != a1))], [], 0⟩ [Enters Try.prog 80, Pv.Fn Try.prog 80 [iV .i64 a1] [] 0 (fun r o => r = bV (a1 != a1) ∧ o = [])] (by kernel_rfl) ⟨by exact Try.call80, by exact f_cmp_isNaN_int.ok a1 t209 e210, trivial⟩ ?_
  refine AWp.seq ?_
  refine AWp.seq ?_
  refine reg hP hn hm [] [0, 1, 6, 11] [] ⟨[(0, iV .i64 a0), (1, iV .i64 a1), (6, bV (a1 != a1)), (11, bV (a0 != a0))], [], 0⟩ [] (by kernel_rfl) trivial ?_
  refine AWp.cond (a0 != a0) rfl (fun c211 => ?_) (fun c211 => ?_)
  · replace H := (ifT c211).symm.trans H
    refine AWp.seq ?_
    refine AWp.seq ?_
    refine reg hP hn hm [] [12] [] ⟨[(12, bV (a1 != a1))], [], 0⟩ [] (by kernel_rfl) trivial ?_
    refine AWp.cond (a1 != a1) rfl (fun c212 => ?_) (fun c212 => ?_)
    · replace H := (ifT c212).symm.trans H
      refine AWp.seq ?_
      refine reg hP hn hm [] [4] [] ⟨[(4, iV .i64 0)], [], 0⟩ [] (by kernel_rfl) trivial ?_
      refine AWp.conv (inv := []) (vk := []) (e0 := []) (t := ⟨[(4, iV .i64 0)], [], 0⟩) (by kernel_rfl) ?_
      refine AWp.ret ?_
      obtain rfl := Option.some.inj H
      exact Exists.intro _ (And.intro (fun _ _ h => h) (And.intro (.inl rfl) (And.intro rfl (And.intro (by kernel_rfl) (by kernel_rfl)))))
    · replace H := (ifF c212).symm.trans H
      refine AWp.skip ?_
      refine AWp.seq ?_
      refine reg hP hn hm [] [4] [] ⟨[(4, iV .i64 (-1))], [], 0⟩ [] (by kernel_rfl) trivial ?_
      refine AWp.conv (inv := []) (vk := []) (e0 := []) (t := ⟨[(4, iV .i64 (-1))], [], 0⟩) (by kernel_rfl) ?_
      refine AWp.ret ?_
      obtain rfl := Option.some.inj H
      exact Exists.intro _ (And.intro (fun _ _ h => h) (And.intro (.inl rfl) (And.intro rfl (And.intro (by kernel_rfl) (by kernel_rfl)))))
  · replace H := (ifF c211).symm.trans H
    refine AWp.skip ?_
    refine AWp.seq ?_
    refine AWp.seq ?_
    refine reg hP hn hm [] [0, 1, 13] [] ⟨[(0, iV .i64 a0), (1, iV .i64 a1), (13, bV (a1 != a1))], [], 0⟩ [] (by kernel_rfl) trivial ?_
    refine AWp.cond (a1 != a1) rfl (fun c213 => ?_) (fun c213 => ?_)
    · replace H := (ifT c213).symm.trans H
      refine AWp.seq ?_
      refine reg hP hn hm [] [4] [] ⟨[(4, iV .i64 1)], [], 0⟩ [] (by kernel_rfl) trivial ?_
      refine AWp.conv (inv := []) (vk := []) (e0 := []) (t := ⟨[(4, iV .i64 1)], [], 0⟩) (by kernel_rfl) ?_
      refine AWp.ret ?_
      obtain rfl := Option.some.inj H
      exact Exists.intro _ (And.intro (fun _ _ h => h) (And.intro (.inl rfl) (And.intro rfl (And.intro (by kernel_rfl) (by kernel_rfl)))))
    · replace H := (ifF c213).symm.trans H
      refine AWp.skip ?_
      refine AWp.seq ?_
      refine AWp.seq ?_
      refine reg hP hn hm [] [0, 1, 16] [] ⟨[(0, iV .i64 a0), (1, iV .i64 a1), (16, bV (decide (a0 < a1)))], [], 0⟩ [] (by kernel_rfl) trivial ?_
      refine AWp.cond (decide (a0 < a1)) rfl (fun c214 => ?_) (fun c214 => ?_)
      · replace H := (ifT c214).symm.trans H
        refine AWp.seq ?_
        refine reg hP hn hm [] [4] [] ⟨[(4, iV .i64 (-1))], [], 0⟩ [] (by kernel_rfl) trivial ?_
        refine AWp.conv (inv := []) (vk := []) (e0 := []) (t := ⟨[(4, iV .i64 (-1))], [], 0⟩) (by kernel_rfl) ?_
        refine AWp.ret ?_
        obtain rfl := Option.some.inj H
        exact Exists.intro _ (And.intro (fun _ _ h => h) (And.intro (.inl rfl) (And.intro rfl (And.intro (by kernel_rfl) (by kernel_rfl)))))
      · replace H := (ifF c214).symm.trans H
        refine AWp.skip ?_
        refine AWp.seq ?_
        refine AWp.seq ?_
        refine reg hP hn hm [] [19] [] ⟨[(19, bV (decide (a0 > a1)))], [], 0⟩ [] (by kernel_rfl) trivial ?_
        refine AWp.cond (decide (a0 > a1)) rfl (fun c215 => ?_) (fun c215 => ?_)
        · replace H := (ifT c215).symm.trans H
          refine AWp.seq ?_
          refine reg hP hn hm [] [4] [] ⟨[(4, iV .i64 1)], [], 0⟩ [] (by kernel_rfl) trivial ?_
          refine AWp.conv (inv := []) (vk := []) (e0 := []) (t := ⟨[(4, iV .i64 1)], [], 0⟩) (by kernel_rfl) ?_
          refine AWp.ret ?_
          obtain rfl := Option.some.inj H
          exact Exists.intro _ (And.intro (fun _ _ h => h) (And.intro (.inl rfl) (And.intro rfl (And.intro (by kernel_rfl) (by kernel_rfl)))))
        · replace H := (ifF c215).symm.trans H
          refine AWp.skip ?_
          refine AWp.seq ?_
          refine reg hP hn hm [] [4] [] ⟨[(4, iV .i64 0)], [], 0⟩ [] (by kernel_rfl) trivial ?_
          refine AWp.conv (inv := []) (vk := []) (e0 := []) (t := ⟨[(4, iV .i64 0)], [], 0⟩) (by kernel_rfl) ?_
          refine AWp.ret ?_
          obtain rfl := Option.some.inj H
          exact Exists.intro _ (And.intro (fun _ _ h => h) (And.intro (.inl rfl) (And.intro rfl (And.intro (by kernel_rfl) (by kernel_rfl)))))
def f_cmp_Or_int.l0 (a0 : List Int) (x226 : Int) : Option (Int ⊕ Unit) := if (decide (x226 < (a0.length : Int))) = true then ((at? a0 x226) >>= fun b231 => if (b231 != (0 : Int)) = true then (some (.inl b231)) else (f_cmp_Or_int.l0 a0 (IntKind.i64.wrap (x226 + (1 : Int))))) else (some (.inr ()))
partial_fixpoint
def f_cmp_Or_int.f (a0 : List Int) : Option (Int) := (f_cmp_Or_int.l0 a0 0) >>= fun oo => match oo with | .inl rr => (some rr) | .inr _ => (some 0)
theorem f_cmp_Or_int.ok (a0 : List Int) (r : Int) (H : f_cmp_Or_int.f a0 = some r) : Pv.Fn Try.prog 51 [.im (.row (a0.map (encInt .i64)))] [] 0 (fun x o => x = iV .i64 r ∧ o = []) := by
  unfold f_cmp_Or_int.f at H
  refine Fn.bodyK [] Try.func51 rfl rfl (fun Γ hP hn => ?_)
  have hm : Try.prog.follows .mixedOrders = true := by kernel_rfl
  replace hn : Γ.n = 18 := hn
  refine AWp.seq ?_
  refine reg hP hn hm [] [0] [] ⟨[(0, .im (.row (a0.map (encInt .i64))))], [], 0⟩ [] (by kernel_rfl) trivial ?_
  refine AWp.seq ?_
  refine reg hP hn hm [] [0, 3] [] ⟨[(0, .im (.row (a0.map (encInt .i64)))), (3, iV .i64 0)], [], 0⟩ [] (by kernel_rfl) trivial ?_
  refine AWp.seq ?_
  refine AWp.seq ?_
  refine reg hP hn hm [(1, .any (iV .i64 (a0.length : Int)))] [3, 6, 7, 8] [] ⟨[(3, iV .i64 0), (6, .im (.row (a0.map (encInt .i64)))), (7, iV .i64 (a0.length : Int)), (8, iV .i64 0)], [], 0⟩ [((a0.map (encInt .i64)).length : Int) = (a0.length : Int)] (by kernel_rfl) ⟨by rw [len_map], trivial⟩ ?_
  refine AWp.block ?_
  obtain ⟨o235, e236, H⟩ := bind_of H
  refine AWp.loop (LWp.conv (inv := []) (vk := []) (e0 := []) (t := ⟨[(3, iV .i64 0), (6, .im (.row (a0.map (encInt .i64)))), (7, iV .i64 (a0.length : Int)), (8, iV .i64 0)], [], 0⟩) (by kernel_rfl) ?_)
  refine LWp.mono (Q := fun e s => (match (generalizing := false) o235 with | .inl rr => e = .ret ∧ s.floor = 0 ∧ resOf Try.prog Try.f51 s = some (iV .i64 rr) ∧ ([] : List (Nat × Option MObj)) = [] | .inr _ => e = .exit 0 ∧ s = ⟨[(3, iV .i64 0)], [], 0⟩)) (LWp.cv (withBody (fun body hbody => ?_))) ?_
  · refine f_cmp_Or_int.l0.partial_correctness a0 (motive := fun x226 o235 => LWp Γ body (fun e s => ∃ t, Cv Γ s t ∧ (match (generalizing := false) o235 with | .inl rr => e = .ret ∧ t.floor = 0 ∧ resOf Try.prog Try.f51 t = some (iV .i64 rr) ∧ ([] : List (Nat × Option MObj)) = [] | .inr _ => e = .exit 0 ∧ t = ⟨[(3, iV .i64 0)], [], 0⟩)) ⟨[(3, iV .i64 0), (6, .im (.row (a0.map (encInt .i64)))), (7, iV .i64 (a0.length : Int)), (8, iV .i64 x226)], [], 0⟩) ?_ _ _ e236
    clear H e236 o235; intro self ih x226 o235 H
    subst hbody
    refine LWp.round ?_
    refine AWp.seq ?_
    refine reg hP hn hm [] [3, 6, 7, 8, 9] [] ⟨[(3, iV .i64 0), (6, .im (.row (a0.map (encInt .i64)))), (7, iV .i64 (a0.length : Int)), (8, iV .i64 x226), (9, bV (decide (x226 < (a0.length : Int))))], [], 0⟩ [] (by kernel_rfl) trivial ?_
    refine AWp.seq ?_
    refine AWp.cond (decide (x226 < (a0.length : Int))) rfl (fun c227 => ?_) (fun c227 => ?_)
    · replace H := (ifT c227).symm.trans H
      refine AWp.skip ?_
      refine AWp.seq ?_
      refine AWp.block ?_
      refine AWp.seq ?_
      obtain ⟨b231, p232, q233, H⟩ := at_of H
      refine reg hP hn hm [(0, .c ((encInt .i64) b231))] [3, 5, 6, 7, 8] [] ⟨[(3, iV .i64 0), (5, iV .i64 b231), (6, .im (.row (a0.map (encInt .i64)))), (7, iV .i64 (a0.length : Int)), (8, iV .i64 x226)], [], 0⟩ [0 ≤ x226, (a0.map (encInt .i64))[(Int.toNat (x226))]? = some ((encInt .i64) b231)] (by kernel_rfl) ⟨by exact p232, by exact el_map (encInt .i64) q233, trivial⟩ ?_
      refine AWp.seq ?_
      refine reg hP hn hm [] [3, 5, 6, 7, 8, 14] [] ⟨[(3, iV .i64 0), (5, iV .i64 b231), (6, .im (.row (a0.map (encInt .i64)))), (7, iV .i64 (a0.length : Int)), (8, iV .i64 x226), (14, bV (b231 != (0 : Int)))], [], 0⟩ [] (by kernel_rfl) trivial ?_
      refine AWp.cond (b231 != (0 : Int)) rfl (fun c234 => ?_) (fun c234 => ?_)
      · replace H := (ifT c234).symm.trans H
        refine AWp.seq ?_
        refine reg hP hn hm [] [2] [] ⟨[(2, iV .i64 b231)], [], 0⟩ [] (by kernel_rfl) trivial ?_
        refine AWp.conv (inv := []) (vk := []) (e0 := []) (t := ⟨[(2, iV .i64 b231)], [], 0⟩) (by kernel_rfl) ?_
        refine AWp.ret ?_
        obtain rfl := Option.some.inj H
        exact Exists.intro _ (And.intro (fun _ _ h => h) (And.intro rfl (And.intro rfl (And.intro (by kernel_rfl) (by kernel_rfl)))))
      · replace H := (ifF c234).symm.trans H
        refine AWp.skip ?_
        refine reg hP hn hm [] [3, 6, 7, 8] [] ⟨[(3, iV .i64 0), (6, .im (.row (a0.map (encInt .i64)))), (7, iV .i64 (a0.length : Int)), (8, iV .i64 (IntKind.i64.wrap (x226 + (1 : Int))))], [], 0⟩ [] (by kernel_rfl) trivial ?_
        exact LWp.conv (inv := []) (vk := []) (e0 := []) (t := ⟨[(3, iV .i64 0), (6, .im (.row (a0.map (encInt .i64)))), (7, iV .i64 (a0.length : Int)), (8, iV .i64 (IntKind.i64.wrap (x226 + (1 : Int))))], [], 0⟩) (by kernel_rfl) (ih _ _ H)
    · replace H := (ifF c227).symm.trans H
      refine AWp.exit ?_
      obtain rfl := Option.some.inj H
      exact Exists.intro _ (And.intro (fun _ _ h => h.conv (inv := []) (vk := []) (e0 := []) (t := ⟨[(3, iV .i64 0)], [], 0⟩) (by kernel_rfl)) (And.intro rfl rfl))
  · rcases o235 with rr | _
    · skip
      rintro e s ⟨rfl, hfl, hres⟩
      obtain rfl := Option.some.inj H
      exact Exists.intro _ (And.intro (fun _ _ h => h) (And.intro (.inl rfl) (And.intro hfl hres)))
    · skip
      rintro e s ⟨rfl, rfl⟩
      refine AWp.seq ?_
      refine reg hP hn hm [] [2] [] ⟨[(2, iV .i64 0)], [], 0⟩ [] (by kernel_rfl) trivial ?_
      refine AWp.conv (inv := []) (vk := []) (e0 := []) (t := ⟨[(2, iV .i64 0)], [], 0⟩) (by kernel_rfl) ?_
      refine AWp.ret ?_
      obtain rfl := Option.some.inj H
      exact Exists.intro _ (And.intro (fun _ _ h => h) (And.intro (.inl rfl) (And.intro rfl (And.intro (by kernel_rfl) (by kernel_rfl)))))
def f_plan_sorted_1.f (a0 : Tplan_Item) (a1 : Tplan_Item) : Option (Int) := (f_cmp_Compare_int64.f a0.f1.f0 a1.f1.f0) >>= fun t239 => (f_cmp_Compare_int.f a0.f0 a1.f0) >>= fun t241 => (f_cmp_Or_int.f [t239, t241]) >>= fun t243 => some t243
theorem f_plan_sorted_1.ok (a0 : Tplan_Item) (a1 : Tplan_Item) (r : Int) (H : f_plan_sorted_1.f a0 a1 = some r) : Pv.Fn Try.prog 50 [.agg (apluvialref17_Item ⟨a0.f0, a0.f1.f0, a0.f1.f1, a0.f1.f2⟩), .agg (apluvialref17_Item ⟨a1.f0, a1.f1.f0, a1.f1.f1, a1.f1.f2⟩)] [] 0 (fun x o => x = iV .i64 r ∧ o = []) := by
  unfold f_plan_sorted_1.f at H
  refine Fn.bodyK [] Try.func50 rfl rfl (fun Γ hP hn => ?_)
  have hm : Try.prog.follows .mixedOrders = true := by kernel_rfl
  replace hn : Γ.n = 19 := hn
  refine AWp.seq ?_
  refine reg hP hn hm [(0, .k 0), (1, .k 1)] [2, 3] [0, 1] ⟨[(2, .ptr 0 0 0), (3, .ptr 1 0 0)], [(0, some (.box 89 [iV .i64 a0.f0, iV .i64 a0.f1.f0, iV .i64 a0.f1.f1, iV .i64 a0.f1.f2])), (1, some (.box 89 [iV .i64 a1.f0, iV .i64 a1.f1.f0, iV .i64 a1.f1.f1, iV .i64 a1.f1.f2]))], 0⟩ [] (by kernel_rfl) trivial ?_
  refine AWp.seq ?_
  obtain ⟨t239, e240, H⟩ := bind_of H
  obtain ⟨t241, e242, H⟩ := bind_of H
  obtain ⟨t243, e244, H⟩ := bind_of H
  refine reg hP hn hm [(6, .call [] [] [] [] 0 (iV .i64 t239) []), (11, .call [] [] [] [] 0 (iV .i64 t241) []), (12, .app 2 ([t239, t241].map (encInt .i64))), (13, .call [] [] [2] [] 0 (iV .i64 t243) [])] [4] [] ⟨[(4, iV .i64 t243)], [], 0⟩ [Enters Try.prog 52, Pv.Fn Try.prog 52 [iV .i64 a0.f1.f0, iV .i64 a1.f1.f0] [] 0 (fun r o => r = iV .i64 t239 ∧ o = []), Enters Try.prog 53, Pv.Fn Try.prog 53 [iV .i64 a0.f0, iV .i64 a1.f0] [] 0 (fun r o => r = iV .i64 t241 ∧ o = []), [t239, t241].map (encInt .i64) = [[iI .i64 t239], [iI .i64 t241]], Enters Try.prog 51, Pv.Fn Try.prog 51 [.im (.row ([t239, t241].map (encInt .i64)))] [] 0 (fun r o => r = iV .i64 t243 ∧ o = [])] (by kernel_rfl) ⟨by exact Try.call52, by exact f_cmp_Compare_int64.ok a0.f1.f0 a1.f1.f0 t239 e240, by exact Try.call53, by exact f_cmp_Compare_int.ok a0.f0 a1.f0 t241 e242, by exact rfl, by exact Try.call51, by exact f_cmp_Or_int.ok [t239, t241] t243 e244, trivial⟩ ?_
  refine AWp.conv (inv := []) (vk := []) (e0 := []) (t := ⟨[(4, iV .i64 t243)], [], 0⟩) (by kernel_rfl) ?_
  refine AWp.ret ?_
  obtain rfl := Option.some.inj H
  exact Exists.intro _ (And.intro (fun _ _ h => h) (And.intro (.inl rfl) (And.intro rfl (And.intro (by kernel_rfl) (by kernel_rfl)))))
def f_slices_insertionSortCmpFunc_plan_Item_plan_sorted_1.l1 (a1 : Int) (a2 : Int) (x318 : Int) (x358 : List Tplan_Item) (x359 : Int) : Option (List Tplan_Item) := ((if (decide (x359 > a1)) = true then ((at? x358 x359) >>= fun b370 => (at? x358 (IntKind.i64.wrap (x359 - (1 : Int)))) >>= fun b373 => (f_plan_sorted_1.f b370 b373) >>= fun t376 => some (decide (t376 < (0 : Int)))) else (some false)) : Option (Bool)) >>= fun x378 => if x378 = true then ((at? x358 (IntKind.i64.wrap (x359 - (1 : Int)))) >>= fun b389 => (at? x358 x359) >>= fun b392 => (at? (x358.set (Int.toNat (x359)) b389) (IntKind.i64.wrap (x359 - (1 : Int)))) >>= fun b395 => f_slices_insertionSortCmpFunc_plan_Item_plan_sorted_1.l1 a1 a2 x318 ((x358.set (Int.toNat (x359)) b389).set (Int.toNat (IntKind.i64.wrap (x359 - (1 : Int)))) b392) (IntKind.i64.wrap (x359 - (1 : Int)))) else (some x358)
partial_fixpoint
def f_slices_insertionSortCmpFunc_plan_Item_plan_sorted_1.l0 (a1 : Int) (a2 : Int) (x317 : List Tplan_Item) (x318 : Int) : Option (List Tplan_Item) := if (decide (x318 < a2)) = true then ((f_slices_insertionSortCmpFunc_plan_Item_plan_sorted_1.l1 a1 a2 x318 x317 x318) >>= fun x398 => f_slices_insertionSortCmpFunc_plan_Item_plan_sorted_1.l0 a1 a2 x398 (IntKind.i64.wrap (x318 + (1 : Int)))) else (some x317)
partial_fixpoint
def f_slices_insertionSortCmpFunc_plan_Item_plan_sorted_1.f (a0 : List Tplan_Item) (a1 : Int) (a2 : Int) : Option (List Tplan_Item) := (f_slices_insertionSortCmpFunc_plan_Item_plan_sorted_1.l0 a1 a2 a0 (IntKind.i64.wrap (a1 + (1 : Int)))) >>= fun x399 => some x399
theorem f_slices_insertionSortCmpFunc_plan_Item_plan_sorted_1.ok (a0 : List Tplan_Item) (a1 : Int) (a2 : Int) (r : List Tplan_Item) (H : f_slices_insertionSortCmpFunc_plan_Item_plan_sorted_1.f a0 a1 a2 = some r) : Pv.Fn Try.prog 104 [.own 0, iV .i64 a1, iV .i64 a2, .im (.sc (.func (.func 50) #[] #[]))] [(0, some (.row 4 89 (a0.map eplan_Item)))] 1 (fun x o => x = .tup [] ∧ o = [(0, some (.row 4 89 (r.map eplan_Item)))]) := by
  unfold f_slices_insertionSortCmpFunc_plan_Item_plan_sorted_1.f at H
  refine Fn.bodyK [0] Try.func104 rfl rfl (fun Γ hP hn => ?_)
  have hm : Try.prog.follows .mixedOrders = true := by kernel_rfl
  replace hn : Γ.n = 53 := hn
  refine AWp.seq ?_
  refine reg hP hn hm [] [0, 1, 2, 3, 8] [0] ⟨[(0, .own 0), (1, iV .i64 a1), (2, iV .i64 a2), (3, .im (.sc (.func (.func 50) #[] #[]))), (8, iV .i64 (IntKind.i64.wrap (a1 + (1 : Int))))], [(0, some (.row 4 89 (a0.map eplan_Item)))], 1⟩ [] (by kernel_rfl) trivial ?_
  refine AWp.block ?_
  obtain ⟨o400, e401, H⟩ := bind_of H
  refine AWp.loop (LWp.conv (inv := [(0, 0)]) (vk := []) (e0 := []) (t := ⟨[(0, .own 0), (1, iV .i64 a1), (2, iV .i64 a2), (3, .im (.sc (.func (.func 50) #[] #[]))), (8, iV .i64 (IntKind.i64.wrap (a1 + (1 : Int))))], [(0, some (.row 4 89 (a0.map eplan_Item)))], 1⟩) (by kernel_rfl) ?_)
  refine LWp.mono (Q := fun e s => (match (generalizing := false) o400 with | x399 => e = .exit 0 ∧ s = ⟨[], [(0, some (.row 4 89 (x399.map eplan_Item)))], 1⟩)) (LWp.cv (withBody (fun body hbody => ?_))) ?_
  · refine f_slices_insertionSortCmpFunc_plan_Item_plan_sorted_1.l0.partial_correctness a1 a2 (motive := fun x317 x318 o400 => LWp Γ body (fun e s => ∃ t, Cv Γ s t ∧ (match (generalizing := false) o400 with | x399 => e = .exit 0 ∧ t = ⟨[], [(0, some (.row 4 89 (x399.map eplan_Item)))], 1⟩)) ⟨[(0, .own 0), (1, iV .i64 a1), (2, iV .i64 a2), (3, .im (.sc (.func (.func 50) #[] #[]))), (8, iV .i64 x318)], [(0, some (.row 4 89 (x317.map eplan_Item)))], 1⟩) ?_ _ _ _ e401
    clear H e401 o400; intro self ih x317 x318 o400 H
    subst hbody
    refine LWp.round ?_
    refine AWp.seq ?_
    refine AWp.seq ?_
    refine reg hP hn hm [] [0, 1, 2, 3, 8, 14] [0] ⟨[(0, .own 0), (1, iV .i64 a1), (2, iV .i64 a2), (3, .im (.sc (.func (.func 50) #[] #[]))), (8, iV .i64 x318), (14, bV (decide (x318 < a2)))], [(0, some (.row 4 89 (x317.map eplan_Item)))], 1⟩ [] (by kernel_rfl) trivial ?_
    refine AWp.cond (decide (x318 < a2)) rfl (fun c319 => ?_) (fun c319 => ?_)
    · replace H := (ifT c319).symm.trans H
      refine AWp.skip ?_
      refine AWp.seq ?_
      refine AWp.block ?_
      refine AWp.seq ?_
      refine reg hP hn hm [] [0, 1, 2, 3, 8, 9] [0] ⟨[(0, .own 0), (1, iV .i64 a1), (2, iV .i64 a2), (3, .im (.sc (.func (.func 50) #[] #[]))), (8, iV .i64 x318), (9, iV .i64 x318)], [(0, some (.row 4 89 (x317.map eplan_Item)))], 1⟩ [] (by kernel_rfl) trivial ?_
      refine AWp.block ?_
      obtain ⟨o402, e403, H⟩ := bind_of H
      refine AWp.loop (LWp.conv (inv := [(0, 0)]) (vk := []) (e0 := []) (t := ⟨[(0, .own 0), (1, iV .i64 a1), (2, iV .i64 a2), (3, .im (.sc (.func (.func 50) #[] #[]))), (8, iV .i64 x318), (9, iV .i64 x318)], [(0, some (.row 4 89 (x317.map eplan_Item)))], 1⟩) (by kernel_rfl) ?_)
      refine LWp.mono (Q := fun e s => (match (generalizing := false) o402 with | x398 => e = .exit 2 ∧ s = ⟨[(0, .own 0), (1, iV .i64 a1), (2, iV .i64 a2), (3, .im (.sc (.func (.func 50) #[] #[]))), (8, iV .i64 x318)], [(0, some (.row 4 89 (x398.map eplan_Item)))], 1⟩)) (LWp.cv (withBody (fun body hbody => ?_))) ?_
      · refine f_slices_insertionSortCmpFunc_plan_Item_plan_sorted_1.l1.partial_correctness a1 a2 x318 (motive := fun x358 x359 o402 => LWp Γ body (fun e s => ∃ t, Cv Γ s t ∧ (match (generalizing := false) o402 with | x398 => e = .exit 2 ∧ t = ⟨[(0, .own 0), (1, iV .i64 a1), (2, iV .i64 a2), (3, .im (.sc (.func (.func 50) #[] #[]))), (8, iV .i64 x318)], [(0, some (.row 4 89 (x398.map eplan_Item)))], 1⟩)) ⟨[(0, .own 0), (1, iV .i64 a1), (2, iV .i64 a2), (3, .im (.sc (.func (.func 50) #[] #[]))), (8, iV .i64 x318), (9, iV .i64 x359)], [(0, some (.row 4 89 (x358.map eplan_Item)))], 1⟩) ?_ _ _ _ e403
        clear H e403 o402; intro self ih x358 x359 o402 H
        subst hbody
        refine LWp.round ?_
        refine AWp.seq ?_
        refine AWp.seq ?_
        obtain ⟨o404, e405, H⟩ := bind_of H
        refine AWp.mono (Q := fun e s => (match (generalizing := false) o404 with | x378 => e = .normal ∧ s = ⟨[(0, .own 0), (1, iV .i64 a1), (2, iV .i64 a2), (3, .im (.sc (.func (.func 50) #[] #[]))), (8, iV .i64 x318), (9, iV .i64 x359), (34, bV x378)], [(0, some (.row 4 89 (x358.map eplan_Item)))], 1⟩)) (AWp.cv ?_) ?_
        · replace H := e405; clear e405
          rcases Bool.eq_false_or_eq_true (decide (x359 > a1)) with c369 | c369
          · replace H := (ifT c369).symm.trans H
            obtain ⟨b370, p371, q372, H⟩ := at_of H
            obtain ⟨b373, p374, q375, H⟩ := at_of H
            obtain ⟨t376, e377, H⟩ := bind_of H
            refine reg hP hn hm [(3, .b true), (8, .c (eplan_Item b370)), (13, .c (eplan_Item b373)), (14, .call [] [] [] [] 0 (iV .i64 t376) [])] [0, 1, 2, 3, 8, 9, 22, 23, 24, 25, 26, 27, 28, 29, 30, 31, 32, 33, 34] [0] ⟨[(0, .own 0), (1, iV .i64 a1), (2, iV .i64 a2), (3, .im (.sc (.func (.func 50) #[] #[]))), (8, iV .i64 x318), (9, iV .i64 x359), (22, .im (.sc (.func (.func 50) #[] #[]))), (23, .own 0), (24, iV .i64 x359), (25, .ptr 0 (Int.toNat (x359)) 0), (26, .agg (apluvialref17_Item ⟨b370.f0, b370.f1.f0, b370.f1.f1, b370.f1.f2⟩)), (27, .own 0), (28, iV .i64 x359), (29, iV .i64 (IntKind.i64.wrap (x359 - (1 : Int)))), (30, .ptr 0 (Int.toNat (IntKind.i64.wrap (x359 - (1 : Int)))) 0), (31, .agg (apluvialref17_Item ⟨b373.f0, b373.f1.f0, b373.f1.f1, b373.f1.f2⟩)), (32, iV .i64 t376), (33, bV (decide (t376 < (0 : Int)))), (34, bV (decide (t376 < (0 : Int))))], [(0, some (.row 4 89 (x358.map eplan_Item)))], 1⟩ [(decide (x359 > a1)) = true, 0 ≤ x359, x359 < (((x358.map eplan_Item).length : Nat) : Int), (x358.map eplan_Item)[(Int.toNat (x359))]? = some (eplan_Item b370), 0 ≤ (IntKind.i64.wrap (x359 - (1 : Int))), IntKind.i64.wrap (x359 - (1 : Int)) < (((x358.map eplan_Item).length : Nat) : Int), (x358.map eplan_Item)[(Int.toNat (IntKind.i64.wrap (x359 - (1 : Int))))]? = some (eplan_Item b373), Enters Try.prog 50, Pv.Fn Try.prog 50 [.agg (apluvialref17_Item ⟨b370.f0, b370.f1.f0, b370.f1.f1, b370.f1.f2⟩), .agg (apluvialref17_Item ⟨b373.f0, b373.f1.f0, b373.f1.f1, b373.f1.f2⟩)] [] 0 (fun r o => r = iV .i64 t376 ∧ o = [])] (by kernel_rfl) ⟨by exact c369, by exact p371, by exact el_lt eplan_Item p371 q372, by exact el_map eplan_Item q372, by exact p374, by exact el_lt eplan_Item p374 q375, by exact el_map eplan_Item q375, by exact Try.call50, by exact f_plan_sorted_1.ok b370 b373 t376 e377, trivial⟩ ?_
            obtain rfl := Option.some.inj H
            exact Exists.intro _ (And.intro (fun _ _ h => h.conv (inv := [(0, 0)]) (vk := []) (e0 := []) (t := ⟨[(0, .own 0), (1, iV .i64 a1), (2, iV .i64 a2), (3, .im (.sc (.func (.func 50) #[] #[]))), (8, iV .i64 x318), (9, iV .i64 x359), (34, bV (decide (t376 < (0 : Int))))], [(0, some (.row 4 89 (x358.map eplan_Item)))], 1⟩) (by kernel_rfl)) (And.intro rfl rfl))
          · replace H := (ifF c369).symm.trans H
            refine reg hP hn hm [(3, .b false)] [0, 1, 2, 3, 8, 9, 34] [0] ⟨[(0, .own 0), (1, iV .i64 a1), (2, iV .i64 a2), (3, .im (.sc (.func (.func 50) #[] #[]))), (8, iV .i64 x318), (9, iV .i64 x359), (34, bV false)], [(0, some (.row 4 89 (x358.map eplan_Item)))], 1⟩ [(decide (x359 > a1)) = false] (by kernel_rfl) ⟨by exact c369, trivial⟩ ?_
            obtain rfl := Option.some.inj H
            exact Exists.intro _ (And.intro (fun _ _ h => h.conv (inv := [(0, 0)]) (vk := []) (e0 := []) (t := ⟨[(0, .own 0), (1, iV .i64 a1), (2, iV .i64 a2), (3, .im (.sc (.func (.func 50) #[] #[]))), (8, iV .i64 x318), (9, iV .i64 x359), (34, bV false)], [(0, some (.row 4 89 (x358.map eplan_Item)))], 1⟩) (by kernel_rfl)) (And.intro rfl rfl))
        · obtain ⟨x378, rfl⟩ : ∃ z, z = o404 := ⟨_, rfl⟩
          rintro e s ⟨rfl, rfl⟩
          refine AWp.cond x378 rfl (fun c379 => ?_) (fun c379 => ?_)
          · replace H := (ifT c379).symm.trans H
            refine AWp.skip ?_
            refine AWp.seq ?_
            refine AWp.block ?_
            obtain ⟨b389, p390, q391, H⟩ := at_of H
            obtain ⟨b392, p393, q394, H⟩ := at_of H
            obtain ⟨b395, p396, q397, H⟩ := at_of H
            refine reg hP hn hm [(9, .c (eplan_Item b389)), (13, .c (eplan_Item b392)), (15, .put (eplan_Item b392) ((x358.set (Int.toNat (x359)) b389).map eplan_Item)), (17, .put (eplan_Item b395) (((x358.set (Int.toNat (x359)) b389).set (Int.toNat (IntKind.i64.wrap (x359 - (1 : Int)))) b392).map eplan_Item))] [0, 1, 2, 3, 8, 9] [0] ⟨[(0, .own 0), (1, iV .i64 a1), (2, iV .i64 a2), (3, .im (.sc (.func (.func 50) #[] #[]))), (8, iV .i64 x318), (9, iV .i64 x359)], [(0, some (.row 4 89 (((x358.set (Int.toNat (x359)) b389).set (Int.toNat (IntKind.i64.wrap (x359 - (1 : Int)))) b392).map eplan_Item)))], 1⟩ [0 ≤ (IntKind.i64.wrap (x359 - (1 : Int))), IntKind.i64.wrap (x359 - (1 : Int)) < (((x358.map eplan_Item).length : Nat) : Int), (x358.map eplan_Item)[(Int.toNat (IntKind.i64.wrap (x359 - (1 : Int))))]? = some (eplan_Item b389), 0 ≤ x359, x359 < (((x358.map eplan_Item).length : Nat) : Int), (x358.map eplan_Item)[(Int.toNat (x359))]? = some (eplan_Item b392), 0 ≤ x359, x359 < (((x358.map eplan_Item).length : Nat) : Int), (x358.map eplan_Item)[(Int.toNat (x359))]? = some (eplan_Item b392), (x358.set (Int.toNat (x359)) b389).map eplan_Item = (x358.map eplan_Item).set (Int.toNat (x359)) (splice (eplan_Item b392) 0 [iI .i64 b389.f0, iI .i64 b389.f1.f0, iI .i64 b389.f1.f1, iI .i64 b389.f1.f2]), 0 ≤ (IntKind.i64.wrap (x359 - (1 : Int))), IntKind.i64.wrap (x359 - (1 : Int)) < ((((x358.set (Int.toNat (x359)) b389).map eplan_Item).length : Nat) : Int), ((x358.set (Int.toNat (x359)) b389).map eplan_Item)[(Int.toNat (IntKind.i64.wrap (x359 - (1 : Int))))]? = some (eplan_Item b395), ((x358.set (Int.toNat (x359)) b389).set (Int.toNat (IntKind.i64.wrap (x359 - (1 : Int)))) b392).map eplan_Item = ((x358.set (Int.toNat (x359)) b389).map eplan_Item).set (Int.toNat (IntKind.i64.wrap (x359 - (1 : Int)))) (splice (eplan_Item b395) 0 [iI .i64 b392.f0, iI .i64 b392.f1.f0, iI .i64 b392.f1.f1, iI .i64 b392.f1.f2])] (by kernel_rfl) ⟨by exact p390, by exact el_lt eplan_Item p390 q391, by exact el_map eplan_Item q391, by exact p393, by exact el_lt eplan_Item p393 q394, by exact el_map eplan_Item q394, by exact p393, by exact el_lt eplan_Item p393 q394, by exact el_map eplan_Item q394, by exact set1 _ _ _ _, by exact p396, by exact el_lt eplan_Item p396 q397, by exact el_map eplan_Item q397, by exact set1 _ _ _ _, trivial⟩ ?_
            refine reg hP hn hm [] [0, 1, 2, 3, 8, 9] [0] ⟨[(0, .own 0), (1, iV .i64 a1), (2, iV .i64 a2), (3, .im (.sc (.func (.func 50) #[] #[]))), (8, iV .i64 x318), (9, iV .i64 (IntKind.i64.wrap (x359 - (1 : Int))))], [(0, some (.row 4 89 (((x358.set (Int.toNat (x359)) b389).set (Int.toNat (IntKind.i64.wrap (x359 - (1 : Int)))) b392).map eplan_Item)))], 1⟩ [] (by kernel_rfl) trivial ?_
            exact LWp.conv (inv := [(0, 0)]) (vk := []) (e0 := []) (t := ⟨[(0, .own 0), (1, iV .i64 a1), (2, iV .i64 a2), (3, .im (.sc (.func (.func 50) #[] #[]))), (8, iV .i64 x318), (9, iV .i64 (IntKind.i64.wrap (x359 - (1 : Int))))], [(0, some (.row 4 89 (((x358.set (Int.toNat (x359)) b389).set (Int.toNat (IntKind.i64.wrap (x359 - (1 : Int)))) b392).map eplan_Item)))], 1⟩) (by kernel_rfl) (ih _ _ _ H)
          · replace H := (ifF c379).symm.trans H
            refine AWp.exit ?_
            obtain rfl := Option.some.inj H
            exact Exists.intro _ (And.intro (fun _ _ h => h.conv (inv := [(0, 0)]) (vk := []) (e0 := []) (t := ⟨[(0, .own 0), (1, iV .i64 a1), (2, iV .i64 a2), (3, .im (.sc (.func (.func 50) #[] #[]))), (8, iV .i64 x318)], [(0, some (.row 4 89 (x358.map eplan_Item)))], 1⟩) (by kernel_rfl)) (And.intro rfl rfl))
      · obtain ⟨x398, rfl⟩ : ∃ z, z = o402 := ⟨_, rfl⟩
        rintro e s ⟨rfl, rfl⟩
        refine reg hP hn hm [] [0, 1, 2, 3, 8] [0] ⟨[(0, .own 0), (1, iV .i64 a1), (2, iV .i64 a2), (3, .im (.sc (.func (.func 50) #[] #[]))), (8, iV .i64 (IntKind.i64.wrap (x318 + (1 : Int))))], [(0, some (.row 4 89 (x398.map eplan_Item)))], 1⟩ [] (by kernel_rfl) trivial ?_
        exact LWp.conv (inv := [(0, 0)]) (vk := []) (e0 := []) (t := ⟨[(0, .own 0), (1, iV .i64 a1), (2, iV .i64 a2), (3, .im (.sc (.func (.func 50) #[] #[]))), (8, iV .i64 (IntKind.i64.wrap (x318 + (1 : Int))))], [(0, some (.row 4 89 (x398.map eplan_Item)))], 1⟩) (by kernel_rfl) (ih _ _ _ H)
    · replace H := (ifF c319).symm.trans H
      refine AWp.exit ?_
      obtain rfl := Option.some.inj H
      exact Exists.intro _ (And.intro (fun _ _ h => h.conv (inv := [(0, 0)]) (vk := []) (e0 := []) (t := ⟨[], [(0, some (.row 4 89 (x317.map eplan_Item)))], 1⟩) (by kernel_rfl)) (And.intro rfl rfl))
  · obtain ⟨x399, rfl⟩ : ∃ z, z = o400 := ⟨_, rfl⟩
    rintro e s ⟨rfl, rfl⟩
    obtain rfl := Option.some.inj H
    exact Exists.intro ⟨[], [(0, some (.row 4 89 (x399.map eplan_Item)))], 1⟩ (And.intro (fun _ _ h => h.conv (inv := [(0, 0)]) (vk := []) (e0 := []) (t := ⟨[], [(0, some (.row 4 89 (x399.map eplan_Item)))], 1⟩) (by kernel_rfl)) (And.intro (.inr rfl) (And.intro rfl (And.intro (by kernel_rfl) (by kernel_rfl)))))
def f_slices_siftDownCmpFunc_plan_Item_plan_sorted_1.l0 (a2 : Int) (a3 : Int) (x457 : List Tplan_Item) (x458 : Int) : Option ((List Tplan_Item) ⊕ (List Tplan_Item)) := if (decide ((IntKind.i64.wrap ((IntKind.i64.wrap ((2 : Int) * x458)) + (1 : Int))) ≥ a2)) = true then (some (.inr x457)) else (((if (decide ((IntKind.i64.wrap ((IntKind.i64.wrap ((IntKind.i64.wrap ((2 : Int) * x458)) + (1 : Int))) + (1 : Int))) < a2)) = true then ((at? x457 (IntKind.i64.wrap (a3 + (IntKind.i64.wrap ((IntKind.i64.wrap ((2 : Int) * x458)) + (1 : Int)))))) >>= fun b470 => (at? x457 (IntKind.i64.wrap ((IntKind.i64.wrap (a3 + (IntKind.i64.wrap ((IntKind.i64.wrap ((2 : Int) * x458)) + (1 : Int))))) + (1 : Int)))) >>= fun b473 => (f_plan_sorted_1.f b470 b473) >>= fun t476 => some (decide (t476 < (0 : Int)))) else (some false)) : Option (Bool)) >>= fun x478 => ((if x478 = true then (some (IntKind.i64.wrap ((IntKind.i64.wrap ((IntKind.i64.wrap ((2 : Int) * x458)) + (1 : Int))) + (1 : Int)))) else (some (IntKind.i64.wrap ((IntKind.i64.wrap ((2 : Int) * x458)) + (1 : Int))))) : Option (Int)) >>= fun x480 => (at? x457 (IntKind.i64.wrap (a3 + x458))) >>= fun b489 => (at? x457 (IntKind.i64.wrap (a3 + x480))) >>= fun b492 => (f_plan_sorted_1.f b489 b492) >>= fun t495 => if (!(decide (t495 < (0 : Int)))) = true then (some (.inl x457)) else ((at? (x457.set (Int.toNat (IntKind.i64.wrap (a3 + x458))) b492) (IntKind.i64.wrap (a3 + x480))) >>= fun b501 => f_slices_siftDownCmpFunc_plan_Item_plan_sorted_1.l0 a2 a3 ((x457.set (Int.toNat (IntKind.i64.wrap (a3 + x458))) b492).set (Int.toNat (IntKind.i64.wrap (a3 + x480))) b489) x480))
partial_fixpoint
def f_slices_siftDownCmpFunc_plan_Item_plan_sorted_1.f (a0 : List Tplan_Item) (a1 : Int) (a2 : Int) (a3 : Int) : Option (List Tplan_Item) := (f_slices_siftDownCmpFunc_plan_Item_plan_sorted_1.l0 a2 a3 a0 a1) >>= fun oo => match oo with | .inl rr => (some rr) | .inr x504 => (some x504)
theorem f_slices_siftDownCmpFunc_plan_Item_plan_sorted_1.ok (a0 : List Tplan_Item) (a1 : Int) (a2 : Int) (a3 : Int) (r : List Tplan_Item) (H : f_slices_siftDownCmpFunc_plan_Item_plan_sorted_1.f a0 a1 a2 a3 = some r) : Pv.Fn Try.prog 124 [.own 0, iV .i64 a1, iV .i64 a2, iV .i64 a3, .im (.sc (.func (.func 50) #[] #[]))] [(0, some (.row 4 89 (a0.map eplan_Item)))] 1 (fun x o => x = .tup [] ∧ o = [(0, some (.row 4 89 (r.map eplan_Item)))]) := by
  unfold f_slices_siftDownCmpFunc_plan_Item_plan_sorted_1.f at H
  refine Fn.bodyK [0] Try.func124 rfl rfl (fun Γ hP hn => ?_)
  have hm : Try.prog.follows .mixedOrders = true := by kernel_rfl
  replace hn : Γ.n = 82 := hn
  refine AWp.seq ?_
  refine reg hP hn hm [] [0, 2, 3, 4, 10] [0] ⟨[(0, .own 0), (2, iV .i64 a2), (3, iV .i64 a3), (4, .im (.sc (.func (.func 50) #[] #[]))), (10, iV .i64 a1)], [(0, some (.row 4 89 (a0.map eplan_Item)))], 1⟩ [] (by kernel_rfl) trivial ?_
  refine AWp.block ?_
  obtain ⟨o505, e506, H⟩ := bind_of H
  refine AWp.loop (LWp.conv (inv := [(0, 0)]) (vk := []) (e0 := []) (t := ⟨[(0, .own 0), (2, iV .i64 a2), (3, iV .i64 a3), (4, .im (.sc (.func (.func 50) #[] #[]))), (10, iV .i64 a1)], [(0, some (.row 4 89 (a0.map eplan_Item)))], 1⟩) (by kernel_rfl) ?_)
  refine LWp.mono (Q := fun e s => (match (generalizing := false) o505 with | .inl rr => e = .ret ∧ s.floor = 1 ∧ resOf Try.prog Try.f124 s = some (.tup []) ∧ ([(0, s.obj 0)] : List (Nat × Option MObj)) = [(0, some (.row 4 89 (rr.map eplan_Item)))] | .inr x504 => e = .exit 0 ∧ s = ⟨[], [(0, some (.row 4 89 (x504.map eplan_Item)))], 1⟩)) (LWp.cv (withBody (fun body hbody => ?_))) ?_
  · refine f_slices_siftDownCmpFunc_plan_Item_plan_sorted_1.l0.partial_correctness a2 a3 (motive := fun x457 x458 o505 => LWp Γ body (fun e s => ∃ t, Cv Γ s t ∧ (match (generalizing := false) o505 with | .inl rr => e = .ret ∧ t.floor = 1 ∧ resOf Try.prog Try.f124 t = some (.tup []) ∧ ([(0, t.obj 0)] : List (Nat × Option MObj)) = [(0, some (.row 4 89 (rr.map eplan_Item)))] | .inr x504 => e = .exit 0 ∧ t = ⟨[], [(0, some (.row 4 89 (x504.map eplan_Item)))], 1⟩)) ⟨[(0, .own 0), (2, iV .i64 a2), (3, iV .i64 a3), (4, .im (.sc (.func (.func 50) #[] #[]))), (10, iV .i64 x458)], [(0, some (.row 4 89 (x457.map eplan_Item)))], 1⟩) ?_ _ _ _ e506
    clear H e506 o505; intro self ih x457 x458 o505 H
    subst hbody
    refine LWp.round ?_
    refine AWp.block ?_
    refine AWp.seq ?_
    refine reg hP hn hm [] [0, 2, 3, 4, 10, 11] [0] ⟨[(0, .own 0), (2, iV .i64 a2), (3, iV .i64 a3), (4, .im (.sc (.func (.func 50) #[] #[]))), (10, iV .i64 x458), (11, iV .i64 (IntKind.i64.wrap ((IntKind.i64.wrap ((2 : Int) * x458)) + (1 : Int))))], [(0, some (.row 4 89 (x457.map eplan_Item)))], 1⟩ [] (by kernel_rfl) trivial ?_
    refine AWp.seq ?_
    refine AWp.seq ?_
    refine reg hP hn hm [] [0, 2, 3, 4, 10, 11, 18] [0] ⟨[(0, .own 0), (2, iV .i64 a2), (3, iV .i64 a3), (4, .im (.sc (.func (.func 50) #[] #[]))), (10, iV .i64 x458), (11, iV .i64 (IntKind.i64.wrap ((IntKind.i64.wrap ((2 : Int) * x458)) + (1 : Int)))), (18, bV (decide ((IntKind.i64.wrap ((IntKind.i64.wrap ((2 : Int) * x458)) + (1 : Int))) ≥ a2)))], [(0, some (.row 4 89 (x457.map eplan_Item)))], 1⟩ [] (by kernel_rfl) trivial ?_
    refine AWp.cond (decide ((IntKind.i64.wrap ((IntKind.i64.wrap ((2 : Int) * x458)) + (1 : Int))) ≥ a2)) rfl (fun c459 => ?_) (fun c459 => ?_)
    · replace H := (ifT c459).symm.trans H
      refine AWp.exit ?_
      obtain rfl := Option.some.inj H
      exact Exists.intro _ (And.intro (fun _ _ h => h.conv (inv := [(0, 0)]) (vk := []) (e0 := []) (t := ⟨[], [(0, some (.row 4 89 (x457.map eplan_Item)))], 1⟩) (by kernel_rfl)) (And.intro rfl rfl))
    · replace H := (ifF c459).symm.trans H
      refine AWp.skip ?_
      refine AWp.seq ?_
      refine AWp.seq ?_
      obtain ⟨o507, e508, H⟩ := bind_of H
      refine AWp.mono (Q := fun e s => (match (generalizing := false) o507 with | x478 => e = .normal ∧ s = ⟨[(0, .own 0), (2, iV .i64 a2), (3, iV .i64 a3), (4, .im (.sc (.func (.func 50) #[] #[]))), (10, iV .i64 x458), (11, iV .i64 (IntKind.i64.wrap ((IntKind.i64.wrap ((2 : Int) * x458)) + (1 : Int)))), (40, bV x478)], [(0, some (.row 4 89 (x457.map eplan_Item)))], 1⟩)) (AWp.cv ?_) ?_
      · replace H := e508; clear e508
        rcases Bool.eq_false_or_eq_true (decide ((IntKind.i64.wrap ((IntKind.i64.wrap ((IntKind.i64.wrap ((2 : Int) * x458)) + (1 : Int))) + (1 : Int))) < a2)) with c469 | c469
        · replace H := (ifT c469).symm.trans H
          obtain ⟨b470, p471, q472, H⟩ := at_of H
          obtain ⟨b473, p474, q475, H⟩ := at_of H
          obtain ⟨t476, e477, H⟩ := bind_of H
          refine reg hP hn hm [(4, .b true), (11, .c (eplan_Item b470)), (18, .c (eplan_Item b473)), (19, .call [] [] [] [] 0 (iV .i64 t476) [])] [0, 2, 3, 4, 10, 11, 24, 25, 26, 27, 28, 29, 30, 31, 32, 33, 34, 35, 36, 37, 38, 39, 40] [0] ⟨[(0, .own 0), (2, iV .i64 a2), (3, iV .i64 a3), (4, .im (.sc (.func (.func 50) #[] #[]))), (10, iV .i64 x458), (11, iV .i64 (IntKind.i64.wrap ((IntKind.i64.wrap ((2 : Int) * x458)) + (1 : Int)))), (24, .im (.sc (.func (.func 50) #[] #[]))), (25, .own 0), (26, iV .i64 a3), (27, iV .i64 (IntKind.i64.wrap ((IntKind.i64.wrap ((2 : Int) * x458)) + (1 : Int)))), (28, iV .i64 (IntKind.i64.wrap (a3 + (IntKind.i64.wrap ((IntKind.i64.wrap ((2 : Int) * x458)) + (1 : Int)))))), (29, .ptr 0 (Int.toNat (IntKind.i64.wrap (a3 + (IntKind.i64.wrap ((IntKind.i64.wrap ((2 : Int) * x458)) + (1 : Int)))))) 0), (30, .agg (apluvialref17_Item ⟨b470.f0, b470.f1.f0, b470.f1.f1, b470.f1.f2⟩)), (31, .own 0), (32, iV .i64 a3), (33, iV .i64 (IntKind.i64.wrap ((IntKind.i64.wrap ((2 : Int) * x458)) + (1 : Int)))), (34, iV .i64 (IntKind.i64.wrap (a3 + (IntKind.i64.wrap ((IntKind.i64.wrap ((2 : Int) * x458)) + (1 : Int)))))), (35, iV .i64 (IntKind.i64.wrap ((IntKind.i64.wrap (a3 + (IntKind.i64.wrap ((IntKind.i64.wrap ((2 : Int) * x458)) + (1 : Int))))) + (1 : Int)))), (36, .ptr 0 (Int.toNat (IntKind.i64.wrap ((IntKind.i64.wrap (a3 + (IntKind.i64.wrap ((IntKind.i64.wrap ((2 : Int) * x458)) + (1 : Int))))) + (1 : Int)))) 0), (37, .agg (apluvialref17_Item ⟨b473.f0, b473.f1.f0, b473.f1.f1, b473.f1.f2⟩)), (38, iV .i64 t476), (39, bV (decide (t476 < (0 : Int)))), (40, bV (decide (t476 < (0 : Int))))], [(0, some (.row 4 89 (x457.map eplan_Item)))], 1⟩ [(decide ((IntKind.i64.wrap ((IntKind.i64.wrap ((IntKind.i64.wrap ((2 : Int) * x458)) + (1 : Int))) + (1 : Int))) < a2)) = true, 0 ≤ (IntKind.i64.wrap (a3 + (IntKind.i64.wrap ((IntKind.i64.wrap ((2 : Int) * x458)) + (1 : Int))))), IntKind.i64.wrap (a3 + (IntKind.i64.wrap ((IntKind.i64.wrap ((2 : Int) * x458)) + (1 : Int)))) < (((x457.map eplan_Item).length : Nat) : Int), (x457.map eplan_Item)[(Int.toNat (IntKind.i64.wrap (a3 + (IntKind.i64.wrap ((IntKind.i64.wrap ((2 : Int) * x458)) + (1 : Int))))))]? = some (eplan_Item b470), 0 ≤ (IntKind.i64.wrap ((IntKind.i64.wrap (a3 + (IntKind.i64.wrap ((IntKind.i64.wrap ((2 : Int) * x458)) + (1 : Int))))) + (1 : Int))), IntKind.i64.wrap ((IntKind.i64.wrap (a3 + (IntKind.i64.wrap ((IntKind.i64.wrap ((2 : Int) * x458)) + (1 : Int))))) + (1 : Int)) < (((x457.map eplan_Item).length : Nat) : Int), (x457.map eplan_Item)[(Int.toNat (IntKind.i64.wrap ((IntKind.i64.wrap (a3 + (IntKind.i64.wrap ((IntKind.i64.wrap ((2 : Int) * x458)) + (1 : Int))))) + (1 : Int))))]? = some (eplan_Item b473), Enters Try.prog 50, Pv.Fn Try.prog 50 [.agg (apluvialref17_Item ⟨b470.f0, b470.f1.f0, b470.f1.f1, b470.f1.f2⟩), .agg (apluvialref17_Item ⟨b473.f0, b473.f1.f0, b473.f1.f1, b473.f1.f2⟩)] [] 0 (fun r o => r = iV .i64 t476 ∧ o = [])] (by kernel_rfl) ⟨by exact c469, by exact p471, by exact el_lt eplan_Item p471 q472, by exact el_map eplan_Item q472, by exact p474, by exact el_lt eplan_Item p474 q475, by exact el_map eplan_Item q475, by exact Try.call50, by exact f_plan_sorted_1.ok b470 b473 t476 e477, trivial⟩ ?_
          obtain rfl := Option.some.inj H
          exact Exists.intro _ (And.intro (fun _ _ h => h.conv (inv := [(0, 0)]) (vk := []) (e0 := []) (t := ⟨[(0, .own 0), (2, iV .i64 a2), (3, iV .i64 a3), (4, .im (.sc (.func (.func 50) #[] #[]))), (10, iV .i64 x458), (11, iV .i64 (IntKind.i64.wrap ((IntKind.i64.wrap ((2 : Int) * x458)) + (1 : Int)))), (40, bV (decide (t476 < (0 : Int))))], [(0, some (.row 4 89 (x457.map eplan_Item)))], 1⟩) (by kernel_rfl)) (And.intro rfl rfl))
        · replace H := (ifF c469).symm.trans H
          refine reg hP hn hm [(4, .b false)] [0, 2, 3, 4, 10, 11, 40] [0] ⟨[(0, .own 0), (2, iV .i64 a2), (3, iV .i64 a3), (4, .im (.sc (.func (.func 50) #[] #[]))), (10, iV .i64 x458), (11, iV .i64 (IntKind.i64.wrap ((IntKind.i64.wrap ((2 : Int) * x458)) + (1 : Int)))), (40, bV false)], [(0, some (.row 4 89 (x457.map eplan_Item)))], 1⟩ [(decide ((IntKind.i64.wrap ((IntKind.i64.wrap ((IntKind.i64.wrap ((2 : Int) * x458)) + (1 : Int))) + (1 : Int))) < a2)) = false] (by kernel_rfl) ⟨by exact c469, trivial⟩ ?_
          obtain rfl := Option.some.inj H
          exact Exists.intro _ (And.intro (fun _ _ h => h.conv (inv := [(0, 0)]) (vk := []) (e0 := []) (t := ⟨[(0, .own 0), (2, iV .i64 a2), (3, iV .i64 a3), (4, .im (.sc (.func (.func 50) #[] #[]))), (10, iV .i64 x458), (11, iV .i64 (IntKind.i64.wrap ((IntKind.i64.wrap ((2 : Int) * x458)) + (1 : Int)))), (40, bV false)], [(0, some (.row 4 89 (x457.map eplan_Item)))], 1⟩) (by kernel_rfl)) (And.intro rfl rfl))
      · obtain ⟨x478, rfl⟩ : ∃ z, z = o507 := ⟨_, rfl⟩
        rintro e s ⟨rfl, rfl⟩
        obtain ⟨o509, e510, H⟩ := bind_of H
        refine AWp.mono (Q := fun e s => (match (generalizing := false) o509 with | x480 => e = .normal ∧ s = ⟨[(0, .own 0), (2, iV .i64 a2), (3, iV .i64 a3), (4, .im (.sc (.func (.func 50) #[] #[]))), (10, iV .i64 x458), (11, iV .i64 x480)], [(0, some (.row 4 89 (x457.map eplan_Item)))], 1⟩)) (AWp.cv ?_) ?_
        · replace H := e510; clear e510
          refine AWp.cond x478 rfl (fun c479 => ?_) (fun c479 => ?_)
          · replace H := (ifT c479).symm.trans H
            refine reg hP hn hm [] [0, 2, 3, 4, 10, 11] [0] ⟨[(0, .own 0), (2, iV .i64 a2), (3, iV .i64 a3), (4, .im (.sc (.func (.func 50) #[] #[]))), (10, iV .i64 x458), (11, iV .i64 (IntKind.i64.wrap ((IntKind.i64.wrap ((IntKind.i64.wrap ((2 : Int) * x458)) + (1 : Int))) + (1 : Int))))], [(0, some (.row 4 89 (x457.map eplan_Item)))], 1⟩ [] (by kernel_rfl) trivial ?_
            obtain rfl := Option.some.inj H
            exact Exists.intro _ (And.intro (fun _ _ h => h.conv (inv := [(0, 0)]) (vk := []) (e0 := []) (t := ⟨[(0, .own 0), (2, iV .i64 a2), (3, iV .i64 a3), (4, .im (.sc (.func (.func 50) #[] #[]))), (10, iV .i64 x458), (11, iV .i64 (IntKind.i64.wrap ((IntKind.i64.wrap ((IntKind.i64.wrap ((2 : Int) * x458)) + (1 : Int))) + (1 : Int))))], [(0, some (.row 4 89 (x457.map eplan_Item)))], 1⟩) (by kernel_rfl)) (And.intro rfl rfl))
          · replace H := (ifF c479).symm.trans H
            refine AWp.skip ?_
            obtain rfl := Option.some.inj H
            exact Exists.intro _ (And.intro (fun _ _ h => h.conv (inv := [(0, 0)]) (vk := []) (e0 := []) (t := ⟨[(0, .own 0), (2, iV .i64 a2), (3, iV .i64 a3), (4, .im (.sc (.func (.func 50) #[] #[]))), (10, iV .i64 x458), (11, iV .i64 (IntKind.i64.wrap ((IntKind.i64.wrap ((2 : Int) * x458)) + (1 : Int))))], [(0, some (.row 4 89 (x457.map eplan_Item)))], 1⟩) (by kernel_rfl)) (And.intro rfl rfl))
        · obtain ⟨x480, rfl⟩ : ∃ z, z = o509 := ⟨_, rfl⟩
          rintro e s ⟨rfl, rfl⟩
          refine AWp.seq ?_
          refine AWp.seq ?_
          obtain ⟨b489, p490, q491, H⟩ := at_of H
          obtain ⟨b492, p493, q494, H⟩ := at_of H
          obtain ⟨t495, e496, H⟩ := bind_of H
          refine reg hP hn hm [(6, .c (eplan_Item b489)), (12, .c (eplan_Item b492)), (13, .call [] [] [] [] 0 (iV .i64 t495) [])] [0, 2, 3, 4, 10, 11, 58] [0] ⟨[(0, .own 0), (2, iV .i64 a2), (3, iV .i64 a3), (4, .im (.sc (.func (.func 50) #[] #[]))), (10, iV .i64 x458), (11, iV .i64 x480), (58, bV (!(decide (t495 < (0 : Int)))))], [(0, some (.row 4 89 (x457.map eplan_Item)))], 1⟩ [0 ≤ (IntKind.i64.wrap (a3 + x458)), IntKind.i64.wrap (a3 + x458) < (((x457.map eplan_Item).length : Nat) : Int), (x457.map eplan_Item)[(Int.toNat (IntKind.i64.wrap (a3 + x458)))]? = some (eplan_Item b489), 0 ≤ (IntKind.i64.wrap (a3 + x480)), IntKind.i64.wrap (a3 + x480) < (((x457.map eplan_Item).length : Nat) : Int), (x457.map eplan_Item)[(Int.toNat (IntKind.i64.wrap (a3 + x480)))]? = some (eplan_Item b492), Enters Try.prog 50, Pv.Fn Try.prog 50 [.agg (apluvialref17_Item ⟨b489.f0, b489.f1.f0, b489.f1.f1, b489.f1.f2⟩), .agg (apluvialref17_Item ⟨b492.f0, b492.f1.f0, b492.f1.f1, b492.f1.f2⟩)] [] 0 (fun r o => r = iV .i64 t495 ∧ o = [])] (by kernel_rfl) ⟨by exact p490, by exact el_lt eplan_Item p490 q491, by exact el_map eplan_Item q491, by exact p493, by exact el_lt eplan_Item p493 q494, by exact el_map eplan_Item q494, by exact Try.call50, by exact f_plan_sorted_1.ok b489 b492 t495 e496, trivial⟩ ?_
          refine AWp.cond (!(decide (t495 < (0 : Int)))) rfl (fun c497 => ?_) (fun c497 => ?_)
          · replace H := (ifT c497).symm.trans H
            refine AWp.conv (inv := [(0, 0)]) (vk := []) (e0 := []) (t := ⟨[], [(0, some (.row 4 89 (x457.map eplan_Item)))], 1⟩) (by kernel_rfl) ?_
            refine AWp.ret ?_
            obtain rfl := Option.some.inj H
            exact Exists.intro _ (And.intro (fun _ _ h => h) (And.intro rfl (And.intro rfl (And.intro (by kernel_rfl) (by kernel_rfl)))))
          · replace H := (ifF c497).symm.trans H
            refine AWp.skip ?_
            refine AWp.seq ?_
            obtain ⟨b501, p502, q503, H⟩ := at_of H
            refine reg hP hn hm [(13, .c (eplan_Item b492)), (19, .c (eplan_Item b489)), (21, .put (eplan_Item b489) ((x457.set (Int.toNat (IntKind.i64.wrap (a3 + x458))) b492).map eplan_Item)), (23, .put (eplan_Item b501) (((x457.set (Int.toNat (IntKind.i64.wrap (a3 + x458))) b492).set (Int.toNat (IntKind.i64.wrap (a3 + x480))) b489).map eplan_Item))] [0, 2, 3, 4, 11] [0] ⟨[(0, .own 0), (2, iV .i64 a2), (3, iV .i64 a3), (4, .im (.sc (.func (.func 50) #[] #[]))), (11, iV .i64 x480)], [(0, some (.row 4 89 (((x457.set (Int.toNat (IntKind.i64.wrap (a3 + x458))) b492).set (Int.toNat (IntKind.i64.wrap (a3 + x480))) b489).map eplan_Item)))], 1⟩ [0 ≤ (IntKind.i64.wrap (a3 + x480)), IntKind.i64.wrap (a3 + x480) < (((x457.map eplan_Item).length : Nat) : Int), (x457.map eplan_Item)[(Int.toNat (IntKind.i64.wrap (a3 + x480)))]? = some (eplan_Item b492), 0 ≤ (IntKind.i64.wrap (a3 + x458)), IntKind.i64.wrap (a3 + x458) < (((x457.map eplan_Item).length : Nat) : Int), (x457.map eplan_Item)[(Int.toNat (IntKind.i64.wrap (a3 + x458)))]? = some (eplan_Item b489), 0 ≤ (IntKind.i64.wrap (a3 + x458)), IntKind.i64.wrap (a3 + x458) < (((x457.map eplan_Item).length : Nat) : Int), (x457.map eplan_Item)[(Int.toNat (IntKind.i64.wrap (a3 + x458)))]? = some (eplan_Item b489), (x457.set (Int.toNat (IntKind.i64.wrap (a3 + x458))) b492).map eplan_Item = (x457.map eplan_Item).set (Int.toNat (IntKind.i64.wrap (a3 + x458))) (splice (eplan_Item b489) 0 [iI .i64 b492.f0, iI .i64 b492.f1.f0, iI .i64 b492.f1.f1, iI .i64 b492.f1.f2]), 0 ≤ (IntKind.i64.wrap (a3 + x480)), IntKind.i64.wrap (a3 + x480) < ((((x457.set (Int.toNat (IntKind.i64.wrap (a3 + x458))) b492).map eplan_Item).length : Nat) : Int), ((x457.set (Int.toNat (IntKind.i64.wrap (a3 + x458))) b492).map eplan_Item)[(Int.toNat (IntKind.i64.wrap (a3 + x480)))]? = some (eplan_Item b501), ((x457.set (Int.toNat (IntKind.i64.wrap (a3 + x458))) b492).set (Int.toNat (IntKind.i64.wrap (a3 + x480))) b489).map eplan_Item = ((x457.set (Int.toNat (IntKind.i64.wrap (a3 + x458))) b492).map eplan_Item).set (Int.toNat (IntKind.i64.wrap (a3 + x480))) (splice (eplan_Item b501) 0 [iI .i64 b489.f0, iI .i64 b489.f1.f0, iI .i64 b489.f1.f1, iI .i64 b489.f1.f2])] (by kernel_rfl) ⟨by exact p493, by exact el_lt eplan_Item p493 q494, by exact el_map eplan_Item q494, by exact p490, by exact el_lt eplan_Item p490 q491, by exact el_map eplan_Item q491, by exact p490, by exact el_lt eplan_Item p490 q491, by exact el_map eplan_Item q491, by exact set1 _ _ _ _, by exact p502, by exact el_lt eplan_Item p502 q503, by exact el_map eplan_Item q503, by exact set1 _ _ _ _, trivial⟩ ?_
            refine reg hP hn hm [] [0, 2, 3, 4, 10] [0] ⟨[(0, .own 0), (2, iV .i64 a2), (3, iV .i64 a3), (4, .im (.sc (.func (.func 50) #[] #[]))), (10, iV .i64 x480)], [(0, some (.row 4 89 (((x457.set (Int.toNat (IntKind.i64.wrap (a3 + x458))) b492).set (Int.toNat (IntKind.i64.wrap (a3 + x480))) b489).map eplan_Item)))], 1⟩ [] (by kernel_rfl) trivial ?_
            exact LWp.conv (inv := [(0, 0)]) (vk := []) (e0 := []) (t := ⟨[(0, .own 0), (2, iV .i64 a2), (3, iV .i64 a3), (4, .im (.sc (.func (.func 50) #[] #[]))), (10, iV .i64 x480)], [(0, some (.row 4 89 (((x457.set (Int.toNat (IntKind.i64.wrap (a3 + x458))) b492).set (Int.toNat (IntKind.i64.wrap (a3 + x480))) b489).map eplan_Item)))], 1⟩) (by kernel_rfl) (ih _ _ _ H)
  · rcases o505 with rr | x504
    · skip
      rintro e s ⟨rfl, hfl, hres⟩
      obtain rfl := Option.some.inj H
      exact Exists.intro _ (And.intro (fun _ _ h => h) (And.intro (.inl rfl) (And.intro hfl hres)))
    · skip
      rintro e s ⟨rfl, rfl⟩
      obtain rfl := Option.some.inj H
      exact Exists.intro ⟨[], [(0, some (.row 4 89 (x504.map eplan_Item)))], 1⟩ (And.intro (fun _ _ h => h.conv (inv := [(0, 0)]) (vk := []) (e0 := []) (t := ⟨[], [(0, some (.row 4 89 (x504.map eplan_Item)))], 1⟩) (by kernel_rfl)) (And.intro (.inr rfl) (And.intro rfl (And.intro (by kernel_rfl) (by kernel_rfl)))))
def f_slices_heapSortCmpFunc_plan_Item_plan_sorted_1.l0 (a1 : Int) (a2 : Int) (x515 : List Tplan_Item) (x516 : Int) : Option (List Tplan_Item) := if (decide (x516 ≥ (0 : Int))) = true then ((f_slices_siftDownCmpFunc_plan_Item_plan_sorted_1.f x515 x516 (IntKind.i64.wrap (a2 - a1)) a1) >>= fun t520 => f_slices_heapSortCmpFunc_plan_Item_plan_sorted_1.l0 a1 a2 t520 (IntKind.i64.wrap (x516 - (1 : Int)))) else (some x515)
partial_fixpoint
def f_slices_heapSortCmpFunc_plan_Item_plan_sorted_1.l1 (a1 : Int) (x546 : List Tplan_Item) (x547 : Int) : Option (List Tplan_Item) := if (decide (x547 ≥ (0 : Int))) = true then ((at? x546 (IntKind.i64.wrap (a1 + x547))) >>= fun b558 => (at? x546 a1) >>= fun b561 => (at? (x546.set (Int.toNat (a1)) b558) (IntKind.i64.wrap (a1 + x547))) >>= fun b564 => (f_slices_siftDownCmpFunc_plan_Item_plan_sorted_1.f ((x546.set (Int.toNat (a1)) b558).set (Int.toNat (IntKind.i64.wrap (a1 + x547))) b561) 0 x547 a1) >>= fun t569 => f_slices_heapSortCmpFunc_plan_Item_plan_sorted_1.l1 a1 t569 (IntKind.i64.wrap (x547 - (1 : Int)))) else (some x546)
partial_fixpoint
def f_slices_heapSortCmpFunc_plan_Item_plan_sorted_1.f (a0 : List Tplan_Item) (a1 : Int) (a2 : Int) : Option (List Tplan_Item) := (f_slices_heapSortCmpFunc_plan_Item_plan_sorted_1.l0 a1 a2 a0 (IntKind.i64.wrap (Int.tdiv (IntKind.i64.wrap ((IntKind.i64.wrap (a2 - a1)) - (1 : Int))) (2 : Int)))) >>= fun x522 => (f_slices_heapSortCmpFunc_plan_Item_plan_sorted_1.l1 a1 x522 (IntKind.i64.wrap ((IntKind.i64.wrap (a2 - a1)) - (1 : Int)))) >>= fun x571 => some x571
theorem f_slices_heapSortCmpFunc_plan_Item_plan_sorted_1.ok (a0 : List Tplan_Item) (a1 : Int) (a2 : Int) (r : List Tplan_Item) (H : f_slices_heapSortCmpFunc_plan_Item_plan_sorted_1.f a0 a1 a2 = some r) : Pv.Fn Try.prog 105 [.own 0, iV .i64 a1, iV .i64 a2, .im (.sc (.func (.func 50) #[] #[]))] [(0, some (.row 4 89 (a0.map eplan_Item)))] 1 (fun x o => x = .tup [] ∧ o = [(0, some (.row 4 89 (r.map eplan_Item)))]) := by
  unfold f_slices_heapSortCmpFunc_plan_Item_plan_sorted_1.f at H
  refine Fn.bodyK [0] Try.func105 rfl rfl (fun Γ hP hn => ?_)
  have hm : Try.prog.follows .mixedOrders = true := by kernel_rfl
  replace hn : Γ.n = 60 := hn
  refine AWp.seq ?_
  refine reg hP hn hm [] [0, 1, 2, 3, 8] [0] ⟨[(0, .own 0), (1, iV .i64 a1), (2, iV .i64 a2), (3, .im (.sc (.func (.func 50) #[] #[]))), (8, iV .i64 a1)], [(0, some (.row 4 89 (a0.map eplan_Item)))], 1⟩ [] (by kernel_rfl) trivial ?_
  refine AWp.seq ?_
  refine reg hP hn hm [] [0, 1, 2, 3, 8, 9] [0] ⟨[(0, .own 0), (1, iV .i64 a1), (2, iV .i64 a2), (3, .im (.sc (.func (.func 50) #[] #[]))), (8, iV .i64 a1), (9, iV .i64 0)], [(0, some (.row 4 89 (a0.map eplan_Item)))], 1⟩ [] (by kernel_rfl) trivial ?_
  refine AWp.seq ?_
  refine reg hP hn hm [] [0, 3, 8, 9, 10] [0] ⟨[(0, .own 0), (3, .im (.sc (.func (.func 50) #[] #[]))), (8, iV .i64 a1), (9, iV .i64 0), (10, iV .i64 (IntKind.i64.wrap (a2 - a1)))], [(0, some (.row 4 89 (a0.map eplan_Item)))], 1⟩ [] (by kernel_rfl) trivial ?_
  refine AWp.seq ?_
  refine AWp.seq ?_
  refine reg hP hn hm [] [0, 3, 8, 9, 10, 11] [0] ⟨[(0, .own 0), (3, .im (.sc (.func (.func 50) #[] #[]))), (8, iV .i64 a1), (9, iV .i64 0), (10, iV .i64 (IntKind.i64.wrap (a2 - a1))), (11, iV .i64 (IntKind.i64.wrap (Int.tdiv (IntKind.i64.wrap ((IntKind.i64.wrap (a2 - a1)) - (1 : Int))) (2 : Int))))], [(0, some (.row 4 89 (a0.map eplan_Item)))], 1⟩ [(2 : Int) ≠ 0] (by kernel_rfl) ⟨by decide, trivial⟩ ?_
  refine AWp.block ?_
  obtain ⟨o572, e573, H⟩ := bind_of H
  refine AWp.loop (LWp.conv (inv := [(0, 0)]) (vk := []) (e0 := []) (t := ⟨[(0, .own 0), (3, .im (.sc (.func (.func 50) #[] #[]))), (8, iV .i64 a1), (9, iV .i64 0), (10, iV .i64 (IntKind.i64.wrap (a2 - a1))), (11, iV .i64 (IntKind.i64.wrap (Int.tdiv (IntKind.i64.wrap ((IntKind.i64.wrap (a2 - a1)) - (1 : Int))) (2 : Int))))], [(0, some (.row 4 89 (a0.map eplan_Item)))], 1⟩) (by kernel_rfl) ?_)
  refine LWp.mono (Q := fun e s => (match (generalizing := false) o572 with | x522 => e = .exit 0 ∧ s = ⟨[(0, .own 0), (3, .im (.sc (.func (.func 50) #[] #[]))), (8, iV .i64 a1), (9, iV .i64 0), (10, iV .i64 (IntKind.i64.wrap (a2 - a1)))], [(0, some (.row 4 89 (x522.map eplan_Item)))], 1⟩)) (LWp.cv (withBody (fun body hbody => ?_))) ?_
  · refine f_slices_heapSortCmpFunc_plan_Item_plan_sorted_1.l0.partial_correctness a1 a2 (motive := fun x515 x516 o572 => LWp Γ body (fun e s => ∃ t, Cv Γ s t ∧ (match (generalizing := false) o572 with | x522 => e = .exit 0 ∧ t = ⟨[(0, .own 0), (3, .im (.sc (.func (.func 50) #[] #[]))), (8, iV .i64 a1), (9, iV .i64 0), (10, iV .i64 (IntKind.i64.wrap (a2 - a1)))], [(0, some (.row 4 89 (x522.map eplan_Item)))], 1⟩)) ⟨[(0, .own 0), (3, .im (.sc (.func (.func 50) #[] #[]))), (8, iV .i64 a1), (9, iV .i64 0), (10, iV .i64 (IntKind.i64.wrap (a2 - a1))), (11, iV .i64 x516)], [(0, some (.row 4 89 (x515.map eplan_Item)))], 1⟩) ?_ _ _ _ e573
    clear H e573 o572; intro self ih x515 x516 o572 H
    subst hbody
    refine LWp.round ?_
    refine AWp.seq ?_
    refine AWp.seq ?_
    refine reg hP hn hm [] [0, 3, 8, 9, 10, 11, 21] [0] ⟨[(0, .own 0), (3, .im (.sc (.func (.func 50) #[] #[]))), (8, iV .i64 a1), (9, iV .i64 0), (10, iV .i64 (IntKind.i64.wrap (a2 - a1))), (11, iV .i64 x516), (21, bV (decide (x516 ≥ (0 : Int))))], [(0, some (.row 4 89 (x515.map eplan_Item)))], 1⟩ [] (by kernel_rfl) trivial ?_
    refine AWp.cond (decide (x516 ≥ (0 : Int))) rfl (fun c517 => ?_) (fun c517 => ?_)
    · replace H := (ifT c517).symm.trans H
      refine AWp.skip ?_
      refine AWp.seq ?_
      refine AWp.block ?_
      obtain ⟨t520, e521, H⟩ := bind_of H
      refine reg hP hn hm [(5, .call [(0, 0)] [(0, 0)] [] [] 1 (.tup []) [(0, some (.row 4 89 (t520.map eplan_Item)))])] [0, 3, 8, 9, 10, 11] [0] ⟨[(0, .own 0), (3, .im (.sc (.func (.func 50) #[] #[]))), (8, iV .i64 a1), (9, iV .i64 0), (10, iV .i64 (IntKind.i64.wrap (a2 - a1))), (11, iV .i64 x516)], [(0, some (.row 4 89 (t520.map eplan_Item)))], 1⟩ [Enters Try.prog 124, Pv.Fn Try.prog 124 [.own 0, iV .i64 x516, iV .i64 (IntKind.i64.wrap (a2 - a1)), iV .i64 a1, .im (.sc (.func (.func 50) #[] #[]))] [(0, some (.row 4 89 (x515.map eplan_Item)))] 1 (fun r o => r = .tup [] ∧ o = [(0, some (.row 4 89 (t520.map eplan_Item)))])] (by kernel_rfl) ⟨by exact Try.call124, by exact f_slices_siftDownCmpFunc_plan_Item_plan_sorted_1.ok x515 x516 (IntKind.i64.wrap (a2 - a1)) a1 t520 e521, trivial⟩ ?_
      refine reg hP hn hm [] [0, 3, 8, 9, 10, 11] [0] ⟨[(0, .own 0), (3, .im (.sc (.func (.func 50) #[] #[]))), (8, iV .i64 a1), (9, iV .i64 0), (10, iV .i64 (IntKind.i64.wrap (a2 - a1))), (11, iV .i64 (IntKind.i64.wrap (x516 - (1 : Int))))], [(0, some (.row 4 89 (t520.map eplan_Item)))], 1⟩ [] (by kernel_rfl) trivial ?_
      exact LWp.conv (inv := [(0, 0)]) (vk := []) (e0 := []) (t := ⟨[(0, .own 0), (3, .im (.sc (.func (.func 50) #[] #[]))), (8, iV .i64 a1), (9, iV .i64 0), (10, iV .i64 (IntKind.i64.wrap (a2 - a1))), (11, iV .i64 (IntKind.i64.wrap (x516 - (1 : Int))))], [(0, some (.row 4 89 (t520.map eplan_Item)))], 1⟩) (by kernel_rfl) (ih _ _ _ H)
    · replace H := (ifF c517).symm.trans H
      refine AWp.exit ?_
      obtain rfl := Option.some.inj H
      exact Exists.intro _ (And.intro (fun _ _ h => h.conv (inv := [(0, 0)]) (vk := []) (e0 := []) (t := ⟨[(0, .own 0), (3, .im (.sc (.func (.func 50) #[] #[]))), (8, iV .i64 a1), (9, iV .i64 0), (10, iV .i64 (IntKind.i64.wrap (a2 - a1)))], [(0, some (.row 4 89 (x515.map eplan_Item)))], 1⟩) (by kernel_rfl)) (And.intro rfl rfl))
  · obtain ⟨x522, rfl⟩ : ∃ z, z = o572 := ⟨_, rfl⟩
    rintro e s ⟨rfl, rfl⟩
    refine AWp.seq ?_
    refine reg hP hn hm [] [0, 3, 8, 9, 12] [0] ⟨[(0, .own 0), (3, .im (.sc (.func (.func 50) #[] #[]))), (8, iV .i64 a1), (9, iV .i64 0), (12, iV .i64 (IntKind.i64.wrap ((IntKind.i64.wrap (a2 - a1)) - (1 : Int))))], [(0, some (.row 4 89 (x522.map eplan_Item)))], 1⟩ [] (by kernel_rfl) trivial ?_
    refine AWp.block ?_
    obtain ⟨o574, e575, H⟩ := bind_of H
    refine AWp.loop (LWp.conv (inv := [(0, 0)]) (vk := []) (e0 := []) (t := ⟨[(0, .own 0), (3, .im (.sc (.func (.func 50) #[] #[]))), (8, iV .i64 a1), (9, iV .i64 0), (12, iV .i64 (IntKind.i64.wrap ((IntKind.i64.wrap (a2 - a1)) - (1 : Int))))], [(0, some (.row 4 89 (x522.map eplan_Item)))], 1⟩) (by kernel_rfl) ?_)
    refine LWp.mono (Q := fun e s => (match (generalizing := false) o574 with | x571 => e = .exit 2 ∧ s = ⟨[], [(0, some (.row 4 89 (x571.map eplan_Item)))], 1⟩)) (LWp.cv (withBody (fun body hbody => ?_))) ?_
    · refine f_slices_heapSortCmpFunc_plan_Item_plan_sorted_1.l1.partial_correctness a1 (motive := fun x546 x547 o574 => LWp Γ body (fun e s => ∃ t, Cv Γ s t ∧ (match (generalizing := false) o574 with | x571 => e = .exit 2 ∧ t = ⟨[], [(0, some (.row 4 89 (x571.map eplan_Item)))], 1⟩)) ⟨[(0, .own 0), (3, .im (.sc (.func (.func 50) #[] #[]))), (8, iV .i64 a1), (9, iV .i64 0), (12, iV .i64 x547)], [(0, some (.row 4 89 (x546.map eplan_Item)))], 1⟩) ?_ _ _ _ e575
      clear H e575 o574; intro self ih x546 x547 o574 H
      subst hbody
      refine LWp.round ?_
      refine AWp.seq ?_
      refine AWp.seq ?_
      refine reg hP hn hm [] [0, 3, 8, 9, 12, 33] [0] ⟨[(0, .own 0), (3, .im (.sc (.func (.func 50) #[] #[]))), (8, iV .i64 a1), (9, iV .i64 0), (12, iV .i64 x547), (33, bV (decide (x547 ≥ (0 : Int))))], [(0, some (.row 4 89 (x546.map eplan_Item)))], 1⟩ [] (by kernel_rfl) trivial ?_
      refine AWp.cond (decide (x547 ≥ (0 : Int))) rfl (fun c548 => ?_) (fun c548 => ?_)
      · replace H := (ifT c548).symm.trans H
        refine AWp.skip ?_
        refine AWp.seq ?_
        refine AWp.block ?_
        refine AWp.seq ?_
        obtain ⟨b558, p559, q560, H⟩ := at_of H
        obtain ⟨b561, p562, q563, H⟩ := at_of H
        obtain ⟨b564, p565, q566, H⟩ := at_of H
        refine reg hP hn hm [(11, .c (eplan_Item b558)), (15, .c (eplan_Item b561)), (17, .put (eplan_Item b561) ((x546.set (Int.toNat (a1)) b558).map eplan_Item)), (19, .put (eplan_Item b564) (((x546.set (Int.toNat (a1)) b558).set (Int.toNat (IntKind.i64.wrap (a1 + x547))) b561).map eplan_Item))] [0, 3, 8, 9, 12] [0] ⟨[(0, .own 0), (3, .im (.sc (.func (.func 50) #[] #[]))), (8, iV .i64 a1), (9, iV .i64 0), (12, iV .i64 x547)], [(0, some (.row 4 89 (((x546.set (Int.toNat (a1)) b558).set (Int.toNat (IntKind.i64.wrap (a1 + x547))) b561).map eplan_Item)))], 1⟩ [0 ≤ (IntKind.i64.wrap (a1 + x547)), IntKind.i64.wrap (a1 + x547) < (((x546.map eplan_Item).length : Nat) : Int), (x546.map eplan_Item)[(Int.toNat (IntKind.i64.wrap (a1 + x547)))]? = some (eplan_Item b558), 0 ≤ a1, a1 < (((x546.map eplan_Item).length : Nat) : Int), (x546.map eplan_Item)[(Int.toNat (a1))]? = some (eplan_Item b561), 0 ≤ a1, a1 < (((x546.map eplan_Item).length : Nat) : Int), (x546.map eplan_Item)[(Int.toNat (a1))]? = some (eplan_Item b561), (x546.set (Int.toNat (a1)) b558).map eplan_Item = (x546.map eplan_Item).set (Int.toNat (a1)) (splice (eplan_Item b561) 0 [iI .i64 b558.f0, iI .i64 b558.f1.f0, iI .i64 b558.f1.f1, iI .i64 b558.f1.f2]), 0 ≤ (IntKind.i64.wrap (a1 + x547)), IntKind.i64.wrap (a1 + x547) < ((((x546.set (Int.toNat (a1)) b558).map eplan_Item).length : Nat) : Int), ((x546.set (Int.toNat (a1)) b558).map eplan_Item)[(Int.toNat (IntKind.i64.wrap (a1 + x547)))]? = some (eplan_Item b564), ((x546.set (Int.toNat (a1)) b558).set (Int.toNat (IntKind.i64.wrap (a1 + x547))) b561).map eplan_Item = ((x546.set (Int.toNat (a1)) b558).map eplan_Item).set (Int.toNat (IntKind.i64.wrap (a1 + x547))) (splice (eplan_Item b564) 0 [iI .i64 b561.f0, iI .i64 b561.f1.f0, iI .i64 b561.f1.f1, iI .i64 b561.f1.f2])] (by kernel_rfl) ⟨by exact p559, by exact el_lt eplan_Item p559 q560, by exact el_map eplan_Item q560, by exact p562, by exact el_lt eplan_Item p562 q563, by exact el_map eplan_Item q563, by exact p562, by exact el_lt eplan_Item p562 q563, by exact el_map eplan_Item q563, by exact set1 _ _ _ _, by exact p565, by exact el_lt eplan_Item p565 q566, by exact el_map eplan_Item q566, by exact set1 _ _ _ _, trivial⟩ ?_
        obtain ⟨t569, e570, H⟩ := bind_of H
        refine reg hP hn hm [(5, .call [(0, 0)] [(0, 0)] [] [] 1 (.tup []) [(0, some (.row 4 89 (t569.map eplan_Item)))])] [0, 3, 8, 9, 12] [0] ⟨[(0, .own 0), (3, .im (.sc (.func (.func 50) #[] #[]))), (8, iV .i64 a1), (9, iV .i64 0), (12, iV .i64 x547)], [(0, some (.row 4 89 (t569.map eplan_Item)))], 1⟩ [Enters Try.prog 124, Pv.Fn Try.prog 124 [.own 0, iV .i64 0, iV .i64 x547, iV .i64 a1, .im (.sc (.func (.func 50) #[] #[]))] [(0, some (.row 4 89 (((x546.set (Int.toNat (a1)) b558).set (Int.toNat (IntKind.i64.wrap (a1 + x547))) b561).map eplan_Item)))] 1 (fun r o => r = .tup [] ∧ o = [(0, some (.row 4 89 (t569.map eplan_Item)))])] (by kernel_rfl) ⟨by exact Try.call124, by exact f_slices_siftDownCmpFunc_plan_Item_plan_sorted_1.ok ((x546.set (Int.toNat (a1)) b558).set (Int.toNat (IntKind.i64.wrap (a1 + x547))) b561) 0 x547 a1 t569 e570, trivial⟩ ?_
        refine reg hP hn hm [] [0, 3, 8, 9, 12] [0] ⟨[(0, .own 0), (3, .im (.sc (.func (.func 50) #[] #[]))), (8, iV .i64 a1), (9, iV .i64 0), (12, iV .i64 (IntKind.i64.wrap (x547 - (1 : Int))))], [(0, some (.row 4 89 (t569.map eplan_Item)))], 1⟩ [] (by kernel_rfl) trivial ?_
        exact LWp.conv (inv := [(0, 0)]) (vk := []) (e0 := []) (t := ⟨[(0, .own 0), (3, .im (.sc (.func (.func 50) #[] #[]))), (8, iV .i64 a1), (9, iV .i64 0), (12, iV .i64 (IntKind.i64.wrap (x547 - (1 : Int))))], [(0, some (.row 4 89 (t569.map eplan_Item)))], 1⟩) (by kernel_rfl) (ih _ _ _ H)
      · replace H := (ifF c548).symm.trans H
        refine AWp.exit ?_
        obtain rfl := Option.some.inj H
        exact Exists.intro _ (And.intro (fun _ _ h => h.conv (inv := [(0, 0)]) (vk := []) (e0 := []) (t := ⟨[], [(0, some (.row 4 89 (x546.map eplan_Item)))], 1⟩) (by kernel_rfl)) (And.intro rfl rfl))
    · obtain ⟨x571, rfl⟩ : ∃ z, z = o574 := ⟨_, rfl⟩
      rintro e s ⟨rfl, rfl⟩
      obtain rfl := Option.some.inj H
      exact Exists.intro ⟨[], [(0, some (.row 4 89 (x571.map eplan_Item)))], 1⟩ (And.intro (fun _ _ h => h.conv (inv := [(0, 0)]) (vk := []) (e0 := []) (t := ⟨[], [(0, some (.row 4 89 (x571.map eplan_Item)))], 1⟩) (by kernel_rfl)) (And.intro (.inr rfl) (And.intro rfl (And.intro (by kernel_rfl) (by kernel_rfl)))))
def f_slices_order2CmpFunc_plan_Item_plan_sorted_1_9ab.f (a0 : List Tplan_Item) (a1 : Int) (a2 : Int) (a3_c0 : Int) : Option (Int × Int × Int) := (at? a0 a2) >>= fun b590 => (at? a0 a1) >>= fun b593 => (f_plan_sorted_1.f b590 b593) >>= fun t596 => if (decide (t596 < (0 : Int))) = true then (some (a2, a1, IntKind.i64.wrap (a3_c0 + (1 : Int)))) else (some (a1, a2, a3_c0))
theorem f_slices_order2CmpFunc_plan_Item_plan_sorted_1_9ab.ok (a0 : List Tplan_Item) (a1 : Int) (a2 : Int) (a3_c0 : Int) (r : Int × Int × Int) (H : f_slices_order2CmpFunc_plan_Item_plan_sorted_1_9ab.f a0 a1 a2 a3_c0 = some r) : Pv.Fn Try.prog 135 [.own 0, iV .i64 a1, iV .i64 a2, .ptr 1 0 0, .im (.sc (.func (.func 50) #[] #[]))] [(0, some (.row 4 89 (a0.map eplan_Item))), (1, some (.box 3 [iV .i64 a3_c0]))] 2 (fun x o => x = .tup [iV .i64 r.1, iV .i64 r.2.1] ∧ o = [(0, some (.row 4 89 (a0.map eplan_Item))), (1, some (.box 3 [iV .i64 r.2.2]))]) := by
  unfold f_slices_order2CmpFunc_plan_Item_plan_sorted_1_9ab.f at H
  refine Fn.bodyK [0, 1] Try.func135 rfl rfl (fun Γ hP hn => ?_)
  have hm : Try.prog.follows .mixedOrders = true := by kernel_rfl
  replace hn : Γ.n = 32 := hn
  refine AWp.seq ?_
  refine reg hP hn hm [] [0, 1, 2, 3, 4] [0, 1] ⟨[(0, .own 0), (1, iV .i64 a1), (2, iV .i64 a2), (3, .ptr 1 0 0), (4, .im (.sc (.func (.func 50) #[] #[])))], [(0, some (.row 4 89 (a0.map eplan_Item))), (1, some (.box 3 [iV .i64 a3_c0]))], 2⟩ [] (by kernel_rfl) trivial ?_
  refine AWp.seq ?_
  refine AWp.seq ?_
  obtain ⟨b590, p591, q592, H⟩ := at_of H
  obtain ⟨b593, p594, q595, H⟩ := at_of H
  obtain ⟨t596, e597, H⟩ := bind_of H
  refine reg hP hn hm [(4, .c (eplan_Item b590)), (8, .c (eplan_Item b593)), (9, .call [] [] [] [] 0 (iV .i64 t596) [])] [1, 2, 3, 22] [0, 1] ⟨[(1, iV .i64 a1), (2, iV .i64 a2), (3, .ptr 1 0 0), (22, bV (decide (t596 < (0 : Int))))], [(0, some (.row 4 89 (a0.map eplan_Item))), (1, some (.box 3 [iV .i64 a3_c0]))], 2⟩ [0 ≤ a2, a2 < (((a0.map eplan_Item).length : Nat) : Int), (a0.map eplan_Item)[(Int.toNat (a2))]? = some (eplan_Item b590), 0 ≤ a1, a1 < (((a0.map eplan_Item).length : Nat) : Int), (a0.map eplan_Item)[(Int.toNat (a1))]? = some (eplan_Item b593), Enters Try.prog 50, Pv.Fn Try.prog 50 [.agg (apluvialref17_Item ⟨b590.f0, b590.f1.f0, b590.f1.f1, b590.f1.f2⟩), .agg (apluvialref17_Item ⟨b593.f0, b593.f1.f0, b593.f1.f1, b593.f1.f2⟩)] [] 0 (fun r o => r = iV .i64 t596 ∧ o = [])] (by kernel_rfl) ⟨by exact p591, by exact el_lt eplan_Item p591 q592, by exact el_map eplan_Item q592, by exact p594, by exact el_lt eplan_Item p594 q595, by exact el_map eplan_Item q595, by exact Try.call50, by exact f_plan_sorted_1.ok b590 b593 t596 e597, trivial⟩ ?_
  refine AWp.cond (decide (t596 < (0 : Int))) rfl (fun c598 => ?_) (fun c598 => ?_)
  · replace H := (ifT c598).symm.trans H
    refine AWp.seq ?_
    refine reg hP hn hm [] [1, 2] [0, 1] ⟨[(1, iV .i64 a1), (2, iV .i64 a2)], [(0, some (.row 4 89 (a0.map eplan_Item))), (1, some (.box 3 [iV .i64 (IntKind.i64.wrap (a3_c0 + (1 : Int)))]))], 2⟩ [] (by kernel_rfl) trivial ?_
    refine AWp.seq ?_
    refine reg hP hn hm [] [10, 11] [0, 1] ⟨[(10, iV .i64 a2), (11, iV .i64 a1)], [(0, some (.row 4 89 (a0.map eplan_Item))), (1, some (.box 3 [iV .i64 (IntKind.i64.wrap (a3_c0 + (1 : Int)))]))], 2⟩ [] (by kernel_rfl) trivial ?_
    refine AWp.conv (inv := [(0, 0), (1, 1)]) (vk := []) (e0 := []) (t := ⟨[(10, iV .i64 a2), (11, iV .i64 a1)], [(0, some (.row 4 89 (a0.map eplan_Item))), (1, some (.box 3 [iV .i64 (IntKind.i64.wrap (a3_c0 + (1 : Int)))]))], 2⟩) (by kernel_rfl) ?_
    refine AWp.ret ?_
    obtain rfl := Option.some.inj H
    exact Exists.intro _ (And.intro (fun _ _ h => h) (And.intro (.inl rfl) (And.intro rfl (And.intro (by kernel_rfl) (by kernel_rfl)))))
  · replace H := (ifF c598).symm.trans H
    refine AWp.skip ?_
    refine AWp.seq ?_
    refine reg hP hn hm [] [10, 11] [0, 1] ⟨[(10, iV .i64 a1), (11, iV .i64 a2)], [(0, some (.row 4 89 (a0.map eplan_Item))), (1, some (.box 3 [iV .i64 a3_c0]))], 2⟩ [] (by kernel_rfl) trivial ?_
    refine AWp.conv (inv := [(0, 0), (1, 1)]) (vk := []) (e0 := []) (t := ⟨[(10, iV .i64 a1), (11, iV .i64 a2)], [(0, some (.row 4 89 (a0.map eplan_Item))), (1, some (.box 3 [iV .i64 a3_c0]))], 2⟩) (by kernel_rfl) ?_
    refine AWp.ret ?_
    obtain rfl := Option.some.inj H
    exact Exists.intro _ (And.intro (fun _ _ h => h) (And.intro (.inl rfl) (And.intro rfl (And.intro (by kernel_rfl) (by kernel_rfl)))))
def f_slices_medianCmpFunc_plan_Item_plan_sorted_1_5f3.f (a0 : List Tplan_Item) (a1 : Int) (a2 : Int) (a3 : Int) (a4_c0 : Int) : Option (Int × Int) := (f_slices_order2CmpFunc_plan_Item_plan_sorted_1_9ab.f a0 a1 a2 a4_c0) >>= fun t601 => (f_slices_order2CmpFunc_plan_Item_plan_sorted_1_9ab.f a0 t601.2.1 a3 t601.2.2) >>= fun t605 => (f_slices_order2CmpFunc_plan_Item_plan_sorted_1_9ab.f a0 t601.1 t605.1 t605.2.2) >>= fun t609 => some (t609.2.1, t609.2.2)
theorem f_slices_medianCmpFunc_plan_Item_plan_sorted_1_5f3.ok (a0 : List Tplan_Item) (a1 : Int) (a2 : Int) (a3 : Int) (a4_c0 : Int) (r : Int × Int) (H : f_slices_medianCmpFunc_plan_Item_plan_sorted_1_5f3.f a0 a1 a2 a3 a4_c0 = some r) : Pv.Fn Try.prog 126 [.own 0, iV .i64 a1, iV .i64 a2, iV .i64 a3, .ptr 1 0 0, .im (.sc (.func (.func 50) #[] #[]))] [(0, some (.row 4 89 (a0.map eplan_Item))), (1, some (.box 3 [iV .i64 a4_c0]))] 2 (fun x o => x = iV .i64 r.1 ∧ o = [(0, some (.row 4 89 (a0.map eplan_Item))), (1, some (.box 3 [iV .i64 r.2]))]) := by
  unfold f_slices_medianCmpFunc_plan_Item_plan_sorted_1_5f3.f at H
  refine Fn.bodyK [0, 1] Try.func126 rfl rfl (fun Γ hP hn => ?_)
  have hm : Try.prog.follows .mixedOrders = true := by kernel_rfl
  replace hn : Γ.n = 41 := hn
  refine AWp.seq ?_
  refine reg hP hn hm [] [0, 1, 2, 3, 4, 5] [0, 1] ⟨[(0, .own 0), (1, iV .i64 a1), (2, iV .i64 a2), (3, iV .i64 a3), (4, .ptr 1 0 0), (5, .im (.sc (.func (.func 50) #[] #[])))], [(0, some (.row 4 89 (a0.map eplan_Item))), (1, some (.box 3 [iV .i64 a4_c0]))], 2⟩ [] (by kernel_rfl) trivial ?_
  refine AWp.seq ?_
  obtain ⟨t601, e602, H⟩ := bind_of H
  refine reg hP hn hm [(5, .call [(0, 0), (1, 1)] [(0, 0), (1, 1)] [] [] 2 (.tup [iV .i64 t601.1, iV .i64 t601.2.1]) [(0, some (.row 4 89 (a0.map eplan_Item))), (1, some (.box 3 [iV .i64 t601.2.2]))])] [0, 1, 2, 3, 4, 5] [0, 1] ⟨[(0, .own 0), (1, iV .i64 t601.1), (2, iV .i64 t601.2.1), (3, iV .i64 a3), (4, .ptr 1 0 0), (5, .im (.sc (.func (.func 50) #[] #[])))], [(0, some (.row 4 89 (a0.map eplan_Item))), (1, some (.box 3 [iV .i64 t601.2.2]))], 2⟩ [Enters Try.prog 135, Pv.Fn Try.prog 135 [.own 0, iV .i64 a1, iV .i64 a2, .ptr 1 0 0, .im (.sc (.func (.func 50) #[] #[]))] [(0, some (.row 4 89 (a0.map eplan_Item))), (1, some (.box 3 [iV .i64 a4_c0]))] 2 (fun r o => r = .tup [iV .i64 t601.1, iV .i64 t601.2.1] ∧ o = [(0, some (.row 4 89 (a0.map eplan_Item))), (1, some (.box 3 [iV .i64 t601.2.2]))])] (by kernel_rfl) ⟨by exact Try.call135, by exact f_slices_order2CmpFunc_plan_Item_plan_sorted_1_9ab.ok a0 a1 a2 a4_c0 t601 e602, trivial⟩ ?_
  refine AWp.seq ?_
  obtain ⟨t605, e606, H⟩ := bind_of H
  refine reg hP hn hm [(5, .call [(0, 0), (1, 1)] [(0, 0), (1, 1)] [] [] 2 (.tup [iV .i64 t605.1, iV .i64 t605.2.1]) [(0, some (.row 4 89 (a0.map eplan_Item))), (1, some (.box 3 [iV .i64 t605.2.2]))])] [0, 1, 2, 4, 5] [0, 1] ⟨[(0, .own 0), (1, iV .i64 t601.1), (2, iV .i64 t605.1), (4, .ptr 1 0 0), (5, .im (.sc (.func (.func 50) #[] #[])))], [(0, some (.row 4 89 (a0.map eplan_Item))), (1, some (.box 3 [iV .i64 t605.2.2]))], 2⟩ [Enters Try.prog 135, Pv.Fn Try.prog 135 [.own 0, iV .i64 t601.2.1, iV .i64 a3, .ptr 1 0 0, .im (.sc (.func (.func 50) #[] #[]))] [(0, some (.row 4 89 (a0.map eplan_Item))), (1, some (.box 3 [iV .i64 t601.2.2]))] 2 (fun r o => r = .tup [iV .i64 t605.1, iV .i64 t605.2.1] ∧ o = [(0, some (.row 4 89 (a0.map eplan_Item))), (1, some (.box 3 [iV .i64 t605.2.2]))])] (by kernel_rfl) ⟨by exact Try.call135, by exact f_slices_order2CmpFunc_plan_Item_plan_sorted_1_9ab.ok a0 t601.2.1 a3 t601.2.2 t605 e606, trivial⟩ ?_
  refine AWp.seq ?_
  obtain ⟨t609, e610, H⟩ := bind_of H
  refine reg hP hn hm [(5, .call [(0, 0), (1, 1)] [(0, 0), (1, 1)] [] [] 2 (.tup [iV .i64 t609.1, iV .i64 t609.2.1]) [(0, some (.row 4 89 (a0.map eplan_Item))), (1, some (.box 3 [iV .i64 t609.2.2]))])] [2] [0, 1] ⟨[(2, iV .i64 t609.2.1)], [(0, some (.row 4 89 (a0.map eplan_Item))), (1, some (.box 3 [iV .i64 t609.2.2]))], 2⟩ [Enters Try.prog 135, Pv.Fn Try.prog 135 [.own 0, iV .i64 t601.1, iV .i64 t605.1, .ptr 1 0 0, .im (.sc (.func (.func 50) #[] #[]))] [(0, some (.row 4 89 (a0.map eplan_Item))), (1, some (.box 3 [iV .i64 t605.2.2]))] 2 (fun r o => r = .tup [iV .i64 t609.1, iV .i64 t609.2.1] ∧ o = [(0, some (.row 4 89 (a0.map eplan_Item))), (1, some (.box 3 [iV .i64 t609.2.2]))])] (by kernel_rfl) ⟨by exact Try.call135, by exact f_slices_order2CmpFunc_plan_Item_plan_sorted_1_9ab.ok a0 t601.1 t605.1 t605.2.2 t609 e610, trivial⟩ ?_
  refine AWp.seq ?_
  refine reg hP hn hm [] [12] [0, 1] ⟨[(12, iV .i64 t609.2.1)], [(0, some (.row 4 89 (a0.map eplan_Item))), (1, some (.box 3 [iV .i64 t609.2.2]))], 2⟩ [] (by kernel_rfl) trivial ?_
  refine AWp.conv (inv := [(0, 0), (1, 1)]) (vk := []) (e0 := []) (t := ⟨[(12, iV .i64 t609.2.1)], [(0, some (.row 4 89 (a0.map eplan_Item))), (1, some (.box 3 [iV .i64 t609.2.2]))], 2⟩) (by kernel_rfl) ?_
  refine AWp.ret ?_
  obtain rfl := Option.some.inj H
  exact Exists.intro _ (And.intro (fun _ _ h => h) (And.intro (.inl rfl) (And.intro rfl (And.intro (by kernel_rfl) (by kernel_rfl)))))
def f_slices_medianAdjacentCmpFunc_plan_Item_plan_sorted_1_7cb.f (a0 : List Tplan_Item) (a1 : Int) (a2_c0 : Int) : Option (Int × Int) := (f_slices_medianCmpFunc_plan_Item_plan_sorted_1_5f3.f a0 (IntKind.i64.wrap (a1 - (1 : Int))) a1 (IntKind.i64.wrap (a1 + (1 : Int))) a2_c0) >>= fun t613 => some (t613.1, t613.2)
theorem f_slices_medianAdjacentCmpFunc_plan_Item_plan_sorted_1_7cb.ok (a0 : List Tplan_Item) (a1 : Int) (a2_c0 : Int) (r : Int × Int) (H : f_slices_medianAdjacentCmpFunc_plan_Item_plan_sorted_1_7cb.f a0 a1 a2_c0 = some r) : Pv.Fn Try.prog 125 [.own 0, iV .i64 a1, .ptr 1 0 0, .im (.sc (.func (.func 50) #[] #[]))] [(0, some (.row 4 89 (a0.map eplan_Item))), (1, some (.box 3 [iV .i64 a2_c0]))] 2 (fun x o => x = iV .i64 r.1 ∧ o = [(0, some (.row 4 89 (a0.map eplan_Item))), (1, some (.box 3 [iV .i64 r.2]))]) := by
  unfold f_slices_medianAdjacentCmpFunc_plan_Item_plan_sorted_1_7cb.f at H
  refine Fn.bodyK [0, 1] Try.func125 rfl rfl (fun Γ hP hn => ?_)
  have hm : Try.prog.follows .mixedOrders = true := by kernel_rfl
  replace hn : Γ.n = 18 := hn
  refine AWp.seq ?_
  refine reg hP hn hm [] [0, 1, 2, 3] [0, 1] ⟨[(0, .own 0), (1, iV .i64 a1), (2, .ptr 1 0 0), (3, .im (.sc (.func (.func 50) #[] #[])))], [(0, some (.row 4 89 (a0.map eplan_Item))), (1, some (.box 3 [iV .i64 a2_c0]))], 2⟩ [] (by kernel_rfl) trivial ?_
  refine AWp.seq ?_
  obtain ⟨t613, e614, H⟩ := bind_of H
  refine reg hP hn hm [(8, .call [(0, 0), (1, 1)] [(0, 0), (1, 1)] [] [] 2 (iV .i64 t613.1) [(0, some (.row 4 89 (a0.map eplan_Item))), (1, some (.box 3 [iV .i64 t613.2]))])] [8] [0, 1] ⟨[(8, iV .i64 t613.1)], [(0, some (.row 4 89 (a0.map eplan_Item))), (1, some (.box 3 [iV .i64 t613.2]))], 2⟩ [Enters Try.prog 126, Pv.Fn Try.prog 126 [.own 0, iV .i64 (IntKind.i64.wrap (a1 - (1 : Int))), iV .i64 a1, iV .i64 (IntKind.i64.wrap (a1 + (1 : Int))), .ptr 1 0 0, .im (.sc (.func (.func 50) #[] #[]))] [(0, some (.row 4 89 (a0.map eplan_Item))), (1, some (.box 3 [iV .i64 a2_c0]))] 2 (fun r o => r = iV .i64 t613.1 ∧ o = [(0, some (.row 4 89 (a0.map eplan_Item))), (1, some (.box 3 [iV .i64 t613.2]))])] (by kernel_rfl) ⟨by exact Try.call126, by exact f_slices_medianCmpFunc_plan_Item_plan_sorted_1_5f3.ok a0 (IntKind.i64.wrap (a1 - (1 : Int))) a1 (IntKind.i64.wrap (a1 + (1 : Int))) a2_c0 t613 e614, trivial⟩ ?_
  refine AWp.conv (inv := [(0, 0), (1, 1)]) (vk := []) (e0 := []) (t := ⟨[(8, iV .i64 t613.1)], [(0, some (.row 4 89 (a0.map eplan_Item))), (1, some (.box 3 [iV .i64 t613.2]))], 2⟩) (by kernel_rfl) ?_
  refine AWp.ret ?_
  obtain rfl := Option.some.inj H
  exact Exists.intro _ (And.intro (fun _ _ h => h) (And.intro (.inl rfl) (And.intro rfl (And.intro (by kernel_rfl) (by kernel_rfl)))))
def f_slices_choosePivotCmpFunc_plan_Item_plan_sorted_1.f (a0 : List Tplan_Item) (a1 : Int) (a2 : Int) : Option (Int × Int) := ((if (decide ((IntKind.i64.wrap (a2 - a1)) ≥ (8 : Int))) = true then (((if (decide ((IntKind.i64.wrap (a2 - a1)) ≥ (50 : Int))) = true then ((f_slices_medianAdjacentCmpFunc_plan_Item_plan_sorted_1_7cb.f a0 (IntKind.i64.wrap (a1 + (IntKind.i64.wrap ((IntKind.i64.wrap (Int.tdiv (IntKind.i64.wrap (a2 - a1)) (4 : Int))) * (1 : Int))))) 0) >>= fun t617 => (f_slices_medianAdjacentCmpFunc_plan_Item_plan_sorted_1_7cb.f a0 (IntKind.i64.wrap (a1 + (IntKind.i64.wrap ((IntKind.i64.wrap (Int.tdiv (IntKind.i64.wrap (a2 - a1)) (4 : Int))) * (2 : Int))))) t617.2) >>= fun t621 => (f_slices_medianAdjacentCmpFunc_plan_Item_plan_sorted_1_7cb.f a0 (IntKind.i64.wrap (a1 + (IntKind.i64.wrap ((IntKind.i64.wrap (Int.tdiv (IntKind.i64.wrap (a2 - a1)) (4 : Int))) * (3 : Int))))) t621.2) >>= fun t625 => some (t625.2, t617.1, t621.1, t625.1)) else (some (0, IntKind.i64.wrap (a1 + (IntKind.i64.wrap ((IntKind.i64.wrap (Int.tdiv (IntKind.i64.wrap (a2 - a1)) (4 : Int))) * (1 : Int)))), IntKind.i64.wrap (a1 + (IntKind.i64.wrap ((IntKind.i64.wrap (Int.tdiv (IntKind.i64.wrap (a2 - a1)) (4 : Int))) * (2 : Int)))), IntKind.i64.wrap (a1 + (IntKind.i64.wrap ((IntKind.i64.wrap (Int.tdiv (IntKind.i64.wrap (a2 - a1)) (4 : Int))) * (3 : Int))))))) : Option (Int × Int × Int × Int)) >>= fun oo => match oo with | (x627, x628, x629, x630) => ((f_slices_medianCmpFunc_plan_Item_plan_sorted_1_5f3.f a0 x628 x629 x630 x627) >>= fun t633 => some (t633.2, t633.1))) else (some (0, IntKind.i64.wrap (a1 + (IntKind.i64.wrap ((IntKind.i64.wrap (Int.tdiv (IntKind.i64.wrap (a2 - a1)) (4 : Int))) * (2 : Int))))))) : Option (Int × Int)) >>= fun oo => match oo with | (x635, x636) => (if (x635 == (0 : Int)) = true then (some (x636, 1)) else (if (x635 == (12 : Int)) = true then (some (x636, 2)) else (some (x636, 0))))
theorem f_slices_choosePivotCmpFunc_plan_Item_plan_sorted_1.ok (a0 : List Tplan_Item) (a1 : Int) (a2 : Int) (r : Int × Int) (H : f_slices_choosePivotCmpFunc_plan_Item_plan_sorted_1.f a0 a1 a2 = some r) : Pv.Fn Try.prog 107 [.own 0, iV .i64 a1, iV .i64 a2, .im (.sc (.func (.func 50) #[] #[]))] [(0, some (.row 4 89 (a0.map eplan_Item)))] 1 (fun x o => x = .tup [iV .i64 r.1, iV .i64 r.2] ∧ o = [(0, some (.row 4 89 (a0.map eplan_Item)))]) := by
  unfold f_slices_choosePivotCmpFunc_plan_Item_plan_sorted_1.f at H
  refine Fn.bodyK [0] Try.func107 rfl rfl (fun Γ hP hn => ?_)
  have hm : Try.prog.follows .mixedOrders = true := by kernel_rfl
  replace hn : Γ.n = 63 := hn
  refine AWp.seq ?_
  refine reg hP hn hm [] [0, 1, 2, 3] [0] ⟨[(0, .own 0), (1, iV .i64 a1), (2, iV .i64 a2), (3, .im (.sc (.func (.func 50) #[] #[])))], [(0, some (.row 4 89 (a0.map eplan_Item)))], 1⟩ [] (by kernel_rfl) trivial ?_
  refine AWp.seq ?_
  refine reg hP hn hm [] [0, 1, 3, 10] [0] ⟨[(0, .own 0), (1, iV .i64 a1), (3, .im (.sc (.func (.func 50) #[] #[]))), (10, iV .i64 (IntKind.i64.wrap (a2 - a1)))], [(0, some (.row 4 89 (a0.map eplan_Item)))], 1⟩ [] (by kernel_rfl) trivial ?_
  refine AWp.seq ?_
  refine reg hP hn hm [(0, .k 1)] [0, 1, 3, 10, 11] [0, 1] ⟨[(0, .own 0), (1, iV .i64 a1), (3, .im (.sc (.func (.func 50) #[] #[]))), (10, iV .i64 (IntKind.i64.wrap (a2 - a1))), (11, .ptr 1 0 0)], [(0, some (.row 4 89 (a0.map eplan_Item))), (1, some (.box 3 [iV .i64 0]))], 1⟩ [] (by kernel_rfl) trivial ?_
  refine AWp.seq ?_
  refine reg hP hn hm [] [0, 1, 3, 10, 11, 12] [0, 1] ⟨[(0, .own 0), (1, iV .i64 a1), (3, .im (.sc (.func (.func 50) #[] #[]))), (10, iV .i64 (IntKind.i64.wrap (a2 - a1))), (11, .ptr 1 0 0), (12, iV .i64 (IntKind.i64.wrap (a1 + (IntKind.i64.wrap ((IntKind.i64.wrap (Int.tdiv (IntKind.i64.wrap (a2 - a1)) (4 : Int))) * (1 : Int))))))], [(0, some (.row 4 89 (a0.map eplan_Item))), (1, some (.box 3 [iV .i64 0]))], 1⟩ [(4 : Int) ≠ 0] (by kernel_rfl) ⟨by decide, trivial⟩ ?_
  refine AWp.seq ?_
  refine reg hP hn hm [] [0, 1, 3, 10, 11, 12, 13] [0, 1] ⟨[(0, .own 0), (1, iV .i64 a1), (3, .im (.sc (.func (.func 50) #[] #[]))), (10, iV .i64 (IntKind.i64.wrap (a2 - a1))), (11, .ptr 1 0 0), (12, iV .i64 (IntKind.i64.wrap (a1 + (IntKind.i64.wrap ((IntKind.i64.wrap (Int.tdiv (IntKind.i64.wrap (a2 - a1)) (4 : Int))) * (1 : Int)))))), (13, iV .i64 (IntKind.i64.wrap (a1 + (IntKind.i64.wrap ((IntKind.i64.wrap (Int.tdiv (IntKind.i64.wrap (a2 - a1)) (4 : Int))) * (2 : Int))))))], [(0, some (.row 4 89 (a0.map eplan_Item))), (1, some (.box 3 [iV .i64 0]))], 1⟩ [(4 : Int) ≠ 0] (by kernel_rfl) ⟨by decide, trivial⟩ ?_
  refine AWp.seq ?_
  refine reg hP hn hm [] [0, 3, 10, 11, 12, 13, 14] [0, 1] ⟨[(0, .own 0), (3, .im (.sc (.func (.func 50) #[] #[]))), (10, iV .i64 (IntKind.i64.wrap (a2 - a1))), (11, .ptr 1 0 0), (12, iV .i64 (IntKind.i64.wrap (a1 + (IntKind.i64.wrap ((IntKind.i64.wrap (Int.tdiv (IntKind.i64.wrap (a2 - a1)) (4 : Int))) * (1 : Int)))))), (13, iV .i64 (IntKind.i64.wrap (a1 + (IntKind.i64.wrap ((IntKind.i64.wrap (Int.tdiv (IntKind.i64.wrap (a2 - a1)) (4 : Int))) * (2 : Int)))))), (14, iV .i64 (IntKind.i64.wrap (a1 + (IntKind.i64.wrap ((IntKind.i64.wrap (Int.tdiv (IntKind.i64.wrap (a2 - a1)) (4 : Int))) * (3 : Int))))))], [(0, some (.row 4 89 (a0.map eplan_Item))), (1, some (.box 3 [iV .i64 0]))], 1⟩ [(4 : Int) ≠ 0] (by kernel_rfl) ⟨by decide, trivial⟩ ?_
  refine AWp.seq ?_
  refine AWp.seq ?_
  refine reg hP hn hm [] [0, 3, 10, 11, 12, 13, 14, 34] [0, 1] ⟨[(0, .own 0), (3, .im (.sc (.func (.func 50) #[] #[]))), (10, iV .i64 (IntKind.i64.wrap (a2 - a1))), (11, .ptr 1 0 0), (12, iV .i64 (IntKind.i64.wrap (a1 + (IntKind.i64.wrap ((IntKind.i64.wrap (Int.tdiv (IntKind.i64.wrap (a2 - a1)) (4 : Int))) * (1 : Int)))))), (13, iV .i64 (IntKind.i64.wrap (a1 + (IntKind.i64.wrap ((IntKind.i64.wrap (Int.tdiv (IntKind.i64.wrap (a2 - a1)) (4 : Int))) * (2 : Int)))))), (14, iV .i64 (IntKind.i64.wrap (a1 + (IntKind.i64.wrap ((IntKind.i64.wrap (Int.tdiv (IntKind.i64.wrap (a2 - a1)) (4 : Int))) * (3 : Int)))))), (34, bV (decide ((IntKind.i64.wrap (a2 - a1)) ≥ (8 : Int))))], [(0, some (.row 4 89 (a0.map eplan_Item))), (1, some (.box 3 [iV .i64 0]))], 1⟩ [] (by kernel_rfl) trivial ?_
  obtain ⟨o639, e640, H⟩ := bind_of H
  refine AWp.mono (Q := fun e s => (match (generalizing := false) o639 with | (x635, x636) => e = .normal ∧ s = ⟨[(11, .ptr 3 0 0), (13, iV .i64 x636)], [(0, some (.row 4 89 (a0.map eplan_Item))), (3, some (.box 3 [iV .i64 x635]))], 1⟩)) (AWp.cv ?_) ?_
  · replace H := e640; clear e640
    refine AWp.cond (decide ((IntKind.i64.wrap (a2 - a1)) ≥ (8 : Int))) rfl (fun c580 => ?_) (fun c580 => ?_)
    · replace H := (ifT c580).symm.trans H
      refine AWp.seq ?_
      refine AWp.seq ?_
      refine reg hP hn hm [] [0, 3, 11, 12, 13, 14, 36] [0, 1] ⟨[(0, .own 0), (3, .im (.sc (.func (.func 50) #[] #[]))), (11, .ptr 1 0 0), (12, iV .i64 (IntKind.i64.wrap (a1 + (IntKind.i64.wrap ((IntKind.i64.wrap (Int.tdiv (IntKind.i64.wrap (a2 - a1)) (4 : Int))) * (1 : Int)))))), (13, iV .i64 (IntKind.i64.wrap (a1 + (IntKind.i64.wrap ((IntKind.i64.wrap (Int.tdiv (IntKind.i64.wrap (a2 - a1)) (4 : Int))) * (2 : Int)))))), (14, iV .i64 (IntKind.i64.wrap (a1 + (IntKind.i64.wrap ((IntKind.i64.wrap (Int.tdiv (IntKind.i64.wrap (a2 - a1)) (4 : Int))) * (3 : Int)))))), (36, bV (decide ((IntKind.i64.wrap (a2 - a1)) ≥ (50 : Int))))], [(0, some (.row 4 89 (a0.map eplan_Item))), (1, some (.box 3 [iV .i64 0]))], 1⟩ [] (by kernel_rfl) trivial ?_
      obtain ⟨o641, e642, H⟩ := bind_of H
      refine AWp.mono (Q := fun e s => (match (generalizing := false) o641 with | (x627, x628, x629, x630) => e = .normal ∧ s = ⟨[(0, .own 0), (3, .im (.sc (.func (.func 50) #[] #[]))), (11, .ptr 2 0 0), (12, iV .i64 x628), (13, iV .i64 x629), (14, iV .i64 x630)], [(0, some (.row 4 89 (a0.map eplan_Item))), (2, some (.box 3 [iV .i64 x627]))], 1⟩)) (AWp.cv ?_) ?_
      · replace H := e642; clear e642
        refine AWp.cond (decide ((IntKind.i64.wrap (a2 - a1)) ≥ (50 : Int))) rfl (fun c581 => ?_) (fun c581 => ?_)
        · replace H := (ifT c581).symm.trans H
          refine AWp.seq ?_
          obtain ⟨t617, e618, H⟩ := bind_of H
          refine reg hP hn hm [(3, .call [(0, 0), (1, 1)] [(0, 0), (1, 1)] [] [] 2 (iV .i64 t617.1) [(0, some (.row 4 89 (a0.map eplan_Item))), (1, some (.box 3 [iV .i64 t617.2]))])] [0, 3, 11, 12, 13, 14] [0, 1] ⟨[(0, .own 0), (3, .im (.sc (.func (.func 50) #[] #[]))), (11, .ptr 1 0 0), (12, iV .i64 t617.1), (13, iV .i64 (IntKind.i64.wrap (a1 + (IntKind.i64.wrap ((IntKind.i64.wrap (Int.tdiv (IntKind.i64.wrap (a2 - a1)) (4 : Int))) * (2 : Int)))))), (14, iV .i64 (IntKind.i64.wrap (a1 + (IntKind.i64.wrap ((IntKind.i64.wrap (Int.tdiv (IntKind.i64.wrap (a2 - a1)) (4 : Int))) * (3 : Int))))))], [(0, some (.row 4 89 (a0.map eplan_Item))), (1, some (.box 3 [iV .i64 t617.2]))], 1⟩ [Enters Try.prog 125, Pv.Fn Try.prog 125 [.own 0, iV .i64 (IntKind.i64.wrap (a1 + (IntKind.i64.wrap ((IntKind.i64.wrap (Int.tdiv (IntKind.i64.wrap (a2 - a1)) (4 : Int))) * (1 : Int))))), .ptr 1 0 0, .im (.sc (.func (.func 50) #[] #[]))] [(0, some (.row 4 89 (a0.map eplan_Item))), (1, some (.box 3 [iV .i64 0]))] 2 (fun r o => r = iV .i64 t617.1 ∧ o = [(0, some (.row 4 89 (a0.map eplan_Item))), (1, some (.box 3 [iV .i64 t617.2]))])] (by kernel_rfl) ⟨by exact Try.call125, by exact f_slices_medianAdjacentCmpFunc_plan_Item_plan_sorted_1_7cb.ok a0 (IntKind.i64.wrap (a1 + (IntKind.i64.wrap ((IntKind.i64.wrap (Int.tdiv (IntKind.i64.wrap (a2 - a1)) (4 : Int))) * (1 : Int))))) 0 t617 e618, trivial⟩ ?_
          refine AWp.seq ?_
          obtain ⟨t621, e622, H⟩ := bind_of H
          refine reg hP hn hm [(3, .call [(0, 0), (1, 1)] [(0, 0), (1, 1)] [] [] 2 (iV .i64 t621.1) [(0, some (.row 4 89 (a0.map eplan_Item))), (1, some (.box 3 [iV .i64 t621.2]))])] [0, 3, 11, 12, 13, 14] [0, 1] ⟨[(0, .own 0), (3, .im (.sc (.func (.func 50) #[] #[]))), (11, .ptr 1 0 0), (12, iV .i64 t617.1), (13, iV .i64 t621.1), (14, iV .i64 (IntKind.i64.wrap (a1 + (IntKind.i64.wrap ((IntKind.i64.wrap (Int.tdiv (IntKind.i64.wrap (a2 - a1)) (4 : Int))) * (3 : Int))))))], [(0, some (.row 4 89 (a0.map eplan_Item))), (1, some (.box 3 [iV .i64 t621.2]))], 1⟩ [Enters Try.prog 125, Pv.Fn Try.prog 125 [.own 0, iV .i64 (IntKind.i64.wrap (a1 + (IntKind.i64.wrap ((IntKind.i64.wrap (Int.tdiv (IntKind.i64.wrap (a2 - a1)) (4 : Int))) * (2 : Int))))), .ptr 1 0 0, .im (.sc (.func (.func 50) #[] #[]))] [(0, some (.row 4 89 (a0.map eplan_Item))), (1, some (.box 3 [iV .i64 t617.2]))] 2 (fun r o => r = iV .i64 t621.1 ∧ o = [(0, some (.row 4 89 (a0.map eplan_Item))), (1, some (.box 3 [iV .i64 t621.2]))])] (by kernel_rfl) ⟨by exact Try.call125, by exact f_slices_medianAdjacentCmpFunc_plan_Item_plan_sorted_1_7cb.ok a0 (IntKind.i64.wrap (a1 + (IntKind.i64.wrap ((IntKind.i64.wrap (Int.tdiv (IntKind.i64.wrap (a2 - a1)) (4 : Int))) * (2 : Int))))) t617.2 t621 e622, trivial⟩ ?_
          obtain ⟨t625, e626, H⟩ := bind_of H
          refine reg hP hn hm [(3, .call [(0, 0), (1, 1)] [(0, 0), (1, 1)] [] [] 2 (iV .i64 t625.1) [(0, some (.row 4 89 (a0.map eplan_Item))), (1, some (.box 3 [iV .i64 t625.2]))])] [0, 3, 11, 12, 13, 14] [0, 1] ⟨[(0, .own 0), (3, .im (.sc (.func (.func 50) #[] #[]))), (11, .ptr 1 0 0), (12, iV .i64 t617.1), (13, iV .i64 t621.1), (14, iV .i64 t625.1)], [(0, some (.row 4 89 (a0.map eplan_Item))), (1, some (.box 3 [iV .i64 t625.2]))], 1⟩ [Enters Try.prog 125, Pv.Fn Try.prog 125 [.own 0, iV .i64 (IntKind.i64.wrap (a1 + (IntKind.i64.wrap ((IntKind.i64.wrap (Int.tdiv (IntKind.i64.wrap (a2 - a1)) (4 : Int))) * (3 : Int))))), .ptr 1 0 0, .im (.sc (.func (.func 50) #[] #[]))] [(0, some (.row 4 89 (a0.map eplan_Item))), (1, some (.box 3 [iV .i64 t621.2]))] 2 (fun r o => r = iV .i64 t625.1 ∧ o = [(0, some (.row 4 89 (a0.map eplan_Item))), (1, some (.box 3 [iV .i64 t625.2]))])] (by kernel_rfl) ⟨by exact Try.call125, by exact f_slices_medianAdjacentCmpFunc_plan_Item_plan_sorted_1_7cb.ok a0 (IntKind.i64.wrap (a1 + (IntKind.i64.wrap ((IntKind.i64.wrap (Int.tdiv (IntKind.i64.wrap (a2 - a1)) (4 : Int))) * (3 : Int))))) t621.2 t625 e626, trivial⟩ ?_
          obtain rfl := Option.some.inj H
          exact Exists.intro _ (And.intro (fun _ _ h => h.conv (inv := [(0, 0), (1, 2)]) (vk := []) (e0 := []) (t := ⟨[(0, .own 0), (3, .im (.sc (.func (.func 50) #[] #[]))), (11, .ptr 2 0 0), (12, iV .i64 t617.1), (13, iV .i64 t621.1), (14, iV .i64 t625.1)], [(0, some (.row 4 89 (a0.map eplan_Item))), (2, some (.box 3 [iV .i64 t625.2]))], 1⟩) (by kernel_rfl)) (And.intro rfl rfl))
        · replace H := (ifF c581).symm.trans H
          refine AWp.skip ?_
          obtain rfl := Option.some.inj H
          exact Exists.intro _ (And.intro (fun _ _ h => h.conv (inv := [(0, 0), (1, 2)]) (vk := []) (e0 := []) (t := ⟨[(0, .own 0), (3, .im (.sc (.func (.func 50) #[] #[]))), (11, .ptr 2 0 0), (12, iV .i64 (IntKind.i64.wrap (a1 + (IntKind.i64.wrap ((IntKind.i64.wrap (Int.tdiv (IntKind.i64.wrap (a2 - a1)) (4 : Int))) * (1 : Int)))))), (13, iV .i64 (IntKind.i64.wrap (a1 + (IntKind.i64.wrap ((IntKind.i64.wrap (Int.tdiv (IntKind.i64.wrap (a2 - a1)) (4 : Int))) * (2 : Int)))))), (14, iV .i64 (IntKind.i64.wrap (a1 + (IntKind.i64.wrap ((IntKind.i64.wrap (Int.tdiv (IntKind.i64.wrap (a2 - a1)) (4 : Int))) * (3 : Int))))))], [(0, some (.row 4 89 (a0.map eplan_Item))), (2, some (.box 3 [iV .i64 0]))], 1⟩) (by kernel_rfl)) (And.intro rfl rfl))
      · obtain ⟨x627, x628, x629, x630⟩ := o641
        rintro e s ⟨rfl, rfl⟩
        obtain ⟨t633, e634, H⟩ := bind_of H
        refine reg hP hn hm [(5, .call [(0, 0), (2, 1)] [(0, 0), (1, 2)] [] [] 2 (iV .i64 t633.1) [(0, some (.row 4 89 (a0.map eplan_Item))), (1, some (.box 3 [iV .i64 t633.2]))])] [11, 13] [0, 2] ⟨[(11, .ptr 2 0 0), (13, iV .i64 t633.1)], [(0, some (.row 4 89 (a0.map eplan_Item))), (2, some (.box 3 [iV .i64 t633.2]))], 1⟩ [Enters Try.prog 126, Pv.Fn Try.prog 126 [.own 0, iV .i64 x628, iV .i64 x629, iV .i64 x630, .ptr 1 0 0, .im (.sc (.func (.func 50) #[] #[]))] [(0, some (.row 4 89 (a0.map eplan_Item))), (1, some (.box 3 [iV .i64 x627]))] 2 (fun r o => r = iV .i64 t633.1 ∧ o = [(0, some (.row 4 89 (a0.map eplan_Item))), (1, some (.box 3 [iV .i64 t633.2]))])] (by kernel_rfl) ⟨by exact Try.call126, by exact f_slices_medianCmpFunc_plan_Item_plan_sorted_1_5f3.ok a0 x628 x629 x630 x627 t633 e634, trivial⟩ ?_
        obtain rfl := Option.some.inj H
        exact Exists.intro _ (And.intro (fun _ _ h => h.conv (inv := [(2, 3), (0, 0)]) (vk := []) (e0 := []) (t := ⟨[(11, .ptr 3 0 0), (13, iV .i64 t633.1)], [(0, some (.row 4 89 (a0.map eplan_Item))), (3, some (.box 3 [iV .i64 t633.2]))], 1⟩) (by kernel_rfl)) (And.intro rfl rfl))
    · replace H := (ifF c580).symm.trans H
      refine AWp.skip ?_
      obtain rfl := Option.some.inj H
      exact Exists.intro _ (And.intro (fun _ _ h => h.conv (inv := [(1, 3), (0, 0)]) (vk := []) (e0 := []) (t := ⟨[(11, .ptr 3 0 0), (13, iV .i64 (IntKind.i64.wrap (a1 + (IntKind.i64.wrap ((IntKind.i64.wrap (Int.tdiv (IntKind.i64.wrap (a2 - a1)) (4 : Int))) * (2 : Int))))))], [(0, some (.row 4 89 (a0.map eplan_Item))), (3, some (.box 3 [iV .i64 0]))], 1⟩) (by kernel_rfl)) (And.intro rfl rfl))
  · obtain ⟨x635, x636⟩ := o639
    rintro e s ⟨rfl, rfl⟩
    refine AWp.seq ?_
    refine reg hP hn hm [] [13, 55] [0] ⟨[(13, iV .i64 x636), (55, iV .i64 x635)], [(0, some (.row 4 89 (a0.map eplan_Item)))], 1⟩ [] (by kernel_rfl) trivial ?_
    refine AWp.block ?_
    refine AWp.seq ?_
    refine reg hP hn hm [] [13, 55, 57] [0] ⟨[(13, iV .i64 x636), (55, iV .i64 x635), (57, bV (x635 == (0 : Int)))], [(0, some (.row 4 89 (a0.map eplan_Item)))], 1⟩ [] (by kernel_rfl) trivial ?_
    refine AWp.cond (x635 == (0 : Int)) rfl (fun c637 => ?_) (fun c637 => ?_)
    · replace H := (ifT c637).symm.trans H
      refine AWp.seq ?_
      refine reg hP hn hm [] [8, 9] [0] ⟨[(8, iV .i64 x636), (9, iV .i64 1)], [(0, some (.row 4 89 (a0.map eplan_Item)))], 1⟩ [] (by kernel_rfl) trivial ?_
      refine AWp.conv (inv := [(0, 0)]) (vk := []) (e0 := []) (t := ⟨[(8, iV .i64 x636), (9, iV .i64 1)], [(0, some (.row 4 89 (a0.map eplan_Item)))], 1⟩) (by kernel_rfl) ?_
      refine AWp.ret ?_
      obtain rfl := Option.some.inj H
      exact Exists.intro _ (And.intro (fun _ _ h => h) (And.intro (.inl rfl) (And.intro rfl (And.intro (by kernel_rfl) (by kernel_rfl)))))
    · replace H := (ifF c637).symm.trans H
      refine AWp.seq ?_
      refine reg hP hn hm [] [13, 60] [0] ⟨[(13, iV .i64 x636), (60, bV (x635 == (12 : Int)))], [(0, some (.row 4 89 (a0.map eplan_Item)))], 1⟩ [] (by kernel_rfl) trivial ?_
      refine AWp.cond (x635 == (12 : Int)) rfl (fun c638 => ?_) (fun c638 => ?_)
      · replace H := (ifT c638).symm.trans H
        refine AWp.seq ?_
        refine reg hP hn hm [] [8, 9] [0] ⟨[(8, iV .i64 x636), (9, iV .i64 2)], [(0, some (.row 4 89 (a0.map eplan_Item)))], 1⟩ [] (by kernel_rfl) trivial ?_
        refine AWp.conv (inv := [(0, 0)]) (vk := []) (e0 := []) (t := ⟨[(8, iV .i64 x636), (9, iV .i64 2)], [(0, some (.row 4 89 (a0.map eplan_Item)))], 1⟩) (by kernel_rfl) ?_
        refine AWp.ret ?_
        obtain rfl := Option.some.inj H
        exact Exists.intro _ (And.intro (fun _ _ h => h) (And.intro (.inl rfl) (And.intro rfl (And.intro (by kernel_rfl) (by kernel_rfl)))))
      · replace H := (ifF c638).symm.trans H
        refine AWp.seq ?_
        refine reg hP hn hm [] [8, 9] [0] ⟨[(8, iV .i64 x636), (9, iV .i64 0)], [(0, some (.row 4 89 (a0.map eplan_Item)))], 1⟩ [] (by kernel_rfl) trivial ?_
        refine AWp.conv (inv := [(0, 0)]) (vk := []) (e0 := []) (t := ⟨[(8, iV .i64 x636), (9, iV .i64 0)], [(0, some (.row 4 89 (a0.map eplan_Item)))], 1⟩) (by kernel_rfl) ?_
        refine AWp.ret ?_
        obtain rfl := Option.some.inj H
        exact Exists.intro _ (And.intro (fun _ _ h => h) (And.intro (.inl rfl) (And.intro rfl (And.intro (by kernel_rfl) (by kernel_rfl)))))
def f_slices_reverseRangeCmpFunc_plan_Item_plan_sorted_1.l0 (x667 : List Tplan_Item) (x668 : Int) (x669 : Int) : Option (List Tplan_Item) := if (decide (x668 < x669)) = true then ((at? x667 x669) >>= fun b680 => (at? x667 x668) >>= fun b683 => (at? (x667.set (Int.toNat (x668)) b680) x669) >>= fun b686 => f_slices_reverseRangeCmpFunc_plan_Item_plan_sorted_1.l0  ((x667.set (Int.toNat (x668)) b680).set (Int.toNat (x669)) b683) (IntKind.i64.wrap (x668 + (1 : Int))) (IntKind.i64.wrap (x669 - (1 : Int)))) else (some x667)
partial_fixpoint
def f_slices_reverseRangeCmpFunc_plan_Item_plan_sorted_1.f (a0 : List Tplan_Item) (a1 : Int) (a2 : Int) : Option (List Tplan_Item) := (f_slices_reverseRangeCmpFunc_plan_Item_plan_sorted_1.l0  a0 a1 (IntKind.i64.wrap (a2 - (1 : Int)))) >>= fun x689 => some x689
theorem f_slices_reverseRangeCmpFunc_plan_Item_plan_sorted_1.ok (a0 : List Tplan_Item) (a1 : Int) (a2 : Int) (r : List Tplan_Item) (H : f_slices_reverseRangeCmpFunc_plan_Item_plan_sorted_1.f a0 a1 a2 = some r) : Pv.Fn Try.prog 108 [.own 0, iV .i64 a1, iV .i64 a2, .im (.sc (.func (.func 50) #[] #[]))] [(0, some (.row 4 89 (a0.map eplan_Item)))] 1 (fun x o => x = .tup [] ∧ o = [(0, some (.row 4 89 (r.map eplan_Item)))]) := by
  unfold f_slices_reverseRangeCmpFunc_plan_Item_plan_sorted_1.f at H
  refine Fn.bodyK [0] Try.func108 rfl rfl (fun Γ hP hn => ?_)
  have hm : Try.prog.follows .mixedOrders = true := by kernel_rfl
  replace hn : Γ.n = 34 := hn
  refine AWp.seq ?_
  refine reg hP hn hm [] [0, 2, 8] [0] ⟨[(0, .own 0), (2, iV .i64 a2), (8, iV .i64 a1)], [(0, some (.row 4 89 (a0.map eplan_Item)))], 1⟩ [] (by kernel_rfl) trivial ?_
  refine AWp.seq ?_
  refine reg hP hn hm [] [0, 8, 9] [0] ⟨[(0, .own 0), (8, iV .i64 a1), (9, iV .i64 (IntKind.i64.wrap (a2 - (1 : Int))))], [(0, some (.row 4 89 (a0.map eplan_Item)))], 1⟩ [] (by kernel_rfl) trivial ?_
  refine AWp.block ?_
  obtain ⟨o690, e691, H⟩ := bind_of H
  refine AWp.loop (LWp.conv (inv := [(0, 0)]) (vk := []) (e0 := []) (t := ⟨[(0, .own 0), (8, iV .i64 a1), (9, iV .i64 (IntKind.i64.wrap (a2 - (1 : Int))))], [(0, some (.row 4 89 (a0.map eplan_Item)))], 1⟩) (by kernel_rfl) ?_)
  refine LWp.mono (Q := fun e s => (match (generalizing := false) o690 with | x689 => e = .exit 0 ∧ s = ⟨[], [(0, some (.row 4 89 (x689.map eplan_Item)))], 1⟩)) (LWp.cv (withBody (fun body hbody => ?_))) ?_
  · refine f_slices_reverseRangeCmpFunc_plan_Item_plan_sorted_1.l0.partial_correctness  (motive := fun x667 x668 x669 o690 => LWp Γ body (fun e s => ∃ t, Cv Γ s t ∧ (match (generalizing := false) o690 with | x689 => e = .exit 0 ∧ t = ⟨[], [(0, some (.row 4 89 (x689.map eplan_Item)))], 1⟩)) ⟨[(0, .own 0), (8, iV .i64 x668), (9, iV .i64 x669)], [(0, some (.row 4 89 (x667.map eplan_Item)))], 1⟩) ?_ _ _ _ _ e691
    clear H e691 o690; intro self ih x667 x668 x669 o690 H
    subst hbody
    refine LWp.round ?_
    refine AWp.seq ?_
    refine AWp.seq ?_
    refine reg hP hn hm [] [0, 8, 9, 15] [0] ⟨[(0, .own 0), (8, iV .i64 x668), (9, iV .i64 x669), (15, bV (decide (x668 < x669)))], [(0, some (.row 4 89 (x667.map eplan_Item)))], 1⟩ [] (by kernel_rfl) trivial ?_
    refine AWp.cond (decide (x668 < x669)) rfl (fun c670 => ?_) (fun c670 => ?_)
    · replace H := (ifT c670).symm.trans H
      refine AWp.skip ?_
      refine AWp.block ?_
      refine AWp.seq ?_
      obtain ⟨b680, p681, q682, H⟩ := at_of H
      obtain ⟨b683, p684, q685, H⟩ := at_of H
      obtain ⟨b686, p687, q688, H⟩ := at_of H
      refine reg hP hn hm [(7, .c (eplan_Item b680)), (11, .c (eplan_Item b683)), (13, .put (eplan_Item b683) ((x667.set (Int.toNat (x668)) b680).map eplan_Item)), (15, .put (eplan_Item b686) (((x667.set (Int.toNat (x668)) b680).set (Int.toNat (x669)) b683).map eplan_Item))] [0, 8, 9] [0] ⟨[(0, .own 0), (8, iV .i64 x668), (9, iV .i64 x669)], [(0, some (.row 4 89 (((x667.set (Int.toNat (x668)) b680).set (Int.toNat (x669)) b683).map eplan_Item)))], 1⟩ [0 ≤ x669, x669 < (((x667.map eplan_Item).length : Nat) : Int), (x667.map eplan_Item)[(Int.toNat (x669))]? = some (eplan_Item b680), 0 ≤ x668, x668 < (((x667.map eplan_Item).length : Nat) : Int), (x667.map eplan_Item)[(Int.toNat (x668))]? = some (eplan_Item b683), 0 ≤ x668, x668 < (((x667.map eplan_Item).length : Nat) : Int), (x667.map eplan_Item)[(Int.toNat (x668))]? = some (eplan_Item b683), (x667.set (Int.toNat (x668)) b680).map eplan_Item = (x667.map eplan_Item).set (Int.toNat (x668)) (splice (eplan_Item b683) 0 [iI .i64 b680.f0, iI .i64 b680.f1.f0, iI .i64 b680.f1.f1, iI .i64 b680.f1.f2]), 0 ≤ x669, x669 < ((((x667.set (Int.toNat (x668)) b680).map eplan_Item).length : Nat) : Int), ((x667.set (Int.toNat (x668)) b680).map eplan_Item)[(Int.toNat (x669))]? = some (eplan_Item b686), ((x667.set (Int.toNat (x668)) b680).set (Int.toNat (x669)) b683).map eplan_Item = ((x667.set (Int.toNat (x668)) b680).map eplan_Item).set (Int.toNat (x669)) (splice (eplan_Item b686) 0 [iI .i64 b683.f0, iI .i64 b683.f1.f0, iI .i64 b683.f1.f1, iI .i64 b683.f1.f2])] (by kernel_rfl) ⟨by exact p681, by exact el_lt eplan_Item p681 q682, by exact el_map eplan_Item q682, by exact p684, by exact el_lt eplan_Item p684 q685, by exact el_map eplan_Item q685, by exact p684, by exact el_lt eplan_Item p684 q685, by exact el_map eplan_Item q685, by exact set1 _ _ _ _, by exact p687, by exact el_lt eplan_Item p687 q688, by exact el_map eplan_Item q688, by exact set1 _ _ _ _, trivial⟩ ?_
      refine AWp.seq ?_
      refine reg hP hn hm [] [0, 8, 9] [0] ⟨[(0, .own 0), (8, iV .i64 (IntKind.i64.wrap (x668 + (1 : Int)))), (9, iV .i64 x669)], [(0, some (.row 4 89 (((x667.set (Int.toNat (x668)) b680).set (Int.toNat (x669)) b683).map eplan_Item)))], 1⟩ [] (by kernel_rfl) trivial ?_
      refine reg hP hn hm [] [0, 8, 9] [0] ⟨[(0, .own 0), (8, iV .i64 (IntKind.i64.wrap (x668 + (1 : Int)))), (9, iV .i64 (IntKind.i64.wrap (x669 - (1 : Int))))], [(0, some (.row 4 89 (((x667.set (Int.toNat (x668)) b680).set (Int.toNat (x669)) b683).map eplan_Item)))], 1⟩ [] (by kernel_rfl) trivial ?_
      exact LWp.conv (inv := [(0, 0)]) (vk := []) (e0 := []) (t := ⟨[(0, .own 0), (8, iV .i64 (IntKind.i64.wrap (x668 + (1 : Int)))), (9, iV .i64 (IntKind.i64.wrap (x669 - (1 : Int))))], [(0, some (.row 4 89 (((x667.set (Int.toNat (x668)) b680).set (Int.toNat (x669)) b683).map eplan_Item)))], 1⟩) (by kernel_rfl) (ih _ _ _ _ H)
    · replace H := (ifF c670).symm.trans H
      refine AWp.exit ?_
      obtain rfl := Option.some.inj H
      exact Exists.intro _ (And.intro (fun _ _ h => h.conv (inv := [(0, 0)]) (vk := []) (e0 := []) (t := ⟨[], [(0, some (.row 4 89 (x667.map eplan_Item)))], 1⟩) (by kernel_rfl)) (And.intro rfl rfl))
  · obtain ⟨x689, rfl⟩ : ∃ z, z = o690 := ⟨_, rfl⟩
    rintro e s ⟨rfl, rfl⟩
    obtain rfl := Option.some.inj H
    exact Exists.intro ⟨[], [(0, some (.row 4 89 (x689.map eplan_Item)))], 1⟩ (And.intro (fun _ _ h => h.conv (inv := [(0, 0)]) (vk := []) (e0 := []) (t := ⟨[], [(0, some (.row 4 89 (x689.map eplan_Item)))], 1⟩) (by kernel_rfl)) (And.intro (.inr rfl) (And.intro rfl (And.intro (by kernel_rfl) (by kernel_rfl)))))
def f_slices_partialInsertionSortCmpFunc_plan_Item_plan_sorted_1.l1 (a1 : Int) (a2 : Int) (x868 : List Tplan_Item) (x870 : Int) (x892 : Int) : Option (Int) := ((if (decide (x892 < a2)) = true then ((at? x868 x892) >>= fun b903 => (at? x868 (IntKind.i64.wrap (x892 - (1 : Int)))) >>= fun b906 => (f_plan_sorted_1.f b903 b906) >>= fun t909 => some (!(decide (t909 < (0 : Int))))) else (some false)) : Option (Bool)) >>= fun x911 => if x911 = true then (f_slices_partialInsertionSortCmpFunc_plan_Item_plan_sorted_1.l1 a1 a2 x868 x870 (IntKind.i64.wrap (x892 + (1 : Int)))) else (some x892)
partial_fixpoint
def f_slices_partialInsertionSortCmpFunc_plan_Item_plan_sorted_1.l2 (a1 : Int) (a2 : Int) (x870 : Int) (x913 : Int) (x959 : List Tplan_Item) (x960 : Int) : Option (List Tplan_Item) := if (decide (x960 ≥ (1 : Int))) = true then ((at? x959 x960) >>= fun b970 => (at? x959 (IntKind.i64.wrap (x960 - (1 : Int)))) >>= fun b973 => (f_plan_sorted_1.f b970 b973) >>= fun t976 => if (!(decide (t976 < (0 : Int)))) = true then (some x959) else ((at? (x959.set (Int.toNat (x960)) b973) (IntKind.i64.wrap (x960 - (1 : Int)))) >>= fun b982 => f_slices_partialInsertionSortCmpFunc_plan_Item_plan_sorted_1.l2 a1 a2 x870 x913 ((x959.set (Int.toNat (x960)) b973).set (Int.toNat (IntKind.i64.wrap (x960 - (1 : Int)))) b970) (IntKind.i64.wrap (x960 - (1 : Int))))) else (some x959)
partial_fixpoint
def f_slices_partialInsertionSortCmpFunc_plan_Item_plan_sorted_1.l3 (a1 : Int) (a2 : Int) (x870 : Int) (x913 : Int) (x1012 : List Tplan_Item) (x1013 : Int) : Option (List Tplan_Item) := if (decide (x1013 < a2)) = true then ((at? x1012 x1013) >>= fun b1023 => (at? x1012 (IntKind.i64.wrap (x1013 - (1 : Int)))) >>= fun b1026 => (f_plan_sorted_1.f b1023 b1026) >>= fun t1029 => if (!(decide (t1029 < (0 : Int)))) = true then (some x1012) else ((at? (x1012.set (Int.toNat (x1013)) b1026) (IntKind.i64.wrap (x1013 - (1 : Int)))) >>= fun b1035 => f_slices_partialInsertionSortCmpFunc_plan_Item_plan_sorted_1.l3 a1 a2 x870 x913 ((x1012.set (Int.toNat (x1013)) b1026).set (Int.toNat (IntKind.i64.wrap (x1013 - (1 : Int)))) b1023) (IntKind.i64.wrap (x1013 + (1 : Int))))) else (some x1012)
partial_fixpoint
def f_slices_partialInsertionSortCmpFunc_plan_Item_plan_sorted_1.l0 (a1 : Int) (a2 : Int) (x868 : List Tplan_Item) (x869 : Int) (x870 : Int) : Option ((Bool × (List Tplan_Item)) ⊕ (List Tplan_Item)) := if (decide (x870 < (5 : Int))) = true then ((f_slices_partialInsertionSortCmpFunc_plan_Item_plan_sorted_1.l1 a1 a2 x868 x870 x869) >>= fun x913 => if (x913 == a2) = true then (some (.inl (true, x868))) else (if (decide ((IntKind.i64.wrap (a2 - a1)) < (50 : Int))) = true then (some (.inl (false, x868))) else ((at? x868 (IntKind.i64.wrap (x913 - (1 : Int)))) >>= fun b925 => (at? x868 x913) >>= fun b928 => (at? (x868.set (Int.toNat (x913)) b925) (IntKind.i64.wrap (x913 - (1 : Int)))) >>= fun b931 => ((if (decide ((IntKind.i64.wrap (x913 - a1)) ≥ (2 : Int))) = true then ((f_slices_partialInsertionSortCmpFunc_plan_Item_plan_sorted_1.l2 a1 a2 x870 x913 ((x868.set (Int.toNat (x913)) b925).set (Int.toNat (IntKind.i64.wrap (x913 - (1 : Int)))) b928) (IntKind.i64.wrap (x913 - (1 : Int)))) >>= fun x985 => some x985) else (some ((x868.set (Int.toNat (x913)) b925).set (Int.toNat (IntKind.i64.wrap (x913 - (1 : Int)))) b928))) : Option (List Tplan_Item)) >>= fun x986 => ((if (decide ((IntKind.i64.wrap (a2 - x913)) ≥ (2 : Int))) = true then ((f_slices_partialInsertionSortCmpFunc_plan_Item_plan_sorted_1.l3 a1 a2 x870 x913 x986 (IntKind.i64.wrap (x913 + (1 : Int)))) >>= fun x1038 => some x1038) else (some x986)) : Option (List Tplan_Item)) >>= fun x1039 => f_slices_partialInsertionSortCmpFunc_plan_Item_plan_sorted_1.l0 a1 a2 x1039 x913 (IntKind.i64.wrap (x870 + (1 : Int)))))) else (some (.inr x868))
partial_fixpoint
def f_slices_partialInsertionSortCmpFunc_plan_Item_plan_sorted_1.f (a0 : List Tplan_Item) (a1 : Int) (a2 : Int) : Option (Bool × (List Tplan_Item)) := (f_slices_partialInsertionSortCmpFunc_plan_Item_plan_sorted_1.l0 a1 a2 a0 (IntKind.i64.wrap (a1 + (1 : Int))) 0) >>= fun oo => match oo with | .inl rr => (some rr) | .inr x1040 => (some (false, x1040))
theorem f_slices_partialInsertionSortCmpFunc_plan_Item_plan_sorted_1.ok (a0 : List Tplan_Item) (a1 : Int) (a2 : Int) (r : Bool × (List Tplan_Item)) (H : f_slices_partialInsertionSortCmpFunc_plan_Item_plan_sorted_1.f a0 a1 a2 = some r) : Pv.Fn Try.prog 109 [.own 0, iV .i64 a1, iV .i64 a2, .im (.sc (.func (.func 50) #[] #[]))] [(0, some (.row 4 89 (a0.map eplan_Item)))] 1 (fun x o => x = bV r.1 ∧ o = [(0, some (.row 4 89 (r.2.map eplan_Item)))]) := by
  unfold f_slices_partialInsertionSortCmpFunc_plan_Item_plan_sorted_1.f at H
  refine Fn.bodyK [0] Try.func109 rfl rfl (fun Γ hP hn => ?_)
  have hm : Try.prog.follows .mixedOrders = true := by kernel_rfl
  replace hn : Γ.n = 141 := hn
  refine AWp.seq ?_
  refine reg hP hn hm [] [0, 1, 2, 3] [0] ⟨[(0, .own 0), (1, iV .i64 a1), (2, iV .i64 a2), (3, .im (.sc (.func (.func 50) #[] #[])))], [(0, some (.row 4 89 (a0.map eplan_Item)))], 1⟩ [] (by kernel_rfl) trivial ?_
  refine AWp.seq ?_
  refine reg hP hn hm [] [0, 1, 2, 3, 9] [0] ⟨[(0, .own 0), (1, iV .i64 a1), (2, iV .i64 a2), (3, .im (.sc (.func (.func 50) #[] #[]))), (9, iV .i64 (IntKind.i64.wrap (a1 + (1 : Int))))], [(0, some (.row 4 89 (a0.map eplan_Item)))], 1⟩ [] (by kernel_rfl) trivial ?_
  refine AWp.seq ?_
  refine AWp.seq ?_
  refine reg hP hn hm [] [0, 1, 2, 3, 9, 10] [0] ⟨[(0, .own 0), (1, iV .i64 a1), (2, iV .i64 a2), (3, .im (.sc (.func (.func 50) #[] #[]))), (9, iV .i64 (IntKind.i64.wrap (a1 + (1 : Int)))), (10, iV .i64 0)], [(0, some (.row 4 89 (a0.map eplan_Item)))], 1⟩ [] (by kernel_rfl) trivial ?_
  refine AWp.block ?_
  obtain ⟨o1041, e1042, H⟩ := bind_of H
  refine AWp.loop (LWp.conv (inv := [(0, 0)]) (vk := []) (e0 := []) (t := ⟨[(0, .own 0), (1, iV .i64 a1), (2, iV .i64 a2), (3, .im (.sc (.func (.func 50) #[] #[]))), (9, iV .i64 (IntKind.i64.wrap (a1 + (1 : Int)))), (10, iV .i64 0)], [(0, some (.row 4 89 (a0.map eplan_Item)))], 1⟩) (by kernel_rfl) ?_)
  refine LWp.mono (Q := fun e s => (match (generalizing := false) o1041 with | .inl rr => e = .ret ∧ s.floor = 1 ∧ resOf Try.prog Try.f109 s = some (bV rr.1) ∧ ([(0, s.obj 0)] : List (Nat × Option MObj)) = [(0, some (.row 4 89 (rr.2.map eplan_Item)))] | .inr x1040 => e = .exit 0 ∧ s = ⟨[], [(0, some (.row 4 89 (x1040.map eplan_Item)))], 1⟩)) (LWp.cv (withBody (fun body hbody => ?_))) ?_
  · refine f_slices_partialInsertionSortCmpFunc_plan_Item_plan_sorted_1.l0.partial_correctness a1 a2 (motive := fun x868 x869 x870 o1041 => LWp Γ body (fun e s => ∃ t, Cv Γ s t ∧ (match (generalizing := false) o1041 with | .inl rr => e = .ret ∧ t.floor = 1 ∧ resOf Try.prog Try.f109 t = some (bV rr.1) ∧ ([(0, t.obj 0)] : List (Nat × Option MObj)) = [(0, some (.row 4 89 (rr.2.map eplan_Item)))] | .inr x1040 => e = .exit 0 ∧ t = ⟨[], [(0, some (.row 4 89 (x1040.map eplan_Item)))], 1⟩)) ⟨[(0, .own 0), (1, iV .i64 a1), (2, iV .i64 a2), (3, .im (.sc (.func (.func 50) #[] #[]))), (9, iV .i64 x869), (10, iV .i64 x870)], [(0, some (.row 4 89 (x868.map eplan_Item)))], 1⟩) ?_ _ _ _ _ e1042
    clear H e1042 o1041; intro self ih x868 x869 x870 o1041 H
    subst hbody
    refine LWp.round ?_
    refine AWp.seq ?_
    refine AWp.seq ?_
    refine reg hP hn hm [] [0, 1, 2, 3, 9, 10, 16] [0] ⟨[(0, .own 0), (1, iV .i64 a1), (2, iV .i64 a2), (3, .im (.sc (.func (.func 50) #[] #[]))), (9, iV .i64 x869), (10, iV .i64 x870), (16, bV (decide (x870 < (5 : Int))))], [(0, some (.row 4 89 (x868.map eplan_Item)))], 1⟩ [] (by kernel_rfl) trivial ?_
    refine AWp.cond (decide (x870 < (5 : Int))) rfl (fun c871 => ?_) (fun c871 => ?_)
    · replace H := (ifT c871).symm.trans H
      refine AWp.skip ?_
      refine AWp.seq ?_
      refine AWp.block ?_
      refine AWp.seq ?_
      refine AWp.block ?_
      obtain ⟨o1043, e1044, H⟩ := bind_of H
      refine AWp.loop (LWp.conv (inv := [(0, 0)]) (vk := []) (e0 := []) (t := ⟨[(0, .own 0), (1, iV .i64 a1), (2, iV .i64 a2), (3, .im (.sc (.func (.func 50) #[] #[]))), (9, iV .i64 x869), (10, iV .i64 x870)], [(0, some (.row 4 89 (x868.map eplan_Item)))], 1⟩) (by kernel_rfl) ?_)
      refine LWp.mono (Q := fun e s => (match (generalizing := false) o1043 with | x913 => e = .exit 2 ∧ s = ⟨[(0, .own 0), (1, iV .i64 a1), (2, iV .i64 a2), (3, .im (.sc (.func (.func 50) #[] #[]))), (9, iV .i64 x913), (10, iV .i64 x870)], [(0, some (.row 4 89 (x868.map eplan_Item)))], 1⟩)) (LWp.cv (withBody (fun body hbody => ?_))) ?_
      · refine f_slices_partialInsertionSortCmpFunc_plan_Item_plan_sorted_1.l1.partial_correctness a1 a2 x868 x870 (motive := fun x892 o1043 => LWp Γ body (fun e s => ∃ t, Cv Γ s t ∧ (match (generalizing := false) o1043 with | x913 => e = .exit 2 ∧ t = ⟨[(0, .own 0), (1, iV .i64 a1), (2, iV .i64 a2), (3, .im (.sc (.func (.func 50) #[] #[]))), (9, iV .i64 x913), (10, iV .i64 x870)], [(0, some (.row 4 89 (x868.map eplan_Item)))], 1⟩)) ⟨[(0, .own 0), (1, iV .i64 a1), (2, iV .i64 a2), (3, .im (.sc (.func (.func 50) #[] #[]))), (9, iV .i64 x892), (10, iV .i64 x870)], [(0, some (.row 4 89 (x868.map eplan_Item)))], 1⟩) ?_ _ _ e1044
        clear H e1044 o1043; intro self ih x892 o1043 H
        subst hbody
        refine LWp.round ?_
        refine AWp.seq ?_
        refine AWp.seq ?_
        obtain ⟨o1045, e1046, H⟩ := bind_of H
        refine AWp.mono (Q := fun e s => (match (generalizing := false) o1045 with | x911 => e = .normal ∧ s = ⟨[(0, .own 0), (1, iV .i64 a1), (2, iV .i64 a2), (3, .im (.sc (.func (.func 50) #[] #[]))), (9, iV .i64 x892), (10, iV .i64 x870), (36, bV x911)], [(0, some (.row 4 89 (x868.map eplan_Item)))], 1⟩)) (AWp.cv ?_) ?_
        · replace H := e1046; clear e1046
          rcases Bool.eq_false_or_eq_true (decide (x892 < a2)) with c902 | c902
          · replace H := (ifT c902).symm.trans H
            obtain ⟨b903, p904, q905, H⟩ := at_of H
            obtain ⟨b906, p907, q908, H⟩ := at_of H
            obtain ⟨t909, e910, H⟩ := bind_of H
            refine reg hP hn hm [(3, .b true), (8, .c (eplan_Item b903)), (13, .c (eplan_Item b906)), (14, .call [] [] [] [] 0 (iV .i64 t909) [])] [0, 1, 2, 3, 9, 10, 23, 24, 25, 26, 27, 28, 29, 30, 31, 32, 33, 34, 35, 36] [0] ⟨[(0, .own 0), (1, iV .i64 a1), (2, iV .i64 a2), (3, .im (.sc (.func (.func 50) #[] #[]))), (9, iV .i64 x892), (10, iV .i64 x870), (23, .im (.sc (.func (.func 50) #[] #[]))), (24, .own 0), (25, iV .i64 x892), (26, .ptr 0 (Int.toNat (x892)) 0), (27, .agg (apluvialref17_Item ⟨b903.f0, b903.f1.f0, b903.f1.f1, b903.f1.f2⟩)), (28, .own 0), (29, iV .i64 x892), (30, iV .i64 (IntKind.i64.wrap (x892 - (1 : Int)))), (31, .ptr 0 (Int.toNat (IntKind.i64.wrap (x892 - (1 : Int)))) 0), (32, .agg (apluvialref17_Item ⟨b906.f0, b906.f1.f0, b906.f1.f1, b906.f1.f2⟩)), (33, iV .i64 t909), (34, bV (decide (t909 < (0 : Int)))), (35, bV (!(decide (t909 < (0 : Int))))), (36, bV (!(decide (t909 < (0 : Int)))))], [(0, some (.row 4 89 (x868.map eplan_Item)))], 1⟩ [(decide (x892 < a2)) = true, 0 ≤ x892, x892 < (((x868.map eplan_Item).length : Nat) : Int), (x868.map eplan_Item)[(Int.toNat (x892))]? = some (eplan_Item b903), 0 ≤ (IntKind.i64.wrap (x892 - (1 : Int))), IntKind.i64.wrap (x892 - (1 : Int)) < (((x868.map eplan_Item).length : Nat) : Int), (x868.map eplan_Item)[(Int.toNat (IntKind.i64.wrap (x892 - (1 : Int))))]? = some (eplan_Item b906), Enters Try.prog 50, Pv.Fn Try.prog 50 [.agg (apluvialref17_Item ⟨b903.f0, b903.f1.f0, b903.f1.f1, b903.f1.f2⟩), .agg (apluvialref17_Item ⟨b906.f0, b906.f1.f0, b906.f1.f1, b906.f1.f2⟩)] [] 0 (fun r o => r = iV .i64 t909 ∧ o = [])] (by kernel_rfl) ⟨by exact c902, by exact p904, by exact el_lt eplan_Item p904 q905, by exact el_map eplan_Item q905, by exact p907, by exact el_lt eplan_Item p907 q908, by exact el_map eplan_Item q908, by exact Try.call50, by exact f_plan_sorted_1.ok b903 b906 t909 e910, trivial⟩ ?_
            obtain rfl := Option.some.inj H
            exact Exists.intro _ (And.intro (fun _ _ h => h.conv (inv := [(0, 0)]) (vk := []) (e0 := []) (t := ⟨[(0, .own 0), (1, iV .i64 a1), (2, iV .i64 a2), (3, .im (.sc (.func (.func 50) #[] #[]))), (9, iV .i64 x892), (10, iV .i64 x870), (36, bV (!(decide (t909 < (0 : Int)))))], [(0, some (.row 4 89 (x868.map eplan_Item)))], 1⟩) (by kernel_rfl)) (And.intro rfl rfl))
          · replace H := (ifF c902).symm.trans H
            refine reg hP hn hm [(3, .b false)] [0, 1, 2, 3, 9, 10, 36] [0] ⟨[(0, .own 0), (1, iV .i64 a1), (2, iV .i64 a2), (3, .im (.sc (.func (.func 50) #[] #[]))), (9, iV .i64 x892), (10, iV .i64 x870), (36, bV false)], [(0, some (.row 4 89 (x868.map eplan_Item)))], 1⟩ [(decide (x892 < a2)) = false] (by kernel_rfl) ⟨by exact c902, trivial⟩ ?_
            obtain rfl := Option.some.inj H
            exact Exists.intro _ (And.intro (fun _ _ h => h.conv (inv := [(0, 0)]) (vk := []) (e0 := []) (t := ⟨[(0, .own 0), (1, iV .i64 a1), (2, iV .i64 a2), (3, .im (.sc (.func (.func 50) #[] #[]))), (9, iV .i64 x892), (10, iV .i64 x870), (36, bV false)], [(0, some (.row 4 89 (x868.map eplan_Item)))], 1⟩) (by kernel_rfl)) (And.intro rfl rfl))
        · obtain ⟨x911, rfl⟩ : ∃ z, z = o1045 := ⟨_, rfl⟩
          rintro e s ⟨rfl, rfl⟩
          refine AWp.cond x911 rfl (fun c912 => ?_) (fun c912 => ?_)
          · replace H := (ifT c912).symm.trans H
            refine AWp.skip ?_
            refine AWp.block ?_
            refine reg hP hn hm [] [0, 1, 2, 3, 9, 10] [0] ⟨[(0, .own 0), (1, iV .i64 a1), (2, iV .i64 a2), (3, .im (.sc (.func (.func 50) #[] #[]))), (9, iV .i64 (IntKind.i64.wrap (x892 + (1 : Int)))), (10, iV .i64 x870)], [(0, some (.row 4 89 (x868.map eplan_Item)))], 1⟩ [] (by kernel_rfl) trivial ?_
            exact LWp.conv (inv := [(0, 0)]) (vk := []) (e0 := []) (t := ⟨[(0, .own 0), (1, iV .i64 a1), (2, iV .i64 a2), (3, .im (.sc (.func (.func 50) #[] #[]))), (9, iV .i64 (IntKind.i64.wrap (x892 + (1 : Int)))), (10, iV .i64 x870)], [(0, some (.row 4 89 (x868.map eplan_Item)))], 1⟩) (by kernel_rfl) (ih _ _ H)
          · replace H := (ifF c912).symm.trans H
            refine AWp.exit ?_
            obtain rfl := Option.some.inj H
            exact Exists.intro _ (And.intro (fun _ _ h => h.conv (inv := [(0, 0)]) (vk := []) (e0 := []) (t := ⟨[(0, .own 0), (1, iV .i64 a1), (2, iV .i64 a2), (3, .im (.sc (.func (.func 50) #[] #[]))), (9, iV .i64 x892), (10, iV .i64 x870)], [(0, some (.row 4 89 (x868.map eplan_Item)))], 1⟩) (by kernel_rfl)) (And.intro rfl rfl))
      · obtain ⟨x913, rfl⟩ : ∃ z, z = o1043 := ⟨_, rfl⟩
        rintro e s ⟨rfl, rfl⟩
        refine AWp.seq ?_
        refine AWp.seq ?_
        refine reg hP hn hm [] [0, 1, 2, 3, 9, 10, 41] [0] ⟨[(0, .own 0), (1, iV .i64 a1), (2, iV .i64 a2), (3, .im (.sc (.func (.func 50) #[] #[]))), (9, iV .i64 x913), (10, iV .i64 x870), (41, bV (x913 == a2))], [(0, some (.row 4 89 (x868.map eplan_Item)))], 1⟩ [] (by kernel_rfl) trivial ?_
        refine AWp.cond (x913 == a2) rfl (fun c914 => ?_) (fun c914 => ?_)
        · replace H := (ifT c914).symm.trans H
          refine AWp.seq ?_
          refine reg hP hn hm [] [8] [0] ⟨[(8, bV true)], [(0, some (.row 4 89 (x868.map eplan_Item)))], 1⟩ [] (by kernel_rfl) trivial ?_
          refine AWp.conv (inv := [(0, 0)]) (vk := []) (e0 := []) (t := ⟨[(8, bV true)], [(0, some (.row 4 89 (x868.map eplan_Item)))], 1⟩) (by kernel_rfl) ?_
          refine AWp.ret ?_
          obtain rfl := Option.some.inj H
          exact Exists.intro _ (And.intro (fun _ _ h => h) (And.intro rfl (And.intro rfl (And.intro (by kernel_rfl) (by kernel_rfl)))))
        · replace H := (ifF c914).symm.trans H
          refine AWp.skip ?_
          refine AWp.seq ?_
          refine AWp.seq ?_
          refine reg hP hn hm [] [0, 1, 2, 3, 9, 10, 45] [0] ⟨[(0, .own 0), (1, iV .i64 a1), (2, iV .i64 a2), (3, .im (.sc (.func (.func 50) #[] #[]))), (9, iV .i64 x913), (10, iV .i64 x870), (45, bV (decide ((IntKind.i64.wrap (a2 - a1)) < (50 : Int))))], [(0, some (.row 4 89 (x868.map eplan_Item)))], 1⟩ [] (by kernel_rfl) trivial ?_
          refine AWp.cond (decide ((IntKind.i64.wrap (a2 - a1)) < (50 : Int))) rfl (fun c915 => ?_) (fun c915 => ?_)
          · replace H := (ifT c915).symm.trans H
            refine AWp.seq ?_
            refine reg hP hn hm [] [8] [0] ⟨[(8, bV false)], [(0, some (.row 4 89 (x868.map eplan_Item)))], 1⟩ [] (by kernel_rfl) trivial ?_
            refine AWp.conv (inv := [(0, 0)]) (vk := []) (e0 := []) (t := ⟨[(8, bV false)], [(0, some (.row 4 89 (x868.map eplan_Item)))], 1⟩) (by kernel_rfl) ?_
            refine AWp.ret ?_
            obtain rfl := Option.some.inj H
            exact Exists.intro _ (And.intro (fun _ _ h => h) (And.intro rfl (And.intro rfl (And.intro (by kernel_rfl) (by kernel_rfl)))))
          · replace H := (ifF c915).symm.trans H
            refine AWp.skip ?_
            refine AWp.seq ?_
            obtain ⟨b925, p926, q927, H⟩ := at_of H
            obtain ⟨b928, p929, q930, H⟩ := at_of H
            obtain ⟨b931, p932, q933, H⟩ := at_of H
            refine reg hP hn hm [(9, .c (eplan_Item b925)), (13, .c (eplan_Item b928)), (15, .put (eplan_Item b928) ((x868.set (Int.toNat (x913)) b925).map eplan_Item)), (17, .put (eplan_Item b931) (((x868.set (Int.toNat (x913)) b925).set (Int.toNat (IntKind.i64.wrap (x913 - (1 : Int)))) b928).map eplan_Item))] [0, 1, 2, 3, 9, 10] [0] ⟨[(0, .own 0), (1, iV .i64 a1), (2, iV .i64 a2), (3, .im (.sc (.func (.func 50) #[] #[]))), (9, iV .i64 x913), (10, iV .i64 x870)], [(0, some (.row 4 89 (((x868.set (Int.toNat (x913)) b925).set (Int.toNat (IntKind.i64.wrap (x913 - (1 : Int)))) b928).map eplan_Item)))], 1⟩ [0 ≤ (IntKind.i64.wrap (x913 - (1 : Int))), IntKind.i64.wrap (x913 - (1 : Int)) < (((x868.map eplan_Item).length : Nat) : Int), (x868.map eplan_Item)[(Int.toNat (IntKind.i64.wrap (x913 - (1 : Int))))]? = some (eplan_Item b925), 0 ≤ x913, x913 < (((x868.map eplan_Item).length : Nat) : Int), (x868.map eplan_Item)[(Int.toNat (x913))]? = some (eplan_Item b928), 0 ≤ x913, x913 < (((x868.map eplan_Item).length : Nat) : Int), (x868.map eplan_Item)[(Int.toNat (x913))]? = some (eplan_Item b928), (x868.set (Int.toNat (x913)) b925).map eplan_Item = (x868.map eplan_Item).set (Int.toNat (x913)) (splice (eplan_Item b928) 0 [iI .i64 b925.f0, iI .i64 b925.f1.f0, iI .i64 b925.f1.f1, iI .i64 b925.f1.f2]), 0 ≤ (IntKind.i64.wrap (x913 - (1 : Int))), IntKind.i64.wrap (x913 - (1 : Int)) < ((((x868.set (Int.toNat (x913)) b925).map eplan_Item).length : Nat) : Int), ((x868.set (Int.toNat (x913)) b925).map eplan_Item)[(Int.toNat (IntKind.i64.wrap (x913 - (1 : Int))))]? = some (eplan_Item b931), ((x868.set (Int.toNat (x913)) b925).set (Int.toNat (IntKind.i64.wrap (x913 - (1 : Int)))) b928).map eplan_Item = ((x868.set (Int.toNat (x913)) b925).map eplan_Item).set (Int.toNat (IntKind.i64.wrap (x913 - (1 : Int)))) (splice (eplan_Item b931) 0 [iI .i64 b928.f0, iI .i64 b928.f1.f0, iI .i64 b928.f1.f1, iI .i64 b928.f1.f2])] (by kernel_rfl) ⟨by exact p926, by exact el_lt eplan_Item p926 q927, by exact el_map eplan_Item q927, by exact p929, by exact el_lt eplan_Item p929 q930, by exact el_map eplan_Item q930, by exact p929, by exact el_lt eplan_Item p929 q930, by exact el_map eplan_Item q930, by exact set1 _ _ _ _, by exact p932, by exact el_lt eplan_Item p932 q933, by exact el_map eplan_Item q933, by exact set1 _ _ _ _, trivial⟩ ?_
            refine AWp.seq ?_
            refine AWp.seq ?_
            refine reg hP hn hm [] [0, 1, 2, 3, 9, 10, 65] [0] ⟨[(0, .own 0), (1, iV .i64 a1), (2, iV .i64 a2), (3, .im (.sc (.func (.func 50) #[] #[]))), (9, iV .i64 x913), (10, iV .i64 x870), (65, bV (decide ((IntKind.i64.wrap (x913 - a1)) ≥ (2 : Int))))], [(0, some (.row 4 89 (((x868.set (Int.toNat (x913)) b925).set (Int.toNat (IntKind.i64.wrap (x913 - (1 : Int)))) b928).map eplan_Item)))], 1⟩ [] (by kernel_rfl) trivial ?_
            obtain ⟨o1047, e1048, H⟩ := bind_of H
            refine AWp.mono (Q := fun e s => (match (generalizing := false) o1047 with | x986 => e = .normal ∧ s = ⟨[(0, .own 0), (1, iV .i64 a1), (2, iV .i64 a2), (3, .im (.sc (.func (.func 50) #[] #[]))), (9, iV .i64 x913), (10, iV .i64 x870)], [(0, some (.row 4 89 (x986.map eplan_Item)))], 1⟩)) (AWp.cv ?_) ?_
            · replace H := e1048; clear e1048
              refine AWp.cond (decide ((IntKind.i64.wrap (x913 - a1)) ≥ (2 : Int))) rfl (fun c934 => ?_) (fun c934 => ?_)
              · replace H := (ifT c934).symm.trans H
                refine AWp.seq ?_
                refine reg hP hn hm [] [0, 1, 2, 3, 9, 10, 11] [0] ⟨[(0, .own 0), (1, iV .i64 a1), (2, iV .i64 a2), (3, .im (.sc (.func (.func 50) #[] #[]))), (9, iV .i64 x913), (10, iV .i64 x870), (11, iV .i64 (IntKind.i64.wrap (x913 - (1 : Int))))], [(0, some (.row 4 89 (((x868.set (Int.toNat (x913)) b925).set (Int.toNat (IntKind.i64.wrap (x913 - (1 : Int)))) b928).map eplan_Item)))], 1⟩ [] (by kernel_rfl) trivial ?_
                refine AWp.block ?_
                obtain ⟨o1049, e1050, H⟩ := bind_of H
                refine AWp.loop (LWp.conv (inv := [(0, 0)]) (vk := []) (e0 := []) (t := ⟨[(0, .own 0), (1, iV .i64 a1), (2, iV .i64 a2), (3, .im (.sc (.func (.func 50) #[] #[]))), (9, iV .i64 x913), (10, iV .i64 x870), (11, iV .i64 (IntKind.i64.wrap (x913 - (1 : Int))))], [(0, some (.row 4 89 (((x868.set (Int.toNat (x913)) b925).set (Int.toNat (IntKind.i64.wrap (x913 - (1 : Int)))) b928).map eplan_Item)))], 1⟩) (by kernel_rfl) ?_)
                refine LWp.mono (Q := fun e s => (match (generalizing := false) o1049 with | x985 => e = .exit 4 ∧ s = ⟨[(0, .own 0), (1, iV .i64 a1), (2, iV .i64 a2), (3, .im (.sc (.func (.func 50) #[] #[]))), (9, iV .i64 x913), (10, iV .i64 x870)], [(0, some (.row 4 89 (x985.map eplan_Item)))], 1⟩)) (LWp.cv (withBody (fun body hbody => ?_))) ?_
                · refine f_slices_partialInsertionSortCmpFunc_plan_Item_plan_sorted_1.l2.partial_correctness a1 a2 x870 x913 (motive := fun x959 x960 o1049 => LWp Γ body (fun e s => ∃ t, Cv Γ s t ∧ (match (generalizing := false) o1049 with | x985 => e = .exit 4 ∧ t = ⟨[(0, .own 0), (1, iV .i64 a1), (2, iV .i64 a2), (3, .im (.sc (.func (.func 50) #[] #[]))), (9, iV .i64 x913), (10, iV .i64 x870)], [(0, some (.row 4 89 (x985.map eplan_Item)))], 1⟩)) ⟨[(0, .own 0), (1, iV .i64 a1), (2, iV .i64 a2), (3, .im (.sc (.func (.func 50) #[] #[]))), (9, iV .i64 x913), (10, iV .i64 x870), (11, iV .i64 x960)], [(0, some (.row 4 89 (x959.map eplan_Item)))], 1⟩) ?_ _ _ _ e1050
                  clear H e1050 o1049; intro self ih x959 x960 o1049 H
                  subst hbody
                  refine LWp.round ?_
                  refine AWp.seq ?_
                  refine AWp.seq ?_
                  refine reg hP hn hm [] [0, 1, 2, 3, 9, 10, 11, 69] [0] ⟨[(0, .own 0), (1, iV .i64 a1), (2, iV .i64 a2), (3, .im (.sc (.func (.func 50) #[] #[]))), (9, iV .i64 x913), (10, iV .i64 x870), (11, iV .i64 x960), (69, bV (decide (x960 ≥ (1 : Int))))], [(0, some (.row 4 89 (x959.map eplan_Item)))], 1⟩ [] (by kernel_rfl) trivial ?_
                  refine AWp.cond (decide (x960 ≥ (1 : Int))) rfl (fun c961 => ?_) (fun c961 => ?_)
                  · replace H := (ifT c961).symm.trans H
                    refine AWp.skip ?_
                    refine AWp.seq ?_
                    refine AWp.block ?_
                    refine AWp.seq ?_
                    refine AWp.seq ?_
                    obtain ⟨b970, p971, q972, H⟩ := at_of H
                    obtain ⟨b973, p974, q975, H⟩ := at_of H
                    obtain ⟨t976, e977, H⟩ := bind_of H
                    refine reg hP hn hm [(4, .c (eplan_Item b970)), (9, .c (eplan_Item b973)), (10, .call [] [] [] [] 0 (iV .i64 t976) [])] [0, 1, 2, 3, 9, 10, 11, 84] [0] ⟨[(0, .own 0), (1, iV .i64 a1), (2, iV .i64 a2), (3, .im (.sc (.func (.func 50) #[] #[]))), (9, iV .i64 x913), (10, iV .i64 x870), (11, iV .i64 x960), (84, bV (!(decide (t976 < (0 : Int)))))], [(0, some (.row 4 89 (x959.map eplan_Item)))], 1⟩ [0 ≤ x960, x960 < (((x959.map eplan_Item).length : Nat) : Int), (x959.map eplan_Item)[(Int.toNat (x960))]? = some (eplan_Item b970), 0 ≤ (IntKind.i64.wrap (x960 - (1 : Int))), IntKind.i64.wrap (x960 - (1 : Int)) < (((x959.map eplan_Item).length : Nat) : Int), (x959.map eplan_Item)[(Int.toNat (IntKind.i64.wrap (x960 - (1 : Int))))]? = some (eplan_Item b973), Enters Try.prog 50, Pv.Fn Try.prog 50 [.agg (apluvialref17_Item ⟨b970.f0, b970.f1.f0, b970.f1.f1, b970.f1.f2⟩), .agg (apluvialref17_Item ⟨b973.f0, b973.f1.f0, b973.f1.f1, b973.f1.f2⟩)] [] 0 (fun r o => r = iV .i64 t976 ∧ o = [])] (by kernel_rfl) ⟨by exact p971, by exact el_lt eplan_Item p971 q972, by exact el_map eplan_Item q972, by exact p974, by exact el_lt eplan_Item p974 q975, by exact el_map eplan_Item q975, by exact Try.call50, by exact f_plan_sorted_1.ok b970 b973 t976 e977, trivial⟩ ?_
                    refine AWp.cond (!(decide (t976 < (0 : Int)))) rfl (fun c978 => ?_) (fun c978 => ?_)
                    · replace H := (ifT c978).symm.trans H
                      refine AWp.exit ?_
                      obtain rfl := Option.some.inj H
                      exact Exists.intro _ (And.intro (fun _ _ h => h.conv (inv := [(0, 0)]) (vk := []) (e0 := []) (t := ⟨[(0, .own 0), (1, iV .i64 a1), (2, iV .i64 a2), (3, .im (.sc (.func (.func 50) #[] #[]))), (9, iV .i64 x913), (10, iV .i64 x870)], [(0, some (.row 4 89 (x959.map eplan_Item)))], 1⟩) (by kernel_rfl)) (And.intro rfl rfl))
                    · replace H := (ifF c978).symm.trans H
                      refine AWp.skip ?_
                      obtain ⟨b982, p983, q984, H⟩ := at_of H
                      refine reg hP hn hm [(9, .c (eplan_Item b973)), (13, .c (eplan_Item b970)), (15, .put (eplan_Item b970) ((x959.set (Int.toNat (x960)) b973).map eplan_Item)), (17, .put (eplan_Item b982) (((x959.set (Int.toNat (x960)) b973).set (Int.toNat (IntKind.i64.wrap (x960 - (1 : Int)))) b970).map eplan_Item))] [0, 1, 2, 3, 9, 10, 11] [0] ⟨[(0, .own 0), (1, iV .i64 a1), (2, iV .i64 a2), (3, .im (.sc (.func (.func 50) #[] #[]))), (9, iV .i64 x913), (10, iV .i64 x870), (11, iV .i64 x960)], [(0, some (.row 4 89 (((x959.set (Int.toNat (x960)) b973).set (Int.toNat (IntKind.i64.wrap (x960 - (1 : Int)))) b970).map eplan_Item)))], 1⟩ [0 ≤ (IntKind.i64.wrap (x960 - (1 : Int))), IntKind.i64.wrap (x960 - (1 : Int)) < (((x959.map eplan_Item).length : Nat) : Int), (x959.map eplan_Item)[(Int.toNat (IntKind.i64.wrap (x960 - (1 : Int))))]? = some (eplan_Item b973), 0 ≤ x960, x960 < (((x959.map eplan_Item).length : Nat) : Int), (x959.map eplan_Item)[(Int.toNat (x960))]? = some (eplan_Item b970), 0 ≤ x960, x960 < (((x959.map eplan_Item).length : Nat) : Int), (x959.map eplan_Item)[(Int.toNat (x960))]? = some (eplan_Item b970), (x959.set (Int.toNat (x960)) b973).map eplan_Item = (x959.map eplan_Item).set (Int.toNat (x960)) (splice (eplan_Item b970) 0 [iI .i64 b973.f0, iI .i64 b973.f1.f0, iI .i64 b973.f1.f1, iI .i64 b973.f1.f2]), 0 ≤ (IntKind.i64.wrap (x960 - (1 : Int))), IntKind.i64.wrap (x960 - (1 : Int)) < ((((x959.set (Int.toNat (x960)) b973).map eplan_Item).length : Nat) : Int), ((x959.set (Int.toNat (x960)) b973).map eplan_Item)[(Int.toNat (IntKind.i64.wrap (x960 - (1 : Int))))]? = some (eplan_Item b982), ((x959.set (Int.toNat (x960)) b973).set (Int.toNat (IntKind.i64.wrap (x960 - (1 : Int)))) b970).map eplan_Item = ((x959.set (Int.toNat (x960)) b973).map eplan_Item).set (Int.toNat (IntKind.i64.wrap (x960 - (1 : Int)))) (splice (eplan_Item b982) 0 [iI .i64 b970.f0, iI .i64 b970.f1.f0, iI .i64 b970.f1.f1, iI .i64 b970.f1.f2])] (by kernel_rfl) ⟨by exact p974, by exact el_lt eplan_Item p974 q975, by exact el_map eplan_Item q975, by exact p971, by exact el_lt eplan_Item p971 q972, by exact el_map eplan_Item q972, by exact p971, by exact el_lt eplan_Item p971 q972, by exact el_map eplan_Item q972, by exact set1 _ _ _ _, by exact p983, by exact el_lt eplan_Item p983 q984, by exact el_map eplan_Item q984, by exact set1 _ _ _ _, trivial⟩ ?_
                      refine reg hP hn hm [] [0, 1, 2, 3, 9, 10, 11] [0] ⟨[(0, .own 0), (1, iV .i64 a1), (2, iV .i64 a2), (3, .im (.sc (.func (.func 50) #[] #[]))), (9, iV .i64 x913), (10, iV .i64 x870), (11, iV .i64 (IntKind.i64.wrap (x960 - (1 : Int))))], [(0, some (.row 4 89 (((x959.set (Int.toNat (x960)) b973).set (Int.toNat (IntKind.i64.wrap (x960 - (1 : Int)))) b970).map eplan_Item)))], 1⟩ [] (by kernel_rfl) trivial ?_
                      exact LWp.conv (inv := [(0, 0)]) (vk := []) (e0 := []) (t := ⟨[(0, .own 0), (1, iV .i64 a1), (2, iV .i64 a2), (3, .im (.sc (.func (.func 50) #[] #[]))), (9, iV .i64 x913), (10, iV .i64 x870), (11, iV .i64 (IntKind.i64.wrap (x960 - (1 : Int))))], [(0, some (.row 4 89 (((x959.set (Int.toNat (x960)) b973).set (Int.toNat (IntKind.i64.wrap (x960 - (1 : Int)))) b970).map eplan_Item)))], 1⟩) (by kernel_rfl) (ih _ _ _ H)
                  · replace H := (ifF c961).symm.trans H
                    refine AWp.exit ?_
                    obtain rfl := Option.some.inj H
                    exact Exists.intro _ (And.intro (fun _ _ h => h.conv (inv := [(0, 0)]) (vk := []) (e0 := []) (t := ⟨[(0, .own 0), (1, iV .i64 a1), (2, iV .i64 a2), (3, .im (.sc (.func (.func 50) #[] #[]))), (9, iV .i64 x913), (10, iV .i64 x870)], [(0, some (.row 4 89 (x959.map eplan_Item)))], 1⟩) (by kernel_rfl)) (And.intro rfl rfl))
                · obtain ⟨x985, rfl⟩ : ∃ z, z = o1049 := ⟨_, rfl⟩
                  rintro e s ⟨rfl, rfl⟩
                  obtain rfl := Option.some.inj H
                  exact Exists.intro _ (And.intro (fun _ _ h => h.conv (inv := [(0, 0)]) (vk := []) (e0 := []) (t := ⟨[(0, .own 0), (1, iV .i64 a1), (2, iV .i64 a2), (3, .im (.sc (.func (.func 50) #[] #[]))), (9, iV .i64 x913), (10, iV .i64 x870)], [(0, some (.row 4 89 (x985.map eplan_Item)))], 1⟩) (by kernel_rfl)) (And.intro rfl rfl))
              · replace H := (ifF c934).symm.trans H
                refine AWp.skip ?_
                obtain rfl := Option.some.inj H
                exact Exists.intro _ (And.intro (fun _ _ h => h.conv (inv := [(0, 0)]) (vk := []) (e0 := []) (t := ⟨[(0, .own 0), (1, iV .i64 a1), (2, iV .i64 a2), (3, .im (.sc (.func (.func 50) #[] #[]))), (9, iV .i64 x913), (10, iV .i64 x870)], [(0, some (.row 4 89 (((x868.set (Int.toNat (x913)) b925).set (Int.toNat (IntKind.i64.wrap (x913 - (1 : Int)))) b928).map eplan_Item)))], 1⟩) (by kernel_rfl)) (And.intro rfl rfl))
            · obtain ⟨x986, rfl⟩ : ∃ z, z = o1047 := ⟨_, rfl⟩
              rintro e s ⟨rfl, rfl⟩
              refine AWp.seq ?_
              refine reg hP hn hm [] [0, 1, 2, 3, 9, 10, 104] [0] ⟨[(0, .own 0), (1, iV .i64 a1), (2, iV .i64 a2), (3, .im (.sc (.func (.func 50) #[] #[]))), (9, iV .i64 x913), (10, iV .i64 x870), (104, bV (decide ((IntKind.i64.wrap (a2 - x913)) ≥ (2 : Int))))], [(0, some (.row 4 89 (x986.map eplan_Item)))], 1⟩ [] (by kernel_rfl) trivial ?_
              obtain ⟨o1051, e1052, H⟩ := bind_of H
              refine AWp.mono (Q := fun e s => (match (generalizing := false) o1051 with | x1039 => e = .normal ∧ s = ⟨[(0, .own 0), (1, iV .i64 a1), (2, iV .i64 a2), (3, .im (.sc (.func (.func 50) #[] #[]))), (9, iV .i64 x913), (10, iV .i64 x870)], [(0, some (.row 4 89 (x1039.map eplan_Item)))], 1⟩)) (AWp.cv ?_) ?_
              · replace H := e1052; clear e1052
                refine AWp.cond (decide ((IntKind.i64.wrap (a2 - x913)) ≥ (2 : Int))) rfl (fun c987 => ?_) (fun c987 => ?_)
                · replace H := (ifT c987).symm.trans H
                  refine AWp.seq ?_
                  refine reg hP hn hm [] [0, 1, 2, 3, 9, 10, 12] [0] ⟨[(0, .own 0), (1, iV .i64 a1), (2, iV .i64 a2), (3, .im (.sc (.func (.func 50) #[] #[]))), (9, iV .i64 x913), (10, iV .i64 x870), (12, iV .i64 (IntKind.i64.wrap (x913 + (1 : Int))))], [(0, some (.row 4 89 (x986.map eplan_Item)))], 1⟩ [] (by kernel_rfl) trivial ?_
                  refine AWp.block ?_
                  obtain ⟨o1053, e1054, H⟩ := bind_of H
                  refine AWp.loop (LWp.conv (inv := [(0, 0)]) (vk := []) (e0 := []) (t := ⟨[(0, .own 0), (1, iV .i64 a1), (2, iV .i64 a2), (3, .im (.sc (.func (.func 50) #[] #[]))), (9, iV .i64 x913), (10, iV .i64 x870), (12, iV .i64 (IntKind.i64.wrap (x913 + (1 : Int))))], [(0, some (.row 4 89 (x986.map eplan_Item)))], 1⟩) (by kernel_rfl) ?_)
                  refine LWp.mono (Q := fun e s => (match (generalizing := false) o1053 with | x1038 => e = .exit 6 ∧ s = ⟨[(0, .own 0), (1, iV .i64 a1), (2, iV .i64 a2), (3, .im (.sc (.func (.func 50) #[] #[]))), (9, iV .i64 x913), (10, iV .i64 x870)], [(0, some (.row 4 89 (x1038.map eplan_Item)))], 1⟩)) (LWp.cv (withBody (fun body hbody => ?_))) ?_
                  · refine f_slices_partialInsertionSortCmpFunc_plan_Item_plan_sorted_1.l3.partial_correctness a1 a2 x870 x913 (motive := fun x1012 x1013 o1053 => LWp Γ body (fun e s => ∃ t, Cv Γ s t ∧ (match (generalizing := false) o1053 with | x1038 => e = .exit 6 ∧ t = ⟨[(0, .own 0), (1, iV .i64 a1), (2, iV .i64 a2), (3, .im (.sc (.func (.func 50) #[] #[]))), (9, iV .i64 x913), (10, iV .i64 x870)], [(0, some (.row 4 89 (x1038.map eplan_Item)))], 1⟩)) ⟨[(0, .own 0), (1, iV .i64 a1), (2, iV .i64 a2), (3, .im (.sc (.func (.func 50) #[] #[]))), (9, iV .i64 x913), (10, iV .i64 x870), (12, iV .i64 x1013)], [(0, some (.row 4 89 (x1012.map eplan_Item)))], 1⟩) ?_ _ _ _ e1054
                    clear H e1054 o1053; intro self ih x1012 x1013 o1053 H
                    subst hbody
                    refine LWp.round ?_
                    refine AWp.seq ?_
                    refine AWp.seq ?_
                    refine reg hP hn hm [] [0, 1, 2, 3, 9, 10, 12, 109] [0] ⟨[(0, .own 0), (1, iV .i64 a1), (2, iV .i64 a2), (3, .im (.sc (.func (.func 50) #[] #[]))), (9, iV .i64 x913), (10, iV .i64 x870), (12, iV .i64 x1013), (109, bV (decide (x1013 < a2)))], [(0, some (.row 4 89 (x1012.map eplan_Item)))], 1⟩ [] (by kernel_rfl) trivial ?_
                    refine AWp.cond (decide (x1013 < a2)) rfl (fun c1014 => ?_) (fun c1014 => ?_)
                    · replace H := (ifT c1014).symm.trans H
                      refine AWp.skip ?_
                      refine AWp.seq ?_
                      refine AWp.block ?_
                      refine AWp.seq ?_
                      refine AWp.seq ?_
                      obtain ⟨b1023, p1024, q1025, H⟩ := at_of H
                      obtain ⟨b1026, p1027, q1028, H⟩ := at_of H
                      obtain ⟨t1029, e1030, H⟩ := bind_of H
                      refine reg hP hn hm [(4, .c (eplan_Item b1023)), (9, .c (eplan_Item b1026)), (10, .call [] [] [] [] 0 (iV .i64 t1029) [])] [0, 1, 2, 3, 9, 10, 12, 124] [0] ⟨[(0, .own 0), (1, iV .i64 a1), (2, iV .i64 a2), (3, .im (.sc (.func (.func 50) #[] #[]))), (9, iV .i64 x913), (10, iV .i64 x870), (12, iV .i64 x1013), (124, bV (!(decide (t1029 < (0 : Int)))))], [(0, some (.row 4 89 (x1012.map eplan_Item)))], 1⟩ [0 ≤ x1013, x1013 < (((x1012.map eplan_Item).length : Nat) : Int), (x1012.map eplan_Item)[(Int.toNat (x1013))]? = some (eplan_Item b1023), 0 ≤ (IntKind.i64.wrap (x1013 - (1 : Int))), IntKind.i64.wrap (x1013 - (1 : Int)) < (((x1012.map eplan_Item).length : Nat) : Int), (x1012.map eplan_Item)[(Int.toNat (IntKind.i64.wrap (x1013 - (1 : Int))))]? = some (eplan_Item b1026), Enters Try.prog 50, Pv.Fn Try.prog 50 [.agg (apluvialref17_Item ⟨b1023.f0, b1023.f1.f0, b1023.f1.f1, b1023.f1.f2⟩), .agg (apluvialref17_Item ⟨b1026.f0, b1026.f1.f0, b1026.f1.f1, b1026.f1.f2⟩)] [] 0 (fun r o => r = iV .i64 t1029 ∧ o = [])] (by kernel_rfl) ⟨by exact p1024, by exact el_lt eplan_Item p1024 q1025, by exact el_map eplan_Item q1025, by exact p1027, by exact el_lt eplan_Item p1027 q1028, by exact el_map eplan_Item q1028, by exact Try.call50, by exact f_plan_sorted_1.ok b1023 b1026 t1029 e1030, trivial⟩ ?_
                      refine AWp.cond (!(decide (t1029 < (0 : Int)))) rfl (fun c1031 => ?_) (fun c1031 => ?_)
                      · replace H := (ifT c1031).symm.trans H
                        refine AWp.exit ?_
                        obtain rfl := Option.some.inj H
                        exact Exists.intro _ (And.intro (fun _ _ h => h.conv (inv := [(0, 0)]) (vk := []) (e0 := []) (t := ⟨[(0, .own 0), (1, iV .i64 a1), (2, iV .i64 a2), (3, .im (.sc (.func (.func 50) #[] #[]))), (9, iV .i64 x913), (10, iV .i64 x870)], [(0, some (.row 4 89 (x1012.map eplan_Item)))], 1⟩) (by kernel_rfl)) (And.intro rfl rfl))
                      · replace H := (ifF c1031).symm.trans H
                        refine AWp.skip ?_
                        obtain ⟨b1035, p1036, q1037, H⟩ := at_of H
                        refine reg hP hn hm [(9, .c (eplan_Item b1026)), (13, .c (eplan_Item b1023)), (15, .put (eplan_Item b1023) ((x1012.set (Int.toNat (x1013)) b1026).map eplan_Item)), (17, .put (eplan_Item b1035) (((x1012.set (Int.toNat (x1013)) b1026).set (Int.toNat (IntKind.i64.wrap (x1013 - (1 : Int)))) b1023).map eplan_Item))] [0, 1, 2, 3, 9, 10, 12] [0] ⟨[(0, .own 0), (1, iV .i64 a1), (2, iV .i64 a2), (3, .im (.sc (.func (.func 50) #[] #[]))), (9, iV .i64 x913), (10, iV .i64 x870), (12, iV .i64 x1013)], [(0, some (.row 4 89 (((x1012.set (Int.toNat (x1013)) b1026).set (Int.toNat (IntKind.i64.wrap (x1013 - (1 : Int)))) b1023).map eplan_Item)))], 1⟩ [0 ≤ (IntKind.i64.wrap (x1013 - (1 : Int))), IntKind.i64.wrap (x1013 - (1 : Int)) < (((x1012.map eplan_Item).length : Nat) : Int), (x1012.map eplan_Item)[(Int.toNat (IntKind.i64.wrap (x1013 - (1 : Int))))]? = some (eplan_Item b1026), 0 ≤ x1013, x1013 < (((x1012.map eplan_Item).length : Nat) : Int), (x1012.map eplan_Item)[(Int.toNat (x1013))]? = some (eplan_Item b1023), 0 ≤ x1013, x1013 < (((x1012.map eplan_Item).length : Nat) : Int), (x1012.map eplan_Item)[(Int.toNat (x1013))]? = some (eplan_Item b1023), (x1012.set (Int.toNat (x1013)) b1026).map eplan_Item = (x1012.map eplan_Item).set (Int.toNat (x1013)) (splice (eplan_Item b1023) 0 [iI .i64 b1026.f0, iI .i64 b1026.f1.f0, iI .i64 b1026.f1.f1, iI .i64 b1026.f1.f2]), 0 ≤ (IntKind.i64.wrap (x1013 - (1 : Int))), IntKind.i64.wrap (x1013 - (1 : Int)) < ((((x1012.set (Int.toNat (x1013)) b1026).map eplan_Item).length : Nat) : Int), ((x1012.set (Int.toNat (x1013)) b1026).map eplan_Item)[(Int.toNat (IntKind.i64.wrap (x1013 - (1 : Int))))]? = some (eplan_Item b1035), ((x1012.set (Int.toNat (x1013)) b1026).set (Int.toNat (IntKind.i64.wrap (x1013 - (1 : Int)))) b1023).map eplan_Item = ((x1012.set (Int.toNat (x1013)) b1026).map eplan_Item).set (Int.toNat (IntKind.i64.wrap (x1013 - (1 : Int)))) (splice (eplan_Item b1035) 0 [iI .i64 b1023.f0, iI .i64 b1023.f1.f0, iI .i64 b1023.f1.f1, iI .i64 b1023.f1.f2])] (by kernel_rfl) ⟨by exact p1027, by exact el_lt eplan_Item p1027 q1028, by exact el_map eplan_Item q1028, by exact p1024, by exact el_lt eplan_Item p1024 q1025, by exact el_map eplan_Item q1025, by exact p1024, by exact el_lt eplan_Item p1024 q1025, by exact el_map eplan_Item q1025, by exact set1 _ _ _ _, by exact p1036, by exact el_lt eplan_Item p1036 q1037, by exact el_map eplan_Item q1037, by exact set1 _ _ _ _, trivial⟩ ?_
                        refine reg hP hn hm [] [0, 1, 2, 3, 9, 10, 12] [0] ⟨[(0, .own 0), (1, iV .i64 a1), (2, iV .i64 a2), (3, .im (.sc (.func (.func 50) #[] #[]))), (9, iV .i64 x913), (10, iV .i64 x870), (12, iV .i64 (IntKind.i64.wrap (x1013 + (1 : Int))))], [(0, some (.row 4 89 (((x1012.set (Int.toNat (x1013)) b1026).set (Int.toNat (IntKind.i64.wrap (x1013 - (1 : Int)))) b1023).map eplan_Item)))], 1⟩ [] (by kernel_rfl) trivial ?_
                        exact LWp.conv (inv := [(0, 0)]) (vk := []) (e0 := []) (t := ⟨[(0, .own 0), (1, iV .i64 a1), (2, iV .i64 a2), (3, .im (.sc (.func (.func 50) #[] #[]))), (9, iV .i64 x913), (10, iV .i64 x870), (12, iV .i64 (IntKind.i64.wrap (x1013 + (1 : Int))))], [(0, some (.row 4 89 (((x1012.set (Int.toNat (x1013)) b1026).set (Int.toNat (IntKind.i64.wrap (x1013 - (1 : Int)))) b1023).map eplan_Item)))], 1⟩) (by kernel_rfl) (ih _ _ _ H)
                    · replace H := (ifF c1014).symm.trans H
                      refine AWp.exit ?_
                      obtain rfl := Option.some.inj H
                      exact Exists.intro _ (And.intro (fun _ _ h => h.conv (inv := [(0, 0)]) (vk := []) (e0 := []) (t := ⟨[(0, .own 0), (1, iV .i64 a1), (2, iV .i64 a2), (3, .im (.sc (.func (.func 50) #[] #[]))), (9, iV .i64 x913), (10, iV .i64 x870)], [(0, some (.row 4 89 (x1012.map eplan_Item)))], 1⟩) (by kernel_rfl)) (And.intro rfl rfl))
                  · obtain ⟨x1038, rfl⟩ : ∃ z, z = o1053 := ⟨_, rfl⟩
                    rintro e s ⟨rfl, rfl⟩
                    obtain rfl := Option.some.inj H
                    exact Exists.intro _ (And.intro (fun _ _ h => h.conv (inv := [(0, 0)]) (vk := []) (e0 := []) (t := ⟨[(0, .own 0), (1, iV .i64 a1), (2, iV .i64 a2), (3, .im (.sc (.func (.func 50) #[] #[]))), (9, iV .i64 x913), (10, iV .i64 x870)], [(0, some (.row 4 89 (x1038.map eplan_Item)))], 1⟩) (by kernel_rfl)) (And.intro rfl rfl))
                · replace H := (ifF c987).symm.trans H
                  refine AWp.skip ?_
                  obtain rfl := Option.some.inj H
                  exact Exists.intro _ (And.intro (fun _ _ h => h.conv (inv := [(0, 0)]) (vk := []) (e0 := []) (t := ⟨[(0, .own 0), (1, iV .i64 a1), (2, iV .i64 a2), (3, .im (.sc (.func (.func 50) #[] #[]))), (9, iV .i64 x913), (10, iV .i64 x870)], [(0, some (.row 4 89 (x986.map eplan_Item)))], 1⟩) (by kernel_rfl)) (And.intro rfl rfl))
              · obtain ⟨x1039, rfl⟩ : ∃ z, z = o1051 := ⟨_, rfl⟩
                rintro e s ⟨rfl, rfl⟩
                refine reg hP hn hm [] [0, 1, 2, 3, 9, 10] [0] ⟨[(0, .own 0), (1, iV .i64 a1), (2, iV .i64 a2), (3, .im (.sc (.func (.func 50) #[] #[]))), (9, iV .i64 x913), (10, iV .i64 (IntKind.i64.wrap (x870 + (1 : Int))))], [(0, some (.row 4 89 (x1039.map eplan_Item)))], 1⟩ [] (by kernel_rfl) trivial ?_
                exact LWp.conv (inv := [(0, 0)]) (vk := []) (e0 := []) (t := ⟨[(0, .own 0), (1, iV .i64 a1), (2, iV .i64 a2), (3, .im (.sc (.func (.func 50) #[] #[]))), (9, iV .i64 x913), (10, iV .i64 (IntKind.i64.wrap (x870 + (1 : Int))))], [(0, some (.row 4 89 (x1039.map eplan_Item)))], 1⟩) (by kernel_rfl) (ih _ _ _ _ H)
    · replace H := (ifF c871).symm.trans H
      refine AWp.exit ?_
      obtain rfl := Option.some.inj H
      exact Exists.intro _ (And.intro (fun _ _ h => h.conv (inv := [(0, 0)]) (vk := []) (e0 := []) (t := ⟨[], [(0, some (.row 4 89 (x868.map eplan_Item)))], 1⟩) (by kernel_rfl)) (And.intro rfl rfl))
  · rcases o1041 with rr | x1040
    · skip
      rintro e s ⟨rfl, hfl, hres⟩
      obtain rfl := Option.some.inj H
      exact Exists.intro _ (And.intro (fun _ _ h => h) (And.intro (.inl rfl) (And.intro hfl hres)))
    · skip
      rintro e s ⟨rfl, rfl⟩
      refine AWp.seq ?_
      refine reg hP hn hm [] [8] [0] ⟨[(8, bV false)], [(0, some (.row 4 89 (x1040.map eplan_Item)))], 1⟩ [] (by kernel_rfl) trivial ?_
      refine AWp.conv (inv := [(0, 0)]) (vk := []) (e0 := []) (t := ⟨[(8, bV false)], [(0, some (.row 4 89 (x1040.map eplan_Item)))], 1⟩) (by kernel_rfl) ?_
      refine AWp.ret ?_
      obtain rfl := Option.some.inj H
      exact Exists.intro _ (And.intro (fun _ _ h => h) (And.intro (.inl rfl) (And.intro rfl (And.intro (by kernel_rfl) (by kernel_rfl)))))
def f_slices_partitionEqualCmpFunc_plan_Item_plan_sorted_1.l1 (a1 : Int) (x1202 : List Tplan_Item) (x1204 : Int) (x1225 : Int) : Option (Int) := ((if (decide (x1225 ≤ x1204)) = true then ((at? x1202 a1) >>= fun b1236 => (at? x1202 x1225) >>= fun b1239 => (f_plan_sorted_1.f b1236 b1239) >>= fun t1242 => some (!(decide (t1242 < (0 : Int))))) else (some false)) : Option (Bool)) >>= fun x1244 => if x1244 = true then (f_slices_partitionEqualCmpFunc_plan_Item_plan_sorted_1.l1 a1 x1202 x1204 (IntKind.i64.wrap (x1225 + (1 : Int)))) else (some x1225)
partial_fixpoint
def f_slices_partitionEqualCmpFunc_plan_Item_plan_sorted_1.l2 (a1 : Int) (x1202 : List Tplan_Item) (x1246 : Int) (x1267 : Int) : Option (Int) := ((if (decide (x1246 ≤ x1267)) = true then ((at? x1202 a1) >>= fun b1278 => (at? x1202 x1267) >>= fun b1281 => (f_plan_sorted_1.f b1278 b1281) >>= fun t1284 => some (decide (t1284 < (0 : Int)))) else (some false)) : Option (Bool)) >>= fun x1286 => if x1286 = true then (f_slices_partitionEqualCmpFunc_plan_Item_plan_sorted_1.l2 a1 x1202 x1246 (IntKind.i64.wrap (x1267 - (1 : Int)))) else (some x1267)
partial_fixpoint
def f_slices_partitionEqualCmpFunc_plan_Item_plan_sorted_1.l0 (a1 : Int) (x1202 : List Tplan_Item) (x1203 : Int) (x1204 : Int) : Option (Int × (List Tplan_Item)) := (f_slices_partitionEqualCmpFunc_plan_Item_plan_sorted_1.l1 a1 x1202 x1204 x1203) >>= fun x1246 => (f_slices_partitionEqualCmpFunc_plan_Item_plan_sorted_1.l2 a1 x1202 x1246 x1204) >>= fun x1288 => if (decide (x1246 > x1288)) = true then (some (x1246, x1202)) else ((at? x1202 x1288) >>= fun b1299 => (at? x1202 x1246) >>= fun b1302 => (at? (x1202.set (Int.toNat (x1246)) b1299) x1288) >>= fun b1305 => f_slices_partitionEqualCmpFunc_plan_Item_plan_sorted_1.l0 a1 ((x1202.set (Int.toNat (x1246)) b1299).set (Int.toNat (x1288)) b1302) (IntKind.i64.wrap (x1246 + (1 : Int))) (IntKind.i64.wrap (x1288 - (1 : Int))))
partial_fixpoint
def f_slices_partitionEqualCmpFunc_plan_Item_plan_sorted_1.f (a0 : List Tplan_Item) (a1 : Int) (a2 : Int) (a3 : Int) : Option (Int × (List Tplan_Item)) := (at? a0 a3) >>= fun b1090 => (at? a0 a1) >>= fun b1093 => (at? (a0.set (Int.toNat (a1)) b1090) a3) >>= fun b1096 => (f_slices_partitionEqualCmpFunc_plan_Item_plan_sorted_1.l0 a1 ((a0.set (Int.toNat (a1)) b1090).set (Int.toNat (a3)) b1093) (IntKind.i64.wrap (a1 + (1 : Int))) (IntKind.i64.wrap (a2 - (1 : Int)))) >>= fun oo => match oo with | (x1308, x1309) => (some (x1308, x1309))
theorem f_slices_partitionEqualCmpFunc_plan_Item_plan_sorted_1.ok (a0 : List Tplan_Item) (a1 : Int) (a2 : Int) (a3 : Int) (r : Int × (List Tplan_Item)) (H : f_slices_partitionEqualCmpFunc_plan_Item_plan_sorted_1.f a0 a1 a2 a3 = some r) : Pv.Fn Try.prog 110 [.own 0, iV .i64 a1, iV .i64 a2, iV .i64 a3, .im (.sc (.func (.func 50) #[] #[]))] [(0, some (.row 4 89 (a0.map eplan_Item)))] 1 (fun x o => x = iV .i64 r.1 ∧ o = [(0, some (.row 4 89 (r.2.map eplan_Item)))]) := by
  unfold f_slices_partitionEqualCmpFunc_plan_Item_plan_sorted_1.f at H
  refine Fn.bodyK [0] Try.func110 rfl rfl (fun Γ hP hn => ?_)
  have hm : Try.prog.follows .mixedOrders = true := by kernel_rfl
  replace hn : Γ.n = 90 := hn
  refine AWp.seq ?_
  refine reg hP hn hm [] [0, 1, 2, 3, 4] [0] ⟨[(0, .own 0), (1, iV .i64 a1), (2, iV .i64 a2), (3, iV .i64 a3), (4, .im (.sc (.func (.func 50) #[] #[])))], [(0, some (.row 4 89 (a0.map eplan_Item)))], 1⟩ [] (by kernel_rfl) trivial ?_
  refine AWp.seq ?_
  obtain ⟨b1090, p1091, q1092, H⟩ := at_of H
  obtain ⟨b1093, p1094, q1095, H⟩ := at_of H
  obtain ⟨b1096, p1097, q1098, H⟩ := at_of H
  refine reg hP hn hm [(7, .c (eplan_Item b1090)), (11, .c (eplan_Item b1093)), (13, .put (eplan_Item b1093) ((a0.set (Int.toNat (a1)) b1090).map eplan_Item)), (15, .put (eplan_Item b1096) (((a0.set (Int.toNat (a1)) b1090).set (Int.toNat (a3)) b1093).map eplan_Item))] [0, 1, 2, 4] [0] ⟨[(0, .own 0), (1, iV .i64 a1), (2, iV .i64 a2), (4, .im (.sc (.func (.func 50) #[] #[])))], [(0, some (.row 4 89 (((a0.set (Int.toNat (a1)) b1090).set (Int.toNat (a3)) b1093).map eplan_Item)))], 1⟩ [0 ≤ a3, a3 < (((a0.map eplan_Item).length : Nat) : Int), (a0.map eplan_Item)[(Int.toNat (a3))]? = some (eplan_Item b1090), 0 ≤ a1, a1 < (((a0.map eplan_Item).length : Nat) : Int), (a0.map eplan_Item)[(Int.toNat (a1))]? = some (eplan_Item b1093), 0 ≤ a1, a1 < (((a0.map eplan_Item).length : Nat) : Int), (a0.map eplan_Item)[(Int.toNat (a1))]? = some (eplan_Item b1093), (a0.set (Int.toNat (a1)) b1090).map eplan_Item = (a0.map eplan_Item).set (Int.toNat (a1)) (splice (eplan_Item b1093) 0 [iI .i64 b1090.f0, iI .i64 b1090.f1.f0, iI .i64 b1090.f1.f1, iI .i64 b1090.f1.f2]), 0 ≤ a3, a3 < ((((a0.set (Int.toNat (a1)) b1090).map eplan_Item).length : Nat) : Int), ((a0.set (Int.toNat (a1)) b1090).map eplan_Item)[(Int.toNat (a3))]? = some (eplan_Item b1096), ((a0.set (Int.toNat (a1)) b1090).set (Int.toNat (a3)) b1093).map eplan_Item = ((a0.set (Int.toNat (a1)) b1090).map eplan_Item).set (Int.toNat (a3)) (splice (eplan_Item b1096) 0 [iI .i64 b1093.f0, iI .i64 b1093.f1.f0, iI .i64 b1093.f1.f1, iI .i64 b1093.f1.f2])] (by kernel_rfl) ⟨by exact p1091, by exact el_lt eplan_Item p1091 q1092, by exact el_map eplan_Item q1092, by exact p1094, by exact el_lt eplan_Item p1094 q1095, by exact el_map eplan_Item q1095, by exact p1094, by exact el_lt eplan_Item p1094 q1095, by exact el_map eplan_Item q1095, by exact set1 _ _ _ _, by exact p1097, by exact el_lt eplan_Item p1097 q1098, by exact el_map eplan_Item q1098, by exact set1 _ _ _ _, trivial⟩ ?_
  refine AWp.seq ?_
  refine reg hP hn hm [] [0, 1, 4, 11, 12] [0] ⟨[(0, .own 0), (1, iV .i64 a1), (4, .im (.sc (.func (.func 50) #[] #[]))), (11, iV .i64 (IntKind.i64.wrap (a1 + (1 : Int)))), (12, iV .i64 (IntKind.i64.wrap (a2 - (1 : Int))))], [(0, some (.row 4 89 (((a0.set (Int.toNat (a1)) b1090).set (Int.toNat (a3)) b1093).map eplan_Item)))], 1⟩ [] (by kernel_rfl) trivial ?_
  refine AWp.seq ?_
  refine AWp.block ?_
  obtain ⟨o1310, e1311, H⟩ := bind_of H
  refine AWp.loop (LWp.conv (inv := [(0, 0)]) (vk := []) (e0 := []) (t := ⟨[(0, .own 0), (1, iV .i64 a1), (4, .im (.sc (.func (.func 50) #[] #[]))), (11, iV .i64 (IntKind.i64.wrap (a1 + (1 : Int)))), (12, iV .i64 (IntKind.i64.wrap (a2 - (1 : Int))))], [(0, some (.row 4 89 (((a0.set (Int.toNat (a1)) b1090).set (Int.toNat (a3)) b1093).map eplan_Item)))], 1⟩) (by kernel_rfl) ?_)
  refine LWp.mono (Q := fun e s => (match (generalizing := false) o1310 with | (x1308, x1309) => e = .exit 0 ∧ s = ⟨[(11, iV .i64 x1308)], [(0, some (.row 4 89 (x1309.map eplan_Item)))], 1⟩)) (LWp.cv (withBody (fun body hbody => ?_))) ?_
  · refine f_slices_partitionEqualCmpFunc_plan_Item_plan_sorted_1.l0.partial_correctness a1 (motive := fun x1202 x1203 x1204 o1310 => LWp Γ body (fun e s => ∃ t, Cv Γ s t ∧ (match (generalizing := false) o1310 with | (x1308, x1309) => e = .exit 0 ∧ t = ⟨[(11, iV .i64 x1308)], [(0, some (.row 4 89 (x1309.map eplan_Item)))], 1⟩)) ⟨[(0, .own 0), (1, iV .i64 a1), (4, .im (.sc (.func (.func 50) #[] #[]))), (11, iV .i64 x1203), (12, iV .i64 x1204)], [(0, some (.row 4 89 (x1202.map eplan_Item)))], 1⟩) ?_ _ _ _ _ e1311
    clear H e1311 o1310; intro self ih x1202 x1203 x1204 o1310 H
    subst hbody
    refine LWp.round ?_
    refine AWp.block ?_
    refine AWp.seq ?_
    refine AWp.block ?_
    obtain ⟨o1312, e1313, H⟩ := bind_of H
    refine AWp.loop (LWp.conv (inv := [(0, 0)]) (vk := []) (e0 := []) (t := ⟨[(0, .own 0), (1, iV .i64 a1), (4, .im (.sc (.func (.func 50) #[] #[]))), (11, iV .i64 x1203), (12, iV .i64 x1204)], [(0, some (.row 4 89 (x1202.map eplan_Item)))], 1⟩) (by kernel_rfl) ?_)
    refine LWp.mono (Q := fun e s => (match (generalizing := false) o1312 with | x1246 => e = .exit 2 ∧ s = ⟨[(0, .own 0), (1, iV .i64 a1), (4, .im (.sc (.func (.func 50) #[] #[]))), (11, iV .i64 x1246), (12, iV .i64 x1204)], [(0, some (.row 4 89 (x1202.map eplan_Item)))], 1⟩)) (LWp.cv (withBody (fun body hbody => ?_))) ?_
    · refine f_slices_partitionEqualCmpFunc_plan_Item_plan_sorted_1.l1.partial_correctness a1 x1202 x1204 (motive := fun x1225 o1312 => LWp Γ body (fun e s => ∃ t, Cv Γ s t ∧ (match (generalizing := false) o1312 with | x1246 => e = .exit 2 ∧ t = ⟨[(0, .own 0), (1, iV .i64 a1), (4, .im (.sc (.func (.func 50) #[] #[]))), (11, iV .i64 x1246), (12, iV .i64 x1204)], [(0, some (.row 4 89 (x1202.map eplan_Item)))], 1⟩)) ⟨[(0, .own 0), (1, iV .i64 a1), (4, .im (.sc (.func (.func 50) #[] #[]))), (11, iV .i64 x1225), (12, iV .i64 x1204)], [(0, some (.row 4 89 (x1202.map eplan_Item)))], 1⟩) ?_ _ _ e1313
      clear H e1313 o1312; intro self ih x1225 o1312 H
      subst hbody
      refine LWp.round ?_
      refine AWp.seq ?_
      refine AWp.seq ?_
      obtain ⟨o1314, e1315, H⟩ := bind_of H
      refine AWp.mono (Q := fun e s => (match (generalizing := false) o1314 with | x1244 => e = .normal ∧ s = ⟨[(0, .own 0), (1, iV .i64 a1), (4, .im (.sc (.func (.func 50) #[] #[]))), (11, iV .i64 x1225), (12, iV .i64 x1204), (47, bV x1244)], [(0, some (.row 4 89 (x1202.map eplan_Item)))], 1⟩)) (AWp.cv ?_) ?_
      · replace H := e1315; clear e1315
        rcases Bool.eq_false_or_eq_true (decide (x1225 ≤ x1204)) with c1235 | c1235
        · replace H := (ifT c1235).symm.trans H
          obtain ⟨b1236, p1237, q1238, H⟩ := at_of H
          obtain ⟨b1239, p1240, q1241, H⟩ := at_of H
          obtain ⟨t1242, e1243, H⟩ := bind_of H
          refine reg hP hn hm [(3, .b true), (8, .c (eplan_Item b1236)), (12, .c (eplan_Item b1239)), (13, .call [] [] [] [] 0 (iV .i64 t1242) [])] [0, 1, 4, 11, 12, 35, 36, 37, 38, 39, 40, 41, 42, 43, 44, 45, 46, 47] [0] ⟨[(0, .own 0), (1, iV .i64 a1), (4, .im (.sc (.func (.func 50) #[] #[]))), (11, iV .i64 x1225), (12, iV .i64 x1204), (35, .im (.sc (.func (.func 50) #[] #[]))), (36, .own 0), (37, iV .i64 a1), (38, .ptr 0 (Int.toNat (a1)) 0), (39, .agg (apluvialref17_Item ⟨b1236.f0, b1236.f1.f0, b1236.f1.f1, b1236.f1.f2⟩)), (40, .own 0), (41, iV .i64 x1225), (42, .ptr 0 (Int.toNat (x1225)) 0), (43, .agg (apluvialref17_Item ⟨b1239.f0, b1239.f1.f0, b1239.f1.f1, b1239.f1.f2⟩)), (44, iV .i64 t1242), (45, bV (decide (t1242 < (0 : Int)))), (46, bV (!(decide (t1242 < (0 : Int))))), (47, bV (!(decide (t1242 < (0 : Int)))))], [(0, some (.row 4 89 (x1202.map eplan_Item)))], 1⟩ [(decide (x1225 ≤ x1204)) = true, 0 ≤ a1, a1 < (((x1202.map eplan_Item).length : Nat) : Int), (x1202.map eplan_Item)[(Int.toNat (a1))]? = some (eplan_Item b1236), 0 ≤ x1225, x1225 < (((x1202.map eplan_Item).length : Nat) : Int), (x1202.map eplan_Item)[(Int.toNat (x1225))]? = some (eplan_Item b1239), Enters Try.prog 50, Pv.Fn Try.prog 50 [.agg (apluvialref17_Item ⟨b1236.f0, b1236.f1.f0, b1236.f1.f1, b1236.f1.f2⟩), .agg (apluvialref17_Item ⟨b1239.f0, b1239.f1.f0, b1239.f1.f1, b1239.f1.f2⟩)] [] 0 (fun r o => r = iV .i64 t1242 ∧ o = [])] (by kernel_rfl) ⟨by exact c1235, by exact p1237, by exact el_lt eplan_Item p1237 q1238, by exact el_map eplan_Item q1238, by exact p1240, by exact el_lt eplan_Item p1240 q1241, by exact el_map eplan_Item q1241, by exact Try.call50, by exact f_plan_sorted_1.ok b1236 b1239 t1242 e1243, trivial⟩ ?_
          obtain rfl := Option.some.inj H
          exact Exists.intro _ (And.intro (fun _ _ h => h.conv (inv := [(0, 0)]) (vk := []) (e0 := []) (t := ⟨[(0, .own 0), (1, iV .i64 a1), (4, .im (.sc (.func (.func 50) #[] #[]))), (11, iV .i64 x1225), (12, iV .i64 x1204), (47, bV (!(decide (t1242 < (0 : Int)))))], [(0, some (.row 4 89 (x1202.map eplan_Item)))], 1⟩) (by kernel_rfl)) (And.intro rfl rfl))
        · replace H := (ifF c1235).symm.trans H
          refine reg hP hn hm [(3, .b false)] [0, 1, 4, 11, 12, 47] [0] ⟨[(0, .own 0), (1, iV .i64 a1), (4, .im (.sc (.func (.func 50) #[] #[]))), (11, iV .i64 x1225), (12, iV .i64 x1204), (47, bV false)], [(0, some (.row 4 89 (x1202.map eplan_Item)))], 1⟩ [(decide (x1225 ≤ x1204)) = false] (by kernel_rfl) ⟨by exact c1235, trivial⟩ ?_
          obtain rfl := Option.some.inj H
          exact Exists.intro _ (And.intro (fun _ _ h => h.conv (inv := [(0, 0)]) (vk := []) (e0 := []) (t := ⟨[(0, .own 0), (1, iV .i64 a1), (4, .im (.sc (.func (.func 50) #[] #[]))), (11, iV .i64 x1225), (12, iV .i64 x1204), (47, bV false)], [(0, some (.row 4 89 (x1202.map eplan_Item)))], 1⟩) (by kernel_rfl)) (And.intro rfl rfl))
      · obtain ⟨x1244, rfl⟩ : ∃ z, z = o1314 := ⟨_, rfl⟩
        rintro e s ⟨rfl, rfl⟩
        refine AWp.cond x1244 rfl (fun c1245 => ?_) (fun c1245 => ?_)
        · replace H := (ifT c1245).symm.trans H
          refine AWp.skip ?_
          refine AWp.block ?_
          refine reg hP hn hm [] [0, 1, 4, 11, 12] [0] ⟨[(0, .own 0), (1, iV .i64 a1), (4, .im (.sc (.func (.func 50) #[] #[]))), (11, iV .i64 (IntKind.i64.wrap (x1225 + (1 : Int)))), (12, iV .i64 x1204)], [(0, some (.row 4 89 (x1202.map eplan_Item)))], 1⟩ [] (by kernel_rfl) trivial ?_
          exact LWp.conv (inv := [(0, 0)]) (vk := []) (e0 := []) (t := ⟨[(0, .own 0), (1, iV .i64 a1), (4, .im (.sc (.func (.func 50) #[] #[]))), (11, iV .i64 (IntKind.i64.wrap (x1225 + (1 : Int)))), (12, iV .i64 x1204)], [(0, some (.row 4 89 (x1202.map eplan_Item)))], 1⟩) (by kernel_rfl) (ih _ _ H)
        · replace H := (ifF c1245).symm.trans H
          refine AWp.exit ?_
          obtain rfl := Option.some.inj H
          exact Exists.intro _ (And.intro (fun _ _ h => h.conv (inv := [(0, 0)]) (vk := []) (e0 := []) (t := ⟨[(0, .own 0), (1, iV .i64 a1), (4, .im (.sc (.func (.func 50) #[] #[]))), (11, iV .i64 x1225), (12, iV .i64 x1204)], [(0, some (.row 4 89 (x1202.map eplan_Item)))], 1⟩) (by kernel_rfl)) (And.intro rfl rfl))
    · obtain ⟨x1246, rfl⟩ : ∃ z, z = o1312 := ⟨_, rfl⟩
      rintro e s ⟨rfl, rfl⟩
      refine AWp.seq ?_
      refine AWp.block ?_
      obtain ⟨o1316, e1317, H⟩ := bind_of H
      refine AWp.loop (LWp.conv (inv := [(0, 0)]) (vk := []) (e0 := []) (t := ⟨[(0, .own 0), (1, iV .i64 a1), (4, .im (.sc (.func (.func 50) #[] #[]))), (11, iV .i64 x1246), (12, iV .i64 x1204)], [(0, some (.row 4 89 (x1202.map eplan_Item)))], 1⟩) (by kernel_rfl) ?_)
      refine LWp.mono (Q := fun e s => (match (generalizing := false) o1316 with | x1288 => e = .exit 4 ∧ s = ⟨[(0, .own 0), (1, iV .i64 a1), (4, .im (.sc (.func (.func 50) #[] #[]))), (11, iV .i64 x1246), (12, iV .i64 x1288)], [(0, some (.row 4 89 (x1202.map eplan_Item)))], 1⟩)) (LWp.cv (withBody (fun body hbody => ?_))) ?_
      · refine f_slices_partitionEqualCmpFunc_plan_Item_plan_sorted_1.l2.partial_correctness a1 x1202 x1246 (motive := fun x1267 o1316 => LWp Γ body (fun e s => ∃ t, Cv Γ s t ∧ (match (generalizing := false) o1316 with | x1288 => e = .exit 4 ∧ t = ⟨[(0, .own 0), (1, iV .i64 a1), (4, .im (.sc (.func (.func 50) #[] #[]))), (11, iV .i64 x1246), (12, iV .i64 x1288)], [(0, some (.row 4 89 (x1202.map eplan_Item)))], 1⟩)) ⟨[(0, .own 0), (1, iV .i64 a1), (4, .im (.sc (.func (.func 50) #[] #[]))), (11, iV .i64 x1246), (12, iV .i64 x1267)], [(0, some (.row 4 89 (x1202.map eplan_Item)))], 1⟩) ?_ _ _ e1317
        clear H e1317 o1316; intro self ih x1267 o1316 H
        subst hbody
        refine LWp.round ?_
        refine AWp.seq ?_
        refine AWp.seq ?_
        obtain ⟨o1318, e1319, H⟩ := bind_of H
        refine AWp.mono (Q := fun e s => (match (generalizing := false) o1318 with | x1286 => e = .normal ∧ s = ⟨[(0, .own 0), (1, iV .i64 a1), (4, .im (.sc (.func (.func 50) #[] #[]))), (11, iV .i64 x1246), (12, iV .i64 x1267), (65, bV x1286)], [(0, some (.row 4 89 (x1202.map eplan_Item)))], 1⟩)) (AWp.cv ?_) ?_
        · replace H := e1319; clear e1319
          rcases Bool.eq_false_or_eq_true (decide (x1246 ≤ x1267)) with c1277 | c1277
          · replace H := (ifT c1277).symm.trans H
            obtain ⟨b1278, p1279, q1280, H⟩ := at_of H
            obtain ⟨b1281, p1282, q1283, H⟩ := at_of H
            obtain ⟨t1284, e1285, H⟩ := bind_of H
            refine reg hP hn hm [(3, .b true), (8, .c (eplan_Item b1278)), (12, .c (eplan_Item b1281)), (13, .call [] [] [] [] 0 (iV .i64 t1284) [])] [0, 1, 4, 11, 12, 54, 55, 56, 57, 58, 59, 60, 61, 62, 63, 64, 65] [0] ⟨[(0, .own 0), (1, iV .i64 a1), (4, .im (.sc (.func (.func 50) #[] #[]))), (11, iV .i64 x1246), (12, iV .i64 x1267), (54, .im (.sc (.func (.func 50) #[] #[]))), (55, .own 0), (56, iV .i64 a1), (57, .ptr 0 (Int.toNat (a1)) 0), (58, .agg (apluvialref17_Item ⟨b1278.f0, b1278.f1.f0, b1278.f1.f1, b1278.f1.f2⟩)), (59, .own 0), (60, iV .i64 x1267), (61, .ptr 0 (Int.toNat (x1267)) 0), (62, .agg (apluvialref17_Item ⟨b1281.f0, b1281.f1.f0, b1281.f1.f1, b1281.f1.f2⟩)), (63, iV .i64 t1284), (64, bV (decide (t1284 < (0 : Int)))), (65, bV (decide (t1284 < (0 : Int))))], [(0, some (.row 4 89 (x1202.map eplan_Item)))], 1⟩ [(decide (x1246 ≤ x1267)) = true, 0 ≤ a1, a1 < (((x1202.map eplan_Item).length : Nat) : Int), (x1202.map eplan_Item)[(Int.toNat (a1))]? = some (eplan_Item b1278), 0 ≤ x1267, x1267 < (((x1202.map eplan_Item).length : Nat) : Int), (x1202.map eplan_Item)[(Int.toNat (x1267))]? = some (eplan_Item b1281), Enters Try.prog 50, Pv.Fn Try.prog 50 [.agg (apluvialref17_Item ⟨b1278.f0, b1278.f1.f0, b1278.f1.f1, b1278.f1.f2⟩), .agg (apluvialref17_Item ⟨b1281.f0, b1281.f1.f0, b1281.f1.f1, b1281.f1.f2⟩)] [] 0 (fun r o => r = iV .i64 t1284 ∧ o = [])] (by kernel_rfl) ⟨by exact c1277, by exact p1279, by exact el_lt eplan_Item p1279 q1280, by exact el_map eplan_Item q1280, by exact p1282, by exact el_lt eplan_Item p1282 q1283, by exact el_map eplan_Item q1283, by exact Try.call50, by exact f_plan_sorted_1.ok b1278 b1281 t1284 e1285, trivial⟩ ?_
            obtain rfl := Option.some.inj H
            exact Exists.intro _ (And.intro (fun _ _ h => h.conv (inv := [(0, 0)]) (vk := []) (e0 := []) (t := ⟨[(0, .own 0), (1, iV .i64 a1), (4, .im (.sc (.func (.func 50) #[] #[]))), (11, iV .i64 x1246), (12, iV .i64 x1267), (65, bV (decide (t1284 < (0 : Int))))], [(0, some (.row 4 89 (x1202.map eplan_Item)))], 1⟩) (by kernel_rfl)) (And.intro rfl rfl))
          · replace H := (ifF c1277).symm.trans H
            refine reg hP hn hm [(3, .b false)] [0, 1, 4, 11, 12, 65] [0] ⟨[(0, .own 0), (1, iV .i64 a1), (4, .im (.sc (.func (.func 50) #[] #[]))), (11, iV .i64 x1246), (12, iV .i64 x1267), (65, bV false)], [(0, some (.row 4 89 (x1202.map eplan_Item)))], 1⟩ [(decide (x1246 ≤ x1267)) = false] (by kernel_rfl) ⟨by exact c1277, trivial⟩ ?_
            obtain rfl := Option.some.inj H
            exact Exists.intro _ (And.intro (fun _ _ h => h.conv (inv := [(0, 0)]) (vk := []) (e0 := []) (t := ⟨[(0, .own 0), (1, iV .i64 a1), (4, .im (.sc (.func (.func 50) #[] #[]))), (11, iV .i64 x1246), (12, iV .i64 x1267), (65, bV false)], [(0, some (.row 4 89 (x1202.map eplan_Item)))], 1⟩) (by kernel_rfl)) (And.intro rfl rfl))
        · obtain ⟨x1286, rfl⟩ : ∃ z, z = o1318 := ⟨_, rfl⟩
          rintro e s ⟨rfl, rfl⟩
          refine AWp.cond x1286 rfl (fun c1287 => ?_) (fun c1287 => ?_)
          · replace H := (ifT c1287).symm.trans H
            refine AWp.skip ?_
            refine AWp.block ?_
            refine reg hP hn hm [] [0, 1, 4, 11, 12] [0] ⟨[(0, .own 0), (1, iV .i64 a1), (4, .im (.sc (.func (.func 50) #[] #[]))), (11, iV .i64 x1246), (12, iV .i64 (IntKind.i64.wrap (x1267 - (1 : Int))))], [(0, some (.row 4 89 (x1202.map eplan_Item)))], 1⟩ [] (by kernel_rfl) trivial ?_
            exact LWp.conv (inv := [(0, 0)]) (vk := []) (e0 := []) (t := ⟨[(0, .own 0), (1, iV .i64 a1), (4, .im (.sc (.func (.func 50) #[] #[]))), (11, iV .i64 x1246), (12, iV .i64 (IntKind.i64.wrap (x1267 - (1 : Int))))], [(0, some (.row 4 89 (x1202.map eplan_Item)))], 1⟩) (by kernel_rfl) (ih _ _ H)
          · replace H := (ifF c1287).symm.trans H
            refine AWp.exit ?_
            obtain rfl := Option.some.inj H
            exact Exists.intro _ (And.intro (fun _ _ h => h.conv (inv := [(0, 0)]) (vk := []) (e0 := []) (t := ⟨[(0, .own 0), (1, iV .i64 a1), (4, .im (.sc (.func (.func 50) #[] #[]))), (11, iV .i64 x1246), (12, iV .i64 x1267)], [(0, some (.row 4 89 (x1202.map eplan_Item)))], 1⟩) (by kernel_rfl)) (And.intro rfl rfl))
      · obtain ⟨x1288, rfl⟩ : ∃ z, z = o1316 := ⟨_, rfl⟩
        rintro e s ⟨rfl, rfl⟩
        refine AWp.seq ?_
        refine AWp.seq ?_
        refine reg hP hn hm [] [0, 1, 4, 11, 12, 70] [0] ⟨[(0, .own 0), (1, iV .i64 a1), (4, .im (.sc (.func (.func 50) #[] #[]))), (11, iV .i64 x1246), (12, iV .i64 x1288), (70, bV (decide (x1246 > x1288)))], [(0, some (.row 4 89 (x1202.map eplan_Item)))], 1⟩ [] (by kernel_rfl) trivial ?_
        refine AWp.cond (decide (x1246 > x1288)) rfl (fun c1289 => ?_) (fun c1289 => ?_)
        · replace H := (ifT c1289).symm.trans H
          refine AWp.exit ?_
          obtain rfl := Option.some.inj H
          exact Exists.intro _ (And.intro (fun _ _ h => h.conv (inv := [(0, 0)]) (vk := []) (e0 := []) (t := ⟨[(11, iV .i64 x1246)], [(0, some (.row 4 89 (x1202.map eplan_Item)))], 1⟩) (by kernel_rfl)) (And.intro rfl rfl))
        · replace H := (ifF c1289).symm.trans H
          refine AWp.skip ?_
          refine AWp.seq ?_
          obtain ⟨b1299, p1300, q1301, H⟩ := at_of H
          obtain ⟨b1302, p1303, q1304, H⟩ := at_of H
          obtain ⟨b1305, p1306, q1307, H⟩ := at_of H
          refine reg hP hn hm [(7, .c (eplan_Item b1299)), (11, .c (eplan_Item b1302)), (13, .put (eplan_Item b1302) ((x1202.set (Int.toNat (x1246)) b1299).map eplan_Item)), (15, .put (eplan_Item b1305) (((x1202.set (Int.toNat (x1246)) b1299).set (Int.toNat (x1288)) b1302).map eplan_Item))] [0, 1, 4, 11, 12] [0] ⟨[(0, .own 0), (1, iV .i64 a1), (4, .im (.sc (.func (.func 50) #[] #[]))), (11, iV .i64 x1246), (12, iV .i64 x1288)], [(0, some (.row 4 89 (((x1202.set (Int.toNat (x1246)) b1299).set (Int.toNat (x1288)) b1302).map eplan_Item)))], 1⟩ [0 ≤ x1288, x1288 < (((x1202.map eplan_Item).length : Nat) : Int), (x1202.map eplan_Item)[(Int.toNat (x1288))]? = some (eplan_Item b1299), 0 ≤ x1246, x1246 < (((x1202.map eplan_Item).length : Nat) : Int), (x1202.map eplan_Item)[(Int.toNat (x1246))]? = some (eplan_Item b1302), 0 ≤ x1246, x1246 < (((x1202.map eplan_Item).length : Nat) : Int), (x1202.map eplan_Item)[(Int.toNat (x1246))]? = some (eplan_Item b1302), (x1202.set (Int.toNat (x1246)) b1299).map eplan_Item = (x1202.map eplan_Item).set (Int.toNat (x1246)) (splice (eplan_Item b1302) 0 [iI .i64 b1299.f0, iI .i64 b1299.f1.f0, iI .i64 b1299.f1.f1, iI .i64 b1299.f1.f2]), 0 ≤ x1288, x1288 < ((((x1202.set (Int.toNat (x1246)) b1299).map eplan_Item).length : Nat) : Int), ((x1202.set (Int.toNat (x1246)) b1299).map eplan_Item)[(Int.toNat (x1288))]? = some (eplan_Item b1305), ((x1202.set (Int.toNat (x1246)) b1299).set (Int.toNat (x1288)) b1302).map eplan_Item = ((x1202.set (Int.toNat (x1246)) b1299).map eplan_Item).set (Int.toNat (x1288)) (splice (eplan_Item b1305) 0 [iI .i64 b1302.f0, iI .i64 b1302.f1.f0, iI .i64 b1302.f1.f1, iI .i64 b1302.f1.f2])] (by kernel_rfl) ⟨by exact p1300, by exact el_lt eplan_Item p1300 q1301, by exact el_map eplan_Item q1301, by exact p1303, by exact el_lt eplan_Item p1303 q1304, by exact el_map eplan_Item q1304, by exact p1303, by exact el_lt eplan_Item p1303 q1304, by exact el_map eplan_Item q1304, by exact set1 _ _ _ _, by exact p1306, by exact el_lt eplan_Item p1306 q1307, by exact el_map eplan_Item q1307, by exact set1 _ _ _ _, trivial⟩ ?_
          refine AWp.seq ?_
          refine reg hP hn hm [] [0, 1, 4, 11, 12] [0] ⟨[(0, .own 0), (1, iV .i64 a1), (4, .im (.sc (.func (.func 50) #[] #[]))), (11, iV .i64 (IntKind.i64.wrap (x1246 + (1 : Int)))), (12, iV .i64 x1288)], [(0, some (.row 4 89 (((x1202.set (Int.toNat (x1246)) b1299).set (Int.toNat (x1288)) b1302).map eplan_Item)))], 1⟩ [] (by kernel_rfl) trivial ?_
          refine reg hP hn hm [] [0, 1, 4, 11, 12] [0] ⟨[(0, .own 0), (1, iV .i64 a1), (4, .im (.sc (.func (.func 50) #[] #[]))), (11, iV .i64 (IntKind.i64.wrap (x1246 + (1 : Int)))), (12, iV .i64 (IntKind.i64.wrap (x1288 - (1 : Int))))], [(0, some (.row 4 89 (((x1202.set (Int.toNat (x1246)) b1299).set (Int.toNat (x1288)) b1302).map eplan_Item)))], 1⟩ [] (by kernel_rfl) trivial ?_
          exact LWp.conv (inv := [(0, 0)]) (vk := []) (e0 := []) (t := ⟨[(0, .own 0), (1, iV .i64 a1), (4, .im (.sc (.func (.func 50) #[] #[]))), (11, iV .i64 (IntKind.i64.wrap (x1246 + (1 : Int)))), (12, iV .i64 (IntKind.i64.wrap (x1288 - (1 : Int))))], [(0, some (.row 4 89 (((x1202.set (Int.toNat (x1246)) b1299).set (Int.toNat (x1288)) b1302).map eplan_Item)))], 1⟩) (by kernel_rfl) (ih _ _ _ _ H)
  · obtain ⟨x1308, x1309⟩ := o1310
    rintro e s ⟨rfl, rfl⟩
    refine AWp.seq ?_
    refine reg hP hn hm [] [10] [0] ⟨[(10, iV .i64 x1308)], [(0, some (.row 4 89 (x1309.map eplan_Item)))], 1⟩ [] (by kernel_rfl) trivial ?_
    refine AWp.conv (inv := [(0, 0)]) (vk := []) (e0 := []) (t := ⟨[(10, iV .i64 x1308)], [(0, some (.row 4 89 (x1309.map eplan_Item)))], 1⟩) (by kernel_rfl) ?_
    refine AWp.ret ?_
    obtain rfl := Option.some.inj H
    exact Exists.intro _ (And.intro (fun _ _ h => h) (And.intro (.inl rfl) (And.intro rfl (And.intro (by kernel_rfl) (by kernel_rfl)))))
end Go.Proofs.Ytfkppdcfgmgllaa.PvGD4
