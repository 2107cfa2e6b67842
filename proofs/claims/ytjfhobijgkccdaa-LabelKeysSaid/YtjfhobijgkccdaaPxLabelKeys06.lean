import Derived.Test.YtjfhobijgkccdaaProg
import Derived.Test.YtjfhobijgkccdaaPxLabelKeys05
set_option linter.unusedVariables false
set_option linter.unnecessarySimpa false
set_option linter.unusedSimpArgs false
set_option maxRecDepth 10000
namespace Go.Proofs.Ytjfhobijgkccdaa.PvGA1
open Go Go.Pv
structure TLabel where
  f0 : ByteArray
  f1 : ByteArray
  deriving DecidableEq, Inhabited
abbrev eLabel (x : TLabel) : List Im := [sI x.f0, sI x.f1]
abbrev aLabel (x : TLabel) : List AVal := [sV x.f0, sV x.f1]
structure RLabel (x : TLabel) : Prop where
  r0 : x.f0.size ≤ maxLen
  r1 : x.f1.size ≤ maxLen
def f_pluviallaw10_Light.l0 (a0 : List TLabel) (x8 : Int) (x9 : Int) : Option (Int) := if (decide (x9 < (a0.length : Int))) = true then ((at? a0 x9) >>= fun b14 => f_pluviallaw10_Light.l0 a0 (IntKind.i64.wrap (x8 + (IntKind.i64.wrap ((IntKind.i64.wrap ((b14.f0.size : Int) + (b14.f1.size : Int))) + (1 : Int))))) (IntKind.i64.wrap (x9 + (1 : Int)))) else (some x8)
partial_fixpoint
def f_pluviallaw10_Light.f (a0 : List TLabel) : Option (Bool) := (f_pluviallaw10_Light.l0 a0 0 0) >>= fun x17 => some (decide (x17 ≤ (3000 : Int)))
theorem f_pluviallaw10_Light.ok (a0 : List TLabel) (r : Bool) (H : f_pluviallaw10_Light.f a0 = some r) : Pv.Fn Try.prog 20 [.im (.row (a0.map eLabel))] [] 0 (fun x o => x = bV r ∧ o = []) := by
  unfold f_pluviallaw10_Light.f at H
  refine Fn.bodyK [] Try.func20 rfl rfl (fun Γ hP hn => ?_)
  have hm : Try.prog.follows .mixedOrders = true := by kernel_rfl
  replace hn : Γ.n = 25 := hn
  refine AWp.seq ?_
  refine reg hP hn hm [] [0] [] ⟨[(0, .im (.row (a0.map eLabel)))], [], 0⟩ [] (by kernel_rfl) trivial ?_
  refine AWp.seq ?_
  refine reg hP hn hm [] [0, 3] [] ⟨[(0, .im (.row (a0.map eLabel))), (3, iV .i64 0)], [], 0⟩ [] (by kernel_rfl) trivial ?_
  refine AWp.seq ?_
  refine AWp.seq ?_
  refine reg hP hn hm [(1, .any (iV .i64 (a0.length : Int)))] [3, 6, 7, 8] [] ⟨[(3, iV .i64 0), (6, .im (.row (a0.map eLabel))), (7, iV .i64 (a0.length : Int)), (8, iV .i64 0)], [], 0⟩ [((a0.map eLabel).length : Int) = (a0.length : Int)] (by kernel_rfl) ⟨by rw [len_map], trivial⟩ ?_
  refine AWp.block ?_
  obtain ⟨o18, e19, H⟩ := bind_of H
  refine AWp.loop (LWp.conv (inv := []) (vk := []) (e0 := []) (t := ⟨[(3, iV .i64 0), (6, .im (.row (a0.map eLabel))), (7, iV .i64 (a0.length : Int)), (8, iV .i64 0)], [], 0⟩) (by kernel_rfl) ?_)
  refine LWp.mono (Q := fun e s => (match (generalizing := false) o18 with | x17 => e = .exit 0 ∧ s = ⟨[(3, iV .i64 x17)], [], 0⟩)) (LWp.cv (withBody (fun body hbody => ?_))) ?_
  · refine f_pluviallaw10_Light.l0.partial_correctness a0 (motive := fun x8 x9 o18 => LWp Γ body (fun e s => ∃ t, Cv Γ s t ∧ (match (generalizing := false) o18 with | x17 => e = .exit 0 ∧ t = ⟨[(3, iV .i64 x17)], [], 0⟩)) ⟨[(3, iV .i64 x8), (6, .im (.row (a0.map eLabel))), (7, iV .i64 (a0.length : Int)), (8, iV .i64 x9)], [], 0⟩) ?_ _ _ _ e19
    clear H e19 o18; intro self ih x8 x9 o18 H
    subst hbody
    refine LWp.round ?_
    refine AWp.seq ?_
    refine reg hP hn hm [] [3, 6, 7, 8, 9] [] ⟨[(3, iV .i64 x8), (6, .im (.row (a0.map eLabel))), (7, iV .i64 (a0.length : Int)), (8, iV .i64 x9), (9, bV (decide (x9 < (a0.length : Int))))], [], 0⟩ [] (by kernel_rfl) trivial ?_
    refine AWp.seq ?_
    refine AWp.cond (decide (x9 < (a0.length : Int))) rfl (fun c10 => ?_) (fun c10 => ?_)
    · replace H := (ifT c10).symm.trans H
      refine AWp.skip ?_
      refine AWp.seq ?_
      refine AWp.block ?_
      refine AWp.seq ?_
      obtain ⟨b14, p15, q16, H⟩ := at_of H
      refine reg hP hn hm [(0, .c (eLabel b14)), (2, .k 1)] [3, 5, 6, 7, 8] [1] ⟨[(3, iV .i64 x8), (5, .ptr 1 0 0), (6, .im (.row (a0.map eLabel))), (7, iV .i64 (a0.length : Int)), (8, iV .i64 x9)], [(1, some (.box 67 (aLabel b14)))], 0⟩ [0 ≤ x9, (a0.map eLabel)[(Int.toNat (x9))]? = some (eLabel b14)] (by kernel_rfl) ⟨by exact p15, by exact el_map eLabel q16, trivial⟩ ?_
      refine reg hP hn hm [] [3, 6, 7, 8] [] ⟨[(3, iV .i64 (IntKind.i64.wrap (x8 + (IntKind.i64.wrap ((IntKind.i64.wrap ((b14.f0.size : Int) + (b14.f1.size : Int))) + (1 : Int)))))), (6, .im (.row (a0.map eLabel))), (7, iV .i64 (a0.length : Int)), (8, iV .i64 x9)], [], 0⟩ [] (by kernel_rfl) trivial ?_
      refine reg hP hn hm [] [3, 6, 7, 8] [] ⟨[(3, iV .i64 (IntKind.i64.wrap (x8 + (IntKind.i64.wrap ((IntKind.i64.wrap ((b14.f0.size : Int) + (b14.f1.size : Int))) + (1 : Int)))))), (6, .im (.row (a0.map eLabel))), (7, iV .i64 (a0.length : Int)), (8, iV .i64 (IntKind.i64.wrap (x9 + (1 : Int))))], [], 0⟩ [] (by kernel_rfl) trivial ?_
      exact LWp.conv (inv := []) (vk := []) (e0 := []) (t := ⟨[(3, iV .i64 (IntKind.i64.wrap (x8 + (IntKind.i64.wrap ((IntKind.i64.wrap ((b14.f0.size : Int) + (b14.f1.size : Int))) + (1 : Int)))))), (6, .im (.row (a0.map eLabel))), (7, iV .i64 (a0.length : Int)), (8, iV .i64 (IntKind.i64.wrap (x9 + (1 : Int))))], [], 0⟩) (by kernel_rfl) (ih _ _ _ H)
    · replace H := (ifF c10).symm.trans H
      refine AWp.exit ?_
      obtain rfl := Option.some.inj H
      exact Exists.intro _ (And.intro (fun _ _ h => h.conv (inv := []) (vk := []) (e0 := []) (t := ⟨[(3, iV .i64 x8)], [], 0⟩) (by kernel_rfl)) (And.intro rfl rfl))
  · obtain ⟨x17, rfl⟩ : ∃ z, z = o18 := ⟨_, rfl⟩
    rintro e s ⟨rfl, rfl⟩
    refine AWp.seq ?_
    refine reg hP hn hm [] [2] [] ⟨[(2, bV (decide (x17 ≤ (3000 : Int))))], [], 0⟩ [] (by kernel_rfl) trivial ?_
    refine AWp.conv (inv := []) (vk := []) (e0 := []) (t := ⟨[(2, bV (decide (x17 ≤ (3000 : Int))))], [], 0⟩) (by kernel_rfl) ?_
    refine AWp.ret ?_
    obtain rfl := Option.some.inj H
    exact Exists.intro _ (And.intro (fun _ _ h => h) (And.intro (.inl rfl) (And.intro rfl (And.intro (by kernel_rfl) (by kernel_rfl)))))
def f_stringslite_HasPrefix.f (a0 : ByteArray) (a1 : ByteArray) : Option (Bool) := ((if (decide ((a0.size : Int) ≥ (a1.size : Int))) = true then ((chk (0 ≤ (0 : Int) ∧ (0 : Int) ≤ (a1.size : Int) ∧ (a1.size : Int) ≤ (a0.size : Int))) >>= fun _ => some ((a0.extract (Int.toNat ((0 : Int))) (Int.toNat ((a1.size : Int)))).toList == a1.toList)) else (some false)) : Option (Bool)) >>= fun x38 => some x38
theorem f_stringslite_HasPrefix.ok (a0 : ByteArray) (a1 : ByteArray) (r : Bool) (H : f_stringslite_HasPrefix.f a0 a1 = some r) : Pv.Fn Try.prog 98 [sV a0, sV a1] [] 0 (fun x o => x = bV r ∧ o = []) := by
  unfold f_stringslite_HasPrefix.f at H
  refine Fn.bodyK [] Try.func98 rfl rfl (fun Γ hP hn => ?_)
  have hm : Try.prog.follows .mixedOrders = true := by kernel_rfl
  replace hn : Γ.n = 18 := hn
  refine AWp.seq ?_
  refine reg hP hn hm [] [0, 1] [] ⟨[(0, sV a0), (1, sV a1)], [], 0⟩ [] (by kernel_rfl) trivial ?_
  refine AWp.seq ?_
  obtain ⟨o39, e40, H⟩ := bind_of H
  refine AWp.mono (Q := fun e s => (match (generalizing := false) o39 with | x38 => e = .normal ∧ s = ⟨[(4, bV x38)], [], 0⟩)) (AWp.cv ?_) ?_
  · replace H := e40; clear e40
    rcases Bool.eq_false_or_eq_true (decide ((a0.size : Int) ≥ (a1.size : Int))) with c36 | c36
    · replace H := (ifT c36).symm.trans H
      obtain ⟨c37, H⟩ := chk_of H
      refine reg hP hn hm [(5, .b true)] [4] [] ⟨[(4, bV ((a0.extract (Int.toNat ((0 : Int))) (Int.toNat ((a1.size : Int)))).toList == a1.toList))], [], 0⟩ [(decide ((a0.size : Int) ≥ (a1.size : Int))) = true, 0 ≤ (0 : Int), (0 : Int) ≤ (a1.size : Int), (a1.size : Int) ≤ (a0.size : Int)] (by kernel_rfl) ⟨by exact c36, by exact c37.1, by exact c37.2.1, by exact c37.2.2, trivial⟩ ?_
      obtain rfl := Option.some.inj H
      exact Exists.intro _ (And.intro (fun _ _ h => h.conv (inv := []) (vk := []) (e0 := []) (t := ⟨[(4, bV ((a0.extract (Int.toNat ((0 : Int))) (Int.toNat ((a1.size : Int)))).toList == a1.toList))], [], 0⟩) (by kernel_rfl)) (And.intro rfl rfl))
    · replace H := (ifF c36).symm.trans H
      refine reg hP hn hm [(5, .b false)] [4] [] ⟨[(4, bV false)], [], 0⟩ [(decide ((a0.size : Int) ≥ (a1.size : Int))) = false] (by kernel_rfl) ⟨by exact c36, trivial⟩ ?_
      obtain rfl := Option.some.inj H
      exact Exists.intro _ (And.intro (fun _ _ h => h.conv (inv := []) (vk := []) (e0 := []) (t := ⟨[(4, bV false)], [], 0⟩) (by kernel_rfl)) (And.intro rfl rfl))
  · obtain ⟨x38, rfl⟩ : ∃ z, z = o39 := ⟨_, rfl⟩
    rintro e s ⟨rfl, rfl⟩
    refine AWp.conv (inv := []) (vk := []) (e0 := []) (t := ⟨[(4, bV x38)], [], 0⟩) (by kernel_rfl) ?_
    refine AWp.ret ?_
    obtain rfl := Option.some.inj H
    exact Exists.intro _ (And.intro (fun _ _ h => h) (And.intro (.inl rfl) (And.intro rfl (And.intro (by kernel_rfl) (by kernel_rfl)))))
def f_stringslite_CutPrefix.f (a0 : ByteArray) (a1 : ByteArray) : Option (ByteArray × Bool) := (f_stringslite_HasPrefix.f a0 a1) >>= fun t43 => if (!t43) = true then (some (a0, false)) else ((chk (0 ≤ (a1.size : Int) ∧ (a1.size : Int) ≤ (a0.size : Int) ∧ (a0.size : Int) ≤ (a0.size : Int))) >>= fun _ => some (a0.extract (Int.toNat ((a1.size : Int))) (Int.toNat ((a0.size : Int))), true))
theorem f_stringslite_CutPrefix.ok (a0 : ByteArray) (a1 : ByteArray) (r : ByteArray × Bool) (H : f_stringslite_CutPrefix.f a0 a1 = some r) : Pv.Fn Try.prog 83 [sV a0, sV a1] [] 0 (fun x o => x = .tup [sV r.1, bV r.2] ∧ o = []) := by
  unfold f_stringslite_CutPrefix.f at H
  refine Fn.bodyK [] Try.func83 rfl rfl (fun Γ hP hn => ?_)
  have hm : Try.prog.follows .mixedOrders = true := by kernel_rfl
  replace hn : Γ.n = 15 := hn
  refine AWp.seq ?_
  refine reg hP hn hm [] [0, 1] [] ⟨[(0, sV a0), (1, sV a1)], [], 0⟩ [] (by kernel_rfl) trivial ?_
  refine AWp.seq ?_
  refine AWp.seq ?_
  obtain ⟨t43, e44, H⟩ := bind_of H
  refine reg hP hn hm [(2, .call [] [] [] [] 0 (bV t43) [])] [0, 1, 9] [] ⟨[(0, sV a0), (1, sV a1), (9, bV (!t43))], [], 0⟩ [Enters Try.prog 98, Pv.Fn Try.prog 98 [sV a0, sV a1] [] 0 (fun r o => r = bV t43 ∧ o = [])] (by kernel_rfl) ⟨by exact Try.call98, by exact f_stringslite_HasPrefix.ok a0 a1 t43 e44, trivial⟩ ?_
  refine AWp.cond (!t43) rfl (fun c45 => ?_) (fun c45 => ?_)
  · replace H := (ifT c45).symm.trans H
    refine AWp.seq ?_
    refine reg hP hn hm [] [4, 5] [] ⟨[(4, sV a0), (5, bV false)], [], 0⟩ [] (by kernel_rfl) trivial ?_
    refine AWp.conv (inv := []) (vk := []) (e0 := []) (t := ⟨[(4, sV a0), (5, bV false)], [], 0⟩) (by kernel_rfl) ?_
    refine AWp.ret ?_
    obtain rfl := Option.some.inj H
    exact Exists.intro _ (And.intro (fun _ _ h => h) (And.intro (.inl rfl) (And.intro rfl (And.intro (by kernel_rfl) (by kernel_rfl)))))
  · replace H := (ifF c45).symm.trans H
    refine AWp.skip ?_
    refine AWp.seq ?_
    obtain ⟨c47, H⟩ := chk_of H
    refine reg hP hn hm [] [4, 5] [] ⟨[(4, sV (a0.extract (Int.toNat ((a1.size : Int))) (Int.toNat ((a0.size : Int))))), (5, bV true)], [], 0⟩ [0 ≤ (a1.size : Int), (a1.size : Int) ≤ (a0.size : Int), (a0.size : Int) ≤ (a0.size : Int)] (by kernel_rfl) ⟨by exact c47.1, by exact c47.2.1, by exact c47.2.2, trivial⟩ ?_
    refine AWp.conv (inv := []) (vk := []) (e0 := []) (t := ⟨[(4, sV (a0.extract (Int.toNat ((a1.size : Int))) (Int.toNat ((a0.size : Int))))), (5, bV true)], [], 0⟩) (by kernel_rfl) ?_
    refine AWp.ret ?_
    obtain rfl := Option.some.inj H
    exact Exists.intro _ (And.intro (fun _ _ h => h) (And.intro (.inl rfl) (And.intro rfl (And.intro (by kernel_rfl) (by kernel_rfl)))))
def f_strings_CutPrefix.f (a0 : ByteArray) (a1 : ByteArray) : Option (ByteArray × Bool) := (f_stringslite_CutPrefix.f a0 a1) >>= fun t50 => some (t50.1, t50.2)
theorem f_strings_CutPrefix.ok (a0 : ByteArray) (a1 : ByteArray) (r : ByteArray × Bool) (H : f_strings_CutPrefix.f a0 a1 = some r) : Pv.Fn Try.prog 52 [sV a0, sV a1] [] 0 (fun x o => x = .tup [sV r.1, bV r.2] ∧ o = []) := by
  unfold f_strings_CutPrefix.f at H
  refine Fn.bodyK [] Try.func52 rfl rfl (fun Γ hP hn => ?_)
  have hm : Try.prog.follows .mixedOrders = true := by kernel_rfl
  replace hn : Γ.n = 11 := hn
  refine AWp.seq ?_
  refine reg hP hn hm [] [0, 1] [] ⟨[(0, sV a0), (1, sV a1)], [], 0⟩ [] (by kernel_rfl) trivial ?_
  refine AWp.seq ?_
  obtain ⟨t50, e51, H⟩ := bind_of H
  refine reg hP hn hm [(2, .call [] [] [] [] 0 (.tup [sV t50.1, bV t50.2]) [])] [4, 5] [] ⟨[(4, sV t50.1), (5, bV t50.2)], [], 0⟩ [Enters Try.prog 83, Pv.Fn Try.prog 83 [sV a0, sV a1] [] 0 (fun r o => r = .tup [sV t50.1, bV t50.2] ∧ o = [])] (by kernel_rfl) ⟨by exact Try.call83, by exact f_stringslite_CutPrefix.ok a0 a1 t50 e51, trivial⟩ ?_
  refine AWp.conv (inv := []) (vk := []) (e0 := []) (t := ⟨[(4, sV t50.1), (5, bV t50.2)], [], 0⟩) (by kernel_rfl) ?_
  refine AWp.ret ?_
  obtain rfl := Option.some.inj H
  exact Exists.intro _ (And.intro (fun _ _ h => h) (And.intro (.inl rfl) (And.intro rfl (And.intro (by kernel_rfl) (by kernel_rfl)))))
def f_stringslite_IndexByte.f (a0 : ByteArray) (a1 : Int) : Option (Unit) := some ()
theorem f_stringslite_IndexByte.ok (a0 : ByteArray) (a1 : Int) (r : Unit) (H : f_stringslite_IndexByte.f a0 a1 = some r) : Pv.Fn Try.prog 106 [sV a0, iV .u8 a1] [] 0 (fun x o => x = iV .i64 (Lib.indexByte a0.data.toList (Int.toNat a1).toUInt8) ∧ o = []) := by
  unfold f_stringslite_IndexByte.f at H
  refine Fn.bodyK [] Try.func106 rfl rfl (fun Γ hP hn => ?_)
  have hm : Try.prog.follows .mixedOrders = true := by kernel_rfl
  replace hn : Γ.n = 8 := hn
  refine AWp.seq ?_
  refine reg hP hn hm [] [0, 1] [] ⟨[(0, sV a0), (1, iV .u8 a1)], [], 0⟩ [] (by kernel_rfl) trivial ?_
  refine AWp.seq ?_
  refine reg hP hn hm [(2, .ext (iV .i64 (Lib.indexByte a0.data.toList (Int.toNat a1).toUInt8)))] [4] [] ⟨[(4, iV .i64 (Lib.indexByte a0.data.toList (Int.toNat a1).toUInt8))], [], 0⟩ [∀ w, (callFunc 112 ([.string a0, .int .u8 a1] : List Value).toArray).run Try.prog w = .ok (.value (.int .i64 (Lib.indexByte a0.data.toList (Int.toNat a1).toUInt8))) w] (by kernel_rfl) ⟨by exact fun w => x_indexByte (fn := Try.f112) Try.func112 (by kernel_rfl) rfl (by kernel_rfl) (by kernel_rfl) w, trivial⟩ ?_
  refine AWp.conv (inv := []) (vk := []) (e0 := []) (t := ⟨[(4, iV .i64 (Lib.indexByte a0.data.toList (Int.toNat a1).toUInt8))], [], 0⟩) (by kernel_rfl) ?_
  refine AWp.ret ?_
  obtain rfl := Option.some.inj H
  exact Exists.intro _ (And.intro (fun _ _ h => h) (And.intro (.inl rfl) (And.intro rfl (And.intro (by kernel_rfl) (by kernel_rfl)))))
def f_stringslite_Index_2e8.f (a0 : ByteArray) : Option (Int) := if ((⟨#[61]⟩ : ByteArray).toList == a0.toList) = true then (some 0) else ((chk (0 ≤ (0 : Int) ∧ (0 : Int) < ((⟨#[61]⟩ : ByteArray).size : Int))) >>= fun _ => (f_stringslite_IndexByte.f a0 (bt (⟨#[61]⟩ : ByteArray) 0)) >>= fun t63 => some (Lib.indexByte a0.data.toList (Int.toNat (bt (⟨#[61]⟩ : ByteArray) 0)).toUInt8))
theorem f_stringslite_Index_2e8.ok (a0 : ByteArray) (r : Int) (H : f_stringslite_Index_2e8.f a0 = some r) : Pv.Fn Try.prog 99 [sV a0, sV (⟨#[61]⟩ : ByteArray)] [] 0 (fun x o => x = iV .i64 r ∧ o = []) := by
  unfold f_stringslite_Index_2e8.f at H
  refine Fn.bodyK [] Try.func99 rfl rfl (fun Γ hP hn => ?_)
  have hm : Try.prog.follows .mixedOrders = true := by kernel_rfl
  replace hn : Γ.n = 143 := hn
  refine AWp.seq ?_
  refine reg hP hn hm [] [0, 1] [] ⟨[(0, sV a0), (1, sV (⟨#[61]⟩ : ByteArray))], [], 0⟩ [] (by kernel_rfl) trivial ?_
  refine AWp.seq ?_
  refine reg hP hn hm [] [0, 1, 5] [] ⟨[(0, sV a0), (1, sV (⟨#[61]⟩ : ByteArray)), (5, iV .i64 1)], [], 0⟩ [] (by kernel_rfl) trivial ?_
  refine AWp.seq ?_
  refine AWp.block ?_
  refine AWp.seq ?_
  refine reg hP hn hm [] [0, 1, 5, 16] [] ⟨[(0, sV a0), (1, sV (⟨#[61]⟩ : ByteArray)), (5, iV .i64 1), (16, bV ((⟨#[61]⟩ : ByteArray).toList == a0.toList))], [], 0⟩ [] (by kernel_rfl) trivial ?_
  refine AWp.cond ((⟨#[61]⟩ : ByteArray).toList == a0.toList) rfl (fun c58 => ?_) (fun c58 => ?_)
  · replace H := (ifT c58).symm.trans H
    refine AWp.seq ?_
    refine reg hP hn hm [] [4] [] ⟨[(4, iV .i64 0)], [], 0⟩ [] (by kernel_rfl) trivial ?_
    refine AWp.conv (inv := []) (vk := []) (e0 := []) (t := ⟨[(4, iV .i64 0)], [], 0⟩) (by kernel_rfl) ?_
    refine AWp.ret ?_
    obtain rfl := Option.some.inj H
    exact Exists.intro _ (And.intro (fun _ _ h => h) (And.intro (.inl rfl) (And.intro rfl (And.intro (by kernel_rfl) (by kernel_rfl)))))
  · replace H := (ifF c58).symm.trans H
    refine AWp.seq ?_
    refine reg hP hn hm [] [0, 1, 5, 24] [] ⟨[(0, sV a0), (1, sV (⟨#[61]⟩ : ByteArray)), (5, iV .i64 1), (24, bV true)], [], 0⟩ [] (by kernel_rfl) trivial ?_
    refine AWp.cond true rfl (fun _ => ?_) (fun h => nomatch h)
    refine AWp.seq ?_
    obtain ⟨c62, H⟩ := chk_of H
    obtain ⟨t63, e64, H⟩ := bind_of H
    refine reg hP hn hm [(3, .call [] [] [] [] 0 (iV .i64 (Lib.indexByte a0.data.toList (Int.toNat (bt (⟨#[61]⟩ : ByteArray) 0)).toUInt8)) [])] [4] [] ⟨[(4, iV .i64 (Lib.indexByte a0.data.toList (Int.toNat (bt (⟨#[61]⟩ : ByteArray) 0)).toUInt8))], [], 0⟩ [0 ≤ (0 : Int), (0 : Int) < ((⟨#[61]⟩ : ByteArray).size : Int), Enters Try.prog 106, Pv.Fn Try.prog 106 [sV a0, iV .u8 (bt (⟨#[61]⟩ : ByteArray) 0)] [] 0 (fun r o => r = iV .i64 (Lib.indexByte a0.data.toList (Int.toNat (bt (⟨#[61]⟩ : ByteArray) 0)).toUInt8) ∧ o = [])] (by kernel_rfl) ⟨by exact c62.1, by exact c62.2, by exact Try.call106, by exact f_stringslite_IndexByte.ok a0 (bt (⟨#[61]⟩ : ByteArray) 0) t63 e64, trivial⟩ ?_
    refine AWp.conv (inv := []) (vk := []) (e0 := []) (t := ⟨[(4, iV .i64 (Lib.indexByte a0.data.toList (Int.toNat (bt (⟨#[61]⟩ : ByteArray) 0)).toUInt8))], [], 0⟩) (by kernel_rfl) ?_
    refine AWp.ret ?_
    obtain rfl := Option.some.inj H
    exact Exists.intro _ (And.intro (fun _ _ h => h) (And.intro (.inl rfl) (And.intro rfl (And.intro (by kernel_rfl) (by kernel_rfl)))))
def f_stringslite_Cut_2e8.f (a0 : ByteArray) : Option (ByteArray × ByteArray × Bool) := (f_stringslite_Index_2e8.f a0) >>= fun t67 => if (decide (t67 ≥ (0 : Int))) = true then ((chk (0 ≤ (0 : Int) ∧ (0 : Int) ≤ t67 ∧ t67 ≤ (a0.size : Int))) >>= fun _ => (chk (0 ≤ (IntKind.i64.wrap (t67 + (1 : Int))) ∧ (IntKind.i64.wrap (t67 + (1 : Int))) ≤ (a0.size : Int) ∧ (a0.size : Int) ≤ (a0.size : Int))) >>= fun _ => some (a0.extract (Int.toNat ((0 : Int))) (Int.toNat (t67)), a0.extract (Int.toNat ((IntKind.i64.wrap (t67 + (1 : Int))))) (Int.toNat ((a0.size : Int))), true)) else (some (a0, (⟨#[]⟩ : ByteArray), false))
theorem f_stringslite_Cut_2e8.ok (a0 : ByteArray) (r : ByteArray × ByteArray × Bool) (H : f_stringslite_Cut_2e8.f a0 = some r) : Pv.Fn Try.prog 84 [sV a0, sV (⟨#[61]⟩ : ByteArray)] [] 0 (fun x o => x = .tup [sV r.1, sV r.2.1, bV r.2.2] ∧ o = []) := by
  unfold f_stringslite_Cut_2e8.f at H
  refine Fn.bodyK [] Try.func84 rfl rfl (fun Γ hP hn => ?_)
  have hm : Try.prog.follows .mixedOrders = true := by kernel_rfl
  replace hn : Γ.n = 23 := hn
  refine AWp.seq ?_
  refine reg hP hn hm [] [0, 1] [] ⟨[(0, sV a0), (1, sV (⟨#[61]⟩ : ByteArray))], [], 0⟩ [] (by kernel_rfl) trivial ?_
  refine AWp.seq ?_
  refine AWp.seq ?_
  obtain ⟨t67, e68, H⟩ := bind_of H
  refine reg hP hn hm [(2, .call [] [] [] [] 0 (iV .i64 t67) [])] [0, 1, 7] [] ⟨[(0, sV a0), (1, sV (⟨#[61]⟩ : ByteArray)), (7, iV .i64 t67)], [], 0⟩ [Enters Try.prog 99, Pv.Fn Try.prog 99 [sV a0, sV (⟨#[61]⟩ : ByteArray)] [] 0 (fun r o => r = iV .i64 t67 ∧ o = [])] (by kernel_rfl) ⟨by exact Try.call99, by exact f_stringslite_Index_2e8.ok a0 t67 e68, trivial⟩ ?_
  refine AWp.seq ?_
  refine reg hP hn hm [] [0, 1, 7, 12] [] ⟨[(0, sV a0), (1, sV (⟨#[61]⟩ : ByteArray)), (7, iV .i64 t67), (12, bV (decide (t67 ≥ (0 : Int))))], [], 0⟩ [] (by kernel_rfl) trivial ?_
  refine AWp.cond (decide (t67 ≥ (0 : Int))) rfl (fun c69 => ?_) (fun c69 => ?_)
  · replace H := (ifT c69).symm.trans H
    refine AWp.seq ?_
    obtain ⟨c72, H⟩ := chk_of H
    obtain ⟨c73, H⟩ := chk_of H
    refine reg hP hn hm [] [4, 5, 6] [] ⟨[(4, sV (a0.extract (Int.toNat ((0 : Int))) (Int.toNat (t67)))), (5, sV (a0.extract (Int.toNat ((IntKind.i64.wrap (t67 + (1 : Int))))) (Int.toNat ((a0.size : Int))))), (6, bV true)], [], 0⟩ [0 ≤ (0 : Int), (0 : Int) ≤ t67, t67 ≤ (a0.size : Int), 0 ≤ (IntKind.i64.wrap (t67 + (1 : Int))), (IntKind.i64.wrap (t67 + (1 : Int))) ≤ (a0.size : Int), (a0.size : Int) ≤ (a0.size : Int)] (by kernel_rfl) ⟨by exact c72.1, by exact c72.2.1, by exact c72.2.2, by exact c73.1, by exact c73.2.1, by exact c73.2.2, trivial⟩ ?_
    refine AWp.conv (inv := []) (vk := []) (e0 := []) (t := ⟨[(4, sV (a0.extract (Int.toNat ((0 : Int))) (Int.toNat (t67)))), (5, sV (a0.extract (Int.toNat ((IntKind.i64.wrap (t67 + (1 : Int))))) (Int.toNat ((a0.size : Int))))), (6, bV true)], [], 0⟩) (by kernel_rfl) ?_
    refine AWp.ret ?_
    obtain rfl := Option.some.inj H
    exact Exists.intro _ (And.intro (fun _ _ h => h) (And.intro (.inl rfl) (And.intro rfl (And.intro (by kernel_rfl) (by kernel_rfl)))))
  · replace H := (ifF c69).symm.trans H
    refine AWp.skip ?_
    refine AWp.seq ?_
    refine reg hP hn hm [] [4, 5, 6] [] ⟨[(4, sV a0), (5, sV (⟨#[]⟩ : ByteArray)), (6, bV false)], [], 0⟩ [] (by kernel_rfl) trivial ?_
    refine AWp.conv (inv := []) (vk := []) (e0 := []) (t := ⟨[(4, sV a0), (5, sV (⟨#[]⟩ : ByteArray)), (6, bV false)], [], 0⟩) (by kernel_rfl) ?_
    refine AWp.ret ?_
    obtain rfl := Option.some.inj H
    exact Exists.intro _ (And.intro (fun _ _ h => h) (And.intro (.inl rfl) (And.intro rfl (And.intro (by kernel_rfl) (by kernel_rfl)))))
def f_strings_Cut_2e8.f (a0 : ByteArray) : Option (ByteArray × ByteArray × Bool) := (f_stringslite_Cut_2e8.f a0) >>= fun t76 => some (t76.1, t76.2.1, t76.2.2)
theorem f_strings_Cut_2e8.ok (a0 : ByteArray) (r : ByteArray × ByteArray × Bool) (H : f_strings_Cut_2e8.f a0 = some r) : Pv.Fn Try.prog 53 [sV a0, sV (⟨#[61]⟩ : ByteArray)] [] 0 (fun x o => x = .tup [sV r.1, sV r.2.1, bV r.2.2] ∧ o = []) := by
  unfold f_strings_Cut_2e8.f at H
  refine Fn.bodyK [] Try.func53 rfl rfl (fun Γ hP hn => ?_)
  have hm : Try.prog.follows .mixedOrders = true := by kernel_rfl
  replace hn : Γ.n = 13 := hn
  refine AWp.seq ?_
  refine reg hP hn hm [] [0, 1] [] ⟨[(0, sV a0), (1, sV (⟨#[61]⟩ : ByteArray))], [], 0⟩ [] (by kernel_rfl) trivial ?_
  refine AWp.seq ?_
  obtain ⟨t76, e77, H⟩ := bind_of H
  refine reg hP hn hm [(2, .call [] [] [] [] 0 (.tup [sV t76.1, sV t76.2.1, bV t76.2.2]) [])] [4, 5, 6] [] ⟨[(4, sV t76.1), (5, sV t76.2.1), (6, bV t76.2.2)], [], 0⟩ [Enters Try.prog 84, Pv.Fn Try.prog 84 [sV a0, sV (⟨#[61]⟩ : ByteArray)] [] 0 (fun r o => r = .tup [sV t76.1, sV t76.2.1, bV t76.2.2] ∧ o = [])] (by kernel_rfl) ⟨by exact Try.call84, by exact f_stringslite_Cut_2e8.ok a0 t76 e77, trivial⟩ ?_
  refine AWp.conv (inv := []) (vk := []) (e0 := []) (t := ⟨[(4, sV t76.1), (5, sV t76.2.1), (6, bV t76.2.2)], [], 0⟩) (by kernel_rfl) ?_
  refine AWp.ret ?_
  obtain rfl := Option.some.inj H
  exact Exists.intro _ (And.intro (fun _ _ h => h) (And.intro (.inl rfl) (And.intro rfl (And.intro (by kernel_rfl) (by kernel_rfl)))))
def f_label_Unquote.l0 (a0 : ByteArray) (x114 : List Int) (x115 : Int) : Option ((ByteArray × ByteArray × Bool) ⊕ Unit) := if (decide (x115 < (a0.size : Int))) = true then ((((chk (0 ≤ x115 ∧ x115 < (a0.size : Int))) >>= fun _ => if ((bt a0 x115) == (34 : Int)) = true then ((chk (0 ≤ (IntKind.i64.wrap (x115 + (1 : Int))) ∧ (IntKind.i64.wrap (x115 + (1 : Int))) ≤ (a0.size : Int) ∧ (a0.size : Int) ≤ (a0.size : Int))) >>= fun _ => some (.inl (strOf x114, a0.extract (Int.toNat ((IntKind.i64.wrap (x115 + (1 : Int))))) (Int.toNat ((a0.size : Int))), true))) else (if ((bt a0 x115) == (10 : Int)) = true then (some (.inl ((⟨#[]⟩ : ByteArray), (⟨#[]⟩ : ByteArray), false))) else (if ((bt a0 x115) != (92 : Int)) = true then ((chk ((x114.length + [bt a0 x115].length) * 1 ≤ 140737488355328)) >>= fun _ => some (.inr (x114 ++ [bt a0 x115], x115))) else (if ((IntKind.i64.wrap (x115 + (1 : Int))) == (a0.size : Int)) = true then (some (.inl ((⟨#[]⟩ : ByteArray), (⟨#[]⟩ : ByteArray), false))) else ((chk (0 ≤ (IntKind.i64.wrap (x115 + (1 : Int))) ∧ (IntKind.i64.wrap (x115 + (1 : Int))) < (a0.size : Int))) >>= fun _ => ((if ((bt a0 (IntKind.i64.wrap (x115 + (1 : Int)))) == (110 : Int)) = true then ((chk ((x114.length + [10].length) * 1 ≤ 140737488355328)) >>= fun _ => some (.inr (x114 ++ [10]))) else (((if ((bt a0 (IntKind.i64.wrap (x115 + (1 : Int)))) == (34 : Int)) = true then (some true) else (some ((bt a0 (IntKind.i64.wrap (x115 + (1 : Int)))) == (92 : Int)))) : Option (Bool)) >>= fun x134 => if x134 = true then ((chk ((x114.length + [bt a0 (IntKind.i64.wrap (x115 + (1 : Int)))].length) * 1 ≤ 140737488355328)) >>= fun _ => some (.inr (x114 ++ [bt a0 (IntKind.i64.wrap (x115 + (1 : Int)))]))) else (some (.inl ((⟨#[]⟩ : ByteArray), (⟨#[]⟩ : ByteArray), false))))) : Option ((ByteArray × ByteArray × Bool) ⊕ (List Int))) >>= fun oo => match oo with | .inl rr => (some (.inl rr)) | .inr x138 => (some (.inr (x138, IntKind.i64.wrap (x115 + (1 : Int)))))))))) : Option ((ByteArray × ByteArray × Bool) ⊕ ((List Int) × Int))) >>= fun oo => match oo with | .inl rr => (some (.inl rr)) | .inr (x139, x140) => (f_label_Unquote.l0 a0 x139 (IntKind.i64.wrap (x140 + (1 : Int))))) else (some (.inr ()))
partial_fixpoint
def f_label_Unquote.f (a0 : ByteArray) : Option (ByteArray × ByteArray × Bool) := ((if (a0.toList == (⟨#[]⟩ : ByteArray).toList) = true then (some true) else ((chk (0 ≤ (0 : Int) ∧ (0 : Int) < (a0.size : Int))) >>= fun _ => some ((bt a0 0) != (34 : Int)))) : Option (Bool)) >>= fun x87 => if x87 = true then (some ((⟨#[]⟩ : ByteArray), (⟨#[]⟩ : ByteArray), false)) else ((f_label_Unquote.l0 a0 [] 1) >>= fun oo => match oo with | .inl rr => (some rr) | .inr _ => (some ((⟨#[]⟩ : ByteArray), (⟨#[]⟩ : ByteArray), false)))
theorem f_label_Unquote.ok (a0 : ByteArray) (r : ByteArray × ByteArray × Bool) (H : f_label_Unquote.f a0 = some r) : Pv.Fn Try.prog 13 [sV a0] [] 0 (fun x o => x = .tup [sV r.1, sV r.2.1, bV r.2.2] ∧ o = []) := by
  unfold f_label_Unquote.f at H
  refine Fn.bodyK [] Try.func13 rfl rfl (fun Γ hP hn => ?_)
  have hm : Try.prog.follows .mixedOrders = true := by kernel_rfl
  replace hn : Γ.n = 75 := hn
  refine AWp.seq ?_
  refine reg hP hn hm [] [0] [] ⟨[(0, sV a0)], [], 0⟩ [] (by kernel_rfl) trivial ?_
  refine AWp.seq ?_
  refine AWp.seq ?_
  obtain ⟨o141, e142, H⟩ := bind_of H
  refine AWp.mono (Q := fun e s => (match (generalizing := false) o141 with | x87 => e = .normal ∧ s = ⟨[(0, sV a0), (14, bV x87)], [], 0⟩)) (AWp.cv ?_) ?_
  · replace H := e142; clear e142
    rcases Bool.eq_false_or_eq_true (a0.toList == (⟨#[]⟩ : ByteArray).toList) with c85 | c85
    · replace H := (ifT c85).symm.trans H
      refine reg hP hn hm [(2, .b true)] [0, 14] [] ⟨[(0, sV a0), (14, bV true)], [], 0⟩ [(a0.toList == (⟨#[]⟩ : ByteArray).toList) = true] (by kernel_rfl) ⟨by exact c85, trivial⟩ ?_
      obtain rfl := Option.some.inj H
      exact Exists.intro _ (And.intro (fun _ _ h => h.conv (inv := []) (vk := []) (e0 := []) (t := ⟨[(0, sV a0), (14, bV true)], [], 0⟩) (by kernel_rfl)) (And.intro rfl rfl))
    · replace H := (ifF c85).symm.trans H
      obtain ⟨c86, H⟩ := chk_of H
      refine reg hP hn hm [(2, .b false)] [0, 14] [] ⟨[(0, sV a0), (14, bV ((bt a0 0) != (34 : Int)))], [], 0⟩ [(a0.toList == (⟨#[]⟩ : ByteArray).toList) = false, 0 ≤ (0 : Int), (0 : Int) < (a0.size : Int)] (by kernel_rfl) ⟨by exact c85, by exact c86.1, by exact c86.2, trivial⟩ ?_
      obtain rfl := Option.some.inj H
      exact Exists.intro _ (And.intro (fun _ _ h => h.conv (inv := []) (vk := []) (e0 := []) (t := ⟨[(0, sV a0), (14, bV ((bt a0 0) != (34 : Int)))], [], 0⟩) (by kernel_rfl)) (And.intro rfl rfl))
  · obtain ⟨x87, rfl⟩ : ∃ z, z = o141 := ⟨_, rfl⟩
    rintro e s ⟨rfl, rfl⟩
    refine AWp.cond x87 rfl (fun c88 => ?_) (fun c88 => ?_)
    · replace H := (ifT c88).symm.trans H
      refine AWp.seq ?_
      refine reg hP hn hm [] [2, 3, 4] [] ⟨[(2, sV (⟨#[]⟩ : ByteArray)), (3, sV (⟨#[]⟩ : ByteArray)), (4, bV false)], [], 0⟩ [] (by kernel_rfl) trivial ?_
      refine AWp.conv (inv := []) (vk := []) (e0 := []) (t := ⟨[(2, sV (⟨#[]⟩ : ByteArray)), (3, sV (⟨#[]⟩ : ByteArray)), (4, bV false)], [], 0⟩) (by kernel_rfl) ?_
      refine AWp.ret ?_
      obtain rfl := Option.some.inj H
      exact Exists.intro _ (And.intro (fun _ _ h => h) (And.intro (.inl rfl) (And.intro rfl (And.intro (by kernel_rfl) (by kernel_rfl)))))
    · replace H := (ifF c88).symm.trans H
      refine AWp.skip ?_
      refine AWp.seq ?_
      refine reg hP hn hm [] [0, 5] [] ⟨[(0, sV a0), (5, .none0)], [], 0⟩ [] (by kernel_rfl) trivial ?_
      refine AWp.seq ?_
      refine AWp.seq ?_
      refine reg hP hn hm [] [0, 5, 6] [] ⟨[(0, sV a0), (5, .none0), (6, iV .i64 1)], [], 0⟩ [] (by kernel_rfl) trivial ?_
      refine AWp.block ?_
      obtain ⟨o143, e144, H⟩ := bind_of H
      refine AWp.loop (LWp.conv (inv := []) (vk := []) (e0 := [8]) (t := ⟨[(0, sV a0), (5, .own 8), (6, iV .i64 1)], [(8, some (.row 1 5 ([].map (encInt .u8))))], 0⟩) (by kernel_rfl) ?_)
      refine LWp.mono (Q := fun e s => (match (generalizing := false) o143 with | .inl rr => e = .ret ∧ s.floor = 0 ∧ resOf Try.prog Try.f13 s = some (.tup [sV rr.1, sV rr.2.1, bV rr.2.2]) ∧ ([] : List (Nat × Option MObj)) = [] | .inr _ => e = .exit 0 ∧ s = ⟨[], [], 0⟩)) (LWp.cv (withBody (fun body hbody => ?_))) ?_
      · refine f_label_Unquote.l0.partial_correctness a0 (motive := fun x114 x115 o143 => LWp Γ body (fun e s => ∃ t, Cv Γ s t ∧ (match (generalizing := false) o143 with | .inl rr => e = .ret ∧ t.floor = 0 ∧ resOf Try.prog Try.f13 t = some (.tup [sV rr.1, sV rr.2.1, bV rr.2.2]) ∧ ([] : List (Nat × Option MObj)) = [] | .inr _ => e = .exit 0 ∧ t = ⟨[], [], 0⟩)) ⟨[(0, sV a0), (5, .own 8), (6, iV .i64 x115)], [(8, some (.row 1 5 (x114.map (encInt .u8))))], 0⟩) ?_ _ _ _ e144
        clear H e144 o143; intro self ih x114 x115 o143 H
        subst hbody
        refine LWp.round ?_
        refine AWp.seq ?_
        refine AWp.seq ?_
        refine reg hP hn hm [] [0, 5, 6, 18] [8] ⟨[(0, sV a0), (5, .own 8), (6, iV .i64 x115), (18, bV (decide (x115 < (a0.size : Int))))], [(8, some (.row 1 5 (x114.map (encInt .u8))))], 0⟩ [] (by kernel_rfl) trivial ?_
        refine AWp.cond (decide (x115 < (a0.size : Int))) rfl (fun c116 => ?_) (fun c116 => ?_)
        · replace H := (ifT c116).symm.trans H
          refine AWp.skip ?_
          refine AWp.seq ?_
          obtain ⟨o145, e146, H⟩ := bind_of H
          refine AWp.mono (Q := fun e s => (match (generalizing := false) o145 with | .inl rr => e = .ret ∧ s.floor = 0 ∧ resOf Try.prog Try.f13 s = some (.tup [sV rr.1, sV rr.2.1, bV rr.2.2]) ∧ ([] : List (Nat × Option MObj)) = [] | .inr (x139, x140) => e = .normal ∧ s = ⟨[(0, sV a0), (5, .own 17), (6, iV .i64 x140)], [(17, some (.row 1 5 (x139.map (encInt .u8))))], 0⟩)) (AWp.cv ?_) ?_
          · replace H := e146; clear e146
            refine AWp.block ?_
            refine AWp.seq ?_
            refine AWp.seq ?_
            obtain ⟨c118, H⟩ := chk_of H
            refine reg hP hn hm [] [0, 5, 6, 7] [8] ⟨[(0, sV a0), (5, .own 8), (6, iV .i64 x115), (7, iV .u8 (bt a0 x115))], [(8, some (.row 1 5 (x114.map (encInt .u8))))], 0⟩ [0 ≤ x115, x115 < (a0.size : Int)] (by kernel_rfl) ⟨by exact c118.1, by exact c118.2, trivial⟩ ?_
            refine AWp.block ?_
            refine AWp.seq ?_
            refine reg hP hn hm [] [0, 5, 6, 7, 24] [8] ⟨[(0, sV a0), (5, .own 8), (6, iV .i64 x115), (7, iV .u8 (bt a0 x115)), (24, bV ((bt a0 x115) == (34 : Int)))], [(8, some (.row 1 5 (x114.map (encInt .u8))))], 0⟩ [] (by kernel_rfl) trivial ?_
            refine AWp.cond ((bt a0 x115) == (34 : Int)) rfl (fun c119 => ?_) (fun c119 => ?_)
            · replace H := (ifT c119).symm.trans H
              refine AWp.seq ?_
              obtain ⟨c121, H⟩ := chk_of H
              refine reg hP hn hm [(1, .more (xStr x114))] [2, 3, 4] [] ⟨[(2, sV (strOf x114)), (3, sV (a0.extract (Int.toNat ((IntKind.i64.wrap (x115 + (1 : Int))))) (Int.toNat ((a0.size : Int))))), (4, bV true)], [], 0⟩ [x114.map (encInt .u8) = x114.map (encInt .u8), 0 ≤ (IntKind.i64.wrap (x115 + (1 : Int))), (IntKind.i64.wrap (x115 + (1 : Int))) ≤ (a0.size : Int), (a0.size : Int) ≤ (a0.size : Int)] (by kernel_rfl) ⟨by exact rfl, by exact c121.1, by exact c121.2.1, by exact c121.2.2, trivial⟩ ?_
              refine AWp.conv (inv := []) (vk := []) (e0 := []) (t := ⟨[(2, sV (strOf x114)), (3, sV (a0.extract (Int.toNat ((IntKind.i64.wrap (x115 + (1 : Int))))) (Int.toNat ((a0.size : Int))))), (4, bV true)], [], 0⟩) (by kernel_rfl) ?_
              refine AWp.ret ?_
              obtain rfl := Option.some.inj H
              exact Exists.intro _ (And.intro (fun _ _ h => h) (And.intro rfl (And.intro rfl (And.intro (by kernel_rfl) (by kernel_rfl)))))
            · replace H := (ifF c119).symm.trans H
              refine AWp.seq ?_
              refine reg hP hn hm [] [0, 5, 6, 7, 33] [8] ⟨[(0, sV a0), (5, .own 8), (6, iV .i64 x115), (7, iV .u8 (bt a0 x115)), (33, bV ((bt a0 x115) == (10 : Int)))], [(8, some (.row 1 5 (x114.map (encInt .u8))))], 0⟩ [] (by kernel_rfl) trivial ?_
              refine AWp.cond ((bt a0 x115) == (10 : Int)) rfl (fun c122 => ?_) (fun c122 => ?_)
              · replace H := (ifT c122).symm.trans H
                refine AWp.seq ?_
                refine reg hP hn hm [] [2, 3, 4] [] ⟨[(2, sV (⟨#[]⟩ : ByteArray)), (3, sV (⟨#[]⟩ : ByteArray)), (4, bV false)], [], 0⟩ [] (by kernel_rfl) trivial ?_
                refine AWp.conv (inv := []) (vk := []) (e0 := []) (t := ⟨[(2, sV (⟨#[]⟩ : ByteArray)), (3, sV (⟨#[]⟩ : ByteArray)), (4, bV false)], [], 0⟩) (by kernel_rfl) ?_
                refine AWp.ret ?_
                obtain rfl := Option.some.inj H
                exact Exists.intro _ (And.intro (fun _ _ h => h) (And.intro rfl (And.intro rfl (And.intro (by kernel_rfl) (by kernel_rfl)))))
              · replace H := (ifF c122).symm.trans H
                refine AWp.seq ?_
                refine reg hP hn hm [] [0, 5, 6, 7, 36] [8] ⟨[(0, sV a0), (5, .own 8), (6, iV .i64 x115), (7, iV .u8 (bt a0 x115)), (36, bV ((bt a0 x115) != (92 : Int)))], [(8, some (.row 1 5 (x114.map (encInt .u8))))], 0⟩ [] (by kernel_rfl) trivial ?_
                refine AWp.cond ((bt a0 x115) != (92 : Int)) rfl (fun c123 => ?_) (fun c123 => ?_)
                · replace H := (ifT c123).symm.trans H
                  refine AWp.seq ?_
                  obtain ⟨c125, H⟩ := chk_of H
                  refine reg hP hn hm [(2, .app 9 ([bt a0 x115].map (encInt .u8))), (3, .app 10 ((x114 ++ [bt a0 x115]).map (encInt .u8)))] [0, 5, 6] [10] ⟨[(0, sV a0), (5, .own 10), (6, iV .i64 x115)], [(10, some (.row 1 5 ((x114 ++ [bt a0 x115]).map (encInt .u8))))], 0⟩ [[bt a0 x115].map (encInt .u8) = [[iI .u8 (bt a0 x115)]], (x114 ++ [bt a0 x115]).map (encInt .u8) = (x114.map (encInt .u8)) ++ ([bt a0 x115].map (encInt .u8)), ∀ c ∈ ([bt a0 x115].map (encInt .u8)), c.length = 1, ∀ c ∈ ([bt a0 x115].map (encInt .u8)), leaves (c.map .im) = true, ((x114.map (encInt .u8)).length + ([bt a0 x115].map (encInt .u8)).length) * 1 ≤ 140737488355328] (by kernel_rfl) ⟨by exact rfl, by simp, by exact all_len _ _ _ (fun _ => rfl), by exact all_leaf _ _ (fun _ => rfl), by simpa using c125, trivial⟩ ?_
                  refine AWp.exit ?_
                  obtain rfl := Option.some.inj H
                  exact Exists.intro _ (And.intro (fun _ _ h => h.conv (inv := [(10, 17)]) (vk := []) (e0 := []) (t := ⟨[(0, sV a0), (5, .own 17), (6, iV .i64 x115)], [(17, some (.row 1 5 ((x114 ++ [bt a0 x115]).map (encInt .u8))))], 0⟩) (by kernel_rfl)) (And.intro rfl rfl))
                · replace H := (ifF c123).symm.trans H
                  refine AWp.skip ?_
                  refine AWp.seq ?_
                  refine reg hP hn hm [] [0, 5, 6] [8] ⟨[(0, sV a0), (5, .own 8), (6, iV .i64 (IntKind.i64.wrap (x115 + (1 : Int))))], [(8, some (.row 1 5 (x114.map (encInt .u8))))], 0⟩ [] (by kernel_rfl) trivial ?_
                  refine AWp.block ?_
                  refine AWp.seq ?_
                  refine reg hP hn hm [] [0, 5, 6, 45] [8] ⟨[(0, sV a0), (5, .own 8), (6, iV .i64 (IntKind.i64.wrap (x115 + (1 : Int)))), (45, bV ((IntKind.i64.wrap (x115 + (1 : Int))) == (a0.size : Int)))], [(8, some (.row 1 5 (x114.map (encInt .u8))))], 0⟩ [] (by kernel_rfl) trivial ?_
                  refine AWp.cond ((IntKind.i64.wrap (x115 + (1 : Int))) == (a0.size : Int)) rfl (fun c126 => ?_) (fun c126 => ?_)
                  · replace H := (ifT c126).symm.trans H
                    refine AWp.seq ?_
                    refine reg hP hn hm [] [2, 3, 4] [] ⟨[(2, sV (⟨#[]⟩ : ByteArray)), (3, sV (⟨#[]⟩ : ByteArray)), (4, bV false)], [], 0⟩ [] (by kernel_rfl) trivial ?_
                    refine AWp.conv (inv := []) (vk := []) (e0 := []) (t := ⟨[(2, sV (⟨#[]⟩ : ByteArray)), (3, sV (⟨#[]⟩ : ByteArray)), (4, bV false)], [], 0⟩) (by kernel_rfl) ?_
                    refine AWp.ret ?_
                    obtain rfl := Option.some.inj H
                    exact Exists.intro _ (And.intro (fun _ _ h => h) (And.intro rfl (And.intro rfl (And.intro (by kernel_rfl) (by kernel_rfl)))))
                  · replace H := (ifF c126).symm.trans H
                    refine AWp.seq ?_
                    obtain ⟨c128, H⟩ := chk_of H
                    refine reg hP hn hm [] [0, 5, 6, 50] [8] ⟨[(0, sV a0), (5, .own 8), (6, iV .i64 (IntKind.i64.wrap (x115 + (1 : Int)))), (50, bV ((bt a0 (IntKind.i64.wrap (x115 + (1 : Int)))) == (110 : Int)))], [(8, some (.row 1 5 (x114.map (encInt .u8))))], 0⟩ [0 ≤ (IntKind.i64.wrap (x115 + (1 : Int))), (IntKind.i64.wrap (x115 + (1 : Int))) < (a0.size : Int)] (by kernel_rfl) ⟨by exact c128.1, by exact c128.2, trivial⟩ ?_
                    obtain ⟨o147, e148, H⟩ := bind_of H
                    refine AWp.mono (Q := fun e s => (match (generalizing := false) o147 with | .inl rr => e = .ret ∧ s.floor = 0 ∧ resOf Try.prog Try.f13 s = some (.tup [sV rr.1, sV rr.2.1, bV rr.2.2]) ∧ ([] : List (Nat × Option MObj)) = [] | .inr x138 => e = .normal ∧ s = ⟨[(0, sV a0), (5, .own 16), (6, iV .i64 (IntKind.i64.wrap (x115 + (1 : Int))))], [(16, some (.row 1 5 (x138.map (encInt .u8))))], 0⟩)) (AWp.cv ?_) ?_
                    · replace H := e148; clear e148
                      refine AWp.cond ((bt a0 (IntKind.i64.wrap (x115 + (1 : Int)))) == (110 : Int)) rfl (fun c129 => ?_) (fun c129 => ?_)
                      · replace H := (ifT c129).symm.trans H
                        obtain ⟨c131, H⟩ := chk_of H
                        refine reg hP hn hm [(1, .app 11 ([10].map (encInt .u8))), (2, .app 12 ((x114 ++ [10]).map (encInt .u8)))] [0, 5, 6] [12] ⟨[(0, sV a0), (5, .own 12), (6, iV .i64 (IntKind.i64.wrap (x115 + (1 : Int))))], [(12, some (.row 1 5 ((x114 ++ [10]).map (encInt .u8))))], 0⟩ [[10].map (encInt .u8) = [[iI .u8 10]], (x114 ++ [10]).map (encInt .u8) = (x114.map (encInt .u8)) ++ ([10].map (encInt .u8)), ∀ c ∈ ([10].map (encInt .u8)), c.length = 1, ∀ c ∈ ([10].map (encInt .u8)), leaves (c.map .im) = true, ((x114.map (encInt .u8)).length + ([10].map (encInt .u8)).length) * 1 ≤ 140737488355328] (by kernel_rfl) ⟨by exact rfl, by simp, by exact all_len _ _ _ (fun _ => rfl), by exact all_leaf _ _ (fun _ => rfl), by simpa using c131, trivial⟩ ?_
                        obtain rfl := Option.some.inj H
                        exact Exists.intro _ (And.intro (fun _ _ h => h.conv (inv := [(12, 16)]) (vk := []) (e0 := []) (t := ⟨[(0, sV a0), (5, .own 16), (6, iV .i64 (IntKind.i64.wrap (x115 + (1 : Int))))], [(16, some (.row 1 5 ((x114 ++ [10]).map (encInt .u8))))], 0⟩) (by kernel_rfl)) (And.intro rfl rfl))
                      · replace H := (ifF c129).symm.trans H
                        refine AWp.seq ?_
                        obtain ⟨o149, e150, H⟩ := bind_of H
                        refine AWp.mono (Q := fun e s => (match (generalizing := false) o149 with | x134 => e = .normal ∧ s = ⟨[(0, sV a0), (5, .own 13), (6, iV .i64 (IntKind.i64.wrap (x115 + (1 : Int)))), (58, bV x134)], [(13, some (.row 1 5 (x114.map (encInt .u8))))], 0⟩)) (AWp.cv ?_) ?_
                        · replace H := e150; clear e150
                          rcases Bool.eq_false_or_eq_true ((bt a0 (IntKind.i64.wrap (x115 + (1 : Int)))) == (34 : Int)) with c133 | c133
                          · replace H := (ifT c133).symm.trans H
                            refine reg hP hn hm [(4, .b true)] [0, 5, 6, 58] [8] ⟨[(0, sV a0), (5, .own 8), (6, iV .i64 (IntKind.i64.wrap (x115 + (1 : Int)))), (58, bV true)], [(8, some (.row 1 5 (x114.map (encInt .u8))))], 0⟩ [0 ≤ (IntKind.i64.wrap (x115 + (1 : Int))), (IntKind.i64.wrap (x115 + (1 : Int))) < (a0.size : Int), ((bt a0 (IntKind.i64.wrap (x115 + (1 : Int)))) == (34 : Int)) = true] (by kernel_rfl) ⟨by exact c128.1, by exact c128.2, by exact c133, trivial⟩ ?_
                            obtain rfl := Option.some.inj H
                            exact Exists.intro _ (And.intro (fun _ _ h => h.conv (inv := [(8, 13)]) (vk := []) (e0 := []) (t := ⟨[(0, sV a0), (5, .own 13), (6, iV .i64 (IntKind.i64.wrap (x115 + (1 : Int)))), (58, bV true)], [(13, some (.row 1 5 (x114.map (encInt .u8))))], 0⟩) (by kernel_rfl)) (And.intro rfl rfl))
                          · replace H := (ifF c133).symm.trans H
                            refine reg hP hn hm [(4, .b false)] [0, 5, 6, 58, 64, 65, 66, 67] [8] ⟨[(0, sV a0), (5, .own 8), (6, iV .i64 (IntKind.i64.wrap (x115 + (1 : Int)))), (58, bV ((bt a0 (IntKind.i64.wrap (x115 + (1 : Int)))) == (92 : Int))), (64, sV a0), (65, iV .i64 (IntKind.i64.wrap (x115 + (1 : Int)))), (66, iV .u8 (bt a0 (IntKind.i64.wrap (x115 + (1 : Int))))), (67, bV ((bt a0 (IntKind.i64.wrap (x115 + (1 : Int)))) == (92 : Int)))], [(8, some (.row 1 5 (x114.map (encInt .u8))))], 0⟩ [0 ≤ (IntKind.i64.wrap (x115 + (1 : Int))), (IntKind.i64.wrap (x115 + (1 : Int))) < (a0.size : Int), ((bt a0 (IntKind.i64.wrap (x115 + (1 : Int)))) == (34 : Int)) = false, 0 ≤ (IntKind.i64.wrap (x115 + (1 : Int))), (IntKind.i64.wrap (x115 + (1 : Int))) < (a0.size : Int)] (by kernel_rfl) ⟨by exact c128.1, by exact c128.2, by exact c133, by exact c128.1, by exact c128.2, trivial⟩ ?_
                            obtain rfl := Option.some.inj H
                            exact Exists.intro _ (And.intro (fun _ _ h => h.conv (inv := [(8, 13)]) (vk := []) (e0 := []) (t := ⟨[(0, sV a0), (5, .own 13), (6, iV .i64 (IntKind.i64.wrap (x115 + (1 : Int)))), (58, bV ((bt a0 (IntKind.i64.wrap (x115 + (1 : Int)))) == (92 : Int)))], [(13, some (.row 1 5 (x114.map (encInt .u8))))], 0⟩) (by kernel_rfl)) (And.intro rfl rfl))
                        · obtain ⟨x134, rfl⟩ : ∃ z, z = o149 := ⟨_, rfl⟩
                          rintro e s ⟨rfl, rfl⟩
                          refine AWp.cond x134 rfl (fun c135 => ?_) (fun c135 => ?_)
                          · replace H := (ifT c135).symm.trans H
                            obtain ⟨c137, H⟩ := chk_of H
                            refine reg hP hn hm [(4, .app 14 ([bt a0 (IntKind.i64.wrap (x115 + (1 : Int)))].map (encInt .u8))), (5, .app 15 ((x114 ++ [bt a0 (IntKind.i64.wrap (x115 + (1 : Int)))]).map (encInt .u8)))] [0, 5, 6] [15] ⟨[(0, sV a0), (5, .own 15), (6, iV .i64 (IntKind.i64.wrap (x115 + (1 : Int))))], [(15, some (.row 1 5 ((x114 ++ [bt a0 (IntKind.i64.wrap (x115 + (1 : Int)))]).map (encInt .u8))))], 0⟩ [0 ≤ (IntKind.i64.wrap (x115 + (1 : Int))), (IntKind.i64.wrap (x115 + (1 : Int))) < (a0.size : Int), [bt a0 (IntKind.i64.wrap (x115 + (1 : Int)))].map (encInt .u8) = [[iI .u8 (bt a0 (IntKind.i64.wrap (x115 + (1 : Int))))]], (x114 ++ [bt a0 (IntKind.i64.wrap (x115 + (1 : Int)))]).map (encInt .u8) = (x114.map (encInt .u8)) ++ ([bt a0 (IntKind.i64.wrap (x115 + (1 : Int)))].map (encInt .u8)), ∀ c ∈ ([bt a0 (IntKind.i64.wrap (x115 + (1 : Int)))].map (encInt .u8)), c.length = 1, ∀ c ∈ ([bt a0 (IntKind.i64.wrap (x115 + (1 : Int)))].map (encInt .u8)), leaves (c.map .im) = true, ((x114.map (encInt .u8)).length + ([bt a0 (IntKind.i64.wrap (x115 + (1 : Int)))].map (encInt .u8)).length) * 1 ≤ 140737488355328] (by kernel_rfl) ⟨by exact c128.1, by exact c128.2, by exact rfl, by simp, by exact all_len _ _ _ (fun _ => rfl), by exact all_leaf _ _ (fun _ => rfl), by simpa using c137, trivial⟩ ?_
                            obtain rfl := Option.some.inj H
                            exact Exists.intro _ (And.intro (fun _ _ h => h.conv (inv := [(15, 16)]) (vk := []) (e0 := []) (t := ⟨[(0, sV a0), (5, .own 16), (6, iV .i64 (IntKind.i64.wrap (x115 + (1 : Int))))], [(16, some (.row 1 5 ((x114 ++ [bt a0 (IntKind.i64.wrap (x115 + (1 : Int)))]).map (encInt .u8))))], 0⟩) (by kernel_rfl)) (And.intro rfl rfl))
                          · replace H := (ifF c135).symm.trans H
                            refine AWp.seq ?_
                            refine reg hP hn hm [] [2, 3, 4] [] ⟨[(2, sV (⟨#[]⟩ : ByteArray)), (3, sV (⟨#[]⟩ : ByteArray)), (4, bV false)], [], 0⟩ [] (by kernel_rfl) trivial ?_
                            refine AWp.conv (inv := []) (vk := []) (e0 := []) (t := ⟨[(2, sV (⟨#[]⟩ : ByteArray)), (3, sV (⟨#[]⟩ : ByteArray)), (4, bV false)], [], 0⟩) (by kernel_rfl) ?_
                            refine AWp.ret ?_
                            obtain rfl := Option.some.inj H
                            exact Exists.intro _ (And.intro (fun _ _ h => h) (And.intro rfl (And.intro rfl (And.intro (by kernel_rfl) (by kernel_rfl)))))
                    · rcases o147 with rr | x138
                      · skip
                        rintro e s ⟨rfl, hfl, hres⟩
                        obtain rfl := Option.some.inj H
                        exact Exists.intro _ (And.intro (fun _ _ h => h) (And.intro rfl (And.intro hfl hres)))
                      · skip
                        rintro e s ⟨rfl, rfl⟩
                        obtain rfl := Option.some.inj H
                        exact Exists.intro _ (And.intro (fun _ _ h => h.conv (inv := [(16, 17)]) (vk := []) (e0 := []) (t := ⟨[(0, sV a0), (5, .own 17), (6, iV .i64 (IntKind.i64.wrap (x115 + (1 : Int))))], [(17, some (.row 1 5 (x138.map (encInt .u8))))], 0⟩) (by kernel_rfl)) (And.intro rfl rfl))
          · rcases o145 with rr | ⟨x139, x140⟩
            · skip
              rintro e s ⟨rfl, hfl, hres⟩
              obtain rfl := Option.some.inj H
              exact Exists.intro _ (And.intro (fun _ _ h => h) (And.intro rfl (And.intro hfl hres)))
            · skip
              rintro e s ⟨rfl, rfl⟩
              refine reg hP hn hm [] [0, 5, 6] [17] ⟨[(0, sV a0), (5, .own 17), (6, iV .i64 (IntKind.i64.wrap (x140 + (1 : Int))))], [(17, some (.row 1 5 (x139.map (encInt .u8))))], 0⟩ [] (by kernel_rfl) trivial ?_
              exact LWp.conv (inv := [(17, 8)]) (vk := []) (e0 := []) (t := ⟨[(0, sV a0), (5, .own 8), (6, iV .i64 (IntKind.i64.wrap (x140 + (1 : Int))))], [(8, some (.row 1 5 (x139.map (encInt .u8))))], 0⟩) (by kernel_rfl) (ih _ _ _ H)
        · replace H := (ifF c116).symm.trans H
          refine AWp.exit ?_
          obtain rfl := Option.some.inj H
          exact Exists.intro _ (And.intro (fun _ _ h => h.conv (inv := []) (vk := []) (e0 := []) (t := ⟨[], [], 0⟩) (by kernel_rfl)) (And.intro rfl rfl))
      · rcases o143 with rr | _
        · skip
          rintro e s ⟨rfl, hfl, hres⟩
          obtain rfl := Option.some.inj H
          exact Exists.intro _ (And.intro (fun _ _ h => h) (And.intro (.inl rfl) (And.intro hfl hres)))
        · skip
          rintro e s ⟨rfl, rfl⟩
          refine AWp.seq ?_
          refine reg hP hn hm [] [2, 3, 4] [] ⟨[(2, sV (⟨#[]⟩ : ByteArray)), (3, sV (⟨#[]⟩ : ByteArray)), (4, bV false)], [], 0⟩ [] (by kernel_rfl) trivial ?_
          refine AWp.conv (inv := []) (vk := []) (e0 := []) (t := ⟨[(2, sV (⟨#[]⟩ : ByteArray)), (3, sV (⟨#[]⟩ : ByteArray)), (4, bV false)], [], 0⟩) (by kernel_rfl) ?_
          refine AWp.ret ?_
          obtain rfl := Option.some.inj H
          exact Exists.intro _ (And.intro (fun _ _ h => h) (And.intro (.inl rfl) (And.intro rfl (And.intro (by kernel_rfl) (by kernel_rfl)))))
def f_label_name.l0 (a0 : ByteArray) (x223 : Int) : Option (Bool ⊕ Unit) := if (decide (x223 < (a0.size : Int))) = true then ((chk (0 ≤ x223 ∧ x223 < (a0.size : Int))) >>= fun _ => ((if (decide ((bt a0 x223) ≥ (97 : Int))) = true then (if (decide ((bt a0 x223) ≤ (122 : Int))) = true then (some true) else (if (decide ((bt a0 x223) ≥ (65 : Int))) = true then (if (decide ((bt a0 x223) ≤ (90 : Int))) = true then (some true) else (some ((bt a0 x223) == (95 : Int)))) else (some ((bt a0 x223) == (95 : Int))))) else (if (decide ((bt a0 x223) ≥ (65 : Int))) = true then (if (decide ((bt a0 x223) ≤ (90 : Int))) = true then (some true) else (some ((bt a0 x223) == (95 : Int)))) else (some ((bt a0 x223) == (95 : Int))))) : Option (Bool)) >>= fun x239 => ((if (!x239) = true then (if (x223 == (0 : Int)) = true then (some true) else (if (decide ((bt a0 x223) < (48 : Int))) = true then (some true) else (some (decide ((bt a0 x223) > (57 : Int)))))) else (some false)) : Option (Bool)) >>= fun x246 => if x246 = true then (some (.inl false)) else (f_label_name.l0 a0 (IntKind.i64.wrap (x223 + (1 : Int))))) else (some (.inr ()))
partial_fixpoint
def f_label_name.f (a0 : ByteArray) : Option (Bool) := ((if (a0.toList == (⟨#[]⟩ : ByteArray).toList) = true then (some true) else (some (decide ((a0.size : Int) > (64 : Int))))) : Option (Bool)) >>= fun x201 => if x201 = true then (some false) else ((f_label_name.l0 a0 0) >>= fun oo => match oo with | .inl rr => (some rr) | .inr _ => (some true))
theorem f_label_name.ok (a0 : ByteArray) (r : Bool) (H : f_label_name.f a0 = some r) : Pv.Fn Try.prog 63 [sV a0] [] 0 (fun x o => x = bV r ∧ o = []) := by
  unfold f_label_name.f at H
  refine Fn.bodyK [] Try.func63 rfl rfl (fun Γ hP hn => ?_)
  have hm : Try.prog.follows .mixedOrders = true := by kernel_rfl
  replace hn : Γ.n = 54 := hn
  refine AWp.seq ?_
  refine reg hP hn hm [] [0] [] ⟨[(0, sV a0)], [], 0⟩ [] (by kernel_rfl) trivial ?_
  refine AWp.seq ?_
  refine AWp.seq ?_
  obtain ⟨o248, e249, H⟩ := bind_of H
  refine AWp.mono (Q := fun e s => (match (generalizing := false) o248 with | x201 => e = .normal ∧ s = ⟨[(0, sV a0), (12, bV x201)], [], 0⟩)) (AWp.cv ?_) ?_
  · replace H := e249; clear e249
    rcases Bool.eq_false_or_eq_true (a0.toList == (⟨#[]⟩ : ByteArray).toList) with c200 | c200
    · replace H := (ifT c200).symm.trans H
      refine reg hP hn hm [(2, .b true)] [0, 12] [] ⟨[(0, sV a0), (12, bV true)], [], 0⟩ [(a0.toList == (⟨#[]⟩ : ByteArray).toList) = true] (by kernel_rfl) ⟨by exact c200, trivial⟩ ?_
      obtain rfl := Option.some.inj H
      exact Exists.intro _ (And.intro (fun _ _ h => h.conv (inv := []) (vk := []) (e0 := []) (t := ⟨[(0, sV a0), (12, bV true)], [], 0⟩) (by kernel_rfl)) (And.intro rfl rfl))
    · replace H := (ifF c200).symm.trans H
      refine reg hP hn hm [(2, .b false)] [0, 12] [] ⟨[(0, sV a0), (12, bV (decide ((a0.size : Int) > (64 : Int))))], [], 0⟩ [(a0.toList == (⟨#[]⟩ : ByteArray).toList) = false] (by kernel_rfl) ⟨by exact c200, trivial⟩ ?_
      obtain rfl := Option.some.inj H
      exact Exists.intro _ (And.intro (fun _ _ h => h.conv (inv := []) (vk := []) (e0 := []) (t := ⟨[(0, sV a0), (12, bV (decide ((a0.size : Int) > (64 : Int))))], [], 0⟩) (by kernel_rfl)) (And.intro rfl rfl))
  · obtain ⟨x201, rfl⟩ : ∃ z, z = o248 := ⟨_, rfl⟩
    rintro e s ⟨rfl, rfl⟩
    refine AWp.cond x201 rfl (fun c202 => ?_) (fun c202 => ?_)
    · replace H := (ifT c202).symm.trans H
      refine AWp.seq ?_
      refine reg hP hn hm [] [2] [] ⟨[(2, bV false)], [], 0⟩ [] (by kernel_rfl) trivial ?_
      refine AWp.conv (inv := []) (vk := []) (e0 := []) (t := ⟨[(2, bV false)], [], 0⟩) (by kernel_rfl) ?_
      refine AWp.ret ?_
      obtain rfl := Option.some.inj H
      exact Exists.intro _ (And.intro (fun _ _ h => h) (And.intro (.inl rfl) (And.intro rfl (And.intro (by kernel_rfl) (by kernel_rfl)))))
    · replace H := (ifF c202).symm.trans H
      refine AWp.skip ?_
      refine AWp.seq ?_
      refine AWp.seq ?_
      refine reg hP hn hm [] [0, 14, 15] [] ⟨[(0, sV a0), (14, iV .i64 (a0.size : Int)), (15, iV .i64 0)], [], 0⟩ [] (by kernel_rfl) trivial ?_
      refine AWp.block ?_
      obtain ⟨o250, e251, H⟩ := bind_of H
      refine AWp.loop (LWp.conv (inv := []) (vk := []) (e0 := []) (t := ⟨[(0, sV a0), (14, iV .i64 (a0.size : Int)), (15, iV .i64 0)], [], 0⟩) (by kernel_rfl) ?_)
      refine LWp.mono (Q := fun e s => (match (generalizing := false) o250 with | .inl rr => e = .ret ∧ s.floor = 0 ∧ resOf Try.prog Try.f63 s = some (bV rr) ∧ ([] : List (Nat × Option MObj)) = [] | .inr _ => e = .exit 0 ∧ s = ⟨[], [], 0⟩)) (LWp.cv (withBody (fun body hbody => ?_))) ?_
      · refine f_label_name.l0.partial_correctness a0 (motive := fun x223 o250 => LWp Γ body (fun e s => ∃ t, Cv Γ s t ∧ (match (generalizing := false) o250 with | .inl rr => e = .ret ∧ t.floor = 0 ∧ resOf Try.prog Try.f63 t = some (bV rr) ∧ ([] : List (Nat × Option MObj)) = [] | .inr _ => e = .exit 0 ∧ t = ⟨[], [], 0⟩)) ⟨[(0, sV a0), (14, iV .i64 (a0.size : Int)), (15, iV .i64 x223)], [], 0⟩) ?_ _ _ e251
        clear H e251 o250; intro self ih x223 o250 H
        subst hbody
        refine LWp.round ?_
        refine AWp.seq ?_
        refine reg hP hn hm [] [0, 14, 15, 16] [] ⟨[(0, sV a0), (14, iV .i64 (a0.size : Int)), (15, iV .i64 x223), (16, bV (decide (x223 < (a0.size : Int))))], [], 0⟩ [] (by kernel_rfl) trivial ?_
        refine AWp.seq ?_
        refine AWp.cond (decide (x223 < (a0.size : Int))) rfl (fun c224 => ?_) (fun c224 => ?_)
        · replace H := (ifT c224).symm.trans H
          refine AWp.skip ?_
          refine AWp.seq ?_
          refine AWp.block ?_
          refine AWp.seq ?_
          refine reg hP hn hm [] [0, 3, 14, 15] [] ⟨[(0, sV a0), (3, iV .i64 x223), (14, iV .i64 (a0.size : Int)), (15, iV .i64 x223)], [], 0⟩ [] (by kernel_rfl) trivial ?_
          refine AWp.seq ?_
          obtain ⟨c226, H⟩ := chk_of H
          refine reg hP hn hm [] [0, 3, 4, 14, 15] [] ⟨[(0, sV a0), (3, iV .i64 x223), (4, iV .u8 (bt a0 x223)), (14, iV .i64 (a0.size : Int)), (15, iV .i64 x223)], [], 0⟩ [0 ≤ x223, x223 < (a0.size : Int)] (by kernel_rfl) ⟨by exact c226.1, by exact c226.2, trivial⟩ ?_
          refine AWp.seq ?_
          obtain ⟨o252, e253, H⟩ := bind_of H
          refine AWp.mono (Q := fun e s => (match (generalizing := false) o252 with | x239 => e = .normal ∧ s = ⟨[(0, sV a0), (3, iV .i64 x223), (4, iV .u8 (bt a0 x223)), (5, bV x239), (14, iV .i64 (a0.size : Int)), (15, iV .i64 x223)], [], 0⟩)) (AWp.cv ?_) ?_
          · replace H := e253; clear e253
            rcases Bool.eq_false_or_eq_true (decide ((bt a0 x223) ≥ (97 : Int))) with c233 | c233
            · replace H := (ifT c233).symm.trans H
              rcases Bool.eq_false_or_eq_true (decide ((bt a0 x223) ≤ (122 : Int))) with c234 | c234
              · replace H := (ifT c234).symm.trans H
                refine reg hP hn hm [(2, .b true), (6, .b true)] [0, 3, 4, 5, 14, 15, 24, 25] [] ⟨[(0, sV a0), (3, iV .i64 x223), (4, iV .u8 (bt a0 x223)), (5, bV true), (14, iV .i64 (a0.size : Int)), (15, iV .i64 x223), (24, iV .u8 (bt a0 x223)), (25, bV (decide ((bt a0 x223) ≤ (122 : Int))))], [], 0⟩ [(decide ((bt a0 x223) ≥ (97 : Int))) = true, (decide ((bt a0 x223) ≤ (122 : Int))) = true] (by kernel_rfl) ⟨by exact c233, by exact c234, trivial⟩ ?_
                obtain rfl := Option.some.inj H
                exact Exists.intro _ (And.intro (fun _ _ h => h.conv (inv := []) (vk := []) (e0 := []) (t := ⟨[(0, sV a0), (3, iV .i64 x223), (4, iV .u8 (bt a0 x223)), (5, bV true), (14, iV .i64 (a0.size : Int)), (15, iV .i64 x223)], [], 0⟩) (by kernel_rfl)) (And.intro rfl rfl))
              · replace H := (ifF c234).symm.trans H
                rcases Bool.eq_false_or_eq_true (decide ((bt a0 x223) ≥ (65 : Int))) with c235 | c235
                · replace H := (ifT c235).symm.trans H
                  rcases Bool.eq_false_or_eq_true (decide ((bt a0 x223) ≤ (90 : Int))) with c236 | c236
                  · replace H := (ifT c236).symm.trans H
                    refine reg hP hn hm [(2, .b true), (6, .b false), (9, .b true), (14, .b true)] [0, 3, 4, 5, 14, 15, 24, 25, 28, 29, 30, 31, 32, 33] [] ⟨[(0, sV a0), (3, iV .i64 x223), (4, iV .u8 (bt a0 x223)), (5, bV true), (14, iV .i64 (a0.size : Int)), (15, iV .i64 x223), (24, iV .u8 (bt a0 x223)), (25, bV (decide ((bt a0 x223) ≤ (122 : Int)))), (28, iV .u8 (bt a0 x223)), (29, bV (decide ((bt a0 x223) ≥ (65 : Int)))), (30, bV true), (31, iV .u8 (bt a0 x223)), (32, bV (decide ((bt a0 x223) ≤ (90 : Int)))), (33, bV (decide ((bt a0 x223) ≤ (90 : Int))))], [], 0⟩ [(decide ((bt a0 x223) ≥ (97 : Int))) = true, (decide ((bt a0 x223) ≤ (122 : Int))) = false, (decide ((bt a0 x223) ≥ (65 : Int))) = true, (decide ((bt a0 x223) ≤ (90 : Int))) = true] (by kernel_rfl) ⟨by exact c233, by exact c234, by exact c235, by exact c236, trivial⟩ ?_
                    obtain rfl := Option.some.inj H
                    exact Exists.intro _ (And.intro (fun _ _ h => h.conv (inv := []) (vk := []) (e0 := []) (t := ⟨[(0, sV a0), (3, iV .i64 x223), (4, iV .u8 (bt a0 x223)), (5, bV true), (14, iV .i64 (a0.size : Int)), (15, iV .i64 x223)], [], 0⟩) (by kernel_rfl)) (And.intro rfl rfl))
                  · replace H := (ifF c236).symm.trans H
                    refine reg hP hn hm [(2, .b true), (6, .b false), (9, .b true), (14, .b false)] [0, 3, 4, 5, 14, 15, 24, 25, 28, 29, 30, 31, 32, 33, 36, 37] [] ⟨[(0, sV a0), (3, iV .i64 x223), (4, iV .u8 (bt a0 x223)), (5, bV ((bt a0 x223) == (95 : Int))), (14, iV .i64 (a0.size : Int)), (15, iV .i64 x223), (24, iV .u8 (bt a0 x223)), (25, bV (decide ((bt a0 x223) ≤ (122 : Int)))), (28, iV .u8 (bt a0 x223)), (29, bV (decide ((bt a0 x223) ≥ (65 : Int)))), (30, bV true), (31, iV .u8 (bt a0 x223)), (32, bV (decide ((bt a0 x223) ≤ (90 : Int)))), (33, bV (decide ((bt a0 x223) ≤ (90 : Int)))), (36, iV .u8 (bt a0 x223)), (37, bV ((bt a0 x223) == (95 : Int)))], [], 0⟩ [(decide ((bt a0 x223) ≥ (97 : Int))) = true, (decide ((bt a0 x223) ≤ (122 : Int))) = false, (decide ((bt a0 x223) ≥ (65 : Int))) = true, (decide ((bt a0 x223) ≤ (90 : Int))) = false] (by kernel_rfl) ⟨by exact c233, by exact c234, by exact c235, by exact c236, trivial⟩ ?_
                    obtain rfl := Option.some.inj H
                    exact Exists.intro _ (And.intro (fun _ _ h => h.conv (inv := []) (vk := []) (e0 := []) (t := ⟨[(0, sV a0), (3, iV .i64 x223), (4, iV .u8 (bt a0 x223)), (5, bV ((bt a0 x223) == (95 : Int))), (14, iV .i64 (a0.size : Int)), (15, iV .i64 x223)], [], 0⟩) (by kernel_rfl)) (And.intro rfl rfl))
                · replace H := (ifF c235).symm.trans H
                  refine reg hP hn hm [(2, .b true), (6, .b false), (9, .b false)] [0, 3, 4, 5, 14, 15, 24, 25, 28, 29, 30, 33, 36, 37] [] ⟨[(0, sV a0), (3, iV .i64 x223), (4, iV .u8 (bt a0 x223)), (5, bV ((bt a0 x223) == (95 : Int))), (14, iV .i64 (a0.size : Int)), (15, iV .i64 x223), (24, iV .u8 (bt a0 x223)), (25, bV (decide ((bt a0 x223) ≤ (122 : Int)))), (28, iV .u8 (bt a0 x223)), (29, bV (decide ((bt a0 x223) ≥ (65 : Int)))), (30, bV false), (33, bV false), (36, iV .u8 (bt a0 x223)), (37, bV ((bt a0 x223) == (95 : Int)))], [], 0⟩ [(decide ((bt a0 x223) ≥ (97 : Int))) = true, (decide ((bt a0 x223) ≤ (122 : Int))) = false, (decide ((bt a0 x223) ≥ (65 : Int))) = false] (by kernel_rfl) ⟨by exact c233, by exact c234, by exact c235, trivial⟩ ?_
                  obtain rfl := Option.some.inj H
                  exact Exists.intro _ (And.intro (fun _ _ h => h.conv (inv := []) (vk := []) (e0 := []) (t := ⟨[(0, sV a0), (3, iV .i64 x223), (4, iV .u8 (bt a0 x223)), (5, bV ((bt a0 x223) == (95 : Int))), (14, iV .i64 (a0.size : Int)), (15, iV .i64 x223)], [], 0⟩) (by kernel_rfl)) (And.intro rfl rfl))
            · replace H := (ifF c233).symm.trans H
              rcases Bool.eq_false_or_eq_true (decide ((bt a0 x223) ≥ (65 : Int))) with c237 | c237
              · replace H := (ifT c237).symm.trans H
                rcases Bool.eq_false_or_eq_true (decide ((bt a0 x223) ≤ (90 : Int))) with c238 | c238
                · replace H := (ifT c238).symm.trans H
                  refine reg hP hn hm [(2, .b false), (9, .b true), (14, .b true)] [0, 3, 4, 5, 14, 15, 28, 29, 30, 31, 32, 33] [] ⟨[(0, sV a0), (3, iV .i64 x223), (4, iV .u8 (bt a0 x223)), (5, bV true), (14, iV .i64 (a0.size : Int)), (15, iV .i64 x223), (28, iV .u8 (bt a0 x223)), (29, bV (decide ((bt a0 x223) ≥ (65 : Int)))), (30, bV true), (31, iV .u8 (bt a0 x223)), (32, bV (decide ((bt a0 x223) ≤ (90 : Int)))), (33, bV (decide ((bt a0 x223) ≤ (90 : Int))))], [], 0⟩ [(decide ((bt a0 x223) ≥ (97 : Int))) = false, (decide ((bt a0 x223) ≥ (65 : Int))) = true, (decide ((bt a0 x223) ≤ (90 : Int))) = true] (by kernel_rfl) ⟨by exact c233, by exact c237, by exact c238, trivial⟩ ?_
                  obtain rfl := Option.some.inj H
                  exact Exists.intro _ (And.intro (fun _ _ h => h.conv (inv := []) (vk := []) (e0 := []) (t := ⟨[(0, sV a0), (3, iV .i64 x223), (4, iV .u8 (bt a0 x223)), (5, bV true), (14, iV .i64 (a0.size : Int)), (15, iV .i64 x223)], [], 0⟩) (by kernel_rfl)) (And.intro rfl rfl))
                · replace H := (ifF c238).symm.trans H
                  refine reg hP hn hm [(2, .b false), (9, .b true), (14, .b false)] [0, 3, 4, 5, 14, 15, 28, 29, 30, 31, 32, 33, 36, 37] [] ⟨[(0, sV a0), (3, iV .i64 x223), (4, iV .u8 (bt a0 x223)), (5, bV ((bt a0 x223) == (95 : Int))), (14, iV .i64 (a0.size : Int)), (15, iV .i64 x223), (28, iV .u8 (bt a0 x223)), (29, bV (decide ((bt a0 x223) ≥ (65 : Int)))), (30, bV true), (31, iV .u8 (bt a0 x223)), (32, bV (decide ((bt a0 x223) ≤ (90 : Int)))), (33, bV (decide ((bt a0 x223) ≤ (90 : Int)))), (36, iV .u8 (bt a0 x223)), (37, bV ((bt a0 x223) == (95 : Int)))], [], 0⟩ [(decide ((bt a0 x223) ≥ (97 : Int))) = false, (decide ((bt a0 x223) ≥ (65 : Int))) = true, (decide ((bt a0 x223) ≤ (90 : Int))) = false] (by kernel_rfl) ⟨by exact c233, by exact c237, by exact c238, trivial⟩ ?_
                  obtain rfl := Option.some.inj H
                  exact Exists.intro _ (And.intro (fun _ _ h => h.conv (inv := []) (vk := []) (e0 := []) (t := ⟨[(0, sV a0), (3, iV .i64 x223), (4, iV .u8 (bt a0 x223)), (5, bV ((bt a0 x223) == (95 : Int))), (14, iV .i64 (a0.size : Int)), (15, iV .i64 x223)], [], 0⟩) (by kernel_rfl)) (And.intro rfl rfl))
              · replace H := (ifF c237).symm.trans H
                refine reg hP hn hm [(2, .b false), (9, .b false)] [0, 3, 4, 5, 14, 15, 28, 29, 30, 33, 36, 37] [] ⟨[(0, sV a0), (3, iV .i64 x223), (4, iV .u8 (bt a0 x223)), (5, bV ((bt a0 x223) == (95 : Int))), (14, iV .i64 (a0.size : Int)), (15, iV .i64 x223), (28, iV .u8 (bt a0 x223)), (29, bV (decide ((bt a0 x223) ≥ (65 : Int)))), (30, bV false), (33, bV false), (36, iV .u8 (bt a0 x223)), (37, bV ((bt a0 x223) == (95 : Int)))], [], 0⟩ [(decide ((bt a0 x223) ≥ (97 : Int))) = false, (decide ((bt a0 x223) ≥ (65 : Int))) = false] (by kernel_rfl) ⟨by exact c233, by exact c237, trivial⟩ ?_
                obtain rfl := Option.some.inj H
                exact Exists.intro _ (And.intro (fun _ _ h => h.conv (inv := []) (vk := []) (e0 := []) (t := ⟨[(0, sV a0), (3, iV .i64 x223), (4, iV .u8 (bt a0 x223)), (5, bV ((bt a0 x223) == (95 : Int))), (14, iV .i64 (a0.size : Int)), (15, iV .i64 x223)], [], 0⟩) (by kernel_rfl)) (And.intro rfl rfl))
          · obtain ⟨x239, rfl⟩ : ∃ z, z = o252 := ⟨_, rfl⟩
            rintro e s ⟨rfl, rfl⟩
            refine AWp.seq ?_
            obtain ⟨o254, e255, H⟩ := bind_of H
            refine AWp.mono (Q := fun e s => (match (generalizing := false) o254 with | x246 => e = .normal ∧ s = ⟨[(0, sV a0), (14, iV .i64 (a0.size : Int)), (15, iV .i64 x223), (52, bV x246)], [], 0⟩)) (AWp.cv ?_) ?_
            · replace H := e255; clear e255
              rcases Bool.eq_false_or_eq_true (!x239) with c243 | c243
              · replace H := (ifT c243).symm.trans H
                rcases Bool.eq_false_or_eq_true (x223 == (0 : Int)) with c244 | c244
                · replace H := (ifT c244).symm.trans H
                  refine reg hP hn hm [(2, .b true), (5, .b true)] [0, 14, 15, 42, 43, 44, 47, 48, 51, 52] [] ⟨[(0, sV a0), (14, iV .i64 (a0.size : Int)), (15, iV .i64 x223), (42, iV .i64 x223), (43, bV (x223 == (0 : Int))), (44, bV true), (47, bV true), (48, bV true), (51, bV true), (52, bV true)], [], 0⟩ [(!x239) = true, (x223 == (0 : Int)) = true] (by kernel_rfl) ⟨by exact c243, by exact c244, trivial⟩ ?_
                  obtain rfl := Option.some.inj H
                  exact Exists.intro _ (And.intro (fun _ _ h => h.conv (inv := []) (vk := []) (e0 := []) (t := ⟨[(0, sV a0), (14, iV .i64 (a0.size : Int)), (15, iV .i64 x223), (52, bV true)], [], 0⟩) (by kernel_rfl)) (And.intro rfl rfl))
                · replace H := (ifF c244).symm.trans H
                  rcases Bool.eq_false_or_eq_true (decide ((bt a0 x223) < (48 : Int))) with c245 | c245
                  · replace H := (ifT c245).symm.trans H
                    refine reg hP hn hm [(2, .b true), (5, .b false), (9, .b true)] [0, 14, 15, 42, 43, 44, 45, 46, 47, 48, 51, 52] [] ⟨[(0, sV a0), (14, iV .i64 (a0.size : Int)), (15, iV .i64 x223), (42, iV .i64 x223), (43, bV (x223 == (0 : Int))), (44, bV false), (45, iV .u8 (bt a0 x223)), (46, bV (decide ((bt a0 x223) < (48 : Int)))), (47, bV (decide ((bt a0 x223) < (48 : Int)))), (48, bV true), (51, bV true), (52, bV true)], [], 0⟩ [(!x239) = true, (x223 == (0 : Int)) = false, (decide ((bt a0 x223) < (48 : Int))) = true] (by kernel_rfl) ⟨by exact c243, by exact c244, by exact c245, trivial⟩ ?_
                    obtain rfl := Option.some.inj H
                    exact Exists.intro _ (And.intro (fun _ _ h => h.conv (inv := []) (vk := []) (e0 := []) (t := ⟨[(0, sV a0), (14, iV .i64 (a0.size : Int)), (15, iV .i64 x223), (52, bV true)], [], 0⟩) (by kernel_rfl)) (And.intro rfl rfl))
                  · replace H := (ifF c245).symm.trans H
                    refine reg hP hn hm [(2, .b true), (5, .b false), (9, .b false)] [0, 14, 15, 42, 43, 44, 45, 46, 47, 48, 49, 50, 51, 52] [] ⟨[(0, sV a0), (14, iV .i64 (a0.size : Int)), (15, iV .i64 x223), (42, iV .i64 x223), (43, bV (x223 == (0 : Int))), (44, bV false), (45, iV .u8 (bt a0 x223)), (46, bV (decide ((bt a0 x223) < (48 : Int)))), (47, bV (decide ((bt a0 x223) < (48 : Int)))), (48, bV false), (49, iV .u8 (bt a0 x223)), (50, bV (decide ((bt a0 x223) > (57 : Int)))), (51, bV (decide ((bt a0 x223) > (57 : Int)))), (52, bV (decide ((bt a0 x223) > (57 : Int))))], [], 0⟩ [(!x239) = true, (x223 == (0 : Int)) = false, (decide ((bt a0 x223) < (48 : Int))) = false] (by kernel_rfl) ⟨by exact c243, by exact c244, by exact c245, trivial⟩ ?_
                    obtain rfl := Option.some.inj H
                    exact Exists.intro _ (And.intro (fun _ _ h => h.conv (inv := []) (vk := []) (e0 := []) (t := ⟨[(0, sV a0), (14, iV .i64 (a0.size : Int)), (15, iV .i64 x223), (52, bV (decide ((bt a0 x223) > (57 : Int))))], [], 0⟩) (by kernel_rfl)) (And.intro rfl rfl))
              · replace H := (ifF c243).symm.trans H
                refine reg hP hn hm [(2, .b false)] [0, 14, 15, 52] [] ⟨[(0, sV a0), (14, iV .i64 (a0.size : Int)), (15, iV .i64 x223), (52, bV false)], [], 0⟩ [(!x239) = false] (by kernel_rfl) ⟨by exact c243, trivial⟩ ?_
                obtain rfl := Option.some.inj H
                exact Exists.intro _ (And.intro (fun _ _ h => h.conv (inv := []) (vk := []) (e0 := []) (t := ⟨[(0, sV a0), (14, iV .i64 (a0.size : Int)), (15, iV .i64 x223), (52, bV false)], [], 0⟩) (by kernel_rfl)) (And.intro rfl rfl))
            · obtain ⟨x246, rfl⟩ : ∃ z, z = o254 := ⟨_, rfl⟩
              rintro e s ⟨rfl, rfl⟩
              refine AWp.cond x246 rfl (fun c247 => ?_) (fun c247 => ?_)
              · replace H := (ifT c247).symm.trans H
                refine AWp.seq ?_
                refine reg hP hn hm [] [2] [] ⟨[(2, bV false)], [], 0⟩ [] (by kernel_rfl) trivial ?_
                refine AWp.conv (inv := []) (vk := []) (e0 := []) (t := ⟨[(2, bV false)], [], 0⟩) (by kernel_rfl) ?_
                refine AWp.ret ?_
                obtain rfl := Option.some.inj H
                exact Exists.intro _ (And.intro (fun _ _ h => h) (And.intro rfl (And.intro rfl (And.intro (by kernel_rfl) (by kernel_rfl)))))
              · replace H := (ifF c247).symm.trans H
                refine AWp.skip ?_
                refine reg hP hn hm [] [0, 14, 15] [] ⟨[(0, sV a0), (14, iV .i64 (a0.size : Int)), (15, iV .i64 (IntKind.i64.wrap (x223 + (1 : Int))))], [], 0⟩ [] (by kernel_rfl) trivial ?_
                exact LWp.conv (inv := []) (vk := []) (e0 := []) (t := ⟨[(0, sV a0), (14, iV .i64 (a0.size : Int)), (15, iV .i64 (IntKind.i64.wrap (x223 + (1 : Int))))], [], 0⟩) (by kernel_rfl) (ih _ _ H)
        · replace H := (ifF c224).symm.trans H
          refine AWp.exit ?_
          obtain rfl := Option.some.inj H
          exact Exists.intro _ (And.intro (fun _ _ h => h.conv (inv := []) (vk := []) (e0 := []) (t := ⟨[], [], 0⟩) (by kernel_rfl)) (And.intro rfl rfl))
      · rcases o250 with rr | _
        · skip
          rintro e s ⟨rfl, hfl, hres⟩
          obtain rfl := Option.some.inj H
          exact Exists.intro _ (And.intro (fun _ _ h => h) (And.intro (.inl rfl) (And.intro hfl hres)))
        · skip
          rintro e s ⟨rfl, rfl⟩
          refine AWp.seq ?_
          refine reg hP hn hm [] [2] [] ⟨[(2, bV true)], [], 0⟩ [] (by kernel_rfl) trivial ?_
          refine AWp.conv (inv := []) (vk := []) (e0 := []) (t := ⟨[(2, bV true)], [], 0⟩) (by kernel_rfl) ?_
          refine AWp.ret ?_
          obtain rfl := Option.some.inj H
          exact Exists.intro _ (And.intro (fun _ _ h => h) (And.intro (.inl rfl) (And.intro rfl (And.intro (by kernel_rfl) (by kernel_rfl)))))
def f_label_value.f (a0 : ByteArray) : Option (Bool) := ((if (!(a0.toList == (⟨#[]⟩ : ByteArray).toList)) = true then (some (decide ((a0.size : Int) ≤ (64 : Int)))) else (some false)) : Option (Bool)) >>= fun x261 => some x261
theorem f_label_value.ok (a0 : ByteArray) (r : Bool) (H : f_label_value.f a0 = some r) : Pv.Fn Try.prog 64 [sV a0] [] 0 (fun x o => x = bV r ∧ o = []) := by
  unfold f_label_value.f at H
  refine Fn.bodyK [] Try.func64 rfl rfl (fun Γ hP hn => ?_)
  have hm : Try.prog.follows .mixedOrders = true := by kernel_rfl
  replace hn : Γ.n = 10 := hn
  refine AWp.seq ?_
  refine reg hP hn hm [] [0] [] ⟨[(0, sV a0)], [], 0⟩ [] (by kernel_rfl) trivial ?_
  refine AWp.seq ?_
  obtain ⟨o262, e263, H⟩ := bind_of H
  refine AWp.mono (Q := fun e s => (match (generalizing := false) o262 with | x261 => e = .normal ∧ s = ⟨[(2, bV x261)], [], 0⟩)) (AWp.cv ?_) ?_
  · replace H := e263; clear e263
    rcases Bool.eq_false_or_eq_true (!(a0.toList == (⟨#[]⟩ : ByteArray).toList)) with c260 | c260
    · replace H := (ifT c260).symm.trans H
      refine reg hP hn hm [(2, .b true)] [2] [] ⟨[(2, bV (decide ((a0.size : Int) ≤ (64 : Int))))], [], 0⟩ [(!(a0.toList == (⟨#[]⟩ : ByteArray).toList)) = true] (by kernel_rfl) ⟨by exact c260, trivial⟩ ?_
      obtain rfl := Option.some.inj H
      exact Exists.intro _ (And.intro (fun _ _ h => h.conv (inv := []) (vk := []) (e0 := []) (t := ⟨[(2, bV (decide ((a0.size : Int) ≤ (64 : Int))))], [], 0⟩) (by kernel_rfl)) (And.intro rfl rfl))
    · replace H := (ifF c260).symm.trans H
      refine reg hP hn hm [(2, .b false)] [2] [] ⟨[(2, bV false)], [], 0⟩ [(!(a0.toList == (⟨#[]⟩ : ByteArray).toList)) = false] (by kernel_rfl) ⟨by exact c260, trivial⟩ ?_
      obtain rfl := Option.some.inj H
      exact Exists.intro _ (And.intro (fun _ _ h => h.conv (inv := []) (vk := []) (e0 := []) (t := ⟨[(2, bV false)], [], 0⟩) (by kernel_rfl)) (And.intro rfl rfl))
  · obtain ⟨x261, rfl⟩ : ∃ z, z = o262 := ⟨_, rfl⟩
    rintro e s ⟨rfl, rfl⟩
    refine AWp.conv (inv := []) (vk := []) (e0 := []) (t := ⟨[(2, bV x261)], [], 0⟩) (by kernel_rfl) ?_
    refine AWp.ret ?_
    obtain rfl := Option.some.inj H
    exact Exists.intro _ (And.intro (fun _ _ h => h) (And.intro (.inl rfl) (And.intro rfl (And.intro (by kernel_rfl) (by kernel_rfl)))))
def f_label_Check.l0 (a0 : List TLabel) (x275 : Int) : Option (Int ⊕ Unit) := if (decide (x275 < (a0.length : Int))) = true then ((at? a0 x275) >>= fun b280 => (((f_label_name.f b280.f0) >>= fun t293 => if (!t293) = true then (some true) else ((f_label_value.f b280.f1) >>= fun t296 => if (!t296) = true then (some true) else (if (decide (x275 > (0 : Int))) = true then ((at? a0 (IntKind.i64.wrap (x275 - (1 : Int)))) >>= fun b300 => some (!Op.bytesLess b300.f0.toList b280.f0.toList)) else (some false)))) : Option (Bool)) >>= fun x303 => if x303 = true then (some (.inl 26)) else (f_label_Check.l0 a0 (IntKind.i64.wrap (x275 + (1 : Int))))) else (some (.inr ()))
partial_fixpoint
def f_label_Check.f (a0 : List TLabel) : Option (Int) := if (decide ((a0.length : Int) > (16 : Int))) = true then (some 9) else ((f_label_Check.l0 a0 0) >>= fun oo => match oo with | .inl rr => (some rr) | .inr _ => (some 0))
theorem f_label_Check.ok (a0 : List TLabel) (r : Int) (H : f_label_Check.f a0 = some r) : Pv.Fn Try.prog 35 [.im (.row (a0.map eLabel))] [] 0 (fun x o => x = iV .i64 r ∧ o = []) := by
  unfold f_label_Check.f at H
  refine Fn.bodyK [] Try.func35 rfl rfl (fun Γ hP hn => ?_)
  have hm : Try.prog.follows .mixedOrders = true := by kernel_rfl
  replace hn : Γ.n = 41 := hn
  refine AWp.seq ?_
  refine reg hP hn hm [] [0] [] ⟨[(0, .im (.row (a0.map eLabel)))], [], 0⟩ [] (by kernel_rfl) trivial ?_
  refine AWp.seq ?_
  refine AWp.seq ?_
  refine reg hP hn hm [(1, .any (iV .i64 (a0.length : Int)))] [0, 7] [] ⟨[(0, .im (.row (a0.map eLabel))), (7, bV (decide ((a0.length : Int) > (16 : Int))))], [], 0⟩ [((a0.map eLabel).length : Int) = (a0.length : Int)] (by kernel_rfl) ⟨by rw [len_map], trivial⟩ ?_
  refine AWp.cond (decide ((a0.length : Int) > (16 : Int))) rfl (fun c191 => ?_) (fun c191 => ?_)
  · replace H := (ifT c191).symm.trans H
    refine AWp.seq ?_
    refine reg hP hn hm [] [2] [] ⟨[(2, iV .i64 9)], [], 0⟩ [] (by kernel_rfl) trivial ?_
    refine AWp.conv (inv := []) (vk := []) (e0 := []) (t := ⟨[(2, iV .i64 9)], [], 0⟩) (by kernel_rfl) ?_
    refine AWp.ret ?_
    obtain rfl := Option.some.inj H
    exact Exists.intro _ (And.intro (fun _ _ h => h) (And.intro (.inl rfl) (And.intro rfl (And.intro (by kernel_rfl) (by kernel_rfl)))))
  · replace H := (ifF c191).symm.trans H
    refine AWp.skip ?_
    refine AWp.seq ?_
    refine AWp.seq ?_
    refine reg hP hn hm [(1, .any (iV .i64 (a0.length : Int)))] [0, 8, 9, 10] [] ⟨[(0, .im (.row (a0.map eLabel))), (8, .im (.row (a0.map eLabel))), (9, iV .i64 (a0.length : Int)), (10, iV .i64 0)], [], 0⟩ [((a0.map eLabel).length : Int) = (a0.length : Int)] (by kernel_rfl) ⟨by rw [len_map], trivial⟩ ?_
    refine AWp.block ?_
    obtain ⟨o305, e306, H⟩ := bind_of H
    refine AWp.loop (LWp.conv (inv := []) (vk := []) (e0 := []) (t := ⟨[(0, .im (.row (a0.map eLabel))), (8, .im (.row (a0.map eLabel))), (9, iV .i64 (a0.length : Int)), (10, iV .i64 0)], [], 0⟩) (by kernel_rfl) ?_)
    refine LWp.mono (Q := fun e s => (match (generalizing := false) o305 with | .inl rr => e = .ret ∧ s.floor = 0 ∧ resOf Try.prog Try.f35 s = some (iV .i64 rr) ∧ ([] : List (Nat × Option MObj)) = [] | .inr _ => e = .exit 0 ∧ s = ⟨[], [], 0⟩)) (LWp.cv (withBody (fun body hbody => ?_))) ?_
    · refine f_label_Check.l0.partial_correctness a0 (motive := fun x275 o305 => LWp Γ body (fun e s => ∃ t, Cv Γ s t ∧ (match (generalizing := false) o305 with | .inl rr => e = .ret ∧ t.floor = 0 ∧ resOf Try.prog Try.f35 t = some (iV .i64 rr) ∧ ([] : List (Nat × Option MObj)) = [] | .inr _ => e = .exit 0 ∧ t = ⟨[], [], 0⟩)) ⟨[(0, .im (.row (a0.map eLabel))), (8, .im (.row (a0.map eLabel))), (9, iV .i64 (a0.length : Int)), (10, iV .i64 x275)], [], 0⟩) ?_ _ _ e306
      clear H e306 o305; intro self ih x275 o305 H
      subst hbody
      refine LWp.round ?_
      refine AWp.seq ?_
      refine reg hP hn hm [] [0, 8, 9, 10, 11] [] ⟨[(0, .im (.row (a0.map eLabel))), (8, .im (.row (a0.map eLabel))), (9, iV .i64 (a0.length : Int)), (10, iV .i64 x275), (11, bV (decide (x275 < (a0.length : Int))))], [], 0⟩ [] (by kernel_rfl) trivial ?_
      refine AWp.seq ?_
      refine AWp.cond (decide (x275 < (a0.length : Int))) rfl (fun c276 => ?_) (fun c276 => ?_)
      · replace H := (ifT c276).symm.trans H
        refine AWp.skip ?_
        refine AWp.seq ?_
        refine AWp.block ?_
        refine AWp.seq ?_
        obtain ⟨b280, p281, q282, H⟩ := at_of H
        refine reg hP hn hm [(1, .c (eLabel b280)), (3, .k 1)] [0, 3, 4, 8, 9, 10] [1] ⟨[(0, .im (.row (a0.map eLabel))), (3, iV .i64 x275), (4, .ptr 1 0 0), (8, .im (.row (a0.map eLabel))), (9, iV .i64 (a0.length : Int)), (10, iV .i64 x275)], [(1, some (.box 67 (aLabel b280)))], 0⟩ [0 ≤ x275, (a0.map eLabel)[(Int.toNat (x275))]? = some (eLabel b280)] (by kernel_rfl) ⟨by exact p281, by exact el_map eLabel q282, trivial⟩ ?_
        refine AWp.seq ?_
        obtain ⟨o307, e308, H⟩ := bind_of H
        refine AWp.mono (Q := fun e s => (match (generalizing := false) o307 with | x303 => e = .normal ∧ s = ⟨[(0, .im (.row (a0.map eLabel))), (8, .im (.row (a0.map eLabel))), (9, iV .i64 (a0.length : Int)), (10, iV .i64 x275), (39, bV x303)], [], 0⟩)) (AWp.cv ?_) ?_
        · replace H := e308; clear e308
          obtain ⟨t293, e294, H⟩ := bind_of H
          rcases Bool.eq_false_or_eq_true (!t293) with c295 | c295
          · replace H := (ifT c295).symm.trans H
            refine reg hP hn hm [(2, .call [] [] [] [] 0 (bV t293) []), (4, .b true)] [0, 8, 9, 10, 39] [] ⟨[(0, .im (.row (a0.map eLabel))), (8, .im (.row (a0.map eLabel))), (9, iV .i64 (a0.length : Int)), (10, iV .i64 x275), (39, bV true)], [], 0⟩ [Enters Try.prog 63, Pv.Fn Try.prog 63 [sV b280.f0] [] 0 (fun r o => r = bV t293 ∧ o = []), (!t293) = true] (by kernel_rfl) ⟨by exact Try.call63, by exact f_label_name.ok b280.f0 t293 e294, by exact c295, trivial⟩ ?_
            obtain rfl := Option.some.inj H
            exact Exists.intro _ (And.intro (fun _ _ h => h.conv (inv := []) (vk := []) (e0 := []) (t := ⟨[(0, .im (.row (a0.map eLabel))), (8, .im (.row (a0.map eLabel))), (9, iV .i64 (a0.length : Int)), (10, iV .i64 x275), (39, bV true)], [], 0⟩) (by kernel_rfl)) (And.intro rfl rfl))
          · replace H := (ifF c295).symm.trans H
            obtain ⟨t296, e297, H⟩ := bind_of H
            rcases Bool.eq_false_or_eq_true (!t296) with c298 | c298
            · replace H := (ifT c298).symm.trans H
              refine reg hP hn hm [(2, .call [] [] [] [] 0 (bV t293) []), (4, .b false), (7, .call [] [] [] [] 0 (bV t296) []), (10, .b true)] [0, 8, 9, 10, 20, 21, 22, 23, 39] [1] ⟨[(0, .im (.row (a0.map eLabel))), (8, .im (.row (a0.map eLabel))), (9, iV .i64 (a0.length : Int)), (10, iV .i64 x275), (20, .ptr 1 0 1), (21, sV b280.f1), (22, bV t296), (23, bV (!t296)), (39, bV true)], [(1, some (.box 67 (aLabel b280)))], 0⟩ [Enters Try.prog 63, Pv.Fn Try.prog 63 [sV b280.f0] [] 0 (fun r o => r = bV t293 ∧ o = []), (!t293) = false, Enters Try.prog 64, Pv.Fn Try.prog 64 [sV b280.f1] [] 0 (fun r o => r = bV t296 ∧ o = []), (!t296) = true] (by kernel_rfl) ⟨by exact Try.call63, by exact f_label_name.ok b280.f0 t293 e294, by exact c295, by exact Try.call64, by exact f_label_value.ok b280.f1 t296 e297, by exact c298, trivial⟩ ?_
              obtain rfl := Option.some.inj H
              exact Exists.intro _ (And.intro (fun _ _ h => h.conv (inv := []) (vk := []) (e0 := []) (t := ⟨[(0, .im (.row (a0.map eLabel))), (8, .im (.row (a0.map eLabel))), (9, iV .i64 (a0.length : Int)), (10, iV .i64 x275), (39, bV true)], [], 0⟩) (by kernel_rfl)) (And.intro rfl rfl))
            · replace H := (ifF c298).symm.trans H
              rcases Bool.eq_false_or_eq_true (decide (x275 > (0 : Int))) with c299 | c299
              · replace H := (ifT c299).symm.trans H
                obtain ⟨b300, p301, q302, H⟩ := at_of H
                refine reg hP hn hm [(2, .call [] [] [] [] 0 (bV t293) []), (4, .b false), (7, .call [] [] [] [] 0 (bV t296) []), (10, .b false), (13, .b true), (17, .c (eLabel b300))] [0, 8, 9, 10, 20, 21, 22, 23, 26, 27, 28, 29, 30, 31, 32, 33, 34, 35, 36, 37, 38, 39] [1] ⟨[(0, .im (.row (a0.map eLabel))), (8, .im (.row (a0.map eLabel))), (9, iV .i64 (a0.length : Int)), (10, iV .i64 x275), (20, .ptr 1 0 1), (21, sV b280.f1), (22, bV t296), (23, bV (!t296)), (26, iV .i64 x275), (27, bV (decide (x275 > (0 : Int)))), (28, bV true), (29, .im (.row (a0.map eLabel))), (30, iV .i64 x275), (31, iV .i64 (IntKind.i64.wrap (x275 - (1 : Int)))), (32, .ip [sI b300.f0, sI b300.f1]), (33, .ip [sI b300.f0, sI b300.f1]), (34, sV b300.f0), (35, .ptr 1 0 0), (36, sV b280.f0), (37, bV (!Op.bytesLess b300.f0.toList b280.f0.toList)), (38, bV (!Op.bytesLess b300.f0.toList b280.f0.toList)), (39, bV (!Op.bytesLess b300.f0.toList b280.f0.toList))], [(1, some (.box 67 (aLabel b280)))], 0⟩ [Enters Try.prog 63, Pv.Fn Try.prog 63 [sV b280.f0] [] 0 (fun r o => r = bV t293 ∧ o = []), (!t293) = false, Enters Try.prog 64, Pv.Fn Try.prog 64 [sV b280.f1] [] 0 (fun r o => r = bV t296 ∧ o = []), (!t296) = false, (decide (x275 > (0 : Int))) = true, 0 ≤ (IntKind.i64.wrap (x275 - (1 : Int))), (a0.map eLabel)[(Int.toNat (IntKind.i64.wrap (x275 - (1 : Int))))]? = some (eLabel b300)] (by kernel_rfl) ⟨by exact Try.call63, by exact f_label_name.ok b280.f0 t293 e294, by exact c295, by exact Try.call64, by exact f_label_value.ok b280.f1 t296 e297, by exact c298, by exact c299, by exact p301, by exact el_map eLabel q302, trivial⟩ ?_
                obtain rfl := Option.some.inj H
                exact Exists.intro _ (And.intro (fun _ _ h => h.conv (inv := []) (vk := []) (e0 := []) (t := ⟨[(0, .im (.row (a0.map eLabel))), (8, .im (.row (a0.map eLabel))), (9, iV .i64 (a0.length : Int)), (10, iV .i64 x275), (39, bV (!Op.bytesLess b300.f0.toList b280.f0.toList))], [], 0⟩) (by kernel_rfl)) (And.intro rfl rfl))
              · replace H := (ifF c299).symm.trans H
                refine reg hP hn hm [(2, .call [] [] [] [] 0 (bV t293) []), (4, .b false), (7, .call [] [] [] [] 0 (bV t296) []), (10, .b false), (13, .b false)] [0, 8, 9, 10, 20, 21, 22, 23, 26, 27, 28, 38, 39] [1] ⟨[(0, .im (.row (a0.map eLabel))), (8, .im (.row (a0.map eLabel))), (9, iV .i64 (a0.length : Int)), (10, iV .i64 x275), (20, .ptr 1 0 1), (21, sV b280.f1), (22, bV t296), (23, bV (!t296)), (26, iV .i64 x275), (27, bV (decide (x275 > (0 : Int)))), (28, bV false), (38, bV false), (39, bV false)], [(1, some (.box 67 (aLabel b280)))], 0⟩ [Enters Try.prog 63, Pv.Fn Try.prog 63 [sV b280.f0] [] 0 (fun r o => r = bV t293 ∧ o = []), (!t293) = false, Enters Try.prog 64, Pv.Fn Try.prog 64 [sV b280.f1] [] 0 (fun r o => r = bV t296 ∧ o = []), (!t296) = false, (decide (x275 > (0 : Int))) = false] (by kernel_rfl) ⟨by exact Try.call63, by exact f_label_name.ok b280.f0 t293 e294, by exact c295, by exact Try.call64, by exact f_label_value.ok b280.f1 t296 e297, by exact c298, by exact c299, trivial⟩ ?_
                obtain rfl := Option.some.inj H
                exact Exists.intro _ (And.intro (fun _ _ h => h.conv (inv := []) (vk := []) (e0 := []) (t := ⟨[(0, .im (.row (a0.map eLabel))), (8, .im (.row (a0.map eLabel))), (9, iV .i64 (a0.length : Int)), (10, iV .i64 x275), (39, bV false)], [], 0⟩) (by kernel_rfl)) (And.intro rfl rfl))
        · obtain ⟨x303, rfl⟩ : ∃ z, z = o307 := ⟨_, rfl⟩
          rintro e s ⟨rfl, rfl⟩
          refine AWp.cond x303 rfl (fun c304 => ?_) (fun c304 => ?_)
          · replace H := (ifT c304).symm.trans H
            refine AWp.seq ?_
            refine reg hP hn hm [] [2] [] ⟨[(2, iV .i64 26)], [], 0⟩ [] (by kernel_rfl) trivial ?_
            refine AWp.conv (inv := []) (vk := []) (e0 := []) (t := ⟨[(2, iV .i64 26)], [], 0⟩) (by kernel_rfl) ?_
            refine AWp.ret ?_
            obtain rfl := Option.some.inj H
            exact Exists.intro _ (And.intro (fun _ _ h => h) (And.intro rfl (And.intro rfl (And.intro (by kernel_rfl) (by kernel_rfl)))))
          · replace H := (ifF c304).symm.trans H
            refine AWp.skip ?_
            refine reg hP hn hm [] [0, 8, 9, 10] [] ⟨[(0, .im (.row (a0.map eLabel))), (8, .im (.row (a0.map eLabel))), (9, iV .i64 (a0.length : Int)), (10, iV .i64 (IntKind.i64.wrap (x275 + (1 : Int))))], [], 0⟩ [] (by kernel_rfl) trivial ?_
            exact LWp.conv (inv := []) (vk := []) (e0 := []) (t := ⟨[(0, .im (.row (a0.map eLabel))), (8, .im (.row (a0.map eLabel))), (9, iV .i64 (a0.length : Int)), (10, iV .i64 (IntKind.i64.wrap (x275 + (1 : Int))))], [], 0⟩) (by kernel_rfl) (ih _ _ H)
      · replace H := (ifF c276).symm.trans H
        refine AWp.exit ?_
        obtain rfl := Option.some.inj H
        exact Exists.intro _ (And.intro (fun _ _ h => h.conv (inv := []) (vk := []) (e0 := []) (t := ⟨[], [], 0⟩) (by kernel_rfl)) (And.intro rfl rfl))
    · rcases o305 with rr | _
      · skip
        rintro e s ⟨rfl, hfl, hres⟩
        obtain rfl := Option.some.inj H
        exact Exists.intro _ (And.intro (fun _ _ h => h) (And.intro (.inl rfl) (And.intro hfl hres)))
      · skip
        rintro e s ⟨rfl, rfl⟩
        refine AWp.seq ?_
        refine reg hP hn hm [] [2] [] ⟨[(2, iV .i64 0)], [], 0⟩ [] (by kernel_rfl) trivial ?_
        refine AWp.conv (inv := []) (vk := []) (e0 := []) (t := ⟨[(2, iV .i64 0)], [], 0⟩) (by kernel_rfl) ?_
        refine AWp.ret ?_
        obtain rfl := Option.some.inj H
        exact Exists.intro _ (And.intro (fun _ _ h => h) (And.intro (.inl rfl) (And.intro rfl (And.intro (by kernel_rfl) (by kernel_rfl)))))
def f_label_Parse.l0 (x167 : ByteArray) (x168 : List TLabel) : Option (((List TLabel) × Int) ⊕ (List TLabel)) := (f_strings_Cut_2e8.f x167) >>= fun t171 => if (!t171.2.2) = true then (some (.inl ([], 6))) else ((f_label_Unquote.f t171.2.1) >>= fun t176 => ((if (!t176.2.2) = true then (some true) else (some (t176.2.1.toList == (⟨#[]⟩ : ByteArray).toList))) : Option (Bool)) >>= fun x180 => if x180 = true then (some (.inl ([], 6))) else ((chk ((x168.length + [(⟨t171.1, t176.1⟩ : TLabel)].length) * 32 ≤ 140737488355328)) >>= fun _ => if (t176.2.1.toList == (⟨#[125]⟩ : ByteArray).toList) = true then (some (.inr (x168 ++ [(⟨t171.1, t176.1⟩ : TLabel)]))) else ((chk (0 ≤ (0 : Int) ∧ (0 : Int) < (t176.2.1.size : Int))) >>= fun _ => if ((bt t176.2.1 0) != (44 : Int)) = true then (some (.inl ([], 6))) else ((chk (0 ≤ (1 : Int) ∧ (1 : Int) ≤ (t176.2.1.size : Int) ∧ (t176.2.1.size : Int) ≤ (t176.2.1.size : Int))) >>= fun _ => f_label_Parse.l0  (t176.2.1.extract (Int.toNat ((1 : Int))) (Int.toNat ((t176.2.1.size : Int)))) (x168 ++ [(⟨t171.1, t176.1⟩ : TLabel)])))))
partial_fixpoint
def f_label_Parse.f (a0 : ByteArray) : Option ((List TLabel) × Int) := (f_strings_CutPrefix.f a0 (⟨#[123]⟩ : ByteArray)) >>= fun t54 => if (!t54.2) = true then (some ([], 6)) else (if (t54.1.toList == (⟨#[125]⟩ : ByteArray).toList) = true then (some ([], 0)) else ((f_label_Parse.l0  t54.1 []) >>= fun oo => match oo with | .inl rr => (some rr) | .inr x190 => ((f_label_Check.f x190) >>= fun t311 => if (t311 != (0 : Int)) = true then (some ([], t311)) else (some (x190, 0)))))
theorem f_label_Parse.ok (a0 : ByteArray) (r : (List TLabel) × Int) (H : f_label_Parse.f a0 = some r) : Pv.Fn Try.prog 25 [sV a0] [] 0 (fun x o => x = .tup [.own 0, iV .i64 r.2] ∧ o = [(0, some (.row 2 67 (r.1.map eLabel)))]) := by
  unfold f_label_Parse.f at H
  refine Fn.bodyK [0] Try.func25 rfl rfl (fun Γ hP hn => ?_)
  have hm : Try.prog.follows .mixedOrders = true := by kernel_rfl
  replace hn : Γ.n = 61 := hn
  refine AWp.seq ?_
  refine reg hP hn hm [] [0] [] ⟨[(0, sV a0)], [], 0⟩ [] (by kernel_rfl) trivial ?_
  refine AWp.seq ?_
  obtain ⟨t54, e55, H⟩ := bind_of H
  refine reg hP hn hm [(1, .call [] [] [] [] 0 (.tup [sV t54.1, bV t54.2]) [])] [4, 5] [] ⟨[(4, sV t54.1), (5, bV t54.2)], [], 0⟩ [Enters Try.prog 52, Pv.Fn Try.prog 52 [sV a0, sV (⟨#[123]⟩ : ByteArray)] [] 0 (fun r o => r = .tup [sV t54.1, bV t54.2] ∧ o = [])] (by kernel_rfl) ⟨by exact Try.call52, by exact f_strings_CutPrefix.ok a0 (⟨#[123]⟩ : ByteArray) t54 e55, trivial⟩ ?_
  refine AWp.seq ?_
  refine AWp.seq ?_
  refine reg hP hn hm [] [4, 19] [] ⟨[(4, sV t54.1), (19, bV (!t54.2))], [], 0⟩ [] (by kernel_rfl) trivial ?_
  refine AWp.cond (!t54.2) rfl (fun c56 => ?_) (fun c56 => ?_)
  · replace H := (ifT c56).symm.trans H
    refine AWp.seq ?_
    refine reg hP hn hm [] [2, 3] [] ⟨[(2, .none0), (3, iV .i64 6)], [], 0⟩ [] (by kernel_rfl) trivial ?_
    refine AWp.conv (inv := []) (vk := []) (e0 := [0]) (t := ⟨[(2, .own 0), (3, iV .i64 6)], [(0, some (.row 2 67 ([].map eLabel)))], 0⟩) (by kernel_rfl) ?_
    refine AWp.ret ?_
    obtain rfl := Option.some.inj H
    exact Exists.intro _ (And.intro (fun _ _ h => h) (And.intro (.inl rfl) (And.intro rfl (And.intro (by kernel_rfl) (by kernel_rfl)))))
  · replace H := (ifF c56).symm.trans H
    refine AWp.skip ?_
    refine AWp.seq ?_
    refine AWp.seq ?_
    refine reg hP hn hm [] [4, 21] [] ⟨[(4, sV t54.1), (21, bV (t54.1.toList == (⟨#[125]⟩ : ByteArray).toList))], [], 0⟩ [] (by kernel_rfl) trivial ?_
    refine AWp.cond (t54.1.toList == (⟨#[125]⟩ : ByteArray).toList) rfl (fun c57 => ?_) (fun c57 => ?_)
    · replace H := (ifT c57).symm.trans H
      refine AWp.seq ?_
      refine reg hP hn hm [] [2, 3] [] ⟨[(2, .none0), (3, iV .i64 0)], [], 0⟩ [] (by kernel_rfl) trivial ?_
      refine AWp.conv (inv := []) (vk := []) (e0 := [0]) (t := ⟨[(2, .own 0), (3, iV .i64 0)], [(0, some (.row 2 67 ([].map eLabel)))], 0⟩) (by kernel_rfl) ?_
      refine AWp.ret ?_
      obtain rfl := Option.some.inj H
      exact Exists.intro _ (And.intro (fun _ _ h => h) (And.intro (.inl rfl) (And.intro rfl (And.intro (by kernel_rfl) (by kernel_rfl)))))
    · replace H := (ifF c57).symm.trans H
      refine AWp.skip ?_
      refine AWp.seq ?_
      refine reg hP hn hm [] [4, 6] [] ⟨[(4, sV t54.1), (6, .none0)], [], 0⟩ [] (by kernel_rfl) trivial ?_
      refine AWp.seq ?_
      refine AWp.block ?_
      obtain ⟨o314, e315, H⟩ := bind_of H
      refine AWp.loop (LWp.conv (inv := []) (vk := []) (e0 := [2]) (t := ⟨[(4, sV t54.1), (6, .own 2)], [(2, some (.row 2 67 ([].map eLabel)))], 0⟩) (by kernel_rfl) ?_)
      refine LWp.mono (Q := fun e s => (match (generalizing := false) o314 with | .inl rr => e = .ret ∧ s.floor = 0 ∧ resOf Try.prog Try.f25 s = some (.tup [.own 0, iV .i64 rr.2]) ∧ ([(0, s.obj 0)] : List (Nat × Option MObj)) = [(0, some (.row 2 67 (rr.1.map eLabel)))] | .inr x190 => e = .exit 0 ∧ s = ⟨[(6, .own 6)], [(6, some (.row 2 67 (x190.map eLabel)))], 0⟩)) (LWp.cv (withBody (fun body hbody => ?_))) ?_
      · refine f_label_Parse.l0.partial_correctness  (motive := fun x167 x168 o314 => LWp Γ body (fun e s => ∃ t, Cv Γ s t ∧ (match (generalizing := false) o314 with | .inl rr => e = .ret ∧ t.floor = 0 ∧ resOf Try.prog Try.f25 t = some (.tup [.own 0, iV .i64 rr.2]) ∧ ([(0, t.obj 0)] : List (Nat × Option MObj)) = [(0, some (.row 2 67 (rr.1.map eLabel)))] | .inr x190 => e = .exit 0 ∧ t = ⟨[(6, .own 6)], [(6, some (.row 2 67 (x190.map eLabel)))], 0⟩)) ⟨[(4, sV x167), (6, .own 2)], [(2, some (.row 2 67 (x168.map eLabel)))], 0⟩) ?_ _ _ _ e315
        clear H e315 o314; intro self ih x167 x168 o314 H
        subst hbody
        refine LWp.round ?_
        refine AWp.block ?_
        refine AWp.seq ?_
        obtain ⟨t171, e172, H⟩ := bind_of H
        refine reg hP hn hm [(1, .call [] [] [] [] 0 (.tup [sV t171.1, sV t171.2.1, bV t171.2.2]) [])] [6, 7, 8, 9] [2] ⟨[(6, .own 2), (7, sV t171.1), (8, sV t171.2.1), (9, bV t171.2.2)], [(2, some (.row 2 67 (x168.map eLabel)))], 0⟩ [Enters Try.prog 53, Pv.Fn Try.prog 53 [sV x167, sV (⟨#[61]⟩ : ByteArray)] [] 0 (fun r o => r = .tup [sV t171.1, sV t171.2.1, bV t171.2.2] ∧ o = [])] (by kernel_rfl) ⟨by exact Try.call53, by exact f_strings_Cut_2e8.ok x167 t171 e172, trivial⟩ ?_
        refine AWp.seq ?_
        refine AWp.seq ?_
        refine reg hP hn hm [] [6, 7, 8, 29] [2] ⟨[(6, .own 2), (7, sV t171.1), (8, sV t171.2.1), (29, bV (!t171.2.2))], [(2, some (.row 2 67 (x168.map eLabel)))], 0⟩ [] (by kernel_rfl) trivial ?_
        refine AWp.cond (!t171.2.2) rfl (fun c173 => ?_) (fun c173 => ?_)
        · replace H := (ifT c173).symm.trans H
          refine AWp.seq ?_
          refine reg hP hn hm [] [2, 3] [] ⟨[(2, .none0), (3, iV .i64 6)], [], 0⟩ [] (by kernel_rfl) trivial ?_
          refine AWp.conv (inv := []) (vk := []) (e0 := [0]) (t := ⟨[(2, .own 0), (3, iV .i64 6)], [(0, some (.row 2 67 ([].map eLabel)))], 0⟩) (by kernel_rfl) ?_
          refine AWp.ret ?_
          obtain rfl := Option.some.inj H
          exact Exists.intro _ (And.intro (fun _ _ h => h) (And.intro rfl (And.intro rfl (And.intro (by kernel_rfl) (by kernel_rfl)))))
        · replace H := (ifF c173).symm.trans H
          refine AWp.skip ?_
          refine AWp.seq ?_
          obtain ⟨t176, e177, H⟩ := bind_of H
          refine reg hP hn hm [(1, .call [] [] [] [] 0 (.tup [sV t176.1, sV t176.2.1, bV t176.2.2]) [])] [6, 7, 9, 10, 11] [2] ⟨[(6, .own 2), (7, sV t171.1), (9, bV t176.2.2), (10, sV t176.1), (11, sV t176.2.1)], [(2, some (.row 2 67 (x168.map eLabel)))], 0⟩ [Enters Try.prog 13, Pv.Fn Try.prog 13 [sV t171.2.1] [] 0 (fun r o => r = .tup [sV t176.1, sV t176.2.1, bV t176.2.2] ∧ o = [])] (by kernel_rfl) ⟨by exact Try.call13, by exact f_label_Unquote.ok t171.2.1 t176 e177, trivial⟩ ?_
          refine AWp.seq ?_
          refine AWp.seq ?_
          obtain ⟨o316, e317, H⟩ := bind_of H
          refine AWp.mono (Q := fun e s => (match (generalizing := false) o316 with | x180 => e = .normal ∧ s = ⟨[(6, .own 3), (7, sV t171.1), (10, sV t176.1), (11, sV t176.2.1), (41, bV x180)], [(3, some (.row 2 67 (x168.map eLabel)))], 0⟩)) (AWp.cv ?_) ?_
          · replace H := e317; clear e317
            rcases Bool.eq_false_or_eq_true (!t176.2.2) with c179 | c179
            · replace H := (ifT c179).symm.trans H
              refine reg hP hn hm [(2, .b true)] [6, 7, 10, 11, 41] [2] ⟨[(6, .own 2), (7, sV t171.1), (10, sV t176.1), (11, sV t176.2.1), (41, bV true)], [(2, some (.row 2 67 (x168.map eLabel)))], 0⟩ [(!t176.2.2) = true] (by kernel_rfl) ⟨by exact c179, trivial⟩ ?_
              obtain rfl := Option.some.inj H
              exact Exists.intro _ (And.intro (fun _ _ h => h.conv (inv := [(2, 3)]) (vk := []) (e0 := []) (t := ⟨[(6, .own 3), (7, sV t171.1), (10, sV t176.1), (11, sV t176.2.1), (41, bV true)], [(3, some (.row 2 67 (x168.map eLabel)))], 0⟩) (by kernel_rfl)) (And.intro rfl rfl))
            · replace H := (ifF c179).symm.trans H
              refine reg hP hn hm [(2, .b false)] [6, 7, 10, 11, 39, 40, 41] [2] ⟨[(6, .own 2), (7, sV t171.1), (10, sV t176.1), (11, sV t176.2.1), (39, sV t176.2.1), (40, bV (t176.2.1.toList == (⟨#[]⟩ : ByteArray).toList)), (41, bV (t176.2.1.toList == (⟨#[]⟩ : ByteArray).toList))], [(2, some (.row 2 67 (x168.map eLabel)))], 0⟩ [(!t176.2.2) = false] (by kernel_rfl) ⟨by exact c179, trivial⟩ ?_
              obtain rfl := Option.some.inj H
              exact Exists.intro _ (And.intro (fun _ _ h => h.conv (inv := [(2, 3)]) (vk := []) (e0 := []) (t := ⟨[(6, .own 3), (7, sV t171.1), (10, sV t176.1), (11, sV t176.2.1), (41, bV (t176.2.1.toList == (⟨#[]⟩ : ByteArray).toList))], [(3, some (.row 2 67 (x168.map eLabel)))], 0⟩) (by kernel_rfl)) (And.intro rfl rfl))
          · obtain ⟨x180, rfl⟩ : ∃ z, z = o316 := ⟨_, rfl⟩
            rintro e s ⟨rfl, rfl⟩
            refine AWp.cond x180 rfl (fun c181 => ?_) (fun c181 => ?_)
            · replace H := (ifT c181).symm.trans H
              refine AWp.seq ?_
              refine reg hP hn hm [] [2, 3] [] ⟨[(2, .none0), (3, iV .i64 6)], [], 0⟩ [] (by kernel_rfl) trivial ?_
              refine AWp.conv (inv := []) (vk := []) (e0 := [0]) (t := ⟨[(2, .own 0), (3, iV .i64 6)], [(0, some (.row 2 67 ([].map eLabel)))], 0⟩) (by kernel_rfl) ?_
              refine AWp.ret ?_
              obtain rfl := Option.some.inj H
              exact Exists.intro _ (And.intro (fun _ _ h => h) (And.intro rfl (And.intro rfl (And.intro (by kernel_rfl) (by kernel_rfl)))))
            · replace H := (ifF c181).symm.trans H
              refine AWp.skip ?_
              refine AWp.seq ?_
              obtain ⟨c183, H⟩ := chk_of H
              refine reg hP hn hm [(4, .app 4 ([(⟨t171.1, t176.1⟩ : TLabel)].map eLabel)), (5, .app 5 ((x168 ++ [(⟨t171.1, t176.1⟩ : TLabel)]).map eLabel))] [6, 11] [5] ⟨[(6, .own 5), (11, sV t176.2.1)], [(5, some (.row 2 67 ((x168 ++ [(⟨t171.1, t176.1⟩ : TLabel)]).map eLabel)))], 0⟩ [[(⟨t171.1, t176.1⟩ : TLabel)].map eLabel = [[sI t171.1, sI t176.1]], (x168 ++ [(⟨t171.1, t176.1⟩ : TLabel)]).map eLabel = (x168.map eLabel) ++ ([(⟨t171.1, t176.1⟩ : TLabel)].map eLabel), ∀ c ∈ ([(⟨t171.1, t176.1⟩ : TLabel)].map eLabel), c.length = 2, ∀ c ∈ ([(⟨t171.1, t176.1⟩ : TLabel)].map eLabel), leaves (c.map .im) = true, ((x168.map eLabel).length + ([(⟨t171.1, t176.1⟩ : TLabel)].map eLabel).length) * 32 ≤ 140737488355328] (by kernel_rfl) ⟨by exact rfl, by simp, by exact all_len _ _ _ (fun _ => rfl), by exact all_leaf _ _ (fun _ => rfl), by simpa using c183, trivial⟩ ?_
              refine AWp.seq ?_
              refine AWp.seq ?_
              refine reg hP hn hm [] [6, 11, 49] [5] ⟨[(6, .own 5), (11, sV t176.2.1), (49, bV (t176.2.1.toList == (⟨#[125]⟩ : ByteArray).toList))], [(5, some (.row 2 67 ((x168 ++ [(⟨t171.1, t176.1⟩ : TLabel)]).map eLabel)))], 0⟩ [] (by kernel_rfl) trivial ?_
              refine AWp.cond (t176.2.1.toList == (⟨#[125]⟩ : ByteArray).toList) rfl (fun c184 => ?_) (fun c184 => ?_)
              · replace H := (ifT c184).symm.trans H
                refine AWp.exit ?_
                obtain rfl := Option.some.inj H
                exact Exists.intro _ (And.intro (fun _ _ h => h.conv (inv := [(5, 6)]) (vk := []) (e0 := []) (t := ⟨[(6, .own 6)], [(6, some (.row 2 67 ((x168 ++ [(⟨t171.1, t176.1⟩ : TLabel)]).map eLabel)))], 0⟩) (by kernel_rfl)) (And.intro rfl rfl))
              · replace H := (ifF c184).symm.trans H
                refine AWp.skip ?_
                refine AWp.seq ?_
                refine AWp.seq ?_
                obtain ⟨c186, H⟩ := chk_of H
                refine reg hP hn hm [] [6, 11, 52] [5] ⟨[(6, .own 5), (11, sV t176.2.1), (52, bV ((bt t176.2.1 0) != (44 : Int)))], [(5, some (.row 2 67 ((x168 ++ [(⟨t171.1, t176.1⟩ : TLabel)]).map eLabel)))], 0⟩ [0 ≤ (0 : Int), (0 : Int) < (t176.2.1.size : Int)] (by kernel_rfl) ⟨by exact c186.1, by exact c186.2, trivial⟩ ?_
                refine AWp.cond ((bt t176.2.1 0) != (44 : Int)) rfl (fun c187 => ?_) (fun c187 => ?_)
                · replace H := (ifT c187).symm.trans H
                  refine AWp.seq ?_
                  refine reg hP hn hm [] [2, 3] [] ⟨[(2, .none0), (3, iV .i64 6)], [], 0⟩ [] (by kernel_rfl) trivial ?_
                  refine AWp.conv (inv := []) (vk := []) (e0 := [0]) (t := ⟨[(2, .own 0), (3, iV .i64 6)], [(0, some (.row 2 67 ([].map eLabel)))], 0⟩) (by kernel_rfl) ?_
                  refine AWp.ret ?_
                  obtain rfl := Option.some.inj H
                  exact Exists.intro _ (And.intro (fun _ _ h => h) (And.intro rfl (And.intro rfl (And.intro (by kernel_rfl) (by kernel_rfl)))))
                · replace H := (ifF c187).symm.trans H
                  refine AWp.skip ?_
                  obtain ⟨c189, H⟩ := chk_of H
                  refine reg hP hn hm [] [4, 6] [5] ⟨[(4, sV (t176.2.1.extract (Int.toNat ((1 : Int))) (Int.toNat ((t176.2.1.size : Int))))), (6, .own 5)], [(5, some (.row 2 67 ((x168 ++ [(⟨t171.1, t176.1⟩ : TLabel)]).map eLabel)))], 0⟩ [0 ≤ (1 : Int), (1 : Int) ≤ (t176.2.1.size : Int), (t176.2.1.size : Int) ≤ (t176.2.1.size : Int)] (by kernel_rfl) ⟨by exact c189.1, by exact c189.2.1, by exact c189.2.2, trivial⟩ ?_
                  exact LWp.conv (inv := [(5, 2)]) (vk := []) (e0 := []) (t := ⟨[(4, sV (t176.2.1.extract (Int.toNat ((1 : Int))) (Int.toNat ((t176.2.1.size : Int))))), (6, .own 2)], [(2, some (.row 2 67 ((x168 ++ [(⟨t171.1, t176.1⟩ : TLabel)]).map eLabel)))], 0⟩) (by kernel_rfl) (ih _ _ _ H)
      · rcases o314 with rr | x190
        · skip
          rintro e s ⟨rfl, hfl, hres⟩
          obtain rfl := Option.some.inj H
          exact Exists.intro _ (And.intro (fun _ _ h => h) (And.intro (.inl rfl) (And.intro hfl hres)))
        · skip
          rintro e s ⟨rfl, rfl⟩
          refine AWp.seq ?_
          refine AWp.seq ?_
          obtain ⟨t311, e312, H⟩ := bind_of H
          refine reg hP hn hm [(1, .call [] [] [6] [] 0 (iV .i64 t311) [])] [6, 12] [6] ⟨[(6, .own 6), (12, iV .i64 t311)], [(6, some (.row 2 67 (x190.map eLabel)))], 0⟩ [Enters Try.prog 35, Pv.Fn Try.prog 35 [.im (.row (x190.map eLabel))] [] 0 (fun r o => r = iV .i64 t311 ∧ o = [])] (by kernel_rfl) ⟨by exact Try.call35, by exact f_label_Check.ok x190 t311 e312, trivial⟩ ?_
          refine AWp.seq ?_
          refine reg hP hn hm [] [6, 12, 58] [6] ⟨[(6, .own 6), (12, iV .i64 t311), (58, bV (t311 != (0 : Int)))], [(6, some (.row 2 67 (x190.map eLabel)))], 0⟩ [] (by kernel_rfl) trivial ?_
          refine AWp.cond (t311 != (0 : Int)) rfl (fun c313 => ?_) (fun c313 => ?_)
          · replace H := (ifT c313).symm.trans H
            refine AWp.seq ?_
            refine reg hP hn hm [] [2, 3] [] ⟨[(2, .none0), (3, iV .i64 t311)], [], 0⟩ [] (by kernel_rfl) trivial ?_
            refine AWp.conv (inv := []) (vk := []) (e0 := [0]) (t := ⟨[(2, .own 0), (3, iV .i64 t311)], [(0, some (.row 2 67 ([].map eLabel)))], 0⟩) (by kernel_rfl) ?_
            refine AWp.ret ?_
            obtain rfl := Option.some.inj H
            exact Exists.intro _ (And.intro (fun _ _ h => h) (And.intro (.inl rfl) (And.intro rfl (And.intro (by kernel_rfl) (by kernel_rfl)))))
          · replace H := (ifF c313).symm.trans H
            refine AWp.skip ?_
            refine AWp.seq ?_
            refine reg hP hn hm [] [2, 3] [6] ⟨[(2, .own 6), (3, iV .i64 0)], [(6, some (.row 2 67 (x190.map eLabel)))], 0⟩ [] (by kernel_rfl) trivial ?_
            refine AWp.conv (inv := [(6, 0)]) (vk := []) (e0 := []) (t := ⟨[(2, .own 0), (3, iV .i64 0)], [(0, some (.row 2 67 (x190.map eLabel)))], 0⟩) (by kernel_rfl) ?_
            refine AWp.ret ?_
            obtain rfl := Option.some.inj H
            exact Exists.intro _ (And.intro (fun _ _ h => h) (And.intro (.inl rfl) (And.intro rfl (And.intro (by kernel_rfl) (by kernel_rfl)))))
def f_pluviallaw10_awake.f  : Option (Bool) := (f_label_Parse.f (⟨#[123, 97, 61, 34, 120, 34, 44, 98, 61, 34, 121, 34, 125]⟩ : ByteArray)) >>= fun t320 => ((if (t320.2 == (0 : Int)) = true then (if ((t320.1.length : Int) == (2 : Int)) = true then ((at? t320.1 1) >>= fun b329 => some ((b329.f0.toList == (⟨#[98]⟩ : ByteArray).toList) && ((b329.f1.toList == (⟨#[121]⟩ : ByteArray).toList) && true))) else (some false)) else (some false)) : Option (Bool)) >>= fun x332 => some x332
theorem f_pluviallaw10_awake.ok  (r : Bool) (H : f_pluviallaw10_awake.f  = some r) : Pv.Fn Try.prog 11 [] [] 0 (fun x o => x = bV r ∧ o = []) := by
  unfold f_pluviallaw10_awake.f at H
  refine Fn.bodyK [] Try.func11 rfl rfl (fun Γ hP hn => ?_)
  have hm : Try.prog.follows .mixedOrders = true := by kernel_rfl
  replace hn : Γ.n = 21 := hn
  refine AWp.seq ?_
  refine reg hP hn hm [] [] [] ⟨[], [], 0⟩ [] (by kernel_rfl) trivial ?_
  refine AWp.seq ?_
  obtain ⟨t320, e321, H⟩ := bind_of H
  refine reg hP hn hm [(0, .call [] [(0, 0)] [] [0] 0 (.tup [.own 0, iV .i64 t320.2]) [(0, some (.row 2 67 (t320.1.map eLabel)))])] [1, 2] [0] ⟨[(1, .own 0), (2, iV .i64 t320.2)], [(0, some (.row 2 67 (t320.1.map eLabel)))], 0⟩ [Enters Try.prog 25, Pv.Fn Try.prog 25 [sV (⟨#[123, 97, 61, 34, 120, 34, 44, 98, 61, 34, 121, 34, 125]⟩ : ByteArray)] [] 0 (fun r o => r = .tup [.own 0, iV .i64 t320.2] ∧ o = [(0, some (.row 2 67 (t320.1.map eLabel)))])] (by kernel_rfl) ⟨by exact Try.call25, by exact f_label_Parse.ok (⟨#[123, 97, 61, 34, 120, 34, 44, 98, 61, 34, 121, 34, 125]⟩ : ByteArray) t320 e321, trivial⟩ ?_
  refine AWp.seq ?_
  obtain ⟨o333, e334, H⟩ := bind_of H
  refine AWp.mono (Q := fun e s => (match (generalizing := false) o333 with | x332 => e = .normal ∧ s = ⟨[(0, bV x332)], [], 0⟩)) (AWp.cv ?_) ?_
  · replace H := e334; clear e334
    rcases Bool.eq_false_or_eq_true (t320.2 == (0 : Int)) with c327 | c327
    · replace H := (ifT c327).symm.trans H
      rcases Bool.eq_false_or_eq_true ((t320.1.length : Int) == (2 : Int)) with c328 | c328
      · replace H := (ifT c328).symm.trans H
        obtain ⟨b329, p330, q331, H⟩ := at_of H
        refine reg hP hn hm [(2, .b true), (4, .any (iV .i64 (t320.1.length : Int))), (7, .b true), (10, .c (eLabel b329)), (12, .more (xAgg none))] [0] [] ⟨[(0, bV ((b329.f0.toList == (⟨#[98]⟩ : ByteArray).toList) && ((b329.f1.toList == (⟨#[121]⟩ : ByteArray).toList) && true)))], [], 0⟩ [(t320.2 == (0 : Int)) = true, ((t320.1.map eLabel).length : Int) = (t320.1.length : Int), ((t320.1.length : Int) == (2 : Int)) = true, 0 ≤ (1 : Int), 1 < (((t320.1.map eLabel).length : Nat) : Int), (t320.1.map eLabel)[(Int.toNat (1))]? = some (eLabel b329)] (by kernel_rfl) ⟨by exact c327, by rw [len_map], by exact c328, by exact p330, by exact el_lt eLabel p330 q331, by exact el_map eLabel q331, trivial⟩ ?_
        obtain rfl := Option.some.inj H
        exact Exists.intro _ (And.intro (fun _ _ h => h.conv (inv := []) (vk := []) (e0 := []) (t := ⟨[(0, bV ((b329.f0.toList == (⟨#[98]⟩ : ByteArray).toList) && ((b329.f1.toList == (⟨#[121]⟩ : ByteArray).toList) && true)))], [], 0⟩) (by kernel_rfl)) (And.intro rfl rfl))
      · replace H := (ifF c328).symm.trans H
        refine reg hP hn hm [(2, .b true), (4, .any (iV .i64 (t320.1.length : Int))), (7, .b false)] [0] [] ⟨[(0, bV false)], [], 0⟩ [(t320.2 == (0 : Int)) = true, ((t320.1.map eLabel).length : Int) = (t320.1.length : Int), ((t320.1.length : Int) == (2 : Int)) = false] (by kernel_rfl) ⟨by exact c327, by rw [len_map], by exact c328, trivial⟩ ?_
        obtain rfl := Option.some.inj H
        exact Exists.intro _ (And.intro (fun _ _ h => h.conv (inv := []) (vk := []) (e0 := []) (t := ⟨[(0, bV false)], [], 0⟩) (by kernel_rfl)) (And.intro rfl rfl))
    · replace H := (ifF c327).symm.trans H
      refine reg hP hn hm [(2, .b false)] [0] [] ⟨[(0, bV false)], [], 0⟩ [(t320.2 == (0 : Int)) = false] (by kernel_rfl) ⟨by exact c327, trivial⟩ ?_
      obtain rfl := Option.some.inj H
      exact Exists.intro _ (And.intro (fun _ _ h => h.conv (inv := []) (vk := []) (e0 := []) (t := ⟨[(0, bV false)], [], 0⟩) (by kernel_rfl)) (And.intro rfl rfl))
  · obtain ⟨x332, rfl⟩ : ∃ z, z = o333 := ⟨_, rfl⟩
    rintro e s ⟨rfl, rfl⟩
    refine AWp.conv (inv := []) (vk := []) (e0 := []) (t := ⟨[(0, bV x332)], [], 0⟩) (by kernel_rfl) ?_
    refine AWp.ret ?_
    obtain rfl := Option.some.inj H
    exact Exists.intro _ (And.intro (fun _ _ h => h) (And.intro (.inl rfl) (And.intro rfl (And.intro (by kernel_rfl) (by kernel_rfl)))))
def f_pluvialref10_Name.l0 (a0 : ByteArray) (x369 : Int) : Option (Bool ⊕ Unit) := if (decide (x369 < (a0.size : Int))) = true then ((chk (0 ≤ x369 ∧ x369 < (a0.size : Int))) >>= fun _ => ((if ((bt a0 x369) == (95 : Int)) = true then (some true) else (if (decide ((bt a0 x369) ≥ (65 : Int))) = true then (if (decide ((bt a0 x369) ≤ (90 : Int))) = true then (some true) else (if (decide ((bt a0 x369) ≥ (97 : Int))) = true then (if (decide ((bt a0 x369) ≤ (122 : Int))) = true then (some true) else (if (decide (x369 > (0 : Int))) = true then (if (decide ((bt a0 x369) ≥ (48 : Int))) = true then (some (decide ((bt a0 x369) ≤ (57 : Int)))) else (some false)) else (some false))) else (if (decide (x369 > (0 : Int))) = true then (if (decide ((bt a0 x369) ≥ (48 : Int))) = true then (some (decide ((bt a0 x369) ≤ (57 : Int)))) else (some false)) else (some false)))) else (if (decide ((bt a0 x369) ≥ (97 : Int))) = true then (if (decide ((bt a0 x369) ≤ (122 : Int))) = true then (some true) else (if (decide (x369 > (0 : Int))) = true then (if (decide ((bt a0 x369) ≥ (48 : Int))) = true then (some (decide ((bt a0 x369) ≤ (57 : Int)))) else (some false)) else (some false))) else (if (decide (x369 > (0 : Int))) = true then (if (decide ((bt a0 x369) ≥ (48 : Int))) = true then (some (decide ((bt a0 x369) ≤ (57 : Int)))) else (some false)) else (some false))))) : Option (Bool)) >>= fun x403 => if (!x403) = true then (some (.inl false)) else (f_pluvialref10_Name.l0 a0 (IntKind.i64.wrap (x369 + (1 : Int))))) else (some (.inr ()))
partial_fixpoint
def f_pluvialref10_Name.f (a0 : ByteArray) : Option (Bool) := ((if (decide ((a0.size : Int) < (1 : Int))) = true then (some true) else (some (decide ((a0.size : Int) > (64 : Int))))) : Option (Bool)) >>= fun x348 => if x348 = true then (some false) else ((f_pluvialref10_Name.l0 a0 0) >>= fun oo => match oo with | .inl rr => (some rr) | .inr _ => (some true))
theorem f_pluvialref10_Name.ok (a0 : ByteArray) (r : Bool) (H : f_pluvialref10_Name.f a0 = some r) : Pv.Fn Try.prog 50 [sV a0] [] 0 (fun x o => x = bV r ∧ o = []) := by
  unfold f_pluvialref10_Name.f at H
  refine Fn.bodyK [] Try.func50 rfl rfl (fun Γ hP hn => ?_)
  have hm : Try.prog.follows .mixedOrders = true := by kernel_rfl
  replace hn : Γ.n = 55 := hn
  refine AWp.seq ?_
  refine reg hP hn hm [] [0] [] ⟨[(0, sV a0)], [], 0⟩ [] (by kernel_rfl) trivial ?_
  refine AWp.seq ?_
  refine AWp.seq ?_
  obtain ⟨o405, e406, H⟩ := bind_of H
  refine AWp.mono (Q := fun e s => (match (generalizing := false) o405 with | x348 => e = .normal ∧ s = ⟨[(0, sV a0), (13, bV x348)], [], 0⟩)) (AWp.cv ?_) ?_
  · replace H := e406; clear e406
    rcases Bool.eq_false_or_eq_true (decide ((a0.size : Int) < (1 : Int))) with c347 | c347
    · replace H := (ifT c347).symm.trans H
      refine reg hP hn hm [(3, .b true)] [0, 13] [] ⟨[(0, sV a0), (13, bV true)], [], 0⟩ [(decide ((a0.size : Int) < (1 : Int))) = true] (by kernel_rfl) ⟨by exact c347, trivial⟩ ?_
      obtain rfl := Option.some.inj H
      exact Exists.intro _ (And.intro (fun _ _ h => h.conv (inv := []) (vk := []) (e0 := []) (t := ⟨[(0, sV a0), (13, bV true)], [], 0⟩) (by kernel_rfl)) (And.intro rfl rfl))
    · replace H := (ifF c347).symm.trans H
      refine reg hP hn hm [(3, .b false)] [0, 13] [] ⟨[(0, sV a0), (13, bV (decide ((a0.size : Int) > (64 : Int))))], [], 0⟩ [(decide ((a0.size : Int) < (1 : Int))) = false] (by kernel_rfl) ⟨by exact c347, trivial⟩ ?_
      obtain rfl := Option.some.inj H
      exact Exists.intro _ (And.intro (fun _ _ h => h.conv (inv := []) (vk := []) (e0 := []) (t := ⟨[(0, sV a0), (13, bV (decide ((a0.size : Int) > (64 : Int))))], [], 0⟩) (by kernel_rfl)) (And.intro rfl rfl))
  · obtain ⟨x348, rfl⟩ : ∃ z, z = o405 := ⟨_, rfl⟩
    rintro e s ⟨rfl, rfl⟩
    refine AWp.cond x348 rfl (fun c349 => ?_) (fun c349 => ?_)
    · replace H := (ifT c349).symm.trans H
      refine AWp.seq ?_
      refine reg hP hn hm [] [2] [] ⟨[(2, bV false)], [], 0⟩ [] (by kernel_rfl) trivial ?_
      refine AWp.conv (inv := []) (vk := []) (e0 := []) (t := ⟨[(2, bV false)], [], 0⟩) (by kernel_rfl) ?_
      refine AWp.ret ?_
      obtain rfl := Option.some.inj H
      exact Exists.intro _ (And.intro (fun _ _ h => h) (And.intro (.inl rfl) (And.intro rfl (And.intro (by kernel_rfl) (by kernel_rfl)))))
    · replace H := (ifF c349).symm.trans H
      refine AWp.skip ?_
      refine AWp.seq ?_
      refine AWp.seq ?_
      refine reg hP hn hm [] [0, 3] [] ⟨[(0, sV a0), (3, iV .i64 0)], [], 0⟩ [] (by kernel_rfl) trivial ?_
      refine AWp.block ?_
      obtain ⟨o407, e408, H⟩ := bind_of H
      refine AWp.loop (LWp.conv (inv := []) (vk := []) (e0 := []) (t := ⟨[(0, sV a0), (3, iV .i64 0)], [], 0⟩) (by kernel_rfl) ?_)
      refine LWp.mono (Q := fun e s => (match (generalizing := false) o407 with | .inl rr => e = .ret ∧ s.floor = 0 ∧ resOf Try.prog Try.f50 s = some (bV rr) ∧ ([] : List (Nat × Option MObj)) = [] | .inr _ => e = .exit 0 ∧ s = ⟨[], [], 0⟩)) (LWp.cv (withBody (fun body hbody => ?_))) ?_
      · refine f_pluvialref10_Name.l0.partial_correctness a0 (motive := fun x369 o407 => LWp Γ body (fun e s => ∃ t, Cv Γ s t ∧ (match (generalizing := false) o407 with | .inl rr => e = .ret ∧ t.floor = 0 ∧ resOf Try.prog Try.f50 t = some (bV rr) ∧ ([] : List (Nat × Option MObj)) = [] | .inr _ => e = .exit 0 ∧ t = ⟨[], [], 0⟩)) ⟨[(0, sV a0), (3, iV .i64 x369)], [], 0⟩) ?_ _ _ e408
        clear H e408 o407; intro self ih x369 o407 H
        subst hbody
        refine LWp.round ?_
        refine AWp.seq ?_
        refine AWp.seq ?_
        refine reg hP hn hm [] [0, 3, 17] [] ⟨[(0, sV a0), (3, iV .i64 x369), (17, bV (decide (x369 < (a0.size : Int))))], [], 0⟩ [] (by kernel_rfl) trivial ?_
        refine AWp.cond (decide (x369 < (a0.size : Int))) rfl (fun c370 => ?_) (fun c370 => ?_)
        · replace H := (ifT c370).symm.trans H
          refine AWp.skip ?_
          refine AWp.seq ?_
          refine AWp.block ?_
          refine AWp.seq ?_
          obtain ⟨c372, H⟩ := chk_of H
          refine reg hP hn hm [] [0, 3, 4] [] ⟨[(0, sV a0), (3, iV .i64 x369), (4, iV .u8 (bt a0 x369))], [], 0⟩ [0 ≤ x369, x369 < (a0.size : Int)] (by kernel_rfl) ⟨by exact c372.1, by exact c372.2, trivial⟩ ?_
          refine AWp.seq ?_
          obtain ⟨o409, e410, H⟩ := bind_of H
          refine AWp.mono (Q := fun e s => (match (generalizing := false) o409 with | x403 => e = .normal ∧ s = ⟨[(0, sV a0), (3, iV .i64 x369), (5, bV x403)], [], 0⟩)) (AWp.cv ?_) ?_
          · replace H := e410; clear e410
            rcases Bool.eq_false_or_eq_true ((bt a0 x369) == (95 : Int)) with c388 | c388
            · replace H := (ifT c388).symm.trans H
              refine reg hP hn hm [(2, .b true)] [0, 3, 5] [] ⟨[(0, sV a0), (3, iV .i64 x369), (5, bV true)], [], 0⟩ [((bt a0 x369) == (95 : Int)) = true] (by kernel_rfl) ⟨by exact c388, trivial⟩ ?_
              obtain rfl := Option.some.inj H
              exact Exists.intro _ (And.intro (fun _ _ h => h.conv (inv := []) (vk := []) (e0 := []) (t := ⟨[(0, sV a0), (3, iV .i64 x369), (5, bV true)], [], 0⟩) (by kernel_rfl)) (And.intro rfl rfl))
            · replace H := (ifF c388).symm.trans H
              rcases Bool.eq_false_or_eq_true (decide ((bt a0 x369) ≥ (65 : Int))) with c389 | c389
              · replace H := (ifT c389).symm.trans H
                rcases Bool.eq_false_or_eq_true (decide ((bt a0 x369) ≤ (90 : Int))) with c390 | c390
                · replace H := (ifT c390).symm.trans H
                  refine reg hP hn hm [(2, .b false), (5, .b true), (10, .b true)] [0, 3, 5, 26, 27, 28, 29, 30, 31] [] ⟨[(0, sV a0), (3, iV .i64 x369), (5, bV true), (26, iV .u8 (bt a0 x369)), (27, bV (decide ((bt a0 x369) ≥ (65 : Int)))), (28, bV true), (29, iV .u8 (bt a0 x369)), (30, bV (decide ((bt a0 x369) ≤ (90 : Int)))), (31, bV (decide ((bt a0 x369) ≤ (90 : Int))))], [], 0⟩ [((bt a0 x369) == (95 : Int)) = false, (decide ((bt a0 x369) ≥ (65 : Int))) = true, (decide ((bt a0 x369) ≤ (90 : Int))) = true] (by kernel_rfl) ⟨by exact c388, by exact c389, by exact c390, trivial⟩ ?_
                  obtain rfl := Option.some.inj H
                  exact Exists.intro _ (And.intro (fun _ _ h => h.conv (inv := []) (vk := []) (e0 := []) (t := ⟨[(0, sV a0), (3, iV .i64 x369), (5, bV true)], [], 0⟩) (by kernel_rfl)) (And.intro rfl rfl))
                · replace H := (ifF c390).symm.trans H
                  rcases Bool.eq_false_or_eq_true (decide ((bt a0 x369) ≥ (97 : Int))) with c391 | c391
                  · replace H := (ifT c391).symm.trans H
                    rcases Bool.eq_false_or_eq_true (decide ((bt a0 x369) ≤ (122 : Int))) with c392 | c392
                    · replace H := (ifT c392).symm.trans H
                      refine reg hP hn hm [(2, .b false), (5, .b true), (10, .b false), (13, .b true), (18, .b true)] [0, 3, 5, 26, 27, 28, 29, 30, 31, 34, 35, 36, 37, 38, 39] [] ⟨[(0, sV a0), (3, iV .i64 x369), (5, bV true), (26, iV .u8 (bt a0 x369)), (27, bV (decide ((bt a0 x369) ≥ (65 : Int)))), (28, bV true), (29, iV .u8 (bt a0 x369)), (30, bV (decide ((bt a0 x369) ≤ (90 : Int)))), (31, bV (decide ((bt a0 x369) ≤ (90 : Int)))), (34, iV .u8 (bt a0 x369)), (35, bV (decide ((bt a0 x369) ≥ (97 : Int)))), (36, bV true), (37, iV .u8 (bt a0 x369)), (38, bV (decide ((bt a0 x369) ≤ (122 : Int)))), (39, bV (decide ((bt a0 x369) ≤ (122 : Int))))], [], 0⟩ [((bt a0 x369) == (95 : Int)) = false, (decide ((bt a0 x369) ≥ (65 : Int))) = true, (decide ((bt a0 x369) ≤ (90 : Int))) = false, (decide ((bt a0 x369) ≥ (97 : Int))) = true, (decide ((bt a0 x369) ≤ (122 : Int))) = true] (by kernel_rfl) ⟨by exact c388, by exact c389, by exact c390, by exact c391, by exact c392, trivial⟩ ?_
                      obtain rfl := Option.some.inj H
                      exact Exists.intro _ (And.intro (fun _ _ h => h.conv (inv := []) (vk := []) (e0 := []) (t := ⟨[(0, sV a0), (3, iV .i64 x369), (5, bV true)], [], 0⟩) (by kernel_rfl)) (And.intro rfl rfl))
                    · replace H := (ifF c392).symm.trans H
                      rcases Bool.eq_false_or_eq_true (decide (x369 > (0 : Int))) with c393 | c393
                      · replace H := (ifT c393).symm.trans H
                        rcases Bool.eq_false_or_eq_true (decide ((bt a0 x369) ≥ (48 : Int))) with c394 | c394
                        · replace H := (ifT c394).symm.trans H
                          refine reg hP hn hm [(2, .b false), (5, .b true), (10, .b false), (13, .b true), (18, .b false), (21, .b true), (25, .b true)] [0, 3, 5, 26, 27, 28, 29, 30, 31, 34, 35, 36, 37, 38, 39, 42, 43, 44, 45, 46, 47, 48, 49, 50, 51] [] ⟨[(0, sV a0), (3, iV .i64 x369), (5, bV (decide ((bt a0 x369) ≤ (57 : Int)))), (26, iV .u8 (bt a0 x369)), (27, bV (decide ((bt a0 x369) ≥ (65 : Int)))), (28, bV true), (29, iV .u8 (bt a0 x369)), (30, bV (decide ((bt a0 x369) ≤ (90 : Int)))), (31, bV (decide ((bt a0 x369) ≤ (90 : Int)))), (34, iV .u8 (bt a0 x369)), (35, bV (decide ((bt a0 x369) ≥ (97 : Int)))), (36, bV true), (37, iV .u8 (bt a0 x369)), (38, bV (decide ((bt a0 x369) ≤ (122 : Int)))), (39, bV (decide ((bt a0 x369) ≤ (122 : Int)))), (42, iV .i64 x369), (43, bV (decide (x369 > (0 : Int)))), (44, bV true), (45, iV .u8 (bt a0 x369)), (46, bV (decide ((bt a0 x369) ≥ (48 : Int)))), (47, bV (decide ((bt a0 x369) ≥ (48 : Int)))), (48, bV true), (49, iV .u8 (bt a0 x369)), (50, bV (decide ((bt a0 x369) ≤ (57 : Int)))), (51, bV (decide ((bt a0 x369) ≤ (57 : Int))))], [], 0⟩ [((bt a0 x369) == (95 : Int)) = false, (decide ((bt a0 x369) ≥ (65 : Int))) = true, (decide ((bt a0 x369) ≤ (90 : Int))) = false, (decide ((bt a0 x369) ≥ (97 : Int))) = true, (decide ((bt a0 x369) ≤ (122 : Int))) = false, (decide (x369 > (0 : Int))) = true, (decide ((bt a0 x369) ≥ (48 : Int))) = true] (by kernel_rfl) ⟨by exact c388, by exact c389, by exact c390, by exact c391, by exact c392, by exact c393, by exact c394, trivial⟩ ?_
                          obtain rfl := Option.some.inj H
                          exact Exists.intro _ (And.intro (fun _ _ h => h.conv (inv := []) (vk := []) (e0 := []) (t := ⟨[(0, sV a0), (3, iV .i64 x369), (5, bV (decide ((bt a0 x369) ≤ (57 : Int))))], [], 0⟩) (by kernel_rfl)) (And.intro rfl rfl))
                        · replace H := (ifF c394).symm.trans H
                          refine reg hP hn hm [(2, .b false), (5, .b true), (10, .b false), (13, .b true), (18, .b false), (21, .b true), (25, .b false)] [0, 3, 5, 26, 27, 28, 29, 30, 31, 34, 35, 36, 37, 38, 39, 42, 43, 44, 45, 46, 47, 48, 51] [] ⟨[(0, sV a0), (3, iV .i64 x369), (5, bV false), (26, iV .u8 (bt a0 x369)), (27, bV (decide ((bt a0 x369) ≥ (65 : Int)))), (28, bV true), (29, iV .u8 (bt a0 x369)), (30, bV (decide ((bt a0 x369) ≤ (90 : Int)))), (31, bV (decide ((bt a0 x369) ≤ (90 : Int)))), (34, iV .u8 (bt a0 x369)), (35, bV (decide ((bt a0 x369) ≥ (97 : Int)))), (36, bV true), (37, iV .u8 (bt a0 x369)), (38, bV (decide ((bt a0 x369) ≤ (122 : Int)))), (39, bV (decide ((bt a0 x369) ≤ (122 : Int)))), (42, iV .i64 x369), (43, bV (decide (x369 > (0 : Int)))), (44, bV true), (45, iV .u8 (bt a0 x369)), (46, bV (decide ((bt a0 x369) ≥ (48 : Int)))), (47, bV (decide ((bt a0 x369) ≥ (48 : Int)))), (48, bV false), (51, bV false)], [], 0⟩ [((bt a0 x369) == (95 : Int)) = false, (decide ((bt a0 x369) ≥ (65 : Int))) = true, (decide ((bt a0 x369) ≤ (90 : Int))) = false, (decide ((bt a0 x369) ≥ (97 : Int))) = true, (decide ((bt a0 x369) ≤ (122 : Int))) = false, (decide (x369 > (0 : Int))) = true, (decide ((bt a0 x369) ≥ (48 : Int))) = false] (by kernel_rfl) ⟨by exact c388, by exact c389, by exact c390, by exact c391, by exact c392, by exact c393, by exact c394, trivial⟩ ?_
                          obtain rfl := Option.some.inj H
                          exact Exists.intro _ (And.intro (fun _ _ h => h.conv (inv := []) (vk := []) (e0 := []) (t := ⟨[(0, sV a0), (3, iV .i64 x369), (5, bV false)], [], 0⟩) (by kernel_rfl)) (And.intro rfl rfl))
                      · replace H := (ifF c393).symm.trans H
                        refine reg hP hn hm [(2, .b false), (5, .b true), (10, .b false), (13, .b true), (18, .b false), (21, .b false)] [0, 3, 5, 26, 27, 28, 29, 30, 31, 34, 35, 36, 37, 38, 39, 42, 43, 44, 47, 48, 51] [] ⟨[(0, sV a0), (3, iV .i64 x369), (5, bV false), (26, iV .u8 (bt a0 x369)), (27, bV (decide ((bt a0 x369) ≥ (65 : Int)))), (28, bV true), (29, iV .u8 (bt a0 x369)), (30, bV (decide ((bt a0 x369) ≤ (90 : Int)))), (31, bV (decide ((bt a0 x369) ≤ (90 : Int)))), (34, iV .u8 (bt a0 x369)), (35, bV (decide ((bt a0 x369) ≥ (97 : Int)))), (36, bV true), (37, iV .u8 (bt a0 x369)), (38, bV (decide ((bt a0 x369) ≤ (122 : Int)))), (39, bV (decide ((bt a0 x369) ≤ (122 : Int)))), (42, iV .i64 x369), (43, bV (decide (x369 > (0 : Int)))), (44, bV false), (47, bV false), (48, bV false), (51, bV false)], [], 0⟩ [((bt a0 x369) == (95 : Int)) = false, (decide ((bt a0 x369) ≥ (65 : Int))) = true, (decide ((bt a0 x369) ≤ (90 : Int))) = false, (decide ((bt a0 x369) ≥ (97 : Int))) = true, (decide ((bt a0 x369) ≤ (122 : Int))) = false, (decide (x369 > (0 : Int))) = false] (by kernel_rfl) ⟨by exact c388, by exact c389, by exact c390, by exact c391, by exact c392, by exact c393, trivial⟩ ?_
                        obtain rfl := Option.some.inj H
                        exact Exists.intro _ (And.intro (fun _ _ h => h.conv (inv := []) (vk := []) (e0 := []) (t := ⟨[(0, sV a0), (3, iV .i64 x369), (5, bV false)], [], 0⟩) (by kernel_rfl)) (And.intro rfl rfl))
                  · replace H := (ifF c391).symm.trans H
                    rcases Bool.eq_false_or_eq_true (decide (x369 > (0 : Int))) with c395 | c395
                    · replace H := (ifT c395).symm.trans H
                      rcases Bool.eq_false_or_eq_true (decide ((bt a0 x369) ≥ (48 : Int))) with c396 | c396
                      · replace H := (ifT c396).symm.trans H
                        refine reg hP hn hm [(2, .b false), (5, .b true), (10, .b false), (13, .b false), (21, .b true), (25, .b true)] [0, 3, 5, 26, 27, 28, 29, 30, 31, 34, 35, 36, 39, 42, 43, 44, 45, 46, 47, 48, 49, 50, 51] [] ⟨[(0, sV a0), (3, iV .i64 x369), (5, bV (decide ((bt a0 x369) ≤ (57 : Int)))), (26, iV .u8 (bt a0 x369)), (27, bV (decide ((bt a0 x369) ≥ (65 : Int)))), (28, bV true), (29, iV .u8 (bt a0 x369)), (30, bV (decide ((bt a0 x369) ≤ (90 : Int)))), (31, bV (decide ((bt a0 x369) ≤ (90 : Int)))), (34, iV .u8 (bt a0 x369)), (35, bV (decide ((bt a0 x369) ≥ (97 : Int)))), (36, bV false), (39, bV false), (42, iV .i64 x369), (43, bV (decide (x369 > (0 : Int)))), (44, bV true), (45, iV .u8 (bt a0 x369)), (46, bV (decide ((bt a0 x369) ≥ (48 : Int)))), (47, bV (decide ((bt a0 x369) ≥ (48 : Int)))), (48, bV true), (49, iV .u8 (bt a0 x369)), (50, bV (decide ((bt a0 x369) ≤ (57 : Int)))), (51, bV (decide ((bt a0 x369) ≤ (57 : Int))))], [], 0⟩ [((bt a0 x369) == (95 : Int)) = false, (decide ((bt a0 x369) ≥ (65 : Int))) = true, (decide ((bt a0 x369) ≤ (90 : Int))) = false, (decide ((bt a0 x369) ≥ (97 : Int))) = false, (decide (x369 > (0 : Int))) = true, (decide ((bt a0 x369) ≥ (48 : Int))) = true] (by kernel_rfl) ⟨by exact c388, by exact c389, by exact c390, by exact c391, by exact c395, by exact c396, trivial⟩ ?_
                        obtain rfl := Option.some.inj H
                        exact Exists.intro _ (And.intro (fun _ _ h => h.conv (inv := []) (vk := []) (e0 := []) (t := ⟨[(0, sV a0), (3, iV .i64 x369), (5, bV (decide ((bt a0 x369) ≤ (57 : Int))))], [], 0⟩) (by kernel_rfl)) (And.intro rfl rfl))
                      · replace H := (ifF c396).symm.trans H
                        refine reg hP hn hm [(2, .b false), (5, .b true), (10, .b false), (13, .b false), (21, .b true), (25, .b false)] [0, 3, 5, 26, 27, 28, 29, 30, 31, 34, 35, 36, 39, 42, 43, 44, 45, 46, 47, 48, 51] [] ⟨[(0, sV a0), (3, iV .i64 x369), (5, bV false), (26, iV .u8 (bt a0 x369)), (27, bV (decide ((bt a0 x369) ≥ (65 : Int)))), (28, bV true), (29, iV .u8 (bt a0 x369)), (30, bV (decide ((bt a0 x369) ≤ (90 : Int)))), (31, bV (decide ((bt a0 x369) ≤ (90 : Int)))), (34, iV .u8 (bt a0 x369)), (35, bV (decide ((bt a0 x369) ≥ (97 : Int)))), (36, bV false), (39, bV false), (42, iV .i64 x369), (43, bV (decide (x369 > (0 : Int)))), (44, bV true), (45, iV .u8 (bt a0 x369)), (46, bV (decide ((bt a0 x369) ≥ (48 : Int)))), (47, bV (decide ((bt a0 x369) ≥ (48 : Int)))), (48, bV false), (51, bV false)], [], 0⟩ [((bt a0 x369) == (95 : Int)) = false, (decide ((bt a0 x369) ≥ (65 : Int))) = true, (decide ((bt a0 x369) ≤ (90 : Int))) = false, (decide ((bt a0 x369) ≥ (97 : Int))) = false, (decide (x369 > (0 : Int))) = true, (decide ((bt a0 x369) ≥ (48 : Int))) = false] (by kernel_rfl) ⟨by exact c388, by exact c389, by exact c390, by exact c391, by exact c395, by exact c396, trivial⟩ ?_
                        obtain rfl := Option.some.inj H
                        exact Exists.intro _ (And.intro (fun _ _ h => h.conv (inv := []) (vk := []) (e0 := []) (t := ⟨[(0, sV a0), (3, iV .i64 x369), (5, bV false)], [], 0⟩) (by kernel_rfl)) (And.intro rfl rfl))
                    · replace H := (ifF c395).symm.trans H
                      refine reg hP hn hm [(2, .b false), (5, .b true), (10, .b false), (13, .b false), (21, .b false)] [0, 3, 5, 26, 27, 28, 29, 30, 31, 34, 35, 36, 39, 42, 43, 44, 47, 48, 51] [] ⟨[(0, sV a0), (3, iV .i64 x369), (5, bV false), (26, iV .u8 (bt a0 x369)), (27, bV (decide ((bt a0 x369) ≥ (65 : Int)))), (28, bV true), (29, iV .u8 (bt a0 x369)), (30, bV (decide ((bt a0 x369) ≤ (90 : Int)))), (31, bV (decide ((bt a0 x369) ≤ (90 : Int)))), (34, iV .u8 (bt a0 x369)), (35, bV (decide ((bt a0 x369) ≥ (97 : Int)))), (36, bV false), (39, bV false), (42, iV .i64 x369), (43, bV (decide (x369 > (0 : Int)))), (44, bV false), (47, bV false), (48, bV false), (51, bV false)], [], 0⟩ [((bt a0 x369) == (95 : Int)) = false, (decide ((bt a0 x369) ≥ (65 : Int))) = true, (decide ((bt a0 x369) ≤ (90 : Int))) = false, (decide ((bt a0 x369) ≥ (97 : Int))) = false, (decide (x369 > (0 : Int))) = false] (by kernel_rfl) ⟨by exact c388, by exact c389, by exact c390, by exact c391, by exact c395, trivial⟩ ?_
                      obtain rfl := Option.some.inj H
                      exact Exists.intro _ (And.intro (fun _ _ h => h.conv (inv := []) (vk := []) (e0 := []) (t := ⟨[(0, sV a0), (3, iV .i64 x369), (5, bV false)], [], 0⟩) (by kernel_rfl)) (And.intro rfl rfl))
              · replace H := (ifF c389).symm.trans H
                rcases Bool.eq_false_or_eq_true (decide ((bt a0 x369) ≥ (97 : Int))) with c397 | c397
                · replace H := (ifT c397).symm.trans H
                  rcases Bool.eq_false_or_eq_true (decide ((bt a0 x369) ≤ (122 : Int))) with c398 | c398
                  · replace H := (ifT c398).symm.trans H
                    refine reg hP hn hm [(2, .b false), (5, .b false), (13, .b true), (18, .b true)] [0, 3, 5, 26, 27, 28, 31, 34, 35, 36, 37, 38, 39] [] ⟨[(0, sV a0), (3, iV .i64 x369), (5, bV true), (26, iV .u8 (bt a0 x369)), (27, bV (decide ((bt a0 x369) ≥ (65 : Int)))), (28, bV false), (31, bV false), (34, iV .u8 (bt a0 x369)), (35, bV (decide ((bt a0 x369) ≥ (97 : Int)))), (36, bV true), (37, iV .u8 (bt a0 x369)), (38, bV (decide ((bt a0 x369) ≤ (122 : Int)))), (39, bV (decide ((bt a0 x369) ≤ (122 : Int))))], [], 0⟩ [((bt a0 x369) == (95 : Int)) = false, (decide ((bt a0 x369) ≥ (65 : Int))) = false, (decide ((bt a0 x369) ≥ (97 : Int))) = true, (decide ((bt a0 x369) ≤ (122 : Int))) = true] (by kernel_rfl) ⟨by exact c388, by exact c389, by exact c397, by exact c398, trivial⟩ ?_
                    obtain rfl := Option.some.inj H
                    exact Exists.intro _ (And.intro (fun _ _ h => h.conv (inv := []) (vk := []) (e0 := []) (t := ⟨[(0, sV a0), (3, iV .i64 x369), (5, bV true)], [], 0⟩) (by kernel_rfl)) (And.intro rfl rfl))
                  · replace H := (ifF c398).symm.trans H
                    rcases Bool.eq_false_or_eq_true (decide (x369 > (0 : Int))) with c399 | c399
                    · replace H := (ifT c399).symm.trans H
                      rcases Bool.eq_false_or_eq_true (decide ((bt a0 x369) ≥ (48 : Int))) with c400 | c400
                      · replace H := (ifT c400).symm.trans H
                        refine reg hP hn hm [(2, .b false), (5, .b false), (13, .b true), (18, .b false), (21, .b true), (25, .b true)] [0, 3, 5, 26, 27, 28, 31, 34, 35, 36, 37, 38, 39, 42, 43, 44, 45, 46, 47, 48, 49, 50, 51] [] ⟨[(0, sV a0), (3, iV .i64 x369), (5, bV (decide ((bt a0 x369) ≤ (57 : Int)))), (26, iV .u8 (bt a0 x369)), (27, bV (decide ((bt a0 x369) ≥ (65 : Int)))), (28, bV false), (31, bV false), (34, iV .u8 (bt a0 x369)), (35, bV (decide ((bt a0 x369) ≥ (97 : Int)))), (36, bV true), (37, iV .u8 (bt a0 x369)), (38, bV (decide ((bt a0 x369) ≤ (122 : Int)))), (39, bV (decide ((bt a0 x369) ≤ (122 : Int)))), (42, iV .i64 x369), (43, bV (decide (x369 > (0 : Int)))), (44, bV true), (45, iV .u8 (bt a0 x369)), (46, bV (decide ((bt a0 x369) ≥ (48 : Int)))), (47, bV (decide ((bt a0 x369) ≥ (48 : Int)))), (48, bV true), (49, iV .u8 (bt a0 x369)), (50, bV (decide ((bt a0 x369) ≤ (57 : Int)))), (51, bV (decide ((bt a0 x369) ≤ (57 : Int))))], [], 0⟩ [((bt a0 x369) == (95 : Int)) = false, (decide ((bt a0 x369) ≥ (65 : Int))) = false, (decide ((bt a0 x369) ≥ (97 : Int))) = true, (decide ((bt a0 x369) ≤ (122 : Int))) = false, (decide (x369 > (0 : Int))) = true, (decide ((bt a0 x369) ≥ (48 : Int))) = true] (by kernel_rfl) ⟨by exact c388, by exact c389, by exact c397, by exact c398, by exact c399, by exact c400, trivial⟩ ?_
                        obtain rfl := Option.some.inj H
                        exact Exists.intro _ (And.intro (fun _ _ h => h.conv (inv := []) (vk := []) (e0 := []) (t := ⟨[(0, sV a0), (3, iV .i64 x369), (5, bV (decide ((bt a0 x369) ≤ (57 : Int))))], [], 0⟩) (by kernel_rfl)) (And.intro rfl rfl))
                      · replace H := (ifF c400).symm.trans H
                        refine reg hP hn hm [(2, .b false), (5, .b false), (13, .b true), (18, .b false), (21, .b true), (25, .b false)] [0, 3, 5, 26, 27, 28, 31, 34, 35, 36, 37, 38, 39, 42, 43, 44, 45, 46, 47, 48, 51] [] ⟨[(0, sV a0), (3, iV .i64 x369), (5, bV false), (26, iV .u8 (bt a0 x369)), (27, bV (decide ((bt a0 x369) ≥ (65 : Int)))), (28, bV false), (31, bV false), (34, iV .u8 (bt a0 x369)), (35, bV (decide ((bt a0 x369) ≥ (97 : Int)))), (36, bV true), (37, iV .u8 (bt a0 x369)), (38, bV (decide ((bt a0 x369) ≤ (122 : Int)))), (39, bV (decide ((bt a0 x369) ≤ (122 : Int)))), (42, iV .i64 x369), (43, bV (decide (x369 > (0 : Int)))), (44, bV true), (45, iV .u8 (bt a0 x369)), (46, bV (decide ((bt a0 x369) ≥ (48 : Int)))), (47, bV (decide ((bt a0 x369) ≥ (48 : Int)))), (48, bV false), (51, bV false)], [], 0⟩ [((bt a0 x369) == (95 : Int)) = false, (decide ((bt a0 x369) ≥ (65 : Int))) = false, (decide ((bt a0 x369) ≥ (97 : Int))) = true, (decide ((bt a0 x369) ≤ (122 : Int))) = false, (decide (x369 > (0 : Int))) = true, (decide ((bt a0 x369) ≥ (48 : Int))) = false] (by kernel_rfl) ⟨by exact c388, by exact c389, by exact c397, by exact c398, by exact c399, by exact c400, trivial⟩ ?_
                        obtain rfl := Option.some.inj H
                        exact Exists.intro _ (And.intro (fun _ _ h => h.conv (inv := []) (vk := []) (e0 := []) (t := ⟨[(0, sV a0), (3, iV .i64 x369), (5, bV false)], [], 0⟩) (by kernel_rfl)) (And.intro rfl rfl))
                    · replace H := (ifF c399).symm.trans H
                      refine reg hP hn hm [(2, .b false), (5, .b false), (13, .b true), (18, .b false), (21, .b false)] [0, 3, 5, 26, 27, 28, 31, 34, 35, 36, 37, 38, 39, 42, 43, 44, 47, 48, 51] [] ⟨[(0, sV a0), (3, iV .i64 x369), (5, bV false), (26, iV .u8 (bt a0 x369)), (27, bV (decide ((bt a0 x369) ≥ (65 : Int)))), (28, bV false), (31, bV false), (34, iV .u8 (bt a0 x369)), (35, bV (decide ((bt a0 x369) ≥ (97 : Int)))), (36, bV true), (37, iV .u8 (bt a0 x369)), (38, bV (decide ((bt a0 x369) ≤ (122 : Int)))), (39, bV (decide ((bt a0 x369) ≤ (122 : Int)))), (42, iV .i64 x369), (43, bV (decide (x369 > (0 : Int)))), (44, bV false), (47, bV false), (48, bV false), (51, bV false)], [], 0⟩ [((bt a0 x369) == (95 : Int)) = false, (decide ((bt a0 x369) ≥ (65 : Int))) = false, (decide ((bt a0 x369) ≥ (97 : Int))) = true, (decide ((bt a0 x369) ≤ (122 : Int))) = false, (decide (x369 > (0 : Int))) = false] (by kernel_rfl) ⟨by exact c388, by exact c389, by exact c397, by exact c398, by exact c399, trivial⟩ ?_
                      obtain rfl := Option.some.inj H
                      exact Exists.intro _ (And.intro (fun _ _ h => h.conv (inv := []) (vk := []) (e0 := []) (t := ⟨[(0, sV a0), (3, iV .i64 x369), (5, bV false)], [], 0⟩) (by kernel_rfl)) (And.intro rfl rfl))
                · replace H := (ifF c397).symm.trans H
                  rcases Bool.eq_false_or_eq_true (decide (x369 > (0 : Int))) with c401 | c401
                  · replace H := (ifT c401).symm.trans H
                    rcases Bool.eq_false_or_eq_true (decide ((bt a0 x369) ≥ (48 : Int))) with c402 | c402
                    · replace H := (ifT c402).symm.trans H
                      refine reg hP hn hm [(2, .b false), (5, .b false), (13, .b false), (21, .b true), (25, .b true)] [0, 3, 5, 26, 27, 28, 31, 34, 35, 36, 39, 42, 43, 44, 45, 46, 47, 48, 49, 50, 51] [] ⟨[(0, sV a0), (3, iV .i64 x369), (5, bV (decide ((bt a0 x369) ≤ (57 : Int)))), (26, iV .u8 (bt a0 x369)), (27, bV (decide ((bt a0 x369) ≥ (65 : Int)))), (28, bV false), (31, bV false), (34, iV .u8 (bt a0 x369)), (35, bV (decide ((bt a0 x369) ≥ (97 : Int)))), (36, bV false), (39, bV false), (42, iV .i64 x369), (43, bV (decide (x369 > (0 : Int)))), (44, bV true), (45, iV .u8 (bt a0 x369)), (46, bV (decide ((bt a0 x369) ≥ (48 : Int)))), (47, bV (decide ((bt a0 x369) ≥ (48 : Int)))), (48, bV true), (49, iV .u8 (bt a0 x369)), (50, bV (decide ((bt a0 x369) ≤ (57 : Int)))), (51, bV (decide ((bt a0 x369) ≤ (57 : Int))))], [], 0⟩ [((bt a0 x369) == (95 : Int)) = false, (decide ((bt a0 x369) ≥ (65 : Int))) = false, (decide ((bt a0 x369) ≥ (97 : Int))) = false, (decide (x369 > (0 : Int))) = true, (decide ((bt a0 x369) ≥ (48 : Int))) = true] (by kernel_rfl) ⟨by exact c388, by exact c389, by exact c397, by exact c401, by exact c402, trivial⟩ ?_
                      obtain rfl := Option.some.inj H
                      exact Exists.intro _ (And.intro (fun _ _ h => h.conv (inv := []) (vk := []) (e0 := []) (t := ⟨[(0, sV a0), (3, iV .i64 x369), (5, bV (decide ((bt a0 x369) ≤ (57 : Int))))], [], 0⟩) (by kernel_rfl)) (And.intro rfl rfl))
                    · replace H := (ifF c402).symm.trans H
                      refine reg hP hn hm [(2, .b false), (5, .b false), (13, .b false), (21, .b true), (25, .b false)] [0, 3, 5, 26, 27, 28, 31, 34, 35, 36, 39, 42, 43, 44, 45, 46, 47, 48, 51] [] ⟨[(0, sV a0), (3, iV .i64 x369), (5, bV false), (26, iV .u8 (bt a0 x369)), (27, bV (decide ((bt a0 x369) ≥ (65 : Int)))), (28, bV false), (31, bV false), (34, iV .u8 (bt a0 x369)), (35, bV (decide ((bt a0 x369) ≥ (97 : Int)))), (36, bV false), (39, bV false), (42, iV .i64 x369), (43, bV (decide (x369 > (0 : Int)))), (44, bV true), (45, iV .u8 (bt a0 x369)), (46, bV (decide ((bt a0 x369) ≥ (48 : Int)))), (47, bV (decide ((bt a0 x369) ≥ (48 : Int)))), (48, bV false), (51, bV false)], [], 0⟩ [((bt a0 x369) == (95 : Int)) = false, (decide ((bt a0 x369) ≥ (65 : Int))) = false, (decide ((bt a0 x369) ≥ (97 : Int))) = false, (decide (x369 > (0 : Int))) = true, (decide ((bt a0 x369) ≥ (48 : Int))) = false] (by kernel_rfl) ⟨by exact c388, by exact c389, by exact c397, by exact c401, by exact c402, trivial⟩ ?_
                      obtain rfl := Option.some.inj H
                      exact Exists.intro _ (And.intro (fun _ _ h => h.conv (inv := []) (vk := []) (e0 := []) (t := ⟨[(0, sV a0), (3, iV .i64 x369), (5, bV false)], [], 0⟩) (by kernel_rfl)) (And.intro rfl rfl))
                  · replace H := (ifF c401).symm.trans H
                    refine reg hP hn hm [(2, .b false), (5, .b false), (13, .b false), (21, .b false)] [0, 3, 5, 26, 27, 28, 31, 34, 35, 36, 39, 42, 43, 44, 47, 48, 51] [] ⟨[(0, sV a0), (3, iV .i64 x369), (5, bV false), (26, iV .u8 (bt a0 x369)), (27, bV (decide ((bt a0 x369) ≥ (65 : Int)))), (28, bV false), (31, bV false), (34, iV .u8 (bt a0 x369)), (35, bV (decide ((bt a0 x369) ≥ (97 : Int)))), (36, bV false), (39, bV false), (42, iV .i64 x369), (43, bV (decide (x369 > (0 : Int)))), (44, bV false), (47, bV false), (48, bV false), (51, bV false)], [], 0⟩ [((bt a0 x369) == (95 : Int)) = false, (decide ((bt a0 x369) ≥ (65 : Int))) = false, (decide ((bt a0 x369) ≥ (97 : Int))) = false, (decide (x369 > (0 : Int))) = false] (by kernel_rfl) ⟨by exact c388, by exact c389, by exact c397, by exact c401, trivial⟩ ?_
                    obtain rfl := Option.some.inj H
                    exact Exists.intro _ (And.intro (fun _ _ h => h.conv (inv := []) (vk := []) (e0 := []) (t := ⟨[(0, sV a0), (3, iV .i64 x369), (5, bV false)], [], 0⟩) (by kernel_rfl)) (And.intro rfl rfl))
          · obtain ⟨x403, rfl⟩ : ∃ z, z = o409 := ⟨_, rfl⟩
            rintro e s ⟨rfl, rfl⟩
            refine AWp.seq ?_
            refine reg hP hn hm [] [0, 3, 54] [] ⟨[(0, sV a0), (3, iV .i64 x369), (54, bV (!x403))], [], 0⟩ [] (by kernel_rfl) trivial ?_
            refine AWp.cond (!x403) rfl (fun c404 => ?_) (fun c404 => ?_)
            · replace H := (ifT c404).symm.trans H
              refine AWp.seq ?_
              refine reg hP hn hm [] [2] [] ⟨[(2, bV false)], [], 0⟩ [] (by kernel_rfl) trivial ?_
              refine AWp.conv (inv := []) (vk := []) (e0 := []) (t := ⟨[(2, bV false)], [], 0⟩) (by kernel_rfl) ?_
              refine AWp.ret ?_
              obtain rfl := Option.some.inj H
              exact Exists.intro _ (And.intro (fun _ _ h => h) (And.intro rfl (And.intro rfl (And.intro (by kernel_rfl) (by kernel_rfl)))))
            · replace H := (ifF c404).symm.trans H
              refine AWp.skip ?_
              refine reg hP hn hm [] [0, 3] [] ⟨[(0, sV a0), (3, iV .i64 (IntKind.i64.wrap (x369 + (1 : Int))))], [], 0⟩ [] (by kernel_rfl) trivial ?_
              exact LWp.conv (inv := []) (vk := []) (e0 := []) (t := ⟨[(0, sV a0), (3, iV .i64 (IntKind.i64.wrap (x369 + (1 : Int))))], [], 0⟩) (by kernel_rfl) (ih _ _ H)
        · replace H := (ifF c370).symm.trans H
          refine AWp.exit ?_
          obtain rfl := Option.some.inj H
          exact Exists.intro _ (And.intro (fun _ _ h => h.conv (inv := []) (vk := []) (e0 := []) (t := ⟨[], [], 0⟩) (by kernel_rfl)) (And.intro rfl rfl))
      · rcases o407 with rr | _
        · skip
          rintro e s ⟨rfl, hfl, hres⟩
          obtain rfl := Option.some.inj H
          exact Exists.intro _ (And.intro (fun _ _ h => h) (And.intro (.inl rfl) (And.intro hfl hres)))
        · skip
          rintro e s ⟨rfl, rfl⟩
          refine AWp.seq ?_
          refine reg hP hn hm [] [2] [] ⟨[(2, bV true)], [], 0⟩ [] (by kernel_rfl) trivial ?_
          refine AWp.conv (inv := []) (vk := []) (e0 := []) (t := ⟨[(2, bV true)], [], 0⟩) (by kernel_rfl) ?_
          refine AWp.ret ?_
          obtain rfl := Option.some.inj H
          exact Exists.intro _ (And.intro (fun _ _ h => h) (And.intro (.inl rfl) (And.intro rfl (And.intro (by kernel_rfl) (by kernel_rfl)))))
def f_pluvialref10_Check.l0 (a0 : List TLabel) (x424 : Int) : Option (Int ⊕ Unit) := if (decide (x424 < (a0.length : Int))) = true then ((((at? a0 x424) >>= fun b433 => (f_pluvialref10_Name.f b433.f0) >>= fun t436 => if (!t436) = true then (some true) else (if (decide ((b433.f1.size : Int) < (1 : Int))) = true then (some true) else (some (decide ((b433.f1.size : Int) > (64 : Int)))))) : Option (Bool)) >>= fun x440 => if x440 = true then (some (.inl 26)) else (((if (decide (x424 > (0 : Int))) = true then ((at? a0 (IntKind.i64.wrap (x424 - (1 : Int)))) >>= fun b450 => (at? a0 x424) >>= fun b453 => some (!(Op.bytesLess b450.f0.toList b453.f0.toList))) else (some false)) : Option (Bool)) >>= fun x456 => if x456 = true then (some (.inl 26)) else (f_pluvialref10_Check.l0 a0 (IntKind.i64.wrap (x424 + (1 : Int)))))) else (some (.inr ()))
partial_fixpoint
def f_pluvialref10_Check.f (a0 : List TLabel) : Option (Int) := if (decide ((a0.length : Int) > (16 : Int))) = true then (some 9) else ((f_pluvialref10_Check.l0 a0 0) >>= fun oo => match oo with | .inl rr => (some rr) | .inr _ => (some 0))
theorem f_pluvialref10_Check.ok (a0 : List TLabel) (r : Int) (H : f_pluvialref10_Check.f a0 = some r) : Pv.Fn Try.prog 21 [.im (.row (a0.map eLabel))] [] 0 (fun x o => x = iV .i64 r ∧ o = []) := by
  unfold f_pluvialref10_Check.f at H
  refine Fn.bodyK [] Try.func21 rfl rfl (fun Γ hP hn => ?_)
  have hm : Try.prog.follows .mixedOrders = true := by kernel_rfl
  replace hn : Γ.n = 55 := hn
  refine AWp.seq ?_
  refine reg hP hn hm [] [0] [] ⟨[(0, .im (.row (a0.map eLabel)))], [], 0⟩ [] (by kernel_rfl) trivial ?_
  refine AWp.seq ?_
  refine AWp.seq ?_
  refine reg hP hn hm [(1, .any (iV .i64 (a0.length : Int)))] [0, 6] [] ⟨[(0, .im (.row (a0.map eLabel))), (6, bV (decide ((a0.length : Int) > (16 : Int))))], [], 0⟩ [((a0.map eLabel).length : Int) = (a0.length : Int)] (by kernel_rfl) ⟨by rw [len_map], trivial⟩ ?_
  refine AWp.cond (decide ((a0.length : Int) > (16 : Int))) rfl (fun c341 => ?_) (fun c341 => ?_)
  · replace H := (ifT c341).symm.trans H
    refine AWp.seq ?_
    refine reg hP hn hm [] [2] [] ⟨[(2, iV .i64 9)], [], 0⟩ [] (by kernel_rfl) trivial ?_
    refine AWp.conv (inv := []) (vk := []) (e0 := []) (t := ⟨[(2, iV .i64 9)], [], 0⟩) (by kernel_rfl) ?_
    refine AWp.ret ?_
    obtain rfl := Option.some.inj H
    exact Exists.intro _ (And.intro (fun _ _ h => h) (And.intro (.inl rfl) (And.intro rfl (And.intro (by kernel_rfl) (by kernel_rfl)))))
  · replace H := (ifF c341).symm.trans H
    refine AWp.skip ?_
    refine AWp.seq ?_
    refine AWp.seq ?_
    refine reg hP hn hm [] [0, 3] [] ⟨[(0, .im (.row (a0.map eLabel))), (3, iV .i64 0)], [], 0⟩ [] (by kernel_rfl) trivial ?_
    refine AWp.block ?_
    obtain ⟨o458, e459, H⟩ := bind_of H
    refine AWp.loop (LWp.conv (inv := []) (vk := []) (e0 := []) (t := ⟨[(0, .im (.row (a0.map eLabel))), (3, iV .i64 0)], [], 0⟩) (by kernel_rfl) ?_)
    refine LWp.mono (Q := fun e s => (match (generalizing := false) o458 with | .inl rr => e = .ret ∧ s.floor = 0 ∧ resOf Try.prog Try.f21 s = some (iV .i64 rr) ∧ ([] : List (Nat × Option MObj)) = [] | .inr _ => e = .exit 0 ∧ s = ⟨[], [], 0⟩)) (LWp.cv (withBody (fun body hbody => ?_))) ?_
    · refine f_pluvialref10_Check.l0.partial_correctness a0 (motive := fun x424 o458 => LWp Γ body (fun e s => ∃ t, Cv Γ s t ∧ (match (generalizing := false) o458 with | .inl rr => e = .ret ∧ t.floor = 0 ∧ resOf Try.prog Try.f21 t = some (iV .i64 rr) ∧ ([] : List (Nat × Option MObj)) = [] | .inr _ => e = .exit 0 ∧ t = ⟨[], [], 0⟩)) ⟨[(0, .im (.row (a0.map eLabel))), (3, iV .i64 x424)], [], 0⟩) ?_ _ _ e459
      clear H e459 o458; intro self ih x424 o458 H
      subst hbody
      refine LWp.round ?_
      refine AWp.seq ?_
      refine AWp.seq ?_
      refine reg hP hn hm [(2, .any (iV .i64 (a0.length : Int)))] [0, 3, 10] [] ⟨[(0, .im (.row (a0.map eLabel))), (3, iV .i64 x424), (10, bV (decide (x424 < (a0.length : Int))))], [], 0⟩ [((a0.map eLabel).length : Int) = (a0.length : Int)] (by kernel_rfl) ⟨by rw [len_map], trivial⟩ ?_
      refine AWp.cond (decide (x424 < (a0.length : Int))) rfl (fun c425 => ?_) (fun c425 => ?_)
      · replace H := (ifT c425).symm.trans H
        refine AWp.skip ?_
        refine AWp.seq ?_
        refine AWp.block ?_
        refine AWp.seq ?_
        refine AWp.seq ?_
        obtain ⟨o460, e461, H⟩ := bind_of H
        refine AWp.mono (Q := fun e s => (match (generalizing := false) o460 with | x440 => e = .normal ∧ s = ⟨[(0, .im (.row (a0.map eLabel))), (3, iV .i64 x424), (37, bV x440)], [], 0⟩)) (AWp.cv ?_) ?_
        · replace H := e461; clear e461
          obtain ⟨b433, p434, q435, H⟩ := at_of H
          obtain ⟨t436, e437, H⟩ := bind_of H
          rcases Bool.eq_false_or_eq_true (!t436) with c438 | c438
          · replace H := (ifT c438).symm.trans H
            refine reg hP hn hm [(2, .c (eLabel b433)), (5, .call [] [] [] [] 0 (bV t436) []), (7, .b true)] [0, 3, 37] [] ⟨[(0, .im (.row (a0.map eLabel))), (3, iV .i64 x424), (37, bV true)], [], 0⟩ [0 ≤ x424, (a0.map eLabel)[(Int.toNat (x424))]? = some (eLabel b433), Enters Try.prog 50, Pv.Fn Try.prog 50 [sV b433.f0] [] 0 (fun r o => r = bV t436 ∧ o = []), (!t436) = true] (by kernel_rfl) ⟨by exact p434, by exact el_map eLabel q435, by exact Try.call50, by exact f_pluvialref10_Name.ok b433.f0 t436 e437, by exact c438, trivial⟩ ?_
            obtain rfl := Option.some.inj H
            exact Exists.intro _ (And.intro (fun _ _ h => h.conv (inv := []) (vk := []) (e0 := []) (t := ⟨[(0, .im (.row (a0.map eLabel))), (3, iV .i64 x424), (37, bV true)], [], 0⟩) (by kernel_rfl)) (And.intro rfl rfl))
          · replace H := (ifF c438).symm.trans H
            rcases Bool.eq_false_or_eq_true (decide ((b433.f1.size : Int) < (1 : Int))) with c439 | c439
            · replace H := (ifT c439).symm.trans H
              refine reg hP hn hm [(2, .c (eLabel b433)), (5, .call [] [] [] [] 0 (bV t436) []), (7, .b false), (10, .c (eLabel b433)), (16, .b true)] [0, 3, 21, 22, 23, 24, 25, 26, 27, 37] [] ⟨[(0, .im (.row (a0.map eLabel))), (3, iV .i64 x424), (21, .im (.row (a0.map eLabel))), (22, iV .i64 x424), (23, .ip [sI b433.f0, sI b433.f1]), (24, .ip [sI b433.f1]), (25, sV b433.f1), (26, iV .i64 (b433.f1.size : Int)), (27, bV (decide ((b433.f1.size : Int) < (1 : Int)))), (37, bV true)], [], 0⟩ [0 ≤ x424, (a0.map eLabel)[(Int.toNat (x424))]? = some (eLabel b433), Enters Try.prog 50, Pv.Fn Try.prog 50 [sV b433.f0] [] 0 (fun r o => r = bV t436 ∧ o = []), (!t436) = false, 0 ≤ x424, (a0.map eLabel)[(Int.toNat (x424))]? = some (eLabel b433), (decide ((b433.f1.size : Int) < (1 : Int))) = true] (by kernel_rfl) ⟨by exact p434, by exact el_map eLabel q435, by exact Try.call50, by exact f_pluvialref10_Name.ok b433.f0 t436 e437, by exact c438, by exact p434, by exact el_map eLabel q435, by exact c439, trivial⟩ ?_
              obtain rfl := Option.some.inj H
              exact Exists.intro _ (And.intro (fun _ _ h => h.conv (inv := []) (vk := []) (e0 := []) (t := ⟨[(0, .im (.row (a0.map eLabel))), (3, iV .i64 x424), (37, bV true)], [], 0⟩) (by kernel_rfl)) (And.intro rfl rfl))
            · replace H := (ifF c439).symm.trans H
              refine reg hP hn hm [(2, .c (eLabel b433)), (5, .call [] [] [] [] 0 (bV t436) []), (7, .b false), (10, .c (eLabel b433)), (16, .b false), (19, .c (eLabel b433))] [0, 3, 21, 22, 23, 24, 25, 26, 27, 30, 31, 32, 33, 34, 35, 36, 37] [] ⟨[(0, .im (.row (a0.map eLabel))), (3, iV .i64 x424), (21, .im (.row (a0.map eLabel))), (22, iV .i64 x424), (23, .ip [sI b433.f0, sI b433.f1]), (24, .ip [sI b433.f1]), (25, sV b433.f1), (26, iV .i64 (b433.f1.size : Int)), (27, bV (decide ((b433.f1.size : Int) < (1 : Int)))), (30, .im (.row (a0.map eLabel))), (31, iV .i64 x424), (32, .ip [sI b433.f0, sI b433.f1]), (33, .ip [sI b433.f1]), (34, sV b433.f1), (35, iV .i64 (b433.f1.size : Int)), (36, bV (decide ((b433.f1.size : Int) > (64 : Int)))), (37, bV (decide ((b433.f1.size : Int) > (64 : Int))))], [], 0⟩ [0 ≤ x424, (a0.map eLabel)[(Int.toNat (x424))]? = some (eLabel b433), Enters Try.prog 50, Pv.Fn Try.prog 50 [sV b433.f0] [] 0 (fun r o => r = bV t436 ∧ o = []), (!t436) = false, 0 ≤ x424, (a0.map eLabel)[(Int.toNat (x424))]? = some (eLabel b433), (decide ((b433.f1.size : Int) < (1 : Int))) = false, 0 ≤ x424, (a0.map eLabel)[(Int.toNat (x424))]? = some (eLabel b433)] (by kernel_rfl) ⟨by exact p434, by exact el_map eLabel q435, by exact Try.call50, by exact f_pluvialref10_Name.ok b433.f0 t436 e437, by exact c438, by exact p434, by exact el_map eLabel q435, by exact c439, by exact p434, by exact el_map eLabel q435, trivial⟩ ?_
              obtain rfl := Option.some.inj H
              exact Exists.intro _ (And.intro (fun _ _ h => h.conv (inv := []) (vk := []) (e0 := []) (t := ⟨[(0, .im (.row (a0.map eLabel))), (3, iV .i64 x424), (37, bV (decide ((b433.f1.size : Int) > (64 : Int))))], [], 0⟩) (by kernel_rfl)) (And.intro rfl rfl))
        · obtain ⟨x440, rfl⟩ : ∃ z, z = o460 := ⟨_, rfl⟩
          rintro e s ⟨rfl, rfl⟩
          refine AWp.cond x440 rfl (fun c441 => ?_) (fun c441 => ?_)
          · replace H := (ifT c441).symm.trans H
            refine AWp.seq ?_
            refine reg hP hn hm [] [2] [] ⟨[(2, iV .i64 26)], [], 0⟩ [] (by kernel_rfl) trivial ?_
            refine AWp.conv (inv := []) (vk := []) (e0 := []) (t := ⟨[(2, iV .i64 26)], [], 0⟩) (by kernel_rfl) ?_
            refine AWp.ret ?_
            obtain rfl := Option.some.inj H
            exact Exists.intro _ (And.intro (fun _ _ h => h) (And.intro rfl (And.intro rfl (And.intro (by kernel_rfl) (by kernel_rfl)))))
          · replace H := (ifF c441).symm.trans H
            refine AWp.skip ?_
            refine AWp.seq ?_
            obtain ⟨o462, e463, H⟩ := bind_of H
            refine AWp.mono (Q := fun e s => (match (generalizing := false) o462 with | x456 => e = .normal ∧ s = ⟨[(0, .im (.row (a0.map eLabel))), (3, iV .i64 x424), (54, bV x456)], [], 0⟩)) (AWp.cv ?_) ?_
            · replace H := e463; clear e463
              rcases Bool.eq_false_or_eq_true (decide (x424 > (0 : Int))) with c449 | c449
              · replace H := (ifT c449).symm.trans H
                obtain ⟨b450, p451, q452, H⟩ := at_of H
                obtain ⟨b453, p454, q455, H⟩ := at_of H
                refine reg hP hn hm [(2, .b true), (6, .c (eLabel b450)), (11, .c (eLabel b453))] [0, 3, 41, 42, 43, 44, 45, 46, 47, 48, 49, 50, 51, 52, 53, 54] [] ⟨[(0, .im (.row (a0.map eLabel))), (3, iV .i64 x424), (41, .im (.row (a0.map eLabel))), (42, iV .i64 x424), (43, iV .i64 (IntKind.i64.wrap (x424 - (1 : Int)))), (44, .ip [sI b450.f0, sI b450.f1]), (45, .ip [sI b450.f0, sI b450.f1]), (46, sV b450.f0), (47, .im (.row (a0.map eLabel))), (48, iV .i64 x424), (49, .ip [sI b453.f0, sI b453.f1]), (50, .ip [sI b453.f0, sI b453.f1]), (51, sV b453.f0), (52, bV (Op.bytesLess b450.f0.toList b453.f0.toList)), (53, bV (!(Op.bytesLess b450.f0.toList b453.f0.toList))), (54, bV (!(Op.bytesLess b450.f0.toList b453.f0.toList)))], [], 0⟩ [(decide (x424 > (0 : Int))) = true, 0 ≤ (IntKind.i64.wrap (x424 - (1 : Int))), (a0.map eLabel)[(Int.toNat (IntKind.i64.wrap (x424 - (1 : Int))))]? = some (eLabel b450), 0 ≤ x424, (a0.map eLabel)[(Int.toNat (x424))]? = some (eLabel b453)] (by kernel_rfl) ⟨by exact c449, by exact p451, by exact el_map eLabel q452, by exact p454, by exact el_map eLabel q455, trivial⟩ ?_
                obtain rfl := Option.some.inj H
                exact Exists.intro _ (And.intro (fun _ _ h => h.conv (inv := []) (vk := []) (e0 := []) (t := ⟨[(0, .im (.row (a0.map eLabel))), (3, iV .i64 x424), (54, bV (!(Op.bytesLess b450.f0.toList b453.f0.toList)))], [], 0⟩) (by kernel_rfl)) (And.intro rfl rfl))
              · replace H := (ifF c449).symm.trans H
                refine reg hP hn hm [(2, .b false)] [0, 3, 54] [] ⟨[(0, .im (.row (a0.map eLabel))), (3, iV .i64 x424), (54, bV false)], [], 0⟩ [(decide (x424 > (0 : Int))) = false] (by kernel_rfl) ⟨by exact c449, trivial⟩ ?_
                obtain rfl := Option.some.inj H
                exact Exists.intro _ (And.intro (fun _ _ h => h.conv (inv := []) (vk := []) (e0 := []) (t := ⟨[(0, .im (.row (a0.map eLabel))), (3, iV .i64 x424), (54, bV false)], [], 0⟩) (by kernel_rfl)) (And.intro rfl rfl))
            · obtain ⟨x456, rfl⟩ : ∃ z, z = o462 := ⟨_, rfl⟩
              rintro e s ⟨rfl, rfl⟩
              refine AWp.cond x456 rfl (fun c457 => ?_) (fun c457 => ?_)
              · replace H := (ifT c457).symm.trans H
                refine AWp.seq ?_
                refine reg hP hn hm [] [2] [] ⟨[(2, iV .i64 26)], [], 0⟩ [] (by kernel_rfl) trivial ?_
                refine AWp.conv (inv := []) (vk := []) (e0 := []) (t := ⟨[(2, iV .i64 26)], [], 0⟩) (by kernel_rfl) ?_
                refine AWp.ret ?_
                obtain rfl := Option.some.inj H
                exact Exists.intro _ (And.intro (fun _ _ h => h) (And.intro rfl (And.intro rfl (And.intro (by kernel_rfl) (by kernel_rfl)))))
              · replace H := (ifF c457).symm.trans H
                refine AWp.skip ?_
                refine reg hP hn hm [] [0, 3] [] ⟨[(0, .im (.row (a0.map eLabel))), (3, iV .i64 (IntKind.i64.wrap (x424 + (1 : Int))))], [], 0⟩ [] (by kernel_rfl) trivial ?_
                exact LWp.conv (inv := []) (vk := []) (e0 := []) (t := ⟨[(0, .im (.row (a0.map eLabel))), (3, iV .i64 (IntKind.i64.wrap (x424 + (1 : Int))))], [], 0⟩) (by kernel_rfl) (ih _ _ H)
      · replace H := (ifF c425).symm.trans H
        refine AWp.exit ?_
        obtain rfl := Option.some.inj H
        exact Exists.intro _ (And.intro (fun _ _ h => h.conv (inv := []) (vk := []) (e0 := []) (t := ⟨[], [], 0⟩) (by kernel_rfl)) (And.intro rfl rfl))
    · rcases o458 with rr | _
      · skip
        rintro e s ⟨rfl, hfl, hres⟩
        obtain rfl := Option.some.inj H
        exact Exists.intro _ (And.intro (fun _ _ h => h) (And.intro (.inl rfl) (And.intro hfl hres)))
      · skip
        rintro e s ⟨rfl, rfl⟩
        refine AWp.seq ?_
        refine reg hP hn hm [] [2] [] ⟨[(2, iV .i64 0)], [], 0⟩ [] (by kernel_rfl) trivial ?_
        refine AWp.conv (inv := []) (vk := []) (e0 := []) (t := ⟨[(2, iV .i64 0)], [], 0⟩) (by kernel_rfl) ?_
        refine AWp.ret ?_
        obtain rfl := Option.some.inj H
        exact Exists.intro _ (And.intro (fun _ _ h => h) (And.intro (.inl rfl) (And.intro rfl (And.intro (by kernel_rfl) (by kernel_rfl)))))
def f_cmp_isNaN_string.f (a0 : ByteArray) : Option (Unit) := some ()
theorem f_cmp_isNaN_string.ok (a0 : ByteArray) (r : Unit) (H : f_cmp_isNaN_string.f a0 = some r) : Pv.Fn Try.prog 87 [sV a0] [] 0 (fun x o => x = bV (!(a0.toList == a0.toList)) ∧ o = []) := by
  unfold f_cmp_isNaN_string.f at H
  refine Fn.bodyK [] Try.func87 rfl rfl (fun Γ hP hn => ?_)
  have hm : Try.prog.follows .mixedOrders = true := by kernel_rfl
  replace hn : Γ.n = 6 := hn
  refine AWp.seq ?_
  refine reg hP hn hm [] [0] [] ⟨[(0, sV a0)], [], 0⟩ [] (by kernel_rfl) trivial ?_
  refine AWp.seq ?_
  refine reg hP hn hm [] [2] [] ⟨[(2, bV (!(a0.toList == a0.toList)))], [], 0⟩ [] (by kernel_rfl) trivial ?_
  refine AWp.conv (inv := []) (vk := []) (e0 := []) (t := ⟨[(2, bV (!(a0.toList == a0.toList)))], [], 0⟩) (by kernel_rfl) ?_
  refine AWp.ret ?_
  obtain rfl := Option.some.inj H
  exact Exists.intro _ (And.intro (fun _ _ h => h) (And.intro (.inl rfl) (And.intro rfl (And.intro (by kernel_rfl) (by kernel_rfl)))))
def f_cmp_Compare_string.f (a0 : ByteArray) (a1 : ByteArray) : Option (Int) := (f_cmp_isNaN_string.f a0) >>= fun t483 => (f_cmp_isNaN_string.f a1) >>= fun t487 => if (!(a0.toList == a0.toList)) = true then (if (!(a1.toList == a1.toList)) = true then (some 0) else (some (-1))) else (if (!(a1.toList == a1.toList)) = true then (some 1) else (if (Op.bytesLess a0.toList a1.toList) = true then (some (-1)) else (if (!(Op.bytesLess a0.toList a1.toList || a0.toList == a1.toList)) = true then (some 1) else (some 0))))
theorem f_cmp_Compare_string.ok (a0 : ByteArray) (a1 : ByteArray) (r : Int) (H : f_cmp_Compare_string.f a0 a1 = some r) : Pv.Fn Try.prog 68 [sV a0, sV a1] [] 0 (fun x o => x = iV .i64 r ∧ o = []) := by
  unfold f_cmp_Compare_string.f at H
  refine Fn.bodyK [] Try.func68 rfl rfl (fun Γ hP hn => ?_)
  have hm : Try.prog.follows .mixedOrders = true := by kernel_rfl
  replace hn : Γ.n = 20 := hn
  refine AWp.seq ?_
  refine reg hP hn hm [] [0, 1] [] ⟨[(0, sV a0), (1, sV a1)], [], 0⟩ [] (by kernel_rfl) trivial ?_
  refine AWp.seq ?_
  obtain ⟨t483, e484, H⟩ := bind_of H
  refine reg hP hn hm [(1, .call [] [] [] [] 0 (bV (!(a0.toList == a0.toList))) [])] [0, 1, 5] [] ⟨[(0, sV a0), (1, sV a1), (5, bV (!(a0.toList == a0.toList)))], [], 0⟩ [Enters Try.prog 87, Pv.Fn Try.prog 87 [sV a0] [] 0 (fun r o => r = bV (!(a0.toList == a0.toList)) ∧ o = [])] (by kernel_rfl) ⟨by exact Try.call87, by exact f_cmp_isNaN_string.ok a0 t483 e484, trivial⟩ ?_
  refine AWp.seq ?_
  obtain ⟨t487, e488, H⟩ := bind_of H
  refine reg hP hn hm [(1, .call [] [] [] [] 0 (bV (!(a1.toList == a1.toList))) [])] [0, 1, 5, 6] [] ⟨[(0, sV a0), (1, sV a1), (5, bV (!(a0.toList == a0.toList))), (6, bV (!(a1.toList == a1.toList)))], [], 0⟩ [Enters Try.prog 87, Pv.Fn Try.prog 87 [sV a1] [] 0 (fun r o => r = bV (!(a1.toList == a1.toList)) ∧ o = [])] (by kernel_rfl) ⟨by exact Try.call87, by exact f_cmp_isNaN_string.ok a1 t487 e488, trivial⟩ ?_
  refine AWp.seq ?_
  refine AWp.seq ?_
  refine reg hP hn hm [] [0, 1, 6, 11] [] ⟨[(0, sV a0), (1, sV a1), (6, bV (!(a1.toList == a1.toList))), (11, bV (!(a0.toList == a0.toList)))], [], 0⟩ [] (by kernel_rfl) trivial ?_
  refine AWp.cond (!(a0.toList == a0.toList)) rfl (fun c489 => ?_) (fun c489 => ?_)
  · replace H := (ifT c489).symm.trans H
    refine AWp.seq ?_
    refine AWp.seq ?_
    refine reg hP hn hm [] [12] [] ⟨[(12, bV (!(a1.toList == a1.toList)))], [], 0⟩ [] (by kernel_rfl) trivial ?_
    refine AWp.cond (!(a1.toList == a1.toList)) rfl (fun c490 => ?_) (fun c490 => ?_)
    · replace H := (ifT c490).symm.trans H
      refine AWp.seq ?_
      refine reg hP hn hm [] [4] [] ⟨[(4, iV .i64 0)], [], 0⟩ [] (by kernel_rfl) trivial ?_
      refine AWp.conv (inv := []) (vk := []) (e0 := []) (t := ⟨[(4, iV .i64 0)], [], 0⟩) (by kernel_rfl) ?_
      refine AWp.ret ?_
      obtain rfl := Option.some.inj H
      exact Exists.intro _ (And.intro (fun _ _ h => h) (And.intro (.inl rfl) (And.intro rfl (And.intro (by kernel_rfl) (by kernel_rfl)))))
    · replace H := (ifF c490).symm.trans H
      refine AWp.skip ?_
      refine AWp.seq ?_
      refine reg hP hn hm [] [4] [] ⟨[(4, iV .i64 (-1))], [], 0⟩ [] (by kernel_rfl) trivial ?_
      refine AWp.conv (inv := []) (vk := []) (e0 := []) (t := ⟨[(4, iV .i64 (-1))], [], 0⟩) (by kernel_rfl) ?_
      refine AWp.ret ?_
      obtain rfl := Option.some.inj H
      exact Exists.intro _ (And.intro (fun _ _ h => h) (And.intro (.inl rfl) (And.intro rfl (And.intro (by kernel_rfl) (by kernel_rfl)))))
  · replace H := (ifF c489).symm.trans H
    refine AWp.skip ?_
    refine AWp.seq ?_
    refine AWp.seq ?_
    refine reg hP hn hm [] [0, 1, 13] [] ⟨[(0, sV a0), (1, sV a1), (13, bV (!(a1.toList == a1.toList)))], [], 0⟩ [] (by kernel_rfl) trivial ?_
    refine AWp.cond (!(a1.toList == a1.toList)) rfl (fun c491 => ?_) (fun c491 => ?_)
    · replace H := (ifT c491).symm.trans H
      refine AWp.seq ?_
      refine reg hP hn hm [] [4] [] ⟨[(4, iV .i64 1)], [], 0⟩ [] (by kernel_rfl) trivial ?_
      refine AWp.conv (inv := []) (vk := []) (e0 := []) (t := ⟨[(4, iV .i64 1)], [], 0⟩) (by kernel_rfl) ?_
      refine AWp.ret ?_
      obtain rfl := Option.some.inj H
      exact Exists.intro _ (And.intro (fun _ _ h => h) (And.intro (.inl rfl) (And.intro rfl (And.intro (by kernel_rfl) (by kernel_rfl)))))
    · replace H := (ifF c491).symm.trans H
      refine AWp.skip ?_
      refine AWp.seq ?_
      refine AWp.seq ?_
      refine reg hP hn hm [] [0, 1, 16] [] ⟨[(0, sV a0), (1, sV a1), (16, bV (Op.bytesLess a0.toList a1.toList))], [], 0⟩ [] (by kernel_rfl) trivial ?_
      refine AWp.cond (Op.bytesLess a0.toList a1.toList) rfl (fun c492 => ?_) (fun c492 => ?_)
      · replace H := (ifT c492).symm.trans H
        refine AWp.seq ?_
        refine reg hP hn hm [] [4] [] ⟨[(4, iV .i64 (-1))], [], 0⟩ [] (by kernel_rfl) trivial ?_
        refine AWp.conv (inv := []) (vk := []) (e0 := []) (t := ⟨[(4, iV .i64 (-1))], [], 0⟩) (by kernel_rfl) ?_
        refine AWp.ret ?_
        obtain rfl := Option.some.inj H
        exact Exists.intro _ (And.intro (fun _ _ h => h) (And.intro (.inl rfl) (And.intro rfl (And.intro (by kernel_rfl) (by kernel_rfl)))))
      · replace H := (ifF c492).symm.trans H
        refine AWp.skip ?_
        refine AWp.seq ?_
        refine AWp.seq ?_
        refine reg hP hn hm [] [19] [] ⟨[(19, bV (!(Op.bytesLess a0.toList a1.toList || a0.toList == a1.toList)))], [], 0⟩ [] (by kernel_rfl) trivial ?_
        refine AWp.cond (!(Op.bytesLess a0.toList a1.toList || a0.toList == a1.toList)) rfl (fun c493 => ?_) (fun c493 => ?_)
        · replace H := (ifT c493).symm.trans H
          refine AWp.seq ?_
          refine reg hP hn hm [] [4] [] ⟨[(4, iV .i64 1)], [], 0⟩ [] (by kernel_rfl) trivial ?_
          refine AWp.conv (inv := []) (vk := []) (e0 := []) (t := ⟨[(4, iV .i64 1)], [], 0⟩) (by kernel_rfl) ?_
          refine AWp.ret ?_
          obtain rfl := Option.some.inj H
          exact Exists.intro _ (And.intro (fun _ _ h => h) (And.intro (.inl rfl) (And.intro rfl (And.intro (by kernel_rfl) (by kernel_rfl)))))
        · replace H := (ifF c493).symm.trans H
          refine AWp.skip ?_
          refine AWp.seq ?_
          refine reg hP hn hm [] [4] [] ⟨[(4, iV .i64 0)], [], 0⟩ [] (by kernel_rfl) trivial ?_
          refine AWp.conv (inv := []) (vk := []) (e0 := []) (t := ⟨[(4, iV .i64 0)], [], 0⟩) (by kernel_rfl) ?_
          refine AWp.ret ?_
          obtain rfl := Option.some.inj H
          exact Exists.intro _ (And.intro (fun _ _ h => h) (And.intro (.inl rfl) (And.intro rfl (And.intro (by kernel_rfl) (by kernel_rfl)))))
def f_cmp_Or_int.l0 (a0 : List Int) (x506 : Int) : Option (Int ⊕ Unit) := if (decide (x506 < (a0.length : Int))) = true then ((at? a0 x506) >>= fun b511 => if (b511 != (0 : Int)) = true then (some (.inl b511)) else (f_cmp_Or_int.l0 a0 (IntKind.i64.wrap (x506 + (1 : Int))))) else (some (.inr ()))
partial_fixpoint
def f_cmp_Or_int.f (a0 : List Int) : Option (Int) := (f_cmp_Or_int.l0 a0 0) >>= fun oo => match oo with | .inl rr => (some rr) | .inr _ => (some 0)
theorem f_cmp_Or_int.ok (a0 : List Int) (r : Int) (H : f_cmp_Or_int.f a0 = some r) : Pv.Fn Try.prog 67 [.im (.row (a0.map (encInt .i64)))] [] 0 (fun x o => x = iV .i64 r ∧ o = []) := by
  unfold f_cmp_Or_int.f at H
  refine Fn.bodyK [] Try.func67 rfl rfl (fun Γ hP hn => ?_)
  have hm : Try.prog.follows .mixedOrders = true := by kernel_rfl
  replace hn : Γ.n = 18 := hn
  refine AWp.seq ?_
  refine reg hP hn hm [] [0] [] ⟨[(0, .im (.row (a0.map (encInt .i64))))], [], 0⟩ [] (by kernel_rfl) trivial ?_
  refine AWp.seq ?_
  refine reg hP hn hm [] [0, 3] [] ⟨[(0, .im (.row (a0.map (encInt .i64)))), (3, iV .i64 0)], [], 0⟩ [] (by kernel_rfl) trivial ?_
  refine AWp.seq ?_
  refine AWp.seq ?_
  refine reg hP hn hm [(1, .any (iV .i64 (a0.length : Int)))] [3, 6, 7, 8] [] ⟨[(3, iV .i64 0), (6, .im (.row (a0.map (encInt .i64)))), (7, iV .i64 (a0.length : Int)), (8, iV .i64 0)], [], 0⟩ [((a0.map (encInt .i64)).length : Int) = (a0.length : Int)] (by kernel_rfl) ⟨by rw [len_map], trivial⟩ ?_
  refine AWp.block ?_
  obtain ⟨o515, e516, H⟩ := bind_of H
  refine AWp.loop (LWp.conv (inv := []) (vk := []) (e0 := []) (t := ⟨[(3, iV .i64 0), (6, .im (.row (a0.map (encInt .i64)))), (7, iV .i64 (a0.length : Int)), (8, iV .i64 0)], [], 0⟩) (by kernel_rfl) ?_)
  refine LWp.mono (Q := fun e s => (match (generalizing := false) o515 with | .inl rr => e = .ret ∧ s.floor = 0 ∧ resOf Try.prog Try.f67 s = some (iV .i64 rr) ∧ ([] : List (Nat × Option MObj)) = [] | .inr _ => e = .exit 0 ∧ s = ⟨[(3, iV .i64 0)], [], 0⟩)) (LWp.cv (withBody (fun body hbody => ?_))) ?_
  · refine f_cmp_Or_int.l0.partial_correctness a0 (motive := fun x506 o515 => LWp Γ body (fun e s => ∃ t, Cv Γ s t ∧ (match (generalizing := false) o515 with | .inl rr => e = .ret ∧ t.floor = 0 ∧ resOf Try.prog Try.f67 t = some (iV .i64 rr) ∧ ([] : List (Nat × Option MObj)) = [] | .inr _ => e = .exit 0 ∧ t = ⟨[(3, iV .i64 0)], [], 0⟩)) ⟨[(3, iV .i64 0), (6, .im (.row (a0.map (encInt .i64)))), (7, iV .i64 (a0.length : Int)), (8, iV .i64 x506)], [], 0⟩) ?_ _ _ e516
    clear H e516 o515; intro self ih x506 o515 H
    subst hbody
    refine LWp.round ?_
    refine AWp.seq ?_
    refine reg hP hn hm [] [3, 6, 7, 8, 9] [] ⟨[(3, iV .i64 0), (6, .im (.row (a0.map (encInt .i64)))), (7, iV .i64 (a0.length : Int)), (8, iV .i64 x506), (9, bV (decide (x506 < (a0.length : Int))))], [], 0⟩ [] (by kernel_rfl) trivial ?_
    refine AWp.seq ?_
    refine AWp.cond (decide (x506 < (a0.length : Int))) rfl (fun c507 => ?_) (fun c507 => ?_)
    · replace H := (ifT c507).symm.trans H
      refine AWp.skip ?_
      refine AWp.seq ?_
      refine AWp.block ?_
      refine AWp.seq ?_
      obtain ⟨b511, p512, q513, H⟩ := at_of H
      refine reg hP hn hm [(0, .c ((encInt .i64) b511))] [3, 5, 6, 7, 8] [] ⟨[(3, iV .i64 0), (5, iV .i64 b511), (6, .im (.row (a0.map (encInt .i64)))), (7, iV .i64 (a0.length : Int)), (8, iV .i64 x506)], [], 0⟩ [0 ≤ x506, (a0.map (encInt .i64))[(Int.toNat (x506))]? = some ((encInt .i64) b511)] (by kernel_rfl) ⟨by exact p512, by exact el_map (encInt .i64) q513, trivial⟩ ?_
      refine AWp.seq ?_
      refine reg hP hn hm [] [3, 5, 6, 7, 8, 14] [] ⟨[(3, iV .i64 0), (5, iV .i64 b511), (6, .im (.row (a0.map (encInt .i64)))), (7, iV .i64 (a0.length : Int)), (8, iV .i64 x506), (14, bV (b511 != (0 : Int)))], [], 0⟩ [] (by kernel_rfl) trivial ?_
      refine AWp.cond (b511 != (0 : Int)) rfl (fun c514 => ?_) (fun c514 => ?_)
      · replace H := (ifT c514).symm.trans H
        refine AWp.seq ?_
        refine reg hP hn hm [] [2] [] ⟨[(2, iV .i64 b511)], [], 0⟩ [] (by kernel_rfl) trivial ?_
        refine AWp.conv (inv := []) (vk := []) (e0 := []) (t := ⟨[(2, iV .i64 b511)], [], 0⟩) (by kernel_rfl) ?_
        refine AWp.ret ?_
        obtain rfl := Option.some.inj H
        exact Exists.intro _ (And.intro (fun _ _ h => h) (And.intro rfl (And.intro rfl (And.intro (by kernel_rfl) (by kernel_rfl)))))
      · replace H := (ifF c514).symm.trans H
        refine AWp.skip ?_
        refine reg hP hn hm [] [3, 6, 7, 8] [] ⟨[(3, iV .i64 0), (6, .im (.row (a0.map (encInt .i64)))), (7, iV .i64 (a0.length : Int)), (8, iV .i64 (IntKind.i64.wrap (x506 + (1 : Int))))], [], 0⟩ [] (by kernel_rfl) trivial ?_
        exact LWp.conv (inv := []) (vk := []) (e0 := []) (t := ⟨[(3, iV .i64 0), (6, .im (.row (a0.map (encInt .i64)))), (7, iV .i64 (a0.length : Int)), (8, iV .i64 (IntKind.i64.wrap (x506 + (1 : Int))))], [], 0⟩) (by kernel_rfl) (ih _ _ H)
    · replace H := (ifF c507).symm.trans H
      refine AWp.exit ?_
      obtain rfl := Option.some.inj H
      exact Exists.intro _ (And.intro (fun _ _ h => h.conv (inv := []) (vk := []) (e0 := []) (t := ⟨[(3, iV .i64 0)], [], 0⟩) (by kernel_rfl)) (And.intro rfl rfl))
  · rcases o515 with rr | _
    · skip
      rintro e s ⟨rfl, hfl, hres⟩
      obtain rfl := Option.some.inj H
      exact Exists.intro _ (And.intro (fun _ _ h => h) (And.intro (.inl rfl) (And.intro hfl hres)))
    · skip
      rintro e s ⟨rfl, rfl⟩
      refine AWp.seq ?_
      refine reg hP hn hm [] [2] [] ⟨[(2, iV .i64 0)], [], 0⟩ [] (by kernel_rfl) trivial ?_
      refine AWp.conv (inv := []) (vk := []) (e0 := []) (t := ⟨[(2, iV .i64 0)], [], 0⟩) (by kernel_rfl) ?_
      refine AWp.ret ?_
      obtain rfl := Option.some.inj H
      exact Exists.intro _ (And.intro (fun _ _ h => h) (And.intro (.inl rfl) (And.intro rfl (And.intro (by kernel_rfl) (by kernel_rfl)))))
def f_label_Compare_1.f (a0 : TLabel) (a1 : TLabel) : Option (Int) := (f_cmp_Compare_string.f a0.f0 a1.f0) >>= fun t519 => (f_cmp_Compare_string.f a0.f1 a1.f1) >>= fun t521 => (f_cmp_Or_int.f [t519, t521]) >>= fun t523 => some t523
theorem f_label_Compare_1.ok (a0 : TLabel) (a1 : TLabel) (r : Int) (H : f_label_Compare_1.f a0 a1 = some r) : Pv.Fn Try.prog 66 [.agg (aLabel a0), .agg (aLabel a1)] [] 0 (fun x o => x = iV .i64 r ∧ o = []) := by
  unfold f_label_Compare_1.f at H
  refine Fn.bodyK [] Try.func66 rfl rfl (fun Γ hP hn => ?_)
  have hm : Try.prog.follows .mixedOrders = true := by kernel_rfl
  replace hn : Γ.n = 17 := hn
  refine AWp.seq ?_
  refine reg hP hn hm [(0, .k 0), (1, .k 1)] [2, 3] [0, 1] ⟨[(2, .ptr 0 0 0), (3, .ptr 1 0 0)], [(0, some (.box 67 (aLabel a0))), (1, some (.box 67 (aLabel a1)))], 0⟩ [] (by kernel_rfl) trivial ?_
  refine AWp.seq ?_
  obtain ⟨t519, e520, H⟩ := bind_of H
  obtain ⟨t521, e522, H⟩ := bind_of H
  obtain ⟨t523, e524, H⟩ := bind_of H
  refine reg hP hn hm [(4, .call [] [] [] [] 0 (iV .i64 t519) []), (9, .call [] [] [] [] 0 (iV .i64 t521) []), (10, .app 2 ([t519, t521].map (encInt .i64))), (11, .call [] [] [2] [] 0 (iV .i64 t523) [])] [4] [] ⟨[(4, iV .i64 t523)], [], 0⟩ [Enters Try.prog 68, Pv.Fn Try.prog 68 [sV a0.f0, sV a1.f0] [] 0 (fun r o => r = iV .i64 t519 ∧ o = []), Enters Try.prog 68, Pv.Fn Try.prog 68 [sV a0.f1, sV a1.f1] [] 0 (fun r o => r = iV .i64 t521 ∧ o = []), [t519, t521].map (encInt .i64) = [[iI .i64 t519], [iI .i64 t521]], Enters Try.prog 67, Pv.Fn Try.prog 67 [.im (.row ([t519, t521].map (encInt .i64)))] [] 0 (fun r o => r = iV .i64 t523 ∧ o = [])] (by kernel_rfl) ⟨by exact Try.call68, by exact f_cmp_Compare_string.ok a0.f0 a1.f0 t519 e520, by exact Try.call68, by exact f_cmp_Compare_string.ok a0.f1 a1.f1 t521 e522, by exact rfl, by exact Try.call67, by exact f_cmp_Or_int.ok [t519, t521] t523 e524, trivial⟩ ?_
  refine AWp.conv (inv := []) (vk := []) (e0 := []) (t := ⟨[(4, iV .i64 t523)], [], 0⟩) (by kernel_rfl) ?_
  refine AWp.ret ?_
  obtain rfl := Option.some.inj H
  exact Exists.intro _ (And.intro (fun _ _ h => h) (And.intro (.inl rfl) (And.intro rfl (And.intro (by kernel_rfl) (by kernel_rfl)))))
def f_slices_CompareFunc_api_Label_label_Compare_1.l0 (a0 : List TLabel) (a1 : List TLabel) (x530 : Int) : Option (Int ⊕ Unit) := if (decide (x530 < (a0.length : Int))) = true then ((at? a0 x530) >>= fun b535 => if (decide (x530 ≥ (a1.length : Int))) = true then (some (.inl 1)) else ((at? a1 x530) >>= fun b542 => (f_label_Compare_1.f b535 b542) >>= fun t547 => if (t547 != (0 : Int)) = true then (some (.inl t547)) else (f_slices_CompareFunc_api_Label_label_Compare_1.l0 a0 a1 (IntKind.i64.wrap (x530 + (1 : Int)))))) else (some (.inr ()))
partial_fixpoint
def f_slices_CompareFunc_api_Label_label_Compare_1.f (a0 : List TLabel) (a1 : List TLabel) : Option (Int) := (f_slices_CompareFunc_api_Label_label_Compare_1.l0 a0 a1 0) >>= fun oo => match oo with | .inl rr => (some rr) | .inr _ => (if (decide ((a0.length : Int) < (a1.length : Int))) = true then (some (-1)) else (some 0))
theorem f_slices_CompareFunc_api_Label_label_Compare_1.ok (a0 : List TLabel) (a1 : List TLabel) (r : Int) (H : f_slices_CompareFunc_api_Label_label_Compare_1.f a0 a1 = some r) : Pv.Fn Try.prog 65 [.im (.row (a0.map eLabel)), .im (.row (a1.map eLabel)), .im (.sc (.func (.func 66) #[] #[]))] [] 0 (fun x o => x = iV .i64 r ∧ o = []) := by
  unfold f_slices_CompareFunc_api_Label_label_Compare_1.f at H
  refine Fn.bodyK [] Try.func65 rfl rfl (fun Γ hP hn => ?_)
  have hm : Try.prog.follows .mixedOrders = true := by kernel_rfl
  replace hn : Γ.n = 39 := hn
  refine AWp.seq ?_
  refine reg hP hn hm [] [0, 1, 2] [] ⟨[(0, .im (.row (a0.map eLabel))), (1, .im (.row (a1.map eLabel))), (2, .im (.sc (.func (.func 66) #[] #[])))], [], 0⟩ [] (by kernel_rfl) trivial ?_
  refine AWp.seq ?_
  refine AWp.seq ?_
  refine reg hP hn hm [(1, .any (iV .i64 (a0.length : Int)))] [0, 1, 2, 11, 12, 13] [] ⟨[(0, .im (.row (a0.map eLabel))), (1, .im (.row (a1.map eLabel))), (2, .im (.sc (.func (.func 66) #[] #[]))), (11, .im (.row (a0.map eLabel))), (12, iV .i64 (a0.length : Int)), (13, iV .i64 0)], [], 0⟩ [((a0.map eLabel).length : Int) = (a0.length : Int)] (by kernel_rfl) ⟨by rw [len_map], trivial⟩ ?_
  refine AWp.block ?_
  obtain ⟨o551, e552, H⟩ := bind_of H
  refine AWp.loop (LWp.conv (inv := []) (vk := []) (e0 := []) (t := ⟨[(0, .im (.row (a0.map eLabel))), (1, .im (.row (a1.map eLabel))), (2, .im (.sc (.func (.func 66) #[] #[]))), (11, .im (.row (a0.map eLabel))), (12, iV .i64 (a0.length : Int)), (13, iV .i64 0)], [], 0⟩) (by kernel_rfl) ?_)
  refine LWp.mono (Q := fun e s => (match (generalizing := false) o551 with | .inl rr => e = .ret ∧ s.floor = 0 ∧ resOf Try.prog Try.f65 s = some (iV .i64 rr) ∧ ([] : List (Nat × Option MObj)) = [] | .inr _ => e = .exit 0 ∧ s = ⟨[(0, .im (.row (a0.map eLabel))), (1, .im (.row (a1.map eLabel)))], [], 0⟩)) (LWp.cv (withBody (fun body hbody => ?_))) ?_
  · refine f_slices_CompareFunc_api_Label_label_Compare_1.l0.partial_correctness a0 a1 (motive := fun x530 o551 => LWp Γ body (fun e s => ∃ t, Cv Γ s t ∧ (match (generalizing := false) o551 with | .inl rr => e = .ret ∧ t.floor = 0 ∧ resOf Try.prog Try.f65 t = some (iV .i64 rr) ∧ ([] : List (Nat × Option MObj)) = [] | .inr _ => e = .exit 0 ∧ t = ⟨[(0, .im (.row (a0.map eLabel))), (1, .im (.row (a1.map eLabel)))], [], 0⟩)) ⟨[(0, .im (.row (a0.map eLabel))), (1, .im (.row (a1.map eLabel))), (2, .im (.sc (.func (.func 66) #[] #[]))), (11, .im (.row (a0.map eLabel))), (12, iV .i64 (a0.length : Int)), (13, iV .i64 x530)], [], 0⟩) ?_ _ _ e552
    clear H e552 o551; intro self ih x530 o551 H
    subst hbody
    refine LWp.round ?_
    refine AWp.seq ?_
    refine reg hP hn hm [] [0, 1, 2, 11, 12, 13, 14] [] ⟨[(0, .im (.row (a0.map eLabel))), (1, .im (.row (a1.map eLabel))), (2, .im (.sc (.func (.func 66) #[] #[]))), (11, .im (.row (a0.map eLabel))), (12, iV .i64 (a0.length : Int)), (13, iV .i64 x530), (14, bV (decide (x530 < (a0.length : Int))))], [], 0⟩ [] (by kernel_rfl) trivial ?_
    refine AWp.seq ?_
    refine AWp.cond (decide (x530 < (a0.length : Int))) rfl (fun c531 => ?_) (fun c531 => ?_)
    · replace H := (ifT c531).symm.trans H
      refine AWp.skip ?_
      refine AWp.seq ?_
      refine AWp.block ?_
      refine AWp.seq ?_
      obtain ⟨b535, p536, q537, H⟩ := at_of H
      refine reg hP hn hm [(1, .c (eLabel b535)), (3, .k 2)] [0, 1, 2, 7, 8, 11, 12, 13] [2] ⟨[(0, .im (.row (a0.map eLabel))), (1, .im (.row (a1.map eLabel))), (2, .im (.sc (.func (.func 66) #[] #[]))), (7, iV .i64 x530), (8, .ptr 2 0 0), (11, .im (.row (a0.map eLabel))), (12, iV .i64 (a0.length : Int)), (13, iV .i64 x530)], [(2, some (.box 67 (aLabel b535)))], 0⟩ [0 ≤ x530, (a0.map eLabel)[(Int.toNat (x530))]? = some (eLabel b535)] (by kernel_rfl) ⟨by exact p536, by exact el_map eLabel q537, trivial⟩ ?_
      refine AWp.seq ?_
      refine AWp.seq ?_
      refine reg hP hn hm [(2, .any (iV .i64 (a1.length : Int)))] [0, 1, 2, 7, 8, 11, 12, 13, 21] [2] ⟨[(0, .im (.row (a0.map eLabel))), (1, .im (.row (a1.map eLabel))), (2, .im (.sc (.func (.func 66) #[] #[]))), (7, iV .i64 x530), (8, .ptr 2 0 0), (11, .im (.row (a0.map eLabel))), (12, iV .i64 (a0.length : Int)), (13, iV .i64 x530), (21, bV (decide (x530 ≥ (a1.length : Int))))], [(2, some (.box 67 (aLabel b535)))], 0⟩ [((a1.map eLabel).length : Int) = (a1.length : Int)] (by kernel_rfl) ⟨by rw [len_map], trivial⟩ ?_
      refine AWp.cond (decide (x530 ≥ (a1.length : Int))) rfl (fun c538 => ?_) (fun c538 => ?_)
      · replace H := (ifT c538).symm.trans H
        refine AWp.seq ?_
        refine reg hP hn hm [] [6] [] ⟨[(6, iV .i64 1)], [], 0⟩ [] (by kernel_rfl) trivial ?_
        refine AWp.conv (inv := []) (vk := []) (e0 := []) (t := ⟨[(6, iV .i64 1)], [], 0⟩) (by kernel_rfl) ?_
        refine AWp.ret ?_
        obtain rfl := Option.some.inj H
        exact Exists.intro _ (And.intro (fun _ _ h => h) (And.intro rfl (And.intro rfl (And.intro (by kernel_rfl) (by kernel_rfl)))))
      · replace H := (ifF c538).symm.trans H
        refine AWp.skip ?_
        refine AWp.seq ?_
        obtain ⟨b542, p543, q544, H⟩ := at_of H
        refine reg hP hn hm [(2, .c (eLabel b542)), (4, .k 3)] [0, 1, 2, 8, 9, 11, 12, 13] [2, 3] ⟨[(0, .im (.row (a0.map eLabel))), (1, .im (.row (a1.map eLabel))), (2, .im (.sc (.func (.func 66) #[] #[]))), (8, .ptr 2 0 0), (9, .ptr 3 0 0), (11, .im (.row (a0.map eLabel))), (12, iV .i64 (a0.length : Int)), (13, iV .i64 x530)], [(2, some (.box 67 (aLabel b535))), (3, some (.box 67 (aLabel b542)))], 0⟩ [0 ≤ x530, (a1.map eLabel)[(Int.toNat (x530))]? = some (eLabel b542)] (by kernel_rfl) ⟨by exact p543, by exact el_map eLabel q544, trivial⟩ ?_
        refine AWp.seq ?_
        obtain ⟨t547, e548, H⟩ := bind_of H
        refine reg hP hn hm [(3, .call [] [] [] [] 0 (iV .i64 t547) [])] [0, 1, 2, 10, 11, 12, 13] [] ⟨[(0, .im (.row (a0.map eLabel))), (1, .im (.row (a1.map eLabel))), (2, .im (.sc (.func (.func 66) #[] #[]))), (10, iV .i64 t547), (11, .im (.row (a0.map eLabel))), (12, iV .i64 (a0.length : Int)), (13, iV .i64 x530)], [], 0⟩ [Enters Try.prog 66, Pv.Fn Try.prog 66 [.agg (aLabel b535), .agg (aLabel b542)] [] 0 (fun r o => r = iV .i64 t547 ∧ o = [])] (by kernel_rfl) ⟨by exact Try.call66, by exact f_label_Compare_1.ok b535 b542 t547 e548, trivial⟩ ?_
        refine AWp.seq ?_
        refine reg hP hn hm [] [0, 1, 2, 10, 11, 12, 13, 31] [] ⟨[(0, .im (.row (a0.map eLabel))), (1, .im (.row (a1.map eLabel))), (2, .im (.sc (.func (.func 66) #[] #[]))), (10, iV .i64 t547), (11, .im (.row (a0.map eLabel))), (12, iV .i64 (a0.length : Int)), (13, iV .i64 x530), (31, bV (t547 != (0 : Int)))], [], 0⟩ [] (by kernel_rfl) trivial ?_
        refine AWp.cond (t547 != (0 : Int)) rfl (fun c549 => ?_) (fun c549 => ?_)
        · replace H := (ifT c549).symm.trans H
          refine AWp.seq ?_
          refine reg hP hn hm [] [6] [] ⟨[(6, iV .i64 t547)], [], 0⟩ [] (by kernel_rfl) trivial ?_
          refine AWp.conv (inv := []) (vk := []) (e0 := []) (t := ⟨[(6, iV .i64 t547)], [], 0⟩) (by kernel_rfl) ?_
          refine AWp.ret ?_
          obtain rfl := Option.some.inj H
          exact Exists.intro _ (And.intro (fun _ _ h => h) (And.intro rfl (And.intro rfl (And.intro (by kernel_rfl) (by kernel_rfl)))))
        · replace H := (ifF c549).symm.trans H
          refine AWp.skip ?_
          refine reg hP hn hm [] [0, 1, 2, 11, 12, 13] [] ⟨[(0, .im (.row (a0.map eLabel))), (1, .im (.row (a1.map eLabel))), (2, .im (.sc (.func (.func 66) #[] #[]))), (11, .im (.row (a0.map eLabel))), (12, iV .i64 (a0.length : Int)), (13, iV .i64 (IntKind.i64.wrap (x530 + (1 : Int))))], [], 0⟩ [] (by kernel_rfl) trivial ?_
          exact LWp.conv (inv := []) (vk := []) (e0 := []) (t := ⟨[(0, .im (.row (a0.map eLabel))), (1, .im (.row (a1.map eLabel))), (2, .im (.sc (.func (.func 66) #[] #[]))), (11, .im (.row (a0.map eLabel))), (12, iV .i64 (a0.length : Int)), (13, iV .i64 (IntKind.i64.wrap (x530 + (1 : Int))))], [], 0⟩) (by kernel_rfl) (ih _ _ H)
    · replace H := (ifF c531).symm.trans H
      refine AWp.exit ?_
      obtain rfl := Option.some.inj H
      exact Exists.intro _ (And.intro (fun _ _ h => h.conv (inv := []) (vk := []) (e0 := []) (t := ⟨[(0, .im (.row (a0.map eLabel))), (1, .im (.row (a1.map eLabel)))], [], 0⟩) (by kernel_rfl)) (And.intro rfl rfl))
  · rcases o551 with rr | _
    · skip
      rintro e s ⟨rfl, hfl, hres⟩
      obtain rfl := Option.some.inj H
      exact Exists.intro _ (And.intro (fun _ _ h => h) (And.intro (.inl rfl) (And.intro hfl hres)))
    · skip
      rintro e s ⟨rfl, rfl⟩
      refine AWp.seq ?_
      refine AWp.seq ?_
      refine reg hP hn hm [(1, .any (iV .i64 (a0.length : Int))), (3, .any (iV .i64 (a1.length : Int)))] [38] [] ⟨[(38, bV (decide ((a0.length : Int) < (a1.length : Int))))], [], 0⟩ [((a0.map eLabel).length : Int) = (a0.length : Int), ((a1.map eLabel).length : Int) = (a1.length : Int)] (by kernel_rfl) ⟨by rw [len_map], by rw [len_map], trivial⟩ ?_
      refine AWp.cond (decide ((a0.length : Int) < (a1.length : Int))) rfl (fun c550 => ?_) (fun c550 => ?_)
      · replace H := (ifT c550).symm.trans H
        refine AWp.seq ?_
        refine reg hP hn hm [] [6] [] ⟨[(6, iV .i64 (-1))], [], 0⟩ [] (by kernel_rfl) trivial ?_
        refine AWp.conv (inv := []) (vk := []) (e0 := []) (t := ⟨[(6, iV .i64 (-1))], [], 0⟩) (by kernel_rfl) ?_
        refine AWp.ret ?_
        obtain rfl := Option.some.inj H
        exact Exists.intro _ (And.intro (fun _ _ h => h) (And.intro (.inl rfl) (And.intro rfl (And.intro (by kernel_rfl) (by kernel_rfl)))))
      · replace H := (ifF c550).symm.trans H
        refine AWp.skip ?_
        refine AWp.seq ?_
        refine reg hP hn hm [] [6] [] ⟨[(6, iV .i64 0)], [], 0⟩ [] (by kernel_rfl) trivial ?_
        refine AWp.conv (inv := []) (vk := []) (e0 := []) (t := ⟨[(6, iV .i64 0)], [], 0⟩) (by kernel_rfl) ?_
        refine AWp.ret ?_
        obtain rfl := Option.some.inj H
        exact Exists.intro _ (And.intro (fun _ _ h => h) (And.intro (.inl rfl) (And.intro rfl (And.intro (by kernel_rfl) (by kernel_rfl)))))
def f_label_Compare.f (a0 : List TLabel) (a1 : List TLabel) : Option (Int) := (f_slices_CompareFunc_api_Label_label_Compare_1.f a0 a1) >>= fun t555 => some t555
theorem f_label_Compare.ok (a0 : List TLabel) (a1 : List TLabel) (r : Int) (H : f_label_Compare.f a0 a1 = some r) : Pv.Fn Try.prog 36 [.im (.row (a0.map eLabel)), .im (.row (a1.map eLabel))] [] 0 (fun x o => x = iV .i64 r ∧ o = []) := by
  unfold f_label_Compare.f at H
  refine Fn.bodyK [] Try.func36 rfl rfl (fun Γ hP hn => ?_)
  have hm : Try.prog.follows .mixedOrders = true := by kernel_rfl
  replace hn : Γ.n = 8 := hn
  refine AWp.seq ?_
  refine reg hP hn hm [] [0, 1] [] ⟨[(0, .im (.row (a0.map eLabel))), (1, .im (.row (a1.map eLabel)))], [], 0⟩ [] (by kernel_rfl) trivial ?_
  refine AWp.seq ?_
  obtain ⟨t555, e556, H⟩ := bind_of H
  refine reg hP hn hm [(2, .call [] [] [] [] 0 (iV .i64 t555) [])] [4] [] ⟨[(4, iV .i64 t555)], [], 0⟩ [Enters Try.prog 65, Pv.Fn Try.prog 65 [.im (.row (a0.map eLabel)), .im (.row (a1.map eLabel)), .im (.sc (.func (.func 66) #[] #[]))] [] 0 (fun r o => r = iV .i64 t555 ∧ o = [])] (by kernel_rfl) ⟨by exact Try.call65, by exact f_slices_CompareFunc_api_Label_label_Compare_1.ok a0 a1 t555 e556, trivial⟩ ?_
  refine AWp.conv (inv := []) (vk := []) (e0 := []) (t := ⟨[(4, iV .i64 t555)], [], 0⟩) (by kernel_rfl) ?_
  refine AWp.ret ?_
  obtain rfl := Option.some.inj H
  exact Exists.intro _ (And.intro (fun _ _ h => h) (And.intro (.inl rfl) (And.intro rfl (And.intro (by kernel_rfl) (by kernel_rfl)))))
def f_pluvialref10_Compare.l0 (a0 : List TLabel) (a1 : List TLabel) (x594 : Int) : Option (Int ⊕ Unit) := ((if (decide (x594 < (a0.length : Int))) = true then (some (decide (x594 < (a1.length : Int)))) else (some false)) : Option (Bool)) >>= fun x597 => if x597 = true then ((((at? a0 x594) >>= fun b607 => (at? a1 x594) >>= fun b610 => if (Op.bytesLess b607.f0.toList b610.f0.toList) = true then (some true) else (if (b607.f0.toList == b610.f0.toList) = true then (some (Op.bytesLess b607.f1.toList b610.f1.toList)) else (some false))) : Option (Bool)) >>= fun x615 => if x615 = true then (some (.inl (-1))) else ((at? a0 x594) >>= fun b623 => (at? a1 x594) >>= fun b626 => if (!((b623.f0.toList == b626.f0.toList) && ((b623.f1.toList == b626.f1.toList) && true))) = true then (some (.inl 1)) else (f_pluvialref10_Compare.l0 a0 a1 (IntKind.i64.wrap (x594 + (1 : Int)))))) else (some (.inr ()))
partial_fixpoint
def f_pluvialref10_Compare.f (a0 : List TLabel) (a1 : List TLabel) : Option (Int) := (f_pluvialref10_Compare.l0 a0 a1 0) >>= fun oo => match oo with | .inl rr => (some rr) | .inr _ => (if (decide ((a0.length : Int) < (a1.length : Int))) = true then (some (-1)) else (if (decide ((a0.length : Int) > (a1.length : Int))) = true then (some 1) else (some 0)))
theorem f_pluvialref10_Compare.ok (a0 : List TLabel) (a1 : List TLabel) (r : Int) (H : f_pluvialref10_Compare.f a0 a1 = some r) : Pv.Fn Try.prog 37 [.im (.row (a0.map eLabel)), .im (.row (a1.map eLabel))] [] 0 (fun x o => x = iV .i64 r ∧ o = []) := by
  unfold f_pluvialref10_Compare.f at H
  refine Fn.bodyK [] Try.func37 rfl rfl (fun Γ hP hn => ?_)
  have hm : Try.prog.follows .mixedOrders = true := by kernel_rfl
  replace hn : Γ.n = 74 := hn
  refine AWp.seq ?_
  refine reg hP hn hm [] [0, 1] [] ⟨[(0, .im (.row (a0.map eLabel))), (1, .im (.row (a1.map eLabel)))], [], 0⟩ [] (by kernel_rfl) trivial ?_
  refine AWp.seq ?_
  refine AWp.seq ?_
  refine reg hP hn hm [] [0, 1, 5] [] ⟨[(0, .im (.row (a0.map eLabel))), (1, .im (.row (a1.map eLabel))), (5, iV .i64 0)], [], 0⟩ [] (by kernel_rfl) trivial ?_
  refine AWp.block ?_
  obtain ⟨o632, e633, H⟩ := bind_of H
  refine AWp.loop (LWp.conv (inv := []) (vk := []) (e0 := []) (t := ⟨[(0, .im (.row (a0.map eLabel))), (1, .im (.row (a1.map eLabel))), (5, iV .i64 0)], [], 0⟩) (by kernel_rfl) ?_)
  refine LWp.mono (Q := fun e s => (match (generalizing := false) o632 with | .inl rr => e = .ret ∧ s.floor = 0 ∧ resOf Try.prog Try.f37 s = some (iV .i64 rr) ∧ ([] : List (Nat × Option MObj)) = [] | .inr _ => e = .exit 0 ∧ s = ⟨[(0, .im (.row (a0.map eLabel))), (1, .im (.row (a1.map eLabel)))], [], 0⟩)) (LWp.cv (withBody (fun body hbody => ?_))) ?_
  · refine f_pluvialref10_Compare.l0.partial_correctness a0 a1 (motive := fun x594 o632 => LWp Γ body (fun e s => ∃ t, Cv Γ s t ∧ (match (generalizing := false) o632 with | .inl rr => e = .ret ∧ t.floor = 0 ∧ resOf Try.prog Try.f37 t = some (iV .i64 rr) ∧ ([] : List (Nat × Option MObj)) = [] | .inr _ => e = .exit 0 ∧ t = ⟨[(0, .im (.row (a0.map eLabel))), (1, .im (.row (a1.map eLabel)))], [], 0⟩)) ⟨[(0, .im (.row (a0.map eLabel))), (1, .im (.row (a1.map eLabel))), (5, iV .i64 x594)], [], 0⟩) ?_ _ _ e633
    clear H e633 o632; intro self ih x594 o632 H
    subst hbody
    refine LWp.round ?_
    refine AWp.seq ?_
    refine AWp.seq ?_
    obtain ⟨o634, e635, H⟩ := bind_of H
    refine AWp.mono (Q := fun e s => (match (generalizing := false) o634 with | x597 => e = .normal ∧ s = ⟨[(0, .im (.row (a0.map eLabel))), (1, .im (.row (a1.map eLabel))), (5, iV .i64 x594), (15, bV x597)], [], 0⟩)) (AWp.cv ?_) ?_
    · replace H := e635; clear e635
      rcases Bool.eq_false_or_eq_true (decide (x594 < (a0.length : Int))) with c596 | c596
      · replace H := (ifT c596).symm.trans H
        refine reg hP hn hm [(2, .any (iV .i64 (a0.length : Int))), (4, .b true), (7, .any (iV .i64 (a1.length : Int)))] [0, 1, 5, 11, 12, 13, 14, 15] [] ⟨[(0, .im (.row (a0.map eLabel))), (1, .im (.row (a1.map eLabel))), (5, iV .i64 x594), (11, iV .i64 x594), (12, .im (.row (a1.map eLabel))), (13, iV .i64 (a1.length : Int)), (14, bV (decide (x594 < (a1.length : Int)))), (15, bV (decide (x594 < (a1.length : Int))))], [], 0⟩ [((a0.map eLabel).length : Int) = (a0.length : Int), (decide (x594 < (a0.length : Int))) = true, ((a1.map eLabel).length : Int) = (a1.length : Int)] (by kernel_rfl) ⟨by rw [len_map], by exact c596, by rw [len_map], trivial⟩ ?_
        obtain rfl := Option.some.inj H
        exact Exists.intro _ (And.intro (fun _ _ h => h.conv (inv := []) (vk := []) (e0 := []) (t := ⟨[(0, .im (.row (a0.map eLabel))), (1, .im (.row (a1.map eLabel))), (5, iV .i64 x594), (15, bV (decide (x594 < (a1.length : Int))))], [], 0⟩) (by kernel_rfl)) (And.intro rfl rfl))
      · replace H := (ifF c596).symm.trans H
        refine reg hP hn hm [(2, .any (iV .i64 (a0.length : Int))), (4, .b false)] [0, 1, 5, 15] [] ⟨[(0, .im (.row (a0.map eLabel))), (1, .im (.row (a1.map eLabel))), (5, iV .i64 x594), (15, bV false)], [], 0⟩ [((a0.map eLabel).length : Int) = (a0.length : Int), (decide (x594 < (a0.length : Int))) = false] (by kernel_rfl) ⟨by rw [len_map], by exact c596, trivial⟩ ?_
        obtain rfl := Option.some.inj H
        exact Exists.intro _ (And.intro (fun _ _ h => h.conv (inv := []) (vk := []) (e0 := []) (t := ⟨[(0, .im (.row (a0.map eLabel))), (1, .im (.row (a1.map eLabel))), (5, iV .i64 x594), (15, bV false)], [], 0⟩) (by kernel_rfl)) (And.intro rfl rfl))
    · obtain ⟨x597, rfl⟩ : ∃ z, z = o634 := ⟨_, rfl⟩
      rintro e s ⟨rfl, rfl⟩
      refine AWp.cond x597 rfl (fun c598 => ?_) (fun c598 => ?_)
      · replace H := (ifT c598).symm.trans H
        refine AWp.skip ?_
        refine AWp.seq ?_
        refine AWp.block ?_
        refine AWp.seq ?_
        refine AWp.seq ?_
        obtain ⟨o636, e637, H⟩ := bind_of H
        refine AWp.mono (Q := fun e s => (match (generalizing := false) o636 with | x615 => e = .normal ∧ s = ⟨[(0, .im (.row (a0.map eLabel))), (1, .im (.row (a1.map eLabel))), (5, iV .i64 x594), (54, bV x615)], [], 0⟩)) (AWp.cv ?_) ?_
        · replace H := e637; clear e637
          obtain ⟨b607, p608, q609, H⟩ := at_of H
          obtain ⟨b610, p611, q612, H⟩ := at_of H
          rcases Bool.eq_false_or_eq_true (Op.bytesLess b607.f0.toList b610.f0.toList) with c613 | c613
          · replace H := (ifT c613).symm.trans H
            refine reg hP hn hm [(2, .c (eLabel b607)), (7, .c (eLabel b610)), (11, .b true)] [0, 1, 5, 54] [] ⟨[(0, .im (.row (a0.map eLabel))), (1, .im (.row (a1.map eLabel))), (5, iV .i64 x594), (54, bV true)], [], 0⟩ [0 ≤ x594, (a0.map eLabel)[(Int.toNat (x594))]? = some (eLabel b607), 0 ≤ x594, (a1.map eLabel)[(Int.toNat (x594))]? = some (eLabel b610), (Op.bytesLess b607.f0.toList b610.f0.toList) = true] (by kernel_rfl) ⟨by exact p608, by exact el_map eLabel q609, by exact p611, by exact el_map eLabel q612, by exact c613, trivial⟩ ?_
            obtain rfl := Option.some.inj H
            exact Exists.intro _ (And.intro (fun _ _ h => h.conv (inv := []) (vk := []) (e0 := []) (t := ⟨[(0, .im (.row (a0.map eLabel))), (1, .im (.row (a1.map eLabel))), (5, iV .i64 x594), (54, bV true)], [], 0⟩) (by kernel_rfl)) (And.intro rfl rfl))
          · replace H := (ifF c613).symm.trans H
            rcases Bool.eq_false_or_eq_true (b607.f0.toList == b610.f0.toList) with c614 | c614
            · replace H := (ifT c614).symm.trans H
              refine reg hP hn hm [(2, .c (eLabel b607)), (7, .c (eLabel b610)), (11, .b false), (14, .c (eLabel b607)), (19, .c (eLabel b610)), (23, .b true), (26, .c (eLabel b607)), (31, .c (eLabel b610))] [0, 1, 5, 30, 31, 32, 33, 34, 35, 36, 37, 38, 39, 40, 41, 42, 43, 44, 45, 46, 47, 48, 49, 50, 51, 52, 53, 54] [] ⟨[(0, .im (.row (a0.map eLabel))), (1, .im (.row (a1.map eLabel))), (5, iV .i64 x594), (30, .im (.row (a0.map eLabel))), (31, iV .i64 x594), (32, .ip [sI b607.f0, sI b607.f1]), (33, .ip [sI b607.f0, sI b607.f1]), (34, sV b607.f0), (35, .im (.row (a1.map eLabel))), (36, iV .i64 x594), (37, .ip [sI b610.f0, sI b610.f1]), (38, .ip [sI b610.f0, sI b610.f1]), (39, sV b610.f0), (40, bV (b607.f0.toList == b610.f0.toList)), (41, bV true), (42, .im (.row (a0.map eLabel))), (43, iV .i64 x594), (44, .ip [sI b607.f0, sI b607.f1]), (45, .ip [sI b607.f1]), (46, sV b607.f1), (47, .im (.row (a1.map eLabel))), (48, iV .i64 x594), (49, .ip [sI b610.f0, sI b610.f1]), (50, .ip [sI b610.f1]), (51, sV b610.f1), (52, bV (Op.bytesLess b607.f1.toList b610.f1.toList)), (53, bV (Op.bytesLess b607.f1.toList b610.f1.toList)), (54, bV (Op.bytesLess b607.f1.toList b610.f1.toList))], [], 0⟩ [0 ≤ x594, (a0.map eLabel)[(Int.toNat (x594))]? = some (eLabel b607), 0 ≤ x594, (a1.map eLabel)[(Int.toNat (x594))]? = some (eLabel b610), (Op.bytesLess b607.f0.toList b610.f0.toList) = false, 0 ≤ x594, (a0.map eLabel)[(Int.toNat (x594))]? = some (eLabel b607), 0 ≤ x594, (a1.map eLabel)[(Int.toNat (x594))]? = some (eLabel b610), (b607.f0.toList == b610.f0.toList) = true, 0 ≤ x594, (a0.map eLabel)[(Int.toNat (x594))]? = some (eLabel b607), 0 ≤ x594, (a1.map eLabel)[(Int.toNat (x594))]? = some (eLabel b610)] (by kernel_rfl) ⟨by exact p608, by exact el_map eLabel q609, by exact p611, by exact el_map eLabel q612, by exact c613, by exact p608, by exact el_map eLabel q609, by exact p611, by exact el_map eLabel q612, by exact c614, by exact p608, by exact el_map eLabel q609, by exact p611, by exact el_map eLabel q612, trivial⟩ ?_
              obtain rfl := Option.some.inj H
              exact Exists.intro _ (And.intro (fun _ _ h => h.conv (inv := []) (vk := []) (e0 := []) (t := ⟨[(0, .im (.row (a0.map eLabel))), (1, .im (.row (a1.map eLabel))), (5, iV .i64 x594), (54, bV (Op.bytesLess b607.f1.toList b610.f1.toList))], [], 0⟩) (by kernel_rfl)) (And.intro rfl rfl))
            · replace H := (ifF c614).symm.trans H
              refine reg hP hn hm [(2, .c (eLabel b607)), (7, .c (eLabel b610)), (11, .b false), (14, .c (eLabel b607)), (19, .c (eLabel b610)), (23, .b false)] [0, 1, 5, 30, 31, 32, 33, 34, 35, 36, 37, 38, 39, 40, 41, 53, 54] [] ⟨[(0, .im (.row (a0.map eLabel))), (1, .im (.row (a1.map eLabel))), (5, iV .i64 x594), (30, .im (.row (a0.map eLabel))), (31, iV .i64 x594), (32, .ip [sI b607.f0, sI b607.f1]), (33, .ip [sI b607.f0, sI b607.f1]), (34, sV b607.f0), (35, .im (.row (a1.map eLabel))), (36, iV .i64 x594), (37, .ip [sI b610.f0, sI b610.f1]), (38, .ip [sI b610.f0, sI b610.f1]), (39, sV b610.f0), (40, bV (b607.f0.toList == b610.f0.toList)), (41, bV false), (53, bV false), (54, bV false)], [], 0⟩ [0 ≤ x594, (a0.map eLabel)[(Int.toNat (x594))]? = some (eLabel b607), 0 ≤ x594, (a1.map eLabel)[(Int.toNat (x594))]? = some (eLabel b610), (Op.bytesLess b607.f0.toList b610.f0.toList) = false, 0 ≤ x594, (a0.map eLabel)[(Int.toNat (x594))]? = some (eLabel b607), 0 ≤ x594, (a1.map eLabel)[(Int.toNat (x594))]? = some (eLabel b610), (b607.f0.toList == b610.f0.toList) = false] (by kernel_rfl) ⟨by exact p608, by exact el_map eLabel q609, by exact p611, by exact el_map eLabel q612, by exact c613, by exact p608, by exact el_map eLabel q609, by exact p611, by exact el_map eLabel q612, by exact c614, trivial⟩ ?_
              obtain rfl := Option.some.inj H
              exact Exists.intro _ (And.intro (fun _ _ h => h.conv (inv := []) (vk := []) (e0 := []) (t := ⟨[(0, .im (.row (a0.map eLabel))), (1, .im (.row (a1.map eLabel))), (5, iV .i64 x594), (54, bV false)], [], 0⟩) (by kernel_rfl)) (And.intro rfl rfl))
        · obtain ⟨x615, rfl⟩ : ∃ z, z = o636 := ⟨_, rfl⟩
          rintro e s ⟨rfl, rfl⟩
          refine AWp.cond x615 rfl (fun c616 => ?_) (fun c616 => ?_)
          · replace H := (ifT c616).symm.trans H
            refine AWp.seq ?_
            refine reg hP hn hm [] [4] [] ⟨[(4, iV .i64 (-1))], [], 0⟩ [] (by kernel_rfl) trivial ?_
            refine AWp.conv (inv := []) (vk := []) (e0 := []) (t := ⟨[(4, iV .i64 (-1))], [], 0⟩) (by kernel_rfl) ?_
            refine AWp.ret ?_
            obtain rfl := Option.some.inj H
            exact Exists.intro _ (And.intro (fun _ _ h => h) (And.intro rfl (And.intro rfl (And.intro (by kernel_rfl) (by kernel_rfl)))))
          · replace H := (ifF c616).symm.trans H
            refine AWp.skip ?_
            refine AWp.seq ?_
            obtain ⟨b623, p624, q625, H⟩ := at_of H
            obtain ⟨b626, p627, q628, H⟩ := at_of H
            refine reg hP hn hm [(2, .c (eLabel b623)), (6, .c (eLabel b626)), (8, .more (xAgg none))] [0, 1, 5, 63] [] ⟨[(0, .im (.row (a0.map eLabel))), (1, .im (.row (a1.map eLabel))), (5, iV .i64 x594), (63, bV (!((b623.f0.toList == b626.f0.toList) && ((b623.f1.toList == b626.f1.toList) && true))))], [], 0⟩ [0 ≤ x594, (a0.map eLabel)[(Int.toNat (x594))]? = some (eLabel b623), 0 ≤ x594, (a1.map eLabel)[(Int.toNat (x594))]? = some (eLabel b626)] (by kernel_rfl) ⟨by exact p624, by exact el_map eLabel q625, by exact p627, by exact el_map eLabel q628, trivial⟩ ?_
            refine AWp.cond (!((b623.f0.toList == b626.f0.toList) && ((b623.f1.toList == b626.f1.toList) && true))) rfl (fun c629 => ?_) (fun c629 => ?_)
            · replace H := (ifT c629).symm.trans H
              refine AWp.seq ?_
              refine reg hP hn hm [] [4] [] ⟨[(4, iV .i64 1)], [], 0⟩ [] (by kernel_rfl) trivial ?_
              refine AWp.conv (inv := []) (vk := []) (e0 := []) (t := ⟨[(4, iV .i64 1)], [], 0⟩) (by kernel_rfl) ?_
              refine AWp.ret ?_
              obtain rfl := Option.some.inj H
              exact Exists.intro _ (And.intro (fun _ _ h => h) (And.intro rfl (And.intro rfl (And.intro (by kernel_rfl) (by kernel_rfl)))))
            · replace H := (ifF c629).symm.trans H
              refine AWp.skip ?_
              refine reg hP hn hm [] [0, 1, 5] [] ⟨[(0, .im (.row (a0.map eLabel))), (1, .im (.row (a1.map eLabel))), (5, iV .i64 (IntKind.i64.wrap (x594 + (1 : Int))))], [], 0⟩ [] (by kernel_rfl) trivial ?_
              exact LWp.conv (inv := []) (vk := []) (e0 := []) (t := ⟨[(0, .im (.row (a0.map eLabel))), (1, .im (.row (a1.map eLabel))), (5, iV .i64 (IntKind.i64.wrap (x594 + (1 : Int))))], [], 0⟩) (by kernel_rfl) (ih _ _ H)
      · replace H := (ifF c598).symm.trans H
        refine AWp.exit ?_
        obtain rfl := Option.some.inj H
        exact Exists.intro _ (And.intro (fun _ _ h => h.conv (inv := []) (vk := []) (e0 := []) (t := ⟨[(0, .im (.row (a0.map eLabel))), (1, .im (.row (a1.map eLabel)))], [], 0⟩) (by kernel_rfl)) (And.intro rfl rfl))
  · rcases o632 with rr | _
    · skip
      rintro e s ⟨rfl, hfl, hres⟩
      obtain rfl := Option.some.inj H
      exact Exists.intro _ (And.intro (fun _ _ h => h) (And.intro (.inl rfl) (And.intro hfl hres)))
    · skip
      rintro e s ⟨rfl, rfl⟩
      refine AWp.seq ?_
      refine AWp.seq ?_
      refine reg hP hn hm [(1, .any (iV .i64 (a0.length : Int))), (3, .any (iV .i64 (a1.length : Int)))] [0, 1, 68] [] ⟨[(0, .im (.row (a0.map eLabel))), (1, .im (.row (a1.map eLabel))), (68, bV (decide ((a0.length : Int) < (a1.length : Int))))], [], 0⟩ [((a0.map eLabel).length : Int) = (a0.length : Int), ((a1.map eLabel).length : Int) = (a1.length : Int)] (by kernel_rfl) ⟨by rw [len_map], by rw [len_map], trivial⟩ ?_
      refine AWp.cond (decide ((a0.length : Int) < (a1.length : Int))) rfl (fun c630 => ?_) (fun c630 => ?_)
      · replace H := (ifT c630).symm.trans H
        refine AWp.seq ?_
        refine reg hP hn hm [] [4] [] ⟨[(4, iV .i64 (-1))], [], 0⟩ [] (by kernel_rfl) trivial ?_
        refine AWp.conv (inv := []) (vk := []) (e0 := []) (t := ⟨[(4, iV .i64 (-1))], [], 0⟩) (by kernel_rfl) ?_
        refine AWp.ret ?_
        obtain rfl := Option.some.inj H
        exact Exists.intro _ (And.intro (fun _ _ h => h) (And.intro (.inl rfl) (And.intro rfl (And.intro (by kernel_rfl) (by kernel_rfl)))))
      · replace H := (ifF c630).symm.trans H
        refine AWp.skip ?_
        refine AWp.seq ?_
        refine AWp.seq ?_
        refine reg hP hn hm [(1, .any (iV .i64 (a0.length : Int))), (3, .any (iV .i64 (a1.length : Int)))] [73] [] ⟨[(73, bV (decide ((a0.length : Int) > (a1.length : Int))))], [], 0⟩ [((a0.map eLabel).length : Int) = (a0.length : Int), ((a1.map eLabel).length : Int) = (a1.length : Int)] (by kernel_rfl) ⟨by rw [len_map], by rw [len_map], trivial⟩ ?_
        refine AWp.cond (decide ((a0.length : Int) > (a1.length : Int))) rfl (fun c631 => ?_) (fun c631 => ?_)
        · replace H := (ifT c631).symm.trans H
          refine AWp.seq ?_
          refine reg hP hn hm [] [4] [] ⟨[(4, iV .i64 1)], [], 0⟩ [] (by kernel_rfl) trivial ?_
          refine AWp.conv (inv := []) (vk := []) (e0 := []) (t := ⟨[(4, iV .i64 1)], [], 0⟩) (by kernel_rfl) ?_
          refine AWp.ret ?_
          obtain rfl := Option.some.inj H
          exact Exists.intro _ (And.intro (fun _ _ h => h) (And.intro (.inl rfl) (And.intro rfl (And.intro (by kernel_rfl) (by kernel_rfl)))))
        · replace H := (ifF c631).symm.trans H
          refine AWp.skip ?_
          refine AWp.seq ?_
          refine reg hP hn hm [] [4] [] ⟨[(4, iV .i64 0)], [], 0⟩ [] (by kernel_rfl) trivial ?_
          refine AWp.conv (inv := []) (vk := []) (e0 := []) (t := ⟨[(4, iV .i64 0)], [], 0⟩) (by kernel_rfl) ?_
          refine AWp.ret ?_
          obtain rfl := Option.some.inj H
          exact Exists.intro _ (And.intro (fun _ _ h => h) (And.intro (.inl rfl) (And.intro rfl (And.intro (by kernel_rfl) (by kernel_rfl)))))
def f_slices_Clone_api_Label.f (a0 : List TLabel) : Option (List TLabel) := (chk ((([] : List TLabel).length + a0.length) * 32 ≤ 140737488355328)) >>= fun _ => some a0
theorem f_slices_Clone_api_Label.ok (a0 r : List TLabel) (H : f_slices_Clone_api_Label.f a0 = some r) : Pv.Fn Try.prog 70 [.im (.row (a0.map eLabel))] [] 0 (fun x o => x = .own 0 ∧ o = [(0, some (.row 2 67 (r.map eLabel)))]) := by
  unfold f_slices_Clone_api_Label.f at H
  obtain ⟨c1, H⟩ := chk_of H
  obtain rfl := Option.some.inj H
  refine Fn.bodyK [0] Try.func70 rfl rfl (fun Γ hP hn => ?_)
  have hm : Try.prog.follows .mixedOrders = true := by kernel_rfl
  replace hn : Γ.n = 8 := hn
  refine AWp.seq ?_
  refine reg hP hn hm [] [0, 2] [] ⟨[(0, .im (.row (a0.map eLabel))), (2, .none0)], [], 0⟩ [] (by kernel_rfl) trivial ?_
  refine AWp.seq ?_
  cases a0 with
  | nil =>
    refine AWp.nilSplit 0 rfl (fun b m => ?_)
    refine AWp.seq ?_
    cases b with
    | none =>
      refine reg hP hn hm [(1, .more xNil)] [2, 4] [] ⟨[(2, .none0), (4, bV true)], [], 0⟩ [] (by kernel_rfl) trivial ?_
      refine AWp.cond true rfl (fun _ => ?_) (fun h => nomatch h)
      refine AWp.seq ?_
      refine reg hP hn hm [] [2] [] ⟨[(2, .none0)], [], 0⟩ [] (by kernel_rfl) trivial ?_
      refine AWp.conv (inv := []) (vk := []) (e0 := [0]) (t := ⟨[(2, .own 0)], [(0, some (.row 2 67 []))], 0⟩) (by kernel_rfl) ?_
      refine AWp.ret ?_
      exact Exists.intro _ (And.intro (fun _ _ h => h) (And.intro (.inl rfl) (And.intro rfl (And.intro (by kernel_rfl) (by kernel_rfl)))))
    | some b =>
      refine reg hP hn hm [(1, .more xNil)] [0, 2, 4] [] ⟨[(0, .im (.sc (.slice (some b) 0 m))), (2, .none0), (4, bV false)], [], 0⟩ [] (by kernel_rfl) trivial ?_
      refine AWp.cond false rfl (fun h => nomatch h) (fun _ => ?_)
      refine AWp.skip ?_
      refine AWp.unsplit 0 rfl ?_
      refine AWp.seq ?_
      refine reg hP hn hm [(0, .app 0 ([] : List (List Im))), (2, .app 1 (([] : List TLabel).map eLabel))] [2] [1] ⟨[(2, .own 1)], [(1, some (.row 2 67 (([] : List TLabel).map eLabel)))], 0⟩ [([] : List (List Im)) = [], ([] : List TLabel).map eLabel = ([] : List (List Im)) ++ ([] : List TLabel).map eLabel, ∀ c ∈ ([] : List TLabel).map eLabel, c.length = 2, ∀ c ∈ ([] : List TLabel).map eLabel, leaves (c.map .im) = true, (([] : List (List Im)).length + (([] : List TLabel).map eLabel).length) * 32 ≤ 140737488355328] (by kernel_rfl) ⟨rfl, by simp, by exact all_len _ _ _ (fun _ => rfl), by exact all_leaf _ _ (fun _ => rfl), by simpa using c1, trivial⟩ ?_
      refine AWp.conv (inv := [(1, 0)]) (vk := []) (e0 := []) (t := ⟨[(2, .own 0)], [(0, some (.row 2 67 (([] : List TLabel).map eLabel)))], 0⟩) (by kernel_rfl) ?_
      refine AWp.ret ?_
      exact Exists.intro _ (And.intro (fun _ _ h => h) (And.intro (.inl rfl) (And.intro rfl (And.intro (by kernel_rfl) (by kernel_rfl)))))
  | cons y l =>
    refine AWp.seq ?_
    refine reg hP hn hm [(1, .more xNil)] [0, 2, 4] [] ⟨[(0, .im (.row ((y :: l).map eLabel))), (2, .none0), (4, bV false)], [], 0⟩ [] (by kernel_rfl) trivial ?_
    refine AWp.cond false rfl (fun h => nomatch h) (fun _ => ?_)
    refine AWp.skip ?_
    refine AWp.seq ?_
    refine reg hP hn hm [(0, .app 0 ([] : List (List Im))), (2, .app 1 ((y :: l).map eLabel))] [2] [1] ⟨[(2, .own 1)], [(1, some (.row 2 67 ((y :: l).map eLabel)))], 0⟩ [([] : List (List Im)) = [], (y :: l).map eLabel = ([] : List (List Im)) ++ (y :: l).map eLabel, ∀ c ∈ (y :: l).map eLabel, c.length = 2, ∀ c ∈ (y :: l).map eLabel, leaves (c.map .im) = true, (([] : List (List Im)).length + ((y :: l).map eLabel).length) * 32 ≤ 140737488355328] (by kernel_rfl) ⟨rfl, by simp, by exact all_len _ _ _ (fun _ => rfl), by exact all_leaf _ _ (fun _ => rfl), by simpa using c1, trivial⟩ ?_
    refine AWp.conv (inv := [(1, 0)]) (vk := []) (e0 := []) (t := ⟨[(2, .own 0)], [(0, some (.row 2 67 ((y :: l).map eLabel)))], 0⟩) (by kernel_rfl) ?_
    refine AWp.ret ?_
    exact Exists.intro _ (And.intro (fun _ _ h => h) (And.intro (.inl rfl) (And.intro rfl (And.intro (by kernel_rfl) (by kernel_rfl)))))
def f_label_Make_1.f (a0 : TLabel) : Option (Unit) := some ()
theorem f_label_Make_1.ok (a0 : TLabel) (r : Unit) (H : f_label_Make_1.f a0 = some r) : Pv.Fn Try.prog 71 [.agg (aLabel a0)] [] 0 (fun x o => x = bV (a0.f1.toList == (⟨#[]⟩ : ByteArray).toList) ∧ o = []) := by
  unfold f_label_Make_1.f at H
  refine Fn.bodyK [] Try.func71 rfl rfl (fun Γ hP hn => ?_)
  have hm : Try.prog.follows .mixedOrders = true := by kernel_rfl
  replace hn : Γ.n = 6 := hn
  refine AWp.seq ?_
  refine reg hP hn hm [(0, .k 0)] [1] [0] ⟨[(1, .ptr 0 0 0)], [(0, some (.box 67 (aLabel a0)))], 0⟩ [] (by kernel_rfl) trivial ?_
  refine AWp.seq ?_
  refine reg hP hn hm [] [2] [] ⟨[(2, bV (a0.f1.toList == (⟨#[]⟩ : ByteArray).toList))], [], 0⟩ [] (by kernel_rfl) trivial ?_
  refine AWp.conv (inv := []) (vk := []) (e0 := []) (t := ⟨[(2, bV (a0.f1.toList == (⟨#[]⟩ : ByteArray).toList))], [], 0⟩) (by kernel_rfl) ?_
  refine AWp.ret ?_
  obtain rfl := Option.some.inj H
  exact Exists.intro _ (And.intro (fun _ _ h => h) (And.intro (.inl rfl) (And.intro rfl (And.intro (by kernel_rfl) (by kernel_rfl)))))
def f_slices_IndexFunc_api_Label_label_Make_1.l0 (a0 : List TLabel) (x665 : Int) : Option (Int ⊕ Unit) := if (decide (x665 < (a0.length : Int))) = true then ((at? a0 x665) >>= fun b672 => (f_label_Make_1.f b672) >>= fun t675 => if (b672.f1.toList == (⟨#[]⟩ : ByteArray).toList) = true then (some (.inl x665)) else (f_slices_IndexFunc_api_Label_label_Make_1.l0 a0 (IntKind.i64.wrap (x665 + (1 : Int))))) else (some (.inr ()))
partial_fixpoint
def f_slices_IndexFunc_api_Label_label_Make_1.f (a0 : List TLabel) : Option (Int) := (f_slices_IndexFunc_api_Label_label_Make_1.l0 a0 0) >>= fun oo => match oo with | .inl rr => (some rr) | .inr _ => (some (-1))
theorem f_slices_IndexFunc_api_Label_label_Make_1.ok (a0 : List TLabel) (r : Int) (H : f_slices_IndexFunc_api_Label_label_Make_1.f a0 = some r) : Pv.Fn Try.prog 88 [.own 0, .im (.sc (.func (.func 71) #[] #[]))] [(0, some (.row 2 67 (a0.map eLabel)))] 1 (fun x o => x = iV .i64 r ∧ o = [(0, some (.row 2 67 (a0.map eLabel)))]) := by
  unfold f_slices_IndexFunc_api_Label_label_Make_1.f at H
  refine Fn.bodyK [0] Try.func88 rfl rfl (fun Γ hP hn => ?_)
  have hm : Try.prog.follows .mixedOrders = true := by kernel_rfl
  replace hn : Γ.n = 19 := hn
  refine AWp.seq ?_
  refine reg hP hn hm [] [0, 1] [0] ⟨[(0, .own 0), (1, .im (.sc (.func (.func 71) #[] #[])))], [(0, some (.row 2 67 (a0.map eLabel)))], 1⟩ [] (by kernel_rfl) trivial ?_
  refine AWp.seq ?_
  refine AWp.seq ?_
  refine reg hP hn hm [(1, .any (iV .i64 (a0.length : Int)))] [0, 1, 7, 8] [0] ⟨[(0, .own 0), (1, .im (.sc (.func (.func 71) #[] #[]))), (7, iV .i64 (a0.length : Int)), (8, iV .i64 0)], [(0, some (.row 2 67 (a0.map eLabel)))], 1⟩ [((a0.map eLabel).length : Int) = (a0.length : Int)] (by kernel_rfl) ⟨by rw [len_map], trivial⟩ ?_
  refine AWp.block ?_
  obtain ⟨o678, e679, H⟩ := bind_of H
  refine AWp.loop (LWp.conv (inv := [(0, 0)]) (vk := []) (e0 := []) (t := ⟨[(0, .own 0), (1, .im (.sc (.func (.func 71) #[] #[]))), (7, iV .i64 (a0.length : Int)), (8, iV .i64 0)], [(0, some (.row 2 67 (a0.map eLabel)))], 1⟩) (by kernel_rfl) ?_)
  refine LWp.mono (Q := fun e s => (match (generalizing := false) o678 with | .inl rr => e = .ret ∧ s.floor = 1 ∧ resOf Try.prog Try.f88 s = some (iV .i64 rr) ∧ ([(0, s.obj 0)] : List (Nat × Option MObj)) = [(0, some (.row 2 67 (a0.map eLabel)))] | .inr _ => e = .exit 0 ∧ s = ⟨[], [(0, some (.row 2 67 (a0.map eLabel)))], 1⟩)) (LWp.cv (withBody (fun body hbody => ?_))) ?_
  · refine f_slices_IndexFunc_api_Label_label_Make_1.l0.partial_correctness a0 (motive := fun x665 o678 => LWp Γ body (fun e s => ∃ t, Cv Γ s t ∧ (match (generalizing := false) o678 with | .inl rr => e = .ret ∧ t.floor = 1 ∧ resOf Try.prog Try.f88 t = some (iV .i64 rr) ∧ ([(0, t.obj 0)] : List (Nat × Option MObj)) = [(0, some (.row 2 67 (a0.map eLabel)))] | .inr _ => e = .exit 0 ∧ t = ⟨[], [(0, some (.row 2 67 (a0.map eLabel)))], 1⟩)) ⟨[(0, .own 0), (1, .im (.sc (.func (.func 71) #[] #[]))), (7, iV .i64 (a0.length : Int)), (8, iV .i64 x665)], [(0, some (.row 2 67 (a0.map eLabel)))], 1⟩) ?_ _ _ e679
    clear H e679 o678; intro self ih x665 o678 H
    subst hbody
    refine LWp.round ?_
    refine AWp.seq ?_
    refine reg hP hn hm [] [0, 1, 7, 8, 9] [0] ⟨[(0, .own 0), (1, .im (.sc (.func (.func 71) #[] #[]))), (7, iV .i64 (a0.length : Int)), (8, iV .i64 x665), (9, bV (decide (x665 < (a0.length : Int))))], [(0, some (.row 2 67 (a0.map eLabel)))], 1⟩ [] (by kernel_rfl) trivial ?_
    refine AWp.seq ?_
    refine AWp.cond (decide (x665 < (a0.length : Int))) rfl (fun c666 => ?_) (fun c666 => ?_)
    · replace H := (ifT c666).symm.trans H
      refine AWp.skip ?_
      refine AWp.seq ?_
      refine AWp.block ?_
      refine AWp.seq ?_
      refine reg hP hn hm [] [0, 1, 5, 7, 8] [0] ⟨[(0, .own 0), (1, .im (.sc (.func (.func 71) #[] #[]))), (5, iV .i64 x665), (7, iV .i64 (a0.length : Int)), (8, iV .i64 x665)], [(0, some (.row 2 67 (a0.map eLabel)))], 1⟩ [] (by kernel_rfl) trivial ?_
      refine AWp.seq ?_
      obtain ⟨b672, p673, q674, H⟩ := at_of H
      obtain ⟨t675, e676, H⟩ := bind_of H
      refine reg hP hn hm [(4, .c (eLabel b672)), (5, .call [] [] [] [] 0 (bV (b672.f1.toList == (⟨#[]⟩ : ByteArray).toList)) [])] [0, 1, 5, 7, 8, 16] [0] ⟨[(0, .own 0), (1, .im (.sc (.func (.func 71) #[] #[]))), (5, iV .i64 x665), (7, iV .i64 (a0.length : Int)), (8, iV .i64 x665), (16, bV (b672.f1.toList == (⟨#[]⟩ : ByteArray).toList))], [(0, some (.row 2 67 (a0.map eLabel)))], 1⟩ [0 ≤ x665, x665 < (((a0.map eLabel).length : Nat) : Int), (a0.map eLabel)[(Int.toNat (x665))]? = some (eLabel b672), Enters Try.prog 71, Pv.Fn Try.prog 71 [.agg (aLabel b672)] [] 0 (fun r o => r = bV (b672.f1.toList == (⟨#[]⟩ : ByteArray).toList) ∧ o = [])] (by kernel_rfl) ⟨by exact p673, by exact el_lt eLabel p673 q674, by exact el_map eLabel q674, by exact Try.call71, by exact f_label_Make_1.ok b672 t675 e676, trivial⟩ ?_
      refine AWp.cond (b672.f1.toList == (⟨#[]⟩ : ByteArray).toList) rfl (fun c677 => ?_) (fun c677 => ?_)
      · replace H := (ifT c677).symm.trans H
        refine AWp.seq ?_
        refine reg hP hn hm [] [4] [0] ⟨[(4, iV .i64 x665)], [(0, some (.row 2 67 (a0.map eLabel)))], 1⟩ [] (by kernel_rfl) trivial ?_
        refine AWp.conv (inv := [(0, 0)]) (vk := []) (e0 := []) (t := ⟨[(4, iV .i64 x665)], [(0, some (.row 2 67 (a0.map eLabel)))], 1⟩) (by kernel_rfl) ?_
        refine AWp.ret ?_
        obtain rfl := Option.some.inj H
        exact Exists.intro _ (And.intro (fun _ _ h => h) (And.intro rfl (And.intro rfl (And.intro (by kernel_rfl) (by kernel_rfl)))))
      · replace H := (ifF c677).symm.trans H
        refine AWp.skip ?_
        refine reg hP hn hm [] [0, 1, 7, 8] [0] ⟨[(0, .own 0), (1, .im (.sc (.func (.func 71) #[] #[]))), (7, iV .i64 (a0.length : Int)), (8, iV .i64 (IntKind.i64.wrap (x665 + (1 : Int))))], [(0, some (.row 2 67 (a0.map eLabel)))], 1⟩ [] (by kernel_rfl) trivial ?_
        exact LWp.conv (inv := [(0, 0)]) (vk := []) (e0 := []) (t := ⟨[(0, .own 0), (1, .im (.sc (.func (.func 71) #[] #[]))), (7, iV .i64 (a0.length : Int)), (8, iV .i64 (IntKind.i64.wrap (x665 + (1 : Int))))], [(0, some (.row 2 67 (a0.map eLabel)))], 1⟩) (by kernel_rfl) (ih _ _ H)
    · replace H := (ifF c666).symm.trans H
      refine AWp.exit ?_
      obtain rfl := Option.some.inj H
      exact Exists.intro _ (And.intro (fun _ _ h => h.conv (inv := [(0, 0)]) (vk := []) (e0 := []) (t := ⟨[], [(0, some (.row 2 67 (a0.map eLabel)))], 1⟩) (by kernel_rfl)) (And.intro rfl rfl))
  · rcases o678 with rr | _
    · skip
      rintro e s ⟨rfl, hfl, hres⟩
      obtain rfl := Option.some.inj H
      exact Exists.intro _ (And.intro (fun _ _ h => h) (And.intro (.inl rfl) (And.intro hfl hres)))
    · skip
      rintro e s ⟨rfl, rfl⟩
      refine AWp.seq ?_
      refine reg hP hn hm [] [4] [0] ⟨[(4, iV .i64 (-1))], [(0, some (.row 2 67 (a0.map eLabel)))], 1⟩ [] (by kernel_rfl) trivial ?_
      refine AWp.conv (inv := [(0, 0)]) (vk := []) (e0 := []) (t := ⟨[(4, iV .i64 (-1))], [(0, some (.row 2 67 (a0.map eLabel)))], 1⟩) (by kernel_rfl) ?_
      refine AWp.ret ?_
      obtain rfl := Option.some.inj H
      exact Exists.intro _ (And.intro (fun _ _ h => h) (And.intro (.inl rfl) (And.intro rfl (And.intro (by kernel_rfl) (by kernel_rfl)))))
def f_slices_DeleteFunc_api_Label_label_Make_1.l0 (x705 : List TLabel) (x706 : Int) (x707 : Int) : Option ((List TLabel) × Int) := if (decide (x707 < (x705.length : Int))) = true then ((at? x705 x707) >>= fun b712 => (f_label_Make_1.f b712) >>= fun t717 => ((if (!(b712.f1.toList == (⟨#[]⟩ : ByteArray).toList)) = true then ((at? x705 x706) >>= fun b723 => some (x705.set (Int.toNat (x706)) b712, IntKind.i64.wrap (x706 + (1 : Int)))) else (some (x705, x706))) : Option ((List TLabel) × Int)) >>= fun oo => match oo with | (x726, x727) => (f_slices_DeleteFunc_api_Label_label_Make_1.l0  x726 x727 (IntKind.i64.wrap (x707 + (1 : Int))))) else (some (x705, x706))
partial_fixpoint
def f_slices_DeleteFunc_api_Label_label_Make_1.f (a0 : List TLabel) : Option (List TLabel) := (f_slices_IndexFunc_api_Label_label_Make_1.f a0) >>= fun t682 => if (t682 == (-1)) = true then (some a0) else ((f_slices_DeleteFunc_api_Label_label_Make_1.l0  a0 t682 (IntKind.i64.wrap (t682 + (1 : Int)))) >>= fun oo => match oo with | (x728, x729) => ((chk (0 ≤ x729 ∧ x729 ≤ (x728.length : Int))) >>= fun _ => (chk (0 ≤ x729 ∧ x729 ≤ ((x728.take (Int.toNat x729) ++ List.replicate (x728.length - (Int.toNat x729)) (⟨(⟨#[]⟩ : ByteArray), (⟨#[]⟩ : ByteArray)⟩ : TLabel)).length : Int))) >>= fun _ => some ((x728.take (Int.toNat x729) ++ List.replicate (x728.length - (Int.toNat x729)) (⟨(⟨#[]⟩ : ByteArray), (⟨#[]⟩ : ByteArray)⟩ : TLabel)).take (Int.toNat (x729)))))
theorem f_slices_DeleteFunc_api_Label_label_Make_1.ok (a0 : List TLabel) (r : List TLabel) (H : f_slices_DeleteFunc_api_Label_label_Make_1.f a0 = some r) : Pv.Fn Try.prog 69 [.own 0, .im (.sc (.func (.func 71) #[] #[]))] [(0, some (.row 2 67 (a0.map eLabel)))] 1 (fun x o => x = .own 1 ∧ o = [(0, none), (1, some (.row 2 67 (r.map eLabel)))]) := by
  unfold f_slices_DeleteFunc_api_Label_label_Make_1.f at H
  refine Fn.bodyK [0, 1] Try.func69 rfl rfl (fun Γ hP hn => ?_)
  have hm : Try.prog.follows .mixedOrders = true := by kernel_rfl
  replace hn : Γ.n = 42 := hn
  refine AWp.seq ?_
  refine reg hP hn hm [] [0, 1] [0] ⟨[(0, .own 0), (1, .im (.sc (.func (.func 71) #[] #[])))], [(0, some (.row 2 67 (a0.map eLabel)))], 1⟩ [] (by kernel_rfl) trivial ?_
  refine AWp.seq ?_
  obtain ⟨t682, e683, H⟩ := bind_of H
  refine reg hP hn hm [(2, .call [(0, 0)] [(0, 0)] [] [] 1 (iV .i64 t682) [(0, some (.row 2 67 (a0.map eLabel)))])] [0, 1, 5] [0] ⟨[(0, .own 0), (1, .im (.sc (.func (.func 71) #[] #[]))), (5, iV .i64 t682)], [(0, some (.row 2 67 (a0.map eLabel)))], 1⟩ [Enters Try.prog 88, Pv.Fn Try.prog 88 [.own 0, .im (.sc (.func (.func 71) #[] #[]))] [(0, some (.row 2 67 (a0.map eLabel)))] 1 (fun r o => r = iV .i64 t682 ∧ o = [(0, some (.row 2 67 (a0.map eLabel)))])] (by kernel_rfl) ⟨by exact Try.call88, by exact f_slices_IndexFunc_api_Label_label_Make_1.ok a0 t682 e683, trivial⟩ ?_
  refine AWp.seq ?_
  refine AWp.seq ?_
  refine reg hP hn hm [] [0, 1, 5, 12] [0] ⟨[(0, .own 0), (1, .im (.sc (.func (.func 71) #[] #[]))), (5, iV .i64 t682), (12, bV (t682 == (-1)))], [(0, some (.row 2 67 (a0.map eLabel)))], 1⟩ [] (by kernel_rfl) trivial ?_
  refine AWp.cond (t682 == (-1)) rfl (fun c684 => ?_) (fun c684 => ?_)
  · replace H := (ifT c684).symm.trans H
    refine AWp.seq ?_
    refine reg hP hn hm [] [4] [0] ⟨[(4, .own 0)], [(0, some (.row 2 67 (a0.map eLabel)))], 1⟩ [] (by kernel_rfl) trivial ?_
    refine AWp.conv (inv := [(0, 1)]) (vk := []) (e0 := []) (t := ⟨[(4, .own 1)], [(1, some (.row 2 67 (a0.map eLabel)))], 1⟩) (by kernel_rfl) ?_
    refine AWp.ret ?_
    obtain rfl := Option.some.inj H
    exact Exists.intro _ (And.intro (fun _ _ h => h) (And.intro (.inl rfl) (And.intro rfl (And.intro (by kernel_rfl) (by kernel_rfl)))))
  · replace H := (ifF c684).symm.trans H
    refine AWp.skip ?_
    refine AWp.seq ?_
    refine AWp.seq ?_
    refine reg hP hn hm [] [0, 1, 5, 6] [0] ⟨[(0, .own 0), (1, .im (.sc (.func (.func 71) #[] #[]))), (5, iV .i64 t682), (6, iV .i64 (IntKind.i64.wrap (t682 + (1 : Int))))], [(0, some (.row 2 67 (a0.map eLabel)))], 1⟩ [] (by kernel_rfl) trivial ?_
    refine AWp.block ?_
    obtain ⟨o734, e735, H⟩ := bind_of H
    refine AWp.loop (LWp.conv (inv := [(0, 0)]) (vk := []) (e0 := []) (t := ⟨[(0, .own 0), (1, .im (.sc (.func (.func 71) #[] #[]))), (5, iV .i64 t682), (6, iV .i64 (IntKind.i64.wrap (t682 + (1 : Int))))], [(0, some (.row 2 67 (a0.map eLabel)))], 1⟩) (by kernel_rfl) ?_)
    refine LWp.mono (Q := fun e s => (match (generalizing := false) o734 with | (x728, x729) => e = .exit 0 ∧ s = ⟨[(0, .own 0), (5, iV .i64 x729)], [(0, some (.row 2 67 (x728.map eLabel)))], 1⟩)) (LWp.cv (withBody (fun body hbody => ?_))) ?_
    · refine f_slices_DeleteFunc_api_Label_label_Make_1.l0.partial_correctness  (motive := fun x705 x706 x707 o734 => LWp Γ body (fun e s => ∃ t, Cv Γ s t ∧ (match (generalizing := false) o734 with | (x728, x729) => e = .exit 0 ∧ t = ⟨[(0, .own 0), (5, iV .i64 x729)], [(0, some (.row 2 67 (x728.map eLabel)))], 1⟩)) ⟨[(0, .own 0), (1, .im (.sc (.func (.func 71) #[] #[]))), (5, iV .i64 x706), (6, iV .i64 x707)], [(0, some (.row 2 67 (x705.map eLabel)))], 1⟩) ?_ _ _ _ _ e735
      clear H e735 o734; intro self ih x705 x706 x707 o734 H
      subst hbody
      refine LWp.round ?_
      refine AWp.seq ?_
      refine AWp.seq ?_
      refine reg hP hn hm [(2, .any (iV .i64 (x705.length : Int)))] [0, 1, 5, 6, 19] [0] ⟨[(0, .own 0), (1, .im (.sc (.func (.func 71) #[] #[]))), (5, iV .i64 x706), (6, iV .i64 x707), (19, bV (decide (x707 < (x705.length : Int))))], [(0, some (.row 2 67 (x705.map eLabel)))], 1⟩ [((x705.map eLabel).length : Int) = (x705.length : Int)] (by kernel_rfl) ⟨by rw [len_map], trivial⟩ ?_
      refine AWp.cond (decide (x707 < (x705.length : Int))) rfl (fun c708 => ?_) (fun c708 => ?_)
      · replace H := (ifT c708).symm.trans H
        refine AWp.skip ?_
        refine AWp.seq ?_
        refine AWp.block ?_
        refine AWp.seq ?_
        obtain ⟨b712, p713, q714, H⟩ := at_of H
        refine reg hP hn hm [(3, .c (eLabel b712)), (4, .k 2)] [0, 1, 5, 6, 7] [0, 2] ⟨[(0, .own 0), (1, .im (.sc (.func (.func 71) #[] #[]))), (5, iV .i64 x706), (6, iV .i64 x707), (7, .ptr 2 0 0)], [(0, some (.row 2 67 (x705.map eLabel))), (2, some (.box 67 (aLabel b712)))], 1⟩ [0 ≤ x707, x707 < (((x705.map eLabel).length : Nat) : Int), (x705.map eLabel)[(Int.toNat (x707))]? = some (eLabel b712)] (by kernel_rfl) ⟨by exact p713, by exact el_lt eLabel p713 q714, by exact el_map eLabel q714, trivial⟩ ?_
        refine AWp.seq ?_
        obtain ⟨t717, e718, H⟩ := bind_of H
        refine reg hP hn hm [(2, .call [] [] [] [] 0 (bV (b712.f1.toList == (⟨#[]⟩ : ByteArray).toList)) [])] [0, 1, 5, 6, 7, 29] [0, 2] ⟨[(0, .own 0), (1, .im (.sc (.func (.func 71) #[] #[]))), (5, iV .i64 x706), (6, iV .i64 x707), (7, .ptr 2 0 0), (29, bV (!(b712.f1.toList == (⟨#[]⟩ : ByteArray).toList)))], [(0, some (.row 2 67 (x705.map eLabel))), (2, some (.box 67 (aLabel b712)))], 1⟩ [Enters Try.prog 71, Pv.Fn Try.prog 71 [.agg (aLabel b712)] [] 0 (fun r o => r = bV (b712.f1.toList == (⟨#[]⟩ : ByteArray).toList) ∧ o = [])] (by kernel_rfl) ⟨by exact Try.call71, by exact f_label_Make_1.ok b712 t717 e718, trivial⟩ ?_
        obtain ⟨o736, e737, H⟩ := bind_of H
        refine AWp.mono (Q := fun e s => (match (generalizing := false) o736 with | (x726, x727) => e = .normal ∧ s = ⟨[(0, .own 0), (1, .im (.sc (.func (.func 71) #[] #[]))), (5, iV .i64 x727), (6, iV .i64 x707)], [(0, some (.row 2 67 (x726.map eLabel)))], 1⟩)) (AWp.cv ?_) ?_
        · replace H := e737; clear e737
          refine AWp.cond (!(b712.f1.toList == (⟨#[]⟩ : ByteArray).toList)) rfl (fun c719 => ?_) (fun c719 => ?_)
          · replace H := (ifT c719).symm.trans H
            refine AWp.seq ?_
            obtain ⟨b723, p724, q725, H⟩ := at_of H
            refine reg hP hn hm [(4, .put (eLabel b723) ((x705.set (Int.toNat (x706)) b712).map eLabel))] [0, 1, 5, 6] [0] ⟨[(0, .own 0), (1, .im (.sc (.func (.func 71) #[] #[]))), (5, iV .i64 x706), (6, iV .i64 x707)], [(0, some (.row 2 67 ((x705.set (Int.toNat (x706)) b712).map eLabel)))], 1⟩ [0 ≤ x706, x706 < (((x705.map eLabel).length : Nat) : Int), (x705.map eLabel)[(Int.toNat (x706))]? = some (eLabel b723), (x705.set (Int.toNat (x706)) b712).map eLabel = (x705.map eLabel).set (Int.toNat (x706)) (splice (eLabel b723) 0 [sI b712.f0, sI b712.f1])] (by kernel_rfl) ⟨by exact p724, by exact el_lt eLabel p724 q725, by exact el_map eLabel q725, by exact set1 _ _ _ _, trivial⟩ ?_
            refine reg hP hn hm [] [0, 1, 5, 6] [0] ⟨[(0, .own 0), (1, .im (.sc (.func (.func 71) #[] #[]))), (5, iV .i64 (IntKind.i64.wrap (x706 + (1 : Int)))), (6, iV .i64 x707)], [(0, some (.row 2 67 ((x705.set (Int.toNat (x706)) b712).map eLabel)))], 1⟩ [] (by kernel_rfl) trivial ?_
            obtain rfl := Option.some.inj H
            exact Exists.intro _ (And.intro (fun _ _ h => h.conv (inv := [(0, 0)]) (vk := []) (e0 := []) (t := ⟨[(0, .own 0), (1, .im (.sc (.func (.func 71) #[] #[]))), (5, iV .i64 (IntKind.i64.wrap (x706 + (1 : Int)))), (6, iV .i64 x707)], [(0, some (.row 2 67 ((x705.set (Int.toNat (x706)) b712).map eLabel)))], 1⟩) (by kernel_rfl)) (And.intro rfl rfl))
          · replace H := (ifF c719).symm.trans H
            refine AWp.skip ?_
            obtain rfl := Option.some.inj H
            exact Exists.intro _ (And.intro (fun _ _ h => h.conv (inv := [(0, 0)]) (vk := []) (e0 := []) (t := ⟨[(0, .own 0), (1, .im (.sc (.func (.func 71) #[] #[]))), (5, iV .i64 x706), (6, iV .i64 x707)], [(0, some (.row 2 67 (x705.map eLabel)))], 1⟩) (by kernel_rfl)) (And.intro rfl rfl))
        · obtain ⟨x726, x727⟩ := o736
          rintro e s ⟨rfl, rfl⟩
          refine reg hP hn hm [] [0, 1, 5, 6] [0] ⟨[(0, .own 0), (1, .im (.sc (.func (.func 71) #[] #[]))), (5, iV .i64 x727), (6, iV .i64 (IntKind.i64.wrap (x707 + (1 : Int))))], [(0, some (.row 2 67 (x726.map eLabel)))], 1⟩ [] (by kernel_rfl) trivial ?_
          exact LWp.conv (inv := [(0, 0)]) (vk := []) (e0 := []) (t := ⟨[(0, .own 0), (1, .im (.sc (.func (.func 71) #[] #[]))), (5, iV .i64 x727), (6, iV .i64 (IntKind.i64.wrap (x707 + (1 : Int))))], [(0, some (.row 2 67 (x726.map eLabel)))], 1⟩) (by kernel_rfl) (ih _ _ _ _ H)
      · replace H := (ifF c708).symm.trans H
        refine AWp.exit ?_
        obtain rfl := Option.some.inj H
        exact Exists.intro _ (And.intro (fun _ _ h => h.conv (inv := [(0, 0)]) (vk := []) (e0 := []) (t := ⟨[(0, .own 0), (5, iV .i64 x706)], [(0, some (.row 2 67 (x705.map eLabel)))], 1⟩) (by kernel_rfl)) (And.intro rfl rfl))
    · obtain ⟨x728, x729⟩ := o734
      rintro e s ⟨rfl, rfl⟩
      refine AWp.seq ?_
      obtain ⟨c731, H⟩ := chk_of H
      refine reg hP hn hm [(2, .more (xCutOwn (Int.toNat x729) (x728.length - (Int.toNat x729)))), (3, .more (xClear ((x728.take (Int.toNat x729) ++ List.replicate (x728.length - (Int.toNat x729)) (⟨(⟨#[]⟩ : ByteArray), (⟨#[]⟩ : ByteArray)⟩ : TLabel)).map eLabel)))] [0, 5] [0] ⟨[(0, .own 0), (5, iV .i64 x729)], [(0, some (.row 2 67 ((x728.take (Int.toNat x729) ++ List.replicate (x728.length - (Int.toNat x729)) (⟨(⟨#[]⟩ : ByteArray), (⟨#[]⟩ : ByteArray)⟩ : TLabel)).map eLabel)))], 1⟩ [x729 = (((Int.toNat x729) : Nat) : Int), (Int.toNat x729) + (x728.length - (Int.toNat x729)) = (x728.map eLabel).length, (x728.take (Int.toNat x729) ++ List.replicate (x728.length - (Int.toNat x729)) (⟨(⟨#[]⟩ : ByteArray), (⟨#[]⟩ : ByteArray)⟩ : TLabel)).map eLabel = (x728.map eLabel).take (Int.toNat x729) ++ List.replicate (x728.length - (Int.toNat x729)) [sI (⟨#[]⟩ : ByteArray), sI (⟨#[]⟩ : ByteArray)], (Int.toNat x729) + (x728.length - (Int.toNat x729)) = (x728.map eLabel).length] (by kernel_rfl) ⟨by exact (Int.toNat_of_nonneg c731.1).symm, by have h := c731; rw [List.length_map]; omega, by simp, by have h := c731; rw [List.length_map]; omega, trivial⟩ ?_
      refine AWp.seq ?_
      obtain ⟨c733, H⟩ := chk_of H
      refine reg hP hn hm [(2, .more (xTake 3 (((x728.take (Int.toNat x729) ++ List.replicate (x728.length - (Int.toNat x729)) (⟨(⟨#[]⟩ : ByteArray), (⟨#[]⟩ : ByteArray)⟩ : TLabel)).take (Int.toNat (x729))).map eLabel)))] [4] [3] ⟨[(4, .own 3)], [(3, some (.row 2 67 (((x728.take (Int.toNat x729) ++ List.replicate (x728.length - (Int.toNat x729)) (⟨(⟨#[]⟩ : ByteArray), (⟨#[]⟩ : ByteArray)⟩ : TLabel)).take (Int.toNat (x729))).map eLabel)))], 1⟩ [0 ≤ x729, x729 ≤ (((x728.take (Int.toNat x729) ++ List.replicate (x728.length - (Int.toNat x729)) (⟨(⟨#[]⟩ : ByteArray), (⟨#[]⟩ : ByteArray)⟩ : TLabel)).map eLabel).length : Int), ((x728.take (Int.toNat x729) ++ List.replicate (x728.length - (Int.toNat x729)) (⟨(⟨#[]⟩ : ByteArray), (⟨#[]⟩ : ByteArray)⟩ : TLabel)).take (Int.toNat (x729))).map eLabel = ((x728.take (Int.toNat x729) ++ List.replicate (x728.length - (Int.toNat x729)) (⟨(⟨#[]⟩ : ByteArray), (⟨#[]⟩ : ByteArray)⟩ : TLabel)).map eLabel).take (Int.toNat (x729))] (by kernel_rfl) ⟨by exact c733.1, by simpa using c733.2, by simp, trivial⟩ ?_
      refine AWp.conv (inv := [(3, 1)]) (vk := []) (e0 := []) (t := ⟨[(4, .own 1)], [(1, some (.row 2 67 (((x728.take (Int.toNat x729) ++ List.replicate (x728.length - (Int.toNat x729)) (⟨(⟨#[]⟩ : ByteArray), (⟨#[]⟩ : ByteArray)⟩ : TLabel)).take (Int.toNat (x729))).map eLabel)))], 1⟩) (by kernel_rfl) ?_
      refine AWp.ret ?_
      obtain rfl := Option.some.inj H
      exact Exists.intro _ (And.intro (fun _ _ h => h) (And.intro (.inl rfl) (And.intro rfl (And.intro (by kernel_rfl) (by kernel_rfl)))))
end Go.Proofs.Ytjfhobijgkccdaa.PvGA1
