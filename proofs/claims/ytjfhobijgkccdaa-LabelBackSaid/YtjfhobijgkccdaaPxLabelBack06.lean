import Derived.Test.YtjfhobijgkccdaaProg
import Derived.Test.YtjfhobijgkccdaaPxLabelBack05
set_option linter.unusedVariables false
set_option linter.unnecessarySimpa false
set_option linter.unusedSimpArgs false
set_option maxRecDepth 10000
namespace Go.Proofs.Ytjfhobijgkccdaa.PvGA2
open Go Go.Pv
structure TLabel where
  f0 : ByteArray
  f1 : ByteArray
  deriving DecidableEq, Inhabited
abbrev eLabel (x : TLabel) : List Im := [sI x.f0, sI x.f1]
abbrev aLabel (x : TLabel) : List AVal := [sV x.f0, sV x.f1]
structure RLabel (x : TLabel) : Prop where
  r0 : x.f0.size ≤ maxLen
  r1 : x.f1.size ≤ maxLen
def f_pluviallaw10_Light.l0 (a0 : List TLabel) (x8 : Int) (x9 : Int) : Option (Int) := if (decide (x9 < (a0.length : Int))) = true then ((at? a0 x9) >>= fun b14 => f_pluviallaw10_Light.l0 a0 (IntKind.i64.wrap (x8 + (IntKind.i64.wrap ((IntKind.i64.wrap ((b14.f0.size : Int) + (b14.f1.size : Int))) + (1 : Int))))) (IntKind.i64.wrap (x9 + (1 : Int)))) else (some x8)
partial_fixpoint
def f_pluviallaw10_Light.f (a0 : List TLabel) : Option (Bool) := (f_pluviallaw10_Light.l0 a0 0 0) >>= fun x17 => some (decide (x17 ≤ (3000 : Int)))
theorem f_pluviallaw10_Light.ok (a0 : List TLabel) (r : Bool) (H : f_pluviallaw10_Light.f a0 = some r) : Pv.Fn Try.prog 20 [.im (.row (a0.map eLabel))] [] 0 (fun x o => x = bV r ∧ o = []) := by
  unfold f_pluviallaw10_Light.f at H
  refine Fn.bodyK [] Try.func20 rfl rfl (fun Γ hP hn => ?_)
  have hm : Try.prog.follows .mixedOrders = true := by kernel_rfl
  replace hn : Γ.n = 25 := hn
  refine AWp.seq ?_
  refine reg hP hn hm [] [0] [] ⟨[(0, .im (.row (a0.map eLabel)))], [], 0⟩ [] (by kernel_rfl) trivial ?_
  refine AWp.seq ?_
  refine reg hP hn hm [] [0, 3] [] ⟨[(0, .im (.row (a0.map eLabel))), (3, iV .i64 0)], [], 0⟩ [] (by kernel_rfl) trivial ?_
  refine AWp.seq ?_
  refine AWp.seq ?_
  refine reg hP hn hm [(1, .any (iV .i64 (a0.length : Int)))] [3, 6, 7, 8] [] ⟨[(3, iV .i64 0), (6, .im (.row (a0.map eLabel))), (7, iV .i64 (a0.length : Int)), (8, iV .i64 0)], [], 0⟩ [((a0.map eLabel).length : Int) = (a0.length : Int)] (by kernel_rfl) ⟨by rw [len_map], trivial⟩ ?_
  refine AWp.block ?_
  obtain ⟨o18, e19, H⟩ := bind_of H
  refine AWp.loop (LWp.conv (inv := []) (vk := []) (e0 := []) (t := ⟨[(3, iV .i64 0), (6, .im (.row (a0.map eLabel))), (7, iV .i64 (a0.length : Int)), (8, iV .i64 0)], [], 0⟩) (by kernel_rfl) ?_)
  refine LWp.mono (Q := fun e s => (match (generalizing := false) o18 with | x17 => e = .exit 0 ∧ s = ⟨[(3, iV .i64 x17)], [], 0⟩)) (LWp.cv (withBody (fun body hbody => ?_))) ?_
  · refine f_pluviallaw10_Light.l0.partial_correctness a0 (motive := fun x8 x9 o18 => LWp Γ body (fun e s => ∃ t, Cv Γ s t ∧ (match (generalizing := false) o18 with | x17 => e = .exit 0 ∧ t = ⟨[(3, iV .i64 x17)], [], 0⟩)) ⟨[(3, iV .i64 x8), (6, .im (.row (a0.map eLabel))), (7, iV .i64 (a0.length : Int)), (8, iV .i64 x9)], [], 0⟩) ?_ _ _ _ e19
    clear H e19 o18; intro self ih x8 x9 o18 H
    subst hbody
    refine LWp.round ?_
    refine AWp.seq ?_
    refine reg hP hn hm [] [3, 6, 7, 8, 9] [] ⟨[(3, iV .i64 x8), (6, .im (.row (a0.map eLabel))), (7, iV .i64 (a0.length : Int)), (8, iV .i64 x9), (9, bV (decide (x9 < (a0.length : Int))))], [], 0⟩ [] (by kernel_rfl) trivial ?_
    refine AWp.seq ?_
    refine AWp.cond (decide (x9 < (a0.length : Int))) rfl (fun c10 => ?_) (fun c10 => ?_)
    · replace H := (ifT c10).symm.trans H
      refine AWp.skip ?_
      refine AWp.seq ?_
      refine AWp.block ?_
      refine AWp.seq ?_
      obtain ⟨b14, p15, q16, H⟩ := at_of H
      refine reg hP hn hm [(0, .c (eLabel b14)), (2, .k 1)] [3, 5, 6, 7, 8] [1] ⟨[(3, iV .i64 x8), (5, .ptr 1 0 0), (6, .im (.row (a0.map eLabel))), (7, iV .i64 (a0.length : Int)), (8, iV .i64 x9)], [(1, some (.box 67 (aLabel b14)))], 0⟩ [0 ≤ x9, (a0.map eLabel)[(Int.toNat (x9))]? = some (eLabel b14)] (by kernel_rfl) ⟨by exact p15, by exact el_map eLabel q16, trivial⟩ ?_
      refine reg hP hn hm [] [3, 6, 7, 8] [] ⟨[(3, iV .i64 (IntKind.i64.wrap (x8 + (IntKind.i64.wrap ((IntKind.i64.wrap ((b14.f0.size : Int) + (b14.f1.size : Int))) + (1 : Int)))))), (6, .im (.row (a0.map eLabel))), (7, iV .i64 (a0.length : Int)), (8, iV .i64 x9)], [], 0⟩ [] (by kernel_rfl) trivial ?_
      refine reg hP hn hm [] [3, 6, 7, 8] [] ⟨[(3, iV .i64 (IntKind.i64.wrap (x8 + (IntKind.i64.wrap ((IntKind.i64.wrap ((b14.f0.size : Int) + (b14.f1.size : Int))) + (1 : Int)))))), (6, .im (.row (a0.map eLabel))), (7, iV .i64 (a0.length : Int)), (8, iV .i64 (IntKind.i64.wrap (x9 + (1 : Int))))], [], 0⟩ [] (by kernel_rfl) trivial ?_
      exact LWp.conv (inv := []) (vk := []) (e0 := []) (t := ⟨[(3, iV .i64 (IntKind.i64.wrap (x8 + (IntKind.i64.wrap ((IntKind.i64.wrap ((b14.f0.size : Int) + (b14.f1.size : Int))) + (1 : Int)))))), (6, .im (.row (a0.map eLabel))), (7, iV .i64 (a0.length : Int)), (8, iV .i64 (IntKind.i64.wrap (x9 + (1 : Int))))], [], 0⟩) (by kernel_rfl) (ih _ _ _ H)
    · replace H := (ifF c10).symm.trans H
      refine AWp.exit ?_
      obtain rfl := Option.some.inj H
      exact Exists.intro _ (And.intro (fun _ _ h => h.conv (inv := []) (vk := []) (e0 := []) (t := ⟨[(3, iV .i64 x8)], [], 0⟩) (by kernel_rfl)) (And.intro rfl rfl))
  · obtain ⟨x17, rfl⟩ : ∃ z, z = o18 := ⟨_, rfl⟩
    rintro e s ⟨rfl, rfl⟩
    refine AWp.seq ?_
    refine reg hP hn hm [] [2] [] ⟨[(2, bV (decide (x17 ≤ (3000 : Int))))], [], 0⟩ [] (by kernel_rfl) trivial ?_
    refine AWp.conv (inv := []) (vk := []) (e0 := []) (t := ⟨[(2, bV (decide (x17 ≤ (3000 : Int))))], [], 0⟩) (by kernel_rfl) ?_
    refine AWp.ret ?_
    obtain rfl := Option.some.inj H
    exact Exists.intro _ (And.intro (fun _ _ h => h) (And.intro (.inl rfl) (And.intro rfl (And.intro (by kernel_rfl) (by kernel_rfl)))))
def f_stringslite_HasPrefix.f (a0 : ByteArray) (a1 : ByteArray) : Option (Bool) := ((if (decide ((a0.size : Int) ≥ (a1.size : Int))) = true then ((chk (0 ≤ (0 : Int) ∧ (0 : Int) ≤ (a1.size : Int) ∧ (a1.size : Int) ≤ (a0.size : Int))) >>= fun _ => some ((a0.extract (Int.toNat ((0 : Int))) (Int.toNat ((a1.size : Int)))).toList == a1.toList)) else (some false)) : Option (Bool)) >>= fun x32 => some x32
theorem f_stringslite_HasPrefix.ok (a0 : ByteArray) (a1 : ByteArray) (r : Bool) (H : f_stringslite_HasPrefix.f a0 a1 = some r) : Pv.Fn Try.prog 98 [sV a0, sV a1] [] 0 (fun x o => x = bV r ∧ o = []) := by
  unfold f_stringslite_HasPrefix.f at H
  refine Fn.bodyK [] Try.func98 rfl rfl (fun Γ hP hn => ?_)
  have hm : Try.prog.follows .mixedOrders = true := by kernel_rfl
  replace hn : Γ.n = 18 := hn
  refine AWp.seq ?_
  refine reg hP hn hm [] [0, 1] [] ⟨[(0, sV a0), (1, sV a1)], [], 0⟩ [] (by kernel_rfl) trivial ?_
  refine AWp.seq ?_
  obtain ⟨o33, e34, H⟩ := bind_of H
  refine AWp.mono (Q := fun e s => (match (generalizing := false) o33 with | x32 => e = .normal ∧ s = ⟨[(4, bV x32)], [], 0⟩)) (AWp.cv ?_) ?_
  · replace H := e34; clear e34
    rcases Bool.eq_false_or_eq_true (decide ((a0.size : Int) ≥ (a1.size : Int))) with c30 | c30
    · replace H := (ifT c30).symm.trans H
      obtain ⟨c31, H⟩ := chk_of H
      refine reg hP hn hm [(5, .b true)] [4] [] ⟨[(4, bV ((a0.extract (Int.toNat ((0 : Int))) (Int.toNat ((a1.size : Int)))).toList == a1.toList))], [], 0⟩ [(decide ((a0.size : Int) ≥ (a1.size : Int))) = true, 0 ≤ (0 : Int), (0 : Int) ≤ (a1.size : Int), (a1.size : Int) ≤ (a0.size : Int)] (by kernel_rfl) ⟨by exact c30, by exact c31.1, by exact c31.2.1, by exact c31.2.2, trivial⟩ ?_
      obtain rfl := Option.some.inj H
      exact Exists.intro _ (And.intro (fun _ _ h => h.conv (inv := []) (vk := []) (e0 := []) (t := ⟨[(4, bV ((a0.extract (Int.toNat ((0 : Int))) (Int.toNat ((a1.size : Int)))).toList == a1.toList))], [], 0⟩) (by kernel_rfl)) (And.intro rfl rfl))
    · replace H := (ifF c30).symm.trans H
      refine reg hP hn hm [(5, .b false)] [4] [] ⟨[(4, bV false)], [], 0⟩ [(decide ((a0.size : Int) ≥ (a1.size : Int))) = false] (by kernel_rfl) ⟨by exact c30, trivial⟩ ?_
      obtain rfl := Option.some.inj H
      exact Exists.intro _ (And.intro (fun _ _ h => h.conv (inv := []) (vk := []) (e0 := []) (t := ⟨[(4, bV false)], [], 0⟩) (by kernel_rfl)) (And.intro rfl rfl))
  · obtain ⟨x32, rfl⟩ : ∃ z, z = o33 := ⟨_, rfl⟩
    rintro e s ⟨rfl, rfl⟩
    refine AWp.conv (inv := []) (vk := []) (e0 := []) (t := ⟨[(4, bV x32)], [], 0⟩) (by kernel_rfl) ?_
    refine AWp.ret ?_
    obtain rfl := Option.some.inj H
    exact Exists.intro _ (And.intro (fun _ _ h => h) (And.intro (.inl rfl) (And.intro rfl (And.intro (by kernel_rfl) (by kernel_rfl)))))
def f_stringslite_CutPrefix.f (a0 : ByteArray) (a1 : ByteArray) : Option (ByteArray × Bool) := (f_stringslite_HasPrefix.f a0 a1) >>= fun t37 => if (!t37) = true then (some (a0, false)) else ((chk (0 ≤ (a1.size : Int) ∧ (a1.size : Int) ≤ (a0.size : Int) ∧ (a0.size : Int) ≤ (a0.size : Int))) >>= fun _ => some (a0.extract (Int.toNat ((a1.size : Int))) (Int.toNat ((a0.size : Int))), true))
theorem f_stringslite_CutPrefix.ok (a0 : ByteArray) (a1 : ByteArray) (r : ByteArray × Bool) (H : f_stringslite_CutPrefix.f a0 a1 = some r) : Pv.Fn Try.prog 83 [sV a0, sV a1] [] 0 (fun x o => x = .tup [sV r.1, bV r.2] ∧ o = []) := by
  unfold f_stringslite_CutPrefix.f at H
  refine Fn.bodyK [] Try.func83 rfl rfl (fun Γ hP hn => ?_)
  have hm : Try.prog.follows .mixedOrders = true := by kernel_rfl
  replace hn : Γ.n = 15 := hn
  refine AWp.seq ?_
  refine reg hP hn hm [] [0, 1] [] ⟨[(0, sV a0), (1, sV a1)], [], 0⟩ [] (by kernel_rfl) trivial ?_
  refine AWp.seq ?_
  refine AWp.seq ?_
  obtain ⟨t37, e38, H⟩ := bind_of H
  refine reg hP hn hm [(2, .call [] [] [] [] 0 (bV t37) [])] [0, 1, 9] [] ⟨[(0, sV a0), (1, sV a1), (9, bV (!t37))], [], 0⟩ [Enters Try.prog 98, Pv.Fn Try.prog 98 [sV a0, sV a1] [] 0 (fun r o => r = bV t37 ∧ o = [])] (by kernel_rfl) ⟨by exact Try.call98, by exact f_stringslite_HasPrefix.ok a0 a1 t37 e38, trivial⟩ ?_
  refine AWp.cond (!t37) rfl (fun c39 => ?_) (fun c39 => ?_)
  · replace H := (ifT c39).symm.trans H
    refine AWp.seq ?_
    refine reg hP hn hm [] [4, 5] [] ⟨[(4, sV a0), (5, bV false)], [], 0⟩ [] (by kernel_rfl) trivial ?_
    refine AWp.conv (inv := []) (vk := []) (e0 := []) (t := ⟨[(4, sV a0), (5, bV false)], [], 0⟩) (by kernel_rfl) ?_
    refine AWp.ret ?_
    obtain rfl := Option.some.inj H
    exact Exists.intro _ (And.intro (fun _ _ h => h) (And.intro (.inl rfl) (And.intro rfl (And.intro (by kernel_rfl) (by kernel_rfl)))))
  · replace H := (ifF c39).symm.trans H
    refine AWp.skip ?_
    refine AWp.seq ?_
    obtain ⟨c41, H⟩ := chk_of H
    refine reg hP hn hm [] [4, 5] [] ⟨[(4, sV (a0.extract (Int.toNat ((a1.size : Int))) (Int.toNat ((a0.size : Int))))), (5, bV true)], [], 0⟩ [0 ≤ (a1.size : Int), (a1.size : Int) ≤ (a0.size : Int), (a0.size : Int) ≤ (a0.size : Int)] (by kernel_rfl) ⟨by exact c41.1, by exact c41.2.1, by exact c41.2.2, trivial⟩ ?_
    refine AWp.conv (inv := []) (vk := []) (e0 := []) (t := ⟨[(4, sV (a0.extract (Int.toNat ((a1.size : Int))) (Int.toNat ((a0.size : Int))))), (5, bV true)], [], 0⟩) (by kernel_rfl) ?_
    refine AWp.ret ?_
    obtain rfl := Option.some.inj H
    exact Exists.intro _ (And.intro (fun _ _ h => h) (And.intro (.inl rfl) (And.intro rfl (And.intro (by kernel_rfl) (by kernel_rfl)))))
def f_strings_CutPrefix.f (a0 : ByteArray) (a1 : ByteArray) : Option (ByteArray × Bool) := (f_stringslite_CutPrefix.f a0 a1) >>= fun t44 => some (t44.1, t44.2)
theorem f_strings_CutPrefix.ok (a0 : ByteArray) (a1 : ByteArray) (r : ByteArray × Bool) (H : f_strings_CutPrefix.f a0 a1 = some r) : Pv.Fn Try.prog 52 [sV a0, sV a1] [] 0 (fun x o => x = .tup [sV r.1, bV r.2] ∧ o = []) := by
  unfold f_strings_CutPrefix.f at H
  refine Fn.bodyK [] Try.func52 rfl rfl (fun Γ hP hn => ?_)
  have hm : Try.prog.follows .mixedOrders = true := by kernel_rfl
  replace hn : Γ.n = 11 := hn
  refine AWp.seq ?_
  refine reg hP hn hm [] [0, 1] [] ⟨[(0, sV a0), (1, sV a1)], [], 0⟩ [] (by kernel_rfl) trivial ?_
  refine AWp.seq ?_
  obtain ⟨t44, e45, H⟩ := bind_of H
  refine reg hP hn hm [(2, .call [] [] [] [] 0 (.tup [sV t44.1, bV t44.2]) [])] [4, 5] [] ⟨[(4, sV t44.1), (5, bV t44.2)], [], 0⟩ [Enters Try.prog 83, Pv.Fn Try.prog 83 [sV a0, sV a1] [] 0 (fun r o => r = .tup [sV t44.1, bV t44.2] ∧ o = [])] (by kernel_rfl) ⟨by exact Try.call83, by exact f_stringslite_CutPrefix.ok a0 a1 t44 e45, trivial⟩ ?_
  refine AWp.conv (inv := []) (vk := []) (e0 := []) (t := ⟨[(4, sV t44.1), (5, bV t44.2)], [], 0⟩) (by kernel_rfl) ?_
  refine AWp.ret ?_
  obtain rfl := Option.some.inj H
  exact Exists.intro _ (And.intro (fun _ _ h => h) (And.intro (.inl rfl) (And.intro rfl (And.intro (by kernel_rfl) (by kernel_rfl)))))
def f_stringslite_IndexByte.f (a0 : ByteArray) (a1 : Int) : Option (Unit) := some ()
theorem f_stringslite_IndexByte.ok (a0 : ByteArray) (a1 : Int) (r : Unit) (H : f_stringslite_IndexByte.f a0 a1 = some r) : Pv.Fn Try.prog 106 [sV a0, iV .u8 a1] [] 0 (fun x o => x = iV .i64 (Lib.indexByte a0.data.toList (Int.toNat a1).toUInt8) ∧ o = []) := by
  unfold f_stringslite_IndexByte.f at H
  refine Fn.bodyK [] Try.func106 rfl rfl (fun Γ hP hn => ?_)
  have hm : Try.prog.follows .mixedOrders = true := by kernel_rfl
  replace hn : Γ.n = 8 := hn
  refine AWp.seq ?_
  refine reg hP hn hm [] [0, 1] [] ⟨[(0, sV a0), (1, iV .u8 a1)], [], 0⟩ [] (by kernel_rfl) trivial ?_
  refine AWp.seq ?_
  refine reg hP hn hm [(2, .ext (iV .i64 (Lib.indexByte a0.data.toList (Int.toNat a1).toUInt8)))] [4] [] ⟨[(4, iV .i64 (Lib.indexByte a0.data.toList (Int.toNat a1).toUInt8))], [], 0⟩ [∀ w, (callFunc 112 ([.string a0, .int .u8 a1] : List Value).toArray).run Try.prog w = .ok (.value (.int .i64 (Lib.indexByte a0.data.toList (Int.toNat a1).toUInt8))) w] (by kernel_rfl) ⟨by exact fun w => x_indexByte (fn := Try.f112) Try.func112 (by kernel_rfl) rfl (by kernel_rfl) (by kernel_rfl) w, trivial⟩ ?_
  refine AWp.conv (inv := []) (vk := []) (e0 := []) (t := ⟨[(4, iV .i64 (Lib.indexByte a0.data.toList (Int.toNat a1).toUInt8))], [], 0⟩) (by kernel_rfl) ?_
  refine AWp.ret ?_
  obtain rfl := Option.some.inj H
  exact Exists.intro _ (And.intro (fun _ _ h => h) (And.intro (.inl rfl) (And.intro rfl (And.intro (by kernel_rfl) (by kernel_rfl)))))
def f_stringslite_Index_2e8.f (a0 : ByteArray) : Option (Int) := if ((⟨#[61]⟩ : ByteArray).toList == a0.toList) = true then (some 0) else ((chk (0 ≤ (0 : Int) ∧ (0 : Int) < ((⟨#[61]⟩ : ByteArray).size : Int))) >>= fun _ => (f_stringslite_IndexByte.f a0 (bt (⟨#[61]⟩ : ByteArray) 0)) >>= fun t57 => some (Lib.indexByte a0.data.toList (Int.toNat (bt (⟨#[61]⟩ : ByteArray) 0)).toUInt8))
theorem f_stringslite_Index_2e8.ok (a0 : ByteArray) (r : Int) (H : f_stringslite_Index_2e8.f a0 = some r) : Pv.Fn Try.prog 99 [sV a0, sV (⟨#[61]⟩ : ByteArray)] [] 0 (fun x o => x = iV .i64 r ∧ o = []) := by
  unfold f_stringslite_Index_2e8.f at H
  refine Fn.bodyK [] Try.func99 rfl rfl (fun Γ hP hn => ?_)
  have hm : Try.prog.follows .mixedOrders = true := by kernel_rfl
  replace hn : Γ.n = 143 := hn
  refine AWp.seq ?_
  refine reg hP hn hm [] [0, 1] [] ⟨[(0, sV a0), (1, sV (⟨#[61]⟩ : ByteArray))], [], 0⟩ [] (by kernel_rfl) trivial ?_
  refine AWp.seq ?_
  refine reg hP hn hm [] [0, 1, 5] [] ⟨[(0, sV a0), (1, sV (⟨#[61]⟩ : ByteArray)), (5, iV .i64 1)], [], 0⟩ [] (by kernel_rfl) trivial ?_
  refine AWp.seq ?_
  refine AWp.block ?_
  refine AWp.seq ?_
  refine reg hP hn hm [] [0, 1, 5, 16] [] ⟨[(0, sV a0), (1, sV (⟨#[61]⟩ : ByteArray)), (5, iV .i64 1), (16, bV ((⟨#[61]⟩ : ByteArray).toList == a0.toList))], [], 0⟩ [] (by kernel_rfl) trivial ?_
  refine AWp.cond ((⟨#[61]⟩ : ByteArray).toList == a0.toList) rfl (fun c52 => ?_) (fun c52 => ?_)
  · replace H := (ifT c52).symm.trans H
    refine AWp.seq ?_
    refine reg hP hn hm [] [4] [] ⟨[(4, iV .i64 0)], [], 0⟩ [] (by kernel_rfl) trivial ?_
    refine AWp.conv (inv := []) (vk := []) (e0 := []) (t := ⟨[(4, iV .i64 0)], [], 0⟩) (by kernel_rfl) ?_
    refine AWp.ret ?_
    obtain rfl := Option.some.inj H
    exact Exists.intro _ (And.intro (fun _ _ h => h) (And.intro (.inl rfl) (And.intro rfl (And.intro (by kernel_rfl) (by kernel_rfl)))))
  · replace H := (ifF c52).symm.trans H
    refine AWp.seq ?_
    refine reg hP hn hm [] [0, 1, 5, 24] [] ⟨[(0, sV a0), (1, sV (⟨#[61]⟩ : ByteArray)), (5, iV .i64 1), (24, bV true)], [], 0⟩ [] (by kernel_rfl) trivial ?_
    refine AWp.cond true rfl (fun _ => ?_) (fun h => nomatch h)
    refine AWp.seq ?_
    obtain ⟨c56, H⟩ := chk_of H
    obtain ⟨t57, e58, H⟩ := bind_of H
    refine reg hP hn hm [(3, .call [] [] [] [] 0 (iV .i64 (Lib.indexByte a0.data.toList (Int.toNat (bt (⟨#[61]⟩ : ByteArray) 0)).toUInt8)) [])] [4] [] ⟨[(4, iV .i64 (Lib.indexByte a0.data.toList (Int.toNat (bt (⟨#[61]⟩ : ByteArray) 0)).toUInt8))], [], 0⟩ [0 ≤ (0 : Int), (0 : Int) < ((⟨#[61]⟩ : ByteArray).size : Int), Enters Try.prog 106, Pv.Fn Try.prog 106 [sV a0, iV .u8 (bt (⟨#[61]⟩ : ByteArray) 0)] [] 0 (fun r o => r = iV .i64 (Lib.indexByte a0.data.toList (Int.toNat (bt (⟨#[61]⟩ : ByteArray) 0)).toUInt8) ∧ o = [])] (by kernel_rfl) ⟨by exact c56.1, by exact c56.2, by exact Try.call106, by exact f_stringslite_IndexByte.ok a0 (bt (⟨#[61]⟩ : ByteArray) 0) t57 e58, trivial⟩ ?_
    refine AWp.conv (inv := []) (vk := []) (e0 := []) (t := ⟨[(4, iV .i64 (Lib.indexByte a0.data.toList (Int.toNat (bt (⟨#[61]⟩ : ByteArray) 0)).toUInt8))], [], 0⟩) (by kernel_rfl) ?_
    refine AWp.ret ?_
    obtain rfl := Option.some.inj H
    exact Exists.intro _ (And.intro (fun _ _ h => h) (And.intro (.inl rfl) (And.intro rfl (And.intro (by kernel_rfl) (by kernel_rfl)))))
def f_stringslite_Cut_2e8.f (a0 : ByteArray) : Option (ByteArray × ByteArray × Bool) := (f_stringslite_Index_2e8.f a0) >>= fun t61 => if (decide (t61 ≥ (0 : Int))) = true then ((chk (0 ≤ (0 : Int) ∧ (0 : Int) ≤ t61 ∧ t61 ≤ (a0.size : Int))) >>= fun _ => (chk (0 ≤ (IntKind.i64.wrap (t61 + (1 : Int))) ∧ (IntKind.i64.wrap (t61 + (1 : Int))) ≤ (a0.size : Int) ∧ (a0.size : Int) ≤ (a0.size : Int))) >>= fun _ => some (a0.extract (Int.toNat ((0 : Int))) (Int.toNat (t61)), a0.extract (Int.toNat ((IntKind.i64.wrap (t61 + (1 : Int))))) (Int.toNat ((a0.size : Int))), true)) else (some (a0, (⟨#[]⟩ : ByteArray), false))
theorem f_stringslite_Cut_2e8.ok (a0 : ByteArray) (r : ByteArray × ByteArray × Bool) (H : f_stringslite_Cut_2e8.f a0 = some r) : Pv.Fn Try.prog 84 [sV a0, sV (⟨#[61]⟩ : ByteArray)] [] 0 (fun x o => x = .tup [sV r.1, sV r.2.1, bV r.2.2] ∧ o = []) := by
  unfold f_stringslite_Cut_2e8.f at H
  refine Fn.bodyK [] Try.func84 rfl rfl (fun Γ hP hn => ?_)
  have hm : Try.prog.follows .mixedOrders = true := by kernel_rfl
  replace hn : Γ.n = 23 := hn
  refine AWp.seq ?_
  refine reg hP hn hm [] [0, 1] [] ⟨[(0, sV a0), (1, sV (⟨#[61]⟩ : ByteArray))], [], 0⟩ [] (by kernel_rfl) trivial ?_
  refine AWp.seq ?_
  refine AWp.seq ?_
  obtain ⟨t61, e62, H⟩ := bind_of H
  refine reg hP hn hm [(2, .call [] [] [] [] 0 (iV .i64 t61) [])] [0, 1, 7] [] ⟨[(0, sV a0), (1, sV (⟨#[61]⟩ : ByteArray)), (7, iV .i64 t61)], [], 0⟩ [Enters Try.prog 99, Pv.Fn Try.prog 99 [sV a0, sV (⟨#[61]⟩ : ByteArray)] [] 0 (fun r o => r = iV .i64 t61 ∧ o = [])] (by kernel_rfl) ⟨by exact Try.call99, by exact f_stringslite_Index_2e8.ok a0 t61 e62, trivial⟩ ?_
  refine AWp.seq ?_
  refine reg hP hn hm [] [0, 1, 7, 12] [] ⟨[(0, sV a0), (1, sV (⟨#[61]⟩ : ByteArray)), (7, iV .i64 t61), (12, bV (decide (t61 ≥ (0 : Int))))], [], 0⟩ [] (by kernel_rfl) trivial ?_
  refine AWp.cond (decide (t61 ≥ (0 : Int))) rfl (fun c63 => ?_) (fun c63 => ?_)
  · replace H := (ifT c63).symm.trans H
    refine AWp.seq ?_
    obtain ⟨c66, H⟩ := chk_of H
    obtain ⟨c67, H⟩ := chk_of H
    refine reg hP hn hm [] [4, 5, 6] [] ⟨[(4, sV (a0.extract (Int.toNat ((0 : Int))) (Int.toNat (t61)))), (5, sV (a0.extract (Int.toNat ((IntKind.i64.wrap (t61 + (1 : Int))))) (Int.toNat ((a0.size : Int))))), (6, bV true)], [], 0⟩ [0 ≤ (0 : Int), (0 : Int) ≤ t61, t61 ≤ (a0.size : Int), 0 ≤ (IntKind.i64.wrap (t61 + (1 : Int))), (IntKind.i64.wrap (t61 + (1 : Int))) ≤ (a0.size : Int), (a0.size : Int) ≤ (a0.size : Int)] (by kernel_rfl) ⟨by exact c66.1, by exact c66.2.1, by exact c66.2.2, by exact c67.1, by exact c67.2.1, by exact c67.2.2, trivial⟩ ?_
    refine AWp.conv (inv := []) (vk := []) (e0 := []) (t := ⟨[(4, sV (a0.extract (Int.toNat ((0 : Int))) (Int.toNat (t61)))), (5, sV (a0.extract (Int.toNat ((IntKind.i64.wrap (t61 + (1 : Int))))) (Int.toNat ((a0.size : Int))))), (6, bV true)], [], 0⟩) (by kernel_rfl) ?_
    refine AWp.ret ?_
    obtain rfl := Option.some.inj H
    exact Exists.intro _ (And.intro (fun _ _ h => h) (And.intro (.inl rfl) (And.intro rfl (And.intro (by kernel_rfl) (by kernel_rfl)))))
  · replace H := (ifF c63).symm.trans H
    refine AWp.skip ?_
    refine AWp.seq ?_
    refine reg hP hn hm [] [4, 5, 6] [] ⟨[(4, sV a0), (5, sV (⟨#[]⟩ : ByteArray)), (6, bV false)], [], 0⟩ [] (by kernel_rfl) trivial ?_
    refine AWp.conv (inv := []) (vk := []) (e0 := []) (t := ⟨[(4, sV a0), (5, sV (⟨#[]⟩ : ByteArray)), (6, bV false)], [], 0⟩) (by kernel_rfl) ?_
    refine AWp.ret ?_
    obtain rfl := Option.some.inj H
    exact Exists.intro _ (And.intro (fun _ _ h => h) (And.intro (.inl rfl) (And.intro rfl (And.intro (by kernel_rfl) (by kernel_rfl)))))
def f_strings_Cut_2e8.f (a0 : ByteArray) : Option (ByteArray × ByteArray × Bool) := (f_stringslite_Cut_2e8.f a0) >>= fun t70 => some (t70.1, t70.2.1, t70.2.2)
theorem f_strings_Cut_2e8.ok (a0 : ByteArray) (r : ByteArray × ByteArray × Bool) (H : f_strings_Cut_2e8.f a0 = some r) : Pv.Fn Try.prog 53 [sV a0, sV (⟨#[61]⟩ : ByteArray)] [] 0 (fun x o => x = .tup [sV r.1, sV r.2.1, bV r.2.2] ∧ o = []) := by
  unfold f_strings_Cut_2e8.f at H
  refine Fn.bodyK [] Try.func53 rfl rfl (fun Γ hP hn => ?_)
  have hm : Try.prog.follows .mixedOrders = true := by kernel_rfl
  replace hn : Γ.n = 13 := hn
  refine AWp.seq ?_
  refine reg hP hn hm [] [0, 1] [] ⟨[(0, sV a0), (1, sV (⟨#[61]⟩ : ByteArray))], [], 0⟩ [] (by kernel_rfl) trivial ?_
  refine AWp.seq ?_
  obtain ⟨t70, e71, H⟩ := bind_of H
  refine reg hP hn hm [(2, .call [] [] [] [] 0 (.tup [sV t70.1, sV t70.2.1, bV t70.2.2]) [])] [4, 5, 6] [] ⟨[(4, sV t70.1), (5, sV t70.2.1), (6, bV t70.2.2)], [], 0⟩ [Enters Try.prog 84, Pv.Fn Try.prog 84 [sV a0, sV (⟨#[61]⟩ : ByteArray)] [] 0 (fun r o => r = .tup [sV t70.1, sV t70.2.1, bV t70.2.2] ∧ o = [])] (by kernel_rfl) ⟨by exact Try.call84, by exact f_stringslite_Cut_2e8.ok a0 t70 e71, trivial⟩ ?_
  refine AWp.conv (inv := []) (vk := []) (e0 := []) (t := ⟨[(4, sV t70.1), (5, sV t70.2.1), (6, bV t70.2.2)], [], 0⟩) (by kernel_rfl) ?_
  refine AWp.ret ?_
  obtain rfl := Option.some.inj H
  exact Exists.intro _ (And.intro (fun _ _ h => h) (And.intro (.inl rfl) (And.intro rfl (And.intro (by kernel_rfl) (by kernel_rfl)))))
def f_label_Unquote.l0 (a0 : ByteArray) (x108 : List Int) (x109 : Int) : Option ((ByteArray × ByteArray × Bool) ⊕ Unit) := if (decide (x109 < (a0.size : Int))) = true then ((((chk (0 ≤ x109 ∧ x109 < (a0.size : Int))) >>= fun _ => if ((bt a0 x109) == (34 : Int)) = true then ((chk (0 ≤ (IntKind.i64.wrap (x109 + (1 : Int))) ∧ (IntKind.i64.wrap (x109 + (1 : Int))) ≤ (a0.size : Int) ∧ (a0.size : Int) ≤ (a0.size : Int))) >>= fun _ => some (.inl (strOf x108, a0.extract (Int.toNat ((IntKind.i64.wrap (x109 + (1 : Int))))) (Int.toNat ((a0.size : Int))), true))) else (if ((bt a0 x109) == (10 : Int)) = true then (some (.inl ((⟨#[]⟩ : ByteArray), (⟨#[]⟩ : ByteArray), false))) else (if ((bt a0 x109) != (92 : Int)) = true then ((chk ((x108.length + [bt a0 x109].length) * 1 ≤ 140737488355328)) >>= fun _ => some (.inr (x108 ++ [bt a0 x109], x109))) else (if ((IntKind.i64.wrap (x109 + (1 : Int))) == (a0.size : Int)) = true then (some (.inl ((⟨#[]⟩ : ByteArray), (⟨#[]⟩ : ByteArray), false))) else ((chk (0 ≤ (IntKind.i64.wrap (x109 + (1 : Int))) ∧ (IntKind.i64.wrap (x109 + (1 : Int))) < (a0.size : Int))) >>= fun _ => ((if ((bt a0 (IntKind.i64.wrap (x109 + (1 : Int)))) == (110 : Int)) = true then ((chk ((x108.length + [10].length) * 1 ≤ 140737488355328)) >>= fun _ => some (.inr (x108 ++ [10]))) else (((if ((bt a0 (IntKind.i64.wrap (x109 + (1 : Int)))) == (34 : Int)) = true then (some true) else (some ((bt a0 (IntKind.i64.wrap (x109 + (1 : Int)))) == (92 : Int)))) : Option (Bool)) >>= fun x128 => if x128 = true then ((chk ((x108.length + [bt a0 (IntKind.i64.wrap (x109 + (1 : Int)))].length) * 1 ≤ 140737488355328)) >>= fun _ => some (.inr (x108 ++ [bt a0 (IntKind.i64.wrap (x109 + (1 : Int)))]))) else (some (.inl ((⟨#[]⟩ : ByteArray), (⟨#[]⟩ : ByteArray), false))))) : Option ((ByteArray × ByteArray × Bool) ⊕ (List Int))) >>= fun oo => match oo with | .inl rr => (some (.inl rr)) | .inr x132 => (some (.inr (x132, IntKind.i64.wrap (x109 + (1 : Int)))))))))) : Option ((ByteArray × ByteArray × Bool) ⊕ ((List Int) × Int))) >>= fun oo => match oo with | .inl rr => (some (.inl rr)) | .inr (x133, x134) => (f_label_Unquote.l0 a0 x133 (IntKind.i64.wrap (x134 + (1 : Int))))) else (some (.inr ()))
partial_fixpoint
def f_label_Unquote.f (a0 : ByteArray) : Option (ByteArray × ByteArray × Bool) := ((if (a0.toList == (⟨#[]⟩ : ByteArray).toList) = true then (some true) else ((chk (0 ≤ (0 : Int) ∧ (0 : Int) < (a0.size : Int))) >>= fun _ => some ((bt a0 0) != (34 : Int)))) : Option (Bool)) >>= fun x81 => if x81 = true then (some ((⟨#[]⟩ : ByteArray), (⟨#[]⟩ : ByteArray), false)) else ((f_label_Unquote.l0 a0 [] 1) >>= fun oo => match oo with | .inl rr => (some rr) | .inr _ => (some ((⟨#[]⟩ : ByteArray), (⟨#[]⟩ : ByteArray), false)))
theorem f_label_Unquote.ok (a0 : ByteArray) (r : ByteArray × ByteArray × Bool) (H : f_label_Unquote.f a0 = some r) : Pv.Fn Try.prog 13 [sV a0] [] 0 (fun x o => x = .tup [sV r.1, sV r.2.1, bV r.2.2] ∧ o = []) := by
  unfold f_label_Unquote.f at H
  refine Fn.bodyK [] Try.func13 rfl rfl (fun Γ hP hn => ?_)
  have hm : Try.prog.follows .mixedOrders = true := by kernel_rfl
  replace hn : Γ.n = 75 := hn
  refine AWp.seq ?_
  refine reg hP hn hm [] [0] [] ⟨[(0, sV a0)], [], 0⟩ [] (by kernel_rfl) trivial ?_
  refine AWp.seq ?_
  refine AWp.seq ?_
  obtain ⟨o135, e136, H⟩ := bind_of H
  refine AWp.mono (Q := fun e s => (match (generalizing := false) o135 with | x81 => e = .normal ∧ s = ⟨[(0, sV a0), (14, bV x81)], [], 0⟩)) (AWp.cv ?_) ?_
  · replace H := e136; clear e136
    rcases Bool.eq_false_or_eq_true (a0.toList == (⟨#[]⟩ : ByteArray).toList) with c79 | c79
    · replace H := (ifT c79).symm.trans H
      refine reg hP hn hm [(2, .b true)] [0, 14] [] ⟨[(0, sV a0), (14, bV true)], [], 0⟩ [(a0.toList == (⟨#[]⟩ : ByteArray).toList) = true] (by kernel_rfl) ⟨by exact c79, trivial⟩ ?_
      obtain rfl := Option.some.inj H
      exact Exists.intro _ (And.intro (fun _ _ h => h.conv (inv := []) (vk := []) (e0 := []) (t := ⟨[(0, sV a0), (14, bV true)], [], 0⟩) (by kernel_rfl)) (And.intro rfl rfl))
    · replace H := (ifF c79).symm.trans H
      obtain ⟨c80, H⟩ := chk_of H
      refine reg hP hn hm [(2, .b false)] [0, 14] [] ⟨[(0, sV a0), (14, bV ((bt a0 0) != (34 : Int)))], [], 0⟩ [(a0.toList == (⟨#[]⟩ : ByteArray).toList) = false, 0 ≤ (0 : Int), (0 : Int) < (a0.size : Int)] (by kernel_rfl) ⟨by exact c79, by exact c80.1, by exact c80.2, trivial⟩ ?_
      obtain rfl := Option.some.inj H
      exact Exists.intro _ (And.intro (fun _ _ h => h.conv (inv := []) (vk := []) (e0 := []) (t := ⟨[(0, sV a0), (14, bV ((bt a0 0) != (34 : Int)))], [], 0⟩) (by kernel_rfl)) (And.intro rfl rfl))
  · obtain ⟨x81, rfl⟩ : ∃ z, z = o135 := ⟨_, rfl⟩
    rintro e s ⟨rfl, rfl⟩
    refine AWp.cond x81 rfl (fun c82 => ?_) (fun c82 => ?_)
    · replace H := (ifT c82).symm.trans H
      refine AWp.seq ?_
      refine reg hP hn hm [] [2, 3, 4] [] ⟨[(2, sV (⟨#[]⟩ : ByteArray)), (3, sV (⟨#[]⟩ : ByteArray)), (4, bV false)], [], 0⟩ [] (by kernel_rfl) trivial ?_
      refine AWp.conv (inv := []) (vk := []) (e0 := []) (t := ⟨[(2, sV (⟨#[]⟩ : ByteArray)), (3, sV (⟨#[]⟩ : ByteArray)), (4, bV false)], [], 0⟩) (by kernel_rfl) ?_
      refine AWp.ret ?_
      obtain rfl := Option.some.inj H
      exact Exists.intro _ (And.intro (fun _ _ h => h) (And.intro (.inl rfl) (And.intro rfl (And.intro (by kernel_rfl) (by kernel_rfl)))))
    · replace H := (ifF c82).symm.trans H
      refine AWp.skip ?_
      refine AWp.seq ?_
      refine reg hP hn hm [] [0, 5] [] ⟨[(0, sV a0), (5, .none0)], [], 0⟩ [] (by kernel_rfl) trivial ?_
      refine AWp.seq ?_
      refine AWp.seq ?_
      refine reg hP hn hm [] [0, 5, 6] [] ⟨[(0, sV a0), (5, .none0), (6, iV .i64 1)], [], 0⟩ [] (by kernel_rfl) trivial ?_
      refine AWp.block ?_
      obtain ⟨o137, e138, H⟩ := bind_of H
      refine AWp.loop (LWp.conv (inv := []) (vk := []) (e0 := [8]) (t := ⟨[(0, sV a0), (5, .own 8), (6, iV .i64 1)], [(8, some (.row 1 5 ([].map (encInt .u8))))], 0⟩) (by kernel_rfl) ?_)
      refine LWp.mono (Q := fun e s => (match (generalizing := false) o137 with | .inl rr => e = .ret ∧ s.floor = 0 ∧ resOf Try.prog Try.f13 s = some (.tup [sV rr.1, sV rr.2.1, bV rr.2.2]) ∧ ([] : List (Nat × Option MObj)) = [] | .inr _ => e = .exit 0 ∧ s = ⟨[], [], 0⟩)) (LWp.cv (withBody (fun body hbody => ?_))) ?_
      · refine f_label_Unquote.l0.partial_correctness a0 (motive := fun x108 x109 o137 => LWp Γ body (fun e s => ∃ t, Cv Γ s t ∧ (match (generalizing := false) o137 with | .inl rr => e = .ret ∧ t.floor = 0 ∧ resOf Try.prog Try.f13 t = some (.tup [sV rr.1, sV rr.2.1, bV rr.2.2]) ∧ ([] : List (Nat × Option MObj)) = [] | .inr _ => e = .exit 0 ∧ t = ⟨[], [], 0⟩)) ⟨[(0, sV a0), (5, .own 8), (6, iV .i64 x109)], [(8, some (.row 1 5 (x108.map (encInt .u8))))], 0⟩) ?_ _ _ _ e138
        clear H e138 o137; intro self ih x108 x109 o137 H
        subst hbody
        refine LWp.round ?_
        refine AWp.seq ?_
        refine AWp.seq ?_
        refine reg hP hn hm [] [0, 5, 6, 18] [8] ⟨[(0, sV a0), (5, .own 8), (6, iV .i64 x109), (18, bV (decide (x109 < (a0.size : Int))))], [(8, some (.row 1 5 (x108.map (encInt .u8))))], 0⟩ [] (by kernel_rfl) trivial ?_
        refine AWp.cond (decide (x109 < (a0.size : Int))) rfl (fun c110 => ?_) (fun c110 => ?_)
        · replace H := (ifT c110).symm.trans H
          refine AWp.skip ?_
          refine AWp.seq ?_
          obtain ⟨o139, e140, H⟩ := bind_of H
          refine AWp.mono (Q := fun e s => (match (generalizing := false) o139 with | .inl rr => e = .ret ∧ s.floor = 0 ∧ resOf Try.prog Try.f13 s = some (.tup [sV rr.1, sV rr.2.1, bV rr.2.2]) ∧ ([] : List (Nat × Option MObj)) = [] | .inr (x133, x134) => e = .normal ∧ s = ⟨[(0, sV a0), (5, .own 17), (6, iV .i64 x134)], [(17, some (.row 1 5 (x133.map (encInt .u8))))], 0⟩)) (AWp.cv ?_) ?_
          · replace H := e140; clear e140
            refine AWp.block ?_
            refine AWp.seq ?_
            refine AWp.seq ?_
            obtain ⟨c112, H⟩ := chk_of H
            refine reg hP hn hm [] [0, 5, 6, 7] [8] ⟨[(0, sV a0), (5, .own 8), (6, iV .i64 x109), (7, iV .u8 (bt a0 x109))], [(8, some (.row 1 5 (x108.map (encInt .u8))))], 0⟩ [0 ≤ x109, x109 < (a0.size : Int)] (by kernel_rfl) ⟨by exact c112.1, by exact c112.2, trivial⟩ ?_
            refine AWp.block ?_
            refine AWp.seq ?_
            refine reg hP hn hm [] [0, 5, 6, 7, 24] [8] ⟨[(0, sV a0), (5, .own 8), (6, iV .i64 x109), (7, iV .u8 (bt a0 x109)), (24, bV ((bt a0 x109) == (34 : Int)))], [(8, some (.row 1 5 (x108.map (encInt .u8))))], 0⟩ [] (by kernel_rfl) trivial ?_
            refine AWp.cond ((bt a0 x109) == (34 : Int)) rfl (fun c113 => ?_) (fun c113 => ?_)
            · replace H := (ifT c113).symm.trans H
              refine AWp.seq ?_
              obtain ⟨c115, H⟩ := chk_of H
              refine reg hP hn hm [(1, .more (xStr x108))] [2, 3, 4] [] ⟨[(2, sV (strOf x108)), (3, sV (a0.extract (Int.toNat ((IntKind.i64.wrap (x109 + (1 : Int))))) (Int.toNat ((a0.size : Int))))), (4, bV true)], [], 0⟩ [x108.map (encInt .u8) = x108.map (encInt .u8), 0 ≤ (IntKind.i64.wrap (x109 + (1 : Int))), (IntKind.i64.wrap (x109 + (1 : Int))) ≤ (a0.size : Int), (a0.size : Int) ≤ (a0.size : Int)] (by kernel_rfl) ⟨by exact rfl, by exact c115.1, by exact c115.2.1, by exact c115.2.2, trivial⟩ ?_
              refine AWp.conv (inv := []) (vk := []) (e0 := []) (t := ⟨[(2, sV (strOf x108)), (3, sV (a0.extract (Int.toNat ((IntKind.i64.wrap (x109 + (1 : Int))))) (Int.toNat ((a0.size : Int))))), (4, bV true)], [], 0⟩) (by kernel_rfl) ?_
              refine AWp.ret ?_
              obtain rfl := Option.some.inj H
              exact Exists.intro _ (And.intro (fun _ _ h => h) (And.intro rfl (And.intro rfl (And.intro (by kernel_rfl) (by kernel_rfl)))))
            · replace H := (ifF c113).symm.trans H
              refine AWp.seq ?_
              refine reg hP hn hm [] [0, 5, 6, 7, 33] [8] ⟨[(0, sV a0), (5, .own 8), (6, iV .i64 x109), (7, iV .u8 (bt a0 x109)), (33, bV ((bt a0 x109) == (10 : Int)))], [(8, some (.row 1 5 (x108.map (encInt .u8))))], 0⟩ [] (by kernel_rfl) trivial ?_
              refine AWp.cond ((bt a0 x109) == (10 : Int)) rfl (fun c116 => ?_) (fun c116 => ?_)
              · replace H := (ifT c116).symm.trans H
                refine AWp.seq ?_
                refine reg hP hn hm [] [2, 3, 4] [] ⟨[(2, sV (⟨#[]⟩ : ByteArray)), (3, sV (⟨#[]⟩ : ByteArray)), (4, bV false)], [], 0⟩ [] (by kernel_rfl) trivial ?_
                refine AWp.conv (inv := []) (vk := []) (e0 := []) (t := ⟨[(2, sV (⟨#[]⟩ : ByteArray)), (3, sV (⟨#[]⟩ : ByteArray)), (4, bV false)], [], 0⟩) (by kernel_rfl) ?_
                refine AWp.ret ?_
                obtain rfl := Option.some.inj H
                exact Exists.intro _ (And.intro (fun _ _ h => h) (And.intro rfl (And.intro rfl (And.intro (by kernel_rfl) (by kernel_rfl)))))
              · replace H := (ifF c116).symm.trans H
                refine AWp.seq ?_
                refine reg hP hn hm [] [0, 5, 6, 7, 36] [8] ⟨[(0, sV a0), (5, .own 8), (6, iV .i64 x109), (7, iV .u8 (bt a0 x109)), (36, bV ((bt a0 x109) != (92 : Int)))], [(8, some (.row 1 5 (x108.map (encInt .u8))))], 0⟩ [] (by kernel_rfl) trivial ?_
                refine AWp.cond ((bt a0 x109) != (92 : Int)) rfl (fun c117 => ?_) (fun c117 => ?_)
                · replace H := (ifT c117).symm.trans H
                  refine AWp.seq ?_
                  obtain ⟨c119, H⟩ := chk_of H
                  refine reg hP hn hm [(2, .app 9 ([bt a0 x109].map (encInt .u8))), (3, .app 10 ((x108 ++ [bt a0 x109]).map (encInt .u8)))] [0, 5, 6] [10] ⟨[(0, sV a0), (5, .own 10), (6, iV .i64 x109)], [(10, some (.row 1 5 ((x108 ++ [bt a0 x109]).map (encInt .u8))))], 0⟩ [[bt a0 x109].map (encInt .u8) = [[iI .u8 (bt a0 x109)]], (x108 ++ [bt a0 x109]).map (encInt .u8) = (x108.map (encInt .u8)) ++ ([bt a0 x109].map (encInt .u8)), ∀ c ∈ ([bt a0 x109].map (encInt .u8)), c.length = 1, ∀ c ∈ ([bt a0 x109].map (encInt .u8)), leaves (c.map .im) = true, ((x108.map (encInt .u8)).length + ([bt a0 x109].map (encInt .u8)).length) * 1 ≤ 140737488355328] (by kernel_rfl) ⟨by exact rfl, by simp, by exact all_len _ _ _ (fun _ => rfl), by exact all_leaf _ _ (fun _ => rfl), by simpa using c119, trivial⟩ ?_
                  refine AWp.exit ?_
                  obtain rfl := Option.some.inj H
                  exact Exists.intro _ (And.intro (fun _ _ h => h.conv (inv := [(10, 17)]) (vk := []) (e0 := []) (t := ⟨[(0, sV a0), (5, .own 17), (6, iV .i64 x109)], [(17, some (.row 1 5 ((x108 ++ [bt a0 x109]).map (encInt .u8))))], 0⟩) (by kernel_rfl)) (And.intro rfl rfl))
                · replace H := (ifF c117).symm.trans H
                  refine AWp.skip ?_
                  refine AWp.seq ?_
                  refine reg hP hn hm [] [0, 5, 6] [8] ⟨[(0, sV a0), (5, .own 8), (6, iV .i64 (IntKind.i64.wrap (x109 + (1 : Int))))], [(8, some (.row 1 5 (x108.map (encInt .u8))))], 0⟩ [] (by kernel_rfl) trivial ?_
                  refine AWp.block ?_
                  refine AWp.seq ?_
                  refine reg hP hn hm [] [0, 5, 6, 45] [8] ⟨[(0, sV a0), (5, .own 8), (6, iV .i64 (IntKind.i64.wrap (x109 + (1 : Int)))), (45, bV ((IntKind.i64.wrap (x109 + (1 : Int))) == (a0.size : Int)))], [(8, some (.row 1 5 (x108.map (encInt .u8))))], 0⟩ [] (by kernel_rfl) trivial ?_
                  refine AWp.cond ((IntKind.i64.wrap (x109 + (1 : Int))) == (a0.size : Int)) rfl (fun c120 => ?_) (fun c120 => ?_)
                  · replace H := (ifT c120).symm.trans H
                    refine AWp.seq ?_
                    refine reg hP hn hm [] [2, 3, 4] [] ⟨[(2, sV (⟨#[]⟩ : ByteArray)), (3, sV (⟨#[]⟩ : ByteArray)), (4, bV false)], [], 0⟩ [] (by kernel_rfl) trivial ?_
                    refine AWp.conv (inv := []) (vk := []) (e0 := []) (t := ⟨[(2, sV (⟨#[]⟩ : ByteArray)), (3, sV (⟨#[]⟩ : ByteArray)), (4, bV false)], [], 0⟩) (by kernel_rfl) ?_
                    refine AWp.ret ?_
                    obtain rfl := Option.some.inj H
                    exact Exists.intro _ (And.intro (fun _ _ h => h) (And.intro rfl (And.intro rfl (And.intro (by kernel_rfl) (by kernel_rfl)))))
                  · replace H := (ifF c120).symm.trans H
                    refine AWp.seq ?_
                    obtain ⟨c122, H⟩ := chk_of H
                    refine reg hP hn hm [] [0, 5, 6, 50] [8] ⟨[(0, sV a0), (5, .own 8), (6, iV .i64 (IntKind.i64.wrap (x109 + (1 : Int)))), (50, bV ((bt a0 (IntKind.i64.wrap (x109 + (1 : Int)))) == (110 : Int)))], [(8, some (.row 1 5 (x108.map (encInt .u8))))], 0⟩ [0 ≤ (IntKind.i64.wrap (x109 + (1 : Int))), (IntKind.i64.wrap (x109 + (1 : Int))) < (a0.size : Int)] (by kernel_rfl) ⟨by exact c122.1, by exact c122.2, trivial⟩ ?_
                    obtain ⟨o141, e142, H⟩ := bind_of H
                    refine AWp.mono (Q := fun e s => (match (generalizing := false) o141 with | .inl rr => e = .ret ∧ s.floor = 0 ∧ resOf Try.prog Try.f13 s = some (.tup [sV rr.1, sV rr.2.1, bV rr.2.2]) ∧ ([] : List (Nat × Option MObj)) = [] | .inr x132 => e = .normal ∧ s = ⟨[(0, sV a0), (5, .own 16), (6, iV .i64 (IntKind.i64.wrap (x109 + (1 : Int))))], [(16, some (.row 1 5 (x132.map (encInt .u8))))], 0⟩)) (AWp.cv ?_) ?_
                    · replace H := e142; clear e142
                      refine AWp.cond ((bt a0 (IntKind.i64.wrap (x109 + (1 : Int)))) == (110 : Int)) rfl (fun c123 => ?_) (fun c123 => ?_)
                      · replace H := (ifT c123).symm.trans H
                        obtain ⟨c125, H⟩ := chk_of H
                        refine reg hP hn hm [(1, .app 11 ([10].map (encInt .u8))), (2, .app 12 ((x108 ++ [10]).map (encInt .u8)))] [0, 5, 6] [12] ⟨[(0, sV a0), (5, .own 12), (6, iV .i64 (IntKind.i64.wrap (x109 + (1 : Int))))], [(12, some (.row 1 5 ((x108 ++ [10]).map (encInt .u8))))], 0⟩ [[10].map (encInt .u8) = [[iI .u8 10]], (x108 ++ [10]).map (encInt .u8) = (x108.map (encInt .u8)) ++ ([10].map (encInt .u8)), ∀ c ∈ ([10].map (encInt .u8)), c.length = 1, ∀ c ∈ ([10].map (encInt .u8)), leaves (c.map .im) = true, ((x108.map (encInt .u8)).length + ([10].map (encInt .u8)).length) * 1 ≤ 140737488355328] (by kernel_rfl) ⟨by exact rfl, by simp, by exact all_len _ _ _ (fun _ => rfl), by exact all_leaf _ _ (fun _ => rfl), by simpa using c125, trivial⟩ ?_
                        obtain rfl := Option.some.inj H
                        exact Exists.intro _ (And.intro (fun _ _ h => h.conv (inv := [(12, 16)]) (vk := []) (e0 := []) (t := ⟨[(0, sV a0), (5, .own 16), (6, iV .i64 (IntKind.i64.wrap (x109 + (1 : Int))))], [(16, some (.row 1 5 ((x108 ++ [10]).map (encInt .u8))))], 0⟩) (by kernel_rfl)) (And.intro rfl rfl))
                      · replace H := (ifF c123).symm.trans H
                        refine AWp.seq ?_
                        obtain ⟨o143, e144, H⟩ := bind_of H
                        refine AWp.mono (Q := fun e s => (match (generalizing := false) o143 with | x128 => e = .normal ∧ s = ⟨[(0, sV a0), (5, .own 13), (6, iV .i64 (IntKind.i64.wrap (x109 + (1 : Int)))), (58, bV x128)], [(13, some (.row 1 5 (x108.map (encInt .u8))))], 0⟩)) (AWp.cv ?_) ?_
                        · replace H := e144; clear e144
                          rcases Bool.eq_false_or_eq_true ((bt a0 (IntKind.i64.wrap (x109 + (1 : Int)))) == (34 : Int)) with c127 | c127
                          · replace H := (ifT c127).symm.trans H
                            refine reg hP hn hm [(4, .b true)] [0, 5, 6, 58] [8] ⟨[(0, sV a0), (5, .own 8), (6, iV .i64 (IntKind.i64.wrap (x109 + (1 : Int)))), (58, bV true)], [(8, some (.row 1 5 (x108.map (encInt .u8))))], 0⟩ [0 ≤ (IntKind.i64.wrap (x109 + (1 : Int))), (IntKind.i64.wrap (x109 + (1 : Int))) < (a0.size : Int), ((bt a0 (IntKind.i64.wrap (x109 + (1 : Int)))) == (34 : Int)) = true] (by kernel_rfl) ⟨by exact c122.1, by exact c122.2, by exact c127, trivial⟩ ?_
                            obtain rfl := Option.some.inj H
                            exact Exists.intro _ (And.intro (fun _ _ h => h.conv (inv := [(8, 13)]) (vk := []) (e0 := []) (t := ⟨[(0, sV a0), (5, .own 13), (6, iV .i64 (IntKind.i64.wrap (x109 + (1 : Int)))), (58, bV true)], [(13, some (.row 1 5 (x108.map (encInt .u8))))], 0⟩) (by kernel_rfl)) (And.intro rfl rfl))
                          · replace H := (ifF c127).symm.trans H
                            refine reg hP hn hm [(4, .b false)] [0, 5, 6, 58, 64, 65, 66, 67] [8] ⟨[(0, sV a0), (5, .own 8), (6, iV .i64 (IntKind.i64.wrap (x109 + (1 : Int)))), (58, bV ((bt a0 (IntKind.i64.wrap (x109 + (1 : Int)))) == (92 : Int))), (64, sV a0), (65, iV .i64 (IntKind.i64.wrap (x109 + (1 : Int)))), (66, iV .u8 (bt a0 (IntKind.i64.wrap (x109 + (1 : Int))))), (67, bV ((bt a0 (IntKind.i64.wrap (x109 + (1 : Int)))) == (92 : Int)))], [(8, some (.row 1 5 (x108.map (encInt .u8))))], 0⟩ [0 ≤ (IntKind.i64.wrap (x109 + (1 : Int))), (IntKind.i64.wrap (x109 + (1 : Int))) < (a0.size : Int), ((bt a0 (IntKind.i64.wrap (x109 + (1 : Int)))) == (34 : Int)) = false, 0 ≤ (IntKind.i64.wrap (x109 + (1 : Int))), (IntKind.i64.wrap (x109 + (1 : Int))) < (a0.size : Int)] (by kernel_rfl) ⟨by exact c122.1, by exact c122.2, by exact c127, by exact c122.1, by exact c122.2, trivial⟩ ?_
                            obtain rfl := Option.some.inj H
                            exact Exists.intro _ (And.intro (fun _ _ h => h.conv (inv := [(8, 13)]) (vk := []) (e0 := []) (t := ⟨[(0, sV a0), (5, .own 13), (6, iV .i64 (IntKind.i64.wrap (x109 + (1 : Int)))), (58, bV ((bt a0 (IntKind.i64.wrap (x109 + (1 : Int)))) == (92 : Int)))], [(13, some (.row 1 5 (x108.map (encInt .u8))))], 0⟩) (by kernel_rfl)) (And.intro rfl rfl))
                        · obtain ⟨x128, rfl⟩ : ∃ z, z = o143 := ⟨_, rfl⟩
                          rintro e s ⟨rfl, rfl⟩
                          refine AWp.cond x128 rfl (fun c129 => ?_) (fun c129 => ?_)
                          · replace H := (ifT c129).symm.trans H
                            obtain ⟨c131, H⟩ := chk_of H
                            refine reg hP hn hm [(4, .app 14 ([bt a0 (IntKind.i64.wrap (x109 + (1 : Int)))].map (encInt .u8))), (5, .app 15 ((x108 ++ [bt a0 (IntKind.i64.wrap (x109 + (1 : Int)))]).map (encInt .u8)))] [0, 5, 6] [15] ⟨[(0, sV a0), (5, .own 15), (6, iV .i64 (IntKind.i64.wrap (x109 + (1 : Int))))], [(15, some (.row 1 5 ((x108 ++ [bt a0 (IntKind.i64.wrap (x109 + (1 : Int)))]).map (encInt .u8))))], 0⟩ [0 ≤ (IntKind.i64.wrap (x109 + (1 : Int))), (IntKind.i64.wrap (x109 + (1 : Int))) < (a0.size : Int), [bt a0 (IntKind.i64.wrap (x109 + (1 : Int)))].map (encInt .u8) = [[iI .u8 (bt a0 (IntKind.i64.wrap (x109 + (1 : Int))))]], (x108 ++ [bt a0 (IntKind.i64.wrap (x109 + (1 : Int)))]).map (encInt .u8) = (x108.map (encInt .u8)) ++ ([bt a0 (IntKind.i64.wrap (x109 + (1 : Int)))].map (encInt .u8)), ∀ c ∈ ([bt a0 (IntKind.i64.wrap (x109 + (1 : Int)))].map (encInt .u8)), c.length = 1, ∀ c ∈ ([bt a0 (IntKind.i64.wrap (x109 + (1 : Int)))].map (encInt .u8)), leaves (c.map .im) = true, ((x108.map (encInt .u8)).length + ([bt a0 (IntKind.i64.wrap (x109 + (1 : Int)))].map (encInt .u8)).length) * 1 ≤ 140737488355328] (by kernel_rfl) ⟨by exact c122.1, by exact c122.2, by exact rfl, by simp, by exact all_len _ _ _ (fun _ => rfl), by exact all_leaf _ _ (fun _ => rfl), by simpa using c131, trivial⟩ ?_
                            obtain rfl := Option.some.inj H
                            exact Exists.intro _ (And.intro (fun _ _ h => h.conv (inv := [(15, 16)]) (vk := []) (e0 := []) (t := ⟨[(0, sV a0), (5, .own 16), (6, iV .i64 (IntKind.i64.wrap (x109 + (1 : Int))))], [(16, some (.row 1 5 ((x108 ++ [bt a0 (IntKind.i64.wrap (x109 + (1 : Int)))]).map (encInt .u8))))], 0⟩) (by kernel_rfl)) (And.intro rfl rfl))
                          · replace H := (ifF c129).symm.trans H
                            refine AWp.seq ?_
                            refine reg hP hn hm [] [2, 3, 4] [] ⟨[(2, sV (⟨#[]⟩ : ByteArray)), (3, sV (⟨#[]⟩ : ByteArray)), (4, bV false)], [], 0⟩ [] (by kernel_rfl) trivial ?_
                            refine AWp.conv (inv := []) (vk := []) (e0 := []) (t := ⟨[(2, sV (⟨#[]⟩ : ByteArray)), (3, sV (⟨#[]⟩ : ByteArray)), (4, bV false)], [], 0⟩) (by kernel_rfl) ?_
                            refine AWp.ret ?_
                            obtain rfl := Option.some.inj H
                            exact Exists.intro _ (And.intro (fun _ _ h => h) (And.intro rfl (And.intro rfl (And.intro (by kernel_rfl) (by kernel_rfl)))))
                    · rcases o141 with rr | x132
                      · skip
                        rintro e s ⟨rfl, hfl, hres⟩
                        obtain rfl := Option.some.inj H
                        exact Exists.intro _ (And.intro (fun _ _ h => h) (And.intro rfl (And.intro hfl hres)))
                      · skip
                        rintro e s ⟨rfl, rfl⟩
                        obtain rfl := Option.some.inj H
                        exact Exists.intro _ (And.intro (fun _ _ h => h.conv (inv := [(16, 17)]) (vk := []) (e0 := []) (t := ⟨[(0, sV a0), (5, .own 17), (6, iV .i64 (IntKind.i64.wrap (x109 + (1 : Int))))], [(17, some (.row 1 5 (x132.map (encInt .u8))))], 0⟩) (by kernel_rfl)) (And.intro rfl rfl))
          · rcases o139 with rr | ⟨x133, x134⟩
            · skip
              rintro e s ⟨rfl, hfl, hres⟩
              obtain rfl := Option.some.inj H
              exact Exists.intro _ (And.intro (fun _ _ h => h) (And.intro rfl (And.intro hfl hres)))
            · skip
              rintro e s ⟨rfl, rfl⟩
              refine reg hP hn hm [] [0, 5, 6] [17] ⟨[(0, sV a0), (5, .own 17), (6, iV .i64 (IntKind.i64.wrap (x134 + (1 : Int))))], [(17, some (.row 1 5 (x133.map (encInt .u8))))], 0⟩ [] (by kernel_rfl) trivial ?_
              exact LWp.conv (inv := [(17, 8)]) (vk := []) (e0 := []) (t := ⟨[(0, sV a0), (5, .own 8), (6, iV .i64 (IntKind.i64.wrap (x134 + (1 : Int))))], [(8, some (.row 1 5 (x133.map (encInt .u8))))], 0⟩) (by kernel_rfl) (ih _ _ _ H)
        · replace H := (ifF c110).symm.trans H
          refine AWp.exit ?_
          obtain rfl := Option.some.inj H
          exact Exists.intro _ (And.intro (fun _ _ h => h.conv (inv := []) (vk := []) (e0 := []) (t := ⟨[], [], 0⟩) (by kernel_rfl)) (And.intro rfl rfl))
      · rcases o137 with rr | _
        · skip
          rintro e s ⟨rfl, hfl, hres⟩
          obtain rfl := Option.some.inj H
          exact Exists.intro _ (And.intro (fun _ _ h => h) (And.intro (.inl rfl) (And.intro hfl hres)))
        · skip
          rintro e s ⟨rfl, rfl⟩
          refine AWp.seq ?_
          refine reg hP hn hm [] [2, 3, 4] [] ⟨[(2, sV (⟨#[]⟩ : ByteArray)), (3, sV (⟨#[]⟩ : ByteArray)), (4, bV false)], [], 0⟩ [] (by kernel_rfl) trivial ?_
          refine AWp.conv (inv := []) (vk := []) (e0 := []) (t := ⟨[(2, sV (⟨#[]⟩ : ByteArray)), (3, sV (⟨#[]⟩ : ByteArray)), (4, bV false)], [], 0⟩) (by kernel_rfl) ?_
          refine AWp.ret ?_
          obtain rfl := Option.some.inj H
          exact Exists.intro _ (And.intro (fun _ _ h => h) (And.intro (.inl rfl) (And.intro rfl (And.intro (by kernel_rfl) (by kernel_rfl)))))
def f_label_name.l0 (a0 : ByteArray) (x217 : Int) : Option (Bool ⊕ Unit) := if (decide (x217 < (a0.size : Int))) = true then ((chk (0 ≤ x217 ∧ x217 < (a0.size : Int))) >>= fun _ => ((if (decide ((bt a0 x217) ≥ (97 : Int))) = true then (if (decide ((bt a0 x217) ≤ (122 : Int))) = true then (some true) else (if (decide ((bt a0 x217) ≥ (65 : Int))) = true then (if (decide ((bt a0 x217) ≤ (90 : Int))) = true then (some true) else (some ((bt a0 x217) == (95 : Int)))) else (some ((bt a0 x217) == (95 : Int))))) else (if (decide ((bt a0 x217) ≥ (65 : Int))) = true then (if (decide ((bt a0 x217) ≤ (90 : Int))) = true then (some true) else (some ((bt a0 x217) == (95 : Int)))) else (some ((bt a0 x217) == (95 : Int))))) : Option (Bool)) >>= fun x233 => ((if (!x233) = true then (if (x217 == (0 : Int)) = true then (some true) else (if (decide ((bt a0 x217) < (48 : Int))) = true then (some true) else (some (decide ((bt a0 x217) > (57 : Int)))))) else (some false)) : Option (Bool)) >>= fun x240 => if x240 = true then (some (.inl false)) else (f_label_name.l0 a0 (IntKind.i64.wrap (x217 + (1 : Int))))) else (some (.inr ()))
partial_fixpoint
def f_label_name.f (a0 : ByteArray) : Option (Bool) := ((if (a0.toList == (⟨#[]⟩ : ByteArray).toList) = true then (some true) else (some (decide ((a0.size : Int) > (64 : Int))))) : Option (Bool)) >>= fun x195 => if x195 = true then (some false) else ((f_label_name.l0 a0 0) >>= fun oo => match oo with | .inl rr => (some rr) | .inr _ => (some true))
theorem f_label_name.ok (a0 : ByteArray) (r : Bool) (H : f_label_name.f a0 = some r) : Pv.Fn Try.prog 63 [sV a0] [] 0 (fun x o => x = bV r ∧ o = []) := by
  unfold f_label_name.f at H
  refine Fn.bodyK [] Try.func63 rfl rfl (fun Γ hP hn => ?_)
  have hm : Try.prog.follows .mixedOrders = true := by kernel_rfl
  replace hn : Γ.n = 54 := hn
  refine AWp.seq ?_
  refine reg hP hn hm [] [0] [] ⟨[(0, sV a0)], [], 0⟩ [] (by kernel_rfl) trivial ?_
  refine AWp.seq ?_
  refine AWp.seq ?_
  obtain ⟨o242, e243, H⟩ := bind_of H
  refine AWp.mono (Q := fun e s => (match (generalizing := false) o242 with | x195 => e = .normal ∧ s = ⟨[(0, sV a0), (12, bV x195)], [], 0⟩)) (AWp.cv ?_) ?_
  · replace H := e243; clear e243
    rcases Bool.eq_false_or_eq_true (a0.toList == (⟨#[]⟩ : ByteArray).toList) with c194 | c194
    · replace H := (ifT c194).symm.trans H
      refine reg hP hn hm [(2, .b true)] [0, 12] [] ⟨[(0, sV a0), (12, bV true)], [], 0⟩ [(a0.toList == (⟨#[]⟩ : ByteArray).toList) = true] (by kernel_rfl) ⟨by exact c194, trivial⟩ ?_
      obtain rfl := Option.some.inj H
      exact Exists.intro _ (And.intro (fun _ _ h => h.conv (inv := []) (vk := []) (e0 := []) (t := ⟨[(0, sV a0), (12, bV true)], [], 0⟩) (by kernel_rfl)) (And.intro rfl rfl))
    · replace H := (ifF c194).symm.trans H
      refine reg hP hn hm [(2, .b false)] [0, 12] [] ⟨[(0, sV a0), (12, bV (decide ((a0.size : Int) > (64 : Int))))], [], 0⟩ [(a0.toList == (⟨#[]⟩ : ByteArray).toList) = false] (by kernel_rfl) ⟨by exact c194, trivial⟩ ?_
      obtain rfl := Option.some.inj H
      exact Exists.intro _ (And.intro (fun _ _ h => h.conv (inv := []) (vk := []) (e0 := []) (t := ⟨[(0, sV a0), (12, bV (decide ((a0.size : Int) > (64 : Int))))], [], 0⟩) (by kernel_rfl)) (And.intro rfl rfl))
  · obtain ⟨x195, rfl⟩ : ∃ z, z = o242 := ⟨_, rfl⟩
    rintro e s ⟨rfl, rfl⟩
    refine AWp.cond x195 rfl (fun c196 => ?_) (fun c196 => ?_)
    · replace H := (ifT c196).symm.trans H
      refine AWp.seq ?_
      refine reg hP hn hm [] [2] [] ⟨[(2, bV false)], [], 0⟩ [] (by kernel_rfl) trivial ?_
      refine AWp.conv (inv := []) (vk := []) (e0 := []) (t := ⟨[(2, bV false)], [], 0⟩) (by kernel_rfl) ?_
      refine AWp.ret ?_
      obtain rfl := Option.some.inj H
      exact Exists.intro _ (And.intro (fun _ _ h => h) (And.intro (.inl rfl) (And.intro rfl (And.intro (by kernel_rfl) (by kernel_rfl)))))
    · replace H := (ifF c196).symm.trans H
      refine AWp.skip ?_
      refine AWp.seq ?_
      refine AWp.seq ?_
      refine reg hP hn hm [] [0, 14, 15] [] ⟨[(0, sV a0), (14, iV .i64 (a0.size : Int)), (15, iV .i64 0)], [], 0⟩ [] (by kernel_rfl) trivial ?_
      refine AWp.block ?_
      obtain ⟨o244, e245, H⟩ := bind_of H
      refine AWp.loop (LWp.conv (inv := []) (vk := []) (e0 := []) (t := ⟨[(0, sV a0), (14, iV .i64 (a0.size : Int)), (15, iV .i64 0)], [], 0⟩) (by kernel_rfl) ?_)
      refine LWp.mono (Q := fun e s => (match (generalizing := false) o244 with | .inl rr => e = .ret ∧ s.floor = 0 ∧ resOf Try.prog Try.f63 s = some (bV rr) ∧ ([] : List (Nat × Option MObj)) = [] | .inr _ => e = .exit 0 ∧ s = ⟨[], [], 0⟩)) (LWp.cv (withBody (fun body hbody => ?_))) ?_
      · refine f_label_name.l0.partial_correctness a0 (motive := fun x217 o244 => LWp Γ body (fun e s => ∃ t, Cv Γ s t ∧ (match (generalizing := false) o244 with | .inl rr => e = .ret ∧ t.floor = 0 ∧ resOf Try.prog Try.f63 t = some (bV rr) ∧ ([] : List (Nat × Option MObj)) = [] | .inr _ => e = .exit 0 ∧ t = ⟨[], [], 0⟩)) ⟨[(0, sV a0), (14, iV .i64 (a0.size : Int)), (15, iV .i64 x217)], [], 0⟩) ?_ _ _ e245
        clear H e245 o244; intro self ih x217 o244 H
        subst hbody
        refine LWp.round ?_
        refine AWp.seq ?_
        refine reg hP hn hm [] [0, 14, 15, 16] [] ⟨[(0, sV a0), (14, iV .i64 (a0.size : Int)), (15, iV .i64 x217), (16, bV (decide (x217 < (a0.size : Int))))], [], 0⟩ [] (by kernel_rfl) trivial ?_
        refine AWp.seq ?_
        refine AWp.cond (decide (x217 < (a0.size : Int))) rfl (fun c218 => ?_) (fun c218 => ?_)
        · replace H := (ifT c218).symm.trans H
          refine AWp.skip ?_
          refine AWp.seq ?_
          refine AWp.block ?_
          refine AWp.seq ?_
          refine reg hP hn hm [] [0, 3, 14, 15] [] ⟨[(0, sV a0), (3, iV .i64 x217), (14, iV .i64 (a0.size : Int)), (15, iV .i64 x217)], [], 0⟩ [] (by kernel_rfl) trivial ?_
          refine AWp.seq ?_
          obtain ⟨c220, H⟩ := chk_of H
          refine reg hP hn hm [] [0, 3, 4, 14, 15] [] ⟨[(0, sV a0), (3, iV .i64 x217), (4, iV .u8 (bt a0 x217)), (14, iV .i64 (a0.size : Int)), (15, iV .i64 x217)], [], 0⟩ [0 ≤ x217, x217 < (a0.size : Int)] (by kernel_rfl) ⟨by exact c220.1, by exact c220.2, trivial⟩ ?_
          refine AWp.seq ?_
          obtain ⟨o246, e247, H⟩ := bind_of H
          refine AWp.mono (Q := fun e s => (match (generalizing := false) o246 with | x233 => e = .normal ∧ s = ⟨[(0, sV a0), (3, iV .i64 x217), (4, iV .u8 (bt a0 x217)), (5, bV x233), (14, iV .i64 (a0.size : Int)), (15, iV .i64 x217)], [], 0⟩)) (AWp.cv ?_) ?_
          · replace H := e247; clear e247
            rcases Bool.eq_false_or_eq_true (decide ((bt a0 x217) ≥ (97 : Int))) with c227 | c227
            · replace H := (ifT c227).symm.trans H
              rcases Bool.eq_false_or_eq_true (decide ((bt a0 x217) ≤ (122 : Int))) with c228 | c228
              · replace H := (ifT c228).symm.trans H
                refine reg hP hn hm [(2, .b true), (6, .b true)] [0, 3, 4, 5, 14, 15, 24, 25] [] ⟨[(0, sV a0), (3, iV .i64 x217), (4, iV .u8 (bt a0 x217)), (5, bV true), (14, iV .i64 (a0.size : Int)), (15, iV .i64 x217), (24, iV .u8 (bt a0 x217)), (25, bV (decide ((bt a0 x217) ≤ (122 : Int))))], [], 0⟩ [(decide ((bt a0 x217) ≥ (97 : Int))) = true, (decide ((bt a0 x217) ≤ (122 : Int))) = true] (by kernel_rfl) ⟨by exact c227, by exact c228, trivial⟩ ?_
                obtain rfl := Option.some.inj H
                exact Exists.intro _ (And.intro (fun _ _ h => h.conv (inv := []) (vk := []) (e0 := []) (t := ⟨[(0, sV a0), (3, iV .i64 x217), (4, iV .u8 (bt a0 x217)), (5, bV true), (14, iV .i64 (a0.size : Int)), (15, iV .i64 x217)], [], 0⟩) (by kernel_rfl)) (And.intro rfl rfl))
              · replace H := (ifF c228).symm.trans H
                rcases Bool.eq_false_or_eq_true (decide ((bt a0 x217) ≥ (65 : Int))) with c229 | c229
                · replace H := (ifT c229).symm.trans H
                  rcases Bool.eq_false_or_eq_true (decide ((bt a0 x217) ≤ (90 : Int))) with c230 | c230
                  · replace H := (ifT c230).symm.trans H
                    refine reg hP hn hm [(2, .b true), (6, .b false), (9, .b true), (14, .b true)] [0, 3, 4, 5, 14, 15, 24, 25, 28, 29, 30, 31, 32, 33] [] ⟨[(0, sV a0), (3, iV .i64 x217), (4, iV .u8 (bt a0 x217)), (5, bV true), (14, iV .i64 (a0.size : Int)), (15, iV .i64 x217), (24, iV .u8 (bt a0 x217)), (25, bV (decide ((bt a0 x217) ≤ (122 : Int)))), (28, iV .u8 (bt a0 x217)), (29, bV (decide ((bt a0 x217) ≥ (65 : Int)))), (30, bV true), (31, iV .u8 (bt a0 x217)), (32, bV (decide ((bt a0 x217) ≤ (90 : Int)))), (33, bV (decide ((bt a0 x217) ≤ (90 : Int))))], [], 0⟩ [(decide ((bt a0 x217) ≥ (97 : Int))) = true, (decide ((bt a0 x217) ≤ (122 : Int))) = false, (decide ((bt a0 x217) ≥ (65 : Int))) = true, (decide ((bt a0 x217) ≤ (90 : Int))) = true] (by kernel_rfl) ⟨by exact c227, by exact c228, by exact c229, by exact c230, trivial⟩ ?_
                    obtain rfl := Option.some.inj H
                    exact Exists.intro _ (And.intro (fun _ _ h => h.conv (inv := []) (vk := []) (e0 := []) (t := ⟨[(0, sV a0), (3, iV .i64 x217), (4, iV .u8 (bt a0 x217)), (5, bV true), (14, iV .i64 (a0.size : Int)), (15, iV .i64 x217)], [], 0⟩) (by kernel_rfl)) (And.intro rfl rfl))
                  · replace H := (ifF c230).symm.trans H
                    refine reg hP hn hm [(2, .b true), (6, .b false), (9, .b true), (14, .b false)] [0, 3, 4, 5, 14, 15, 24, 25, 28, 29, 30, 31, 32, 33, 36, 37] [] ⟨[(0, sV a0), (3, iV .i64 x217), (4, iV .u8 (bt a0 x217)), (5, bV ((bt a0 x217) == (95 : Int))), (14, iV .i64 (a0.size : Int)), (15, iV .i64 x217), (24, iV .u8 (bt a0 x217)), (25, bV (decide ((bt a0 x217) ≤ (122 : Int)))), (28, iV .u8 (bt a0 x217)), (29, bV (decide ((bt a0 x217) ≥ (65 : Int)))), (30, bV true), (31, iV .u8 (bt a0 x217)), (32, bV (decide ((bt a0 x217) ≤ (90 : Int)))), (33, bV (decide ((bt a0 x217) ≤ (90 : Int)))), (36, iV .u8 (bt a0 x217)), (37, bV ((bt a0 x217) == (95 : Int)))], [], 0⟩ [(decide ((bt a0 x217) ≥ (97 : Int))) = true, (decide ((bt a0 x217) ≤ (122 : Int))) = false, (decide ((bt a0 x217) ≥ (65 : Int))) = true, (decide ((bt a0 x217) ≤ (90 : Int))) = false] (by kernel_rfl) ⟨by exact c227, by exact c228, by exact c229, by exact c230, trivial⟩ ?_
                    obtain rfl := Option.some.inj H
                    exact Exists.intro _ (And.intro (fun _ _ h => h.conv (inv := []) (vk := []) (e0 := []) (t := ⟨[(0, sV a0), (3, iV .i64 x217), (4, iV .u8 (bt a0 x217)), (5, bV ((bt a0 x217) == (95 : Int))), (14, iV .i64 (a0.size : Int)), (15, iV .i64 x217)], [], 0⟩) (by kernel_rfl)) (And.intro rfl rfl))
                · replace H := (ifF c229).symm.trans H
                  refine reg hP hn hm [(2, .b true), (6, .b false), (9, .b false)] [0, 3, 4, 5, 14, 15, 24, 25, 28, 29, 30, 33, 36, 37] [] ⟨[(0, sV a0), (3, iV .i64 x217), (4, iV .u8 (bt a0 x217)), (5, bV ((bt a0 x217) == (95 : Int))), (14, iV .i64 (a0.size : Int)), (15, iV .i64 x217), (24, iV .u8 (bt a0 x217)), (25, bV (decide ((bt a0 x217) ≤ (122 : Int)))), (28, iV .u8 (bt a0 x217)), (29, bV (decide ((bt a0 x217) ≥ (65 : Int)))), (30, bV false), (33, bV false), (36, iV .u8 (bt a0 x217)), (37, bV ((bt a0 x217) == (95 : Int)))], [], 0⟩ [(decide ((bt a0 x217) ≥ (97 : Int))) = true, (decide ((bt a0 x217) ≤ (122 : Int))) = false, (decide ((bt a0 x217) ≥ (65 : Int))) = false] (by kernel_rfl) ⟨by exact c227, by exact c228, by exact c229, trivial⟩ ?_
                  obtain rfl := Option.some.inj H
                  exact Exists.intro _ (And.intro (fun _ _ h => h.conv (inv := []) (vk := []) (e0 := []) (t := ⟨[(0, sV a0), (3, iV .i64 x217), (4, iV .u8 (bt a0 x217)), (5, bV ((bt a0 x217) == (95 : Int))), (14, iV .i64 (a0.size : Int)), (15, iV .i64 x217)], [], 0⟩) (by kernel_rfl)) (And.intro rfl rfl))
            · replace H := (ifF c227).symm.trans H
              rcases Bool.eq_false_or_eq_true (decide ((bt a0 x217) ≥ (65 : Int))) with c231 | c231
              · replace H := (ifT c231).symm.trans H
                rcases Bool.eq_false_or_eq_true (decide ((bt a0 x217) ≤ (90 : Int))) with c232 | c232
                · replace H := (ifT c232).symm.trans H
                  refine reg hP hn hm [(2, .b false), (9, .b true), (14, .b true)] [0, 3, 4, 5, 14, 15, 28, 29, 30, 31, 32, 33] [] ⟨[(0, sV a0), (3, iV .i64 x217), (4, iV .u8 (bt a0 x217)), (5, bV true), (14, iV .i64 (a0.size : Int)), (15, iV .i64 x217), (28, iV .u8 (bt a0 x217)), (29, bV (decide ((bt a0 x217) ≥ (65 : Int)))), (30, bV true), (31, iV .u8 (bt a0 x217)), (32, bV (decide ((bt a0 x217) ≤ (90 : Int)))), (33, bV (decide ((bt a0 x217) ≤ (90 : Int))))], [], 0⟩ [(decide ((bt a0 x217) ≥ (97 : Int))) = false, (decide ((bt a0 x217) ≥ (65 : Int))) = true, (decide ((bt a0 x217) ≤ (90 : Int))) = true] (by kernel_rfl) ⟨by exact c227, by exact c231, by exact c232, trivial⟩ ?_
                  obtain rfl := Option.some.inj H
                  exact Exists.intro _ (And.intro (fun _ _ h => h.conv (inv := []) (vk := []) (e0 := []) (t := ⟨[(0, sV a0), (3, iV .i64 x217), (4, iV .u8 (bt a0 x217)), (5, bV true), (14, iV .i64 (a0.size : Int)), (15, iV .i64 x217)], [], 0⟩) (by kernel_rfl)) (And.intro rfl rfl))
                · replace H := (ifF c232).symm.trans H
                  refine reg hP hn hm [(2, .b false), (9, .b true), (14, .b false)] [0, 3, 4, 5, 14, 15, 28, 29, 30, 31, 32, 33, 36, 37] [] ⟨[(0, sV a0), (3, iV .i64 x217), (4, iV .u8 (bt a0 x217)), (5, bV ((bt a0 x217) == (95 : Int))), (14, iV .i64 (a0.size : Int)), (15, iV .i64 x217), (28, iV .u8 (bt a0 x217)), (29, bV (decide ((bt a0 x217) ≥ (65 : Int)))), (30, bV true), (31, iV .u8 (bt a0 x217)), (32, bV (decide ((bt a0 x217) ≤ (90 : Int)))), (33, bV (decide ((bt a0 x217) ≤ (90 : Int)))), (36, iV .u8 (bt a0 x217)), (37, bV ((bt a0 x217) == (95 : Int)))], [], 0⟩ [(decide ((bt a0 x217) ≥ (97 : Int))) = false, (decide ((bt a0 x217) ≥ (65 : Int))) = true, (decide ((bt a0 x217) ≤ (90 : Int))) = false] (by kernel_rfl) ⟨by exact c227, by exact c231, by exact c232, trivial⟩ ?_
                  obtain rfl := Option.some.inj H
                  exact Exists.intro _ (And.intro (fun _ _ h => h.conv (inv := []) (vk := []) (e0 := []) (t := ⟨[(0, sV a0), (3, iV .i64 x217), (4, iV .u8 (bt a0 x217)), (5, bV ((bt a0 x217) == (95 : Int))), (14, iV .i64 (a0.size : Int)), (15, iV .i64 x217)], [], 0⟩) (by kernel_rfl)) (And.intro rfl rfl))
              · replace H := (ifF c231).symm.trans H
                refine reg hP hn hm [(2, .b false), (9, .b false)] [0, 3, 4, 5, 14, 15, 28, 29, 30, 33, 36, 37] [] ⟨[(0, sV a0), (3, iV .i64 x217), (4, iV .u8 (bt a0 x217)), (5, bV ((bt a0 x217) == (95 : Int))), (14, iV .i64 (a0.size : Int)), (15, iV .i64 x217), (28, iV .u8 (bt a0 x217)), (29, bV (decide ((bt a0 x217) ≥ (65 : Int)))), (30, bV false), (33, bV false), (36, iV .u8 (bt a0 x217)), (37, bV ((bt a0 x217) == (95 : Int)))], [], 0⟩ [(decide ((bt a0 x217) ≥ (97 : Int))) = false, (decide ((bt a0 x217) ≥ (65 : Int))) = false] (by kernel_rfl) ⟨by exact c227, by exact c231, trivial⟩ ?_
                obtain rfl := Option.some.inj H
                exact Exists.intro _ (And.intro (fun _ _ h => h.conv (inv := []) (vk := []) (e0 := []) (t := ⟨[(0, sV a0), (3, iV .i64 x217), (4, iV .u8 (bt a0 x217)), (5, bV ((bt a0 x217) == (95 : Int))), (14, iV .i64 (a0.size : Int)), (15, iV .i64 x217)], [], 0⟩) (by kernel_rfl)) (And.intro rfl rfl))
          · obtain ⟨x233, rfl⟩ : ∃ z, z = o246 := ⟨_, rfl⟩
            rintro e s ⟨rfl, rfl⟩
            refine AWp.seq ?_
            obtain ⟨o248, e249, H⟩ := bind_of H
            refine AWp.mono (Q := fun e s => (match (generalizing := false) o248 with | x240 => e = .normal ∧ s = ⟨[(0, sV a0), (14, iV .i64 (a0.size : Int)), (15, iV .i64 x217), (52, bV x240)], [], 0⟩)) (AWp.cv ?_) ?_
            · replace H := e249; clear e249
              rcases Bool.eq_false_or_eq_true (!x233) with c237 | c237
              · replace H := (ifT c237).symm.trans H
                rcases Bool.eq_false_or_eq_true (x217 == (0 : Int)) with c238 | c238
                · replace H := (ifT c238).symm.trans H
                  refine reg hP hn hm [(2, .b true), (5, .b true)] [0, 14, 15, 42, 43, 44, 47, 48, 51, 52] [] ⟨[(0, sV a0), (14, iV .i64 (a0.size : Int)), (15, iV .i64 x217), (42, iV .i64 x217), (43, bV (x217 == (0 : Int))), (44, bV true), (47, bV true), (48, bV true), (51, bV true), (52, bV true)], [], 0⟩ [(!x233) = true, (x217 == (0 : Int)) = true] (by kernel_rfl) ⟨by exact c237, by exact c238, trivial⟩ ?_
                  obtain rfl := Option.some.inj H
                  exact Exists.intro _ (And.intro (fun _ _ h => h.conv (inv := []) (vk := []) (e0 := []) (t := ⟨[(0, sV a0), (14, iV .i64 (a0.size : Int)), (15, iV .i64 x217), (52, bV true)], [], 0⟩) (by kernel_rfl)) (And.intro rfl rfl))
                · replace H := (ifF c238).symm.trans H
                  rcases Bool.eq_false_or_eq_true (decide ((bt a0 x217) < (48 : Int))) with c239 | c239
                  · replace H := (ifT c239).symm.trans H
                    refine reg hP hn hm [(2, .b true), (5, .b false), (9, .b true)] [0, 14, 15, 42, 43, 44, 45, 46, 47, 48, 51, 52] [] ⟨[(0, sV a0), (14, iV .i64 (a0.size : Int)), (15, iV .i64 x217), (42, iV .i64 x217), (43, bV (x217 == (0 : Int))), (44, bV false), (45, iV .u8 (bt a0 x217)), (46, bV (decide ((bt a0 x217) < (48 : Int)))), (47, bV (decide ((bt a0 x217) < (48 : Int)))), (48, bV true), (51, bV true), (52, bV true)], [], 0⟩ [(!x233) = true, (x217 == (0 : Int)) = false, (decide ((bt a0 x217) < (48 : Int))) = true] (by kernel_rfl) ⟨by exact c237, by exact c238, by exact c239, trivial⟩ ?_
                    obtain rfl := Option.some.inj H
                    exact Exists.intro _ (And.intro (fun _ _ h => h.conv (inv := []) (vk := []) (e0 := []) (t := ⟨[(0, sV a0), (14, iV .i64 (a0.size : Int)), (15, iV .i64 x217), (52, bV true)], [], 0⟩) (by kernel_rfl)) (And.intro rfl rfl))
                  · replace H := (ifF c239).symm.trans H
                    refine reg hP hn hm [(2, .b true), (5, .b false), (9, .b false)] [0, 14, 15, 42, 43, 44, 45, 46, 47, 48, 49, 50, 51, 52] [] ⟨[(0, sV a0), (14, iV .i64 (a0.size : Int)), (15, iV .i64 x217), (42, iV .i64 x217), (43, bV (x217 == (0 : Int))), (44, bV false), (45, iV .u8 (bt a0 x217)), (46, bV (decide ((bt a0 x217) < (48 : Int)))), (47, bV (decide ((bt a0 x217) < (48 : Int)))), (48, bV false), (49, iV .u8 (bt a0 x217)), (50, bV (decide ((bt a0 x217) > (57 : Int)))), (51, bV (decide ((bt a0 x217) > (57 : Int)))), (52, bV (decide ((bt a0 x217) > (57 : Int))))], [], 0⟩ [(!x233) = true, (x217 == (0 : Int)) = false, (decide ((bt a0 x217) < (48 : Int))) = false] (by kernel_rfl) ⟨by exact c237, by exact c238, by exact c239, trivial⟩ ?_
                    obtain rfl := Option.some.inj H
                    exact Exists.intro _ (And.intro (fun _ _ h => h.conv (inv := []) (vk := []) (e0 := []) (t := ⟨[(0, sV a0), (14, iV .i64 (a0.size : Int)), (15, iV .i64 x217), (52, bV (decide ((bt a0 x217) > (57 : Int))))], [], 0⟩) (by kernel_rfl)) (And.intro rfl rfl))
              · replace H := (ifF c237).symm.trans H
                refine reg hP hn hm [(2, .b false)] [0, 14, 15, 52] [] ⟨[(0, sV a0), (14, iV .i64 (a0.size : Int)), (15, iV .i64 x217), (52, bV false)], [], 0⟩ [(!x233) = false] (by kernel_rfl) ⟨by exact c237, trivial⟩ ?_
                obtain rfl := Option.some.inj H
                exact Exists.intro _ (And.intro (fun _ _ h => h.conv (inv := []) (vk := []) (e0 := []) (t := ⟨[(0, sV a0), (14, iV .i64 (a0.size : Int)), (15, iV .i64 x217), (52, bV false)], [], 0⟩) (by kernel_rfl)) (And.intro rfl rfl))
            · obtain ⟨x240, rfl⟩ : ∃ z, z = o248 := ⟨_, rfl⟩
              rintro e s ⟨rfl, rfl⟩
              refine AWp.cond x240 rfl (fun c241 => ?_) (fun c241 => ?_)
              · replace H := (ifT c241).symm.trans H
                refine AWp.seq ?_
                refine reg hP hn hm [] [2] [] ⟨[(2, bV false)], [], 0⟩ [] (by kernel_rfl) trivial ?_
                refine AWp.conv (inv := []) (vk := []) (e0 := []) (t := ⟨[(2, bV false)], [], 0⟩) (by kernel_rfl) ?_
                refine AWp.ret ?_
                obtain rfl := Option.some.inj H
                exact Exists.intro _ (And.intro (fun _ _ h => h) (And.intro rfl (And.intro rfl (And.intro (by kernel_rfl) (by kernel_rfl)))))
              · replace H := (ifF c241).symm.trans H
                refine AWp.skip ?_
                refine reg hP hn hm [] [0, 14, 15] [] ⟨[(0, sV a0), (14, iV .i64 (a0.size : Int)), (15, iV .i64 (IntKind.i64.wrap (x217 + (1 : Int))))], [], 0⟩ [] (by kernel_rfl) trivial ?_
                exact LWp.conv (inv := []) (vk := []) (e0 := []) (t := ⟨[(0, sV a0), (14, iV .i64 (a0.size : Int)), (15, iV .i64 (IntKind.i64.wrap (x217 + (1 : Int))))], [], 0⟩) (by kernel_rfl) (ih _ _ H)
        · replace H := (ifF c218).symm.trans H
          refine AWp.exit ?_
          obtain rfl := Option.some.inj H
          exact Exists.intro _ (And.intro (fun _ _ h => h.conv (inv := []) (vk := []) (e0 := []) (t := ⟨[], [], 0⟩) (by kernel_rfl)) (And.intro rfl rfl))
      · rcases o244 with rr | _
        · skip
          rintro e s ⟨rfl, hfl, hres⟩
          obtain rfl := Option.some.inj H
          exact Exists.intro _ (And.intro (fun _ _ h => h) (And.intro (.inl rfl) (And.intro hfl hres)))
        · skip
          rintro e s ⟨rfl, rfl⟩
          refine AWp.seq ?_
          refine reg hP hn hm [] [2] [] ⟨[(2, bV true)], [], 0⟩ [] (by kernel_rfl) trivial ?_
          refine AWp.conv (inv := []) (vk := []) (e0 := []) (t := ⟨[(2, bV true)], [], 0⟩) (by kernel_rfl) ?_
          refine AWp.ret ?_
          obtain rfl := Option.some.inj H
          exact Exists.intro _ (And.intro (fun _ _ h => h) (And.intro (.inl rfl) (And.intro rfl (And.intro (by kernel_rfl) (by kernel_rfl)))))
def f_label_value.f (a0 : ByteArray) : Option (Bool) := ((if (!(a0.toList == (⟨#[]⟩ : ByteArray).toList)) = true then (some (decide ((a0.size : Int) ≤ (64 : Int)))) else (some false)) : Option (Bool)) >>= fun x255 => some x255
theorem f_label_value.ok (a0 : ByteArray) (r : Bool) (H : f_label_value.f a0 = some r) : Pv.Fn Try.prog 64 [sV a0] [] 0 (fun x o => x = bV r ∧ o = []) := by
  unfold f_label_value.f at H
  refine Fn.bodyK [] Try.func64 rfl rfl (fun Γ hP hn => ?_)
  have hm : Try.prog.follows .mixedOrders = true := by kernel_rfl
  replace hn : Γ.n = 10 := hn
  refine AWp.seq ?_
  refine reg hP hn hm [] [0] [] ⟨[(0, sV a0)], [], 0⟩ [] (by kernel_rfl) trivial ?_
  refine AWp.seq ?_
  obtain ⟨o256, e257, H⟩ := bind_of H
  refine AWp.mono (Q := fun e s => (match (generalizing := false) o256 with | x255 => e = .normal ∧ s = ⟨[(2, bV x255)], [], 0⟩)) (AWp.cv ?_) ?_
  · replace H := e257; clear e257
    rcases Bool.eq_false_or_eq_true (!(a0.toList == (⟨#[]⟩ : ByteArray).toList)) with c254 | c254
    · replace H := (ifT c254).symm.trans H
      refine reg hP hn hm [(2, .b true)] [2] [] ⟨[(2, bV (decide ((a0.size : Int) ≤ (64 : Int))))], [], 0⟩ [(!(a0.toList == (⟨#[]⟩ : ByteArray).toList)) = true] (by kernel_rfl) ⟨by exact c254, trivial⟩ ?_
      obtain rfl := Option.some.inj H
      exact Exists.intro _ (And.intro (fun _ _ h => h.conv (inv := []) (vk := []) (e0 := []) (t := ⟨[(2, bV (decide ((a0.size : Int) ≤ (64 : Int))))], [], 0⟩) (by kernel_rfl)) (And.intro rfl rfl))
    · replace H := (ifF c254).symm.trans H
      refine reg hP hn hm [(2, .b false)] [2] [] ⟨[(2, bV false)], [], 0⟩ [(!(a0.toList == (⟨#[]⟩ : ByteArray).toList)) = false] (by kernel_rfl) ⟨by exact c254, trivial⟩ ?_
      obtain rfl := Option.some.inj H
      exact Exists.intro _ (And.intro (fun _ _ h => h.conv (inv := []) (vk := []) (e0 := []) (t := ⟨[(2, bV false)], [], 0⟩) (by kernel_rfl)) (And.intro rfl rfl))
  · obtain ⟨x255, rfl⟩ : ∃ z, z = o256 := ⟨_, rfl⟩
    rintro e s ⟨rfl, rfl⟩
    refine AWp.conv (inv := []) (vk := []) (e0 := []) (t := ⟨[(2, bV x255)], [], 0⟩) (by kernel_rfl) ?_
    refine AWp.ret ?_
    obtain rfl := Option.some.inj H
    exact Exists.intro _ (And.intro (fun _ _ h => h) (And.intro (.inl rfl) (And.intro rfl (And.intro (by kernel_rfl) (by kernel_rfl)))))
def f_label_Check.l0 (a0 : List TLabel) (x269 : Int) : Option (Int ⊕ Unit) := if (decide (x269 < (a0.length : Int))) = true then ((at? a0 x269) >>= fun b274 => (((f_label_name.f b274.f0) >>= fun t287 => if (!t287) = true then (some true) else ((f_label_value.f b274.f1) >>= fun t290 => if (!t290) = true then (some true) else (if (decide (x269 > (0 : Int))) = true then ((at? a0 (IntKind.i64.wrap (x269 - (1 : Int)))) >>= fun b294 => some (!Op.bytesLess b294.f0.toList b274.f0.toList)) else (some false)))) : Option (Bool)) >>= fun x297 => if x297 = true then (some (.inl 26)) else (f_label_Check.l0 a0 (IntKind.i64.wrap (x269 + (1 : Int))))) else (some (.inr ()))
partial_fixpoint
def f_label_Check.f (a0 : List TLabel) : Option (Int) := if (decide ((a0.length : Int) > (16 : Int))) = true then (some 9) else ((f_label_Check.l0 a0 0) >>= fun oo => match oo with | .inl rr => (some rr) | .inr _ => (some 0))
theorem f_label_Check.ok (a0 : List TLabel) (r : Int) (H : f_label_Check.f a0 = some r) : Pv.Fn Try.prog 35 [.im (.row (a0.map eLabel))] [] 0 (fun x o => x = iV .i64 r ∧ o = []) := by
  unfold f_label_Check.f at H
  refine Fn.bodyK [] Try.func35 rfl rfl (fun Γ hP hn => ?_)
  have hm : Try.prog.follows .mixedOrders = true := by kernel_rfl
  replace hn : Γ.n = 41 := hn
  refine AWp.seq ?_
  refine reg hP hn hm [] [0] [] ⟨[(0, .im (.row (a0.map eLabel)))], [], 0⟩ [] (by kernel_rfl) trivial ?_
  refine AWp.seq ?_
  refine AWp.seq ?_
  refine reg hP hn hm [(1, .any (iV .i64 (a0.length : Int)))] [0, 7] [] ⟨[(0, .im (.row (a0.map eLabel))), (7, bV (decide ((a0.length : Int) > (16 : Int))))], [], 0⟩ [((a0.map eLabel).length : Int) = (a0.length : Int)] (by kernel_rfl) ⟨by rw [len_map], trivial⟩ ?_
  refine AWp.cond (decide ((a0.length : Int) > (16 : Int))) rfl (fun c185 => ?_) (fun c185 => ?_)
  · replace H := (ifT c185).symm.trans H
    refine AWp.seq ?_
    refine reg hP hn hm [] [2] [] ⟨[(2, iV .i64 9)], [], 0⟩ [] (by kernel_rfl) trivial ?_
    refine AWp.conv (inv := []) (vk := []) (e0 := []) (t := ⟨[(2, iV .i64 9)], [], 0⟩) (by kernel_rfl) ?_
    refine AWp.ret ?_
    obtain rfl := Option.some.inj H
    exact Exists.intro _ (And.intro (fun _ _ h => h) (And.intro (.inl rfl) (And.intro rfl (And.intro (by kernel_rfl) (by kernel_rfl)))))
  · replace H := (ifF c185).symm.trans H
    refine AWp.skip ?_
    refine AWp.seq ?_
    refine AWp.seq ?_
    refine reg hP hn hm [(1, .any (iV .i64 (a0.length : Int)))] [0, 8, 9, 10] [] ⟨[(0, .im (.row (a0.map eLabel))), (8, .im (.row (a0.map eLabel))), (9, iV .i64 (a0.length : Int)), (10, iV .i64 0)], [], 0⟩ [((a0.map eLabel).length : Int) = (a0.length : Int)] (by kernel_rfl) ⟨by rw [len_map], trivial⟩ ?_
    refine AWp.block ?_
    obtain ⟨o299, e300, H⟩ := bind_of H
    refine AWp.loop (LWp.conv (inv := []) (vk := []) (e0 := []) (t := ⟨[(0, .im (.row (a0.map eLabel))), (8, .im (.row (a0.map eLabel))), (9, iV .i64 (a0.length : Int)), (10, iV .i64 0)], [], 0⟩) (by kernel_rfl) ?_)
    refine LWp.mono (Q := fun e s => (match (generalizing := false) o299 with | .inl rr => e = .ret ∧ s.floor = 0 ∧ resOf Try.prog Try.f35 s = some (iV .i64 rr) ∧ ([] : List (Nat × Option MObj)) = [] | .inr _ => e = .exit 0 ∧ s = ⟨[], [], 0⟩)) (LWp.cv (withBody (fun body hbody => ?_))) ?_
    · refine f_label_Check.l0.partial_correctness a0 (motive := fun x269 o299 => LWp Γ body (fun e s => ∃ t, Cv Γ s t ∧ (match (generalizing := false) o299 with | .inl rr => e = .ret ∧ t.floor = 0 ∧ resOf Try.prog Try.f35 t = some (iV .i64 rr) ∧ ([] : List (Nat × Option MObj)) = [] | .inr _ => e = .exit 0 ∧ t = ⟨[], [], 0⟩)) ⟨[(0, .im (.row (a0.map eLabel))), (8, .im (.row (a0.map eLabel))), (9, iV .i64 (a0.length : Int)), (10, iV .i64 x269)], [], 0⟩) ?_ _ _ e300
      clear H e300 o299; intro self ih x269 o299 H
      subst hbody
      refine LWp.round ?_
      refine AWp.seq ?_
      refine reg hP hn hm [] [0, 8, 9, 10, 11] [] ⟨[(0, .im (.row (a0.map eLabel))), (8, .im (.row (a0.map eLabel))), (9, iV .i64 (a0.length : Int)), (10, iV .i64 x269), (11, bV (decide (x269 < (a0.length : Int))))], [], 0⟩ [] (by kernel_rfl) trivial ?_
      refine AWp.seq ?_
      refine AWp.cond (decide (x269 < (a0.length : Int))) rfl (fun c270 => ?_) (fun c270 => ?_)
      · replace H := (ifT c270).symm.trans H
        refine AWp.skip ?_
        refine AWp.seq ?_
        refine AWp.block ?_
        refine AWp.seq ?_
        obtain ⟨b274, p275, q276, H⟩ := at_of H
        refine reg hP hn hm [(1, .c (eLabel b274)), (3, .k 1)] [0, 3, 4, 8, 9, 10] [1] ⟨[(0, .im (.row (a0.map eLabel))), (3, iV .i64 x269), (4, .ptr 1 0 0), (8, .im (.row (a0.map eLabel))), (9, iV .i64 (a0.length : Int)), (10, iV .i64 x269)], [(1, some (.box 67 (aLabel b274)))], 0⟩ [0 ≤ x269, (a0.map eLabel)[(Int.toNat (x269))]? = some (eLabel b274)] (by kernel_rfl) ⟨by exact p275, by exact el_map eLabel q276, trivial⟩ ?_
        refine AWp.seq ?_
        obtain ⟨o301, e302, H⟩ := bind_of H
        refine AWp.mono (Q := fun e s => (match (generalizing := false) o301 with | x297 => e = .normal ∧ s = ⟨[(0, .im (.row (a0.map eLabel))), (8, .im (.row (a0.map eLabel))), (9, iV .i64 (a0.length : Int)), (10, iV .i64 x269), (39, bV x297)], [], 0⟩)) (AWp.cv ?_) ?_
        · replace H := e302; clear e302
          obtain ⟨t287, e288, H⟩ := bind_of H
          rcases Bool.eq_false_or_eq_true (!t287) with c289 | c289
          · replace H := (ifT c289).symm.trans H
            refine reg hP hn hm [(2, .call [] [] [] [] 0 (bV t287) []), (4, .b true)] [0, 8, 9, 10, 39] [] ⟨[(0, .im (.row (a0.map eLabel))), (8, .im (.row (a0.map eLabel))), (9, iV .i64 (a0.length : Int)), (10, iV .i64 x269), (39, bV true)], [], 0⟩ [Enters Try.prog 63, Pv.Fn Try.prog 63 [sV b274.f0] [] 0 (fun r o => r = bV t287 ∧ o = []), (!t287) = true] (by kernel_rfl) ⟨by exact Try.call63, by exact f_label_name.ok b274.f0 t287 e288, by exact c289, trivial⟩ ?_
            obtain rfl := Option.some.inj H
            exact Exists.intro _ (And.intro (fun _ _ h => h.conv (inv := []) (vk := []) (e0 := []) (t := ⟨[(0, .im (.row (a0.map eLabel))), (8, .im (.row (a0.map eLabel))), (9, iV .i64 (a0.length : Int)), (10, iV .i64 x269), (39, bV true)], [], 0⟩) (by kernel_rfl)) (And.intro rfl rfl))
          · replace H := (ifF c289).symm.trans H
            obtain ⟨t290, e291, H⟩ := bind_of H
            rcases Bool.eq_false_or_eq_true (!t290) with c292 | c292
            · replace H := (ifT c292).symm.trans H
              refine reg hP hn hm [(2, .call [] [] [] [] 0 (bV t287) []), (4, .b false), (7, .call [] [] [] [] 0 (bV t290) []), (10, .b true)] [0, 8, 9, 10, 20, 21, 22, 23, 39] [1] ⟨[(0, .im (.row (a0.map eLabel))), (8, .im (.row (a0.map eLabel))), (9, iV .i64 (a0.length : Int)), (10, iV .i64 x269), (20, .ptr 1 0 1), (21, sV b274.f1), (22, bV t290), (23, bV (!t290)), (39, bV true)], [(1, some (.box 67 (aLabel b274)))], 0⟩ [Enters Try.prog 63, Pv.Fn Try.prog 63 [sV b274.f0] [] 0 (fun r o => r = bV t287 ∧ o = []), (!t287) = false, Enters Try.prog 64, Pv.Fn Try.prog 64 [sV b274.f1] [] 0 (fun r o => r = bV t290 ∧ o = []), (!t290) = true] (by kernel_rfl) ⟨by exact Try.call63, by exact f_label_name.ok b274.f0 t287 e288, by exact c289, by exact Try.call64, by exact f_label_value.ok b274.f1 t290 e291, by exact c292, trivial⟩ ?_
              obtain rfl := Option.some.inj H
              exact Exists.intro _ (And.intro (fun _ _ h => h.conv (inv := []) (vk := []) (e0 := []) (t := ⟨[(0, .im (.row (a0.map eLabel))), (8, .im (.row (a0.map eLabel))), (9, iV .i64 (a0.length : Int)), (10, iV .i64 x269), (39, bV true)], [], 0⟩) (by kernel_rfl)) (And.intro rfl rfl))
            · replace H := (ifF c292).symm.trans H
              rcases Bool.eq_false_or_eq_true (decide (x269 > (0 : Int))) with c293 | c293
              · replace H := (ifT c293).symm.trans H
                obtain ⟨b294, p295, q296, H⟩ := at_of H
                refine reg hP hn hm [(2, .call [] [] [] [] 0 (bV t287) []), (4, .b false), (7, .call [] [] [] [] 0 (bV t290) []), (10, .b false), (13, .b true), (17, .c (eLabel b294))] [0, 8, 9, 10, 20, 21, 22, 23, 26, 27, 28, 29, 30, 31, 32, 33, 34, 35, 36, 37, 38, 39] [1] ⟨[(0, .im (.row (a0.map eLabel))), (8, .im (.row (a0.map eLabel))), (9, iV .i64 (a0.length : Int)), (10, iV .i64 x269), (20, .ptr 1 0 1), (21, sV b274.f1), (22, bV t290), (23, bV (!t290)), (26, iV .i64 x269), (27, bV (decide (x269 > (0 : Int)))), (28, bV true), (29, .im (.row (a0.map eLabel))), (30, iV .i64 x269), (31, iV .i64 (IntKind.i64.wrap (x269 - (1 : Int)))), (32, .ip [sI b294.f0, sI b294.f1]), (33, .ip [sI b294.f0, sI b294.f1]), (34, sV b294.f0), (35, .ptr 1 0 0), (36, sV b274.f0), (37, bV (!Op.bytesLess b294.f0.toList b274.f0.toList)), (38, bV (!Op.bytesLess b294.f0.toList b274.f0.toList)), (39, bV (!Op.bytesLess b294.f0.toList b274.f0.toList))], [(1, some (.box 67 (aLabel b274)))], 0⟩ [Enters Try.prog 63, Pv.Fn Try.prog 63 [sV b274.f0] [] 0 (fun r o => r = bV t287 ∧ o = []), (!t287) = false, Enters Try.prog 64, Pv.Fn Try.prog 64 [sV b274.f1] [] 0 (fun r o => r = bV t290 ∧ o = []), (!t290) = false, (decide (x269 > (0 : Int))) = true, 0 ≤ (IntKind.i64.wrap (x269 - (1 : Int))), (a0.map eLabel)[(Int.toNat (IntKind.i64.wrap (x269 - (1 : Int))))]? = some (eLabel b294)] (by kernel_rfl) ⟨by exact Try.call63, by exact f_label_name.ok b274.f0 t287 e288, by exact c289, by exact Try.call64, by exact f_label_value.ok b274.f1 t290 e291, by exact c292, by exact c293, by exact p295, by exact el_map eLabel q296, trivial⟩ ?_
                obtain rfl := Option.some.inj H
                exact Exists.intro _ (And.intro (fun _ _ h => h.conv (inv := []) (vk := []) (e0 := []) (t := ⟨[(0, .im (.row (a0.map eLabel))), (8, .im (.row (a0.map eLabel))), (9, iV .i64 (a0.length : Int)), (10, iV .i64 x269), (39, bV (!Op.bytesLess b294.f0.toList b274.f0.toList))], [], 0⟩) (by kernel_rfl)) (And.intro rfl rfl))
              · replace H := (ifF c293).symm.trans H
                refine reg hP hn hm [(2, .call [] [] [] [] 0 (bV t287) []), (4, .b false), (7, .call [] [] [] [] 0 (bV t290) []), (10, .b false), (13, .b false)] [0, 8, 9, 10, 20, 21, 22, 23, 26, 27, 28, 38, 39] [1] ⟨[(0, .im (.row (a0.map eLabel))), (8, .im (.row (a0.map eLabel))), (9, iV .i64 (a0.length : Int)), (10, iV .i64 x269), (20, .ptr 1 0 1), (21, sV b274.f1), (22, bV t290), (23, bV (!t290)), (26, iV .i64 x269), (27, bV (decide (x269 > (0 : Int)))), (28, bV false), (38, bV false), (39, bV false)], [(1, some (.box 67 (aLabel b274)))], 0⟩ [Enters Try.prog 63, Pv.Fn Try.prog 63 [sV b274.f0] [] 0 (fun r o => r = bV t287 ∧ o = []), (!t287) = false, Enters Try.prog 64, Pv.Fn Try.prog 64 [sV b274.f1] [] 0 (fun r o => r = bV t290 ∧ o = []), (!t290) = false, (decide (x269 > (0 : Int))) = false] (by kernel_rfl) ⟨by exact Try.call63, by exact f_label_name.ok b274.f0 t287 e288, by exact c289, by exact Try.call64, by exact f_label_value.ok b274.f1 t290 e291, by exact c292, by exact c293, trivial⟩ ?_
                obtain rfl := Option.some.inj H
                exact Exists.intro _ (And.intro (fun _ _ h => h.conv (inv := []) (vk := []) (e0 := []) (t := ⟨[(0, .im (.row (a0.map eLabel))), (8, .im (.row (a0.map eLabel))), (9, iV .i64 (a0.length : Int)), (10, iV .i64 x269), (39, bV false)], [], 0⟩) (by kernel_rfl)) (And.intro rfl rfl))
        · obtain ⟨x297, rfl⟩ : ∃ z, z = o301 := ⟨_, rfl⟩
          rintro e s ⟨rfl, rfl⟩
          refine AWp.cond x297 rfl (fun c298 => ?_) (fun c298 => ?_)
          · replace H := (ifT c298).symm.trans H
            refine AWp.seq ?_
            refine reg hP hn hm [] [2] [] ⟨[(2, iV .i64 26)], [], 0⟩ [] (by kernel_rfl) trivial ?_
            refine AWp.conv (inv := []) (vk := []) (e0 := []) (t := ⟨[(2, iV .i64 26)], [], 0⟩) (by kernel_rfl) ?_
            refine AWp.ret ?_
            obtain rfl := Option.some.inj H
            exact Exists.intro _ (And.intro (fun _ _ h => h) (And.intro rfl (And.intro rfl (And.intro (by kernel_rfl) (by kernel_rfl)))))
          · replace H := (ifF c298).symm.trans H
            refine AWp.skip ?_
            refine reg hP hn hm [] [0, 8, 9, 10] [] ⟨[(0, .im (.row (a0.map eLabel))), (8, .im (.row (a0.map eLabel))), (9, iV .i64 (a0.length : Int)), (10, iV .i64 (IntKind.i64.wrap (x269 + (1 : Int))))], [], 0⟩ [] (by kernel_rfl) trivial ?_
            exact LWp.conv (inv := []) (vk := []) (e0 := []) (t := ⟨[(0, .im (.row (a0.map eLabel))), (8, .im (.row (a0.map eLabel))), (9, iV .i64 (a0.length : Int)), (10, iV .i64 (IntKind.i64.wrap (x269 + (1 : Int))))], [], 0⟩) (by kernel_rfl) (ih _ _ H)
      · replace H := (ifF c270).symm.trans H
        refine AWp.exit ?_
        obtain rfl := Option.some.inj H
        exact Exists.intro _ (And.intro (fun _ _ h => h.conv (inv := []) (vk := []) (e0 := []) (t := ⟨[], [], 0⟩) (by kernel_rfl)) (And.intro rfl rfl))
    · rcases o299 with rr | _
      · skip
        rintro e s ⟨rfl, hfl, hres⟩
        obtain rfl := Option.some.inj H
        exact Exists.intro _ (And.intro (fun _ _ h => h) (And.intro (.inl rfl) (And.intro hfl hres)))
      · skip
        rintro e s ⟨rfl, rfl⟩
        refine AWp.seq ?_
        refine reg hP hn hm [] [2] [] ⟨[(2, iV .i64 0)], [], 0⟩ [] (by kernel_rfl) trivial ?_
        refine AWp.conv (inv := []) (vk := []) (e0 := []) (t := ⟨[(2, iV .i64 0)], [], 0⟩) (by kernel_rfl) ?_
        refine AWp.ret ?_
        obtain rfl := Option.some.inj H
        exact Exists.intro _ (And.intro (fun _ _ h => h) (And.intro (.inl rfl) (And.intro rfl (And.intro (by kernel_rfl) (by kernel_rfl)))))
def f_label_Parse.l0 (x161 : ByteArray) (x162 : List TLabel) : Option (((List TLabel) × Int) ⊕ (List TLabel)) := (f_strings_Cut_2e8.f x161) >>= fun t165 => if (!t165.2.2) = true then (some (.inl ([], 6))) else ((f_label_Unquote.f t165.2.1) >>= fun t170 => ((if (!t170.2.2) = true then (some true) else (some (t170.2.1.toList == (⟨#[]⟩ : ByteArray).toList))) : Option (Bool)) >>= fun x174 => if x174 = true then (some (.inl ([], 6))) else ((chk ((x162.length + [(⟨t165.1, t170.1⟩ : TLabel)].length) * 32 ≤ 140737488355328)) >>= fun _ => if (t170.2.1.toList == (⟨#[125]⟩ : ByteArray).toList) = true then (some (.inr (x162 ++ [(⟨t165.1, t170.1⟩ : TLabel)]))) else ((chk (0 ≤ (0 : Int) ∧ (0 : Int) < (t170.2.1.size : Int))) >>= fun _ => if ((bt t170.2.1 0) != (44 : Int)) = true then (some (.inl ([], 6))) else ((chk (0 ≤ (1 : Int) ∧ (1 : Int) ≤ (t170.2.1.size : Int) ∧ (t170.2.1.size : Int) ≤ (t170.2.1.size : Int))) >>= fun _ => f_label_Parse.l0  (t170.2.1.extract (Int.toNat ((1 : Int))) (Int.toNat ((t170.2.1.size : Int)))) (x162 ++ [(⟨t165.1, t170.1⟩ : TLabel)])))))
partial_fixpoint
def f_label_Parse.f (a0 : ByteArray) : Option ((List TLabel) × Int) := (f_strings_CutPrefix.f a0 (⟨#[123]⟩ : ByteArray)) >>= fun t48 => if (!t48.2) = true then (some ([], 6)) else (if (t48.1.toList == (⟨#[125]⟩ : ByteArray).toList) = true then (some ([], 0)) else ((f_label_Parse.l0  t48.1 []) >>= fun oo => match oo with | .inl rr => (some rr) | .inr x184 => ((f_label_Check.f x184) >>= fun t305 => if (t305 != (0 : Int)) = true then (some ([], t305)) else (some (x184, 0)))))
theorem f_label_Parse.ok (a0 : ByteArray) (r : (List TLabel) × Int) (H : f_label_Parse.f a0 = some r) : Pv.Fn Try.prog 25 [sV a0] [] 0 (fun x o => x = .tup [.own 0, iV .i64 r.2] ∧ o = [(0, some (.row 2 67 (r.1.map eLabel)))]) := by
  unfold f_label_Parse.f at H
  refine Fn.bodyK [0] Try.func25 rfl rfl (fun Γ hP hn => ?_)
  have hm : Try.prog.follows .mixedOrders = true := by kernel_rfl
  replace hn : Γ.n = 61 := hn
  refine AWp.seq ?_
  refine reg hP hn hm [] [0] [] ⟨[(0, sV a0)], [], 0⟩ [] (by kernel_rfl) trivial ?_
  refine AWp.seq ?_
  obtain ⟨t48, e49, H⟩ := bind_of H
  refine reg hP hn hm [(1, .call [] [] [] [] 0 (.tup [sV t48.1, bV t48.2]) [])] [4, 5] [] ⟨[(4, sV t48.1), (5, bV t48.2)], [], 0⟩ [Enters Try.prog 52, Pv.Fn Try.prog 52 [sV a0, sV (⟨#[123]⟩ : ByteArray)] [] 0 (fun r o => r = .tup [sV t48.1, bV t48.2] ∧ o = [])] (by kernel_rfl) ⟨by exact Try.call52, by exact f_strings_CutPrefix.ok a0 (⟨#[123]⟩ : ByteArray) t48 e49, trivial⟩ ?_
  refine AWp.seq ?_
  refine AWp.seq ?_
  refine reg hP hn hm [] [4, 19] [] ⟨[(4, sV t48.1), (19, bV (!t48.2))], [], 0⟩ [] (by kernel_rfl) trivial ?_
  refine AWp.cond (!t48.2) rfl (fun c50 => ?_) (fun c50 => ?_)
  · replace H := (ifT c50).symm.trans H
    refine AWp.seq ?_
    refine reg hP hn hm [] [2, 3] [] ⟨[(2, .none0), (3, iV .i64 6)], [], 0⟩ [] (by kernel_rfl) trivial ?_
    refine AWp.conv (inv := []) (vk := []) (e0 := [0]) (t := ⟨[(2, .own 0), (3, iV .i64 6)], [(0, some (.row 2 67 ([].map eLabel)))], 0⟩) (by kernel_rfl) ?_
    refine AWp.ret ?_
    obtain rfl := Option.some.inj H
    exact Exists.intro _ (And.intro (fun _ _ h => h) (And.intro (.inl rfl) (And.intro rfl (And.intro (by kernel_rfl) (by kernel_rfl)))))
  · replace H := (ifF c50).symm.trans H
    refine AWp.skip ?_
    refine AWp.seq ?_
    refine AWp.seq ?_
    refine reg hP hn hm [] [4, 21] [] ⟨[(4, sV t48.1), (21, bV (t48.1.toList == (⟨#[125]⟩ : ByteArray).toList))], [], 0⟩ [] (by kernel_rfl) trivial ?_
    refine AWp.cond (t48.1.toList == (⟨#[125]⟩ : ByteArray).toList) rfl (fun c51 => ?_) (fun c51 => ?_)
    · replace H := (ifT c51).symm.trans H
      refine AWp.seq ?_
      refine reg hP hn hm [] [2, 3] [] ⟨[(2, .none0), (3, iV .i64 0)], [], 0⟩ [] (by kernel_rfl) trivial ?_
      refine AWp.conv (inv := []) (vk := []) (e0 := [0]) (t := ⟨[(2, .own 0), (3, iV .i64 0)], [(0, some (.row 2 67 ([].map eLabel)))], 0⟩) (by kernel_rfl) ?_
      refine AWp.ret ?_
      obtain rfl := Option.some.inj H
      exact Exists.intro _ (And.intro (fun _ _ h => h) (And.intro (.inl rfl) (And.intro rfl (And.intro (by kernel_rfl) (by kernel_rfl)))))
    · replace H := (ifF c51).symm.trans H
      refine AWp.skip ?_
      refine AWp.seq ?_
      refine reg hP hn hm [] [4, 6] [] ⟨[(4, sV t48.1), (6, .none0)], [], 0⟩ [] (by kernel_rfl) trivial ?_
      refine AWp.seq ?_
      refine AWp.block ?_
      obtain ⟨o308, e309, H⟩ := bind_of H
      refine AWp.loop (LWp.conv (inv := []) (vk := []) (e0 := [2]) (t := ⟨[(4, sV t48.1), (6, .own 2)], [(2, some (.row 2 67 ([].map eLabel)))], 0⟩) (by kernel_rfl) ?_)
      refine LWp.mono (Q := fun e s => (match (generalizing := false) o308 with | .inl rr => e = .ret ∧ s.floor = 0 ∧ resOf Try.prog Try.f25 s = some (.tup [.own 0, iV .i64 rr.2]) ∧ ([(0, s.obj 0)] : List (Nat × Option MObj)) = [(0, some (.row 2 67 (rr.1.map eLabel)))] | .inr x184 => e = .exit 0 ∧ s = ⟨[(6, .own 6)], [(6, some (.row 2 67 (x184.map eLabel)))], 0⟩)) (LWp.cv (withBody (fun body hbody => ?_))) ?_
      · refine f_label_Parse.l0.partial_correctness  (motive := fun x161 x162 o308 => LWp Γ body (fun e s => ∃ t, Cv Γ s t ∧ (match (generalizing := false) o308 with | .inl rr => e = .ret ∧ t.floor = 0 ∧ resOf Try.prog Try.f25 t = some (.tup [.own 0, iV .i64 rr.2]) ∧ ([(0, t.obj 0)] : List (Nat × Option MObj)) = [(0, some (.row 2 67 (rr.1.map eLabel)))] | .inr x184 => e = .exit 0 ∧ t = ⟨[(6, .own 6)], [(6, some (.row 2 67 (x184.map eLabel)))], 0⟩)) ⟨[(4, sV x161), (6, .own 2)], [(2, some (.row 2 67 (x162.map eLabel)))], 0⟩) ?_ _ _ _ e309
        clear H e309 o308; intro self ih x161 x162 o308 H
        subst hbody
        refine LWp.round ?_
        refine AWp.block ?_
        refine AWp.seq ?_
        obtain ⟨t165, e166, H⟩ := bind_of H
        refine reg hP hn hm [(1, .call [] [] [] [] 0 (.tup [sV t165.1, sV t165.2.1, bV t165.2.2]) [])] [6, 7, 8, 9] [2] ⟨[(6, .own 2), (7, sV t165.1), (8, sV t165.2.1), (9, bV t165.2.2)], [(2, some (.row 2 67 (x162.map eLabel)))], 0⟩ [Enters Try.prog 53, Pv.Fn Try.prog 53 [sV x161, sV (⟨#[61]⟩ : ByteArray)] [] 0 (fun r o => r = .tup [sV t165.1, sV t165.2.1, bV t165.2.2] ∧ o = [])] (by kernel_rfl) ⟨by exact Try.call53, by exact f_strings_Cut_2e8.ok x161 t165 e166, trivial⟩ ?_
        refine AWp.seq ?_
        refine AWp.seq ?_
        refine reg hP hn hm [] [6, 7, 8, 29] [2] ⟨[(6, .own 2), (7, sV t165.1), (8, sV t165.2.1), (29, bV (!t165.2.2))], [(2, some (.row 2 67 (x162.map eLabel)))], 0⟩ [] (by kernel_rfl) trivial ?_
        refine AWp.cond (!t165.2.2) rfl (fun c167 => ?_) (fun c167 => ?_)
        · replace H := (ifT c167).symm.trans H
          refine AWp.seq ?_
          refine reg hP hn hm [] [2, 3] [] ⟨[(2, .none0), (3, iV .i64 6)], [], 0⟩ [] (by kernel_rfl) trivial ?_
          refine AWp.conv (inv := []) (vk := []) (e0 := [0]) (t := ⟨[(2, .own 0), (3, iV .i64 6)], [(0, some (.row 2 67 ([].map eLabel)))], 0⟩) (by kernel_rfl) ?_
          refine AWp.ret ?_
          obtain rfl := Option.some.inj H
          exact Exists.intro _ (And.intro (fun _ _ h => h) (And.intro rfl (And.intro rfl (And.intro (by kernel_rfl) (by kernel_rfl)))))
        · replace H := (ifF c167).symm.trans H
          refine AWp.skip ?_
          refine AWp.seq ?_
          obtain ⟨t170, e171, H⟩ := bind_of H
          refine reg hP hn hm [(1, .call [] [] [] [] 0 (.tup [sV t170.1, sV t170.2.1, bV t170.2.2]) [])] [6, 7, 9, 10, 11] [2] ⟨[(6, .own 2), (7, sV t165.1), (9, bV t170.2.2), (10, sV t170.1), (11, sV t170.2.1)], [(2, some (.row 2 67 (x162.map eLabel)))], 0⟩ [Enters Try.prog 13, Pv.Fn Try.prog 13 [sV t165.2.1] [] 0 (fun r o => r = .tup [sV t170.1, sV t170.2.1, bV t170.2.2] ∧ o = [])] (by kernel_rfl) ⟨by exact Try.call13, by exact f_label_Unquote.ok t165.2.1 t170 e171, trivial⟩ ?_
          refine AWp.seq ?_
          refine AWp.seq ?_
          obtain ⟨o310, e311, H⟩ := bind_of H
          refine AWp.mono (Q := fun e s => (match (generalizing := false) o310 with | x174 => e = .normal ∧ s = ⟨[(6, .own 3), (7, sV t165.1), (10, sV t170.1), (11, sV t170.2.1), (41, bV x174)], [(3, some (.row 2 67 (x162.map eLabel)))], 0⟩)) (AWp.cv ?_) ?_
          · replace H := e311; clear e311
            rcases Bool.eq_false_or_eq_true (!t170.2.2) with c173 | c173
            · replace H := (ifT c173).symm.trans H
              refine reg hP hn hm [(2, .b true)] [6, 7, 10, 11, 41] [2] ⟨[(6, .own 2), (7, sV t165.1), (10, sV t170.1), (11, sV t170.2.1), (41, bV true)], [(2, some (.row 2 67 (x162.map eLabel)))], 0⟩ [(!t170.2.2) = true] (by kernel_rfl) ⟨by exact c173, trivial⟩ ?_
              obtain rfl := Option.some.inj H
              exact Exists.intro _ (And.intro (fun _ _ h => h.conv (inv := [(2, 3)]) (vk := []) (e0 := []) (t := ⟨[(6, .own 3), (7, sV t165.1), (10, sV t170.1), (11, sV t170.2.1), (41, bV true)], [(3, some (.row 2 67 (x162.map eLabel)))], 0⟩) (by kernel_rfl)) (And.intro rfl rfl))
            · replace H := (ifF c173).symm.trans H
              refine reg hP hn hm [(2, .b false)] [6, 7, 10, 11, 39, 40, 41] [2] ⟨[(6, .own 2), (7, sV t165.1), (10, sV t170.1), (11, sV t170.2.1), (39, sV t170.2.1), (40, bV (t170.2.1.toList == (⟨#[]⟩ : ByteArray).toList)), (41, bV (t170.2.1.toList == (⟨#[]⟩ : ByteArray).toList))], [(2, some (.row 2 67 (x162.map eLabel)))], 0⟩ [(!t170.2.2) = false] (by kernel_rfl) ⟨by exact c173, trivial⟩ ?_
              obtain rfl := Option.some.inj H
              exact Exists.intro _ (And.intro (fun _ _ h => h.conv (inv := [(2, 3)]) (vk := []) (e0 := []) (t := ⟨[(6, .own 3), (7, sV t165.1), (10, sV t170.1), (11, sV t170.2.1), (41, bV (t170.2.1.toList == (⟨#[]⟩ : ByteArray).toList))], [(3, some (.row 2 67 (x162.map eLabel)))], 0⟩) (by kernel_rfl)) (And.intro rfl rfl))
          · obtain ⟨x174, rfl⟩ : ∃ z, z = o310 := ⟨_, rfl⟩
            rintro e s ⟨rfl, rfl⟩
            refine AWp.cond x174 rfl (fun c175 => ?_) (fun c175 => ?_)
            · replace H := (ifT c175).symm.trans H
              refine AWp.seq ?_
              refine reg hP hn hm [] [2, 3] [] ⟨[(2, .none0), (3, iV .i64 6)], [], 0⟩ [] (by kernel_rfl) trivial ?_
              refine AWp.conv (inv := []) (vk := []) (e0 := [0]) (t := ⟨[(2, .own 0), (3, iV .i64 6)], [(0, some (.row 2 67 ([].map eLabel)))], 0⟩) (by kernel_rfl) ?_
              refine AWp.ret ?_
              obtain rfl := Option.some.inj H
              exact Exists.intro _ (And.intro (fun _ _ h => h) (And.intro rfl (And.intro rfl (And.intro (by kernel_rfl) (by kernel_rfl)))))
            · replace H := (ifF c175).symm.trans H
              refine AWp.skip ?_
              refine AWp.seq ?_
              obtain ⟨c177, H⟩ := chk_of H
              refine reg hP hn hm [(4, .app 4 ([(⟨t165.1, t170.1⟩ : TLabel)].map eLabel)), (5, .app 5 ((x162 ++ [(⟨t165.1, t170.1⟩ : TLabel)]).map eLabel))] [6, 11] [5] ⟨[(6, .own 5), (11, sV t170.2.1)], [(5, some (.row 2 67 ((x162 ++ [(⟨t165.1, t170.1⟩ : TLabel)]).map eLabel)))], 0⟩ [[(⟨t165.1, t170.1⟩ : TLabel)].map eLabel = [[sI t165.1, sI t170.1]], (x162 ++ [(⟨t165.1, t170.1⟩ : TLabel)]).map eLabel = (x162.map eLabel) ++ ([(⟨t165.1, t170.1⟩ : TLabel)].map eLabel), ∀ c ∈ ([(⟨t165.1, t170.1⟩ : TLabel)].map eLabel), c.length = 2, ∀ c ∈ ([(⟨t165.1, t170.1⟩ : TLabel)].map eLabel), leaves (c.map .im) = true, ((x162.map eLabel).length + ([(⟨t165.1, t170.1⟩ : TLabel)].map eLabel).length) * 32 ≤ 140737488355328] (by kernel_rfl) ⟨by exact rfl, by simp, by exact all_len _ _ _ (fun _ => rfl), by exact all_leaf _ _ (fun _ => rfl), by simpa using c177, trivial⟩ ?_
              refine AWp.seq ?_
              refine AWp.seq ?_
              refine reg hP hn hm [] [6, 11, 49] [5] ⟨[(6, .own 5), (11, sV t170.2.1), (49, bV (t170.2.1.toList == (⟨#[125]⟩ : ByteArray).toList))], [(5, some (.row 2 67 ((x162 ++ [(⟨t165.1, t170.1⟩ : TLabel)]).map eLabel)))], 0⟩ [] (by kernel_rfl) trivial ?_
              refine AWp.cond (t170.2.1.toList == (⟨#[125]⟩ : ByteArray).toList) rfl (fun c178 => ?_) (fun c178 => ?_)
              · replace H := (ifT c178).symm.trans H
                refine AWp.exit ?_
                obtain rfl := Option.some.inj H
                exact Exists.intro _ (And.intro (fun _ _ h => h.conv (inv := [(5, 6)]) (vk := []) (e0 := []) (t := ⟨[(6, .own 6)], [(6, some (.row 2 67 ((x162 ++ [(⟨t165.1, t170.1⟩ : TLabel)]).map eLabel)))], 0⟩) (by kernel_rfl)) (And.intro rfl rfl))
              · replace H := (ifF c178).symm.trans H
                refine AWp.skip ?_
                refine AWp.seq ?_
                refine AWp.seq ?_
                obtain ⟨c180, H⟩ := chk_of H
                refine reg hP hn hm [] [6, 11, 52] [5] ⟨[(6, .own 5), (11, sV t170.2.1), (52, bV ((bt t170.2.1 0) != (44 : Int)))], [(5, some (.row 2 67 ((x162 ++ [(⟨t165.1, t170.1⟩ : TLabel)]).map eLabel)))], 0⟩ [0 ≤ (0 : Int), (0 : Int) < (t170.2.1.size : Int)] (by kernel_rfl) ⟨by exact c180.1, by exact c180.2, trivial⟩ ?_
                refine AWp.cond ((bt t170.2.1 0) != (44 : Int)) rfl (fun c181 => ?_) (fun c181 => ?_)
                · replace H := (ifT c181).symm.trans H
                  refine AWp.seq ?_
                  refine reg hP hn hm [] [2, 3] [] ⟨[(2, .none0), (3, iV .i64 6)], [], 0⟩ [] (by kernel_rfl) trivial ?_
                  refine AWp.conv (inv := []) (vk := []) (e0 := [0]) (t := ⟨[(2, .own 0), (3, iV .i64 6)], [(0, some (.row 2 67 ([].map eLabel)))], 0⟩) (by kernel_rfl) ?_
                  refine AWp.ret ?_
                  obtain rfl := Option.some.inj H
                  exact Exists.intro _ (And.intro (fun _ _ h => h) (And.intro rfl (And.intro rfl (And.intro (by kernel_rfl) (by kernel_rfl)))))
                · replace H := (ifF c181).symm.trans H
                  refine AWp.skip ?_
                  obtain ⟨c183, H⟩ := chk_of H
                  refine reg hP hn hm [] [4, 6] [5] ⟨[(4, sV (t170.2.1.extract (Int.toNat ((1 : Int))) (Int.toNat ((t170.2.1.size : Int))))), (6, .own 5)], [(5, some (.row 2 67 ((x162 ++ [(⟨t165.1, t170.1⟩ : TLabel)]).map eLabel)))], 0⟩ [0 ≤ (1 : Int), (1 : Int) ≤ (t170.2.1.size : Int), (t170.2.1.size : Int) ≤ (t170.2.1.size : Int)] (by kernel_rfl) ⟨by exact c183.1, by exact c183.2.1, by exact c183.2.2, trivial⟩ ?_
                  exact LWp.conv (inv := [(5, 2)]) (vk := []) (e0 := []) (t := ⟨[(4, sV (t170.2.1.extract (Int.toNat ((1 : Int))) (Int.toNat ((t170.2.1.size : Int))))), (6, .own 2)], [(2, some (.row 2 67 ((x162 ++ [(⟨t165.1, t170.1⟩ : TLabel)]).map eLabel)))], 0⟩) (by kernel_rfl) (ih _ _ _ H)
      · rcases o308 with rr | x184
        · skip
          rintro e s ⟨rfl, hfl, hres⟩
          obtain rfl := Option.some.inj H
          exact Exists.intro _ (And.intro (fun _ _ h => h) (And.intro (.inl rfl) (And.intro hfl hres)))
        · skip
          rintro e s ⟨rfl, rfl⟩
          refine AWp.seq ?_
          refine AWp.seq ?_
          obtain ⟨t305, e306, H⟩ := bind_of H
          refine reg hP hn hm [(1, .call [] [] [6] [] 0 (iV .i64 t305) [])] [6, 12] [6] ⟨[(6, .own 6), (12, iV .i64 t305)], [(6, some (.row 2 67 (x184.map eLabel)))], 0⟩ [Enters Try.prog 35, Pv.Fn Try.prog 35 [.im (.row (x184.map eLabel))] [] 0 (fun r o => r = iV .i64 t305 ∧ o = [])] (by kernel_rfl) ⟨by exact Try.call35, by exact f_label_Check.ok x184 t305 e306, trivial⟩ ?_
          refine AWp.seq ?_
          refine reg hP hn hm [] [6, 12, 58] [6] ⟨[(6, .own 6), (12, iV .i64 t305), (58, bV (t305 != (0 : Int)))], [(6, some (.row 2 67 (x184.map eLabel)))], 0⟩ [] (by kernel_rfl) trivial ?_
          refine AWp.cond (t305 != (0 : Int)) rfl (fun c307 => ?_) (fun c307 => ?_)
          · replace H := (ifT c307).symm.trans H
            refine AWp.seq ?_
            refine reg hP hn hm [] [2, 3] [] ⟨[(2, .none0), (3, iV .i64 t305)], [], 0⟩ [] (by kernel_rfl) trivial ?_
            refine AWp.conv (inv := []) (vk := []) (e0 := [0]) (t := ⟨[(2, .own 0), (3, iV .i64 t305)], [(0, some (.row 2 67 ([].map eLabel)))], 0⟩) (by kernel_rfl) ?_
            refine AWp.ret ?_
            obtain rfl := Option.some.inj H
            exact Exists.intro _ (And.intro (fun _ _ h => h) (And.intro (.inl rfl) (And.intro rfl (And.intro (by kernel_rfl) (by kernel_rfl)))))
          · replace H := (ifF c307).symm.trans H
            refine AWp.skip ?_
            refine AWp.seq ?_
            refine reg hP hn hm [] [2, 3] [6] ⟨[(2, .own 6), (3, iV .i64 0)], [(6, some (.row 2 67 (x184.map eLabel)))], 0⟩ [] (by kernel_rfl) trivial ?_
            refine AWp.conv (inv := [(6, 0)]) (vk := []) (e0 := []) (t := ⟨[(2, .own 0), (3, iV .i64 0)], [(0, some (.row 2 67 (x184.map eLabel)))], 0⟩) (by kernel_rfl) ?_
            refine AWp.ret ?_
            obtain rfl := Option.some.inj H
            exact Exists.intro _ (And.intro (fun _ _ h => h) (And.intro (.inl rfl) (And.intro rfl (And.intro (by kernel_rfl) (by kernel_rfl)))))
def f_pluviallaw10_awake.f  : Option (Bool) := (f_label_Parse.f (⟨#[123, 97, 61, 34, 120, 34, 44, 98, 61, 34, 121, 34, 125]⟩ : ByteArray)) >>= fun t314 => ((if (t314.2 == (0 : Int)) = true then (if ((t314.1.length : Int) == (2 : Int)) = true then ((at? t314.1 1) >>= fun b323 => some ((b323.f0.toList == (⟨#[98]⟩ : ByteArray).toList) && ((b323.f1.toList == (⟨#[121]⟩ : ByteArray).toList) && true))) else (some false)) else (some false)) : Option (Bool)) >>= fun x326 => some x326
theorem f_pluviallaw10_awake.ok  (r : Bool) (H : f_pluviallaw10_awake.f  = some r) : Pv.Fn Try.prog 11 [] [] 0 (fun x o => x = bV r ∧ o = []) := by
  unfold f_pluviallaw10_awake.f at H
  refine Fn.bodyK [] Try.func11 rfl rfl (fun Γ hP hn => ?_)
  have hm : Try.prog.follows .mixedOrders = true := by kernel_rfl
  replace hn : Γ.n = 21 := hn
  refine AWp.seq ?_
  refine reg hP hn hm [] [] [] ⟨[], [], 0⟩ [] (by kernel_rfl) trivial ?_
  refine AWp.seq ?_
  obtain ⟨t314, e315, H⟩ := bind_of H
  refine reg hP hn hm [(0, .call [] [(0, 0)] [] [0] 0 (.tup [.own 0, iV .i64 t314.2]) [(0, some (.row 2 67 (t314.1.map eLabel)))])] [1, 2] [0] ⟨[(1, .own 0), (2, iV .i64 t314.2)], [(0, some (.row 2 67 (t314.1.map eLabel)))], 0⟩ [Enters Try.prog 25, Pv.Fn Try.prog 25 [sV (⟨#[123, 97, 61, 34, 120, 34, 44, 98, 61, 34, 121, 34, 125]⟩ : ByteArray)] [] 0 (fun r o => r = .tup [.own 0, iV .i64 t314.2] ∧ o = [(0, some (.row 2 67 (t314.1.map eLabel)))])] (by kernel_rfl) ⟨by exact Try.call25, by exact f_label_Parse.ok (⟨#[123, 97, 61, 34, 120, 34, 44, 98, 61, 34, 121, 34, 125]⟩ : ByteArray) t314 e315, trivial⟩ ?_
  refine AWp.seq ?_
  obtain ⟨o327, e328, H⟩ := bind_of H
  refine AWp.mono (Q := fun e s => (match (generalizing := false) o327 with | x326 => e = .normal ∧ s = ⟨[(0, bV x326)], [], 0⟩)) (AWp.cv ?_) ?_
  · replace H := e328; clear e328
    rcases Bool.eq_false_or_eq_true (t314.2 == (0 : Int)) with c321 | c321
    · replace H := (ifT c321).symm.trans H
      rcases Bool.eq_false_or_eq_true ((t314.1.length : Int) == (2 : Int)) with c322 | c322
      · replace H := (ifT c322).symm.trans H
        obtain ⟨b323, p324, q325, H⟩ := at_of H
        refine reg hP hn hm [(2, .b true), (4, .any (iV .i64 (t314.1.length : Int))), (7, .b true), (10, .c (eLabel b323)), (12, .more (xAgg none))] [0] [] ⟨[(0, bV ((b323.f0.toList == (⟨#[98]⟩ : ByteArray).toList) && ((b323.f1.toList == (⟨#[121]⟩ : ByteArray).toList) && true)))], [], 0⟩ [(t314.2 == (0 : Int)) = true, ((t314.1.map eLabel).length : Int) = (t314.1.length : Int), ((t314.1.length : Int) == (2 : Int)) = true, 0 ≤ (1 : Int), 1 < (((t314.1.map eLabel).length : Nat) : Int), (t314.1.map eLabel)[(Int.toNat (1))]? = some (eLabel b323)] (by kernel_rfl) ⟨by exact c321, by rw [len_map], by exact c322, by exact p324, by exact el_lt eLabel p324 q325, by exact el_map eLabel q325, trivial⟩ ?_
        obtain rfl := Option.some.inj H
        exact Exists.intro _ (And.intro (fun _ _ h => h.conv (inv := []) (vk := []) (e0 := []) (t := ⟨[(0, bV ((b323.f0.toList == (⟨#[98]⟩ : ByteArray).toList) && ((b323.f1.toList == (⟨#[121]⟩ : ByteArray).toList) && true)))], [], 0⟩) (by kernel_rfl)) (And.intro rfl rfl))
      · replace H := (ifF c322).symm.trans H
        refine reg hP hn hm [(2, .b true), (4, .any (iV .i64 (t314.1.length : Int))), (7, .b false)] [0] [] ⟨[(0, bV false)], [], 0⟩ [(t314.2 == (0 : Int)) = true, ((t314.1.map eLabel).length : Int) = (t314.1.length : Int), ((t314.1.length : Int) == (2 : Int)) = false] (by kernel_rfl) ⟨by exact c321, by rw [len_map], by exact c322, trivial⟩ ?_
        obtain rfl := Option.some.inj H
        exact Exists.intro _ (And.intro (fun _ _ h => h.conv (inv := []) (vk := []) (e0 := []) (t := ⟨[(0, bV false)], [], 0⟩) (by kernel_rfl)) (And.intro rfl rfl))
    · replace H := (ifF c321).symm.trans H
      refine reg hP hn hm [(2, .b false)] [0] [] ⟨[(0, bV false)], [], 0⟩ [(t314.2 == (0 : Int)) = false] (by kernel_rfl) ⟨by exact c321, trivial⟩ ?_
      obtain rfl := Option.some.inj H
      exact Exists.intro _ (And.intro (fun _ _ h => h.conv (inv := []) (vk := []) (e0 := []) (t := ⟨[(0, bV false)], [], 0⟩) (by kernel_rfl)) (And.intro rfl rfl))
  · obtain ⟨x326, rfl⟩ : ∃ z, z = o327 := ⟨_, rfl⟩
    rintro e s ⟨rfl, rfl⟩
    refine AWp.conv (inv := []) (vk := []) (e0 := []) (t := ⟨[(0, bV x326)], [], 0⟩) (by kernel_rfl) ?_
    refine AWp.ret ?_
    obtain rfl := Option.some.inj H
    exact Exists.intro _ (And.intro (fun _ _ h => h) (And.intro (.inl rfl) (And.intro rfl (And.intro (by kernel_rfl) (by kernel_rfl)))))
def f_pluvialref10_Name.l0 (a0 : ByteArray) (x361 : Int) : Option (Bool ⊕ Unit) := if (decide (x361 < (a0.size : Int))) = true then ((chk (0 ≤ x361 ∧ x361 < (a0.size : Int))) >>= fun _ => ((if ((bt a0 x361) == (95 : Int)) = true then (some true) else (if (decide ((bt a0 x361) ≥ (65 : Int))) = true then (if (decide ((bt a0 x361) ≤ (90 : Int))) = true then (some true) else (if (decide ((bt a0 x361) ≥ (97 : Int))) = true then (if (decide ((bt a0 x361) ≤ (122 : Int))) = true then (some true) else (if (decide (x361 > (0 : Int))) = true then (if (decide ((bt a0 x361) ≥ (48 : Int))) = true then (some (decide ((bt a0 x361) ≤ (57 : Int)))) else (some false)) else (some false))) else (if (decide (x361 > (0 : Int))) = true then (if (decide ((bt a0 x361) ≥ (48 : Int))) = true then (some (decide ((bt a0 x361) ≤ (57 : Int)))) else (some false)) else (some false)))) else (if (decide ((bt a0 x361) ≥ (97 : Int))) = true then (if (decide ((bt a0 x361) ≤ (122 : Int))) = true then (some true) else (if (decide (x361 > (0 : Int))) = true then (if (decide ((bt a0 x361) ≥ (48 : Int))) = true then (some (decide ((bt a0 x361) ≤ (57 : Int)))) else (some false)) else (some false))) else (if (decide (x361 > (0 : Int))) = true then (if (decide ((bt a0 x361) ≥ (48 : Int))) = true then (some (decide ((bt a0 x361) ≤ (57 : Int)))) else (some false)) else (some false))))) : Option (Bool)) >>= fun x395 => if (!x395) = true then (some (.inl false)) else (f_pluvialref10_Name.l0 a0 (IntKind.i64.wrap (x361 + (1 : Int))))) else (some (.inr ()))
partial_fixpoint
def f_pluvialref10_Name.f (a0 : ByteArray) : Option (Bool) := ((if (decide ((a0.size : Int) < (1 : Int))) = true then (some true) else (some (decide ((a0.size : Int) > (64 : Int))))) : Option (Bool)) >>= fun x340 => if x340 = true then (some false) else ((f_pluvialref10_Name.l0 a0 0) >>= fun oo => match oo with | .inl rr => (some rr) | .inr _ => (some true))
theorem f_pluvialref10_Name.ok (a0 : ByteArray) (r : Bool) (H : f_pluvialref10_Name.f a0 = some r) : Pv.Fn Try.prog 50 [sV a0] [] 0 (fun x o => x = bV r ∧ o = []) := by
  unfold f_pluvialref10_Name.f at H
  refine Fn.bodyK [] Try.func50 rfl rfl (fun Γ hP hn => ?_)
  have hm : Try.prog.follows .mixedOrders = true := by kernel_rfl
  replace hn : Γ.n = 55 := hn
  refine AWp.seq ?_
  refine reg hP hn hm [] [0] [] ⟨[(0, sV a0)], [], 0⟩ [] (by kernel_rfl) trivial ?_
  refine AWp.seq ?_
  refine AWp.seq ?_
  obtain ⟨o397, e398, H⟩ := bind_of H
  refine AWp.mono (Q := fun e s => (match (generalizing := false) o397 with | x340 => e = .normal ∧ s = ⟨[(0, sV a0), (13, bV x340)], [], 0⟩)) (AWp.cv ?_) ?_
  · replace H := e398; clear e398
    rcases Bool.eq_false_or_eq_true (decide ((a0.size : Int) < (1 : Int))) with c339 | c339
    · replace H := (ifT c339).symm.trans H
      refine reg hP hn hm [(3, .b true)] [0, 13] [] ⟨[(0, sV a0), (13, bV true)], [], 0⟩ [(decide ((a0.size : Int) < (1 : Int))) = true] (by kernel_rfl) ⟨by exact c339, trivial⟩ ?_
      obtain rfl := Option.some.inj H
      exact Exists.intro _ (And.intro (fun _ _ h => h.conv (inv := []) (vk := []) (e0 := []) (t := ⟨[(0, sV a0), (13, bV true)], [], 0⟩) (by kernel_rfl)) (And.intro rfl rfl))
    · replace H := (ifF c339).symm.trans H
      refine reg hP hn hm [(3, .b false)] [0, 13] [] ⟨[(0, sV a0), (13, bV (decide ((a0.size : Int) > (64 : Int))))], [], 0⟩ [(decide ((a0.size : Int) < (1 : Int))) = false] (by kernel_rfl) ⟨by exact c339, trivial⟩ ?_
      obtain rfl := Option.some.inj H
      exact Exists.intro _ (And.intro (fun _ _ h => h.conv (inv := []) (vk := []) (e0 := []) (t := ⟨[(0, sV a0), (13, bV (decide ((a0.size : Int) > (64 : Int))))], [], 0⟩) (by kernel_rfl)) (And.intro rfl rfl))
  · obtain ⟨x340, rfl⟩ : ∃ z, z = o397 := ⟨_, rfl⟩
    rintro e s ⟨rfl, rfl⟩
    refine AWp.cond x340 rfl (fun c341 => ?_) (fun c341 => ?_)
    · replace H := (ifT c341).symm.trans H
      refine AWp.seq ?_
      refine reg hP hn hm [] [2] [] ⟨[(2, bV false)], [], 0⟩ [] (by kernel_rfl) trivial ?_
      refine AWp.conv (inv := []) (vk := []) (e0 := []) (t := ⟨[(2, bV false)], [], 0⟩) (by kernel_rfl) ?_
      refine AWp.ret ?_
      obtain rfl := Option.some.inj H
      exact Exists.intro _ (And.intro (fun _ _ h => h) (And.intro (.inl rfl) (And.intro rfl (And.intro (by kernel_rfl) (by kernel_rfl)))))
    · replace H := (ifF c341).symm.trans H
      refine AWp.skip ?_
      refine AWp.seq ?_
      refine AWp.seq ?_
      refine reg hP hn hm [] [0, 3] [] ⟨[(0, sV a0), (3, iV .i64 0)], [], 0⟩ [] (by kernel_rfl) trivial ?_
      refine AWp.block ?_
      obtain ⟨o399, e400, H⟩ := bind_of H
      refine AWp.loop (LWp.conv (inv := []) (vk := []) (e0 := []) (t := ⟨[(0, sV a0), (3, iV .i64 0)], [], 0⟩) (by kernel_rfl) ?_)
      refine LWp.mono (Q := fun e s => (match (generalizing := false) o399 with | .inl rr => e = .ret ∧ s.floor = 0 ∧ resOf Try.prog Try.f50 s = some (bV rr) ∧ ([] : List (Nat × Option MObj)) = [] | .inr _ => e = .exit 0 ∧ s = ⟨[], [], 0⟩)) (LWp.cv (withBody (fun body hbody => ?_))) ?_
      · refine f_pluvialref10_Name.l0.partial_correctness a0 (motive := fun x361 o399 => LWp Γ body (fun e s => ∃ t, Cv Γ s t ∧ (match (generalizing := false) o399 with | .inl rr => e = .ret ∧ t.floor = 0 ∧ resOf Try.prog Try.f50 t = some (bV rr) ∧ ([] : List (Nat × Option MObj)) = [] | .inr _ => e = .exit 0 ∧ t = ⟨[], [], 0⟩)) ⟨[(0, sV a0), (3, iV .i64 x361)], [], 0⟩) ?_ _ _ e400
        clear H e400 o399; intro self ih x361 o399 H
        subst hbody
        refine LWp.round ?_
        refine AWp.seq ?_
        refine AWp.seq ?_
        refine reg hP hn hm [] [0, 3, 17] [] ⟨[(0, sV a0), (3, iV .i64 x361), (17, bV (decide (x361 < (a0.size : Int))))], [], 0⟩ [] (by kernel_rfl) trivial ?_
        refine AWp.cond (decide (x361 < (a0.size : Int))) rfl (fun c362 => ?_) (fun c362 => ?_)
        · replace H := (ifT c362).symm.trans H
          refine AWp.skip ?_
          refine AWp.seq ?_
          refine AWp.block ?_
          refine AWp.seq ?_
          obtain ⟨c364, H⟩ := chk_of H
          refine reg hP hn hm [] [0, 3, 4] [] ⟨[(0, sV a0), (3, iV .i64 x361), (4, iV .u8 (bt a0 x361))], [], 0⟩ [0 ≤ x361, x361 < (a0.size : Int)] (by kernel_rfl) ⟨by exact c364.1, by exact c364.2, trivial⟩ ?_
          refine AWp.seq ?_
          obtain ⟨o401, e402, H⟩ := bind_of H
          refine AWp.mono (Q := fun e s => (match (generalizing := false) o401 with | x395 => e = .normal ∧ s = ⟨[(0, sV a0), (3, iV .i64 x361), (5, bV x395)], [], 0⟩)) (AWp.cv ?_) ?_
          · replace H := e402; clear e402
            rcases Bool.eq_false_or_eq_true ((bt a0 x361) == (95 : Int)) with c380 | c380
            · replace H := (ifT c380).symm.trans H
              refine reg hP hn hm [(2, .b true)] [0, 3, 5] [] ⟨[(0, sV a0), (3, iV .i64 x361), (5, bV true)], [], 0⟩ [((bt a0 x361) == (95 : Int)) = true] (by kernel_rfl) ⟨by exact c380, trivial⟩ ?_
              obtain rfl := Option.some.inj H
              exact Exists.intro _ (And.intro (fun _ _ h => h.conv (inv := []) (vk := []) (e0 := []) (t := ⟨[(0, sV a0), (3, iV .i64 x361), (5, bV true)], [], 0⟩) (by kernel_rfl)) (And.intro rfl rfl))
            · replace H := (ifF c380).symm.trans H
              rcases Bool.eq_false_or_eq_true (decide ((bt a0 x361) ≥ (65 : Int))) with c381 | c381
              · replace H := (ifT c381).symm.trans H
                rcases Bool.eq_false_or_eq_true (decide ((bt a0 x361) ≤ (90 : Int))) with c382 | c382
                · replace H := (ifT c382).symm.trans H
                  refine reg hP hn hm [(2, .b false), (5, .b true), (10, .b true)] [0, 3, 5, 26, 27, 28, 29, 30, 31] [] ⟨[(0, sV a0), (3, iV .i64 x361), (5, bV true), (26, iV .u8 (bt a0 x361)), (27, bV (decide ((bt a0 x361) ≥ (65 : Int)))), (28, bV true), (29, iV .u8 (bt a0 x361)), (30, bV (decide ((bt a0 x361) ≤ (90 : Int)))), (31, bV (decide ((bt a0 x361) ≤ (90 : Int))))], [], 0⟩ [((bt a0 x361) == (95 : Int)) = false, (decide ((bt a0 x361) ≥ (65 : Int))) = true, (decide ((bt a0 x361) ≤ (90 : Int))) = true] (by kernel_rfl) ⟨by exact c380, by exact c381, by exact c382, trivial⟩ ?_
                  obtain rfl := Option.some.inj H
                  exact Exists.intro _ (And.intro (fun _ _ h => h.conv (inv := []) (vk := []) (e0 := []) (t := ⟨[(0, sV a0), (3, iV .i64 x361), (5, bV true)], [], 0⟩) (by kernel_rfl)) (And.intro rfl rfl))
                · replace H := (ifF c382).symm.trans H
                  rcases Bool.eq_false_or_eq_true (decide ((bt a0 x361) ≥ (97 : Int))) with c383 | c383
                  · replace H := (ifT c383).symm.trans H
                    rcases Bool.eq_false_or_eq_true (decide ((bt a0 x361) ≤ (122 : Int))) with c384 | c384
                    · replace H := (ifT c384).symm.trans H
                      refine reg hP hn hm [(2, .b false), (5, .b true), (10, .b false), (13, .b true), (18, .b true)] [0, 3, 5, 26, 27, 28, 29, 30, 31, 34, 35, 36, 37, 38, 39] [] ⟨[(0, sV a0), (3, iV .i64 x361), (5, bV true), (26, iV .u8 (bt a0 x361)), (27, bV (decide ((bt a0 x361) ≥ (65 : Int)))), (28, bV true), (29, iV .u8 (bt a0 x361)), (30, bV (decide ((bt a0 x361) ≤ (90 : Int)))), (31, bV (decide ((bt a0 x361) ≤ (90 : Int)))), (34, iV .u8 (bt a0 x361)), (35, bV (decide ((bt a0 x361) ≥ (97 : Int)))), (36, bV true), (37, iV .u8 (bt a0 x361)), (38, bV (decide ((bt a0 x361) ≤ (122 : Int)))), (39, bV (decide ((bt a0 x361) ≤ (122 : Int))))], [], 0⟩ [((bt a0 x361) == (95 : Int)) = false, (decide ((bt a0 x361) ≥ (65 : Int))) = true, (decide ((bt a0 x361) ≤ (90 : Int))) = false, (decide ((bt a0 x361) ≥ (97 : Int))) = true, (decide ((bt a0 x361) ≤ (122 : Int))) = true] (by kernel_rfl) ⟨by exact c380, by exact c381, by exact c382, by exact c383, by exact c384, trivial⟩ ?_
                      obtain rfl := Option.some.inj H
                      exact Exists.intro _ (And.intro (fun _ _ h => h.conv (inv := []) (vk := []) (e0 := []) (t := ⟨[(0, sV a0), (3, iV .i64 x361), (5, bV true)], [], 0⟩) (by kernel_rfl)) (And.intro rfl rfl))
                    · replace H := (ifF c384).symm.trans H
                      rcases Bool.eq_false_or_eq_true (decide (x361 > (0 : Int))) with c385 | c385
                      · replace H := (ifT c385).symm.trans H
                        rcases Bool.eq_false_or_eq_true (decide ((bt a0 x361) ≥ (48 : Int))) with c386 | c386
                        · replace H := (ifT c386).symm.trans H
                          refine reg hP hn hm [(2, .b false), (5, .b true), (10, .b false), (13, .b true), (18, .b false), (21, .b true), (25, .b true)] [0, 3, 5, 26, 27, 28, 29, 30, 31, 34, 35, 36, 37, 38, 39, 42, 43, 44, 45, 46, 47, 48, 49, 50, 51] [] ⟨[(0, sV a0), (3, iV .i64 x361), (5, bV (decide ((bt a0 x361) ≤ (57 : Int)))), (26, iV .u8 (bt a0 x361)), (27, bV (decide ((bt a0 x361) ≥ (65 : Int)))), (28, bV true), (29, iV .u8 (bt a0 x361)), (30, bV (decide ((bt a0 x361) ≤ (90 : Int)))), (31, bV (decide ((bt a0 x361) ≤ (90 : Int)))), (34, iV .u8 (bt a0 x361)), (35, bV (decide ((bt a0 x361) ≥ (97 : Int)))), (36, bV true), (37, iV .u8 (bt a0 x361)), (38, bV (decide ((bt a0 x361) ≤ (122 : Int)))), (39, bV (decide ((bt a0 x361) ≤ (122 : Int)))), (42, iV .i64 x361), (43, bV (decide (x361 > (0 : Int)))), (44, bV true), (45, iV .u8 (bt a0 x361)), (46, bV (decide ((bt a0 x361) ≥ (48 : Int)))), (47, bV (decide ((bt a0 x361) ≥ (48 : Int)))), (48, bV true), (49, iV .u8 (bt a0 x361)), (50, bV (decide ((bt a0 x361) ≤ (57 : Int)))), (51, bV (decide ((bt a0 x361) ≤ (57 : Int))))], [], 0⟩ [((bt a0 x361) == (95 : Int)) = false, (decide ((bt a0 x361) ≥ (65 : Int))) = true, (decide ((bt a0 x361) ≤ (90 : Int))) = false, (decide ((bt a0 x361) ≥ (97 : Int))) = true, (decide ((bt a0 x361) ≤ (122 : Int))) = false, (decide (x361 > (0 : Int))) = true, (decide ((bt a0 x361) ≥ (48 : Int))) = true] (by kernel_rfl) ⟨by exact c380, by exact c381, by exact c382, by exact c383, by exact c384, by exact c385, by exact c386, trivial⟩ ?_
                          obtain rfl := Option.some.inj H
                          exact Exists.intro _ (And.intro (fun _ _ h => h.conv (inv := []) (vk := []) (e0 := []) (t := ⟨[(0, sV a0), (3, iV .i64 x361), (5, bV (decide ((bt a0 x361) ≤ (57 : Int))))], [], 0⟩) (by kernel_rfl)) (And.intro rfl rfl))
                        · replace H := (ifF c386).symm.trans H
                          refine reg hP hn hm [(2, .b false), (5, .b true), (10, .b false), (13, .b true), (18, .b false), (21, .b true), (25, .b false)] [0, 3, 5, 26, 27, 28, 29, 30, 31, 34, 35, 36, 37, 38, 39, 42, 43, 44, 45, 46, 47, 48, 51] [] ⟨[(0, sV a0), (3, iV .i64 x361), (5, bV false), (26, iV .u8 (bt a0 x361)), (27, bV (decide ((bt a0 x361) ≥ (65 : Int)))), (28, bV true), (29, iV .u8 (bt a0 x361)), (30, bV (decide ((bt a0 x361) ≤ (90 : Int)))), (31, bV (decide ((bt a0 x361) ≤ (90 : Int)))), (34, iV .u8 (bt a0 x361)), (35, bV (decide ((bt a0 x361) ≥ (97 : Int)))), (36, bV true), (37, iV .u8 (bt a0 x361)), (38, bV (decide ((bt a0 x361) ≤ (122 : Int)))), (39, bV (decide ((bt a0 x361) ≤ (122 : Int)))), (42, iV .i64 x361), (43, bV (decide (x361 > (0 : Int)))), (44, bV true), (45, iV .u8 (bt a0 x361)), (46, bV (decide ((bt a0 x361) ≥ (48 : Int)))), (47, bV (decide ((bt a0 x361) ≥ (48 : Int)))), (48, bV false), (51, bV false)], [], 0⟩ [((bt a0 x361) == (95 : Int)) = false, (decide ((bt a0 x361) ≥ (65 : Int))) = true, (decide ((bt a0 x361) ≤ (90 : Int))) = false, (decide ((bt a0 x361) ≥ (97 : Int))) = true, (decide ((bt a0 x361) ≤ (122 : Int))) = false, (decide (x361 > (0 : Int))) = true, (decide ((bt a0 x361) ≥ (48 : Int))) = false] (by kernel_rfl) ⟨by exact c380, by exact c381, by exact c382, by exact c383, by exact c384, by exact c385, by exact c386, trivial⟩ ?_
                          obtain rfl := Option.some.inj H
                          exact Exists.intro _ (And.intro (fun _ _ h => h.conv (inv := []) (vk := []) (e0 := []) (t := ⟨[(0, sV a0), (3, iV .i64 x361), (5, bV false)], [], 0⟩) (by kernel_rfl)) (And.intro rfl rfl))
                      · replace H := (ifF c385).symm.trans H
                        refine reg hP hn hm [(2, .b false), (5, .b true), (10, .b false), (13, .b true), (18, .b false), (21, .b false)] [0, 3, 5, 26, 27, 28, 29, 30, 31, 34, 35, 36, 37, 38, 39, 42, 43, 44, 47, 48, 51] [] ⟨[(0, sV a0), (3, iV .i64 x361), (5, bV false), (26, iV .u8 (bt a0 x361)), (27, bV (decide ((bt a0 x361) ≥ (65 : Int)))), (28, bV true), (29, iV .u8 (bt a0 x361)), (30, bV (decide ((bt a0 x361) ≤ (90 : Int)))), (31, bV (decide ((bt a0 x361) ≤ (90 : Int)))), (34, iV .u8 (bt a0 x361)), (35, bV (decide ((bt a0 x361) ≥ (97 : Int)))), (36, bV true), (37, iV .u8 (bt a0 x361)), (38, bV (decide ((bt a0 x361) ≤ (122 : Int)))), (39, bV (decide ((bt a0 x361) ≤ (122 : Int)))), (42, iV .i64 x361), (43, bV (decide (x361 > (0 : Int)))), (44, bV false), (47, bV false), (48, bV false), (51, bV false)], [], 0⟩ [((bt a0 x361) == (95 : Int)) = false, (decide ((bt a0 x361) ≥ (65 : Int))) = true, (decide ((bt a0 x361) ≤ (90 : Int))) = false, (decide ((bt a0 x361) ≥ (97 : Int))) = true, (decide ((bt a0 x361) ≤ (122 : Int))) = false, (decide (x361 > (0 : Int))) = false] (by kernel_rfl) ⟨by exact c380, by exact c381, by exact c382, by exact c383, by exact c384, by exact c385, trivial⟩ ?_
                        obtain rfl := Option.some.inj H
                        exact Exists.intro _ (And.intro (fun _ _ h => h.conv (inv := []) (vk := []) (e0 := []) (t := ⟨[(0, sV a0), (3, iV .i64 x361), (5, bV false)], [], 0⟩) (by kernel_rfl)) (And.intro rfl rfl))
                  · replace H := (ifF c383).symm.trans H
                    rcases Bool.eq_false_or_eq_true (decide (x361 > (0 : Int))) with c387 | c387
                    · replace H := (ifT c387).symm.trans H
                      rcases Bool.eq_false_or_eq_true (decide ((bt a0 x361) ≥ (48 : Int))) with c388 | c388
                      · replace H := (ifT c388).symm.trans H
                        refine reg hP hn hm [(2, .b false), (5, .b true), (10, .b false), (13, .b false), (21, .b true), (25, .b true)] [0, 3, 5, 26, 27, 28, 29, 30, 31, 34, 35, 36, 39, 42, 43, 44, 45, 46, 47, 48, 49, 50, 51] [] ⟨[(0, sV a0), (3, iV .i64 x361), (5, bV (decide ((bt a0 x361) ≤ (57 : Int)))), (26, iV .u8 (bt a0 x361)), (27, bV (decide ((bt a0 x361) ≥ (65 : Int)))), (28, bV true), (29, iV .u8 (bt a0 x361)), (30, bV (decide ((bt a0 x361) ≤ (90 : Int)))), (31, bV (decide ((bt a0 x361) ≤ (90 : Int)))), (34, iV .u8 (bt a0 x361)), (35, bV (decide ((bt a0 x361) ≥ (97 : Int)))), (36, bV false), (39, bV false), (42, iV .i64 x361), (43, bV (decide (x361 > (0 : Int)))), (44, bV true), (45, iV .u8 (bt a0 x361)), (46, bV (decide ((bt a0 x361) ≥ (48 : Int)))), (47, bV (decide ((bt a0 x361) ≥ (48 : Int)))), (48, bV true), (49, iV .u8 (bt a0 x361)), (50, bV (decide ((bt a0 x361) ≤ (57 : Int)))), (51, bV (decide ((bt a0 x361) ≤ (57 : Int))))], [], 0⟩ [((bt a0 x361) == (95 : Int)) = false, (decide ((bt a0 x361) ≥ (65 : Int))) = true, (decide ((bt a0 x361) ≤ (90 : Int))) = false, (decide ((bt a0 x361) ≥ (97 : Int))) = false, (decide (x361 > (0 : Int))) = true, (decide ((bt a0 x361) ≥ (48 : Int))) = true] (by kernel_rfl) ⟨by exact c380, by exact c381, by exact c382, by exact c383, by exact c387, by exact c388, trivial⟩ ?_
                        obtain rfl := Option.some.inj H
                        exact Exists.intro _ (And.intro (fun _ _ h => h.conv (inv := []) (vk := []) (e0 := []) (t := ⟨[(0, sV a0), (3, iV .i64 x361), (5, bV (decide ((bt a0 x361) ≤ (57 : Int))))], [], 0⟩) (by kernel_rfl)) (And.intro rfl rfl))
                      · replace H := (ifF c388).symm.trans H
                        refine reg hP hn hm [(2, .b false), (5, .b true), (10, .b false), (13, .b false), (21, .b true), (25, .b false)] [0, 3, 5, 26, 27, 28, 29, 30, 31, 34, 35, 36, 39, 42, 43, 44, 45, 46, 47, 48, 51] [] ⟨[(0, sV a0), (3, iV .i64 x361), (5, bV false), (26, iV .u8 (bt a0 x361)), (27, bV (decide ((bt a0 x361) ≥ (65 : Int)))), (28, bV true), (29, iV .u8 (bt a0 x361)), (30, bV (decide ((bt a0 x361) ≤ (90 : Int)))), (31, bV (decide ((bt a0 x361) ≤ (90 : Int)))), (34, iV .u8 (bt a0 x361)), (35, bV (decide ((bt a0 x361) ≥ (97 : Int)))), (36, bV false), (39, bV false), (42, iV .i64 x361), (43, bV (decide (x361 > (0 : Int)))), (44, bV true), (45, iV .u8 (bt a0 x361)), (46, bV (decide ((bt a0 x361) ≥ (48 : Int)))), (47, bV (decide ((bt a0 x361) ≥ (48 : Int)))), (48, bV false), (51, bV false)], [], 0⟩ [((bt a0 x361) == (95 : Int)) = false, (decide ((bt a0 x361) ≥ (65 : Int))) = true, (decide ((bt a0 x361) ≤ (90 : Int))) = false, (decide ((bt a0 x361) ≥ (97 : Int))) = false, (decide (x361 > (0 : Int))) = true, (decide ((bt a0 x361) ≥ (48 : Int))) = false] (by kernel_rfl) ⟨by exact c380, by exact c381, by exact c382, by exact c383, by exact c387, by exact c388, trivial⟩ ?_
                        obtain rfl := Option.some.inj H
                        exact Exists.intro _ (And.intro (fun _ _ h => h.conv (inv := []) (vk := []) (e0 := []) (t := ⟨[(0, sV a0), (3, iV .i64 x361), (5, bV false)], [], 0⟩) (by kernel_rfl)) (And.intro rfl rfl))
                    · replace H := (ifF c387).symm.trans H
                      refine reg hP hn hm [(2, .b false), (5, .b true), (10, .b false), (13, .b false), (21, .b false)] [0, 3, 5, 26, 27, 28, 29, 30, 31, 34, 35, 36, 39, 42, 43, 44, 47, 48, 51] [] ⟨[(0, sV a0), (3, iV .i64 x361), (5, bV false), (26, iV .u8 (bt a0 x361)), (27, bV (decide ((bt a0 x361) ≥ (65 : Int)))), (28, bV true), (29, iV .u8 (bt a0 x361)), (30, bV (decide ((bt a0 x361) ≤ (90 : Int)))), (31, bV (decide ((bt a0 x361) ≤ (90 : Int)))), (34, iV .u8 (bt a0 x361)), (35, bV (decide ((bt a0 x361) ≥ (97 : Int)))), (36, bV false), (39, bV false), (42, iV .i64 x361), (43, bV (decide (x361 > (0 : Int)))), (44, bV false), (47, bV false), (48, bV false), (51, bV false)], [], 0⟩ [((bt a0 x361) == (95 : Int)) = false, (decide ((bt a0 x361) ≥ (65 : Int))) = true, (decide ((bt a0 x361) ≤ (90 : Int))) = false, (decide ((bt a0 x361) ≥ (97 : Int))) = false, (decide (x361 > (0 : Int))) = false] (by kernel_rfl) ⟨by exact c380, by exact c381, by exact c382, by exact c383, by exact c387, trivial⟩ ?_
                      obtain rfl := Option.some.inj H
                      exact Exists.intro _ (And.intro (fun _ _ h => h.conv (inv := []) (vk := []) (e0 := []) (t := ⟨[(0, sV a0), (3, iV .i64 x361), (5, bV false)], [], 0⟩) (by kernel_rfl)) (And.intro rfl rfl))
              · replace H := (ifF c381).symm.trans H
                rcases Bool.eq_false_or_eq_true (decide ((bt a0 x361) ≥ (97 : Int))) with c389 | c389
                · replace H := (ifT c389).symm.trans H
                  rcases Bool.eq_false_or_eq_true (decide ((bt a0 x361) ≤ (122 : Int))) with c390 | c390
                  · replace H := (ifT c390).symm.trans H
                    refine reg hP hn hm [(2, .b false), (5, .b false), (13, .b true), (18, .b true)] [0, 3, 5, 26, 27, 28, 31, 34, 35, 36, 37, 38, 39] [] ⟨[(0, sV a0), (3, iV .i64 x361), (5, bV true), (26, iV .u8 (bt a0 x361)), (27, bV (decide ((bt a0 x361) ≥ (65 : Int)))), (28, bV false), (31, bV false), (34, iV .u8 (bt a0 x361)), (35, bV (decide ((bt a0 x361) ≥ (97 : Int)))), (36, bV true), (37, iV .u8 (bt a0 x361)), (38, bV (decide ((bt a0 x361) ≤ (122 : Int)))), (39, bV (decide ((bt a0 x361) ≤ (122 : Int))))], [], 0⟩ [((bt a0 x361) == (95 : Int)) = false, (decide ((bt a0 x361) ≥ (65 : Int))) = false, (decide ((bt a0 x361) ≥ (97 : Int))) = true, (decide ((bt a0 x361) ≤ (122 : Int))) = true] (by kernel_rfl) ⟨by exact c380, by exact c381, by exact c389, by exact c390, trivial⟩ ?_
                    obtain rfl := Option.some.inj H
                    exact Exists.intro _ (And.intro (fun _ _ h => h.conv (inv := []) (vk := []) (e0 := []) (t := ⟨[(0, sV a0), (3, iV .i64 x361), (5, bV true)], [], 0⟩) (by kernel_rfl)) (And.intro rfl rfl))
                  · replace H := (ifF c390).symm.trans H
                    rcases Bool.eq_false_or_eq_true (decide (x361 > (0 : Int))) with c391 | c391
                    · replace H := (ifT c391).symm.trans H
                      rcases Bool.eq_false_or_eq_true (decide ((bt a0 x361) ≥ (48 : Int))) with c392 | c392
                      · replace H := (ifT c392).symm.trans H
                        refine reg hP hn hm [(2, .b false), (5, .b false), (13, .b true), (18, .b false), (21, .b true), (25, .b true)] [0, 3, 5, 26, 27, 28, 31, 34, 35, 36, 37, 38, 39, 42, 43, 44, 45, 46, 47, 48, 49, 50, 51] [] ⟨[(0, sV a0), (3, iV .i64 x361), (5, bV (decide ((bt a0 x361) ≤ (57 : Int)))), (26, iV .u8 (bt a0 x361)), (27, bV (decide ((bt a0 x361) ≥ (65 : Int)))), (28, bV false), (31, bV false), (34, iV .u8 (bt a0 x361)), (35, bV (decide ((bt a0 x361) ≥ (97 : Int)))), (36, bV true), (37, iV .u8 (bt a0 x361)), (38, bV (decide ((bt a0 x361) ≤ (122 : Int)))), (39, bV (decide ((bt a0 x361) ≤ (122 : Int)))), (42, iV .i64 x361), (43, bV (decide (x361 > (0 : Int)))), (44, bV true), (45, iV .u8 (bt a0 x361)), (46, bV (decide ((bt a0 x361) ≥ (48 : Int)))), (47, bV (decide ((bt a0 x361) ≥ (48 : Int)))), (48, bV true), (49, iV .u8 (bt a0 x361)), (50, bV (decide ((bt a0 x361) ≤ (57 : Int)))), (51, bV (decide ((bt a0 x361) ≤ (57 : Int))))], [], 0⟩ [((bt a0 x361) == (95 : Int)) = false, (decide ((bt a0 x361) ≥ (65 : Int))) = false, (decide ((bt a0 x361) ≥ (97 : Int))) = true, (decide ((bt a0 x361) ≤ (122 : Int))) = false, (decide (x361 > (0 : Int))) = true, (decide ((bt a0 x361) ≥ (48 : Int))) = true] (by kernel_rfl) ⟨by exact c380, by exact c381, by exact c389, by exact c390, by exact c391, by exact c392, trivial⟩ ?_
                        obtain rfl := Option.some.inj H
                        exact Exists.intro _ (And.intro (fun _ _ h => h.conv (inv := []) (vk := []) (e0 := []) (t := ⟨[(0, sV a0), (3, iV .i64 x361), (5, bV (decide ((bt a0 x361) ≤ (57 : Int))))], [], 0⟩) (by kernel_rfl)) (And.intro rfl rfl))
                      · replace H := (ifF c392).symm.trans H
                        refine reg hP hn hm [(2, .b false), (5, .b false), (13, .b true), (18, .b false), (21, .b true), (25, .b false)] [0, 3, 5, 26, 27, 28, 31, 34, 35, 36, 37, 38, 39, 42, 43, 44, 45, 46, 47, 48, 51] [] ⟨[(0, sV a0), (3, iV .i64 x361), (5, bV false), (26, iV .u8 (bt a0 x361)), (27, bV (decide ((bt a0 x361) ≥ (65 : Int)))), (28, bV false), (31, bV false), (34, iV .u8 (bt a0 x361)), (35, bV (decide ((bt a0 x361) ≥ (97 : Int)))), (36, bV true), (37, iV .u8 (bt a0 x361)), (38, bV (decide ((bt a0 x361) ≤ (122 : Int)))), (39, bV (decide ((bt a0 x361) ≤ (122 : Int)))), (42, iV .i64 x361), (43, bV (decide (x361 > (0 : Int)))), (44, bV true), (45, iV .u8 (bt a0 x361)), (46, bV (decide ((bt a0 x361) ≥ (48 : Int)))), (47, bV (decide ((bt a0 x361) ≥ (48 : Int)))), (48, bV false), (51, bV false)], [], 0⟩ [((bt a0 x361) == (95 : Int)) = false, (decide ((bt a0 x361) ≥ (65 : Int))) = false, (decide ((bt a0 x361) ≥ (97 : Int))) = true, (decide ((bt a0 x361) ≤ (122 : Int))) = false, (decide (x361 > (0 : Int))) = true, (decide ((bt a0 x361) ≥ (48 : Int))) = false] (by kernel_rfl) ⟨by exact c380, by exact c381, by exact c389, by exact c390, by exact c391, by exact c392, trivial⟩ ?_
                        obtain rfl := Option.some.inj H
                        exact Exists.intro _ (And.intro (fun _ _ h => h.conv (inv := []) (vk := []) (e0 := []) (t := ⟨[(0, sV a0), (3, iV .i64 x361), (5, bV false)], [], 0⟩) (by kernel_rfl)) (And.intro rfl rfl))
                    · replace H := (ifF c391).symm.trans H
                      refine reg hP hn hm [(2, .b false), (5, .b false), (13, .b true), (18, .b false), (21, .b false)] [0, 3, 5, 26, 27, 28, 31, 34, 35, 36, 37, 38, 39, 42, 43, 44, 47, 48, 51] [] ⟨[(0, sV a0), (3, iV .i64 x361), (5, bV false), (26, iV .u8 (bt a0 x361)), (27, bV (decide ((bt a0 x361) ≥ (65 : Int)))), (28, bV false), (31, bV false), (34, iV .u8 (bt a0 x361)), (35, bV (decide ((bt a0 x361) ≥ (97 : Int)))), (36, bV true), (37, iV .u8 (bt a0 x361)), (38, bV (decide ((bt a0 x361) ≤ (122 : Int)))), (39, bV (decide ((bt a0 x361) ≤ (122 : Int)))), (42, iV .i64 x361), (43, bV (decide (x361 > (0 : Int)))), (44, bV false), (47, bV false), (48, bV false), (51, bV false)], [], 0⟩ [((bt a0 x361) == (95 : Int)) = false, (decide ((bt a0 x361) ≥ (65 : Int))) = false, (decide ((bt a0 x361) ≥ (97 : Int))) = true, (decide ((bt a0 x361) ≤ (122 : Int))) = false, (decide (x361 > (0 : Int))) = false] (by kernel_rfl) ⟨by exact c380, by exact c381, by exact c389, by exact c390, by exact c391, trivial⟩ ?_
                      obtain rfl := Option.some.inj H
                      exact Exists.intro _ (And.intro (fun _ _ h => h.conv (inv := []) (vk := []) (e0 := []) (t := ⟨[(0, sV a0), (3, iV .i64 x361), (5, bV false)], [], 0⟩) (by kernel_rfl)) (And.intro rfl rfl))
                · replace H := (ifF c389).symm.trans H
                  rcases Bool.eq_false_or_eq_true (decide (x361 > (0 : Int))) with c393 | c393
                  · replace H := (ifT c393).symm.trans H
                    rcases Bool.eq_false_or_eq_true (decide ((bt a0 x361) ≥ (48 : Int))) with c394 | c394
                    · replace H := (ifT c394).symm.trans H
                      refine reg hP hn hm [(2, .b false), (5, .b false), (13, .b false), (21, .b true), (25, .b true)] [0, 3, 5, 26, 27, 28, 31, 34, 35, 36, 39, 42, 43, 44, 45, 46, 47, 48, 49, 50, 51] [] ⟨[(0, sV a0), (3, iV .i64 x361), (5, bV (decide ((bt a0 x361) ≤ (57 : Int)))), (26, iV .u8 (bt a0 x361)), (27, bV (decide ((bt a0 x361) ≥ (65 : Int)))), (28, bV false), (31, bV false), (34, iV .u8 (bt a0 x361)), (35, bV (decide ((bt a0 x361) ≥ (97 : Int)))), (36, bV false), (39, bV false), (42, iV .i64 x361), (43, bV (decide (x361 > (0 : Int)))), (44, bV true), (45, iV .u8 (bt a0 x361)), (46, bV (decide ((bt a0 x361) ≥ (48 : Int)))), (47, bV (decide ((bt a0 x361) ≥ (48 : Int)))), (48, bV true), (49, iV .u8 (bt a0 x361)), (50, bV (decide ((bt a0 x361) ≤ (57 : Int)))), (51, bV (decide ((bt a0 x361) ≤ (57 : Int))))], [], 0⟩ [((bt a0 x361) == (95 : Int)) = false, (decide ((bt a0 x361) ≥ (65 : Int))) = false, (decide ((bt a0 x361) ≥ (97 : Int))) = false, (decide (x361 > (0 : Int))) = true, (decide ((bt a0 x361) ≥ (48 : Int))) = true] (by kernel_rfl) ⟨by exact c380, by exact c381, by exact c389, by exact c393, by exact c394, trivial⟩ ?_
                      obtain rfl := Option.some.inj H
                      exact Exists.intro _ (And.intro (fun _ _ h => h.conv (inv := []) (vk := []) (e0 := []) (t := ⟨[(0, sV a0), (3, iV .i64 x361), (5, bV (decide ((bt a0 x361) ≤ (57 : Int))))], [], 0⟩) (by kernel_rfl)) (And.intro rfl rfl))
                    · replace H := (ifF c394).symm.trans H
                      refine reg hP hn hm [(2, .b false), (5, .b false), (13, .b false), (21, .b true), (25, .b false)] [0, 3, 5, 26, 27, 28, 31, 34, 35, 36, 39, 42, 43, 44, 45, 46, 47, 48, 51] [] ⟨[(0, sV a0), (3, iV .i64 x361), (5, bV false), (26, iV .u8 (bt a0 x361)), (27, bV (decide ((bt a0 x361) ≥ (65 : Int)))), (28, bV false), (31, bV false), (34, iV .u8 (bt a0 x361)), (35, bV (decide ((bt a0 x361) ≥ (97 : Int)))), (36, bV false), (39, bV false), (42, iV .i64 x361), (43, bV (decide (x361 > (0 : Int)))), (44, bV true), (45, iV .u8 (bt a0 x361)), (46, bV (decide ((bt a0 x361) ≥ (48 : Int)))), (47, bV (decide ((bt a0 x361) ≥ (48 : Int)))), (48, bV false), (51, bV false)], [], 0⟩ [((bt a0 x361) == (95 : Int)) = false, (decide ((bt a0 x361) ≥ (65 : Int))) = false, (decide ((bt a0 x361) ≥ (97 : Int))) = false, (decide (x361 > (0 : Int))) = true, (decide ((bt a0 x361) ≥ (48 : Int))) = false] (by kernel_rfl) ⟨by exact c380, by exact c381, by exact c389, by exact c393, by exact c394, trivial⟩ ?_
                      obtain rfl := Option.some.inj H
                      exact Exists.intro _ (And.intro (fun _ _ h => h.conv (inv := []) (vk := []) (e0 := []) (t := ⟨[(0, sV a0), (3, iV .i64 x361), (5, bV false)], [], 0⟩) (by kernel_rfl)) (And.intro rfl rfl))
                  · replace H := (ifF c393).symm.trans H
                    refine reg hP hn hm [(2, .b false), (5, .b false), (13, .b false), (21, .b false)] [0, 3, 5, 26, 27, 28, 31, 34, 35, 36, 39, 42, 43, 44, 47, 48, 51] [] ⟨[(0, sV a0), (3, iV .i64 x361), (5, bV false), (26, iV .u8 (bt a0 x361)), (27, bV (decide ((bt a0 x361) ≥ (65 : Int)))), (28, bV false), (31, bV false), (34, iV .u8 (bt a0 x361)), (35, bV (decide ((bt a0 x361) ≥ (97 : Int)))), (36, bV false), (39, bV false), (42, iV .i64 x361), (43, bV (decide (x361 > (0 : Int)))), (44, bV false), (47, bV false), (48, bV false), (51, bV false)], [], 0⟩ [((bt a0 x361) == (95 : Int)) = false, (decide ((bt a0 x361) ≥ (65 : Int))) = false, (decide ((bt a0 x361) ≥ (97 : Int))) = false, (decide (x361 > (0 : Int))) = false] (by kernel_rfl) ⟨by exact c380, by exact c381, by exact c389, by exact c393, trivial⟩ ?_
                    obtain rfl := Option.some.inj H
                    exact Exists.intro _ (And.intro (fun _ _ h => h.conv (inv := []) (vk := []) (e0 := []) (t := ⟨[(0, sV a0), (3, iV .i64 x361), (5, bV false)], [], 0⟩) (by kernel_rfl)) (And.intro rfl rfl))
          · obtain ⟨x395, rfl⟩ : ∃ z, z = o401 := ⟨_, rfl⟩
            rintro e s ⟨rfl, rfl⟩
            refine AWp.seq ?_
            refine reg hP hn hm [] [0, 3, 54] [] ⟨[(0, sV a0), (3, iV .i64 x361), (54, bV (!x395))], [], 0⟩ [] (by kernel_rfl) trivial ?_
            refine AWp.cond (!x395) rfl (fun c396 => ?_) (fun c396 => ?_)
            · replace H := (ifT c396).symm.trans H
              refine AWp.seq ?_
              refine reg hP hn hm [] [2] [] ⟨[(2, bV false)], [], 0⟩ [] (by kernel_rfl) trivial ?_
              refine AWp.conv (inv := []) (vk := []) (e0 := []) (t := ⟨[(2, bV false)], [], 0⟩) (by kernel_rfl) ?_
              refine AWp.ret ?_
              obtain rfl := Option.some.inj H
              exact Exists.intro _ (And.intro (fun _ _ h => h) (And.intro rfl (And.intro rfl (And.intro (by kernel_rfl) (by kernel_rfl)))))
            · replace H := (ifF c396).symm.trans H
              refine AWp.skip ?_
              refine reg hP hn hm [] [0, 3] [] ⟨[(0, sV a0), (3, iV .i64 (IntKind.i64.wrap (x361 + (1 : Int))))], [], 0⟩ [] (by kernel_rfl) trivial ?_
              exact LWp.conv (inv := []) (vk := []) (e0 := []) (t := ⟨[(0, sV a0), (3, iV .i64 (IntKind.i64.wrap (x361 + (1 : Int))))], [], 0⟩) (by kernel_rfl) (ih _ _ H)
        · replace H := (ifF c362).symm.trans H
          refine AWp.exit ?_
          obtain rfl := Option.some.inj H
          exact Exists.intro _ (And.intro (fun _ _ h => h.conv (inv := []) (vk := []) (e0 := []) (t := ⟨[], [], 0⟩) (by kernel_rfl)) (And.intro rfl rfl))
      · rcases o399 with rr | _
        · skip
          rintro e s ⟨rfl, hfl, hres⟩
          obtain rfl := Option.some.inj H
          exact Exists.intro _ (And.intro (fun _ _ h => h) (And.intro (.inl rfl) (And.intro hfl hres)))
        · skip
          rintro e s ⟨rfl, rfl⟩
          refine AWp.seq ?_
          refine reg hP hn hm [] [2] [] ⟨[(2, bV true)], [], 0⟩ [] (by kernel_rfl) trivial ?_
          refine AWp.conv (inv := []) (vk := []) (e0 := []) (t := ⟨[(2, bV true)], [], 0⟩) (by kernel_rfl) ?_
          refine AWp.ret ?_
          obtain rfl := Option.some.inj H
          exact Exists.intro _ (And.intro (fun _ _ h => h) (And.intro (.inl rfl) (And.intro rfl (And.intro (by kernel_rfl) (by kernel_rfl)))))
def f_pluvialref10_Check.l0 (a0 : List TLabel) (x416 : Int) : Option (Int ⊕ Unit) := if (decide (x416 < (a0.length : Int))) = true then ((((at? a0 x416) >>= fun b425 => (f_pluvialref10_Name.f b425.f0) >>= fun t428 => if (!t428) = true then (some true) else (if (decide ((b425.f1.size : Int) < (1 : Int))) = true then (some true) else (some (decide ((b425.f1.size : Int) > (64 : Int)))))) : Option (Bool)) >>= fun x432 => if x432 = true then (some (.inl 26)) else (((if (decide (x416 > (0 : Int))) = true then ((at? a0 (IntKind.i64.wrap (x416 - (1 : Int)))) >>= fun b442 => (at? a0 x416) >>= fun b445 => some (!(Op.bytesLess b442.f0.toList b445.f0.toList))) else (some false)) : Option (Bool)) >>= fun x448 => if x448 = true then (some (.inl 26)) else (f_pluvialref10_Check.l0 a0 (IntKind.i64.wrap (x416 + (1 : Int)))))) else (some (.inr ()))
partial_fixpoint
def f_pluvialref10_Check.f (a0 : List TLabel) : Option (Int) := if (decide ((a0.length : Int) > (16 : Int))) = true then (some 9) else ((f_pluvialref10_Check.l0 a0 0) >>= fun oo => match oo with | .inl rr => (some rr) | .inr _ => (some 0))
theorem f_pluvialref10_Check.ok (a0 : List TLabel) (r : Int) (H : f_pluvialref10_Check.f a0 = some r) : Pv.Fn Try.prog 21 [.im (.row (a0.map eLabel))] [] 0 (fun x o => x = iV .i64 r ∧ o = []) := by
  unfold f_pluvialref10_Check.f at H
  refine Fn.bodyK [] Try.func21 rfl rfl (fun Γ hP hn => ?_)
  have hm : Try.prog.follows .mixedOrders = true := by kernel_rfl
  replace hn : Γ.n = 55 := hn
  refine AWp.seq ?_
  refine reg hP hn hm [] [0] [] ⟨[(0, .im (.row (a0.map eLabel)))], [], 0⟩ [] (by kernel_rfl) trivial ?_
  refine AWp.seq ?_
  refine AWp.seq ?_
  refine reg hP hn hm [(1, .any (iV .i64 (a0.length : Int)))] [0, 6] [] ⟨[(0, .im (.row (a0.map eLabel))), (6, bV (decide ((a0.length : Int) > (16 : Int))))], [], 0⟩ [((a0.map eLabel).length : Int) = (a0.length : Int)] (by kernel_rfl) ⟨by rw [len_map], trivial⟩ ?_
  refine AWp.cond (decide ((a0.length : Int) > (16 : Int))) rfl (fun c333 => ?_) (fun c333 => ?_)
  · replace H := (ifT c333).symm.trans H
    refine AWp.seq ?_
    refine reg hP hn hm [] [2] [] ⟨[(2, iV .i64 9)], [], 0⟩ [] (by kernel_rfl) trivial ?_
    refine AWp.conv (inv := []) (vk := []) (e0 := []) (t := ⟨[(2, iV .i64 9)], [], 0⟩) (by kernel_rfl) ?_
    refine AWp.ret ?_
    obtain rfl := Option.some.inj H
    exact Exists.intro _ (And.intro (fun _ _ h => h) (And.intro (.inl rfl) (And.intro rfl (And.intro (by kernel_rfl) (by kernel_rfl)))))
  · replace H := (ifF c333).symm.trans H
    refine AWp.skip ?_
    refine AWp.seq ?_
    refine AWp.seq ?_
    refine reg hP hn hm [] [0, 3] [] ⟨[(0, .im (.row (a0.map eLabel))), (3, iV .i64 0)], [], 0⟩ [] (by kernel_rfl) trivial ?_
    refine AWp.block ?_
    obtain ⟨o450, e451, H⟩ := bind_of H
    refine AWp.loop (LWp.conv (inv := []) (vk := []) (e0 := []) (t := ⟨[(0, .im (.row (a0.map eLabel))), (3, iV .i64 0)], [], 0⟩) (by kernel_rfl) ?_)
    refine LWp.mono (Q := fun e s => (match (generalizing := false) o450 with | .inl rr => e = .ret ∧ s.floor = 0 ∧ resOf Try.prog Try.f21 s = some (iV .i64 rr) ∧ ([] : List (Nat × Option MObj)) = [] | .inr _ => e = .exit 0 ∧ s = ⟨[], [], 0⟩)) (LWp.cv (withBody (fun body hbody => ?_))) ?_
    · refine f_pluvialref10_Check.l0.partial_correctness a0 (motive := fun x416 o450 => LWp Γ body (fun e s => ∃ t, Cv Γ s t ∧ (match (generalizing := false) o450 with | .inl rr => e = .ret ∧ t.floor = 0 ∧ resOf Try.prog Try.f21 t = some (iV .i64 rr) ∧ ([] : List (Nat × Option MObj)) = [] | .inr _ => e = .exit 0 ∧ t = ⟨[], [], 0⟩)) ⟨[(0, .im (.row (a0.map eLabel))), (3, iV .i64 x416)], [], 0⟩) ?_ _ _ e451
      clear H e451 o450; intro self ih x416 o450 H
      subst hbody
      refine LWp.round ?_
      refine AWp.seq ?_
      refine AWp.seq ?_
      refine reg hP hn hm [(2, .any (iV .i64 (a0.length : Int)))] [0, 3, 10] [] ⟨[(0, .im (.row (a0.map eLabel))), (3, iV .i64 x416), (10, bV (decide (x416 < (a0.length : Int))))], [], 0⟩ [((a0.map eLabel).length : Int) = (a0.length : Int)] (by kernel_rfl) ⟨by rw [len_map], trivial⟩ ?_
      refine AWp.cond (decide (x416 < (a0.length : Int))) rfl (fun c417 => ?_) (fun c417 => ?_)
      · replace H := (ifT c417).symm.trans H
        refine AWp.skip ?_
        refine AWp.seq ?_
        refine AWp.block ?_
        refine AWp.seq ?_
        refine AWp.seq ?_
        obtain ⟨o452, e453, H⟩ := bind_of H
        refine AWp.mono (Q := fun e s => (match (generalizing := false) o452 with | x432 => e = .normal ∧ s = ⟨[(0, .im (.row (a0.map eLabel))), (3, iV .i64 x416), (37, bV x432)], [], 0⟩)) (AWp.cv ?_) ?_
        · replace H := e453; clear e453
          obtain ⟨b425, p426, q427, H⟩ := at_of H
          obtain ⟨t428, e429, H⟩ := bind_of H
          rcases Bool.eq_false_or_eq_true (!t428) with c430 | c430
          · replace H := (ifT c430).symm.trans H
            refine reg hP hn hm [(2, .c (eLabel b425)), (5, .call [] [] [] [] 0 (bV t428) []), (7, .b true)] [0, 3, 37] [] ⟨[(0, .im (.row (a0.map eLabel))), (3, iV .i64 x416), (37, bV true)], [], 0⟩ [0 ≤ x416, (a0.map eLabel)[(Int.toNat (x416))]? = some (eLabel b425), Enters Try.prog 50, Pv.Fn Try.prog 50 [sV b425.f0] [] 0 (fun r o => r = bV t428 ∧ o = []), (!t428) = true] (by kernel_rfl) ⟨by exact p426, by exact el_map eLabel q427, by exact Try.call50, by exact f_pluvialref10_Name.ok b425.f0 t428 e429, by exact c430, trivial⟩ ?_
            obtain rfl := Option.some.inj H
            exact Exists.intro _ (And.intro (fun _ _ h => h.conv (inv := []) (vk := []) (e0 := []) (t := ⟨[(0, .im (.row (a0.map eLabel))), (3, iV .i64 x416), (37, bV true)], [], 0⟩) (by kernel_rfl)) (And.intro rfl rfl))
          · replace H := (ifF c430).symm.trans H
            rcases Bool.eq_false_or_eq_true (decide ((b425.f1.size : Int) < (1 : Int))) with c431 | c431
            · replace H := (ifT c431).symm.trans H
              refine reg hP hn hm [(2, .c (eLabel b425)), (5, .call [] [] [] [] 0 (bV t428) []), (7, .b false), (10, .c (eLabel b425)), (16, .b true)] [0, 3, 21, 22, 23, 24, 25, 26, 27, 37] [] ⟨[(0, .im (.row (a0.map eLabel))), (3, iV .i64 x416), (21, .im (.row (a0.map eLabel))), (22, iV .i64 x416), (23, .ip [sI b425.f0, sI b425.f1]), (24, .ip [sI b425.f1]), (25, sV b425.f1), (26, iV .i64 (b425.f1.size : Int)), (27, bV (decide ((b425.f1.size : Int) < (1 : Int)))), (37, bV true)], [], 0⟩ [0 ≤ x416, (a0.map eLabel)[(Int.toNat (x416))]? = some (eLabel b425), Enters Try.prog 50, Pv.Fn Try.prog 50 [sV b425.f0] [] 0 (fun r o => r = bV t428 ∧ o = []), (!t428) = false, 0 ≤ x416, (a0.map eLabel)[(Int.toNat (x416))]? = some (eLabel b425), (decide ((b425.f1.size : Int) < (1 : Int))) = true] (by kernel_rfl) ⟨by exact p426, by exact el_map eLabel q427, by exact Try.call50, by exact f_pluvialref10_Name.ok b425.f0 t428 e429, by exact c430, by exact p426, by exact el_map eLabel q427, by exact c431, trivial⟩ ?_
              obtain rfl := Option.some.inj H
              exact Exists.intro _ (And.intro (fun _ _ h => h.conv (inv := []) (vk := []) (e0 := []) (t := ⟨[(0, .im (.row (a0.map eLabel))), (3, iV .i64 x416), (37, bV true)], [], 0⟩) (by kernel_rfl)) (And.intro rfl rfl))
            · replace H := (ifF c431).symm.trans H
              refine reg hP hn hm [(2, .c (eLabel b425)), (5, .call [] [] [] [] 0 (bV t428) []), (7, .b false), (10, .c (eLabel b425)), (16, .b false), (19, .c (eLabel b425))] [0, 3, 21, 22, 23, 24, 25, 26, 27, 30, 31, 32, 33, 34, 35, 36, 37] [] ⟨[(0, .im (.row (a0.map eLabel))), (3, iV .i64 x416), (21, .im (.row (a0.map eLabel))), (22, iV .i64 x416), (23, .ip [sI b425.f0, sI b425.f1]), (24, .ip [sI b425.f1]), (25, sV b425.f1), (26, iV .i64 (b425.f1.size : Int)), (27, bV (decide ((b425.f1.size : Int) < (1 : Int)))), (30, .im (.row (a0.map eLabel))), (31, iV .i64 x416), (32, .ip [sI b425.f0, sI b425.f1]), (33, .ip [sI b425.f1]), (34, sV b425.f1), (35, iV .i64 (b425.f1.size : Int)), (36, bV (decide ((b425.f1.size : Int) > (64 : Int)))), (37, bV (decide ((b425.f1.size : Int) > (64 : Int))))], [], 0⟩ [0 ≤ x416, (a0.map eLabel)[(Int.toNat (x416))]? = some (eLabel b425), Enters Try.prog 50, Pv.Fn Try.prog 50 [sV b425.f0] [] 0 (fun r o => r = bV t428 ∧ o = []), (!t428) = false, 0 ≤ x416, (a0.map eLabel)[(Int.toNat (x416))]? = some (eLabel b425), (decide ((b425.f1.size : Int) < (1 : Int))) = false, 0 ≤ x416, (a0.map eLabel)[(Int.toNat (x416))]? = some (eLabel b425)] (by kernel_rfl) ⟨by exact p426, by exact el_map eLabel q427, by exact Try.call50, by exact f_pluvialref10_Name.ok b425.f0 t428 e429, by exact c430, by exact p426, by exact el_map eLabel q427, by exact c431, by exact p426, by exact el_map eLabel q427, trivial⟩ ?_
              obtain rfl := Option.some.inj H
              exact Exists.intro _ (And.intro (fun _ _ h => h.conv (inv := []) (vk := []) (e0 := []) (t := ⟨[(0, .im (.row (a0.map eLabel))), (3, iV .i64 x416), (37, bV (decide ((b425.f1.size : Int) > (64 : Int))))], [], 0⟩) (by kernel_rfl)) (And.intro rfl rfl))
        · obtain ⟨x432, rfl⟩ : ∃ z, z = o452 := ⟨_, rfl⟩
          rintro e s ⟨rfl, rfl⟩
          refine AWp.cond x432 rfl (fun c433 => ?_) (fun c433 => ?_)
          · replace H := (ifT c433).symm.trans H
            refine AWp.seq ?_
            refine reg hP hn hm [] [2] [] ⟨[(2, iV .i64 26)], [], 0⟩ [] (by kernel_rfl) trivial ?_
            refine AWp.conv (inv := []) (vk := []) (e0 := []) (t := ⟨[(2, iV .i64 26)], [], 0⟩) (by kernel_rfl) ?_
            refine AWp.ret ?_
            obtain rfl := Option.some.inj H
            exact Exists.intro _ (And.intro (fun _ _ h => h) (And.intro rfl (And.intro rfl (And.intro (by kernel_rfl) (by kernel_rfl)))))
          · replace H := (ifF c433).symm.trans H
            refine AWp.skip ?_
            refine AWp.seq ?_
            obtain ⟨o454, e455, H⟩ := bind_of H
            refine AWp.mono (Q := fun e s => (match (generalizing := false) o454 with | x448 => e = .normal ∧ s = ⟨[(0, .im (.row (a0.map eLabel))), (3, iV .i64 x416), (54, bV x448)], [], 0⟩)) (AWp.cv ?_) ?_
            · replace H := e455; clear e455
              rcases Bool.eq_false_or_eq_true (decide (x416 > (0 : Int))) with c441 | c441
              · replace H := (ifT c441).symm.trans H
                obtain ⟨b442, p443, q444, H⟩ := at_of H
                obtain ⟨b445, p446, q447, H⟩ := at_of H
                refine reg hP hn hm [(2, .b true), (6, .c (eLabel b442)), (11, .c (eLabel b445))] [0, 3, 41, 42, 43, 44, 45, 46, 47, 48, 49, 50, 51, 52, 53, 54] [] ⟨[(0, .im (.row (a0.map eLabel))), (3, iV .i64 x416), (41, .im (.row (a0.map eLabel))), (42, iV .i64 x416), (43, iV .i64 (IntKind.i64.wrap (x416 - (1 : Int)))), (44, .ip [sI b442.f0, sI b442.f1]), (45, .ip [sI b442.f0, sI b442.f1]), (46, sV b442.f0), (47, .im (.row (a0.map eLabel))), (48, iV .i64 x416), (49, .ip [sI b445.f0, sI b445.f1]), (50, .ip [sI b445.f0, sI b445.f1]), (51, sV b445.f0), (52, bV (Op.bytesLess b442.f0.toList b445.f0.toList)), (53, bV (!(Op.bytesLess b442.f0.toList b445.f0.toList))), (54, bV (!(Op.bytesLess b442.f0.toList b445.f0.toList)))], [], 0⟩ [(decide (x416 > (0 : Int))) = true, 0 ≤ (IntKind.i64.wrap (x416 - (1 : Int))), (a0.map eLabel)[(Int.toNat (IntKind.i64.wrap (x416 - (1 : Int))))]? = some (eLabel b442), 0 ≤ x416, (a0.map eLabel)[(Int.toNat (x416))]? = some (eLabel b445)] (by kernel_rfl) ⟨by exact c441, by exact p443, by exact el_map eLabel q444, by exact p446, by exact el_map eLabel q447, trivial⟩ ?_
                obtain rfl := Option.some.inj H
                exact Exists.intro _ (And.intro (fun _ _ h => h.conv (inv := []) (vk := []) (e0 := []) (t := ⟨[(0, .im (.row (a0.map eLabel))), (3, iV .i64 x416), (54, bV (!(Op.bytesLess b442.f0.toList b445.f0.toList)))], [], 0⟩) (by kernel_rfl)) (And.intro rfl rfl))
              · replace H := (ifF c441).symm.trans H
                refine reg hP hn hm [(2, .b false)] [0, 3, 54] [] ⟨[(0, .im (.row (a0.map eLabel))), (3, iV .i64 x416), (54, bV false)], [], 0⟩ [(decide (x416 > (0 : Int))) = false] (by kernel_rfl) ⟨by exact c441, trivial⟩ ?_
                obtain rfl := Option.some.inj H
                exact Exists.intro _ (And.intro (fun _ _ h => h.conv (inv := []) (vk := []) (e0 := []) (t := ⟨[(0, .im (.row (a0.map eLabel))), (3, iV .i64 x416), (54, bV false)], [], 0⟩) (by kernel_rfl)) (And.intro rfl rfl))
            · obtain ⟨x448, rfl⟩ : ∃ z, z = o454 := ⟨_, rfl⟩
              rintro e s ⟨rfl, rfl⟩
              refine AWp.cond x448 rfl (fun c449 => ?_) (fun c449 => ?_)
              · replace H := (ifT c449).symm.trans H
                refine AWp.seq ?_
                refine reg hP hn hm [] [2] [] ⟨[(2, iV .i64 26)], [], 0⟩ [] (by kernel_rfl) trivial ?_
                refine AWp.conv (inv := []) (vk := []) (e0 := []) (t := ⟨[(2, iV .i64 26)], [], 0⟩) (by kernel_rfl) ?_
                refine AWp.ret ?_
                obtain rfl := Option.some.inj H
                exact Exists.intro _ (And.intro (fun _ _ h => h) (And.intro rfl (And.intro rfl (And.intro (by kernel_rfl) (by kernel_rfl)))))
              · replace H := (ifF c449).symm.trans H
                refine AWp.skip ?_
                refine reg hP hn hm [] [0, 3] [] ⟨[(0, .im (.row (a0.map eLabel))), (3, iV .i64 (IntKind.i64.wrap (x416 + (1 : Int))))], [], 0⟩ [] (by kernel_rfl) trivial ?_
                exact LWp.conv (inv := []) (vk := []) (e0 := []) (t := ⟨[(0, .im (.row (a0.map eLabel))), (3, iV .i64 (IntKind.i64.wrap (x416 + (1 : Int))))], [], 0⟩) (by kernel_rfl) (ih _ _ H)
      · replace H := (ifF c417).symm.trans H
        refine AWp.exit ?_
        obtain rfl := Option.some.inj H
        exact Exists.intro _ (And.intro (fun _ _ h => h.conv (inv := []) (vk := []) (e0 := []) (t := ⟨[], [], 0⟩) (by kernel_rfl)) (And.intro rfl rfl))
    · rcases o450 with rr | _
      · skip
        rintro e s ⟨rfl, hfl, hres⟩
        obtain rfl := Option.some.inj H
        exact Exists.intro _ (And.intro (fun _ _ h => h) (And.intro (.inl rfl) (And.intro hfl hres)))
      · skip
        rintro e s ⟨rfl, rfl⟩
        refine AWp.seq ?_
        refine reg hP hn hm [] [2] [] ⟨[(2, iV .i64 0)], [], 0⟩ [] (by kernel_rfl) trivial ?_
        refine AWp.conv (inv := []) (vk := []) (e0 := []) (t := ⟨[(2, iV .i64 0)], [], 0⟩) (by kernel_rfl) ?_
        refine AWp.ret ?_
        obtain rfl := Option.some.inj H
        exact Exists.intro _ (And.intro (fun _ _ h => h) (And.intro (.inl rfl) (And.intro rfl (And.intro (by kernel_rfl) (by kernel_rfl)))))
def f_label_Key.l1 (a0 : List TLabel) (b491 : TLabel) (x486 : Int) (x498 : List Int) (x499 : Int) : Option (List Int) := if (decide (x499 < (2 : Int))) = true then ((((chk (0 ≤ x499 ∧ x499 < (2 : Int))) >>= fun _ => if (x499 == (0 : Int)) = true then (some b491.f0) else (some b491.f1)) : Option (ByteArray)) >>= fun x505 => (chk ((x498.length + [IntKind.u8.wrap ((x505.size : Int))].length) * 1 ≤ 140737488355328)) >>= fun _ => (chk (((x498 ++ [IntKind.u8.wrap ((x505.size : Int))]).length + x505.size) * 1 ≤ 140737488355328)) >>= fun _ => f_label_Key.l1 a0 b491 x486 ((x498 ++ [IntKind.u8.wrap ((x505.size : Int))]) ++ bytesL x505) (IntKind.i64.wrap (x499 + (1 : Int)))) else (some x498)
partial_fixpoint
def f_label_Key.l0 (a0 : List TLabel) (x485 : List Int) (x486 : Int) : Option (List Int) := if (decide (x486 < (a0.length : Int))) = true then ((at? a0 x486) >>= fun b491 => (f_label_Key.l1 a0 b491 x486 x485 0) >>= fun x510 => f_label_Key.l0 a0 x510 (IntKind.i64.wrap (x486 + (1 : Int)))) else (some x485)
partial_fixpoint
def f_label_Key.f (a0 : List TLabel) : Option (ByteArray) := (f_label_Key.l0 a0 [] 0) >>= fun x511 => some (strOf x511)
theorem f_label_Key.ok (a0 : List TLabel) (r : ByteArray) (H : f_label_Key.f a0 = some r) : Pv.Fn Try.prog 22 [.im (.row (a0.map eLabel))] [] 0 (fun x o => x = sV r ∧ o = []) := by
  unfold f_label_Key.f at H
  refine Fn.bodyK [] Try.func22 rfl rfl (fun Γ hP hn => ?_)
  have hm : Try.prog.follows .mixedOrders = true := by kernel_rfl
  replace hn : Γ.n = 34 := hn
  refine AWp.seq ?_
  refine reg hP hn hm [] [0] [] ⟨[(0, .im (.row (a0.map eLabel)))], [], 0⟩ [] (by kernel_rfl) trivial ?_
  refine AWp.seq ?_
  refine reg hP hn hm [] [0, 3] [] ⟨[(0, .im (.row (a0.map eLabel))), (3, .none0)], [], 0⟩ [] (by kernel_rfl) trivial ?_
  refine AWp.seq ?_
  refine AWp.seq ?_
  refine reg hP hn hm [(1, .any (iV .i64 (a0.length : Int)))] [3, 8, 9, 10] [] ⟨[(3, .none0), (8, .im (.row (a0.map eLabel))), (9, iV .i64 (a0.length : Int)), (10, iV .i64 0)], [], 0⟩ [((a0.map eLabel).length : Int) = (a0.length : Int)] (by kernel_rfl) ⟨by rw [len_map], trivial⟩ ?_
  refine AWp.block ?_
  obtain ⟨o512, e513, H⟩ := bind_of H
  refine AWp.loop (LWp.conv (inv := []) (vk := []) (e0 := [10]) (t := ⟨[(3, .own 10), (8, .im (.row (a0.map eLabel))), (9, iV .i64 (a0.length : Int)), (10, iV .i64 0)], [(10, some (.row 1 5 ([].map (encInt .u8))))], 0⟩) (by kernel_rfl) ?_)
  refine LWp.mono (Q := fun e s => (match (generalizing := false) o512 with | x511 => e = .exit 0 ∧ s = ⟨[(3, .own 21)], [(21, some (.row 1 5 (x511.map (encInt .u8))))], 0⟩)) (LWp.cv (withBody (fun body hbody => ?_))) ?_
  · refine f_label_Key.l0.partial_correctness a0 (motive := fun x485 x486 o512 => LWp Γ body (fun e s => ∃ t, Cv Γ s t ∧ (match (generalizing := false) o512 with | x511 => e = .exit 0 ∧ t = ⟨[(3, .own 21)], [(21, some (.row 1 5 (x511.map (encInt .u8))))], 0⟩)) ⟨[(3, .own 10), (8, .im (.row (a0.map eLabel))), (9, iV .i64 (a0.length : Int)), (10, iV .i64 x486)], [(10, some (.row 1 5 (x485.map (encInt .u8))))], 0⟩) ?_ _ _ _ e513
    clear H e513 o512; intro self ih x485 x486 o512 H
    subst hbody
    refine LWp.round ?_
    refine AWp.seq ?_
    refine reg hP hn hm [] [3, 8, 9, 10, 11] [10] ⟨[(3, .own 10), (8, .im (.row (a0.map eLabel))), (9, iV .i64 (a0.length : Int)), (10, iV .i64 x486), (11, bV (decide (x486 < (a0.length : Int))))], [(10, some (.row 1 5 (x485.map (encInt .u8))))], 0⟩ [] (by kernel_rfl) trivial ?_
    refine AWp.seq ?_
    refine AWp.cond (decide (x486 < (a0.length : Int))) rfl (fun c487 => ?_) (fun c487 => ?_)
    · replace H := (ifT c487).symm.trans H
      refine AWp.skip ?_
      refine AWp.seq ?_
      refine AWp.block ?_
      refine AWp.seq ?_
      obtain ⟨b491, p492, q493, H⟩ := at_of H
      refine reg hP hn hm [(0, .c (eLabel b491)), (2, .k 11)] [3, 5, 8, 9, 10] [10, 11] ⟨[(3, .own 10), (5, .ptr 11 0 0), (8, .im (.row (a0.map eLabel))), (9, iV .i64 (a0.length : Int)), (10, iV .i64 x486)], [(10, some (.row 1 5 (x485.map (encInt .u8)))), (11, some (.box 67 (aLabel b491)))], 0⟩ [0 ≤ x486, (a0.map eLabel)[(Int.toNat (x486))]? = some (eLabel b491)] (by kernel_rfl) ⟨by exact p492, by exact el_map eLabel q493, trivial⟩ ?_
      refine AWp.seq ?_
      refine reg hP hn hm [] [3, 8, 9, 10, 18, 19] [10] ⟨[(3, .own 10), (8, .im (.row (a0.map eLabel))), (9, iV .i64 (a0.length : Int)), (10, iV .i64 x486), (18, .agg (aLabel b491)), (19, iV .i64 0)], [(10, some (.row 1 5 (x485.map (encInt .u8))))], 0⟩ [] (by kernel_rfl) trivial ?_
      refine AWp.block ?_
      obtain ⟨o514, e515, H⟩ := bind_of H
      refine AWp.loop (LWp.conv (inv := [(10, 15)]) (vk := []) (e0 := []) (t := ⟨[(3, .own 15), (8, .im (.row (a0.map eLabel))), (9, iV .i64 (a0.length : Int)), (10, iV .i64 x486), (18, .agg (aLabel b491)), (19, iV .i64 0)], [(15, some (.row 1 5 (x485.map (encInt .u8))))], 0⟩) (by kernel_rfl) ?_)
      refine LWp.mono (Q := fun e s => (match (generalizing := false) o514 with | x510 => e = .exit 2 ∧ s = ⟨[(3, .own 20), (8, .im (.row (a0.map eLabel))), (9, iV .i64 (a0.length : Int)), (10, iV .i64 x486)], [(20, some (.row 1 5 (x510.map (encInt .u8))))], 0⟩)) (LWp.cv (withBody (fun body hbody => ?_))) ?_
      · refine f_label_Key.l1.partial_correctness a0 b491 x486 (motive := fun x498 x499 o514 => LWp Γ body (fun e s => ∃ t, Cv Γ s t ∧ (match (generalizing := false) o514 with | x510 => e = .exit 2 ∧ t = ⟨[(3, .own 20), (8, .im (.row (a0.map eLabel))), (9, iV .i64 (a0.length : Int)), (10, iV .i64 x486)], [(20, some (.row 1 5 (x510.map (encInt .u8))))], 0⟩)) ⟨[(3, .own 15), (8, .im (.row (a0.map eLabel))), (9, iV .i64 (a0.length : Int)), (10, iV .i64 x486), (18, .agg (aLabel b491)), (19, iV .i64 x499)], [(15, some (.row 1 5 (x498.map (encInt .u8))))], 0⟩) ?_ _ _ _ e515
        clear H e515 o514; intro self ih x498 x499 o514 H
        subst hbody
        refine LWp.round ?_
        refine AWp.seq ?_
        refine reg hP hn hm [] [3, 8, 9, 10, 18, 19, 20] [15] ⟨[(3, .own 15), (8, .im (.row (a0.map eLabel))), (9, iV .i64 (a0.length : Int)), (10, iV .i64 x486), (18, .agg (aLabel b491)), (19, iV .i64 x499), (20, bV (decide (x499 < (2 : Int))))], [(15, some (.row 1 5 (x498.map (encInt .u8))))], 0⟩ [] (by kernel_rfl) trivial ?_
        refine AWp.seq ?_
        refine AWp.cond (decide (x499 < (2 : Int))) rfl (fun c500 => ?_) (fun c500 => ?_)
        · replace H := (ifT c500).symm.trans H
          refine AWp.skip ?_
          refine AWp.seq ?_
          refine AWp.block ?_
          refine AWp.seq ?_
          obtain ⟨o516, e517, H⟩ := bind_of H
          refine AWp.mono (Q := fun e s => (match (generalizing := false) o516 with | x505 => e = .normal ∧ s = ⟨[(3, .own 16), (7, sV x505), (8, .im (.row (a0.map eLabel))), (9, iV .i64 (a0.length : Int)), (10, iV .i64 x486), (18, .agg (aLabel b491)), (19, iV .i64 x499)], [(16, some (.row 1 5 (x498.map (encInt .u8))))], 0⟩)) (AWp.cv ?_) ?_
          · replace H := e517; clear e517
            obtain ⟨c503, H⟩ := chk_of H
            rcases Bool.eq_false_or_eq_true (x499 == (0 : Int)) with c504 | c504
            · replace H := (ifT c504).symm.trans H
              refine reg hP hn hm [(0, .more (xIdx 0))] [3, 7, 8, 9, 10, 18, 19] [15] ⟨[(3, .own 15), (7, sV b491.f0), (8, .im (.row (a0.map eLabel))), (9, iV .i64 (a0.length : Int)), (10, iV .i64 x486), (18, .agg (aLabel b491)), (19, iV .i64 x499)], [(15, some (.row 1 5 (x498.map (encInt .u8))))], 0⟩ [x499 = ((0 : Nat) : Int)] (by kernel_rfl) ⟨by exact (by simpa using c504), trivial⟩ ?_
              obtain rfl := Option.some.inj H
              exact Exists.intro _ (And.intro (fun _ _ h => h.conv (inv := [(15, 16)]) (vk := []) (e0 := []) (t := ⟨[(3, .own 16), (7, sV b491.f0), (8, .im (.row (a0.map eLabel))), (9, iV .i64 (a0.length : Int)), (10, iV .i64 x486), (18, .agg (aLabel b491)), (19, iV .i64 x499)], [(16, some (.row 1 5 (x498.map (encInt .u8))))], 0⟩) (by kernel_rfl)) (And.intro rfl rfl))
            · replace H := (ifF c504).symm.trans H
              refine reg hP hn hm [(0, .more (xIdx 1))] [3, 7, 8, 9, 10, 18, 19] [15] ⟨[(3, .own 15), (7, sV b491.f1), (8, .im (.row (a0.map eLabel))), (9, iV .i64 (a0.length : Int)), (10, iV .i64 x486), (18, .agg (aLabel b491)), (19, iV .i64 x499)], [(15, some (.row 1 5 (x498.map (encInt .u8))))], 0⟩ [x499 = ((1 : Nat) : Int)] (by kernel_rfl) ⟨by have := c503; simp only [beq_eq_false_iff_ne] at *; omega, trivial⟩ ?_
              obtain rfl := Option.some.inj H
              exact Exists.intro _ (And.intro (fun _ _ h => h.conv (inv := [(15, 16)]) (vk := []) (e0 := []) (t := ⟨[(3, .own 16), (7, sV b491.f1), (8, .im (.row (a0.map eLabel))), (9, iV .i64 (a0.length : Int)), (10, iV .i64 x486), (18, .agg (aLabel b491)), (19, iV .i64 x499)], [(16, some (.row 1 5 (x498.map (encInt .u8))))], 0⟩) (by kernel_rfl)) (And.intro rfl rfl))
          · obtain ⟨x505, rfl⟩ : ∃ z, z = o516 := ⟨_, rfl⟩
            rintro e s ⟨rfl, rfl⟩
            obtain ⟨c508, H⟩ := chk_of H
            obtain ⟨c509, H⟩ := chk_of H
            refine reg hP hn hm [(4, .app 17 ([IntKind.u8.wrap ((x505.size : Int))].map (encInt .u8))), (5, .app 18 ((x498 ++ [IntKind.u8.wrap ((x505.size : Int))]).map (encInt .u8))), (7, .more (xAppStr 19 (((x498 ++ [IntKind.u8.wrap ((x505.size : Int))]) ++ bytesL x505).map (encInt .u8))))] [3, 8, 9, 10, 18, 19] [19] ⟨[(3, .own 19), (8, .im (.row (a0.map eLabel))), (9, iV .i64 (a0.length : Int)), (10, iV .i64 x486), (18, .agg (aLabel b491)), (19, iV .i64 x499)], [(19, some (.row 1 5 (((x498 ++ [IntKind.u8.wrap ((x505.size : Int))]) ++ bytesL x505).map (encInt .u8))))], 0⟩ [[IntKind.u8.wrap ((x505.size : Int))].map (encInt .u8) = [[iI .u8 (IntKind.u8.wrap ((x505.size : Int)))]], (x498 ++ [IntKind.u8.wrap ((x505.size : Int))]).map (encInt .u8) = (x498.map (encInt .u8)) ++ ([IntKind.u8.wrap ((x505.size : Int))].map (encInt .u8)), ∀ c ∈ ([IntKind.u8.wrap ((x505.size : Int))].map (encInt .u8)), c.length = 1, ∀ c ∈ ([IntKind.u8.wrap ((x505.size : Int))].map (encInt .u8)), leaves (c.map .im) = true, ((x498.map (encInt .u8)).length + ([IntKind.u8.wrap ((x505.size : Int))].map (encInt .u8)).length) * 1 ≤ 140737488355328, ((x498 ++ [IntKind.u8.wrap ((x505.size : Int))]) ++ bytesL x505).map (encInt .u8) = (x498 ++ [IntKind.u8.wrap ((x505.size : Int))]).map (encInt .u8) ++ (bytesL x505).map (encInt .u8), (((x498 ++ [IntKind.u8.wrap ((x505.size : Int))]).map (encInt .u8)).length + x505.size) * 1 ≤ 140737488355328] (by kernel_rfl) ⟨by exact rfl, by simp, by exact all_len _ _ _ (fun _ => rfl), by exact all_leaf _ _ (fun _ => rfl), by simpa using c508, by simp, by simpa using c509, trivial⟩ ?_
            refine reg hP hn hm [] [3, 8, 9, 10, 18, 19] [19] ⟨[(3, .own 19), (8, .im (.row (a0.map eLabel))), (9, iV .i64 (a0.length : Int)), (10, iV .i64 x486), (18, .agg (aLabel b491)), (19, iV .i64 (IntKind.i64.wrap (x499 + (1 : Int))))], [(19, some (.row 1 5 (((x498 ++ [IntKind.u8.wrap ((x505.size : Int))]) ++ bytesL x505).map (encInt .u8))))], 0⟩ [] (by kernel_rfl) trivial ?_
            exact LWp.conv (inv := [(19, 15)]) (vk := []) (e0 := []) (t := ⟨[(3, .own 15), (8, .im (.row (a0.map eLabel))), (9, iV .i64 (a0.length : Int)), (10, iV .i64 x486), (18, .agg (aLabel b491)), (19, iV .i64 (IntKind.i64.wrap (x499 + (1 : Int))))], [(15, some (.row 1 5 (((x498 ++ [IntKind.u8.wrap ((x505.size : Int))]) ++ bytesL x505).map (encInt .u8))))], 0⟩) (by kernel_rfl) (ih _ _ _ H)
        · replace H := (ifF c500).symm.trans H
          refine AWp.exit ?_
          obtain rfl := Option.some.inj H
          exact Exists.intro _ (And.intro (fun _ _ h => h.conv (inv := [(15, 20)]) (vk := []) (e0 := []) (t := ⟨[(3, .own 20), (8, .im (.row (a0.map eLabel))), (9, iV .i64 (a0.length : Int)), (10, iV .i64 x486)], [(20, some (.row 1 5 (x498.map (encInt .u8))))], 0⟩) (by kernel_rfl)) (And.intro rfl rfl))
      · obtain ⟨x510, rfl⟩ : ∃ z, z = o514 := ⟨_, rfl⟩
        rintro e s ⟨rfl, rfl⟩
        refine reg hP hn hm [] [3, 8, 9, 10] [20] ⟨[(3, .own 20), (8, .im (.row (a0.map eLabel))), (9, iV .i64 (a0.length : Int)), (10, iV .i64 (IntKind.i64.wrap (x486 + (1 : Int))))], [(20, some (.row 1 5 (x510.map (encInt .u8))))], 0⟩ [] (by kernel_rfl) trivial ?_
        exact LWp.conv (inv := [(20, 10)]) (vk := []) (e0 := []) (t := ⟨[(3, .own 10), (8, .im (.row (a0.map eLabel))), (9, iV .i64 (a0.length : Int)), (10, iV .i64 (IntKind.i64.wrap (x486 + (1 : Int))))], [(10, some (.row 1 5 (x510.map (encInt .u8))))], 0⟩) (by kernel_rfl) (ih _ _ _ H)
    · replace H := (ifF c487).symm.trans H
      refine AWp.exit ?_
      obtain rfl := Option.some.inj H
      exact Exists.intro _ (And.intro (fun _ _ h => h.conv (inv := [(10, 21)]) (vk := []) (e0 := []) (t := ⟨[(3, .own 21)], [(21, some (.row 1 5 (x485.map (encInt .u8))))], 0⟩) (by kernel_rfl)) (And.intro rfl rfl))
  · obtain ⟨x511, rfl⟩ : ∃ z, z = o512 := ⟨_, rfl⟩
    rintro e s ⟨rfl, rfl⟩
    refine AWp.seq ?_
    refine reg hP hn hm [(1, .more (xStr x511))] [2] [] ⟨[(2, sV (strOf x511))], [], 0⟩ [x511.map (encInt .u8) = x511.map (encInt .u8)] (by kernel_rfl) ⟨by exact rfl, trivial⟩ ?_
    refine AWp.conv (inv := []) (vk := []) (e0 := []) (t := ⟨[(2, sV (strOf x511))], [], 0⟩) (by kernel_rfl) ?_
    refine AWp.ret ?_
    obtain rfl := Option.some.inj H
    exact Exists.intro _ (And.intro (fun _ _ h => h) (And.intro (.inl rfl) (And.intro rfl (And.intro (by kernel_rfl) (by kernel_rfl)))))
def f_strings_Builder_copyCheck_1bc.f  : Option (Unit) := some ()
theorem f_strings_Builder_copyCheck_1bc.ok  (r : Unit) (H : f_strings_Builder_copyCheck_1bc.f  = some r) : Pv.Fn Try.prog 76 [.ptr 0 0 0] [(0, some (.box 75 [.im (.sc (.pointer none)), .none0]))] 1 (fun x o => x = .tup [] ∧ o = [(0, some (.box 75 [.ptr 0 0 0, .none0]))]) := by
  unfold f_strings_Builder_copyCheck_1bc.f at H
  refine Fn.bodyK [0] Try.func76 rfl rfl (fun Γ hP hn => ?_)
  have hm : Try.prog.follows .mixedOrders = true := by kernel_rfl
  replace hn : Γ.n = 20 := hn
  refine AWp.seq ?_
  refine reg hP hn hm [(4, .more (xPtrEq none))] [0, 6] [0] ⟨[(0, .ptr 0 0 0), (6, bV true)], [(0, some (.box 75 [.im (.sc (.pointer none)), .none0]))], 1⟩ [] (by kernel_rfl) trivial ?_
  refine AWp.cond true rfl (fun _ => ?_) (fun h => nomatch h)
  refine reg hP hn hm [(2, .more xUnsafe), (3, .more (xSame 91)), (4, .more xUnsafe)] [] [0] ⟨[], [(0, some (.box 75 [.ptr 0 0 0, .none0]))], 1⟩ [∀ v w, (callFunc 91 #[v]).run Try.prog w = .ok (.value v) w] (by kernel_rfl) ⟨by exact fun v w => x_noEscape (fn := Try.f91) Try.func91 (by kernel_rfl) rfl (by kernel_rfl) (by kernel_rfl) v w, trivial⟩ ?_
  obtain rfl := Option.some.inj H
  exact Exists.intro ⟨[], [(0, some (.box 75 [.ptr 0 0 0, .none0]))], 1⟩ (And.intro (fun _ _ h => h.conv (inv := [(0, 0)]) (vk := []) (e0 := []) (t := ⟨[], [(0, some (.box 75 [.ptr 0 0 0, .none0]))], 1⟩) (by kernel_rfl)) (And.intro (.inr rfl) (And.intro rfl (And.intro (by kernel_rfl) (by kernel_rfl)))))
def f_strings_Builder_WriteByte_1bc.f (a1 : Int) : Option (List Int) := (f_strings_Builder_copyCheck_1bc.f) >>= fun t530 => (chk ((([] : List Int).length + [a1].length) * 1 ≤ 140737488355328)) >>= fun _ => some [a1]
theorem f_strings_Builder_WriteByte_1bc.ok (a1 : Int) (r : List Int) (H : f_strings_Builder_WriteByte_1bc.f a1 = some r) : Pv.Fn Try.prog 42 [.ptr 0 0 0, iV .u8 a1] [(0, some (.box 75 [.im (.sc (.pointer none)), .none0]))] 1 (fun x o => x = .im (.sc (.nilIface)) ∧ o = [(0, some (.box 75 [.ptr 0 0 0, .own 1])), (1, some (.row 1 5 (r.map (encInt .u8))))]) := by
  unfold f_strings_Builder_WriteByte_1bc.f at H
  refine Fn.bodyK [0, 1] Try.func42 rfl rfl (fun Γ hP hn => ?_)
  have hm : Try.prog.follows .mixedOrders = true := by kernel_rfl
  replace hn : Γ.n = 17 := hn
  refine AWp.seq ?_
  refine reg hP hn hm [] [0, 1] [0] ⟨[(0, .ptr 0 0 0), (1, iV .u8 a1)], [(0, some (.box 75 [.im (.sc (.pointer none)), .none0]))], 1⟩ [] (by kernel_rfl) trivial ?_
  refine AWp.seq ?_
  obtain ⟨t530, e531, H⟩ := bind_of H
  refine reg hP hn hm [(1, .call [(0, 0)] [(0, 0)] [] [] 1 (.tup []) [(0, some (.box 75 [.ptr 0 0 0, .none0]))])] [0, 1] [0] ⟨[(0, .ptr 0 0 0), (1, iV .u8 a1)], [(0, some (.box 75 [.ptr 0 0 0, .none0]))], 1⟩ [Enters Try.prog 76, Pv.Fn Try.prog 76 [.ptr 0 0 0] [(0, some (.box 75 [.im (.sc (.pointer none)), .none0]))] 1 (fun r o => r = .tup [] ∧ o = [(0, some (.box 75 [.ptr 0 0 0, .none0]))])] (by kernel_rfl) ⟨by exact Try.call76, by exact f_strings_Builder_copyCheck_1bc.ok  t530 e531, trivial⟩ ?_
  refine AWp.seq ?_
  obtain ⟨c533, H⟩ := chk_of H
  refine reg hP hn hm [(6, .app 1 ([a1].map (encInt .u8))), (7, .app 2 ([a1].map (encInt .u8)))] [] [0, 2] ⟨[], [(0, some (.box 75 [.ptr 0 0 0, .own 2])), (2, some (.row 1 5 ([a1].map (encInt .u8))))], 1⟩ [[a1].map (encInt .u8) = [[iI .u8 a1]], [a1].map (encInt .u8) = ([] : List (List Im)) ++ ([a1].map (encInt .u8)), ∀ c ∈ ([a1].map (encInt .u8)), c.length = 1, ∀ c ∈ ([a1].map (encInt .u8)), leaves (c.map .im) = true, (([] : List (List Im)).length + ([a1].map (encInt .u8)).length) * 1 ≤ 140737488355328] (by kernel_rfl) ⟨by exact rfl, by simp, by exact all_len _ _ _ (fun _ => rfl), by exact all_leaf _ _ (fun _ => rfl), by simpa using c533, trivial⟩ ?_
  refine AWp.seq ?_
  refine reg hP hn hm [] [4] [0, 2] ⟨[(4, .im (.sc (.nilIface)))], [(0, some (.box 75 [.ptr 0 0 0, .own 2])), (2, some (.row 1 5 ([a1].map (encInt .u8))))], 1⟩ [] (by kernel_rfl) trivial ?_
  refine AWp.conv (inv := [(0, 0), (2, 1)]) (vk := []) (e0 := []) (t := ⟨[(4, .im (.sc (.nilIface)))], [(0, some (.box 75 [.ptr 0 0 0, .own 1])), (1, some (.row 1 5 ([a1].map (encInt .u8))))], 1⟩) (by kernel_rfl) ?_
  refine AWp.ret ?_
  obtain rfl := Option.some.inj H
  exact Exists.intro _ (And.intro (fun _ _ h => h) (And.intro (.inl rfl) (And.intro rfl (And.intro (by kernel_rfl) (by kernel_rfl)))))
def f_strings_Builder_copyCheck_378.f (a0_c1 : List Int) : Option (Unit) := some ()
theorem f_strings_Builder_copyCheck_378.ok (a0_c1 : List Int) (r : Unit) (H : f_strings_Builder_copyCheck_378.f a0_c1 = some r) : Pv.Fn Try.prog 76 [.ptr 0 0 0] [(0, some (.box 75 [.ptr 0 0 0, .own 1])), (1, some (.row 1 5 (a0_c1.map (encInt .u8))))] 2 (fun x o => x = .tup [] ∧ o = [(0, some (.box 75 [.ptr 0 0 0, .own 1])), (1, some (.row 1 5 (a0_c1.map (encInt .u8))))]) := by
  unfold f_strings_Builder_copyCheck_378.f at H
  refine Fn.bodyK [0, 1] Try.func76 rfl rfl (fun Γ hP hn => ?_)
  have hm : Try.prog.follows .mixedOrders = true := by kernel_rfl
  replace hn : Γ.n = 20 := hn
  refine AWp.seq ?_
  refine reg hP hn hm [(4, .more (xPtrEq none))] [0, 6] [0, 1] ⟨[(0, .ptr 0 0 0), (6, bV false)], [(0, some (.box 75 [.ptr 0 0 0, .own 1])), (1, some (.row 1 5 (a0_c1.map (encInt .u8))))], 2⟩ [] (by kernel_rfl) trivial ?_
  refine AWp.cond false rfl (fun h => nomatch h) (fun _ => ?_)
  refine AWp.seq ?_
  refine reg hP hn hm [(5, .more (xPtrEq none))] [19] [0, 1] ⟨[(19, bV false)], [(0, some (.box 75 [.ptr 0 0 0, .own 1])), (1, some (.row 1 5 (a0_c1.map (encInt .u8))))], 2⟩ [] (by kernel_rfl) trivial ?_
  refine AWp.cond false rfl (fun h => nomatch h) (fun _ => ?_)
  refine AWp.skip ?_
  obtain rfl := Option.some.inj H
  exact Exists.intro ⟨[], [(0, some (.box 75 [.ptr 0 0 0, .own 1])), (1, some (.row 1 5 (a0_c1.map (encInt .u8))))], 2⟩ (And.intro (fun _ _ h => h.conv (inv := [(0, 0), (1, 1)]) (vk := []) (e0 := []) (t := ⟨[], [(0, some (.box 75 [.ptr 0 0 0, .own 1])), (1, some (.row 1 5 (a0_c1.map (encInt .u8))))], 2⟩) (by kernel_rfl)) (And.intro (.inr rfl) (And.intro rfl (And.intro (by kernel_rfl) (by kernel_rfl)))))
def f_strings_Builder_WriteString_378.f (a0_c1 : List Int) (a1 : ByteArray) : Option (List Int) := (f_strings_Builder_copyCheck_378.f a0_c1) >>= fun t547 => (chk ((a0_c1.length + a1.size) * 1 ≤ 140737488355328)) >>= fun _ => some (a0_c1 ++ bytesL a1)
theorem f_strings_Builder_WriteString_378.ok (a0_c1 : List Int) (a1 : ByteArray) (r : List Int) (H : f_strings_Builder_WriteString_378.f a0_c1 a1 = some r) : Pv.Fn Try.prog 43 [.ptr 0 0 0, sV a1] [(0, some (.box 75 [.ptr 0 0 0, .own 1])), (1, some (.row 1 5 (a0_c1.map (encInt .u8))))] 2 (fun x o => x = .tup [iV .i64 (a1.size : Int), .im (.sc (.nilIface))] ∧ o = [(0, some (.box 75 [.ptr 0 0 0, .own 2])), (1, none), (2, some (.row 1 5 (r.map (encInt .u8))))]) := by
  unfold f_strings_Builder_WriteString_378.f at H
  refine Fn.bodyK [0, 1, 2] Try.func43 rfl rfl (fun Γ hP hn => ?_)
  have hm : Try.prog.follows .mixedOrders = true := by kernel_rfl
  replace hn : Γ.n = 19 := hn
  refine AWp.seq ?_
  refine reg hP hn hm [] [0, 1] [0, 1] ⟨[(0, .ptr 0 0 0), (1, sV a1)], [(0, some (.box 75 [.ptr 0 0 0, .own 1])), (1, some (.row 1 5 (a0_c1.map (encInt .u8))))], 2⟩ [] (by kernel_rfl) trivial ?_
  refine AWp.seq ?_
  obtain ⟨t547, e548, H⟩ := bind_of H
  refine reg hP hn hm [(1, .call [(0, 0), (1, 1)] [(0, 0), (1, 1)] [] [] 2 (.tup []) [(0, some (.box 75 [.ptr 0 0 0, .own 1])), (1, some (.row 1 5 (a0_c1.map (encInt .u8))))])] [0, 1] [0, 1] ⟨[(0, .ptr 0 0 0), (1, sV a1)], [(0, some (.box 75 [.ptr 0 0 0, .own 1])), (1, some (.row 1 5 (a0_c1.map (encInt .u8))))], 2⟩ [Enters Try.prog 76, Pv.Fn Try.prog 76 [.ptr 0 0 0] [(0, some (.box 75 [.ptr 0 0 0, .own 1])), (1, some (.row 1 5 (a0_c1.map (encInt .u8))))] 2 (fun r o => r = .tup [] ∧ o = [(0, some (.box 75 [.ptr 0 0 0, .own 1])), (1, some (.row 1 5 (a0_c1.map (encInt .u8))))])] (by kernel_rfl) ⟨by exact Try.call76, by exact f_strings_Builder_copyCheck_378.ok a0_c1 t547 e548, trivial⟩ ?_
  refine AWp.seq ?_
  obtain ⟨c550, H⟩ := chk_of H
  refine reg hP hn hm [(6, .more (xAppStr 2 ((a0_c1 ++ bytesL a1).map (encInt .u8))))] [1] [0, 2] ⟨[(1, sV a1)], [(0, some (.box 75 [.ptr 0 0 0, .own 2])), (2, some (.row 1 5 ((a0_c1 ++ bytesL a1).map (encInt .u8))))], 2⟩ [(a0_c1 ++ bytesL a1).map (encInt .u8) = a0_c1.map (encInt .u8) ++ (bytesL a1).map (encInt .u8), ((a0_c1.map (encInt .u8)).length + a1.size) * 1 ≤ 140737488355328] (by kernel_rfl) ⟨by simp, by simpa using c550, trivial⟩ ?_
  refine AWp.seq ?_
  refine reg hP hn hm [] [4, 5] [0, 2] ⟨[(4, iV .i64 (a1.size : Int)), (5, .im (.sc (.nilIface)))], [(0, some (.box 75 [.ptr 0 0 0, .own 2])), (2, some (.row 1 5 ((a0_c1 ++ bytesL a1).map (encInt .u8))))], 2⟩ [] (by kernel_rfl) trivial ?_
  refine AWp.conv (inv := [(0, 0), (2, 2)]) (vk := []) (e0 := []) (t := ⟨[(4, iV .i64 (a1.size : Int)), (5, .im (.sc (.nilIface)))], [(0, some (.box 75 [.ptr 0 0 0, .own 2])), (2, some (.row 1 5 ((a0_c1 ++ bytesL a1).map (encInt .u8))))], 2⟩) (by kernel_rfl) ?_
  refine AWp.ret ?_
  obtain rfl := Option.some.inj H
  exact Exists.intro _ (And.intro (fun _ _ h => h) (And.intro (.inl rfl) (And.intro rfl (And.intro (by kernel_rfl) (by kernel_rfl)))))
def f_strings_Builder_WriteByte_378.f (a0_c1 : List Int) (a1 : Int) : Option (List Int) := (f_strings_Builder_copyCheck_378.f a0_c1) >>= fun t557 => (chk ((a0_c1.length + [a1].length) * 1 ≤ 140737488355328)) >>= fun _ => some (a0_c1 ++ [a1])
theorem f_strings_Builder_WriteByte_378.ok (a0_c1 : List Int) (a1 : Int) (r : List Int) (H : f_strings_Builder_WriteByte_378.f a0_c1 a1 = some r) : Pv.Fn Try.prog 42 [.ptr 0 0 0, iV .u8 a1] [(0, some (.box 75 [.ptr 0 0 0, .own 1])), (1, some (.row 1 5 (a0_c1.map (encInt .u8))))] 2 (fun x o => x = .im (.sc (.nilIface)) ∧ o = [(0, some (.box 75 [.ptr 0 0 0, .own 2])), (1, none), (2, some (.row 1 5 (r.map (encInt .u8))))]) := by
  unfold f_strings_Builder_WriteByte_378.f at H
  refine Fn.bodyK [0, 1, 2] Try.func42 rfl rfl (fun Γ hP hn => ?_)
  have hm : Try.prog.follows .mixedOrders = true := by kernel_rfl
  replace hn : Γ.n = 17 := hn
  refine AWp.seq ?_
  refine reg hP hn hm [] [0, 1] [0, 1] ⟨[(0, .ptr 0 0 0), (1, iV .u8 a1)], [(0, some (.box 75 [.ptr 0 0 0, .own 1])), (1, some (.row 1 5 (a0_c1.map (encInt .u8))))], 2⟩ [] (by kernel_rfl) trivial ?_
  refine AWp.seq ?_
  obtain ⟨t557, e558, H⟩ := bind_of H
  refine reg hP hn hm [(1, .call [(0, 0), (1, 1)] [(0, 0), (1, 1)] [] [] 2 (.tup []) [(0, some (.box 75 [.ptr 0 0 0, .own 1])), (1, some (.row 1 5 (a0_c1.map (encInt .u8))))])] [0, 1] [0, 1] ⟨[(0, .ptr 0 0 0), (1, iV .u8 a1)], [(0, some (.box 75 [.ptr 0 0 0, .own 1])), (1, some (.row 1 5 (a0_c1.map (encInt .u8))))], 2⟩ [Enters Try.prog 76, Pv.Fn Try.prog 76 [.ptr 0 0 0] [(0, some (.box 75 [.ptr 0 0 0, .own 1])), (1, some (.row 1 5 (a0_c1.map (encInt .u8))))] 2 (fun r o => r = .tup [] ∧ o = [(0, some (.box 75 [.ptr 0 0 0, .own 1])), (1, some (.row 1 5 (a0_c1.map (encInt .u8))))])] (by kernel_rfl) ⟨by exact Try.call76, by exact f_strings_Builder_copyCheck_378.ok a0_c1 t557 e558, trivial⟩ ?_
  refine AWp.seq ?_
  obtain ⟨c560, H⟩ := chk_of H
  refine reg hP hn hm [(6, .app 2 ([a1].map (encInt .u8))), (7, .app 3 ((a0_c1 ++ [a1]).map (encInt .u8)))] [] [0, 3] ⟨[], [(0, some (.box 75 [.ptr 0 0 0, .own 3])), (3, some (.row 1 5 ((a0_c1 ++ [a1]).map (encInt .u8))))], 2⟩ [[a1].map (encInt .u8) = [[iI .u8 a1]], (a0_c1 ++ [a1]).map (encInt .u8) = (a0_c1.map (encInt .u8)) ++ ([a1].map (encInt .u8)), ∀ c ∈ ([a1].map (encInt .u8)), c.length = 1, ∀ c ∈ ([a1].map (encInt .u8)), leaves (c.map .im) = true, ((a0_c1.map (encInt .u8)).length + ([a1].map (encInt .u8)).length) * 1 ≤ 140737488355328] (by kernel_rfl) ⟨by exact rfl, by simp, by exact all_len _ _ _ (fun _ => rfl), by exact all_leaf _ _ (fun _ => rfl), by simpa using c560, trivial⟩ ?_
  refine AWp.seq ?_
  refine reg hP hn hm [] [4] [0, 3] ⟨[(4, .im (.sc (.nilIface)))], [(0, some (.box 75 [.ptr 0 0 0, .own 3])), (3, some (.row 1 5 ((a0_c1 ++ [a1]).map (encInt .u8))))], 2⟩ [] (by kernel_rfl) trivial ?_
  refine AWp.conv (inv := [(0, 0), (3, 2)]) (vk := []) (e0 := []) (t := ⟨[(4, .im (.sc (.nilIface)))], [(0, some (.box 75 [.ptr 0 0 0, .own 2])), (2, some (.row 1 5 ((a0_c1 ++ [a1]).map (encInt .u8))))], 2⟩) (by kernel_rfl) ?_
  refine AWp.ret ?_
  obtain rfl := Option.some.inj H
  exact Exists.intro _ (And.intro (fun _ _ h => h) (And.intro (.inl rfl) (And.intro rfl (And.intro (by kernel_rfl) (by kernel_rfl)))))
def f_strings_Builder_String_378.f (a0_c1 : List Int) : Option (Unit) := (chk (a0_c1 ≠ [])) >>= fun _ => (chk (a0_c1 ≠ [] ∧ a0_c1.length ≤ 9223372036854775807 ∧ bytesOK a0_c1)) >>= fun _ => some ()
theorem f_strings_Builder_String_378.ok (a0_c1 : List Int) (r : Unit) (H : f_strings_Builder_String_378.f a0_c1 = some r) : Pv.Fn Try.prog 44 [.ptr 0 0 0] [(0, some (.box 75 [.ptr 0 0 0, .own 1])), (1, some (.row 1 5 (a0_c1.map (encInt .u8))))] 2 (fun x o => x = sV (strOf a0_c1) ∧ o = [(0, some (.box 75 [.ptr 0 0 0, .top])), (1, none)]) := by
  unfold f_strings_Builder_String_378.f at H
  refine Fn.bodyK [0, 1] Try.func44 rfl rfl (fun Γ hP hn => ?_)
  have hm : Try.prog.follows .mixedOrders = true := by kernel_rfl
  replace hn : Γ.n = 14 := hn
  refine AWp.seq ?_
  refine reg hP hn hm [] [0] [0, 1] ⟨[(0, .ptr 0 0 0)], [(0, some (.box 75 [.ptr 0 0 0, .own 1])), (1, some (.row 1 5 (a0_c1.map (encInt .u8))))], 2⟩ [] (by kernel_rfl) trivial ?_
  refine AWp.seq ?_
  obtain ⟨c603, H⟩ := chk_of H
  obtain ⟨c604, H⟩ := chk_of H
  refine reg hP hn hm [(4, .more xSliceData), (9, .any (iV .i64 (a0_c1.length : Int))), (10, .more (xUString a0_c1))] [2] [0] ⟨[(2, sV (strOf a0_c1))], [(0, some (.box 75 [.ptr 0 0 0, .own 1]))], 2⟩ [a0_c1.map (encInt .u8) ≠ [], ((a0_c1.map (encInt .u8)).length : Int) = (a0_c1.length : Int), a0_c1.map (encInt .u8) = a0_c1.map (encInt .u8), (a0_c1.length : Int) = (a0_c1.length : Int), a0_c1 ≠ [] ∧ a0_c1.length ≤ 9223372036854775807 ∧ bytesOK a0_c1] (by kernel_rfl) ⟨by simpa using c603, by rw [len_map], by exact rfl, by exact rfl, by exact c604, trivial⟩ ?_
  refine AWp.conv (inv := [(0, 0)]) (vk := []) (e0 := []) (t := ⟨[(2, sV (strOf a0_c1))], [(0, some (.box 75 [.ptr 0 0 0, .top]))], 2⟩) (by kernel_rfl) ?_
  refine AWp.ret ?_
  obtain rfl := Option.some.inj H
  exact Exists.intro _ (And.intro (fun _ _ h => h) (And.intro (.inl rfl) (And.intro rfl (And.intro (by kernel_rfl) (by kernel_rfl)))))
def f_label_Quote.l0 (a0 : ByteArray) (x572 : List Int) (x573 : Int) : Option (List Int) := if (decide (x573 < (a0.size : Int))) = true then ((chk (0 ≤ x573 ∧ x573 < (a0.size : Int))) >>= fun _ => ((((if ((bt a0 x573) == (10 : Int)) = true then ((f_strings_Builder_WriteString_378.f x572 (⟨#[92, 110]⟩ : ByteArray)) >>= fun t583 => some (.inr t583)) else (((if ((bt a0 x573) == (34 : Int)) = true then (some ((bt a0 x573) == (34 : Int))) else (some ((bt a0 x573) == (92 : Int)))) : Option (Bool)) >>= fun x579 => if x579 = true then ((f_strings_Builder_WriteByte_378.f x572 92) >>= fun t587 => some (.inl t587)) else (some (.inl x572)))) : Option ((List Int) ⊕ (List Int))) >>= fun oo => match oo with | .inl x589 => ((f_strings_Builder_WriteByte_378.f x589 (bt a0 x573)) >>= fun t593 => some t593) | .inr x590 => (some x590)) : Option (List Int)) >>= fun x595 => f_label_Quote.l0 a0 x595 (IntKind.i64.wrap (x573 + (1 : Int)))) else (some x572)
partial_fixpoint
def f_label_Quote.f (a0 : ByteArray) : Option (ByteArray) := (f_strings_Builder_WriteByte_1bc.f 34) >>= fun t536 => (f_label_Quote.l0 a0 t536 0) >>= fun x596 => (f_strings_Builder_WriteByte_378.f x596 34) >>= fun t599 => (f_strings_Builder_String_378.f t599) >>= fun t607 => some (strOf t599)
theorem f_label_Quote.ok (a0 : ByteArray) (r : ByteArray) (H : f_label_Quote.f a0 = some r) : Pv.Fn Try.prog 12 [sV a0] [] 0 (fun x o => x = sV r ∧ o = []) := by
  unfold f_label_Quote.f at H
  refine Fn.bodyK [] Try.func12 rfl rfl (fun Γ hP hn => ?_)
  have hm : Try.prog.follows .mixedOrders = true := by kernel_rfl
  replace hn : Γ.n = 28 := hn
  refine AWp.seq ?_
  refine reg hP hn hm [] [0] [] ⟨[(0, sV a0)], [], 0⟩ [] (by kernel_rfl) trivial ?_
  refine AWp.seq ?_
  refine reg hP hn hm [(0, .k 0)] [0, 3] [0] ⟨[(0, sV a0), (3, .ptr 0 0 0)], [(0, some (.box 75 [.im (.sc (.pointer none)), .none0]))], 0⟩ [] (by kernel_rfl) trivial ?_
  refine AWp.seq ?_
  obtain ⟨t536, e537, H⟩ := bind_of H
  refine reg hP hn hm [(0, .call [(0, 0)] [(0, 0), (1, 1)] [] [1] 1 (.im (.sc (.nilIface))) [(0, some (.box 75 [.ptr 0 0 0, .own 1])), (1, some (.row 1 5 (t536.map (encInt .u8))))])] [0, 3] [0, 1] ⟨[(0, sV a0), (3, .ptr 0 0 0)], [(0, some (.box 75 [.ptr 0 0 0, .own 1])), (1, some (.row 1 5 (t536.map (encInt .u8))))], 0⟩ [Enters Try.prog 42, Pv.Fn Try.prog 42 [.ptr 0 0 0, iV .u8 34] [(0, some (.box 75 [.im (.sc (.pointer none)), .none0]))] 1 (fun r o => r = .im (.sc (.nilIface)) ∧ o = [(0, some (.box 75 [.ptr 0 0 0, .own 1])), (1, some (.row 1 5 (t536.map (encInt .u8))))])] (by kernel_rfl) ⟨by exact Try.call42, by exact f_strings_Builder_WriteByte_1bc.ok 34 t536 e537, trivial⟩ ?_
  refine AWp.seq ?_
  refine AWp.seq ?_
  refine reg hP hn hm [] [0, 3, 8, 9] [0, 1] ⟨[(0, sV a0), (3, .ptr 0 0 0), (8, iV .i64 (a0.size : Int)), (9, iV .i64 0)], [(0, some (.box 75 [.ptr 0 0 0, .own 1])), (1, some (.row 1 5 (t536.map (encInt .u8))))], 0⟩ [] (by kernel_rfl) trivial ?_
  refine AWp.block ?_
  obtain ⟨o609, e610, H⟩ := bind_of H
  refine AWp.loop (LWp.conv (inv := [(0, 13), (1, 14)]) (vk := []) (e0 := []) (t := ⟨[(0, sV a0), (3, .ptr 13 0 0), (8, iV .i64 (a0.size : Int)), (9, iV .i64 0)], [(13, some (.box 75 [.ptr 13 0 0, .own 14])), (14, some (.row 1 5 (t536.map (encInt .u8))))], 0⟩) (by kernel_rfl) ?_)
  refine LWp.mono (Q := fun e s => (match (generalizing := false) o609 with | x596 => e = .exit 0 ∧ s = ⟨[(3, .ptr 26 0 0)], [(26, some (.box 75 [.ptr 26 0 0, .own 27])), (27, some (.row 1 5 (x596.map (encInt .u8))))], 0⟩)) (LWp.cv (withBody (fun body hbody => ?_))) ?_
  · refine f_label_Quote.l0.partial_correctness a0 (motive := fun x572 x573 o609 => LWp Γ body (fun e s => ∃ t, Cv Γ s t ∧ (match (generalizing := false) o609 with | x596 => e = .exit 0 ∧ t = ⟨[(3, .ptr 26 0 0)], [(26, some (.box 75 [.ptr 26 0 0, .own 27])), (27, some (.row 1 5 (x596.map (encInt .u8))))], 0⟩)) ⟨[(0, sV a0), (3, .ptr 13 0 0), (8, iV .i64 (a0.size : Int)), (9, iV .i64 x573)], [(13, some (.box 75 [.ptr 13 0 0, .own 14])), (14, some (.row 1 5 (x572.map (encInt .u8))))], 0⟩) ?_ _ _ _ e610
    clear H e610 o609; intro self ih x572 x573 o609 H
    subst hbody
    refine LWp.round ?_
    refine AWp.seq ?_
    refine reg hP hn hm [] [0, 3, 8, 9, 10] [13, 14] ⟨[(0, sV a0), (3, .ptr 13 0 0), (8, iV .i64 (a0.size : Int)), (9, iV .i64 x573), (10, bV (decide (x573 < (a0.size : Int))))], [(13, some (.box 75 [.ptr 13 0 0, .own 14])), (14, some (.row 1 5 (x572.map (encInt .u8))))], 0⟩ [] (by kernel_rfl) trivial ?_
    refine AWp.seq ?_
    refine AWp.cond (decide (x573 < (a0.size : Int))) rfl (fun c574 => ?_) (fun c574 => ?_)
    · replace H := (ifT c574).symm.trans H
      refine AWp.skip ?_
      refine AWp.seq ?_
      refine AWp.block ?_
      refine AWp.seq ?_
      refine reg hP hn hm [] [0, 3, 4, 8, 9] [13, 14] ⟨[(0, sV a0), (3, .ptr 13 0 0), (4, iV .i64 x573), (8, iV .i64 (a0.size : Int)), (9, iV .i64 x573)], [(13, some (.box 75 [.ptr 13 0 0, .own 14])), (14, some (.row 1 5 (x572.map (encInt .u8))))], 0⟩ [] (by kernel_rfl) trivial ?_
      refine AWp.seq ?_
      obtain ⟨c576, H⟩ := chk_of H
      refine reg hP hn hm [] [0, 3, 5, 8, 9] [13, 14] ⟨[(0, sV a0), (3, .ptr 13 0 0), (5, iV .u8 (bt a0 x573)), (8, iV .i64 (a0.size : Int)), (9, iV .i64 x573)], [(13, some (.box 75 [.ptr 13 0 0, .own 14])), (14, some (.row 1 5 (x572.map (encInt .u8))))], 0⟩ [0 ≤ x573, x573 < (a0.size : Int)] (by kernel_rfl) ⟨by exact c576.1, by exact c576.2, trivial⟩ ?_
      refine AWp.seq ?_
      refine reg hP hn hm [] [0, 3, 5, 8, 9, 15] [13, 14] ⟨[(0, sV a0), (3, .ptr 13 0 0), (5, iV .u8 (bt a0 x573)), (8, iV .i64 (a0.size : Int)), (9, iV .i64 x573), (15, iV .u8 (bt a0 x573))], [(13, some (.box 75 [.ptr 13 0 0, .own 14])), (14, some (.row 1 5 (x572.map (encInt .u8))))], 0⟩ [] (by kernel_rfl) trivial ?_
      obtain ⟨o611, e612, H⟩ := bind_of H
      refine AWp.mono (Q := fun e s => (match (generalizing := false) o611 with | x595 => e = .normal ∧ s = ⟨[(0, sV a0), (3, .ptr 24 0 0), (8, iV .i64 (a0.size : Int)), (9, iV .i64 x573)], [(24, some (.box 75 [.ptr 24 0 0, .own 25])), (25, some (.row 1 5 (x595.map (encInt .u8))))], 0⟩)) (AWp.cv ?_) ?_
      · replace H := e612; clear e612
        refine AWp.block ?_
        refine AWp.seq ?_
        obtain ⟨o613, e614, H⟩ := bind_of H
        refine AWp.mono (Q := fun e s => (match (generalizing := false) o613 with | .inl x589 => e = .normal ∧ s = ⟨[(0, sV a0), (3, .ptr 19 0 0), (5, iV .u8 (bt a0 x573)), (8, iV .i64 (a0.size : Int)), (9, iV .i64 x573)], [(19, some (.box 75 [.ptr 19 0 0, .own 20])), (20, some (.row 1 5 (x589.map (encInt .u8))))], 0⟩ | .inr x590 => e = .exit 2 ∧ s = ⟨[(0, sV a0), (3, .ptr 21 0 0), (8, iV .i64 (a0.size : Int)), (9, iV .i64 x573)], [(21, some (.box 75 [.ptr 21 0 0, .own 22])), (22, some (.row 1 5 (x590.map (encInt .u8))))], 0⟩)) (AWp.cv ?_) ?_
        · replace H := e614; clear e614
          refine AWp.block ?_
          refine AWp.seq ?_
          refine AWp.block ?_
          refine AWp.seq ?_
          refine AWp.block ?_
          refine AWp.seq ?_
          refine AWp.seq ?_
          refine AWp.seq ?_
          refine reg hP hn hm [] [0, 3, 5, 8, 9, 15, 16] [13, 14] ⟨[(0, sV a0), (3, .ptr 13 0 0), (5, iV .u8 (bt a0 x573)), (8, iV .i64 (a0.size : Int)), (9, iV .i64 x573), (15, iV .u8 (bt a0 x573)), (16, bV ((bt a0 x573) == (10 : Int)))], [(13, some (.box 75 [.ptr 13 0 0, .own 14])), (14, some (.row 1 5 (x572.map (encInt .u8))))], 0⟩ [] (by kernel_rfl) trivial ?_
          refine AWp.cond ((bt a0 x573) == (10 : Int)) rfl (fun c577 => ?_) (fun c577 => ?_)
          · replace H := (ifT c577).symm.trans H
            refine AWp.exit ?_
            refine AWp.seq ?_
            obtain ⟨t583, e584, H⟩ := bind_of H
            refine reg hP hn hm [(0, .call [(13, 0), (14, 1)] [(0, 13), (2, 17)] [] [17] 2 (.tup [iV .i64 ((⟨#[92, 110]⟩ : ByteArray).size : Int), .im (.sc (.nilIface))]) [(0, some (.box 75 [.ptr 0 0 0, .own 2])), (1, none), (2, some (.row 1 5 (t583.map (encInt .u8))))])] [0, 3, 8, 9] [13, 17] ⟨[(0, sV a0), (3, .ptr 13 0 0), (8, iV .i64 (a0.size : Int)), (9, iV .i64 x573)], [(13, some (.box 75 [.ptr 13 0 0, .own 17])), (17, some (.row 1 5 (t583.map (encInt .u8))))], 0⟩ [Enters Try.prog 43, Pv.Fn Try.prog 43 [.ptr 0 0 0, sV (⟨#[92, 110]⟩ : ByteArray)] [(0, some (.box 75 [.ptr 0 0 0, .own 1])), (1, some (.row 1 5 (x572.map (encInt .u8))))] 2 (fun r o => r = .tup [iV .i64 ((⟨#[92, 110]⟩ : ByteArray).size : Int), .im (.sc (.nilIface))] ∧ o = [(0, some (.box 75 [.ptr 0 0 0, .own 2])), (1, none), (2, some (.row 1 5 (t583.map (encInt .u8))))])] (by kernel_rfl) ⟨by exact Try.call43, by exact f_strings_Builder_WriteString_378.ok x572 (⟨#[92, 110]⟩ : ByteArray) t583 e584, trivial⟩ ?_
            refine AWp.exit ?_
            obtain rfl := Option.some.inj H
            exact Exists.intro _ (And.intro (fun _ _ h => h.conv (inv := [(13, 21), (17, 22)]) (vk := []) (e0 := []) (t := ⟨[(0, sV a0), (3, .ptr 21 0 0), (8, iV .i64 (a0.size : Int)), (9, iV .i64 x573)], [(21, some (.box 75 [.ptr 21 0 0, .own 22])), (22, some (.row 1 5 (t583.map (encInt .u8))))], 0⟩) (by kernel_rfl)) (And.intro rfl rfl))
          · replace H := (ifF c577).symm.trans H
            refine AWp.skip ?_
            refine AWp.seq ?_
            refine AWp.seq ?_
            refine reg hP hn hm [] [0, 3, 5, 8, 9, 15, 18] [13, 14] ⟨[(0, sV a0), (3, .ptr 13 0 0), (5, iV .u8 (bt a0 x573)), (8, iV .i64 (a0.size : Int)), (9, iV .i64 x573), (15, iV .u8 (bt a0 x573)), (18, bV ((bt a0 x573) == (34 : Int)))], [(13, some (.box 75 [.ptr 13 0 0, .own 14])), (14, some (.row 1 5 (x572.map (encInt .u8))))], 0⟩ [] (by kernel_rfl) trivial ?_
            obtain ⟨o615, e616, H⟩ := bind_of H
            refine AWp.mono (Q := fun e s => (match (generalizing := false) o615 with | x579 => e = .normal ∧ s = ⟨[(0, sV a0), (3, .ptr 15 0 0), (5, iV .u8 (bt a0 x573)), (8, iV .i64 (a0.size : Int)), (9, iV .i64 x573), (18, bV x579)], [(15, some (.box 75 [.ptr 15 0 0, .own 16])), (16, some (.row 1 5 (x572.map (encInt .u8))))], 0⟩)) (AWp.cv ?_) ?_
            · replace H := e616; clear e616
              refine AWp.cond ((bt a0 x573) == (34 : Int)) rfl (fun c578 => ?_) (fun c578 => ?_)
              · replace H := (ifT c578).symm.trans H
                refine AWp.skip ?_
                obtain rfl := Option.some.inj H
                exact Exists.intro _ (And.intro (fun _ _ h => h.conv (inv := [(13, 15), (14, 16)]) (vk := []) (e0 := []) (t := ⟨[(0, sV a0), (3, .ptr 15 0 0), (5, iV .u8 (bt a0 x573)), (8, iV .i64 (a0.size : Int)), (9, iV .i64 x573), (18, bV ((bt a0 x573) == (34 : Int)))], [(15, some (.box 75 [.ptr 15 0 0, .own 16])), (16, some (.row 1 5 (x572.map (encInt .u8))))], 0⟩) (by kernel_rfl)) (And.intro rfl rfl))
              · replace H := (ifF c578).symm.trans H
                refine reg hP hn hm [] [0, 3, 5, 8, 9, 18] [13, 14] ⟨[(0, sV a0), (3, .ptr 13 0 0), (5, iV .u8 (bt a0 x573)), (8, iV .i64 (a0.size : Int)), (9, iV .i64 x573), (18, bV ((bt a0 x573) == (92 : Int)))], [(13, some (.box 75 [.ptr 13 0 0, .own 14])), (14, some (.row 1 5 (x572.map (encInt .u8))))], 0⟩ [] (by kernel_rfl) trivial ?_
                obtain rfl := Option.some.inj H
                exact Exists.intro _ (And.intro (fun _ _ h => h.conv (inv := [(13, 15), (14, 16)]) (vk := []) (e0 := []) (t := ⟨[(0, sV a0), (3, .ptr 15 0 0), (5, iV .u8 (bt a0 x573)), (8, iV .i64 (a0.size : Int)), (9, iV .i64 x573), (18, bV ((bt a0 x573) == (92 : Int)))], [(15, some (.box 75 [.ptr 15 0 0, .own 16])), (16, some (.row 1 5 (x572.map (encInt .u8))))], 0⟩) (by kernel_rfl)) (And.intro rfl rfl))
            · obtain ⟨x579, rfl⟩ : ∃ z, z = o615 := ⟨_, rfl⟩
              rintro e s ⟨rfl, rfl⟩
              refine AWp.cond x579 rfl (fun c580 => ?_) (fun c580 => ?_)
              · replace H := (ifT c580).symm.trans H
                refine AWp.exit ?_
                obtain ⟨t587, e588, H⟩ := bind_of H
                refine reg hP hn hm [(0, .call [(15, 0), (16, 1)] [(0, 15), (2, 18)] [] [18] 2 (.im (.sc (.nilIface))) [(0, some (.box 75 [.ptr 0 0 0, .own 2])), (1, none), (2, some (.row 1 5 (t587.map (encInt .u8))))])] [0, 3, 5, 8, 9] [15, 18] ⟨[(0, sV a0), (3, .ptr 15 0 0), (5, iV .u8 (bt a0 x573)), (8, iV .i64 (a0.size : Int)), (9, iV .i64 x573)], [(15, some (.box 75 [.ptr 15 0 0, .own 18])), (18, some (.row 1 5 (t587.map (encInt .u8))))], 0⟩ [Enters Try.prog 42, Pv.Fn Try.prog 42 [.ptr 0 0 0, iV .u8 92] [(0, some (.box 75 [.ptr 0 0 0, .own 1])), (1, some (.row 1 5 (x572.map (encInt .u8))))] 2 (fun r o => r = .im (.sc (.nilIface)) ∧ o = [(0, some (.box 75 [.ptr 0 0 0, .own 2])), (1, none), (2, some (.row 1 5 (t587.map (encInt .u8))))])] (by kernel_rfl) ⟨by exact Try.call42, by exact f_strings_Builder_WriteByte_378.ok x572 92 t587 e588, trivial⟩ ?_
                obtain rfl := Option.some.inj H
                exact Exists.intro _ (And.intro (fun _ _ h => h.conv (inv := [(15, 19), (18, 20)]) (vk := []) (e0 := []) (t := ⟨[(0, sV a0), (3, .ptr 19 0 0), (5, iV .u8 (bt a0 x573)), (8, iV .i64 (a0.size : Int)), (9, iV .i64 x573)], [(19, some (.box 75 [.ptr 19 0 0, .own 20])), (20, some (.row 1 5 (t587.map (encInt .u8))))], 0⟩) (by kernel_rfl)) (And.intro rfl rfl))
              · replace H := (ifF c580).symm.trans H
                refine AWp.skip ?_
                refine AWp.exit ?_
                obtain rfl := Option.some.inj H
                exact Exists.intro _ (And.intro (fun _ _ h => h.conv (inv := [(15, 19), (16, 20)]) (vk := []) (e0 := []) (t := ⟨[(0, sV a0), (3, .ptr 19 0 0), (5, iV .u8 (bt a0 x573)), (8, iV .i64 (a0.size : Int)), (9, iV .i64 x573)], [(19, some (.box 75 [.ptr 19 0 0, .own 20])), (20, some (.row 1 5 (x572.map (encInt .u8))))], 0⟩) (by kernel_rfl)) (And.intro rfl rfl))
        · rcases o613 with x589 | x590
          · skip
            rintro e s ⟨rfl, rfl⟩
            refine AWp.seq ?_
            obtain ⟨t593, e594, H⟩ := bind_of H
            refine reg hP hn hm [(1, .call [(19, 0), (20, 1)] [(0, 19), (2, 23)] [] [23] 2 (.im (.sc (.nilIface))) [(0, some (.box 75 [.ptr 0 0 0, .own 2])), (1, none), (2, some (.row 1 5 (t593.map (encInt .u8))))])] [0, 3, 8, 9] [19, 23] ⟨[(0, sV a0), (3, .ptr 19 0 0), (8, iV .i64 (a0.size : Int)), (9, iV .i64 x573)], [(19, some (.box 75 [.ptr 19 0 0, .own 23])), (23, some (.row 1 5 (t593.map (encInt .u8))))], 0⟩ [Enters Try.prog 42, Pv.Fn Try.prog 42 [.ptr 0 0 0, iV .u8 (bt a0 x573)] [(0, some (.box 75 [.ptr 0 0 0, .own 1])), (1, some (.row 1 5 (x589.map (encInt .u8))))] 2 (fun r o => r = .im (.sc (.nilIface)) ∧ o = [(0, some (.box 75 [.ptr 0 0 0, .own 2])), (1, none), (2, some (.row 1 5 (t593.map (encInt .u8))))])] (by kernel_rfl) ⟨by exact Try.call42, by exact f_strings_Builder_WriteByte_378.ok x589 (bt a0 x573) t593 e594, trivial⟩ ?_
            refine AWp.exit ?_
            obtain rfl := Option.some.inj H
            exact Exists.intro _ (And.intro (fun _ _ h => h.conv (inv := [(19, 24), (23, 25)]) (vk := []) (e0 := []) (t := ⟨[(0, sV a0), (3, .ptr 24 0 0), (8, iV .i64 (a0.size : Int)), (9, iV .i64 x573)], [(24, some (.box 75 [.ptr 24 0 0, .own 25])), (25, some (.row 1 5 (t593.map (encInt .u8))))], 0⟩) (by kernel_rfl)) (And.intro rfl rfl))
          · skip
            rintro e s ⟨rfl, rfl⟩
            obtain rfl := Option.some.inj H
            exact Exists.intro _ (And.intro (fun _ _ h => h.conv (inv := [(21, 24), (22, 25)]) (vk := []) (e0 := []) (t := ⟨[(0, sV a0), (3, .ptr 24 0 0), (8, iV .i64 (a0.size : Int)), (9, iV .i64 x573)], [(24, some (.box 75 [.ptr 24 0 0, .own 25])), (25, some (.row 1 5 (x590.map (encInt .u8))))], 0⟩) (by kernel_rfl)) (And.intro rfl rfl))
      · obtain ⟨x595, rfl⟩ : ∃ z, z = o611 := ⟨_, rfl⟩
        rintro e s ⟨rfl, rfl⟩
        refine reg hP hn hm [] [0, 3, 8, 9] [24, 25] ⟨[(0, sV a0), (3, .ptr 24 0 0), (8, iV .i64 (a0.size : Int)), (9, iV .i64 (IntKind.i64.wrap (x573 + (1 : Int))))], [(24, some (.box 75 [.ptr 24 0 0, .own 25])), (25, some (.row 1 5 (x595.map (encInt .u8))))], 0⟩ [] (by kernel_rfl) trivial ?_
        exact LWp.conv (inv := [(24, 13), (25, 14)]) (vk := []) (e0 := []) (t := ⟨[(0, sV a0), (3, .ptr 13 0 0), (8, iV .i64 (a0.size : Int)), (9, iV .i64 (IntKind.i64.wrap (x573 + (1 : Int))))], [(13, some (.box 75 [.ptr 13 0 0, .own 14])), (14, some (.row 1 5 (x595.map (encInt .u8))))], 0⟩) (by kernel_rfl) (ih _ _ _ H)
    · replace H := (ifF c574).symm.trans H
      refine AWp.exit ?_
      obtain rfl := Option.some.inj H
      exact Exists.intro _ (And.intro (fun _ _ h => h.conv (inv := [(13, 26), (14, 27)]) (vk := []) (e0 := []) (t := ⟨[(3, .ptr 26 0 0)], [(26, some (.box 75 [.ptr 26 0 0, .own 27])), (27, some (.row 1 5 (x572.map (encInt .u8))))], 0⟩) (by kernel_rfl)) (And.intro rfl rfl))
  · obtain ⟨x596, rfl⟩ : ∃ z, z = o609 := ⟨_, rfl⟩
    rintro e s ⟨rfl, rfl⟩
    refine AWp.seq ?_
    obtain ⟨t599, e600, H⟩ := bind_of H
    refine reg hP hn hm [(0, .call [(26, 0), (27, 1)] [(0, 26), (2, 28)] [] [28] 2 (.im (.sc (.nilIface))) [(0, some (.box 75 [.ptr 0 0 0, .own 2])), (1, none), (2, some (.row 1 5 (t599.map (encInt .u8))))])] [3] [26, 28] ⟨[(3, .ptr 26 0 0)], [(26, some (.box 75 [.ptr 26 0 0, .own 28])), (28, some (.row 1 5 (t599.map (encInt .u8))))], 0⟩ [Enters Try.prog 42, Pv.Fn Try.prog 42 [.ptr 0 0 0, iV .u8 34] [(0, some (.box 75 [.ptr 0 0 0, .own 1])), (1, some (.row 1 5 (x596.map (encInt .u8))))] 2 (fun r o => r = .im (.sc (.nilIface)) ∧ o = [(0, some (.box 75 [.ptr 0 0 0, .own 2])), (1, none), (2, some (.row 1 5 (t599.map (encInt .u8))))])] (by kernel_rfl) ⟨by exact Try.call42, by exact f_strings_Builder_WriteByte_378.ok x596 34 t599 e600, trivial⟩ ?_
    refine AWp.seq ?_
    obtain ⟨t607, e608, H⟩ := bind_of H
    refine reg hP hn hm [(0, .call [(26, 0), (28, 1)] [(0, 26)] [] [] 2 (sV (strOf t599)) [(0, some (.box 75 [.ptr 0 0 0, .top])), (1, none)])] [2] [] ⟨[(2, sV (strOf t599))], [], 0⟩ [Enters Try.prog 44, Pv.Fn Try.prog 44 [.ptr 0 0 0] [(0, some (.box 75 [.ptr 0 0 0, .own 1])), (1, some (.row 1 5 (t599.map (encInt .u8))))] 2 (fun r o => r = sV (strOf t599) ∧ o = [(0, some (.box 75 [.ptr 0 0 0, .top])), (1, none)])] (by kernel_rfl) ⟨by exact Try.call44, by exact f_strings_Builder_String_378.ok t599 t607 e608, trivial⟩ ?_
    refine AWp.conv (inv := []) (vk := []) (e0 := []) (t := ⟨[(2, sV (strOf t599))], [], 0⟩) (by kernel_rfl) ?_
    refine AWp.ret ?_
    obtain rfl := Option.some.inj H
    exact Exists.intro _ (And.intro (fun _ _ h => h) (And.intro (.inl rfl) (And.intro rfl (And.intro (by kernel_rfl) (by kernel_rfl)))))
def f_strings_Builder_grow_055.f (a1 : Int) : Option (List Int) := (chk (0 < (IntKind.i64.wrap ((0 : Int) + a1)) ∧ (IntKind.i64.wrap ((0 : Int) + a1)) ≤ 281474976710656)) >>= fun _ => (chk ((0 : Int) = (0 : Int) ∧ 0 < (Int.toNat (IntKind.i64.wrap ((0 : Int) + a1))))) >>= fun _ => some ([] : List Int)
theorem f_strings_Builder_grow_055.ok (a1 : Int) (r : List Int) (H : f_strings_Builder_grow_055.f a1 = some r) : Pv.Fn Try.prog 97 [.ptr 0 0 0, iV .i64 a1] [(0, some (.box 75 [.ptr 0 0 0, .none0]))] 1 (fun x o => x = .tup [] ∧ o = [(0, some (.box 75 [.ptr 0 0 0, .own 1])), (1, some (.row 1 5 (r.map (encInt .u8))))]) := by
  unfold f_strings_Builder_grow_055.f at H
  refine Fn.bodyK [0, 1] Try.func97 rfl rfl (fun Γ hP hn => ?_)
  have hm : Try.prog.follows .mixedOrders = true := by kernel_rfl
  replace hn : Γ.n = 30 := hn
  refine AWp.seq ?_
  obtain ⟨c686, H⟩ := chk_of H
  obtain ⟨c687, H⟩ := chk_of H
  refine reg hP hn hm [(4, .more xCapNil), (8, .more (xNoZero 105 1 5)), (14, .more xCut0)] [0, 4] [0, 1] ⟨[(0, .ptr 0 0 0), (4, .own 1)], [(0, some (.box 75 [.ptr 0 0 0, .none0])), (1, some (.row 1 5 (([] : List Int).map (encInt .u8))))], 1⟩ [0 ≤ (IntKind.i64.wrap ((0 : Int) + a1)), (IntKind.i64.wrap ((0 : Int) + a1)) ≤ 281474976710656, ∀ (w : World) (n : Nat), n ≤ 281474976710656 → ∃ cs : Array Value, (callFunc 105 #[.int .i64 (n : Int)]).run Try.prog w = .ok (.value (.slice (some ⟨w.heap.size, 0, none⟩) n cs.size)) (World.alloc' w.drew.drew (.cells cs 5)) ∧ n ≤ cs.size, (0 : Int) = 0, 0 < (Int.toNat (IntKind.i64.wrap ((0 : Int) + a1)))] (by kernel_rfl) ⟨by exact Int.le_of_lt c686.1, by exact c686.2, by exact fun w n h => x_makeNoZero (fn := Try.f105) (ps := #[3]) (t := 73) (e := 5) Try.func105 (by kernel_rfl) rfl (by kernel_rfl) (by kernel_rfl) (by kernel_rfl) w n h, by exact c687.1, by exact c687.2, trivial⟩ ?_
  refine AWp.seq ?_
  refine reg hP hn hm [(5, .more xCopy0)] [0, 4] [0, 1] ⟨[(0, .ptr 0 0 0), (4, .own 1)], [(0, some (.box 75 [.ptr 0 0 0, .none0])), (1, some (.row 1 5 (([] : List Int).map (encInt .u8))))], 1⟩ [] (by kernel_rfl) trivial ?_
  refine reg hP hn hm [] [] [0, 1] ⟨[], [(0, some (.box 75 [.ptr 0 0 0, .own 1])), (1, some (.row 1 5 (([] : List Int).map (encInt .u8))))], 1⟩ [] (by kernel_rfl) trivial ?_
  obtain rfl := Option.some.inj H
  exact Exists.intro ⟨[], [(0, some (.box 75 [.ptr 0 0 0, .own 1])), (1, some (.row 1 5 (([] : List Int).map (encInt .u8))))], 1⟩ (And.intro (fun _ _ h => h.conv (inv := [(0, 0), (1, 1)]) (vk := []) (e0 := []) (t := ⟨[], [(0, some (.box 75 [.ptr 0 0 0, .own 1])), (1, some (.row 1 5 (([] : List Int).map (encInt .u8))))], 1⟩) (by kernel_rfl)) (And.intro (.inr rfl) (And.intro rfl (And.intro (by kernel_rfl) (by kernel_rfl)))))
def f_strings_Builder_Grow_1bc.f (a1 : Int) : Option (List Int) := (f_strings_Builder_copyCheck_1bc.f) >>= fun t680 => if (decide (a1 < (0 : Int))) = true then (none) else (((if (decide ((0 : Int) < a1)) = true then ((f_strings_Builder_grow_055.f a1) >>= fun t690 => some t690) else (some [])) : Option (List Int)) >>= fun x692 => some x692)
theorem f_strings_Builder_Grow_1bc.ok (a1 : Int) (r : List Int) (H : f_strings_Builder_Grow_1bc.f a1 = some r) : Pv.Fn Try.prog 82 [.ptr 0 0 0, iV .i64 a1] [(0, some (.box 75 [.im (.sc (.pointer none)), .none0]))] 1 (fun x o => x = .tup [] ∧ o = [(0, some (.box 75 [.ptr 0 0 0, .own 1])), (1, some (.row 1 5 (r.map (encInt .u8))))]) := by
  unfold f_strings_Builder_Grow_1bc.f at H
  refine Fn.bodyK [0, 1] Try.func82 rfl rfl (fun Γ hP hn => ?_)
  have hm : Try.prog.follows .mixedOrders = true := by kernel_rfl
  replace hn : Γ.n = 25 := hn
  refine AWp.seq ?_
  obtain ⟨t680, e681, H⟩ := bind_of H
  refine reg hP hn hm [(1, .call [(0, 0)] [(0, 0)] [] [] 1 (.tup []) [(0, some (.box 75 [.ptr 0 0 0, .none0]))])] [0, 1] [0] ⟨[(0, .ptr 0 0 0), (1, iV .i64 a1)], [(0, some (.box 75 [.ptr 0 0 0, .none0]))], 1⟩ [Enters Try.prog 76, Pv.Fn Try.prog 76 [.ptr 0 0 0] [(0, some (.box 75 [.im (.sc (.pointer none)), .none0]))] 1 (fun r o => r = .tup [] ∧ o = [(0, some (.box 75 [.ptr 0 0 0, .none0]))])] (by kernel_rfl) ⟨by exact Try.call76, by exact f_strings_Builder_copyCheck_1bc.ok  t680 e681, trivial⟩ ?_
  refine AWp.seq ?_
  refine AWp.seq ?_
  refine reg hP hn hm [] [0, 1, 7] [0] ⟨[(0, .ptr 0 0 0), (1, iV .i64 a1), (7, bV (decide (a1 < (0 : Int))))], [(0, some (.box 75 [.ptr 0 0 0, .none0]))], 1⟩ [] (by kernel_rfl) trivial ?_
  refine AWp.cond (decide (a1 < (0 : Int))) rfl (fun c682 => ?_) (fun c682 => ?_)
  · replace H := (ifT c682).symm.trans H
    exact nomatch H
  · replace H := (ifF c682).symm.trans H
    refine AWp.skip ?_
    refine AWp.seq ?_
    refine reg hP hn hm [(4, .more xCapNil)] [0, 1, 21] [0] ⟨[(0, .ptr 0 0 0), (1, iV .i64 a1), (21, bV (decide ((0 : Int) < a1)))], [(0, some (.box 75 [.ptr 0 0 0, .none0]))], 1⟩ [] (by kernel_rfl) trivial ?_
    obtain ⟨o693, e694, H⟩ := bind_of H
    refine AWp.mono (Q := fun e s => (match (generalizing := false) o693 with | x692 => e = .normal ∧ s = ⟨[], [(0, some (.box 75 [.ptr 0 0 0, .own 2])), (2, some (.row 1 5 (x692.map (encInt .u8))))], 1⟩)) (AWp.cv ?_) ?_
    · replace H := e694; clear e694
      refine AWp.cond (decide ((0 : Int) < a1)) rfl (fun c683 => ?_) (fun c683 => ?_)
      · replace H := (ifT c683).symm.trans H
        obtain ⟨t690, e691, H⟩ := bind_of H
        refine reg hP hn hm [(2, .call [(0, 0)] [(0, 0), (1, 1)] [] [1] 1 (.tup []) [(0, some (.box 75 [.ptr 0 0 0, .own 1])), (1, some (.row 1 5 (t690.map (encInt .u8))))])] [] [0, 1] ⟨[], [(0, some (.box 75 [.ptr 0 0 0, .own 1])), (1, some (.row 1 5 (t690.map (encInt .u8))))], 1⟩ [Enters Try.prog 97, Pv.Fn Try.prog 97 [.ptr 0 0 0, iV .i64 a1] [(0, some (.box 75 [.ptr 0 0 0, .none0]))] 1 (fun r o => r = .tup [] ∧ o = [(0, some (.box 75 [.ptr 0 0 0, .own 1])), (1, some (.row 1 5 (t690.map (encInt .u8))))])] (by kernel_rfl) ⟨by exact Try.call97, by exact f_strings_Builder_grow_055.ok a1 t690 e691, trivial⟩ ?_
        obtain rfl := Option.some.inj H
        exact Exists.intro _ (And.intro (fun _ _ h => h.conv (inv := [(0, 0), (1, 2)]) (vk := []) (e0 := []) (t := ⟨[], [(0, some (.box 75 [.ptr 0 0 0, .own 2])), (2, some (.row 1 5 (t690.map (encInt .u8))))], 1⟩) (by kernel_rfl)) (And.intro rfl rfl))
      · replace H := (ifF c683).symm.trans H
        refine AWp.skip ?_
        obtain rfl := Option.some.inj H
        exact Exists.intro _ (And.intro (fun _ _ h => h.conv (inv := [(0, 0)]) (vk := []) (e0 := [2]) (t := ⟨[], [(0, some (.box 75 [.ptr 0 0 0, .own 2])), (2, some (.row 1 5 ([].map (encInt .u8))))], 1⟩) (by kernel_rfl)) (And.intro rfl rfl))
    · obtain ⟨x692, rfl⟩ : ∃ z, z = o693 := ⟨_, rfl⟩
      rintro e s ⟨rfl, rfl⟩
      obtain rfl := Option.some.inj H
      exact Exists.intro ⟨[], [(0, some (.box 75 [.ptr 0 0 0, .own 1])), (1, some (.row 1 5 (x692.map (encInt .u8))))], 1⟩ (And.intro (fun _ _ h => h.conv (inv := [(0, 0), (2, 1)]) (vk := []) (e0 := []) (t := ⟨[], [(0, some (.box 75 [.ptr 0 0 0, .own 1])), (1, some (.row 1 5 (x692.map (encInt .u8))))], 1⟩) (by kernel_rfl)) (And.intro (.inr rfl) (And.intro rfl (And.intro (by kernel_rfl) (by kernel_rfl)))))
end Go.Proofs.Ytjfhobijgkccdaa.PvGA2
