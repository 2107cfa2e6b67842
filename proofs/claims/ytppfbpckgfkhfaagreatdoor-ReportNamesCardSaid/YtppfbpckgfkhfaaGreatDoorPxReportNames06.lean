import Derived.Shelf.SlIterI.Nil
import Derived.Shelf.Slices.In.SortNone
import Derived.Shelf.Sort.Plain
import Derived.Shelf.Strconv.AtoiErr
import Derived.Test.YtppfbpckgfkhfaaGreatDoorProg
import Derived.Test.YtppfbpckgfkhfaaGreatDoorPxReportNames05
set_option linter.unusedVariables false
set_option linter.unnecessarySimpa false
set_option linter.unusedSimpArgs false
set_option maxRecDepth 10000
namespace Go.Proofs.YtppfbpckgfkhfaaGreatDoor.PvGO
open Go Go.Pv
theorem hmx : Tryz.prog.follows .mixedOrders = true := by kernel_rfl
def gt0 : List ByteArray := [⟨#[111, 107]⟩, ⟨#[97, 114, 103]⟩, ⟨#[110, 105, 108]⟩, ⟨#[110, 111, 110, 101]⟩, ⟨#[114, 97, 110, 103, 101]⟩, ⟨#[111, 118, 101, 114]⟩, ⟨#[102, 111, 114, 109]⟩, ⟨#[115, 104, 111, 114, 116]⟩, ⟨#[115, 117, 109]⟩, ⟨#[108, 105, 109, 105, 116]⟩, ⟨#[102, 117, 108, 108]⟩, ⟨#[100, 111, 119, 110]⟩, ⟨#[116, 104, 101, 114, 101]⟩]
theorem gt0_ok : globTab Tryz.prog 0 = some (gt0.map Value.string) := by kernel_rfl
def gt1 : List ByteArray := [⟨#[115, 99, 104, 101, 109, 97]⟩, ⟨#[99, 111, 117, 110, 116]⟩, ⟨#[111, 114, 100, 101, 114]⟩, ⟨#[111, 108, 100]⟩, ⟨#[115, 101, 114, 105, 101, 115]⟩, ⟨#[107, 105, 110, 100]⟩, ⟨#[108, 97, 98, 101, 108]⟩, ⟨#[114, 101, 103, 101, 120]⟩, ⟨#[114, 101, 97, 100]⟩, ⟨#[98, 114, 111, 107, 101, 110]⟩, ⟨#[110, 111, 100, 97, 116, 97]⟩, ⟨#[122, 101, 114, 111]⟩, ⟨#[98, 117, 99, 107, 101, 116]⟩]
theorem gt1_ok : globTab Tryz.prog 1 = some (gt1.map Value.string) := by kernel_rfl
def f_slices_Clone_byte.f (a0 : List Int) : Option (List Int) := (chk ((([] : List Int).length + a0.length) * 1 ≤ 140737488355328)) >>= fun _ => some a0
theorem f_slices_Clone_byte.ok (a0 r : List Int) (H : f_slices_Clone_byte.f a0 = some r) : Pv.Fn Tryz.prog 141 [.im (.row (a0.map (encInt .u8)))] [] 0 (fun x o => x = .own 0 ∧ o = [(0, some (.row 1 5 (r.map (encInt .u8))))]) := by
  unfold f_slices_Clone_byte.f at H
  obtain ⟨c1, H⟩ := chk_of H
  obtain rfl := Option.some.inj H
  refine Fn.bodyK [0] Tryz.func141 rfl rfl (fun Γ hP hn => ?_)
  have hm : Tryz.prog.follows .mixedOrders = true := by kernel_rfl
  replace hn : Γ.n = 8 := hn
  refine AWp.seq ?_
  refine reg hP hn hm [] [0, 2] [] ⟨[(0, .im (.row (a0.map (encInt .u8)))), (2, .none0)], [], 0⟩ [] (by kernel_rfl) trivial ?_
  refine AWp.seq ?_
  cases a0 with
  | nil =>
    refine AWp.nilSplit 0 rfl (fun b m => ?_)
    refine AWp.seq ?_
    cases b with
    | none =>
      refine reg hP hn hm [(1, .more xNil)] [2, 4] [] ⟨[(2, .none0), (4, bV true)], [], 0⟩ [] (by kernel_rfl) trivial ?_
      refine AWp.cond true rfl (fun _ => ?_) (fun h => nomatch h)
      refine AWp.seq ?_
      refine reg hP hn hm [] [2] [] ⟨[(2, .none0)], [], 0⟩ [] (by kernel_rfl) trivial ?_
      refine AWp.conv (inv := []) (vk := []) (e0 := [0]) (t := ⟨[(2, .own 0)], [(0, some (.row 1 5 []))], 0⟩) (by kernel_rfl) ?_
      refine AWp.ret ?_
      exact Exists.intro _ (And.intro (fun _ _ h => h) (And.intro (.inl rfl) (And.intro rfl (And.intro (by kernel_rfl) (by kernel_rfl)))))
    | some b =>
      refine reg hP hn hm [(1, .more xNil)] [0, 2, 4] [] ⟨[(0, .im (.sc (.slice (some b) 0 m))), (2, .none0), (4, bV false)], [], 0⟩ [] (by kernel_rfl) trivial ?_
      refine AWp.cond false rfl (fun h => nomatch h) (fun _ => ?_)
      refine AWp.skip ?_
      refine AWp.unsplit 0 rfl ?_
      refine AWp.seq ?_
      refine reg hP hn hm [(0, .app 0 ([] : List (List Im))), (2, .app 1 (([] : List Int).map (encInt .u8)))] [2] [1] ⟨[(2, .own 1)], [(1, some (.row 1 5 (([] : List Int).map (encInt .u8))))], 0⟩ [([] : List (List Im)) = [], ([] : List Int).map (encInt .u8) = ([] : List (List Im)) ++ ([] : List Int).map (encInt .u8), ∀ c ∈ ([] : List Int).map (encInt .u8), c.length = 1, ∀ c ∈ ([] : List Int).map (encInt .u8), leaves (c.map .im) = true, (([] : List (List Im)).length + (([] : List Int).map (encInt .u8)).length) * 1 ≤ 140737488355328] (by kernel_rfl) ⟨rfl, by simp, by exact all_len _ _ _ (fun _ => rfl), by exact all_leaf _ _ (fun _ => rfl), by simpa using c1, trivial⟩ ?_
      refine AWp.conv (inv := [(1, 0)]) (vk := []) (e0 := []) (t := ⟨[(2, .own 0)], [(0, some (.row 1 5 (([] : List Int).map (encInt .u8))))], 0⟩) (by kernel_rfl) ?_
      refine AWp.ret ?_
      exact Exists.intro _ (And.intro (fun _ _ h => h) (And.intro (.inl rfl) (And.intro rfl (And.intro (by kernel_rfl) (by kernel_rfl)))))
  | cons y l =>
    refine AWp.seq ?_
    refine reg hP hn hm [(1, .more xNil)] [0, 2, 4] [] ⟨[(0, .im (.row ((y :: l).map (encInt .u8)))), (2, .none0), (4, bV false)], [], 0⟩ [] (by kernel_rfl) trivial ?_
    refine AWp.cond false rfl (fun h => nomatch h) (fun _ => ?_)
    refine AWp.skip ?_
    refine AWp.seq ?_
    refine reg hP hn hm [(0, .app 0 ([] : List (List Im))), (2, .app 1 ((y :: l).map (encInt .u8)))] [2] [1] ⟨[(2, .own 1)], [(1, some (.row 1 5 ((y :: l).map (encInt .u8))))], 0⟩ [([] : List (List Im)) = [], (y :: l).map (encInt .u8) = ([] : List (List Im)) ++ (y :: l).map (encInt .u8), ∀ c ∈ (y :: l).map (encInt .u8), c.length = 1, ∀ c ∈ (y :: l).map (encInt .u8), leaves (c.map .im) = true, (([] : List (List Im)).length + ((y :: l).map (encInt .u8)).length) * 1 ≤ 140737488355328] (by kernel_rfl) ⟨rfl, by simp, by exact all_len _ _ _ (fun _ => rfl), by exact all_leaf _ _ (fun _ => rfl), by simpa using c1, trivial⟩ ?_
    refine AWp.conv (inv := [(1, 0)]) (vk := []) (e0 := []) (t := ⟨[(2, .own 0)], [(0, some (.row 1 5 ((y :: l).map (encInt .u8))))], 0⟩) (by kernel_rfl) ?_
    refine AWp.ret ?_
    exact Exists.intro _ (And.intro (fun _ _ h => h) (And.intro (.inl rfl) (And.intro rfl (And.intro (by kernel_rfl) (by kernel_rfl)))))
def f_sum_table.f : Option (List Int) := some crcT
theorem f_sum_table.ok (r : List Int) (H : f_sum_table.f = some r) : Pv.Fn Tryz.prog 261 [] [] 0 (fun x o => x = .agg (r.map (iV .u32)) ∧ o = []) := by
  obtain rfl := sj (show some crcT = some r from H)
  refine Fn.bodyK [] Tryz.func261 rfl rfl (fun Γ hP hn => ?_)
  have hm : Tryz.prog.follows .mixedOrders = true := by kernel_rfl
  replace hn : Γ.n = 25 := hn
  refine sO hP hn hm [(0, .k 10)] [(0, .ptr 10 0 0)] [0] [(10, some (.box 353 ((List.replicate 256 0).map (iV .u32))))] [10] ?_
  refine sO hP hn hm [(0, .k 11)] [(1, .ptr 11 0 0)] [0, 1] [(11, some (.box 353 ((crcP 0).map (iV .u32))))] [10, 11] ?_
  refine AWp.seq ?_
  refine sO hP hn hm [] [(4, iV .i64 ((0 : Nat) : Int))] [0, 1, 4] [] [10, 11] ?_
  refine AWp.block ?_
  refine AWp.loop (LWp.mono (Q := fun e s => e = .exit 0 ∧ s = ⟨[(0, .ptr 10 0 0), (1, .ptr 11 0 0), (5, bV false)], [(10, some (.box 353 ((List.replicate 256 0).map (iV .u32)))), (11, some (.box 353 (crcT.map (iV .u32))))], 0⟩) (withBody (fun body0 hbody0 => ?_)) ?_)
  · have main0 : ∀ m n, n + m = 256 → LWp Γ body0 (fun e s => e = .exit 0 ∧ s = ⟨[(0, .ptr 10 0 0), (1, .ptr 11 0 0), (5, bV false)], [(10, some (.box 353 ((List.replicate 256 0).map (iV .u32)))), (11, some (.box 353 (crcT.map (iV .u32))))], 0⟩) ⟨[(0, .ptr 10 0 0), (1, .ptr 11 0 0), (4, iV .i64 ((n : Nat) : Int))], [(10, some (.box 353 ((List.replicate 256 0).map (iV .u32)))), (11, some (.box 353 ((crcP n).map (iV .u32))))], 0⟩ := by
      intro m
      induction m with
      | zero =>
        intro n hn1
        obtain rfl : n = 256 := by omega
        subst hbody0
        refine LWp.round ?_
        refine sO hP hn hm [] [(5, bV false)] [0, 1, 5] [] [10, 11] ?_
        refine AWp.seq ?_
        refine AWp.cond false (by kernel_rfl) (fun h => nomatch h) (fun _ => ?_)
        refine AWp.exit ⟨rfl, ?_⟩
        rw [crcP_all]; rfl
      | succ m ih =>
        intro n hn1
        subst hbody0
        refine LWp.round ?_
        refine sR hP hn hm [(0, .b true)] [(5, bV true)] [0, 1, 4, 5] [] [10, 11] [decide (((n : Nat) : Int) < 256) = true] ⟨by simp; omega, trivial⟩ ?_
        refine AWp.seq ?_
        refine AWp.cond true (by kernel_rfl) (fun _ => ?_) (fun h => nomatch h)
        refine AWp.skip ?_
        refine AWp.seq ?_
        refine AWp.block ?_
        refine sO hP hn hm [] [(2, iV .i64 ((n : Nat) : Int))] [0, 1, 2, 4] [] [10, 11] ?_
        refine sO hP hn hm [] [(3, iV .u32 (IntKind.u32.wrap ((n : Nat) : Int)))] [0, 1, 2, 3, 4] [] [10, 11] ?_
        refine AWp.seq ?_
        refine sO hP hn hm [] [(9, iV .i64 ((0 : Nat) : Int))] [0, 1, 2, 3, 4, 9] [] [10, 11] ?_
        refine AWp.block ?_
        refine AWp.loop (LWp.mono (Q := fun e s => e = .exit 2 ∧ s = ⟨[(0, .ptr 10 0 0), (1, .ptr 11 0 0), (2, iV .i64 ((n : Nat) : Int)), (3, iV .u32 (crcE n)), (4, iV .i64 ((n : Nat) : Int)), (10, bV false)], [(10, some (.box 353 ((List.replicate 256 0).map (iV .u32)))), (11, some (.box 353 ((crcP n).map (iV .u32))))], 0⟩) (withBody (fun body1 hbody1 => ?_)) ?_)
        · have main1 : ∀ m1 n1 c, n1 + m1 = 8 → LWp Γ body1 (fun e s => e = .exit 2 ∧ s = ⟨[(0, .ptr 10 0 0), (1, .ptr 11 0 0), (2, iV .i64 ((n : Nat) : Int)), (3, iV .u32 (crcN m1 c)), (4, iV .i64 ((n : Nat) : Int)), (10, bV false)], [(10, some (.box 353 ((List.replicate 256 0).map (iV .u32)))), (11, some (.box 353 ((crcP n).map (iV .u32))))], 0⟩) ⟨[(0, .ptr 10 0 0), (1, .ptr 11 0 0), (2, iV .i64 ((n : Nat) : Int)), (3, iV .u32 c), (4, iV .i64 ((n : Nat) : Int)), (9, iV .i64 ((n1 : Nat) : Int))], [(10, some (.box 353 ((List.replicate 256 0).map (iV .u32)))), (11, some (.box 353 ((crcP n).map (iV .u32))))], 0⟩ := by
            intro m1
            induction m1 with
            | zero =>
              intro n1 c hn2
              obtain rfl : n1 = 8 := by omega
              subst hbody1
              refine LWp.round ?_
              refine sO hP hn hm [] [(10, bV false)] [0, 1, 2, 3, 4, 10] [] [10, 11] ?_
              refine AWp.seq ?_
              refine AWp.cond false (by kernel_rfl) (fun h => nomatch h) (fun _ => ?_)
              exact AWp.exit ⟨rfl, rfl⟩
            | succ m1 ih1 =>
              intro n1 c hn2
              subst hbody1
              refine LWp.round ?_
              refine sR hP hn hm [(0, .b true)] [(10, bV true)] [0, 1, 2, 3, 4, 9, 10] [] [10, 11] [decide (((n1 : Nat) : Int) < 8) = true] ⟨by simp; omega, trivial⟩ ?_
              refine AWp.seq ?_
              refine AWp.cond true (by kernel_rfl) (fun _ => ?_) (fun h => nomatch h)
              refine AWp.skip ?_
              have hw : IntKind.i64.wrap (((n1 : Nat) : Int) + 1) = ((n1 + 1 : Nat) : Int) := by rw [wrap64 (by omega) (by omega)]; omega
              refine AWp.seq ?_
              refine AWp.block ?_
              refine sO hP hn hm [] [(13, bV (IntKind.u32.wrap (((BitVec.ofInt 32 c &&& BitVec.ofInt 32 1).toNat : Nat) : Int) == (1 : Int)))] [0, 1, 2, 3, 4, 9, 13] [] [10, 11] ?_
              refine AWp.cond (IntKind.u32.wrap (((BitVec.ofInt 32 c &&& BitVec.ofInt 32 1).toNat : Nat) : Int) == (1 : Int)) (by kernel_rfl) (fun c1 => ?_) (fun c1 => ?_)
              · have e1 : crcS c = IntKind.u32.wrap (((BitVec.ofInt 32 (Int.fdiv c 2) ^^^ BitVec.ofInt 32 3988292384).toNat : Nat) : Int) := by unfold crcS; rw [if_pos c1]
                refine rG hP hn hm [] [(3, iV .u32 (IntKind.u32.wrap (((BitVec.ofInt 32 (Int.fdiv c 2) ^^^ BitVec.ofInt 32 3988292384).toNat : Nat) : Int)))] [0, 1, 2, 3, 4, 9] [] [10, 11] [(0 : Int) ≤ 1] ⟨by decide, trivial⟩ ?_
                rw [← e1]
                refine rO hP hn hm [] [(9, iV .i64 (IntKind.i64.wrap (((n1 : Nat) : Int) + 1)))] [0, 1, 2, 3, 4, 9] [] [10, 11] ?_
                rw [hw]
                exact ih1 (n1 + 1) (crcS c) (by omega)
              · have e1 : crcS c = Int.fdiv c 2 := by unfold crcS; rw [if_neg (by rw [c1]; exact Bool.false_ne_true)]
                refine rG hP hn hm [] [(3, iV .u32 (Int.fdiv c 2))] [0, 1, 2, 3, 4, 9] [] [10, 11] [(0 : Int) ≤ 1] ⟨by decide, trivial⟩ ?_
                rw [← e1]
                refine rO hP hn hm [] [(9, iV .i64 (IntKind.i64.wrap (((n1 : Nat) : Int) + 1)))] [0, 1, 2, 3, 4, 9] [] [10, 11] ?_
                rw [hw]
                exact ih1 (n1 + 1) (crcS c) (by omega)
          exact main1 8 0 (IntKind.u32.wrap ((n : Nat) : Int)) rfl
        · rintro e s ⟨rfl, rfl⟩
          have hw : IntKind.i64.wrap (((n : Nat) : Int) + 1) = ((n + 1 : Nat) : Int) := by rw [wrap64 (by omega) (by omega)]; omega
          show AWp Γ _ _ _
          refine rG hP hn hm [(2, .more (xIdxS n)), (3, .more (xStoreS ((crcP (n + 1)).map (iV .u32))))] [] [0, 1, 4] [(11, some (.box 353 ((crcP (n + 1)).map (iV .u32))))] [10, 11] [((n : Nat) : Int) = ((n : Nat) : Int), n < 256, true = true, 1 = 1, 0 < 1, 0 + n * 1 + 1 ≤ ((crcP n).map (iV .u32)).length, splice ((crcP n).map (iV .u32)) (0 + n * 1) [iV .u32 (crcE n)] = (crcP (n + 1)).map (iV .u32)] ⟨rfl, by omega, rfl, rfl, by decide, by rw [List.length_map, crcP_len (by omega)]; omega, ?_, trivial⟩ ?_
          · rw [splice_one (by rw [List.length_map, crcP_len (by omega)]; omega), ← List.map_set, Nat.zero_add, Nat.mul_one, crcP_set (by omega)]
          · refine rO hP hn hm [] [(4, iV .i64 (IntKind.i64.wrap (((n : Nat) : Int) + 1)))] [0, 1, 4] [] [10, 11] ?_
            rw [hw]
            exact ih (n + 1) (by omega)
    exact main0 256 0 rfl
  · rintro e s ⟨rfl, rfl⟩
    show AWp Γ _ _ _
    refine sR hP hn hm [(0, .more (xLoadS (.agg (crcT.map (iV .u32))))), (1, .more (xStoreS (crcT.map (iV .u32))))] [] [0] [(10, some (.box 353 (crcT.map (iV .u32))))] [10] [loadA true 256 ((crcT.map (iV .u32)).drop 0) = some (.agg (crcT.map (iV .u32))), leaves (crcT.map (iV .u32)) = true, (crcT.map (iV .u32)).length = 256, 0 < 256, 0 + 256 ≤ ((List.replicate 256 (0 : Int)).map (iV .u32)).length, splice ((List.replicate 256 (0 : Int)).map (iV .u32)) 0 (crcT.map (iV .u32)) = crcT.map (iV .u32)] ⟨loadA_all (by rw [List.length_map, crcT_len]), leaves_map _ (fun _ => rfl) _, by rw [List.length_map, crcT_len], by decide, by simp, splice_all (by simp [crcT_len]), trivial⟩ ?_
    refine AWp.ret ⟨_, fun _ _ h => h, .inl rfl, rfl, ?_, by kernel_rfl⟩
    show resOf Tryz.prog Tryz.f261 ⟨[(0, .ptr 10 0 0)], [(10, some (.box 353 (crcT.map (iV .u32))))], 0⟩ = some (.agg (crcT.map (iV .u32)))
    have hra : resA Tryz.prog ⟨[(0, .ptr 10 0 0)], [(10, some (.box 353 (crcT.map (iV .u32))))], 0⟩ (.cell 0 353) = loadA true 256 ((crcT.map (iV .u32)).drop 0) := by kernel_rfl
    have hr : resL Tryz.prog ⟨[(0, .ptr 10 0 0)], [(10, some (.box 353 (crcT.map (iV .u32))))], 0⟩ [.cell 0 353] = some [.agg (crcT.map (iV .u32))] := by
      unfold resL
      rw [hra, loadA_all (by rw [List.length_map, crcT_len])]; rfl
    unfold resOf
    rw [show (Tryz.f261).results.toList = [.cell 0 353] from rfl, hr]
def f_sum_Of.f (a0 : List (List Int)) : Option (Int) := (chk (a0.length ≤ 140737488355328 ∧ ∀ l ∈ a0, l.length ≤ 140737488355328)) >>= fun _ => some (crcO a0)
theorem f_sum_Of.ok (a0 : List (List Int)) (r : Int) (H : f_sum_Of.f a0 = some r) : Pv.Fn Tryz.prog 186 [.im (.row (a0.map (encRow (encInt .u8))))] [] 0 (fun x o => x = iV .u32 r ∧ o = []) := by
  unfold f_sum_Of.f at H
  obtain ⟨⟨hl, hls⟩, H⟩ := chk_of H
  obtain rfl := sj H
  refine Fn.bodyK [] Tryz.func186 rfl rfl (fun Γ hP hn => ?_)
  have hm : Tryz.prog.follows .mixedOrders = true := by kernel_rfl
  replace hn : Γ.n = 35 := hn
  refine sO hP hn hm [] [] [0] [] [] ?_
  refine sR hP hn hm [(0, .call [] [] [] [] 0 (.agg (crcT.map (iV .u32))) []), (1, .k 12), (2, .more (xStoreS (crcT.map (iV .u32))))] [(3, .ptr 12 0 0)] [0, 3] [(12, some (.box 353 (crcT.map (iV .u32))))] [12] [_, Pv.Fn Tryz.prog 261 [] [] 0 (fun x o => x = .agg (crcT.map (iV .u32)) ∧ o = []), leaves (crcT.map (iV .u32)) = true, (crcT.map (iV .u32)).length = 256, 0 < 256, 0 + 256 ≤ ((List.replicate 256 (0 : Int)).map (iV .u32)).length, splice ((List.replicate 256 (0 : Int)).map (iV .u32)) 0 (crcT.map (iV .u32)) = crcT.map (iV .u32)] ⟨Tryz.call261, f_sum_table.ok crcT rfl, leaves_map _ (fun _ => rfl) _, by rw [List.length_map, crcT_len], by decide, by simp, splice_all (by simp [crcT_len]), trivial⟩ ?_
  refine sO hP hn hm [] [(4, iV .u32 4294967295)] [0, 3, 4] [] [12] ?_
  refine AWp.seq ?_
  refine sR hP hn hm [(1, .any (iV .i64 (a0.length : Int)))] [(10, .im (.row (a0.map (encRow (encInt .u8))))), (11, iV .i64 (a0.length : Int)), (12, iV .i64 ((0 : Nat) : Int))] [3, 4, 10, 11, 12] [] [12] [((a0.map (encRow (encInt .u8))).length : Int) = (a0.length : Int)] ⟨by rw [len_map], trivial⟩ ?_
  refine AWp.block ?_
  refine AWp.loop (LWp.mono (Q := fun e s => e = .exit 0 ∧ s = ⟨[(4, iV .u32 (crcFF 4294967295 a0)), (13, bV false)], [], 0⟩) (withBody (fun body0 hbody0 => ?_)) ?_)
  · have main0 : ∀ m n c, n + m = a0.length → LWp Γ body0 (fun e s => e = .exit 0 ∧ s = ⟨[(4, iV .u32 (crcFF c (a0.drop n))), (13, bV false)], [], 0⟩) ⟨[(3, .ptr 12 0 0), (4, iV .u32 c), (10, .im (.row (a0.map (encRow (encInt .u8))))), (11, iV .i64 (a0.length : Int)), (12, iV .i64 ((n : Nat) : Int))], [(12, some (.box 353 (crcT.map (iV .u32))))], 0⟩ := by
      intro m
      induction m with
      | zero =>
        intro n c hn1
        obtain rfl : n = a0.length := by omega
        subst hbody0
        refine LWp.round ?_
        refine sR hP hn hm [(0, .b false)] [(13, bV false)] [4, 13] [] [] [decide (((a0.length : Nat) : Int) < (a0.length : Int)) = false] ⟨by simp, trivial⟩ ?_
        refine AWp.seq ?_
        refine AWp.cond false (by kernel_rfl) (fun h => nomatch h) (fun _ => ?_)
        refine AWp.exit ⟨rfl, ?_⟩
        rw [List.drop_length]; rfl
      | succ m ih =>
        intro n c hn1
        have hnl : n < a0.length := by omega
        obtain ⟨b, hb⟩ : ∃ b, a0[n]? = some b := ⟨_, List.getElem?_eq_getElem hnl⟩
        have hbl := hls b (List.mem_of_getElem? hb)
        have hd : a0.drop n = b :: a0.drop (n + 1) := by rw [List.drop_eq_getElem_cons hnl]; congr 1; exact (List.getElem?_eq_some_iff.1 hb).2
        subst hbody0
        refine LWp.round ?_
        refine sR hP hn hm [(0, .b true)] [(13, bV true)] [3, 4, 10, 11, 12, 13] [] [12] [decide (((n : Nat) : Int) < (a0.length : Int)) = true] ⟨by simp; omega, trivial⟩ ?_
        refine AWp.seq ?_
        refine AWp.cond true (by kernel_rfl) (fun _ => ?_) (fun h => nomatch h)
        refine AWp.skip ?_
        refine AWp.seq ?_
        refine AWp.block ?_
        refine sR hP hn hm [(0, .c ((encRow (encInt .u8)) b))] [(6, .im (.row (b.map (encInt .u8))))] [3, 4, 6, 10, 11, 12] [] [12] [(0 : Int) ≤ ((n : Nat) : Int), (a0.map (encRow (encInt .u8)))[(((n : Nat) : Int)).toNat]? = some ((encRow (encInt .u8)) b)] ⟨by omega, by rw [Int.toNat_natCast]; exact el_map (encRow (encInt .u8)) hb, trivial⟩ ?_
        refine sR hP hn hm [(1, .any (iV .i64 (b.length : Int)))] [(16, .im (.row (b.map (encInt .u8)))), (17, iV .i64 (b.length : Int)), (18, iV .i64 ((0 : Nat) : Int))] [3, 4, 10, 11, 12, 16, 17, 18] [] [12] [((b.map (encInt .u8)).length : Int) = (b.length : Int)] ⟨by rw [len_map], trivial⟩ ?_
        refine AWp.block ?_
        refine AWp.loop (LWp.mono (Q := fun e s => e = .exit 2 ∧ s = ⟨[(3, .ptr 12 0 0), (4, iV .u32 (crcF c b)), (10, .im (.row (a0.map (encRow (encInt .u8))))), (11, iV .i64 (a0.length : Int)), (12, iV .i64 ((n : Nat) : Int)), (19, bV false)], [(12, some (.box 353 (crcT.map (iV .u32))))], 0⟩) (withBody (fun body1 hbody1 => ?_)) ?_)
        · have main1 : ∀ m1 n1 c, n1 + m1 = b.length → LWp Γ body1 (fun e s => e = .exit 2 ∧ s = ⟨[(3, .ptr 12 0 0), (4, iV .u32 (crcF c (b.drop n1))), (10, .im (.row (a0.map (encRow (encInt .u8))))), (11, iV .i64 (a0.length : Int)), (12, iV .i64 ((n : Nat) : Int)), (19, bV false)], [(12, some (.box 353 (crcT.map (iV .u32))))], 0⟩) ⟨[(3, .ptr 12 0 0), (4, iV .u32 c), (10, .im (.row (a0.map (encRow (encInt .u8))))), (11, iV .i64 (a0.length : Int)), (12, iV .i64 ((n : Nat) : Int)), (16, .im (.row (b.map (encInt .u8)))), (17, iV .i64 (b.length : Int)), (18, iV .i64 ((n1 : Nat) : Int))], [(12, some (.box 353 (crcT.map (iV .u32))))], 0⟩ := by
            intro m1
            induction m1 with
            | zero =>
              intro n1 c hn2
              obtain rfl : n1 = b.length := by omega
              subst hbody1
              refine LWp.round ?_
              refine sR hP hn hm [(0, .b false)] [(19, bV false)] [3, 4, 10, 11, 12, 19] [] [12] [decide (((b.length : Nat) : Int) < (b.length : Int)) = false] ⟨by simp, trivial⟩ ?_
              refine AWp.seq ?_
              refine AWp.cond false (by kernel_rfl) (fun h => nomatch h) (fun _ => ?_)
              refine AWp.exit ⟨rfl, ?_⟩
              rw [List.drop_length]; rfl
            | succ m1 ih1 =>
              intro n1 c hn2
              have hnl1 : n1 < b.length := by omega
              obtain ⟨x, hx⟩ : ∃ x, b[n1]? = some x := ⟨_, List.getElem?_eq_getElem hnl1⟩
              have hd1 : b.drop n1 = x :: b.drop (n1 + 1) := by rw [List.drop_eq_getElem_cons hnl1]; congr 1; exact (List.getElem?_eq_some_iff.1 hx).2
              have hw : IntKind.i64.wrap (((n1 : Nat) : Int) + 1) = ((n1 + 1 : Nat) : Int) := by rw [wrap64 (by omega) (by omega)]; omega
              rw [hd1]
              subst hbody1
              refine LWp.round ?_
              refine sR hP hn hm [(0, .b true)] [(19, bV true)] [3, 4, 10, 11, 12, 16, 17, 18, 19] [] [12] [decide (((n1 : Nat) : Int) < (b.length : Int)) = true] ⟨by simp; omega, trivial⟩ ?_
              refine AWp.seq ?_
              refine AWp.cond true (by kernel_rfl) (fun _ => ?_) (fun h => nomatch h)
              refine AWp.skip ?_
              refine AWp.seq ?_
              refine AWp.block ?_
              refine sR hP hn hm [(0, .c (encInt .u8 x))] [(8, iV .u8 x)] [3, 4, 8, 10, 11, 12, 16, 17, 18] [] [12] [(0 : Int) ≤ ((n1 : Nat) : Int), (b.map (encInt .u8))[(((n1 : Nat) : Int)).toNat]? = some (encInt .u8 x)] ⟨by omega, by rw [Int.toNat_natCast]; exact el_map (encInt .u8) hx, trivial⟩ ?_
              refine rG hP hn hm [(4, .more (xIdxS (crcI c x))), (5, .more (xLoadS (iV .u32 (crcT.getD (crcI c x) 0))))] [(4, iV .u32 (crcU c x))] [3, 4, 10, 11, 12, 16, 17, 18] [] [12] [IntKind.u8.wrap (((BitVec.ofInt 8 (IntKind.u8.wrap c) ^^^ BitVec.ofInt 8 x).toNat : Nat) : Int) = (crcI c x : Int), crcI c x < 256, loadA false 1 ((crcT.map (iV .u32)).drop (0 + crcI c x * 1)) = some (iV .u32 (crcT.getD (crcI c x) 0)), (0 : Int) ≤ 8] ⟨crcI_eq c x, crcI_lt c x, loadA_elem (by rw [Nat.zero_add, Nat.mul_one, List.getElem?_map, crcT_get (crcI_lt c x)]; rfl), by decide, trivial⟩ ?_
              refine rO hP hn hm [] [(18, iV .i64 (IntKind.i64.wrap (((n1 : Nat) : Int) + 1)))] [3, 4, 10, 11, 12, 16, 17, 18] [] [12] ?_
              rw [hw]
              exact ih1 (n1 + 1) (crcU c x) (by omega)
          exact main1 b.length 0 c (by omega)
        · rintro e s ⟨rfl, rfl⟩
          have hw : IntKind.i64.wrap (((n : Nat) : Int) + 1) = ((n + 1 : Nat) : Int) := by rw [wrap64 (by omega) (by omega)]; omega
          show AWp Γ _ _ _
          rw [hd]
          refine rO hP hn hm [] [(12, iV .i64 (IntKind.i64.wrap (((n : Nat) : Int) + 1)))] [3, 4, 10, 11, 12] [] [12] ?_
          rw [hw]
          exact ih (n + 1) (crcF c b) (by omega)
    exact main0 a0.length 0 4294967295 (by omega)
  · rintro e s ⟨rfl, rfl⟩
    show AWp Γ _ _ _
    refine sO hP hn hm [(1, .more xUXor)] [(2, iV .u32 (crcO a0))] [2] [] [] ?_
    refine AWp.ret ⟨_, fun _ _ h => h, .inl rfl, rfl, by kernel_rfl, by kernel_rfl⟩
def lays150_ren : Go.Shelf.Ren := ⟨fun | 150 => 262 | 153 => 311 | 152 => 342 | 226 => 343 | 227 => 344 | 228 => 345 | 137 => 358 | 119 => 359 | 224 => 203 | 225 => 202 | 217 => 201 | 266 => 267 | n => n, fun | 9 => 9 | 4 => 4 | 3 => 3 | 5 => 5 | 21 => 21 | 117 => 424 | 116 => 423 | 0 => 0 | 46 => 220 | 124 => 442 | n => n, fun | n => n⟩
theorem lays150 : Go.Proofs.Lays.n150 Tryz.prog lays150_ren := {
  mixed := by kernel_rfl
  f119 := Tryz.func359.trans (congrArg some (by kernel_rfl))
  f137 := Tryz.func358.trans (congrArg some (by kernel_rfl))
  f150 := Tryz.func262.trans (congrArg some (by kernel_rfl))
  f152 := Tryz.func342.trans (congrArg some (by kernel_rfl))
  f153 := Tryz.func311.trans (congrArg some (by kernel_rfl))
  f217 := Tryz.func201.trans (congrArg some (by kernel_rfl))
  f224 := Tryz.func203.trans (congrArg some (by kernel_rfl))
  f225 := Tryz.func202.trans (congrArg some (by kernel_rfl))
  f226 := Tryz.func343.trans (congrArg some (by kernel_rfl))
  f227 := Tryz.func344.trans (congrArg some (by kernel_rfl))
  f228 := Tryz.func345.trans (congrArg some (by kernel_rfl))
  f266 := Tryz.func267.trans (congrArg some (by kernel_rfl))
  t0 := Tryz.underlying0
  a0 := Tryz.isAgg0
  z0 := Tryz.sizeOf0
  v0 := Tryz.zeroValue0
  t3 := Tryz.underlying3
  a3 := Tryz.isAgg3
  z3 := Tryz.sizeOf3
  v3 := Tryz.zeroValue3
  t4 := Tryz.underlying4
  a4 := Tryz.isAgg4
  z4 := Tryz.sizeOf4
  v4 := Tryz.zeroValue4
  t5 := Tryz.underlying5
  a5 := Tryz.isAgg5
  z5 := Tryz.sizeOf5
  v5 := Tryz.zeroValue5
  t9 := Tryz.underlying9
  a9 := Tryz.isAgg9
  z9 := Tryz.sizeOf9
  v9 := Tryz.zeroValue9
  t21 := Tryz.underlying21
  a21 := Tryz.isAgg21
  z21 := Tryz.sizeOf21
  v21 := Tryz.zeroValue21
  t46 := Tryz.underlying220
  a46 := Tryz.isAgg220
  z46 := Tryz.sizeOf220
  v46 := Tryz.zeroValue220
  t116 := Tryz.underlying423
  a116 := Tryz.isAgg423
  z116 := Tryz.sizeOf423
  t117 := Tryz.underlying424
  a117 := Tryz.isAgg424
  z117 := Tryz.sizeOf424
  v117 := Tryz.zeroValue424
  t124 := Tryz.underlying442
  a124 := Tryz.isAgg442
  z124 := Tryz.sizeOf442
  v124 := Tryz.zeroValue442 }
def lays190_ren : Go.Shelf.Ren := ⟨fun | 190 => 136 | 125 => 214 | 258 => 213 | 128 => 279 | 129 => 194 | 302 => 271 | 303 => 272 | 304 => 273 | 305 => 274 | 306 => 275 | 307 => 276 | 308 => 251 | 309 => 277 | 310 => 278 | 333 => 321 | 329 => 322 | 330 => 323 | 334 => 324 | 335 => 325 | 336 => 285 | 344 => 349 | n => n, fun | 31 => 33 | 9 => 9 | 3 => 3 | 46 => 220 | 0 => 0 | 51 => 288 | 53 => 27 | 4 => 4 | 183 => 369 | 182 => 368 | 131 => 177 | 5 => 5 | 218 => 405 | 222 => 407 | 228 => 429 | 229 => 430 | n => n, fun | n => n⟩
theorem lays190 : Go.Proofs.Lays.n190 Tryz.prog lays190_ren := {
  mixed := by kernel_rfl
  f125 := Tryz.func214.trans (congrArg some (by kernel_rfl))
  f128 := Tryz.func279.trans (congrArg some (by kernel_rfl))
  f129 := Tryz.func194.trans (congrArg some (by kernel_rfl))
  f190 := Tryz.func136.trans (congrArg some (by kernel_rfl))
  f258 := Tryz.func213.trans (congrArg some (by kernel_rfl))
  f302 := Tryz.func271.trans (congrArg some (by kernel_rfl))
  f303 := Tryz.func272.trans (congrArg some (by kernel_rfl))
  f304 := Tryz.func273.trans (congrArg some (by kernel_rfl))
  f305 := Tryz.func274.trans (congrArg some (by kernel_rfl))
  f306 := Tryz.func275.trans (congrArg some (by kernel_rfl))
  f307 := Tryz.func276.trans (congrArg some (by kernel_rfl))
  f308 := Tryz.func251.trans (congrArg some (by kernel_rfl))
  f309 := Tryz.func277.trans (congrArg some (by kernel_rfl))
  f310 := Tryz.func278.trans (congrArg some (by kernel_rfl))
  f329 := Tryz.func322.trans (congrArg some (by kernel_rfl))
  f330 := Tryz.func323.trans (congrArg some (by kernel_rfl))
  f333 := Tryz.func321.trans (congrArg some (by kernel_rfl))
  f334 := Tryz.func324.trans (congrArg some (by kernel_rfl))
  f335 := Tryz.func325.trans (congrArg some (by kernel_rfl))
  f336 := Tryz.func285.trans (congrArg some (by kernel_rfl))
  f344 := Tryz.func349.trans (congrArg some (by kernel_rfl))
  t0 := Tryz.underlying0
  a0 := Tryz.isAgg0
  z0 := Tryz.sizeOf0
  v0 := Tryz.zeroValue0
  t3 := Tryz.underlying3
  a3 := Tryz.isAgg3
  z3 := Tryz.sizeOf3
  v3 := Tryz.zeroValue3
  t4 := Tryz.underlying4
  a4 := Tryz.isAgg4
  z4 := Tryz.sizeOf4
  v4 := Tryz.zeroValue4
  t5 := Tryz.underlying5
  a5 := Tryz.isAgg5
  z5 := Tryz.sizeOf5
  v5 := Tryz.zeroValue5
  t9 := Tryz.underlying9
  a9 := Tryz.isAgg9
  z9 := Tryz.sizeOf9
  v9 := Tryz.zeroValue9
  t31 := Tryz.underlying33
  a31 := Tryz.isAgg33
  z31 := Tryz.sizeOf33
  v31 := Tryz.zeroValue33
  t46 := Tryz.underlying220
  a46 := Tryz.isAgg220
  z46 := Tryz.sizeOf220
  v46 := Tryz.zeroValue220
  t51 := Tryz.underlying288
  a51 := Tryz.isAgg288
  z51 := Tryz.sizeOf288
  v51 := Tryz.zeroValue288
  t53 := Tryz.underlying27
  a53 := Tryz.isAgg27
  z53 := Tryz.sizeOf27
  v53 := Tryz.zeroValue27
  t131 := Tryz.underlying177
  a131 := Tryz.isAgg177
  z131 := Tryz.sizeOf177
  v131 := Tryz.zeroValue177
  t182 := Tryz.underlying368
  a182 := Tryz.isAgg368
  z182 := Tryz.sizeOf368
  v182 := Tryz.zeroValue368
  t183 := Tryz.underlying369
  a183 := Tryz.isAgg369
  z183 := Tryz.sizeOf369
  v183 := Tryz.zeroValue369
  t218 := Tryz.underlying405
  a218 := Tryz.isAgg405
  z218 := Tryz.sizeOf405
  v218 := Tryz.zeroValue405
  t222 := Tryz.underlying407
  a222 := Tryz.isAgg407
  z222 := Tryz.sizeOf407
  v222 := Tryz.zeroValue407
  t228 := Tryz.underlying429
  a228 := Tryz.isAgg429
  z228 := Tryz.sizeOf429
  v228 := Tryz.zeroValue429
  t229 := Tryz.underlying430
  a229 := Tryz.isAgg430
  z229 := Tryz.sizeOf430
  v229 := Tryz.zeroValue430 }
def lays189_ren : Go.Shelf.Ren := ⟨fun | 189 => 173 | 125 => 214 | 257 => 247 | 128 => 279 | 129 => 194 | 294 => 294 | 295 => 295 | 296 => 296 | 297 => 297 | 298 => 298 | 299 => 299 | 216 => 292 | 300 => 300 | 301 => 301 | 328 => 338 | 329 => 322 | 330 => 323 | 331 => 339 | 332 => 340 | 215 => 131 | 343 => 353 | n => n, fun | 28 => 89 | 3 => 3 | 46 => 220 | 0 => 0 | 51 => 288 | 53 => 27 | 4 => 4 | 183 => 369 | 182 => 368 | 131 => 177 | 5 => 5 | 9 => 9 | 218 => 405 | 222 => 407 | 228 => 429 | 229 => 430 | n => n, fun | n => n⟩
theorem lays189 : Go.Proofs.Lays.n189 Tryz.prog lays189_ren := {
  mixed := by kernel_rfl
  f125 := Tryz.func214.trans (congrArg some (by kernel_rfl))
  f128 := Tryz.func279.trans (congrArg some (by kernel_rfl))
  f129 := Tryz.func194.trans (congrArg some (by kernel_rfl))
  f189 := Tryz.func173.trans (congrArg some (by kernel_rfl))
  f215 := Tryz.func131.trans (congrArg some (by kernel_rfl))
  f216 := Tryz.func292.trans (congrArg some (by kernel_rfl))
  f257 := Tryz.func247.trans (congrArg some (by kernel_rfl))
  f294 := Tryz.func294.trans (congrArg some (by kernel_rfl))
  f295 := Tryz.func295.trans (congrArg some (by kernel_rfl))
  f296 := Tryz.func296.trans (congrArg some (by kernel_rfl))
  f297 := Tryz.func297.trans (congrArg some (by kernel_rfl))
  f298 := Tryz.func298.trans (congrArg some (by kernel_rfl))
  f299 := Tryz.func299.trans (congrArg some (by kernel_rfl))
  f300 := Tryz.func300.trans (congrArg some (by kernel_rfl))
  f301 := Tryz.func301.trans (congrArg some (by kernel_rfl))
  f328 := Tryz.func338.trans (congrArg some (by kernel_rfl))
  f329 := Tryz.func322.trans (congrArg some (by kernel_rfl))
  f330 := Tryz.func323.trans (congrArg some (by kernel_rfl))
  f331 := Tryz.func339.trans (congrArg some (by kernel_rfl))
  f332 := Tryz.func340.trans (congrArg some (by kernel_rfl))
  f343 := Tryz.func353.trans (congrArg some (by kernel_rfl))
  t0 := Tryz.underlying0
  a0 := Tryz.isAgg0
  z0 := Tryz.sizeOf0
  v0 := Tryz.zeroValue0
  t3 := Tryz.underlying3
  a3 := Tryz.isAgg3
  z3 := Tryz.sizeOf3
  v3 := Tryz.zeroValue3
  t4 := Tryz.underlying4
  a4 := Tryz.isAgg4
  z4 := Tryz.sizeOf4
  v4 := Tryz.zeroValue4
  t5 := Tryz.underlying5
  a5 := Tryz.isAgg5
  z5 := Tryz.sizeOf5
  v5 := Tryz.zeroValue5
  t9 := Tryz.underlying9
  a9 := Tryz.isAgg9
  z9 := Tryz.sizeOf9
  v9 := Tryz.zeroValue9
  t28 := Tryz.underlying89
  a28 := Tryz.isAgg89
  z28 := Tryz.sizeOf89
  v28 := Tryz.zeroValue89
  t46 := Tryz.underlying220
  a46 := Tryz.isAgg220
  z46 := Tryz.sizeOf220
  v46 := Tryz.zeroValue220
  t51 := Tryz.underlying288
  a51 := Tryz.isAgg288
  z51 := Tryz.sizeOf288
  v51 := Tryz.zeroValue288
  t53 := Tryz.underlying27
  a53 := Tryz.isAgg27
  z53 := Tryz.sizeOf27
  v53 := Tryz.zeroValue27
  t131 := Tryz.underlying177
  a131 := Tryz.isAgg177
  z131 := Tryz.sizeOf177
  v131 := Tryz.zeroValue177
  t182 := Tryz.underlying368
  a182 := Tryz.isAgg368
  z182 := Tryz.sizeOf368
  v182 := Tryz.zeroValue368
  t183 := Tryz.underlying369
  a183 := Tryz.isAgg369
  z183 := Tryz.sizeOf369
  v183 := Tryz.zeroValue369
  t218 := Tryz.underlying405
  a218 := Tryz.isAgg405
  z218 := Tryz.sizeOf405
  v218 := Tryz.zeroValue405
  t222 := Tryz.underlying407
  a222 := Tryz.isAgg407
  z222 := Tryz.sizeOf407
  v222 := Tryz.zeroValue407
  t228 := Tryz.underlying429
  a228 := Tryz.isAgg429
  z228 := Tryz.sizeOf429
  v228 := Tryz.zeroValue429
  t229 := Tryz.underlying430
  a229 := Tryz.isAgg430
  z229 := Tryz.sizeOf430
  v229 := Tryz.zeroValue430 }
def laysMc_ren : Go.Shelf.Ren := ⟨fun | 5 => 184 | 7 => 260 | n => n, fun | 23 => 124 | 25 => 9 | 3 => 159 | 4 => 4 | 20 => 20 | n => n, fun | n => n⟩
theorem laysMc : Go.Proofs.SlLaysW.n5 Tryz.prog laysMc_ren := {
  mixed := by kernel_rfl
  f5 := ⟨"maps.Clone[map[string]*pluvial/disk.file,string,*pluvial/disk.file]", by decide, Tryz.func184.trans (congrArg some (by kernel_rfl))⟩
  f7 := Tryz.func260.trans (congrArg some (by kernel_rfl))
  t4 := Tryz.underlying4
  a4 := Tryz.isAgg4
  z4 := Tryz.sizeOf4
  v4 := Tryz.zeroValue4
  t20 := Tryz.underlying20
  a20 := Tryz.isAgg20
  z20 := Tryz.sizeOf20
  v20 := Tryz.zeroValue20
  t23 := Tryz.underlying124
  a23 := Tryz.isAgg124
  z23 := Tryz.sizeOf124
  v23 := Tryz.zeroValue124 }
def laysKeys_ren : Go.Shelf.Ren := ⟨fun | 10 => 137 | n => n, fun | 33 => 225 | 23 => 124 | 0 => 0 | 4 => 4 | 26 => 9 | 3 => 159 | n => n, fun | n => n⟩
theorem laysKeys : Go.Proofs.SlLaysZ.n10 Tryz.prog laysKeys_ren := {
  mixed := by kernel_rfl
  f10 := ⟨"maps.Keys[map[string]*pluvial/disk.file,string,*pluvial/disk.file]$1", by decide, Tryz.func137.trans (congrArg some (by kernel_rfl))⟩
  t0 := Tryz.underlying0
  a0 := Tryz.isAgg0
  z0 := Tryz.sizeOf0
  v0 := Tryz.zeroValue0
  t4 := Tryz.underlying4
  a4 := Tryz.isAgg4
  z4 := Tryz.sizeOf4
  v4 := Tryz.zeroValue4
  t23 := Tryz.underlying124
  a23 := Tryz.isAgg124
  z23 := Tryz.sizeOf124
  v23 := Tryz.zeroValue124
  t26 := Tryz.underlying9
  a26 := Tryz.isAgg9
  z26 := Tryz.sizeOf9
  v26 := Tryz.zeroValue9
  t33 := Tryz.underlying225
  a33 := Tryz.isAgg225
  z33 := Tryz.sizeOf225
  v33 := Tryz.zeroValue225 }
def laysSorted_ren : Go.Shelf.Ren := ⟨fun | 6 => 84 | 8 => 135 | 9 => 136 | 11 => 212 | 13 => 214 | 12 => 213 | 23 => 279 | 24 => 194 | 14 => 271 | 15 => 272 | 16 => 273 | 17 => 274 | 18 => 275 | 19 => 276 | 20 => 251 | 21 => 277 | 22 => 278 | 25 => 321 | 26 => 322 | 27 => 323 | 28 => 324 | 29 => 325 | 30 => 285 | 31 => 349 | n => n, fun | 26 => 9 | 28 => 157 | 24 => 33 | 0 => 0 | 3 => 3 | 37 => 220 | 48 => 288 | 50 => 27 | 4 => 4 | 40 => 369 | 39 => 368 | 45 => 177 | 5 => 5 | 9 => 9 | 51 => 405 | 55 => 407 | 57 => 429 | 58 => 430 | 33 => 225 | n => n, fun | n => n⟩
theorem laysSorted : Go.Proofs.SlLaysZ.n6 Tryz.prog laysSorted_ren := {
  mixed := by kernel_rfl
  f6 := ⟨"slices.Sorted[string]", by decide, Tryz.func84.trans (congrArg some (by kernel_rfl))⟩
  f8 := ⟨"slices.Collect[string]", by decide, Tryz.func135.trans (congrArg some (by kernel_rfl))⟩
  f11 := ⟨"slices.AppendSeq[[]string,string]", by decide, Tryz.func212.trans (congrArg some (by kernel_rfl))⟩
  t0 := Tryz.underlying0
  a0 := Tryz.isAgg0
  z0 := Tryz.sizeOf0
  v0 := Tryz.zeroValue0
  t24 := Tryz.underlying33
  a24 := Tryz.isAgg33
  z24 := Tryz.sizeOf33
  v24 := Tryz.zeroValue33
  t26 := Tryz.underlying9
  a26 := Tryz.isAgg9
  z26 := Tryz.sizeOf9
  v26 := Tryz.zeroValue9
  t28 := Tryz.underlying157
  a28 := Tryz.isAgg157
  z28 := Tryz.sizeOf157
  v28 := Tryz.zeroValue157
  i26 := by kernel_rfl }
def laysKeysI_ren : Go.Shelf.Ren := ⟨fun | 10 => 174 | n => n, fun | 33 => 24 | 23 => 127 | 0 => 0 | 4 => 4 | 26 => 3 | 3 => 174 | n => n, fun | n => n⟩
theorem laysKeysI : Go.Proofs.SlLaysZI.n10 Tryz.prog laysKeysI_ren := {
  mixed := by kernel_rfl
  f10 := ⟨"maps.Keys[map[int]pluvial/block.Block,int,pluvial/block.Block]$1", by decide, Tryz.func174.trans (congrArg some (by kernel_rfl))⟩
  t0 := Tryz.underlying0
  a0 := Tryz.isAgg0
  z0 := Tryz.sizeOf0
  v0 := Tryz.zeroValue0
  t4 := Tryz.underlying4
  a4 := Tryz.isAgg4
  z4 := Tryz.sizeOf4
  v4 := Tryz.zeroValue4
  t23 := Tryz.underlying127
  a23 := Tryz.isAgg127
  z23 := Tryz.sizeOf127
  v23 := Tryz.zeroValue127
  t26 := Tryz.underlying3
  a26 := Tryz.isAgg3
  z26 := Tryz.sizeOf3
  v26 := Tryz.zeroValue3
  t33 := Tryz.underlying24
  a33 := Tryz.isAgg24
  z33 := Tryz.sizeOf24
  v33 := Tryz.zeroValue24 }
def laysSortedI_ren : Go.Shelf.Ren := ⟨fun | 6 => 100 | 8 => 172 | 9 => 173 | 11 => 246 | 13 => 214 | 12 => 247 | 23 => 279 | 24 => 194 | 14 => 294 | 15 => 295 | 16 => 296 | 17 => 297 | 18 => 298 | 19 => 299 | 20 => 292 | 21 => 300 | 22 => 301 | 25 => 338 | 26 => 322 | 27 => 323 | 28 => 339 | 29 => 340 | 30 => 131 | 31 => 353 | n => n, fun | 26 => 3 | 28 => 192 | 24 => 89 | 0 => 0 | 3 => 3 | 37 => 220 | 48 => 288 | 50 => 27 | 4 => 4 | 40 => 369 | 39 => 368 | 45 => 177 | 5 => 5 | 9 => 9 | 51 => 405 | 55 => 407 | 57 => 429 | 58 => 430 | 33 => 24 | n => n, fun | n => n⟩
theorem laysSortedI : Go.Proofs.SlLaysZI.n6 Tryz.prog laysSortedI_ren := {
  mixed := by kernel_rfl
  f6 := ⟨"slices.Sorted[int]", by decide, Tryz.func100.trans (congrArg some (by kernel_rfl))⟩
  f8 := ⟨"slices.Collect[int]", by decide, Tryz.func172.trans (congrArg some (by kernel_rfl))⟩
  f11 := ⟨"slices.AppendSeq[[]int,int]", by decide, Tryz.func246.trans (congrArg some (by kernel_rfl))⟩
  t0 := Tryz.underlying0
  a0 := Tryz.isAgg0
  z0 := Tryz.sizeOf0
  v0 := Tryz.zeroValue0
  t24 := Tryz.underlying89
  a24 := Tryz.isAgg89
  z24 := Tryz.sizeOf89
  v24 := Tryz.zeroValue89
  t26 := Tryz.underlying3
  a26 := Tryz.isAgg3
  z26 := Tryz.sizeOf3
  v26 := Tryz.zeroValue3
  t28 := Tryz.underlying192
  a28 := Tryz.isAgg192
  z28 := Tryz.sizeOf192
  v28 := Tryz.zeroValue192
  i26 := by kernel_rfl }
def lays172_ren : Go.Shelf.Ren := ⟨fun | 172 => 87 | 244 => 139 | 245 => 74 | 247 => 73 | 279 => 124 | 280 => 125 | 281 => 126 | 282 => 127 | 287 => 75 | 316 => 205 | 171 => 41 | 205 => 206 | 321 => 128 | 322 => 129 | 243 => 63 | 246 => 64 | 283 => 114 | 284 => 115 | 285 => 116 | 286 => 117 | 129 => 194 | 317 => 193 | 318 => 195 | 319 => 196 | 320 => 197 | 337 => 265 | 338 => 266 | n => n, fun | 9 => 9 | 3 => 3 | 75 => 112 | 76 => 143 | 4 => 4 | 5 => 5 | 167 => 219 | 37 => 64 | 0 => 0 | 85 => 113 | 2 => 2 | 168 => 221 | 53 => 27 | 175 => 115 | 46 => 220 | 210 => 303 | 127 => 214 | 145 => 365 | 143 => 363 | 21 => 21 | 171 => 209 | 173 => 212 | 212 => 295 | 51 => 288 | 20 => 20 | 213 => 296 | 232 => 403 | 233 => 404 | 80 => 145 | n => n, fun | 15 => 5 | 16 => 6 | 17 => 3 | 18 => 9 | 19 => 10 | n => n⟩
theorem lays172 : Go.Proofs.LaysC.n172 Tryz.prog lays172_ren := {
  mixed := by kernel_rfl
  f129 := Tryz.func194.trans (congrArg some (by kernel_rfl))
  f171 := Tryz.func41.trans (congrArg some (by kernel_rfl))
  f172 := Tryz.func87.trans (congrArg some (by kernel_rfl))
  f205 := Tryz.func206.trans (congrArg some (by kernel_rfl))
  f243 := Tryz.func63.trans (congrArg some (by kernel_rfl))
  f244 := Tryz.func139.trans (congrArg some (by kernel_rfl))
  f245 := Tryz.func74.trans (congrArg some (by kernel_rfl))
  f246 := Tryz.func64.trans (congrArg some (by kernel_rfl))
  f247 := Tryz.func73.trans (congrArg some (by kernel_rfl))
  f279 := Tryz.func124.trans (congrArg some (by kernel_rfl))
  f280 := Tryz.func125.trans (congrArg some (by kernel_rfl))
  f281 := Tryz.func126.trans (congrArg some (by kernel_rfl))
  f282 := Tryz.func127.trans (congrArg some (by kernel_rfl))
  f283 := Tryz.func114.trans (congrArg some (by kernel_rfl))
  f284 := Tryz.func115.trans (congrArg some (by kernel_rfl))
  f285 := Tryz.func116.trans (congrArg some (by kernel_rfl))
  f286 := Tryz.func117.trans (congrArg some (by kernel_rfl))
  f287 := Tryz.func75.trans (congrArg some (by kernel_rfl))
  f316 := Tryz.func205.trans (congrArg some (by kernel_rfl))
  f317 := Tryz.func193.trans (congrArg some (by kernel_rfl))
  f318 := Tryz.func195.trans (congrArg some (by kernel_rfl))
  f319 := Tryz.func196.trans (congrArg some (by kernel_rfl))
  f320 := Tryz.func197.trans (congrArg some (by kernel_rfl))
  f321 := Tryz.func128.trans (congrArg some (by kernel_rfl))
  f322 := Tryz.func129.trans (congrArg some (by kernel_rfl))
  f337 := Tryz.func265.trans (congrArg some (by kernel_rfl))
  f338 := Tryz.func266.trans (congrArg some (by kernel_rfl))
  t0 := Tryz.underlying0
  a0 := Tryz.isAgg0
  z0 := Tryz.sizeOf0
  v0 := Tryz.zeroValue0
  t2 := Tryz.underlying2
  a2 := Tryz.isAgg2
  z2 := Tryz.sizeOf2
  v2 := Tryz.zeroValue2
  t3 := Tryz.underlying3
  a3 := Tryz.isAgg3
  z3 := Tryz.sizeOf3
  v3 := Tryz.zeroValue3
  t4 := Tryz.underlying4
  a4 := Tryz.isAgg4
  z4 := Tryz.sizeOf4
  v4 := Tryz.zeroValue4
  t5 := Tryz.underlying5
  a5 := Tryz.isAgg5
  z5 := Tryz.sizeOf5
  v5 := Tryz.zeroValue5
  t9 := Tryz.underlying9
  a9 := Tryz.isAgg9
  z9 := Tryz.sizeOf9
  v9 := Tryz.zeroValue9
  t20 := Tryz.underlying20
  a20 := Tryz.isAgg20
  z20 := Tryz.sizeOf20
  v20 := Tryz.zeroValue20
  t21 := Tryz.underlying21
  a21 := Tryz.isAgg21
  z21 := Tryz.sizeOf21
  v21 := Tryz.zeroValue21
  t37 := Tryz.underlying64
  a37 := Tryz.isAgg64
  z37 := Tryz.sizeOf64
  v37 := Tryz.zeroValue64
  t46 := Tryz.underlying220
  a46 := Tryz.isAgg220
  z46 := Tryz.sizeOf220
  v46 := Tryz.zeroValue220
  t51 := Tryz.underlying288
  a51 := Tryz.isAgg288
  z51 := Tryz.sizeOf288
  v51 := Tryz.zeroValue288
  t53 := Tryz.underlying27
  a53 := Tryz.isAgg27
  z53 := Tryz.sizeOf27
  v53 := Tryz.zeroValue27
  t75 := Tryz.underlying112
  a75 := Tryz.isAgg112
  z75 := Tryz.sizeOf112
  v75 := Tryz.zeroValue112
  t76 := Tryz.underlying143
  a76 := Tryz.isAgg143
  z76 := Tryz.sizeOf143
  v76 := Tryz.zeroValue143
  t85 := Tryz.underlying113
  a85 := Tryz.isAgg113
  z85 := Tryz.sizeOf113
  v85 := Tryz.zeroValue113
  t127 := Tryz.underlying214
  a127 := Tryz.isAgg214
  z127 := Tryz.sizeOf214
  v127 := Tryz.zeroValue214
  t143 := Tryz.underlying363
  a143 := Tryz.isAgg363
  z143 := Tryz.sizeOf363
  v143 := Tryz.zeroValue363
  t145 := Tryz.underlying365
  a145 := Tryz.isAgg365
  z145 := Tryz.sizeOf365
  v145 := Tryz.zeroValue365
  t167 := Tryz.underlying219
  a167 := Tryz.isAgg219
  z167 := Tryz.sizeOf219
  v167 := Tryz.zeroValue219
  t168 := Tryz.underlying221
  a168 := Tryz.isAgg221
  z168 := Tryz.sizeOf221
  v168 := Tryz.zeroValue221
  t171 := Tryz.underlying209
  a171 := Tryz.isAgg209
  z171 := Tryz.sizeOf209
  v171 := Tryz.zeroValue209
  t173 := Tryz.underlying212
  a173 := Tryz.isAgg212
  z173 := Tryz.sizeOf212
  v173 := Tryz.zeroValue212
  t175 := Tryz.underlying115
  a175 := Tryz.isAgg115
  z175 := Tryz.sizeOf115
  v175 := Tryz.zeroValue115
  t210 := Tryz.underlying303
  a210 := Tryz.isAgg303
  z210 := Tryz.sizeOf303
  v210 := Tryz.zeroValue303
  t212 := Tryz.underlying295
  a212 := Tryz.isAgg295
  z212 := Tryz.sizeOf295
  v212 := Tryz.zeroValue295
  t213 := Tryz.underlying296
  a213 := Tryz.isAgg296
  z213 := Tryz.sizeOf296
  t232 := Tryz.underlying403
  a232 := Tryz.isAgg403
  z232 := Tryz.sizeOf403
  v232 := Tryz.zeroValue403
  t233 := Tryz.underlying404
  a233 := Tryz.isAgg404
  z233 := Tryz.sizeOf404
  v233 := Tryz.zeroValue404
  g15 := by kernel_rfl
  g16 := by kernel_rfl
  g17 := by kernel_rfl
  g18 := by kernel_rfl
  g19 := by kernel_rfl
  t80 := Tryz.underlying145
  a80 := Tryz.isAgg145
  z80 := Tryz.sizeOf145
  v80 := Tryz.zeroValue145
  i0 := by kernel_rfl
  i2 := by kernel_rfl
  i3 := by kernel_rfl
  i4 := by kernel_rfl
  i5 := by kernel_rfl
  i9 := by kernel_rfl
  i20 := by kernel_rfl
  i21 := by kernel_rfl
  i37 := by kernel_rfl
  i46 := by kernel_rfl
  i51 := by kernel_rfl
  i53 := by kernel_rfl
  i75 := by kernel_rfl
  i76 := by kernel_rfl
  i80 := by kernel_rfl
  i85 := by kernel_rfl
  i127 := by kernel_rfl
  i143 := by kernel_rfl
  i145 := by kernel_rfl
  i167 := by kernel_rfl
  i168 := by kernel_rfl
  i171 := by kernel_rfl
  i173 := by kernel_rfl
  i175 := by kernel_rfl
  i210 := by kernel_rfl
  i212 := by kernel_rfl
  i232 := by kernel_rfl
  i233 := by kernel_rfl
  m15 := by kernel_rfl
  m16 := by kernel_rfl
  m17 := by kernel_rfl
  m18 := by kernel_rfl
  m19 := by kernel_rfl
  c0 := by kernel_rfl
  c2 := by kernel_rfl
  c3 := by kernel_rfl
  c4 := by kernel_rfl
  c5 := by kernel_rfl
  c9 := by kernel_rfl
  c20 := by kernel_rfl
  c21 := by kernel_rfl
  c37 := by kernel_rfl
  c46 := by kernel_rfl
  c51 := by kernel_rfl
  c53 := by kernel_rfl
  c75 := by kernel_rfl
  c76 := by kernel_rfl
  c80 := by kernel_rfl
  c85 := by kernel_rfl
  c127 := by kernel_rfl
  c143 := by kernel_rfl
  c145 := by kernel_rfl
  c167 := by kernel_rfl
  c168 := by kernel_rfl
  c171 := by kernel_rfl
  c173 := by kernel_rfl
  c175 := by kernel_rfl
  c210 := by kernel_rfl
  c212 := by kernel_rfl
  c213 := by kernel_rfl
  c232 := by kernel_rfl
  c233 := by kernel_rfl }
theorem contains_ok (a b : ByteArray) (r : Bool) (ha : a.size < 4294967281) (hb : b.size < 4294967281) (h1 : (a.data.toList.all fun b => decide (b.toNat < 128)) = true) (h2 : (b.data.toList.all fun b => decide (b.toNat < 128)) = true) (hr : Go.Lib.containsAny a.data.toList b.data.toList = r) : Pv.Fn Tryz.prog 262 [sV a, sV b] [] 0 (fun x o => x = bV r ∧ o = []) :=
  Fn.below (vs := [.string a, .string b]) (fun w => by subst hr; exact Go.Proofs.Any.strings_ContainsAny_laid lays150 (by kernel_rfl) a b w ha hb (ascii_of h1) (ascii_of h2))
theorem mclone_ok (b : Nat) (es : Array MapEntry) (clock : Nat) (w : World) (h : w.heap[b]? = some (.map es clock)) : Calls Tryz.prog 184 #[.map (some b)] w fun e w' => e = .returned (.map (some w.heap.size)) ∧ w' = w.alloc (.map es clock) := Go.Proofs.AnyW.maps_Clone laysMc b es clock w h
open Go.RowKit Go.Maps Go.Proofs in
theorem sorts_ok (m : Nat) : Go.Proofs.AnyZ.SortsIn Tryz.prog laysSorted_ren Fence.wide m :=
  ⟨fun blk off cap ss W hH hblk hsz => callsIn_wide.2 (Go.Proofs.Any.slices_Sort_string lays190 blk off cap ss W hH hblk hsz), fun p cap W => callsIn_wide.2 (Go.Proofs.Any.slices_Sort_string_none lays190 p cap W)⟩
open Go.RowKit Go.Maps Go.Proofs in
theorem sorted_ok (Bm b n : Nat) (D0 : DataW Unit) (R : Value → Option (DataW Unit × List MemPlace)) (w : World) (hlt : Bm < w.heap.size) (hc : w.cell? ⟨Bm, 0, none⟩ = some (.map (some b))) (hown : w.ownsMap Tryz.prog 9 R b n D0) (hs : Go.Maps.size D0 ≤ maxLen) (hs2 : Go.Maps.size D0 * 16 ≤ 140737488355328) :
    Calls Tryz.prog 84 #[.func (.func 137) #[] #[.pointer (some ⟨Bm, 0, none⟩)]] w fun e w' => ∃ (v : Value) (ss : List (List UInt8)), e = .returned v ∧ ss.Perm (strKeys D0) ∧ w'.ownsRow w.heap.size 9 1 v ss.length ((ss.mergeSort (fun x y => decide (x ≤ y))).map Go.Proofs.encStr) ∧ Go.RowKit.Below w.heap.size w w' := by
  have hseq : SeqGives Fence.wide 2 Tryz.prog 137 #[.pointer (some ⟨Bm, 0, none⟩)] Go.Proofs.encStr (fun ss => ss.Perm (strKeys D0)) (Go.Maps.size D0) w :=
    Go.Proofs.AnyZ.keys_gives (ρ := laysKeys_ren) laysKeys Fence.wide _ trivial rfl (by omega) Bm b n D0 w hlt hc hown
  have cS := Go.Proofs.AnyZ.sorted_in laysSorted Fence.wide 5 trivial trivial trivial trivial rfl (by omega) (sorts_ok _) (enters_of Tryz.func136 (by kernel_rfl) rfl) 137 #[.pointer (some ⟨Bm, 0, none⟩)] trivial (enters_of Tryz.func137 (by kernel_rfl) rfl) _ _ hs hs2 _ hseq
  change CallsIn _ _ Tryz.prog 84 _ _ _ at cS
  refine (callsIn_wide (n := 5)).1 (cS.mono ?_)
  rintro e w' ⟨v, ss, rfl, hS, hrow, hnil, hb⟩
  exact ⟨v, ss, rfl, hS, hrow, hb⟩
open Go.RowKit Go.Maps Go.Proofs in
theorem sortsI_ok (m : Nat) : Go.Proofs.AnyZI.SortsIn Tryz.prog laysSortedI_ren Fence.wide m :=
  ⟨fun blk off cap ss W hH hblk hsz => callsIn_wide.2 (Go.Proofs.Any.slices_Sort_int lays189 blk off cap ss W hH hblk hsz), fun p cap W => callsIn_wide.2 (Go.Proofs.Any.slices_Sort_int_none lays189 p cap W)⟩
open Go.RowKit Go.Maps Go.Proofs in
theorem sortednil_ok (Bm : Nat) (w : World) (hlt : Bm < w.heap.size) (hc : w.cell? ⟨Bm, 0, none⟩ = some (.map none)) :
    Calls Tryz.prog 100 #[.func (.func 174) #[] #[.pointer (some ⟨Bm, 0, none⟩)]] w fun e w' => e = .returned (.slice none 0 0) ∧ Go.RowKit.Below w.heap.size w w' := by
  have hseq : SeqGives Fence.wide 2 Tryz.prog 174 #[.pointer (some ⟨Bm, 0, none⟩)] encZ (fun ss : List Int => ss = []) 0 w :=
    Go.Proofs.AnyZI.keys_gives_nil (ρ := laysKeysI_ren) laysKeysI Fence.wide _ trivial rfl Bm w hlt hc
  have cS := Go.Proofs.AnyZI.sorted_in laysSortedI Fence.wide 5 trivial trivial trivial trivial rfl (by omega) (sortsI_ok _) (enters_of Tryz.func173 (by kernel_rfl) rfl) 174 #[.pointer (some ⟨Bm, 0, none⟩)] trivial (enters_of Tryz.func174 (by kernel_rfl) rfl) _ 0 (Nat.zero_le _) (by omega) _ hseq
  change CallsIn _ _ Tryz.prog 100 _ _ _ at cS
  refine (callsIn_wide (n := 5)).1 (cS.mono ?_)
  rintro e w' ⟨v, ss, rfl, rfl, hrow, hnil, hb⟩
  obtain rfl : v = .slice none 0 0 := hnil.2 rfl
  exact ⟨rfl, hb⟩
open Go.RowKit in
theorem atoi_bad (s : ByteArray) (hl : s.size ≤ 18) (h : Go.Lib.atoi s.data.toList = none) : Pv.Fn Tryz.prog 87 [sV s] [] 0 (fun x o => x = .tup [.top, .top] ∧ o = []) :=
  Fn.belowTop2 (vs := [.string s]) (fun w I M hg => by
    obtain ⟨tp, p, hc⟩ := cell_if hg (g := 5) (by kernel_rfl)
    refine (Go.Proofs.Any.strconv_Atoi_err lays172 s hl h (.iface tp p) w hc (.inr ⟨tp, p, rfl⟩)).mono ?_
    rintro e w' ⟨N, rfl, _, _, hb⟩
    exact ⟨_, _, rfl, hb⟩)
theorem sort0 : sortB [] = [] := by simp [sortB]
theorem sort1 (x : ByteArray) : sortB [x] = [x] := by simp [sortB]
theorem cx1_New : Pv.Fn Tryz.prog 35 [iV .i64 65536] [] 0 (fun x o => x = .tup [.ptr 2 0 0, iV .i64 0] ∧ o = [(0, some (.gmap [] [] [] 0)), (1, some (.gmap [] [] [] 0)), (2, some (.box 126 [iV .i64 65536, .mown 0, .mown 1, iV .i64 (-1), iV .i64 0, bV false]))]) := by
  refine Fn.bodyK [0, 1, 2] Tryz.func35 rfl rfl (fun Γ hP hn => ?_)
  have hm : Tryz.prog.follows .mixedOrders = true := by kernel_rfl
  replace hn : Γ.n = 15 := hn
  refine sO hP hn hm [] [] [0] [] [] ?_
  refine AWp.seq ?_
  refine sO hP hn hm [] [(9, bV false)] [0, 9] [] [] ?_
  refine AWp.cond false (by kernel_rfl) (fun h => nomatch h) (fun _ => ?_)
  refine AWp.skip ?_
  show AWp Γ _ _ _
  refine sO hP hn hm [(1, .more (xMkG 0)), (2, .more (xMkG 1)), (4, .k 2)] [(2, .ptr 2 0 0), (3, iV .i64 0)] [2, 3] [(0, some (.gmap [] [] [] 0)), (1, some (.gmap [] [] [] 0)), (2, some (.box 126 [iV .i64 65536, .mown 0, .mown 1, iV .i64 (-1), iV .i64 0, bV false]))] [0, 1, 2] ?_
  refine AWp.ret ?_
  exact rl (.inl rfl) rfl (by kernel_rfl) (by kernel_rfl)
theorem cx2_Down : Pv.Fn Tryz.prog 54 [.ptr 0 0 0] [(0, some (.box 126 [iV .i64 65536, .mown 1, .mown 2, iV .i64 (-1), iV .i64 0, bV false])), (1, some (.gmap [] [] [] 0)), (2, some (.gmap [] [] [] 0))] 3 (fun x o => x = bV false ∧ o = [(0, some (.box 126 [iV .i64 65536, .mown 1, .mown 2, iV .i64 (-1), iV .i64 0, bV false])), (1, some (.gmap [] [] [] 0)), (2, some (.gmap [] [] [] 0))]) := by
  refine Fn.bodyK [0, 1, 2] Tryz.func54 rfl rfl (fun Γ hP hn => ?_)
  have hm : Tryz.prog.follows .mixedOrders = true := by kernel_rfl
  replace hn : Γ.n = 11 := hn
  refine sO hP hn hm [] [] [0] [] [0, 1, 2] ?_
  refine sR hP hn hm [(1, .more (xPtrNil true))] [(2, bV false)] [2] [] [0, 1, 2] [true = !false] ⟨rfl, trivial⟩ ?_
  refine AWp.ret ?_
  exact rl (.inl rfl) rfl (by kernel_rfl) (by kernel_rfl)
theorem cx3_Keys : Pv.Fn Tryz.prog 85 [.mown 0] [(0, some (.gmap [] [] [] 0))] 1 (fun x o => x = .fn 137 [.ptr 1 0 0] ∧ o = [(0, some (.gmap [] [] [] 0)), (1, some (.box 124 [.mown 0]))]) := by
  refine Fn.bodyK [0, 1] Tryz.func85 rfl rfl (fun Γ hP hn => ?_)
  have hm : Tryz.prog.follows .mixedOrders = true := by kernel_rfl
  replace hn : Γ.n = 4 := hn
  refine sO hP hn hm [(0, .k 1)] [(1, .ptr 1 0 0)] [1] [(1, some (.box 124 [.mown 0]))] [0, 1] ?_
  refine sO hP hn hm [(0, .more xFunc)] [(2, .fn 137 [.ptr 1 0 0])] [2] [] [0, 1] ?_
  refine AWp.ret ?_
  exact rl (.inl rfl) rfl (by kernel_rfl) (by kernel_rfl)
theorem cx4_Names : Pv.Fn Tryz.prog 55 [.ptr 0 0 0] [(0, some (.box 126 [iV .i64 65536, .mown 1, .mown 2, iV .i64 (-1), iV .i64 0, bV false])), (1, some (.gmap [] [] [] 0)), (2, some (.gmap [] [] [] 0))] 3 (fun x o => x = .own 4 ∧ o = [(0, some (.box 126 [iV .i64 65536, .mown 1, .mown 2, iV .i64 (-1), iV .i64 0, bV false])), (1, some (.gmap [] [] [] 0)), (2, some (.gmap [] [] [] 0)), (4, some (.row 1 9 []))]) := by
  refine Fn.bodyK [0, 1, 2, 4] Tryz.func55 rfl rfl (fun Γ hP hn => ?_)
  have hm : Tryz.prog.follows .mixedOrders = true := by kernel_rfl
  replace hn : Γ.n = 17 := hn
  refine sO hP hn hm [] [] [0] [] [0, 1, 2] ?_
  refine AWp.seq ?_
  refine sR hP hn hm [(1, .more (xPtrNil false))] [(10, bV false)] [0, 10] [] [0, 1, 2] [false = false] ⟨rfl, trivial⟩ ?_
  refine AWp.cond false (by kernel_rfl) (fun h => nomatch h) (fun _ => ?_)
  refine AWp.skip ?_
  show AWp Γ _ _ _
  refine sR hP hn hm [(4, .callz [(1, 0)] [(0, 1), (1, 3)] [] [3] 1 (.fn 137 [.ptr 1 0 0]) [(0, some (.gmap [] [] [] 0)), (1, some (.box 124 [.mown 0]))]), (5, .callz [(3, 0), (1, 1)] [(0, 3), (1, 1), (2, 4)] [] [4] 2 (.own 2) [(0, some (.box 124 [.mown 1])), (1, some (.gmap [] [] [] 0)), (2, some (.row 1 9 []))])] [(2, .own 4)] [2] [(4, some (.row 1 9 []))] [0, 1, 2, 4] [_, _, _, _] ⟨Tryz.call85, cx3_Keys, Tryz.call84, Fn.sortedG (T := 124) (by kernel_rfl) sorted_ok ([] : List (ByteArray × AVal)) (by decide) (by decide) (by simp) ([] : List ByteArray) sort0 [] [] [] 0 rfl rfl [] 2 (by decide) (by kernel_rfl) (fun q o h => by cases h) (by kernel_rfl) [] rfl, trivial⟩ ?_
  refine AWp.ret ?_
  exact rl (.inl rfl) rfl (by kernel_rfl) (by kernel_rfl)
theorem cx5_sweep : Pv.Fn Tryz.prog 58 [.ptr 0 0 0] [(0, some (.box 129 [.ptr 1 0 0, iV .i64 0, .none0, .none0, .mown 4, iV .i64 (-1), iV .i64 0, iV .i64 0])), (1, some (.box 126 [iV .i64 65536, .mown 2, .mown 3, iV .i64 (-1), iV .i64 0, bV false])), (2, some (.gmap [] [] [] 0)), (3, some (.gmap [] [] [] 0)), (4, some (.gmap [] [] [] 0))] 5 (fun x o => x = .tup [] ∧ o = [(0, some (.box 129 [.ptr 1 0 0, iV .i64 0, .none0, .none0, .mown 4, iV .i64 (-1), iV .i64 0, iV .i64 0])), (1, some (.box 126 [iV .i64 65536, .mown 2, .mown 3, iV .i64 (-1), iV .i64 0, bV false])), (2, some (.gmap [] [] [] 0)), (3, some (.gmap [] [] [] 0)), (4, some (.gmap [] [] [] 0))]) := by
  refine Fn.bodyK [0, 1, 2, 3, 4] Tryz.func58 rfl rfl (fun Γ hP hn => ?_)
  have hm : Tryz.prog.follows .mixedOrders = true := by kernel_rfl
  replace hn : Γ.n = 55 := hn
  refine sR hP hn hm [(4, .callz [(1, 0), (2, 1), (3, 2)] [(0, 1), (1, 2), (2, 3), (4, 5)] [] [5] 3 (.own 4) [(0, some (.box 126 [iV .i64 65536, .mown 1, .mown 2, iV .i64 (-1), iV .i64 0, bV false])), (1, some (.gmap [] [] [] 0)), (2, some (.gmap [] [] [] 0)), (4, some (.row 1 9 []))])] [(10, .own 5), (11, iV .i64 0), (12, iV .i64 0)] [0, 10, 11, 12] [(5, some (.row 1 9 []))] [0, 1, 2, 3, 4, 5] [_, _] ⟨Tryz.call55, cx4_Names, trivial⟩ ?_
  refine AWp.block ?_
  refine AWp.loop ?_
  refine LWp.round ?_
  refine sO hP hn hm [] [(13, bV false)] [0, 10, 11, 12, 13] [] [0, 1, 2, 3, 4, 5] ?_
  refine AWp.seq ?_
  refine AWp.cond false (by kernel_rfl) (fun h => nomatch h) (fun _ => ?_)
  refine AWp.exit ?_
  exact rl (.inr rfl) rfl (by kernel_rfl) (by kernel_rfl)
theorem cx6_Sound : Pv.Fn Tryz.prog 150 [.agg [iV .i64 0, .none0, .none0]] [] 0 (fun x o => x = bV true ∧ o = []) := by
  refine Fn.bodyK [] Tryz.func150 rfl rfl (fun Γ hP hn => ?_)
  have hm : Tryz.prog.follows .mixedOrders = true := by kernel_rfl
  replace hn : Γ.n = 157 := hn
  refine sO hP hn hm [(0, .k 0)] [(1, .ptr 0 0 0)] [1] [(0, some (.box 92 [iV .i64 0, .none0, .none0]))] [0] ?_
  refine AWp.seq ?_
  refine sO hP hn hm [] [(28, bV false)] [1, 28] [] [0] ?_
  refine AWp.cond false (by kernel_rfl) (fun h => nomatch h) (fun _ => ?_)
  refine AWp.skip ?_
  show AWp Γ _ _ _
  refine AWp.seq ?_
  refine sO hP hn hm [] [(30, .none0), (31, iV .i64 0), (32, iV .i64 0)] [1, 30, 31, 32] [] [0] ?_
  refine AWp.block ?_
  refine AWp.loop ?_
  refine LWp.round ?_
  refine sO hP hn hm [] [(33, bV false)] [1, 30, 31, 32, 33] [] [0] ?_
  refine AWp.seq ?_
  refine AWp.cond false (by kernel_rfl) (fun h => nomatch h) (fun _ => ?_)
  refine AWp.exit ?_
  show AWp Γ _ _ _
  refine AWp.seq ?_
  refine sO hP hn hm [] [(59, .none0), (60, iV .i64 0), (61, iV .i64 0)] [1, 59, 60, 61] [] [0] ?_
  refine AWp.block ?_
  refine AWp.loop ?_
  refine LWp.round ?_
  refine sO hP hn hm [] [(62, bV false)] [1, 59, 60, 61, 62] [] [0] ?_
  refine AWp.seq ?_
  refine AWp.cond false (by kernel_rfl) (fun h => nomatch h) (fun _ => ?_)
  refine AWp.exit ?_
  show AWp Γ _ _ _
  refine sO hP hn hm [] [(2, bV true)] [2] [] [] ?_
  refine AWp.ret ?_
  exact rl (.inl rfl) rfl (by kernel_rfl) (by kernel_rfl)
theorem cx7_classes : Pv.Fn Tryz.prog 241 [] [] 0 (fun x o => x = .own 0 ∧ o = [(0, some (.row 1 3 [[iI .i64 0], [iI .i64 3], [iI .i64 7], [iI .i64 12], [iI .i64 20], [iI .i64 32], [iI .i64 64]]))]) := by
  refine Fn.bodyK [0] Tryz.func241 rfl rfl (fun Γ hP hn => ?_)
  have hm : Tryz.prog.follows .mixedOrders = true := by kernel_rfl
  replace hn : Γ.n = 2 := hn
  refine sO hP hn hm [] [] [] [] [] ?_
  refine sR hP hn hm [(0, .app 0 [[iI .i64 0], [iI .i64 3], [iI .i64 7], [iI .i64 12], [iI .i64 20], [iI .i64 32], [iI .i64 64]])] [(0, .own 0)] [0] [(0, some (.row 1 3 [[iI .i64 0], [iI .i64 3], [iI .i64 7], [iI .i64 12], [iI .i64 20], [iI .i64 32], [iI .i64 64]]))] [0] [([[iI .i64 0], [iI .i64 3], [iI .i64 7], [iI .i64 12], [iI .i64 20], [iI .i64 32], [iI .i64 64]] : List (List Im)) = [[iI .i64 0], [iI .i64 3], [iI .i64 7], [iI .i64 12], [iI .i64 20], [iI .i64 32], [iI .i64 64]]] ⟨rfl, trivial⟩ ?_
  refine AWp.ret ?_
  exact rl (.inl rfl) rfl (by kernel_rfl) (by kernel_rfl)
theorem cx8_long : Pv.Fn Tryz.prog 243 [iV .u64 0] [] 0 (fun x o => x = iV .i64 0 ∧ o = []) := by
  refine Fn.bodyK [] Tryz.func243 rfl rfl (fun Γ hP hn => ?_)
  have hm : Tryz.prog.follows .mixedOrders = true := by kernel_rfl
  replace hn : Γ.n = 11 := hn
  refine sO hP hn hm [] [] [0] [] [] ?_
  refine sO hP hn hm [] [(3, iV .i64 0)] [0, 3] [] [] ?_
  refine AWp.seq ?_
  refine AWp.block ?_
  refine AWp.loop ?_
  refine LWp.round ?_
  refine AWp.seq ?_
  refine sO hP hn hm [] [(5, bV false)] [0, 3, 5] [] [] ?_
  refine AWp.cond false (by kernel_rfl) (fun h => nomatch h) (fun _ => ?_)
  refine AWp.exit ?_
  show AWp Γ _ _ _
  refine sO hP hn hm [] [(2, iV .i64 0)] [2] [] [] ?_
  refine AWp.ret ?_
  exact rl (.inl rfl) rfl (by kernel_rfl) (by kernel_rfl)
theorem cx9_isNaN : Pv.Fn Tryz.prog 131 [iV .i64 12] [] 0 (fun x o => x = bV false ∧ o = []) := by
  refine Fn.bodyK [] Tryz.func131 rfl rfl (fun Γ hP hn => ?_)
  have hm : Tryz.prog.follows .mixedOrders = true := by kernel_rfl
  replace hn : Γ.n = 6 := hn
  refine sO hP hn hm [] [] [0] [] [] ?_
  refine sO hP hn hm [] [(2, bV false)] [2] [] [] ?_
  refine AWp.ret ?_
  exact rl (.inl rfl) rfl (by kernel_rfl) (by kernel_rfl)
theorem cx10_Less : Pv.Fn Tryz.prog 292 [iV .i64 12, iV .i64 0] [] 0 (fun x o => x = bV false ∧ o = []) := by
  refine Fn.bodyK [] Tryz.func292 rfl rfl (fun Γ hP hn => ?_)
  have hm : Tryz.prog.follows .mixedOrders = true := by kernel_rfl
  replace hn : Γ.n = 17 := hn
  refine sO hP hn hm [] [] [0, 1] [] [] ?_
  refine sR hP hn hm [(1, .callz [] [] [] [] 0 (bV false) [])] [(4, bV false)] [4] [] [] [_, _] ⟨Tryz.call131, cx9_isNaN, trivial⟩ ?_
  refine AWp.ret ?_
  exact rl (.inl rfl) rfl (by kernel_rfl) (by kernel_rfl)
theorem cx11_isNaN : Pv.Fn Tryz.prog 131 [iV .i64 3] [] 0 (fun x o => x = bV false ∧ o = []) := by
  refine Fn.bodyK [] Tryz.func131 rfl rfl (fun Γ hP hn => ?_)
  have hm : Tryz.prog.follows .mixedOrders = true := by kernel_rfl
  replace hn : Γ.n = 6 := hn
  refine sO hP hn hm [] [] [0] [] [] ?_
  refine sO hP hn hm [] [(2, bV false)] [2] [] [] ?_
  refine AWp.ret ?_
  exact rl (.inl rfl) rfl (by kernel_rfl) (by kernel_rfl)
theorem cx12_Less : Pv.Fn Tryz.prog 292 [iV .i64 3, iV .i64 0] [] 0 (fun x o => x = bV false ∧ o = []) := by
  refine Fn.bodyK [] Tryz.func292 rfl rfl (fun Γ hP hn => ?_)
  have hm : Tryz.prog.follows .mixedOrders = true := by kernel_rfl
  replace hn : Γ.n = 17 := hn
  refine sO hP hn hm [] [] [0, 1] [] [] ?_
  refine sR hP hn hm [(1, .callz [] [] [] [] 0 (bV false) [])] [(4, bV false)] [4] [] [] [_, _] ⟨Tryz.call131, cx11_isNaN, trivial⟩ ?_
  refine AWp.ret ?_
  exact rl (.inl rfl) rfl (by kernel_rfl) (by kernel_rfl)
theorem cx13_isNaN : Pv.Fn Tryz.prog 131 [iV .i64 0] [] 0 (fun x o => x = bV false ∧ o = []) := by
  refine Fn.bodyK [] Tryz.func131 rfl rfl (fun Γ hP hn => ?_)
  have hm : Tryz.prog.follows .mixedOrders = true := by kernel_rfl
  replace hn : Γ.n = 6 := hn
  refine sO hP hn hm [] [] [0] [] [] ?_
  refine sO hP hn hm [] [(2, bV false)] [2] [] [] ?_
  refine AWp.ret ?_
  exact rl (.inl rfl) rfl (by kernel_rfl) (by kernel_rfl)
theorem cx14_Less : Pv.Fn Tryz.prog 292 [iV .i64 0, iV .i64 0] [] 0 (fun x o => x = bV false ∧ o = []) := by
  refine Fn.bodyK [] Tryz.func292 rfl rfl (fun Γ hP hn => ?_)
  have hm : Tryz.prog.follows .mixedOrders = true := by kernel_rfl
  replace hn : Γ.n = 17 := hn
  refine sO hP hn hm [] [] [0, 1] [] [] ?_
  refine sR hP hn hm [(1, .callz [] [] [] [] 0 (bV false) [])] [(4, bV false)] [4] [] [] [_, _] ⟨Tryz.call131, cx13_isNaN, trivial⟩ ?_
  refine AWp.ret ?_
  exact rl (.inl rfl) rfl (by kernel_rfl) (by kernel_rfl)
theorem cx15_BinarySearch : Pv.Fn Tryz.prog 242 [.own 0, iV .i64 0] [(0, some (.row 1 3 [[iI .i64 0], [iI .i64 3], [iI .i64 7], [iI .i64 12], [iI .i64 20], [iI .i64 32], [iI .i64 64]]))] 1 (fun x o => x = .tup [iV .i64 0, bV true] ∧ o = [(0, some (.row 1 3 [[iI .i64 0], [iI .i64 3], [iI .i64 7], [iI .i64 12], [iI .i64 20], [iI .i64 32], [iI .i64 64]]))]) := by
  refine Fn.bodyK [0] Tryz.func242 rfl rfl (fun Γ hP hn => ?_)
  have hm : Tryz.prog.follows .mixedOrders = true := by kernel_rfl
  replace hn : Γ.n = 54 := hn
  refine sO hP hn hm [] [] [0, 1] [] [0] ?_
  refine sO hP hn hm [] [(6, iV .i64 7)] [0, 1, 6] [] [0] ?_
  refine sO hP hn hm [] [(7, iV .i64 0), (8, iV .i64 7)] [0, 1, 6, 7, 8] [] [0] ?_
  refine AWp.seq ?_
  refine AWp.block ?_
  refine AWp.loop ?_
  refine LWp.round ?_
  refine AWp.seq ?_
  refine sO hP hn hm [] [(15, bV true)] [0, 1, 6, 7, 8, 15] [] [0] ?_
  refine AWp.cond true (by kernel_rfl) (fun _ => ?_) (fun h => nomatch h)
  refine AWp.skip ?_
  show AWp Γ _ _ _
  refine AWp.block ?_
  refine sR hP hn hm [] [(9, iV .i64 3)] [0, 1, 6, 7, 8, 9] [] [0] [(0 : Int) ≤ 1] ⟨by decide, trivial⟩ ?_
  refine sR hP hn hm [(3, .c [iI .i64 12]), (5, .callz [] [] [] [] 0 (bV false) [])] [(27, bV false)] [0, 1, 6, 7, 8, 9, 27] [] [0] [(0 : Int) ≤ 3, (3 : Int) < ((([[iI .i64 0], [iI .i64 3], [iI .i64 7], [iI .i64 12], [iI .i64 20], [iI .i64 32], [iI .i64 64]] : List (List Im)).length : Nat) : Int), ([[iI .i64 0], [iI .i64 3], [iI .i64 7], [iI .i64 12], [iI .i64 20], [iI .i64 32], [iI .i64 64]] : List (List Im))[3]? = some [iI .i64 12], _, _] ⟨by decide, by decide, rfl, Tryz.call292, cx10_Less, trivial⟩ ?_
  refine AWp.cond false (by kernel_rfl) (fun h => nomatch h) (fun _ => ?_)
  refine rO hP hn hm [] [(8, iV .i64 3)] [0, 1, 6, 7, 8] [] [0] ?_
  show LWp Γ _ _ _
  refine LWp.round ?_
  refine AWp.seq ?_
  refine sO hP hn hm [] [(15, bV true)] [0, 1, 6, 7, 8, 15] [] [0] ?_
  refine AWp.cond true (by kernel_rfl) (fun _ => ?_) (fun h => nomatch h)
  refine AWp.skip ?_
  show AWp Γ _ _ _
  refine AWp.block ?_
  refine sR hP hn hm [] [(9, iV .i64 1)] [0, 1, 6, 7, 8, 9] [] [0] [(0 : Int) ≤ 1] ⟨by decide, trivial⟩ ?_
  refine sR hP hn hm [(3, .c [iI .i64 3]), (5, .callz [] [] [] [] 0 (bV false) [])] [(27, bV false)] [0, 1, 6, 7, 8, 9, 27] [] [0] [(0 : Int) ≤ 1, (1 : Int) < ((([[iI .i64 0], [iI .i64 3], [iI .i64 7], [iI .i64 12], [iI .i64 20], [iI .i64 32], [iI .i64 64]] : List (List Im)).length : Nat) : Int), ([[iI .i64 0], [iI .i64 3], [iI .i64 7], [iI .i64 12], [iI .i64 20], [iI .i64 32], [iI .i64 64]] : List (List Im))[1]? = some [iI .i64 3], _, _] ⟨by decide, by decide, rfl, Tryz.call292, cx12_Less, trivial⟩ ?_
  refine AWp.cond false (by kernel_rfl) (fun h => nomatch h) (fun _ => ?_)
  refine rO hP hn hm [] [(8, iV .i64 1)] [0, 1, 6, 7, 8] [] [0] ?_
  show LWp Γ _ _ _
  refine LWp.round ?_
  refine AWp.seq ?_
  refine sO hP hn hm [] [(15, bV true)] [0, 1, 6, 7, 8, 15] [] [0] ?_
  refine AWp.cond true (by kernel_rfl) (fun _ => ?_) (fun h => nomatch h)
  refine AWp.skip ?_
  show AWp Γ _ _ _
  refine AWp.block ?_
  refine sR hP hn hm [] [(9, iV .i64 0)] [0, 1, 6, 7, 8, 9] [] [0] [(0 : Int) ≤ 1] ⟨by decide, trivial⟩ ?_
  refine sR hP hn hm [(3, .c [iI .i64 0]), (5, .callz [] [] [] [] 0 (bV false) [])] [(27, bV false)] [0, 1, 6, 7, 8, 9, 27] [] [0] [(0 : Int) ≤ 0, (0 : Int) < ((([[iI .i64 0], [iI .i64 3], [iI .i64 7], [iI .i64 12], [iI .i64 20], [iI .i64 32], [iI .i64 64]] : List (List Im)).length : Nat) : Int), ([[iI .i64 0], [iI .i64 3], [iI .i64 7], [iI .i64 12], [iI .i64 20], [iI .i64 32], [iI .i64 64]] : List (List Im))[0]? = some [iI .i64 0], _, _] ⟨by decide, by decide, rfl, Tryz.call292, cx14_Less, trivial⟩ ?_
  refine AWp.cond false (by kernel_rfl) (fun h => nomatch h) (fun _ => ?_)
  refine rO hP hn hm [] [(8, iV .i64 0)] [0, 1, 6, 7, 8] [] [0] ?_
  show LWp Γ _ _ _
  refine LWp.round ?_
  refine AWp.seq ?_
  refine sO hP hn hm [] [(15, bV false)] [0, 1, 6, 7, 8, 15] [] [0] ?_
  refine AWp.cond false (by kernel_rfl) (fun h => nomatch h) (fun _ => ?_)
  refine AWp.exit ?_
  show AWp Γ _ _ _
  refine sR hP hn hm [(8, .c [iI .i64 0])] [(4, iV .i64 0), (5, bV true)] [4, 5] [] [0] [(0 : Int) ≤ 0, (0 : Int) < ((([[iI .i64 0], [iI .i64 3], [iI .i64 7], [iI .i64 12], [iI .i64 20], [iI .i64 32], [iI .i64 64]] : List (List Im)).length : Nat) : Int), ([[iI .i64 0], [iI .i64 3], [iI .i64 7], [iI .i64 12], [iI .i64 20], [iI .i64 32], [iI .i64 64]] : List (List Im))[0]? = some [iI .i64 0]] ⟨by decide, by decide, rfl, trivial⟩ ?_
  refine AWp.ret ?_
  exact rl (.inl rfl) rfl (by kernel_rfl) (by kernel_rfl)
theorem cx16_Bit : Pv.Fn Tryz.prog 244 [.ptr 0 0 0, bV false] [(0, some (.box 267 [.none0, iV .u64 0]))] 1 (fun x o => x = .tup [] ∧ o = [(0, some (.box 267 [.im (.row [[iI .u8 0]]), iV .u64 7]))]) := by
  refine Fn.bodyK [0] Tryz.func244 rfl rfl (fun Γ hP hn => ?_)
  have hm : Tryz.prog.follows .mixedOrders = true := by kernel_rfl
  replace hn : Γ.n = 48 := hn
  refine AWp.seq ?_
  refine sO hP hn hm [] [(8, bV true)] [0, 1, 8] [] [0] ?_
  refine AWp.cond true (by kernel_rfl) (fun _ => ?_) (fun h => nomatch h)
  refine sR hP hn hm [(5, .app 1 [[iI .u8 0]]), (6, .app 2 [[iI .u8 0]])] [] [0, 1] [(0, some (.box 267 [.own 2, iV .u64 0])), (2, some (.row 1 5 [[iI .u8 0]]))] [0, 2] [([[iI .u8 0]] : List (List Im)) = [[iI .u8 0]], [[iI .u8 0]] = ([] : List (List Im)) ++ ([[iI .u8 0]] : List (List Im)), ∀ c ∈ ([[iI .u8 0]] : List (List Im)), c.length = 1, ∀ c ∈ ([[iI .u8 0]] : List (List Im)), leaves (c.map .im) = true, (([] : List (List Im)).length + ([[iI .u8 0]] : List (List Im)).length) * 1 ≤ 140737488355328] ⟨rfl, rfl, by simp, by decide, by decide, trivial⟩ ?_
  refine AWp.conv (inv := [(0, 0)]) (vk := [2]) (e0 := []) (t := ⟨[(0, .ptr 0 0 0), (1, bV false)], [(0, some (.box 267 [.im (.row [[iI .u8 0]]), iV .u64 0]))], 1⟩) (by kernel_rfl) ?_
  refine rO hP hn hm [] [] [0, 1] [(0, some (.box 267 [.im (.row [[iI .u8 0]]), iV .u64 8]))] [0] ?_
  show AWp Γ _ _ _
  refine sO hP hn hm [] [] [0, 1] [(0, some (.box 267 [.im (.row [[iI .u8 0]]), iV .u64 7]))] [0] ?_
  refine sO hP hn hm [] [(28, bV false)] [0, 28] [] [0] ?_
  refine AWp.cond false (by kernel_rfl) (fun h => nomatch h) (fun _ => ?_)
  refine AWp.skip ?_
  exact rl (.inr rfl) rfl (by kernel_rfl) (by kernel_rfl)
theorem cx17_Put : Pv.Fn Tryz.prog 245 [.ptr 0 0 0, iV .u64 0, iV .i64 0] [(0, some (.box 267 [.im (.row [[iI .u8 0]]), iV .u64 7]))] 1 (fun x o => x = .tup [] ∧ o = [(0, some (.box 267 [.im (.row [[iI .u8 0]]), iV .u64 7]))]) := by
  refine Fn.bodyK [0] Tryz.func245 rfl rfl (fun Γ hP hn => ?_)
  have hm : Tryz.prog.follows .mixedOrders = true := by kernel_rfl
  replace hn : Γ.n = 23 := hn
  refine sO hP hn hm [(1, .more xMin), (2, .more xMax)] [(6, iV .i64 (-1))] [0, 1, 6] [] [0] ?_
  refine AWp.block ?_
  refine AWp.loop ?_
  refine LWp.round ?_
  refine AWp.seq ?_
  refine sO hP hn hm [] [(12, bV false)] [0, 1, 6, 12] [] [0] ?_
  refine AWp.cond false (by kernel_rfl) (fun h => nomatch h) (fun _ => ?_)
  refine AWp.exit ?_
  exact rl (.inr rfl) rfl (by kernel_rfl) (by kernel_rfl)
theorem cx18_Count : Pv.Fn Tryz.prog 167 [.ptr 0 0 0, iV .u64 0] [(0, some (.box 267 [.none0, iV .u64 0]))] 1 (fun x o => x = .tup [] ∧ o = [(0, some (.box 267 [.im (.row [[iI .u8 0]]), iV .u64 7]))]) := by
  refine Fn.bodyK [0] Tryz.func167 rfl rfl (fun Γ hP hn => ?_)
  have hm : Tryz.prog.follows .mixedOrders = true := by kernel_rfl
  replace hn : Γ.n = 35 := hn
  refine sR hP hn hm [(0, .callz [] [(0, 1)] [] [1] 0 (.own 0) [(0, some (.row 1 3 [[iI .i64 0], [iI .i64 3], [iI .i64 7], [iI .i64 12], [iI .i64 20], [iI .i64 32], [iI .i64 64]]))])] [(4, .own 1)] [0, 1, 4] [(1, some (.row 1 3 [[iI .i64 0], [iI .i64 3], [iI .i64 7], [iI .i64 12], [iI .i64 20], [iI .i64 32], [iI .i64 64]]))] [0, 1] [_, _] ⟨Tryz.call241, cx7_classes, trivial⟩ ?_
  refine sR hP hn hm [(2, .callz [] [] [] [] 0 (iV .i64 0) []), (3, .callz [(1, 0)] [(0, 1)] [] [] 1 (.tup [iV .i64 0, bV true]) [(0, some (.row 1 3 [[iI .i64 0], [iI .i64 3], [iI .i64 7], [iI .i64 12], [iI .i64 20], [iI .i64 32], [iI .i64 64]]))])] [(5, iV .i64 0)] [0, 1, 4, 5] [] [0, 1] [_, _, _, _] ⟨Tryz.call243, cx8_long, Tryz.call242, cx15_BinarySearch, trivial⟩ ?_
  refine AWp.seq ?_
  refine sO hP hn hm [] [(15, iV .i64 0), (16, iV .i64 0)] [0, 1, 4, 5, 15, 16] [] [0, 1] ?_
  refine AWp.block ?_
  refine AWp.loop ?_
  refine LWp.round ?_
  refine sO hP hn hm [] [(17, bV false)] [0, 1, 4, 5, 15, 16, 17] [] [0, 1] ?_
  refine AWp.seq ?_
  refine AWp.cond false (by kernel_rfl) (fun h => nomatch h) (fun _ => ?_)
  refine AWp.exit ?_
  show AWp Γ _ _ _
  refine AWp.seq ?_
  refine sO hP hn hm [] [(25, bV true)] [0, 1, 4, 5, 25] [] [0, 1] ?_
  refine AWp.cond true (by kernel_rfl) (fun _ => ?_) (fun h => nomatch h)
  refine rG hP hn hm [(1, .callz [(0, 0)] [(0, 0)] [] [] 1 (.tup []) [(0, some (.box 267 [.im (.row [[iI .u8 0]]), iV .u64 7]))])] [] [0, 1, 4, 5] [(0, some (.box 267 [.im (.row [[iI .u8 0]]), iV .u64 7]))] [0, 1] [_, _] ⟨Tryz.call244, cx16_Bit, trivial⟩ ?_
  show AWp Γ _ _ _
  refine rG hP hn hm [(5, .c [iI .i64 0]), (6, .callz [(0, 0)] [(0, 0)] [] [] 1 (.tup []) [(0, some (.box 267 [.im (.row [[iI .u8 0]]), iV .u64 7]))])] [] [] [] [0] [(0 : Int) ≤ 0, (0 : Int) < ((([[iI .i64 0], [iI .i64 3], [iI .i64 7], [iI .i64 12], [iI .i64 20], [iI .i64 32], [iI .i64 64]] : List (List Im)).length : Nat) : Int), ([[iI .i64 0], [iI .i64 3], [iI .i64 7], [iI .i64 12], [iI .i64 20], [iI .i64 32], [iI .i64 64]] : List (List Im))[0]? = some [iI .i64 0], _, _] ⟨by decide, by decide, rfl, Tryz.call245, cx17_Put, trivial⟩ ?_
  exact rl (.inr rfl) rfl (by kernel_rfl) (by kernel_rfl)
theorem cx19_Bit : Pv.Fn Tryz.prog 244 [.ptr 0 0 0, bV false] [(0, some (.box 267 [.im (.row [[iI .u8 0]]), iV .u64 7]))] 1 (fun x o => x = .tup [] ∧ o = [(0, some (.box 267 [.im (.row [[iI .u8 0]]), iV .u64 6]))]) := by
  refine Fn.bodyK [0] Tryz.func244 rfl rfl (fun Γ hP hn => ?_)
  have hm : Tryz.prog.follows .mixedOrders = true := by kernel_rfl
  replace hn : Γ.n = 48 := hn
  refine AWp.seq ?_
  refine sO hP hn hm [] [(8, bV false)] [0, 1, 8] [] [0] ?_
  refine AWp.cond false (by kernel_rfl) (fun h => nomatch h) (fun _ => ?_)
  refine AWp.skip ?_
  show AWp Γ _ _ _
  refine sO hP hn hm [] [] [0, 1] [(0, some (.box 267 [.im (.row [[iI .u8 0]]), iV .u64 6]))] [0] ?_
  refine sO hP hn hm [] [(28, bV false)] [0, 28] [] [0] ?_
  refine AWp.cond false (by kernel_rfl) (fun h => nomatch h) (fun _ => ?_)
  refine AWp.skip ?_
  exact rl (.inr rfl) rfl (by kernel_rfl) (by kernel_rfl)
theorem cx20_Put : Pv.Fn Tryz.prog 245 [.ptr 0 0 0, iV .u64 0, iV .i64 0] [(0, some (.box 267 [.im (.row [[iI .u8 0]]), iV .u64 6]))] 1 (fun x o => x = .tup [] ∧ o = [(0, some (.box 267 [.im (.row [[iI .u8 0]]), iV .u64 6]))]) := by
  refine Fn.bodyK [0] Tryz.func245 rfl rfl (fun Γ hP hn => ?_)
  have hm : Tryz.prog.follows .mixedOrders = true := by kernel_rfl
  replace hn : Γ.n = 23 := hn
  refine sO hP hn hm [(1, .more xMin), (2, .more xMax)] [(6, iV .i64 (-1))] [0, 1, 6] [] [0] ?_
  refine AWp.block ?_
  refine AWp.loop ?_
  refine LWp.round ?_
  refine AWp.seq ?_
  refine sO hP hn hm [] [(12, bV false)] [0, 1, 6, 12] [] [0] ?_
  refine AWp.cond false (by kernel_rfl) (fun h => nomatch h) (fun _ => ?_)
  refine AWp.exit ?_
  exact rl (.inr rfl) rfl (by kernel_rfl) (by kernel_rfl)
theorem cx21_Count : Pv.Fn Tryz.prog 167 [.ptr 0 0 0, iV .u64 0] [(0, some (.box 267 [.im (.row [[iI .u8 0]]), iV .u64 7]))] 1 (fun x o => x = .tup [] ∧ o = [(0, some (.box 267 [.im (.row [[iI .u8 0]]), iV .u64 6]))]) := by
  refine Fn.bodyK [0] Tryz.func167 rfl rfl (fun Γ hP hn => ?_)
  have hm : Tryz.prog.follows .mixedOrders = true := by kernel_rfl
  replace hn : Γ.n = 35 := hn
  refine sR hP hn hm [(0, .callz [] [(0, 1)] [] [1] 0 (.own 0) [(0, some (.row 1 3 [[iI .i64 0], [iI .i64 3], [iI .i64 7], [iI .i64 12], [iI .i64 20], [iI .i64 32], [iI .i64 64]]))])] [(4, .own 1)] [0, 1, 4] [(1, some (.row 1 3 [[iI .i64 0], [iI .i64 3], [iI .i64 7], [iI .i64 12], [iI .i64 20], [iI .i64 32], [iI .i64 64]]))] [0, 1] [_, _] ⟨Tryz.call241, cx7_classes, trivial⟩ ?_
  refine sR hP hn hm [(2, .callz [] [] [] [] 0 (iV .i64 0) []), (3, .callz [(1, 0)] [(0, 1)] [] [] 1 (.tup [iV .i64 0, bV true]) [(0, some (.row 1 3 [[iI .i64 0], [iI .i64 3], [iI .i64 7], [iI .i64 12], [iI .i64 20], [iI .i64 32], [iI .i64 64]]))])] [(5, iV .i64 0)] [0, 1, 4, 5] [] [0, 1] [_, _, _, _] ⟨Tryz.call243, cx8_long, Tryz.call242, cx15_BinarySearch, trivial⟩ ?_
  refine AWp.seq ?_
  refine sO hP hn hm [] [(15, iV .i64 0), (16, iV .i64 0)] [0, 1, 4, 5, 15, 16] [] [0, 1] ?_
  refine AWp.block ?_
  refine AWp.loop ?_
  refine LWp.round ?_
  refine sO hP hn hm [] [(17, bV false)] [0, 1, 4, 5, 15, 16, 17] [] [0, 1] ?_
  refine AWp.seq ?_
  refine AWp.cond false (by kernel_rfl) (fun h => nomatch h) (fun _ => ?_)
  refine AWp.exit ?_
  show AWp Γ _ _ _
  refine AWp.seq ?_
  refine sO hP hn hm [] [(25, bV true)] [0, 1, 4, 5, 25] [] [0, 1] ?_
  refine AWp.cond true (by kernel_rfl) (fun _ => ?_) (fun h => nomatch h)
  refine rG hP hn hm [(1, .callz [(0, 0)] [(0, 0)] [] [] 1 (.tup []) [(0, some (.box 267 [.im (.row [[iI .u8 0]]), iV .u64 6]))])] [] [0, 1, 4, 5] [(0, some (.box 267 [.im (.row [[iI .u8 0]]), iV .u64 6]))] [0, 1] [_, _] ⟨Tryz.call244, cx19_Bit, trivial⟩ ?_
  show AWp Γ _ _ _
  refine rG hP hn hm [(5, .c [iI .i64 0]), (6, .callz [(0, 0)] [(0, 0)] [] [] 1 (.tup []) [(0, some (.box 267 [.im (.row [[iI .u8 0]]), iV .u64 6]))])] [] [] [] [0] [(0 : Int) ≤ 0, (0 : Int) < ((([[iI .i64 0], [iI .i64 3], [iI .i64 7], [iI .i64 12], [iI .i64 20], [iI .i64 32], [iI .i64 64]] : List (List Im)).length : Nat) : Int), ([[iI .i64 0], [iI .i64 3], [iI .i64 7], [iI .i64 12], [iI .i64 20], [iI .i64 32], [iI .i64 64]] : List (List Im))[0]? = some [iI .i64 0], _, _] ⟨by decide, by decide, rfl, Tryz.call245, cx20_Put, trivial⟩ ?_
  exact rl (.inr rfl) rfl (by kernel_rfl) (by kernel_rfl)
theorem cx22_Bit : Pv.Fn Tryz.prog 244 [.ptr 0 0 0, bV false] [(0, some (.box 267 [.im (.row [[iI .u8 0]]), iV .u64 6]))] 1 (fun x o => x = .tup [] ∧ o = [(0, some (.box 267 [.im (.row [[iI .u8 0]]), iV .u64 5]))]) := by
  refine Fn.bodyK [0] Tryz.func244 rfl rfl (fun Γ hP hn => ?_)
  have hm : Tryz.prog.follows .mixedOrders = true := by kernel_rfl
  replace hn : Γ.n = 48 := hn
  refine AWp.seq ?_
  refine sO hP hn hm [] [(8, bV false)] [0, 1, 8] [] [0] ?_
  refine AWp.cond false (by kernel_rfl) (fun h => nomatch h) (fun _ => ?_)
  refine AWp.skip ?_
  show AWp Γ _ _ _
  refine sO hP hn hm [] [] [0, 1] [(0, some (.box 267 [.im (.row [[iI .u8 0]]), iV .u64 5]))] [0] ?_
  refine sO hP hn hm [] [(28, bV false)] [0, 28] [] [0] ?_
  refine AWp.cond false (by kernel_rfl) (fun h => nomatch h) (fun _ => ?_)
  refine AWp.skip ?_
  exact rl (.inr rfl) rfl (by kernel_rfl) (by kernel_rfl)
theorem cx23_Put : Pv.Fn Tryz.prog 245 [.ptr 0 0 0, iV .u64 0, iV .i64 0] [(0, some (.box 267 [.im (.row [[iI .u8 0]]), iV .u64 5]))] 1 (fun x o => x = .tup [] ∧ o = [(0, some (.box 267 [.im (.row [[iI .u8 0]]), iV .u64 5]))]) := by
  refine Fn.bodyK [0] Tryz.func245 rfl rfl (fun Γ hP hn => ?_)
  have hm : Tryz.prog.follows .mixedOrders = true := by kernel_rfl
  replace hn : Γ.n = 23 := hn
  refine sO hP hn hm [(1, .more xMin), (2, .more xMax)] [(6, iV .i64 (-1))] [0, 1, 6] [] [0] ?_
  refine AWp.block ?_
  refine AWp.loop ?_
  refine LWp.round ?_
  refine AWp.seq ?_
  refine sO hP hn hm [] [(12, bV false)] [0, 1, 6, 12] [] [0] ?_
  refine AWp.cond false (by kernel_rfl) (fun h => nomatch h) (fun _ => ?_)
  refine AWp.exit ?_
  exact rl (.inr rfl) rfl (by kernel_rfl) (by kernel_rfl)
theorem cx24_Count : Pv.Fn Tryz.prog 167 [.ptr 0 0 0, iV .u64 0] [(0, some (.box 267 [.im (.row [[iI .u8 0]]), iV .u64 6]))] 1 (fun x o => x = .tup [] ∧ o = [(0, some (.box 267 [.im (.row [[iI .u8 0]]), iV .u64 5]))]) := by
  refine Fn.bodyK [0] Tryz.func167 rfl rfl (fun Γ hP hn => ?_)
  have hm : Tryz.prog.follows .mixedOrders = true := by kernel_rfl
  replace hn : Γ.n = 35 := hn
  refine sR hP hn hm [(0, .callz [] [(0, 1)] [] [1] 0 (.own 0) [(0, some (.row 1 3 [[iI .i64 0], [iI .i64 3], [iI .i64 7], [iI .i64 12], [iI .i64 20], [iI .i64 32], [iI .i64 64]]))])] [(4, .own 1)] [0, 1, 4] [(1, some (.row 1 3 [[iI .i64 0], [iI .i64 3], [iI .i64 7], [iI .i64 12], [iI .i64 20], [iI .i64 32], [iI .i64 64]]))] [0, 1] [_, _] ⟨Tryz.call241, cx7_classes, trivial⟩ ?_
  refine sR hP hn hm [(2, .callz [] [] [] [] 0 (iV .i64 0) []), (3, .callz [(1, 0)] [(0, 1)] [] [] 1 (.tup [iV .i64 0, bV true]) [(0, some (.row 1 3 [[iI .i64 0], [iI .i64 3], [iI .i64 7], [iI .i64 12], [iI .i64 20], [iI .i64 32], [iI .i64 64]]))])] [(5, iV .i64 0)] [0, 1, 4, 5] [] [0, 1] [_, _, _, _] ⟨Tryz.call243, cx8_long, Tryz.call242, cx15_BinarySearch, trivial⟩ ?_
  refine AWp.seq ?_
  refine sO hP hn hm [] [(15, iV .i64 0), (16, iV .i64 0)] [0, 1, 4, 5, 15, 16] [] [0, 1] ?_
  refine AWp.block ?_
  refine AWp.loop ?_
  refine LWp.round ?_
  refine sO hP hn hm [] [(17, bV false)] [0, 1, 4, 5, 15, 16, 17] [] [0, 1] ?_
  refine AWp.seq ?_
  refine AWp.cond false (by kernel_rfl) (fun h => nomatch h) (fun _ => ?_)
  refine AWp.exit ?_
  show AWp Γ _ _ _
  refine AWp.seq ?_
  refine sO hP hn hm [] [(25, bV true)] [0, 1, 4, 5, 25] [] [0, 1] ?_
  refine AWp.cond true (by kernel_rfl) (fun _ => ?_) (fun h => nomatch h)
  refine rG hP hn hm [(1, .callz [(0, 0)] [(0, 0)] [] [] 1 (.tup []) [(0, some (.box 267 [.im (.row [[iI .u8 0]]), iV .u64 5]))])] [] [0, 1, 4, 5] [(0, some (.box 267 [.im (.row [[iI .u8 0]]), iV .u64 5]))] [0, 1] [_, _] ⟨Tryz.call244, cx22_Bit, trivial⟩ ?_
  show AWp Γ _ _ _
  refine rG hP hn hm [(5, .c [iI .i64 0]), (6, .callz [(0, 0)] [(0, 0)] [] [] 1 (.tup []) [(0, some (.box 267 [.im (.row [[iI .u8 0]]), iV .u64 5]))])] [] [] [] [0] [(0 : Int) ≤ 0, (0 : Int) < ((([[iI .i64 0], [iI .i64 3], [iI .i64 7], [iI .i64 12], [iI .i64 20], [iI .i64 32], [iI .i64 64]] : List (List Im)).length : Nat) : Int), ([[iI .i64 0], [iI .i64 3], [iI .i64 7], [iI .i64 12], [iI .i64 20], [iI .i64 32], [iI .i64 64]] : List (List Im))[0]? = some [iI .i64 0], _, _] ⟨by decide, by decide, rfl, Tryz.call245, cx23_Put, trivial⟩ ?_
  exact rl (.inr rfl) rfl (by kernel_rfl) (by kernel_rfl)
theorem cx25_Bytes : Pv.Fn Tryz.prog 171 [.ptr 0 0 0] [(0, some (.box 267 [.im (.row [[iI .u8 0]]), iV .u64 5]))] 1 (fun x o => x = .own 1 ∧ o = [(0, some (.box 267 [.im (.row [[iI .u8 0]]), iV .u64 5])), (1, some (.row 1 5 [[iI .u8 0]]))]) := by
  refine Fn.bodyK [0, 1] Tryz.func171 rfl rfl (fun Γ hP hn => ?_)
  have hm : Tryz.prog.follows .mixedOrders = true := by kernel_rfl
  replace hn : Γ.n = 8 := hn
  refine sO hP hn hm [] [] [0] [] [0] ?_
  refine sR hP hn hm [(4, .call [] [(0, 1)] [] [1] 0 (.own 0) [(0, some (.row 1 5 (([0] : List Int).map (encInt .u8))))])] [(2, .own 1)] [2] [(1, some (.row 1 5 [[iI .u8 0]]))] [0, 1] [_, _] ⟨Tryz.call141, f_slices_Clone_byte.ok ([0] : List Int) ([0] : List Int) (by kernel_rfl), trivial⟩ ?_
  refine AWp.ret ?_
  exact rl (.inl rfl) rfl (by kernel_rfl) (by kernel_rfl)
theorem cx26_Store : Pv.Fn Tryz.prog 99 [.agg [iV .i64 0, .none0, .none0]] [] 0 (fun x o => x = .tup [.own 2, iV .i64 0] ∧ o = [(2, some (.row 1 5 [[iI .u8 0]]))]) := by
  refine Fn.bodyK [2] Tryz.func99 rfl rfl (fun Γ hP hn => ?_)
  have hm : Tryz.prog.follows .mixedOrders = true := by kernel_rfl
  replace hn : Γ.n = 70 := hn
  refine sO hP hn hm [(0, .k 0)] [(1, .ptr 0 0 0)] [1] [(0, some (.box 92 [iV .i64 0, .none0, .none0]))] [0] ?_
  refine AWp.seq ?_
  refine sR hP hn hm [(1, .callz [] [] [] [] 0 (bV true) [])] [(11, bV false)] [1, 11] [] [0] [_, _] ⟨Tryz.call150, cx6_Sound, trivial⟩ ?_
  refine AWp.cond false (by kernel_rfl) (fun h => nomatch h) (fun _ => ?_)
  refine AWp.skip ?_
  show AWp Γ _ _ _
  refine sO hP hn hm [(1, .k 1)] [(4, .ptr 1 0 0)] [1, 4] [(1, some (.box 267 [.none0, iV .u64 0]))] [0, 1] ?_
  refine sR hP hn hm [(4, .callz [(1, 0)] [(0, 1)] [] [] 1 (.tup []) [(0, some (.box 267 [.im (.row [[iI .u8 0]]), iV .u64 7]))])] [] [1, 4] [(1, some (.box 267 [.im (.row [[iI .u8 0]]), iV .u64 7]))] [0, 1] [_, _] ⟨Tryz.call167, cx18_Count, trivial⟩ ?_
  refine sR hP hn hm [(5, .callz [(1, 0)] [(0, 1)] [] [] 1 (.tup []) [(0, some (.box 267 [.im (.row [[iI .u8 0]]), iV .u64 6]))])] [] [1, 4] [(1, some (.box 267 [.im (.row [[iI .u8 0]]), iV .u64 6]))] [0, 1] [_, _] ⟨Tryz.call167, cx21_Count, trivial⟩ ?_
  refine AWp.seq ?_
  refine sO hP hn hm [] [(26, .none0), (27, iV .i64 0), (28, iV .i64 0)] [1, 4, 26, 27, 28] [] [0, 1] ?_
  refine AWp.block ?_
  refine AWp.loop ?_
  refine LWp.round ?_
  refine sO hP hn hm [] [(29, bV false)] [1, 4, 26, 27, 28, 29] [] [0, 1] ?_
  refine AWp.seq ?_
  refine AWp.cond false (by kernel_rfl) (fun h => nomatch h) (fun _ => ?_)
  refine AWp.exit ?_
  show AWp Γ _ _ _
  refine sR hP hn hm [(5, .callz [(1, 0)] [(0, 1)] [] [] 1 (.tup []) [(0, some (.box 267 [.im (.row [[iI .u8 0]]), iV .u64 5]))])] [] [1, 4] [(1, some (.box 267 [.im (.row [[iI .u8 0]]), iV .u64 5]))] [0, 1] [_, _] ⟨Tryz.call167, cx24_Count, trivial⟩ ?_
  refine AWp.seq ?_
  refine sO hP hn hm [] [(44, .none0), (45, iV .i64 0), (46, iV .i64 0)] [4, 44, 45, 46] [] [1] ?_
  refine AWp.block ?_
  refine AWp.loop ?_
  refine LWp.round ?_
  refine sO hP hn hm [] [(47, bV false)] [4, 44, 45, 46, 47] [] [1] ?_
  refine AWp.seq ?_
  refine AWp.cond false (by kernel_rfl) (fun h => nomatch h) (fun _ => ?_)
  refine AWp.exit ?_
  show AWp Γ _ _ _
  refine sR hP hn hm [(1, .callz [(1, 0)] [(0, 1), (1, 2)] [] [2] 1 (.own 1) [(0, some (.box 267 [.im (.row [[iI .u8 0]]), iV .u64 5])), (1, some (.row 1 5 [[iI .u8 0]]))])] [(2, .own 2), (3, iV .i64 0)] [2, 3] [(2, some (.row 1 5 [[iI .u8 0]]))] [2] [_, _] ⟨Tryz.call171, cx25_Bytes, trivial⟩ ?_
  refine AWp.ret ?_
  exact rl (.inl rfl) rfl (by kernel_rfl) (by kernel_rfl)
theorem cx27_Keys : Pv.Fn Tryz.prog 101 [.im (.sc (.map none))] [] 0 (fun x o => x = .fn 174 [.ptr 0 0 0] ∧ o = [(0, some (.box 127 [.im (.sc (.map none))]))]) := by
  refine Fn.bodyK [0] Tryz.func101 rfl rfl (fun Γ hP hn => ?_)
  have hm : Tryz.prog.follows .mixedOrders = true := by kernel_rfl
  replace hn : Γ.n = 4 := hn
  refine sO hP hn hm [(0, .k 0)] [(1, .ptr 0 0 0)] [1] [(0, some (.box 127 [.im (.sc (.map none))]))] [0] ?_
  refine sO hP hn hm [(0, .more xFunc)] [(2, .fn 174 [.ptr 0 0 0])] [2] [] [0] ?_
  refine AWp.ret ?_
  exact rl (.inl rfl) rfl (by kernel_rfl) (by kernel_rfl)
theorem cx28_Four : Pv.Fn Tryz.prog 185 [iV .u32 1] [] 0 (fun x o => x = .own 0 ∧ o = [(0, some (.row 1 5 [[iI .u8 1], [iI .u8 0], [iI .u8 0], [iI .u8 0]]))]) := by
  refine Fn.bodyK [0] Tryz.func185 rfl rfl (fun Γ hP hn => ?_)
  have hm : Tryz.prog.follows .mixedOrders = true := by kernel_rfl
  replace hn : Γ.n = 15 := hn
  refine sO hP hn hm [] [] [0] [] [] ?_
  refine sR hP hn hm [(11, .app 0 [[iI .u8 1], [iI .u8 0], [iI .u8 0], [iI .u8 0]])] [(2, .own 0)] [2] [(0, some (.row 1 5 [[iI .u8 1], [iI .u8 0], [iI .u8 0], [iI .u8 0]]))] [0] [(0 : Int) ≤ 8, (0 : Int) ≤ 16, (0 : Int) ≤ 24, ([[iI .u8 1], [iI .u8 0], [iI .u8 0], [iI .u8 0]] : List (List Im)) = [[iI .u8 1], [iI .u8 0], [iI .u8 0], [iI .u8 0]]] ⟨by decide, by decide, by decide, rfl, trivial⟩ ?_
  refine AWp.ret ?_
  exact rl (.inl rfl) rfl (by kernel_rfl) (by kernel_rfl)
theorem cx29_Four : Pv.Fn Tryz.prog 185 [iV .u32 4215463597] [] 0 (fun x o => x = .own 0 ∧ o = [(0, some (.row 1 5 [[iI .u8 173], [iI .u8 222], [iI .u8 66], [iI .u8 251]]))]) := by
  refine Fn.bodyK [0] Tryz.func185 rfl rfl (fun Γ hP hn => ?_)
  have hm : Tryz.prog.follows .mixedOrders = true := by kernel_rfl
  replace hn : Γ.n = 15 := hn
  refine sO hP hn hm [] [] [0] [] [] ?_
  refine sR hP hn hm [(11, .app 0 [[iI .u8 173], [iI .u8 222], [iI .u8 66], [iI .u8 251]])] [(2, .own 0)] [2] [(0, some (.row 1 5 [[iI .u8 173], [iI .u8 222], [iI .u8 66], [iI .u8 251]]))] [0] [(0 : Int) ≤ 8, (0 : Int) ≤ 16, (0 : Int) ≤ 24, ([[iI .u8 173], [iI .u8 222], [iI .u8 66], [iI .u8 251]] : List (List Im)) = [[iI .u8 173], [iI .u8 222], [iI .u8 66], [iI .u8 251]]] ⟨by decide, by decide, by decide, rfl, trivial⟩ ?_
  refine AWp.ret ?_
  exact rl (.inl rfl) rfl (by kernel_rfl) (by kernel_rfl)
theorem cx30_Seal : Pv.Fn Tryz.prog 105 [.im (.row [[iI .u8 0]])] [] 0 (fun x o => x = .own 5 ∧ o = [(5, some (.row 1 5 [[iI .u8 1], [iI .u8 0], [iI .u8 0], [iI .u8 0], [iI .u8 173], [iI .u8 222], [iI .u8 66], [iI .u8 251], [iI .u8 0]]))]) := by
  refine Fn.bodyK [5] Tryz.func105 rfl rfl (fun Γ hP hn => ?_)
  have hm : Tryz.prog.follows .mixedOrders = true := by kernel_rfl
  replace hn : Γ.n = 18 := hn
  refine sO hP hn hm [] [] [0] [] [] ?_
  refine sR hP hn hm [(3, .callz [] [(0, 0)] [] [0] 0 (.own 0) [(0, some (.row 1 5 [[iI .u8 1], [iI .u8 0], [iI .u8 0], [iI .u8 0]]))])] [(3, .own 0)] [0, 3] [(0, some (.row 1 5 [[iI .u8 1], [iI .u8 0], [iI .u8 0], [iI .u8 0]]))] [0] [_, _] ⟨Tryz.call185, cx28_Four, trivial⟩ ?_
  refine AWp.conv (inv := []) (vk := [0]) (e0 := []) (t := ⟨[(0, .im (.row [[iI .u8 0]])), (3, .im (.row [[iI .u8 1], [iI .u8 0], [iI .u8 0], [iI .u8 0]]))], [], 0⟩) (by kernel_rfl) ?_
  refine sR hP hn hm [(1, .app 1 [[iI .u8 1], [iI .u8 0], [iI .u8 0], [iI .u8 0]]), (4, .more (xFz (.app 2 [[.row [[iI .u8 1], [iI .u8 0], [iI .u8 0], [iI .u8 0]]], [.row [[iI .u8 0]]]]))), (5, .callz [] [] [] [] 0 (iV .u32 4215463597) []), (6, .callz [] [(0, 3)] [] [3] 0 (.own 0) [(0, some (.row 1 5 [[iI .u8 173], [iI .u8 222], [iI .u8 66], [iI .u8 251]]))]), (7, .app 4 [[iI .u8 1], [iI .u8 0], [iI .u8 0], [iI .u8 0], [iI .u8 173], [iI .u8 222], [iI .u8 66], [iI .u8 251]]), (9, .app 5 [[iI .u8 1], [iI .u8 0], [iI .u8 0], [iI .u8 0], [iI .u8 173], [iI .u8 222], [iI .u8 66], [iI .u8 251], [iI .u8 0]])] [(2, .own 5)] [2] [(5, some (.row 1 5 [[iI .u8 1], [iI .u8 0], [iI .u8 0], [iI .u8 0], [iI .u8 173], [iI .u8 222], [iI .u8 66], [iI .u8 251], [iI .u8 0]]))] [5] [[[iI .u8 1], [iI .u8 0], [iI .u8 0], [iI .u8 0]] = ([] : List (List Im)) ++ ([[iI .u8 1], [iI .u8 0], [iI .u8 0], [iI .u8 0]] : List (List Im)), ∀ c ∈ ([[iI .u8 1], [iI .u8 0], [iI .u8 0], [iI .u8 0]] : List (List Im)), c.length = 1, ∀ c ∈ ([[iI .u8 1], [iI .u8 0], [iI .u8 0], [iI .u8 0]] : List (List Im)), leaves (c.map .im) = true, (([] : List (List Im)).length + ([[iI .u8 1], [iI .u8 0], [iI .u8 0], [iI .u8 0]] : List (List Im)).length) * 1 ≤ 140737488355328, ([[.row [[iI .u8 1], [iI .u8 0], [iI .u8 0], [iI .u8 0]]], [.row [[iI .u8 0]]]] : List (List Im)) = [[.row [[iI .u8 1], [iI .u8 0], [iI .u8 0], [iI .u8 0]]], [.row [[iI .u8 0]]]], _, _, _, _, [[iI .u8 1], [iI .u8 0], [iI .u8 0], [iI .u8 0], [iI .u8 173], [iI .u8 222], [iI .u8 66], [iI .u8 251]] = ([[iI .u8 1], [iI .u8 0], [iI .u8 0], [iI .u8 0]] : List (List Im)) ++ ([[iI .u8 173], [iI .u8 222], [iI .u8 66], [iI .u8 251]] : List (List Im)), ∀ c ∈ ([[iI .u8 173], [iI .u8 222], [iI .u8 66], [iI .u8 251]] : List (List Im)), c.length = 1, ∀ c ∈ ([[iI .u8 173], [iI .u8 222], [iI .u8 66], [iI .u8 251]] : List (List Im)), leaves (c.map .im) = true, (([[iI .u8 1], [iI .u8 0], [iI .u8 0], [iI .u8 0]] : List (List Im)).length + ([[iI .u8 173], [iI .u8 222], [iI .u8 66], [iI .u8 251]] : List (List Im)).length) * 1 ≤ 140737488355328, [[iI .u8 1], [iI .u8 0], [iI .u8 0], [iI .u8 0], [iI .u8 173], [iI .u8 222], [iI .u8 66], [iI .u8 251], [iI .u8 0]] = ([[iI .u8 1], [iI .u8 0], [iI .u8 0], [iI .u8 0], [iI .u8 173], [iI .u8 222], [iI .u8 66], [iI .u8 251]] : List (List Im)) ++ ([[iI .u8 0]] : List (List Im)), ∀ c ∈ ([[iI .u8 0]] : List (List Im)), c.length = 1, ∀ c ∈ ([[iI .u8 0]] : List (List Im)), leaves (c.map .im) = true, (([[iI .u8 1], [iI .u8 0], [iI .u8 0], [iI .u8 0], [iI .u8 173], [iI .u8 222], [iI .u8 66], [iI .u8 251]] : List (List Im)).length + ([[iI .u8 0]] : List (List Im)).length) * 1 ≤ 140737488355328] ⟨rfl, by simp, by decide, by decide, rfl, Tryz.call186, f_sum_Of.ok ([[1, 0, 0, 0], [0]] : List (List Int)) 4215463597 (by kernel_rfl), Tryz.call185, cx29_Four, rfl, by simp, by decide, by decide, rfl, by simp, by decide, by decide, trivial⟩ ?_
  refine AWp.ret ?_
  exact rl (.inl rfl) rfl (by kernel_rfl) (by kernel_rfl)
theorem cx31_step : Pv.Fn Tryz.prog 166 [.ptr 0 0 0] [(0, some (.box 126 [iV .i64 65536, .mown 1, .mown 2, iV .i64 (-1), iV .i64 0, bV false])), (1, some (.gmap [] [] [] 0)), (2, some (.gmap [] [] [] 0))] 3 (fun x o => x = iV .i64 0 ∧ o = [(0, some (.box 126 [iV .i64 65536, .mown 1, .mown 2, iV .i64 (-1), iV .i64 1, bV false])), (1, some (.gmap [] [] [] 0)), (2, some (.gmap [] [] [] 0))]) := by
  refine Fn.bodyK [0, 1, 2] Tryz.func166 rfl rfl (fun Γ hP hn => ?_)
  have hm : Tryz.prog.follows .mixedOrders = true := by kernel_rfl
  replace hn : Γ.n = 39 := hn
  refine sO hP hn hm [] [] [0] [] [0, 1, 2] ?_
  refine AWp.seq ?_
  refine AWp.block ?_
  refine sR hP hn hm [(1, .more (xPtrNil false))] [(3, bV false)] [0, 3] [] [0, 1, 2] [false = false] ⟨rfl, trivial⟩ ?_
  refine AWp.cond false (by kernel_rfl) (fun h => nomatch h) (fun _ => ?_)
  refine sO hP hn hm [] [(6, bV false)] [0, 6] [] [0, 1, 2] ?_
  refine AWp.cond false (by kernel_rfl) (fun h => nomatch h) (fun _ => ?_)
  refine sO hP hn hm [] [(11, bV false)] [0, 11] [] [0, 1, 2] ?_
  refine AWp.cond false (by kernel_rfl) (fun h => nomatch h) (fun _ => ?_)
  refine AWp.skip ?_
  show AWp Γ _ _ _
  refine AWp.seq ?_
  refine sO hP hn hm [] [(24, bV false)] [0, 24] [] [0, 1, 2] ?_
  refine AWp.cond false (by kernel_rfl) (fun h => nomatch h) (fun _ => ?_)
  refine AWp.skip ?_
  show AWp Γ _ _ _
  refine sO hP hn hm [] [] [] [(0, some (.box 126 [iV .i64 65536, .mown 1, .mown 2, iV .i64 (-1), iV .i64 1, bV false]))] [0, 1, 2] ?_
  refine sO hP hn hm [] [(2, iV .i64 0)] [2] [] [0, 1, 2] ?_
  refine AWp.ret ?_
  exact rl (.inl rfl) rfl (by kernel_rfl) (by kernel_rfl)
theorem cx32_Name : Pv.Fn Tryz.prog 187 [sV (⟨#[110, 101, 119]⟩ : ByteArray)] [] 0 (fun x o => x = bV true ∧ o = []) := by
  refine Fn.bodyK [] Tryz.func187 rfl rfl (fun Γ hP hn => ?_)
  have hm : Tryz.prog.follows .mixedOrders = true := by kernel_rfl
  replace hn : Γ.n = 15 := hn
  refine sO hP hn hm [] [] [0] [] [] ?_
  refine sR hP hn hm [(9, .callz [] [] [] [] 0 (bV false) [])] [(2, bV true)] [2] [] [] [_, _] ⟨Tryz.call262, contains_ok (⟨#[110, 101, 119]⟩ : ByteArray) (⟨#[47, 0]⟩ : ByteArray) false (by decide) (by decide) (by decide) (by decide) (by kernel_rfl), trivial⟩ ?_
  refine AWp.ret ?_
  exact rl (.inl rfl) rfl (by kernel_rfl) (by kernel_rfl)
theorem cx33_Used : Pv.Fn Tryz.prog 259 [.ptr 0 0 0] [(0, some (.box 126 [iV .i64 65536, .mown 1, .mown 2, iV .i64 (-1), iV .i64 1, bV false])), (1, some (.gmap [] [] [] 0)), (2, some (.gmap [] [] [] 0))] 3 (fun x o => x = iV .i64 0 ∧ o = [(0, some (.box 126 [iV .i64 65536, .mown 1, .mown 2, iV .i64 (-1), iV .i64 1, bV false])), (1, some (.gmap [] [] [] 0)), (2, some (.gmap [] [] [] 0))]) := by
  refine Fn.bodyK [0, 1, 2] Tryz.func259 rfl rfl (fun Γ hP hn => ?_)
  have hm : Tryz.prog.follows .mixedOrders = true := by kernel_rfl
  replace hn : Γ.n = 25 := hn
  refine sO hP hn hm [] [] [0] [] [0, 1, 2] ?_
  refine AWp.seq ?_
  refine sR hP hn hm [(1, .more (xPtrNil false))] [(7, bV false)] [0, 7] [] [0, 1, 2] [false = false] ⟨rfl, trivial⟩ ?_
  refine AWp.cond false (by kernel_rfl) (fun h => nomatch h) (fun _ => ?_)
  refine AWp.skip ?_
  show AWp Γ _ _ _
  refine sO hP hn hm [] [(3, iV .i64 0)] [0, 3] [] [0, 1, 2] ?_
  refine AWp.seq ?_
  refine sO hP hn hm [(4, .more (xRngG 3))] [(12, .ptr 3 0 0)] [3, 12] [(3, some (.iter (some 1) 0 []))] [0, 1, 2, 3] ?_
  refine AWp.block ?_
  refine AWp.loop ?_
  refine LWp.round ?_
  refine AWp.seq ?_
  refine AWp.nextG0 13 14 3 1 (n := 0) (sn := []) (ks := []) (xs := []) (bs := []) hP rfl rfl rfl rfl rfl rfl (by rw [hn]; decide) (by rw [hn]; decide) (by kernel_rfl) (by kernel_rfl) (by kernel_rfl) (by decide) ?_
  show AWp Γ _ _ _
  refine AWp.seq ?_
  refine AWp.cond false (by kernel_rfl) (fun h => nomatch h) (fun _ => ?_)
  refine AWp.exit ?_
  show AWp Γ _ _ _
  refine sO hP hn hm [] [(2, iV .i64 0)] [2] [] [0, 1, 2] ?_
  refine AWp.ret ?_
  exact rl (.inl rfl) rfl (by kernel_rfl) (by kernel_rfl)
theorem cln141 : Pv.Fn Tryz.prog 141 [.im (.row [])] [] 0 (fun x o => x = .own 0 ∧ o = [(0, some (.row 1 5 []))]) := by
  refine Fn.bodyK [0] Tryz.func141 rfl rfl (fun Γ hP hn => ?_)
  have hm : Tryz.prog.follows .mixedOrders = true := by kernel_rfl
  replace hn : Γ.n = 8 := hn
  refine AWp.seq ?_
  refine reg hP hn hm [] [0, 2] [] ⟨[(0, .im (.row [])), (2, .none0)], [], 0⟩ [] (by kernel_rfl) trivial ?_
  refine AWp.seq ?_
  refine AWp.nilSplit 0 rfl (fun b m => ?_)
  refine AWp.seq ?_
  cases b with
  | none =>
    refine reg hP hn hm [(1, .more xNil)] [2, 4] [] ⟨[(2, .none0), (4, bV true)], [], 0⟩ [] (by kernel_rfl) trivial ?_
    refine AWp.cond true rfl (fun _ => ?_) (fun h => nomatch h)
    refine AWp.seq ?_
    refine reg hP hn hm [] [2] [] ⟨[(2, .none0)], [], 0⟩ [] (by kernel_rfl) trivial ?_
    refine AWp.conv (inv := []) (vk := []) (e0 := [0]) (t := ⟨[(2, .own 0)], [(0, some (.row 1 5 []))], 0⟩) (by kernel_rfl) ?_
    refine AWp.ret ?_
    exact Exists.intro _ (And.intro (fun _ _ h => h) (And.intro (.inl rfl) (And.intro rfl (And.intro (by kernel_rfl) (by kernel_rfl)))))
  | some b =>
    refine reg hP hn hm [(1, .more xNil)] [0, 2, 4] [] ⟨[(0, .im (.sc (.slice (some b) 0 m))), (2, .none0), (4, bV false)], [], 0⟩ [] (by kernel_rfl) trivial ?_
    refine AWp.cond false rfl (fun h => nomatch h) (fun _ => ?_)
    refine AWp.skip ?_
    refine AWp.unsplit 0 rfl ?_
    refine AWp.seq ?_
    refine reg hP hn hm [(0, .app 0 ([] : List (List Im))), (2, .app 1 [])] [2] [1] ⟨[(2, .own 1)], [(1, some (.row 1 5 []))], 0⟩ [([] : List (List Im)) = [], ([] : List (List Im)) = ([] : List (List Im)) ++ [], ∀ c ∈ ([] : List (List Im)), c.length = 1, ∀ c ∈ ([] : List (List Im)), leaves (c.map .im) = true, (([] : List (List Im)).length + ([] : List (List Im)).length) * 1 ≤ 140737488355328] (by kernel_rfl) ⟨rfl, rfl, by simp, by simp, by decide, trivial⟩ ?_
    refine AWp.conv (inv := [(1, 0)]) (vk := []) (e0 := []) (t := ⟨[(2, .own 0)], [(0, some (.row 1 5 []))], 0⟩) (by kernel_rfl) ?_
    refine AWp.ret ?_
    exact Exists.intro _ (And.intro (fun _ _ h => h) (And.intro (.inl rfl) (And.intro rfl (And.intro (by kernel_rfl) (by kernel_rfl)))))
theorem cx34_Append : Pv.Fn Tryz.prog 182 [.ptr 0 0 0, sV (⟨#[110, 101, 119]⟩ : ByteArray), .own 3] [(0, some (.box 126 [iV .i64 65536, .mown 1, .mown 2, iV .i64 (-1), iV .i64 0, bV false])), (1, some (.gmap [] [] [] 0)), (2, some (.gmap [] [] [] 0)), (3, some (.row 1 5 [[iI .u8 1], [iI .u8 0], [iI .u8 0], [iI .u8 0], [iI .u8 173], [iI .u8 222], [iI .u8 66], [iI .u8 251], [iI .u8 0]]))] 4 (fun x o => x = iV .i64 0 ∧ o = [(0, some (.box 126 [iV .i64 65536, .mown 1, .mown 2, iV .i64 (-1), iV .i64 1, bV false])), (1, some (.gmap [Value.string ⟨#[110, 101, 119]⟩] [.ptr 4 0 0] [0] 1)), (2, some (.gmap [] [] [] 0)), (3, some (.row 1 5 [[iI .u8 1], [iI .u8 0], [iI .u8 0], [iI .u8 0], [iI .u8 173], [iI .u8 222], [iI .u8 66], [iI .u8 251], [iI .u8 0]])), (4, some (.box 231 [.im (.row [[iI .u8 1], [iI .u8 0], [iI .u8 0], [iI .u8 0], [iI .u8 173], [iI .u8 222], [iI .u8 66], [iI .u8 251], [iI .u8 0]]), iV .i64 0]))]) := by
  refine Fn.bodyK [0, 1, 2, 3, 4] Tryz.func182 rfl rfl (fun Γ hP hn => ?_)
  have hm : Tryz.prog.follows .mixedOrders = true := by kernel_rfl
  replace hn : Γ.n = 68 := hn
  refine sO hP hn hm [] [] [0, 1, 2] [] [0, 1, 2, 3] ?_
  refine AWp.seq ?_
  refine sR hP hn hm [(1, .callz [(0, 0), (1, 1), (2, 2)] [(0, 0), (1, 1), (2, 2)] [] [] 3 (iV .i64 0) [(0, some (.box 126 [iV .i64 65536, .mown 1, .mown 2, iV .i64 (-1), iV .i64 1, bV false])), (1, some (.gmap [] [] [] 0)), (2, some (.gmap [] [] [] 0))])] [(7, iV .i64 0)] [0, 1, 2, 7] [(0, some (.box 126 [iV .i64 65536, .mown 1, .mown 2, iV .i64 (-1), iV .i64 1, bV false]))] [0, 1, 2, 3] [_, _] ⟨Tryz.call166, cx31_step, trivial⟩ ?_
  refine sO hP hn hm [] [(12, bV false)] [0, 1, 2, 7, 12] [] [0, 1, 2, 3] ?_
  refine AWp.cond false (by kernel_rfl) (fun h => nomatch h) (fun _ => ?_)
  refine AWp.skip ?_
  show AWp Γ _ _ _
  refine sR hP hn hm [(5, .more (xLookG vkS ([] : List (ByteArray × AVal)) (⟨#[110, 101, 119]⟩ : ByteArray) (.im (.sc (.pointer none)))))] [(8, .im (.sc (.pointer none)))] [0, 1, 2, 8] [] [0, 1, 2, 3] [KeyOK Tryz.prog 9 vkS, ([] : List Value) = (([] : List (ByteArray × AVal))).map (fun p => vkS p.1), ([] : List AVal) = (([] : List (ByteArray × AVal))).map (·.2), valA (sV (⟨#[110, 101, 119]⟩ : ByteArray)) = some (vkS (⟨#[110, 101, 119]⟩ : ByteArray)), (mget ([] : List (ByteArray × AVal)) (⟨#[110, 101, 119]⟩ : ByteArray)).getD (.im (.sc (.pointer none))) = .im (.sc (.pointer none))] ⟨key_str (by kernel_rfl), rfl, rfl, rfl, by kernel_rfl, trivial⟩ ?_
  refine AWp.seq ?_
  refine AWp.block ?_
  refine sR hP hn hm [(1, .callz [] [] [] [] 0 (bV true) [])] [(20, bV false)] [0, 1, 2, 8, 20] [] [0, 1, 2, 3] [_, _] ⟨Tryz.call187, cx32_Name, trivial⟩ ?_
  refine AWp.cond false (by kernel_rfl) (fun h => nomatch h) (fun _ => ?_)
  refine sR hP hn hm [(1, .more (xCallQ [(0, 0), (1, 1), (2, 2)] 3 (iV .i64 0) [(0, some (.box 126 [iV .i64 65536, .mown 1, .mown 2, iV .i64 (-1), iV .i64 1, bV false])), (1, some (.gmap [] [] [] 0)), (2, some (.gmap [] [] [] 0))])), (12, .more (xPtrNil true)), (18, .more (xLenG 0))] [(24, bV false)] [0, 1, 2, 8, 24] [] [0, 1, 2, 3] [([(0, some (.box 126 [iV .i64 65536, .mown 1, .mown 2, iV .i64 (-1), iV .i64 1, bV false])), (1, some (.gmap [] [] [] 0)), (2, some (.gmap [] [] [] 0)), (0, none), (1, none), (2, none)] : List (Nat × Option MObj)) = [(0, some (.box 126 [iV .i64 65536, .mown 1, .mown 2, iV .i64 (-1), iV .i64 1, bV false])), (1, some (.gmap [] [] [] 0)), (2, some (.gmap [] [] [] 0)), (0, none), (1, none), (2, none)], _, _, true = true, (0 : Int) = (([] : List Value).length : Int)] ⟨rfl, Tryz.call259, cx33_Used, rfl, rfl, trivial⟩ ?_
  refine AWp.cond false (by kernel_rfl) (fun h => nomatch h) (fun _ => ?_)
  refine sR hP hn hm [(1, .more (xPtrNil true))] [(47, bV true)] [0, 1, 2, 8, 47] [] [0, 1, 2, 3] [true = true] ⟨rfl, trivial⟩ ?_
  refine AWp.cond true (by kernel_rfl) (fun _ => ?_) (fun h => nomatch h)
  refine sO hP hn hm [(1, .k 4)] [(8, .ptr 4 0 0)] [0, 1, 2, 8] [(4, some (.box 231 [.none0, iV .i64 0]))] [0, 1, 2, 3, 4] ?_
  refine rG hP hn hm [(6, .more (xPutG vkS ([] : List (ByteArray × AVal)) (⟨#[110, 101, 119]⟩ : ByteArray) (.ptr 4 0 0) false ([((⟨#[110, 101, 119]⟩ : ByteArray), .ptr 4 0 0)] : List (ByteArray × AVal))))] [] [2, 8] [(1, some (.gmap [Value.string ⟨#[110, 101, 119]⟩] [.ptr 4 0 0] [0] 1))] [0, 1, 2, 3, 4] [KeyOK Tryz.prog 9 vkS, ([] : List Value) = (([] : List (ByteArray × AVal))).map (fun p => vkS p.1), ([] : List AVal) = (([] : List (ByteArray × AVal))).map (·.2), valA (sV (⟨#[110, 101, 119]⟩ : ByteArray)) = some (vkS (⟨#[110, 101, 119]⟩ : ByteArray)), (.ptr 4 0 0 : AVal) = .ptr 4 0 0, (mget ([] : List (ByteArray × AVal)) (⟨#[110, 101, 119]⟩ : ByteArray)).isSome = false, mput ([] : List (ByteArray × AVal)) (⟨#[110, 101, 119]⟩ : ByteArray) (.ptr 4 0 0) = ([((⟨#[110, 101, 119]⟩ : ByteArray), .ptr 4 0 0)] : List (ByteArray × AVal)), ∀ a b : ByteArray, vkS a = vkS b → a = b] ⟨key_str (by kernel_rfl), rfl, rfl, rfl, rfl, by kernel_rfl, by kernel_rfl, vkS_inj, trivial⟩ ?_
  show AWp Γ _ _ _
  refine sR hP hn hm [(5, .call [] [(0, 5)] [] [5] 0 (.own 0) [(0, some (.row 1 5 []))]), (7, .app 6 [[iI .u8 1], [iI .u8 0], [iI .u8 0], [iI .u8 0], [iI .u8 173], [iI .u8 222], [iI .u8 66], [iI .u8 251], [iI .u8 0]])] [] [] [(4, some (.box 231 [.own 6, iV .i64 0])), (6, some (.row 1 5 [[iI .u8 1], [iI .u8 0], [iI .u8 0], [iI .u8 0], [iI .u8 173], [iI .u8 222], [iI .u8 66], [iI .u8 251], [iI .u8 0]]))] [0, 1, 2, 3, 4, 6] [_, _, [[iI .u8 1], [iI .u8 0], [iI .u8 0], [iI .u8 0], [iI .u8 173], [iI .u8 222], [iI .u8 66], [iI .u8 251], [iI .u8 0]] = ([] : List (List Im)) ++ ([[iI .u8 1], [iI .u8 0], [iI .u8 0], [iI .u8 0], [iI .u8 173], [iI .u8 222], [iI .u8 66], [iI .u8 251], [iI .u8 0]] : List (List Im)), ∀ c ∈ ([[iI .u8 1], [iI .u8 0], [iI .u8 0], [iI .u8 0], [iI .u8 173], [iI .u8 222], [iI .u8 66], [iI .u8 251], [iI .u8 0]] : List (List Im)), c.length = 1, ∀ c ∈ ([[iI .u8 1], [iI .u8 0], [iI .u8 0], [iI .u8 0], [iI .u8 173], [iI .u8 222], [iI .u8 66], [iI .u8 251], [iI .u8 0]] : List (List Im)), leaves (c.map .im) = true, (([] : List (List Im)).length + ([[iI .u8 1], [iI .u8 0], [iI .u8 0], [iI .u8 0], [iI .u8 173], [iI .u8 222], [iI .u8 66], [iI .u8 251], [iI .u8 0]] : List (List Im)).length) * 1 ≤ 140737488355328] ⟨Tryz.call141, cln141, rfl, by simp, by decide, by decide, trivial⟩ ?_
  refine AWp.conv (inv := [(0, 0), (1, 1), (2, 2), (3, 3), (4, 4)]) (vk := [6]) (e0 := []) (t := ⟨[], [(0, some (.box 126 [iV .i64 65536, .mown 1, .mown 2, iV .i64 (-1), iV .i64 1, bV false])), (1, some (.gmap [Value.string ⟨#[110, 101, 119]⟩] [.ptr 4 0 0] [0] 1)), (2, some (.gmap [] [] [] 0)), (3, some (.row 1 5 [[iI .u8 1], [iI .u8 0], [iI .u8 0], [iI .u8 0], [iI .u8 173], [iI .u8 222], [iI .u8 66], [iI .u8 251], [iI .u8 0]])), (4, some (.box 231 [.im (.row [[iI .u8 1], [iI .u8 0], [iI .u8 0], [iI .u8 0], [iI .u8 173], [iI .u8 222], [iI .u8 66], [iI .u8 251], [iI .u8 0]]), iV .i64 0]))], 4⟩) (by kernel_rfl) ?_
  refine sO hP hn hm [] [(6, iV .i64 0)] [6] [] [0, 1, 2, 3, 4] ?_
  refine AWp.ret ?_
  exact rl (.inl rfl) rfl (by kernel_rfl) (by kernel_rfl)
theorem cx35_step : Pv.Fn Tryz.prog 166 [.ptr 0 0 0] [(0, some (.box 126 [iV .i64 65536, .mown 1, .mown 3, iV .i64 (-1), iV .i64 1, bV false])), (1, some (.gmap [Value.string ⟨#[110, 101, 119]⟩] [.ptr 2 0 0] [0] 1)), (2, some (.box 231 [.im (.row [[iI .u8 1], [iI .u8 0], [iI .u8 0], [iI .u8 0], [iI .u8 173], [iI .u8 222], [iI .u8 66], [iI .u8 251], [iI .u8 0]]), iV .i64 0])), (3, some (.gmap [] [] [] 0))] 4 (fun x o => x = iV .i64 0 ∧ o = [(0, some (.box 126 [iV .i64 65536, .mown 1, .mown 3, iV .i64 (-1), iV .i64 2, bV false])), (1, some (.gmap [Value.string ⟨#[110, 101, 119]⟩] [.ptr 2 0 0] [0] 1)), (2, some (.box 231 [.im (.row [[iI .u8 1], [iI .u8 0], [iI .u8 0], [iI .u8 0], [iI .u8 173], [iI .u8 222], [iI .u8 66], [iI .u8 251], [iI .u8 0]]), iV .i64 0])), (3, some (.gmap [] [] [] 0))]) := by
  refine Fn.bodyK [0, 1, 2, 3] Tryz.func166 rfl rfl (fun Γ hP hn => ?_)
  have hm : Tryz.prog.follows .mixedOrders = true := by kernel_rfl
  replace hn : Γ.n = 39 := hn
  refine sO hP hn hm [] [] [0] [] [0, 1, 2, 3] ?_
  refine AWp.seq ?_
  refine AWp.block ?_
  refine sR hP hn hm [(1, .more (xPtrNil false))] [(3, bV false)] [0, 3] [] [0, 1, 2, 3] [false = false] ⟨rfl, trivial⟩ ?_
  refine AWp.cond false (by kernel_rfl) (fun h => nomatch h) (fun _ => ?_)
  refine sO hP hn hm [] [(6, bV false)] [0, 6] [] [0, 1, 2, 3] ?_
  refine AWp.cond false (by kernel_rfl) (fun h => nomatch h) (fun _ => ?_)
  refine sO hP hn hm [] [(11, bV false)] [0, 11] [] [0, 1, 2, 3] ?_
  refine AWp.cond false (by kernel_rfl) (fun h => nomatch h) (fun _ => ?_)
  refine AWp.skip ?_
  show AWp Γ _ _ _
  refine AWp.seq ?_
  refine sO hP hn hm [] [(24, bV false)] [0, 24] [] [0, 1, 2, 3] ?_
  refine AWp.cond false (by kernel_rfl) (fun h => nomatch h) (fun _ => ?_)
  refine AWp.skip ?_
  show AWp Γ _ _ _
  refine sO hP hn hm [] [] [] [(0, some (.box 126 [iV .i64 65536, .mown 1, .mown 3, iV .i64 (-1), iV .i64 2, bV false]))] [0, 1, 2, 3] ?_
  refine sO hP hn hm [] [(2, iV .i64 0)] [2] [] [0, 1, 2, 3] ?_
  refine AWp.ret ?_
  exact rl (.inl rfl) rfl (by kernel_rfl) (by kernel_rfl)
theorem cx36_Sync : Pv.Fn Tryz.prog 183 [.ptr 0 0 0, sV (⟨#[110, 101, 119]⟩ : ByteArray)] [(0, some (.box 126 [iV .i64 65536, .mown 1, .mown 3, iV .i64 (-1), iV .i64 1, bV false])), (1, some (.gmap [Value.string ⟨#[110, 101, 119]⟩] [.ptr 2 0 0] [0] 1)), (2, some (.box 231 [.im (.row [[iI .u8 1], [iI .u8 0], [iI .u8 0], [iI .u8 0], [iI .u8 173], [iI .u8 222], [iI .u8 66], [iI .u8 251], [iI .u8 0]]), iV .i64 0])), (3, some (.gmap [] [] [] 0))] 4 (fun x o => x = iV .i64 0 ∧ o = [(0, some (.box 126 [iV .i64 65536, .mown 1, .mown 3, iV .i64 (-1), iV .i64 2, bV false])), (1, some (.gmap [Value.string ⟨#[110, 101, 119]⟩] [.ptr 2 0 0] [0] 1)), (2, some (.box 231 [.im (.row [[iI .u8 1], [iI .u8 0], [iI .u8 0], [iI .u8 0], [iI .u8 173], [iI .u8 222], [iI .u8 66], [iI .u8 251], [iI .u8 0]]), iV .i64 9])), (3, some (.gmap [] [] [] 0))]) := by
  refine Fn.bodyK [0, 1, 2, 3] Tryz.func183 rfl rfl (fun Γ hP hn => ?_)
  have hm : Tryz.prog.follows .mixedOrders = true := by kernel_rfl
  replace hn : Γ.n = 28 := hn
  refine sO hP hn hm [] [] [0, 1] [] [0, 1, 2, 3] ?_
  refine AWp.seq ?_
  refine sR hP hn hm [(1, .callz [(0, 0), (1, 1), (2, 2), (3, 3)] [(0, 0), (1, 1), (2, 2), (3, 3)] [] [] 4 (iV .i64 0) [(0, some (.box 126 [iV .i64 65536, .mown 1, .mown 3, iV .i64 (-1), iV .i64 2, bV false])), (1, some (.gmap [Value.string ⟨#[110, 101, 119]⟩] [.ptr 2 0 0] [0] 1)), (2, some (.box 231 [.im (.row [[iI .u8 1], [iI .u8 0], [iI .u8 0], [iI .u8 0], [iI .u8 173], [iI .u8 222], [iI .u8 66], [iI .u8 251], [iI .u8 0]]), iV .i64 0])), (3, some (.gmap [] [] [] 0))])] [(5, iV .i64 0)] [0, 1, 5] [(0, some (.box 126 [iV .i64 65536, .mown 1, .mown 3, iV .i64 (-1), iV .i64 2, bV false]))] [0, 1, 2, 3] [_, _] ⟨Tryz.call166, cx35_step, trivial⟩ ?_
  refine sO hP hn hm [] [(10, bV false)] [0, 1, 5, 10] [] [0, 1, 2, 3] ?_
  refine AWp.cond false (by kernel_rfl) (fun h => nomatch h) (fun _ => ?_)
  refine AWp.skip ?_
  show AWp Γ _ _ _
  refine sR hP hn hm [(5, .more (xLookG vkS ([((⟨#[110, 101, 119]⟩ : ByteArray), .ptr 2 0 0)] : List (ByteArray × AVal)) (⟨#[110, 101, 119]⟩ : ByteArray) (.ptr 2 0 0)))] [(6, .ptr 2 0 0)] [6] [] [0, 1, 2, 3] [KeyOK Tryz.prog 9 vkS, ([Value.string ⟨#[110, 101, 119]⟩] : List Value) = (([((⟨#[110, 101, 119]⟩ : ByteArray), .ptr 2 0 0)] : List (ByteArray × AVal))).map (fun p => vkS p.1), ([.ptr 2 0 0] : List AVal) = (([((⟨#[110, 101, 119]⟩ : ByteArray), .ptr 2 0 0)] : List (ByteArray × AVal))).map (·.2), valA (sV (⟨#[110, 101, 119]⟩ : ByteArray)) = some (vkS (⟨#[110, 101, 119]⟩ : ByteArray)), (mget ([((⟨#[110, 101, 119]⟩ : ByteArray), .ptr 2 0 0)] : List (ByteArray × AVal)) (⟨#[110, 101, 119]⟩ : ByteArray)).getD (.im (.sc (.pointer none))) = .ptr 2 0 0] ⟨key_str (by kernel_rfl), rfl, rfl, rfl, by kernel_rfl, trivial⟩ ?_
  refine AWp.seq ?_
  refine sR hP hn hm [(1, .more (xPtrNil false))] [(19, bV false)] [6, 19] [] [0, 1, 2, 3] [false = false] ⟨rfl, trivial⟩ ?_
  refine AWp.cond false (by kernel_rfl) (fun h => nomatch h) (fun _ => ?_)
  refine AWp.skip ?_
  show AWp Γ _ _ _
  refine sO hP hn hm [] [] [] [(2, some (.box 231 [.im (.row [[iI .u8 1], [iI .u8 0], [iI .u8 0], [iI .u8 0], [iI .u8 173], [iI .u8 222], [iI .u8 66], [iI .u8 251], [iI .u8 0]]), iV .i64 9]))] [0, 1, 2, 3] ?_
  refine sO hP hn hm [] [(4, iV .i64 0)] [4] [] [0, 1, 2, 3] ?_
  refine AWp.ret ?_
  exact rl (.inl rfl) rfl (by kernel_rfl) (by kernel_rfl)
theorem cx37_put : Pv.Fn Tryz.prog 103 [.ptr 0 0 0, sV (⟨#[110, 101, 119]⟩ : ByteArray), .own 5] [(0, some (.box 129 [.ptr 1 0 0, iV .i64 0, .none0, .none0, .mown 4, iV .i64 (-1), iV .i64 0, iV .i64 0])), (1, some (.box 126 [iV .i64 65536, .mown 2, .mown 3, iV .i64 (-1), iV .i64 0, bV false])), (2, some (.gmap [] [] [] 0)), (3, some (.gmap [] [] [] 0)), (4, some (.gmap [] [] [] 0)), (5, some (.row 1 5 [[iI .u8 1], [iI .u8 0], [iI .u8 0], [iI .u8 0], [iI .u8 173], [iI .u8 222], [iI .u8 66], [iI .u8 251], [iI .u8 0]]))] 6 (fun x o => x = .tup [] ∧ o = [(0, some (.box 129 [.ptr 1 0 0, iV .i64 0, .none0, .none0, .mown 4, iV .i64 (-1), iV .i64 0, iV .i64 0])), (1, some (.box 126 [iV .i64 65536, .mown 2, .mown 3, iV .i64 (-1), iV .i64 2, bV false])), (2, some (.gmap [Value.string ⟨#[110, 101, 119]⟩] [.ptr 6 0 0] [0] 1)), (3, some (.gmap [] [] [] 0)), (4, some (.gmap [] [] [] 0)), (5, some (.row 1 5 [[iI .u8 1], [iI .u8 0], [iI .u8 0], [iI .u8 0], [iI .u8 173], [iI .u8 222], [iI .u8 66], [iI .u8 251], [iI .u8 0]])), (6, some (.box 231 [.im (.row [[iI .u8 1], [iI .u8 0], [iI .u8 0], [iI .u8 0], [iI .u8 173], [iI .u8 222], [iI .u8 66], [iI .u8 251], [iI .u8 0]]), iV .i64 9]))]) := by
  refine Fn.bodyK [0, 1, 2, 3, 4, 5, 6] Tryz.func103 rfl rfl (fun Γ hP hn => ?_)
  have hm : Tryz.prog.follows .mixedOrders = true := by kernel_rfl
  replace hn : Γ.n = 35 := hn
  refine AWp.seq ?_
  refine sO hP hn hm [] [(10, bV true)] [0, 1, 2, 10] [] [0, 1, 2, 3, 4, 5] ?_
  refine AWp.cond true (by kernel_rfl) (fun _ => ?_) (fun h => nomatch h)
  refine rG hP hn hm [(7, .callz [(1, 0), (2, 1), (3, 2), (5, 3)] [(0, 1), (1, 2), (2, 3), (3, 5), (4, 6)] [] [6] 4 (iV .i64 0) [(0, some (.box 126 [iV .i64 65536, .mown 1, .mown 2, iV .i64 (-1), iV .i64 1, bV false])), (1, some (.gmap [Value.string ⟨#[110, 101, 119]⟩] [.ptr 4 0 0] [0] 1)), (2, some (.gmap [] [] [] 0)), (3, some (.row 1 5 [[iI .u8 1], [iI .u8 0], [iI .u8 0], [iI .u8 0], [iI .u8 173], [iI .u8 222], [iI .u8 66], [iI .u8 251], [iI .u8 0]])), (4, some (.box 231 [.im (.row [[iI .u8 1], [iI .u8 0], [iI .u8 0], [iI .u8 0], [iI .u8 173], [iI .u8 222], [iI .u8 66], [iI .u8 251], [iI .u8 0]]), iV .i64 0]))])] [] [0, 1] [(1, some (.box 126 [iV .i64 65536, .mown 2, .mown 3, iV .i64 (-1), iV .i64 1, bV false])), (2, some (.gmap [Value.string ⟨#[110, 101, 119]⟩] [.ptr 6 0 0] [0] 1)), (6, some (.box 231 [.im (.row [[iI .u8 1], [iI .u8 0], [iI .u8 0], [iI .u8 0], [iI .u8 173], [iI .u8 222], [iI .u8 66], [iI .u8 251], [iI .u8 0]]), iV .i64 0]))] [0, 1, 2, 3, 4, 5, 6] [_, _] ⟨Tryz.call182, cx34_Append, trivial⟩ ?_
  show AWp Γ _ _ _
  refine sO hP hn hm [] [(25, bV true)] [0, 1, 25] [] [0, 1, 2, 3, 4, 5, 6] ?_
  refine AWp.cond true (by kernel_rfl) (fun _ => ?_) (fun h => nomatch h)
  refine rG hP hn hm [(6, .callz [(1, 0), (2, 1), (6, 2), (3, 3)] [(0, 1), (1, 2), (2, 6), (3, 3)] [] [] 4 (iV .i64 0) [(0, some (.box 126 [iV .i64 65536, .mown 1, .mown 3, iV .i64 (-1), iV .i64 2, bV false])), (1, some (.gmap [Value.string ⟨#[110, 101, 119]⟩] [.ptr 2 0 0] [0] 1)), (2, some (.box 231 [.im (.row [[iI .u8 1], [iI .u8 0], [iI .u8 0], [iI .u8 0], [iI .u8 173], [iI .u8 222], [iI .u8 66], [iI .u8 251], [iI .u8 0]]), iV .i64 9])), (3, some (.gmap [] [] [] 0))])] [] [] [(1, some (.box 126 [iV .i64 65536, .mown 2, .mown 3, iV .i64 (-1), iV .i64 2, bV false])), (6, some (.box 231 [.im (.row [[iI .u8 1], [iI .u8 0], [iI .u8 0], [iI .u8 0], [iI .u8 173], [iI .u8 222], [iI .u8 66], [iI .u8 251], [iI .u8 0]]), iV .i64 9]))] [0, 1, 2, 3, 4, 5, 6] [_, _] ⟨Tryz.call183, cx36_Sync, trivial⟩ ?_
  exact rl (.inr rfl) rfl (by kernel_rfl) (by kernel_rfl)
theorem cx38_small : Pv.Fn Tryz.prog 114 [iV .i64 0] [] 0 (fun x o => x = sV (⟨#[48]⟩ : ByteArray) ∧ o = []) := by
  refine Fn.bodyK [] Tryz.func114 rfl rfl (fun Γ hP hn => ?_)
  have hm : Tryz.prog.follows .mixedOrders = true := by kernel_rfl
  replace hn : Γ.n = 15 := hn
  refine sO hP hn hm [] [] [0] [] [] ?_
  refine AWp.seq ?_
  refine sO hP hn hm [] [(4, bV true)] [0, 4] [] [] ?_
  refine AWp.cond true (by kernel_rfl) (fun _ => ?_) (fun h => nomatch h)
  refine sR hP hn hm [] [(2, sV (⟨#[48]⟩ : ByteArray))] [2] [] [] [(0 : Int) ≤ 0, (0 : Int) ≤ 1, (1 : Int) ≤ ((⟨#[48, 49, 50, 51, 52, 53, 54, 55, 56, 57, 97, 98, 99, 100, 101, 102, 103, 104, 105, 106, 107, 108, 109, 110, 111, 112, 113, 114, 115, 116, 117, 118, 119, 120, 121, 122]⟩ : ByteArray).size : Int)] ⟨by decide, by decide, by decide, trivial⟩ ?_
  refine AWp.ret ?_
  exact rl (.inl rfl) rfl (by kernel_rfl) (by kernel_rfl)
theorem cx39_FormatInt : Pv.Fn Tryz.prog 64 [iV .i64 0, iV .i64 10] [] 0 (fun x o => x = sV (⟨#[48]⟩ : ByteArray) ∧ o = []) := by
  refine Fn.bodyK [] Tryz.func64 rfl rfl (fun Γ hP hn => ?_)
  have hm : Tryz.prog.follows .mixedOrders = true := by kernel_rfl
  replace hn : Γ.n = 54 := hn
  refine sO hP hn hm [] [] [0, 1] [] [] ?_
  refine AWp.seq ?_
  refine sO hP hn hm [] [(11, bV true)] [0, 1, 11] [] [] ?_
  refine AWp.cond true (by kernel_rfl) (fun _ => ?_) (fun h => nomatch h)
  refine AWp.seq ?_
  refine sO hP hn hm [] [(17, bV true)] [0, 17] [] [] ?_
  refine AWp.cond true (by kernel_rfl) (fun _ => ?_) (fun h => nomatch h)
  refine sR hP hn hm [(1, .callz [] [] [] [] 0 (sV (⟨#[48]⟩ : ByteArray)) [])] [(4, sV (⟨#[48]⟩ : ByteArray))] [4] [] [] [_, _] ⟨Tryz.call114, cx38_small, trivial⟩ ?_
  refine AWp.ret ?_
  exact rl (.inl rfl) rfl (by kernel_rfl) (by kernel_rfl)
theorem cx40_Itoa : Pv.Fn Tryz.prog 63 [iV .i64 0] [] 0 (fun x o => x = sV (⟨#[48]⟩ : ByteArray) ∧ o = []) := by
  refine Fn.bodyK [] Tryz.func63 rfl rfl (fun Γ hP hn => ?_)
  have hm : Tryz.prog.follows .mixedOrders = true := by kernel_rfl
  replace hn : Γ.n = 5 := hn
  refine sO hP hn hm [] [] [0] [] [] ?_
  refine sR hP hn hm [(1, .callz [] [] [] [] 0 (sV (⟨#[48]⟩ : ByteArray)) [])] [(2, sV (⟨#[48]⟩ : ByteArray))] [2] [] [] [_, _] ⟨Tryz.call64, cx39_FormatInt, trivial⟩ ?_
  refine AWp.ret ?_
  exact rl (.inl rfl) rfl (by kernel_rfl) (by kernel_rfl)
theorem cx41_Itoa : Pv.Fn Tryz.prog 41 [iV .i64 0] [] 0 (fun x o => x = sV (⟨#[48]⟩ : ByteArray) ∧ o = []) := by
  refine Fn.bodyK [] Tryz.func41 rfl rfl (fun Γ hP hn => ?_)
  have hm : Tryz.prog.follows .mixedOrders = true := by kernel_rfl
  replace hn : Γ.n = 5 := hn
  refine sO hP hn hm [] [] [0] [] [] ?_
  refine sR hP hn hm [(1, .callz [] [] [] [] 0 (sV (⟨#[48]⟩ : ByteArray)) [])] [(2, sV (⟨#[48]⟩ : ByteArray))] [2] [] [] [_, _] ⟨Tryz.call63, cx40_Itoa, trivial⟩ ?_
  refine AWp.ret ?_
  exact rl (.inl rfl) rfl (by kernel_rfl) (by kernel_rfl)
theorem cx42_Mul64 : Pv.Fn Tryz.prog 281 [iV .u64 1, iV .u64 5] [] 0 (fun x o => x = .tup [iV .u64 0, iV .u64 5] ∧ o = []) := by
  refine Fn.bodyK [] Tryz.func281 rfl rfl (fun Γ hP hn => ?_)
  have hm : Tryz.prog.follows .mixedOrders = true := by kernel_rfl
  replace hn : Γ.n = 51 := hn
  refine sO hP hn hm [] [] [0, 1] [] [] ?_
  refine sO hP hn hm [] [(6, iV .u64 1)] [0, 1, 6] [] [] ?_
  refine sR hP hn hm [] [(7, iV .u64 0)] [0, 1, 6, 7] [] [] [(0 : Int) ≤ 32] ⟨by decide, trivial⟩ ?_
  refine sO hP hn hm [] [(8, iV .u64 5)] [0, 1, 6, 7, 8] [] [] ?_
  refine sR hP hn hm [] [(9, iV .u64 0)] [0, 1, 6, 7, 8, 9] [] [] [(0 : Int) ≤ 32] ⟨by decide, trivial⟩ ?_
  refine sO hP hn hm [] [(10, iV .u64 5)] [0, 1, 6, 7, 8, 9, 10] [] [] ?_
  refine sR hP hn hm [] [(11, iV .u64 0)] [0, 1, 6, 7, 9, 11] [] [] [(0 : Int) ≤ 32] ⟨by decide, trivial⟩ ?_
  refine sO hP hn hm [] [(12, iV .u64 0)] [0, 1, 6, 7, 9, 11, 12] [] [] ?_
  refine sR hP hn hm [] [(13, iV .u64 0)] [0, 1, 6, 7, 9, 12, 13] [] [] [(0 : Int) ≤ 32] ⟨by decide, trivial⟩ ?_
  refine sO hP hn hm [] [] [0, 1, 7, 9, 12, 13] [] [] ?_
  refine sR hP hn hm [] [(4, iV .u64 0)] [0, 1, 4] [] [] [(0 : Int) ≤ 32] ⟨by decide, trivial⟩ ?_
  refine sO hP hn hm [] [(5, iV .u64 5)] [4, 5] [] [] ?_
  refine AWp.ret ?_
  exact rl (.inl rfl) rfl (by kernel_rfl) (by kernel_rfl)
theorem cx43_Mul : Pv.Fn Tryz.prog 215 [iV .u64 1, iV .u64 5] [] 0 (fun x o => x = .tup [iV .u64 0, iV .u64 5] ∧ o = []) := by
  refine Fn.bodyK [] Tryz.func215 rfl rfl (fun Γ hP hn => ?_)
  have hm : Tryz.prog.follows .mixedOrders = true := by kernel_rfl
  replace hn : Γ.n = 30 := hn
  refine sO hP hn hm [] [] [0, 1] [] [] ?_
  refine AWp.seq ?_
  refine AWp.cond false (by kernel_rfl) (fun h => nomatch h) (fun _ => ?_)
  refine AWp.skip ?_
  show AWp Γ _ _ _
  refine sR hP hn hm [(2, .callz [] [] [] [] 0 (.tup [iV .u64 0, iV .u64 5]) [])] [(8, iV .u64 0), (9, iV .u64 5)] [8, 9] [] [] [_, _] ⟨Tryz.call281, cx42_Mul64, trivial⟩ ?_
  refine sO hP hn hm [] [(4, iV .u64 0), (5, iV .u64 5)] [4, 5] [] [] ?_
  refine AWp.ret ?_
  exact rl (.inl rfl) rfl (by kernel_rfl) (by kernel_rfl)
theorem cx44_HasPrefix : Pv.Fn Tryz.prog 47 [sV (⟨#[32, 32, 32, 32, 32, 32, 32, 32, 32, 32, 32, 32, 32, 32, 32, 32, 32, 32, 32, 32, 32, 32, 32, 32, 32, 32, 32, 32, 32, 32, 32, 32, 32, 32, 32, 32, 32, 32, 32, 32, 32, 32, 32, 32, 32, 32, 32, 32, 32, 32, 32, 32, 32, 32, 32, 32, 32, 32, 32, 32, 32, 32, 32, 32, 32, 32, 32, 32, 32, 32, 32, 32, 32, 32, 32, 32, 32, 32, 32, 32, 32, 32, 32, 32, 32, 32, 32, 32, 32, 32, 32, 32, 32, 32, 32, 32, 32, 32, 32, 32, 32, 32, 32, 32, 32, 32, 32, 32, 32, 32, 32, 32, 32, 32, 32, 32, 32, 32, 32, 32, 32, 32, 32, 32, 32, 32, 32, 32]⟩ : ByteArray), sV (⟨#[48]⟩ : ByteArray)] [] 0 (fun x o => x = bV false ∧ o = []) := by
  refine Fn.bodyK [] Tryz.func47 rfl rfl (fun Γ hP hn => ?_)
  have hm : Tryz.prog.follows .mixedOrders = true := by kernel_rfl
  replace hn : Γ.n = 18 := hn
  refine sO hP hn hm [] [] [0, 1] [] [] ?_
  refine sR hP hn hm [] [(4, bV false)] [4] [] [] [(0 : Int) ≤ 0, (0 : Int) ≤ 1, (1 : Int) ≤ ((⟨#[32, 32, 32, 32, 32, 32, 32, 32, 32, 32, 32, 32, 32, 32, 32, 32, 32, 32, 32, 32, 32, 32, 32, 32, 32, 32, 32, 32, 32, 32, 32, 32, 32, 32, 32, 32, 32, 32, 32, 32, 32, 32, 32, 32, 32, 32, 32, 32, 32, 32, 32, 32, 32, 32, 32, 32, 32, 32, 32, 32, 32, 32, 32, 32, 32, 32, 32, 32, 32, 32, 32, 32, 32, 32, 32, 32, 32, 32, 32, 32, 32, 32, 32, 32, 32, 32, 32, 32, 32, 32, 32, 32, 32, 32, 32, 32, 32, 32, 32, 32, 32, 32, 32, 32, 32, 32, 32, 32, 32, 32, 32, 32, 32, 32, 32, 32, 32, 32, 32, 32, 32, 32, 32, 32, 32, 32, 32, 32]⟩ : ByteArray).size : Int)] ⟨by decide, by decide, by decide, trivial⟩ ?_
  refine AWp.ret ?_
  exact rl (.inl rfl) rfl (by kernel_rfl) (by kernel_rfl)
theorem cx45_HasPrefix : Pv.Fn Tryz.prog 28 [sV (⟨#[32, 32, 32, 32, 32, 32, 32, 32, 32, 32, 32, 32, 32, 32, 32, 32, 32, 32, 32, 32, 32, 32, 32, 32, 32, 32, 32, 32, 32, 32, 32, 32, 32, 32, 32, 32, 32, 32, 32, 32, 32, 32, 32, 32, 32, 32, 32, 32, 32, 32, 32, 32, 32, 32, 32, 32, 32, 32, 32, 32, 32, 32, 32, 32, 32, 32, 32, 32, 32, 32, 32, 32, 32, 32, 32, 32, 32, 32, 32, 32, 32, 32, 32, 32, 32, 32, 32, 32, 32, 32, 32, 32, 32, 32, 32, 32, 32, 32, 32, 32, 32, 32, 32, 32, 32, 32, 32, 32, 32, 32, 32, 32, 32, 32, 32, 32, 32, 32, 32, 32, 32, 32, 32, 32, 32, 32, 32, 32]⟩ : ByteArray), sV (⟨#[48]⟩ : ByteArray)] [] 0 (fun x o => x = bV false ∧ o = []) := by
  refine Fn.bodyK [] Tryz.func28 rfl rfl (fun Γ hP hn => ?_)
  have hm : Tryz.prog.follows .mixedOrders = true := by kernel_rfl
  replace hn : Γ.n = 8 := hn
  refine sO hP hn hm [] [] [0, 1] [] [] ?_
  refine sR hP hn hm [(2, .callz [] [] [] [] 0 (bV false) [])] [(4, bV false)] [4] [] [] [_, _] ⟨Tryz.call47, cx44_HasPrefix, trivial⟩ ?_
  refine AWp.ret ?_
  exact rl (.inl rfl) rfl (by kernel_rfl) (by kernel_rfl)
theorem cx46_HasPrefix : Pv.Fn Tryz.prog 47 [sV (⟨#[45, 45, 45, 45, 45, 45, 45, 45, 45, 45, 45, 45, 45, 45, 45, 45, 45, 45, 45, 45, 45, 45, 45, 45, 45, 45, 45, 45, 45, 45, 45, 45, 45, 45, 45, 45, 45, 45, 45, 45, 45, 45, 45, 45, 45, 45, 45, 45, 45, 45, 45, 45, 45, 45, 45, 45, 45, 45, 45, 45, 45, 45, 45, 45, 45, 45, 45, 45, 45, 45, 45, 45, 45, 45, 45, 45, 45, 45, 45, 45, 45, 45, 45, 45, 45, 45, 45, 45, 45, 45, 45, 45, 45, 45, 45, 45, 45, 45, 45, 45, 45, 45, 45, 45, 45, 45, 45, 45, 45, 45, 45, 45, 45, 45, 45, 45, 45, 45, 45, 45, 45, 45, 45, 45, 45, 45, 45, 45]⟩ : ByteArray), sV (⟨#[48]⟩ : ByteArray)] [] 0 (fun x o => x = bV false ∧ o = []) := by
  refine Fn.bodyK [] Tryz.func47 rfl rfl (fun Γ hP hn => ?_)
  have hm : Tryz.prog.follows .mixedOrders = true := by kernel_rfl
  replace hn : Γ.n = 18 := hn
  refine sO hP hn hm [] [] [0, 1] [] [] ?_
  refine sR hP hn hm [] [(4, bV false)] [4] [] [] [(0 : Int) ≤ 0, (0 : Int) ≤ 1, (1 : Int) ≤ ((⟨#[45, 45, 45, 45, 45, 45, 45, 45, 45, 45, 45, 45, 45, 45, 45, 45, 45, 45, 45, 45, 45, 45, 45, 45, 45, 45, 45, 45, 45, 45, 45, 45, 45, 45, 45, 45, 45, 45, 45, 45, 45, 45, 45, 45, 45, 45, 45, 45, 45, 45, 45, 45, 45, 45, 45, 45, 45, 45, 45, 45, 45, 45, 45, 45, 45, 45, 45, 45, 45, 45, 45, 45, 45, 45, 45, 45, 45, 45, 45, 45, 45, 45, 45, 45, 45, 45, 45, 45, 45, 45, 45, 45, 45, 45, 45, 45, 45, 45, 45, 45, 45, 45, 45, 45, 45, 45, 45, 45, 45, 45, 45, 45, 45, 45, 45, 45, 45, 45, 45, 45, 45, 45, 45, 45, 45, 45, 45, 45]⟩ : ByteArray).size : Int)] ⟨by decide, by decide, by decide, trivial⟩ ?_
  refine AWp.ret ?_
  exact rl (.inl rfl) rfl (by kernel_rfl) (by kernel_rfl)
theorem cx47_HasPrefix : Pv.Fn Tryz.prog 28 [sV (⟨#[45, 45, 45, 45, 45, 45, 45, 45, 45, 45, 45, 45, 45, 45, 45, 45, 45, 45, 45, 45, 45, 45, 45, 45, 45, 45, 45, 45, 45, 45, 45, 45, 45, 45, 45, 45, 45, 45, 45, 45, 45, 45, 45, 45, 45, 45, 45, 45, 45, 45, 45, 45, 45, 45, 45, 45, 45, 45, 45, 45, 45, 45, 45, 45, 45, 45, 45, 45, 45, 45, 45, 45, 45, 45, 45, 45, 45, 45, 45, 45, 45, 45, 45, 45, 45, 45, 45, 45, 45, 45, 45, 45, 45, 45, 45, 45, 45, 45, 45, 45, 45, 45, 45, 45, 45, 45, 45, 45, 45, 45, 45, 45, 45, 45, 45, 45, 45, 45, 45, 45, 45, 45, 45, 45, 45, 45, 45, 45]⟩ : ByteArray), sV (⟨#[48]⟩ : ByteArray)] [] 0 (fun x o => x = bV false ∧ o = []) := by
  refine Fn.bodyK [] Tryz.func28 rfl rfl (fun Γ hP hn => ?_)
  have hm : Tryz.prog.follows .mixedOrders = true := by kernel_rfl
  replace hn : Γ.n = 8 := hn
  refine sO hP hn hm [] [] [0, 1] [] [] ?_
  refine sR hP hn hm [(2, .callz [] [] [] [] 0 (bV false) [])] [(4, bV false)] [4] [] [] [_, _] ⟨Tryz.call47, cx46_HasPrefix, trivial⟩ ?_
  refine AWp.ret ?_
  exact rl (.inl rfl) rfl (by kernel_rfl) (by kernel_rfl)
theorem cx48_HasPrefix : Pv.Fn Tryz.prog 47 [sV (⟨#[48, 48, 48, 48, 48, 48, 48, 48, 48, 48, 48, 48, 48, 48, 48, 48, 48, 48, 48, 48, 48, 48, 48, 48, 48, 48, 48, 48, 48, 48, 48, 48, 48, 48, 48, 48, 48, 48, 48, 48, 48, 48, 48, 48, 48, 48, 48, 48, 48, 48, 48, 48, 48, 48, 48, 48, 48, 48, 48, 48, 48, 48, 48, 48]⟩ : ByteArray), sV (⟨#[48]⟩ : ByteArray)] [] 0 (fun x o => x = bV true ∧ o = []) := by
  refine Fn.bodyK [] Tryz.func47 rfl rfl (fun Γ hP hn => ?_)
  have hm : Tryz.prog.follows .mixedOrders = true := by kernel_rfl
  replace hn : Γ.n = 18 := hn
  refine sO hP hn hm [] [] [0, 1] [] [] ?_
  refine sR hP hn hm [] [(4, bV true)] [4] [] [] [(0 : Int) ≤ 0, (0 : Int) ≤ 1, (1 : Int) ≤ ((⟨#[48, 48, 48, 48, 48, 48, 48, 48, 48, 48, 48, 48, 48, 48, 48, 48, 48, 48, 48, 48, 48, 48, 48, 48, 48, 48, 48, 48, 48, 48, 48, 48, 48, 48, 48, 48, 48, 48, 48, 48, 48, 48, 48, 48, 48, 48, 48, 48, 48, 48, 48, 48, 48, 48, 48, 48, 48, 48, 48, 48, 48, 48, 48, 48]⟩ : ByteArray).size : Int)] ⟨by decide, by decide, by decide, trivial⟩ ?_
  refine AWp.ret ?_
  exact rl (.inl rfl) rfl (by kernel_rfl) (by kernel_rfl)
theorem cx49_HasPrefix : Pv.Fn Tryz.prog 28 [sV (⟨#[48, 48, 48, 48, 48, 48, 48, 48, 48, 48, 48, 48, 48, 48, 48, 48, 48, 48, 48, 48, 48, 48, 48, 48, 48, 48, 48, 48, 48, 48, 48, 48, 48, 48, 48, 48, 48, 48, 48, 48, 48, 48, 48, 48, 48, 48, 48, 48, 48, 48, 48, 48, 48, 48, 48, 48, 48, 48, 48, 48, 48, 48, 48, 48]⟩ : ByteArray), sV (⟨#[48]⟩ : ByteArray)] [] 0 (fun x o => x = bV true ∧ o = []) := by
  refine Fn.bodyK [] Tryz.func28 rfl rfl (fun Γ hP hn => ?_)
  have hm : Tryz.prog.follows .mixedOrders = true := by kernel_rfl
  replace hn : Γ.n = 8 := hn
  refine sO hP hn hm [] [] [0, 1] [] [] ?_
  refine sR hP hn hm [(2, .callz [] [] [] [] 0 (bV true) [])] [(4, bV true)] [4] [] [] [_, _] ⟨Tryz.call47, cx48_HasPrefix, trivial⟩ ?_
  refine AWp.ret ?_
  exact rl (.inl rfl) rfl (by kernel_rfl) (by kernel_rfl)
theorem cx50_Repeat : Pv.Fn Tryz.prog 140 [sV (⟨#[48]⟩ : ByteArray), iV .i64 5] [] 0 (fun x o => x = sV (⟨#[48, 48, 48, 48, 48]⟩ : ByteArray) ∧ o = []) := by
  refine Fn.bodyK [] Tryz.func140 rfl rfl (fun Γ hP hn => ?_)
  have hm : Tryz.prog.follows .mixedOrders = true := by kernel_rfl
  replace hn : Γ.n = 125 := hn
  refine sO hP hn hm [] [] [0, 1] [] [] ?_
  refine AWp.seq ?_
  refine sO hP hn hm [] [(11, iV .i64 5)] [0, 1, 11] [] [] ?_
  refine AWp.block ?_
  refine sO hP hn hm [] [(12, bV false)] [0, 1, 11, 12] [] [] ?_
  refine AWp.cond false (by kernel_rfl) (fun h => nomatch h) (fun _ => ?_)
  refine sO hP hn hm [] [(14, bV false)] [0, 1, 14] [] [] ?_
  refine AWp.cond false (by kernel_rfl) (fun h => nomatch h) (fun _ => ?_)
  refine AWp.skip ?_
  show AWp Γ _ _ _
  refine AWp.seq ?_
  refine sO hP hn hm [] [(18, bV false)] [0, 1, 18] [] [] ?_
  refine AWp.cond false (by kernel_rfl) (fun h => nomatch h) (fun _ => ?_)
  refine AWp.skip ?_
  show AWp Γ _ _ _
  refine sR hP hn hm [(5, .callz [] [] [] [] 0 (.tup [iV .u64 0, iV .u64 5]) [])] [(5, iV .u64 0), (6, iV .u64 5)] [0, 5, 6] [] [] [_, _] ⟨Tryz.call215, cx43_Mul, trivial⟩ ?_
  refine AWp.seq ?_
  refine sO hP hn hm [] [(34, bV false)] [0, 6, 34] [] [] ?_
  refine AWp.cond false (by kernel_rfl) (fun h => nomatch h) (fun _ => ?_)
  refine AWp.skip ?_
  show AWp Γ _ _ _
  refine sO hP hn hm [] [(7, iV .i64 5)] [0, 7] [] [] ?_
  refine AWp.seq ?_
  refine sO hP hn hm [] [(40, bV false)] [0, 7, 40] [] [] ?_
  refine AWp.cond false (by kernel_rfl) (fun h => nomatch h) (fun _ => ?_)
  refine AWp.skip ?_
  show AWp Γ _ _ _
  refine AWp.seq ?_
  refine sR hP hn hm [] [(42, iV .u8 48)] [0, 7, 42] [] [] [(0 : Int) ≤ 0, (0 : Int) < ((⟨#[48]⟩ : ByteArray).size : Int)] ⟨by decide, by decide, trivial⟩ ?_
  refine AWp.block ?_
  refine AWp.seq ?_
  refine sO hP hn hm [] [(43, bV false)] [0, 7, 42, 43] [] [] ?_
  refine AWp.cond false (by kernel_rfl) (fun h => nomatch h) (fun _ => ?_)
  refine sO hP hn hm [] [] [0, 7, 42, 43] [] [] ?_
  refine AWp.cond false (by kernel_rfl) (fun h => nomatch h) (fun _ => ?_)
  refine sO hP hn hm [] [(43, bV true)] [0, 7, 42, 43] [] [] ?_
  refine AWp.cond true (by kernel_rfl) (fun _ => ?_) (fun h => nomatch h)
  refine AWp.skip ?_
  show AWp Γ _ _ _
  refine AWp.cond true (by kernel_rfl) (fun _ => ?_) (fun h => nomatch h)
  refine AWp.block ?_
  refine sR hP hn hm [(4, .callz [] [] [] [] 0 (bV false) [])] [(49, bV false)] [0, 7, 49] [] [] [_, _] ⟨Tryz.call28, cx45_HasPrefix, trivial⟩ ?_
  refine AWp.cond false (by kernel_rfl) (fun h => nomatch h) (fun _ => ?_)
  refine sR hP hn hm [(4, .callz [] [] [] [] 0 (bV false) [])] [(58, bV false)] [0, 7, 58] [] [] [_, _] ⟨Tryz.call28, cx47_HasPrefix, trivial⟩ ?_
  refine AWp.cond false (by kernel_rfl) (fun h => nomatch h) (fun _ => ?_)
  refine sR hP hn hm [(4, .callz [] [] [] [] 0 (bV true) [])] [(67, bV true)] [0, 7, 67] [] [] [_, _] ⟨Tryz.call28, cx49_HasPrefix, trivial⟩ ?_
  refine AWp.cond true (by kernel_rfl) (fun _ => ?_) (fun h => nomatch h)
  refine sR hP hn hm [] [(4, sV (⟨#[48, 48, 48, 48, 48]⟩ : ByteArray))] [4] [] [] [(0 : Int) ≤ 0, (0 : Int) ≤ 5, (5 : Int) ≤ ((⟨#[48, 48, 48, 48, 48, 48, 48, 48, 48, 48, 48, 48, 48, 48, 48, 48, 48, 48, 48, 48, 48, 48, 48, 48, 48, 48, 48, 48, 48, 48, 48, 48, 48, 48, 48, 48, 48, 48, 48, 48, 48, 48, 48, 48, 48, 48, 48, 48, 48, 48, 48, 48, 48, 48, 48, 48, 48, 48, 48, 48, 48, 48, 48, 48]⟩ : ByteArray).size : Int)] ⟨by decide, by decide, by decide, trivial⟩ ?_
  refine AWp.ret ?_
  exact rl (.inl rfl) rfl (by kernel_rfl) (by kernel_rfl)
theorem cx51_file : Pv.Fn Tryz.prog 88 [sV (⟨#[108, 111, 103]⟩ : ByteArray), iV .i64 0] [] 0 (fun x o => x = sV (⟨#[108, 111, 103, 45, 48, 48, 48, 48, 48, 48]⟩ : ByteArray) ∧ o = []) := by
  refine Fn.bodyK [] Tryz.func88 rfl rfl (fun Γ hP hn => ?_)
  have hm : Tryz.prog.follows .mixedOrders = true := by kernel_rfl
  replace hn : Γ.n = 18 := hn
  refine sO hP hn hm [] [] [0, 1] [] [] ?_
  refine sR hP hn hm [(1, .callz [] [] [] [] 0 (sV (⟨#[48]⟩ : ByteArray)) [])] [(5, sV (⟨#[48]⟩ : ByteArray))] [0, 5] [] [] [_, _] ⟨Tryz.call41, cx41_Itoa, trivial⟩ ?_
  refine sR hP hn hm [(5, .more xMax), (6, .callz [] [] [] [] 0 (sV (⟨#[48, 48, 48, 48, 48]⟩ : ByteArray)) [])] [(4, sV (⟨#[108, 111, 103, 45, 48, 48, 48, 48, 48, 48]⟩ : ByteArray))] [4] [] [] [(((⟨#[108, 111, 103]⟩ : ByteArray).size + (⟨#[45]⟩ : ByteArray).size : Nat) : Int) ≤ 9223372036854775807, _, _, (((⟨#[108, 111, 103, 45]⟩ : ByteArray).size + (⟨#[48, 48, 48, 48, 48]⟩ : ByteArray).size : Nat) : Int) ≤ 9223372036854775807, (((⟨#[108, 111, 103, 45, 48, 48, 48, 48, 48]⟩ : ByteArray).size + (⟨#[48]⟩ : ByteArray).size : Nat) : Int) ≤ 9223372036854775807] ⟨by decide, Tryz.call140, cx50_Repeat, by decide, by decide, trivial⟩ ?_
  refine AWp.ret ?_
  exact rl (.inl rfl) rfl (by kernel_rfl) (by kernel_rfl)
theorem cx52_step : Pv.Fn Tryz.prog 166 [.ptr 0 0 0] [(0, some (.box 126 [iV .i64 65536, .mown 1, .mown 3, iV .i64 (-1), iV .i64 2, bV false])), (1, some (.gmap [Value.string ⟨#[110, 101, 119]⟩] [.ptr 2 0 0] [0] 1)), (2, some (.box 231 [.im (.row [[iI .u8 1], [iI .u8 0], [iI .u8 0], [iI .u8 0], [iI .u8 173], [iI .u8 222], [iI .u8 66], [iI .u8 251], [iI .u8 0]]), iV .i64 9])), (3, some (.gmap [] [] [] 0))] 4 (fun x o => x = iV .i64 0 ∧ o = [(0, some (.box 126 [iV .i64 65536, .mown 1, .mown 3, iV .i64 (-1), iV .i64 3, bV false])), (1, some (.gmap [Value.string ⟨#[110, 101, 119]⟩] [.ptr 2 0 0] [0] 1)), (2, some (.box 231 [.im (.row [[iI .u8 1], [iI .u8 0], [iI .u8 0], [iI .u8 0], [iI .u8 173], [iI .u8 222], [iI .u8 66], [iI .u8 251], [iI .u8 0]]), iV .i64 9])), (3, some (.gmap [] [] [] 0))]) := by
  refine Fn.bodyK [0, 1, 2, 3] Tryz.func166 rfl rfl (fun Γ hP hn => ?_)
  have hm : Tryz.prog.follows .mixedOrders = true := by kernel_rfl
  replace hn : Γ.n = 39 := hn
  refine sO hP hn hm [] [] [0] [] [0, 1, 2, 3] ?_
  refine AWp.seq ?_
  refine AWp.block ?_
  refine sR hP hn hm [(1, .more (xPtrNil false))] [(3, bV false)] [0, 3] [] [0, 1, 2, 3] [false = false] ⟨rfl, trivial⟩ ?_
  refine AWp.cond false (by kernel_rfl) (fun h => nomatch h) (fun _ => ?_)
  refine sO hP hn hm [] [(6, bV false)] [0, 6] [] [0, 1, 2, 3] ?_
  refine AWp.cond false (by kernel_rfl) (fun h => nomatch h) (fun _ => ?_)
  refine sO hP hn hm [] [(11, bV false)] [0, 11] [] [0, 1, 2, 3] ?_
  refine AWp.cond false (by kernel_rfl) (fun h => nomatch h) (fun _ => ?_)
  refine AWp.skip ?_
  show AWp Γ _ _ _
  refine AWp.seq ?_
  refine sO hP hn hm [] [(24, bV false)] [0, 24] [] [0, 1, 2, 3] ?_
  refine AWp.cond false (by kernel_rfl) (fun h => nomatch h) (fun _ => ?_)
  refine AWp.skip ?_
  show AWp Γ _ _ _
  refine sO hP hn hm [] [] [] [(0, some (.box 126 [iV .i64 65536, .mown 1, .mown 3, iV .i64 (-1), iV .i64 3, bV false]))] [0, 1, 2, 3] ?_
  refine sO hP hn hm [] [(2, iV .i64 0)] [2] [] [0, 1, 2, 3] ?_
  refine AWp.ret ?_
  exact rl (.inl rfl) rfl (by kernel_rfl) (by kernel_rfl)
theorem cx53_Name : Pv.Fn Tryz.prog 187 [sV (⟨#[108, 111, 103, 45, 48, 48, 48, 48, 48, 48]⟩ : ByteArray)] [] 0 (fun x o => x = bV true ∧ o = []) := by
  refine Fn.bodyK [] Tryz.func187 rfl rfl (fun Γ hP hn => ?_)
  have hm : Tryz.prog.follows .mixedOrders = true := by kernel_rfl
  replace hn : Γ.n = 15 := hn
  refine sO hP hn hm [] [] [0] [] [] ?_
  refine sR hP hn hm [(9, .callz [] [] [] [] 0 (bV false) [])] [(2, bV true)] [2] [] [] [_, _] ⟨Tryz.call262, contains_ok (⟨#[108, 111, 103, 45, 48, 48, 48, 48, 48, 48]⟩ : ByteArray) (⟨#[47, 0]⟩ : ByteArray) false (by decide) (by decide) (by decide) (by decide) (by kernel_rfl), trivial⟩ ?_
  refine AWp.ret ?_
  exact rl (.inl rfl) rfl (by kernel_rfl) (by kernel_rfl)
theorem cx54_Rename : Pv.Fn Tryz.prog 106 [.ptr 0 0 0, sV (⟨#[110, 101, 119]⟩ : ByteArray), sV (⟨#[108, 111, 103, 45, 48, 48, 48, 48, 48, 48]⟩ : ByteArray)] [(0, some (.box 126 [iV .i64 65536, .mown 1, .mown 3, iV .i64 (-1), iV .i64 2, bV false])), (1, some (.gmap [Value.string ⟨#[110, 101, 119]⟩] [.ptr 2 0 0] [0] 1)), (2, some (.box 231 [.im (.row [[iI .u8 1], [iI .u8 0], [iI .u8 0], [iI .u8 0], [iI .u8 173], [iI .u8 222], [iI .u8 66], [iI .u8 251], [iI .u8 0]]), iV .i64 9])), (3, some (.gmap [] [] [] 0))] 4 (fun x o => x = iV .i64 0 ∧ o = [(0, some (.box 126 [iV .i64 65536, .mown 1, .mown 3, iV .i64 (-1), iV .i64 3, bV false])), (1, some (.gmap [Value.string ⟨#[108, 111, 103, 45, 48, 48, 48, 48, 48, 48]⟩] [.ptr 2 0 0] [1] 2)), (2, some (.box 231 [.im (.row [[iI .u8 1], [iI .u8 0], [iI .u8 0], [iI .u8 0], [iI .u8 173], [iI .u8 222], [iI .u8 66], [iI .u8 251], [iI .u8 0]]), iV .i64 9])), (3, some (.gmap [] [] [] 0))]) := by
  refine Fn.bodyK [0, 1, 2, 3] Tryz.func106 rfl rfl (fun Γ hP hn => ?_)
  have hm : Tryz.prog.follows .mixedOrders = true := by kernel_rfl
  replace hn : Γ.n = 38 := hn
  refine sO hP hn hm [] [] [0, 1, 2] [] [0, 1, 2, 3] ?_
  refine AWp.seq ?_
  refine sR hP hn hm [(1, .callz [(0, 0), (1, 1), (2, 2), (3, 3)] [(0, 0), (1, 1), (2, 2), (3, 3)] [] [] 4 (iV .i64 0) [(0, some (.box 126 [iV .i64 65536, .mown 1, .mown 3, iV .i64 (-1), iV .i64 3, bV false])), (1, some (.gmap [Value.string ⟨#[110, 101, 119]⟩] [.ptr 2 0 0] [0] 1)), (2, some (.box 231 [.im (.row [[iI .u8 1], [iI .u8 0], [iI .u8 0], [iI .u8 0], [iI .u8 173], [iI .u8 222], [iI .u8 66], [iI .u8 251], [iI .u8 0]]), iV .i64 9])), (3, some (.gmap [] [] [] 0))])] [(7, iV .i64 0)] [0, 1, 2, 7] [(0, some (.box 126 [iV .i64 65536, .mown 1, .mown 3, iV .i64 (-1), iV .i64 3, bV false]))] [0, 1, 2, 3] [_, _] ⟨Tryz.call166, cx52_step, trivial⟩ ?_
  refine sO hP hn hm [] [(12, bV false)] [0, 1, 2, 7, 12] [] [0, 1, 2, 3] ?_
  refine AWp.cond false (by kernel_rfl) (fun h => nomatch h) (fun _ => ?_)
  refine AWp.skip ?_
  show AWp Γ _ _ _
  refine sR hP hn hm [(5, .more (xLookG vkS ([((⟨#[110, 101, 119]⟩ : ByteArray), .ptr 2 0 0)] : List (ByteArray × AVal)) (⟨#[110, 101, 119]⟩ : ByteArray) (.ptr 2 0 0)))] [(8, .ptr 2 0 0)] [0, 1, 2, 8] [] [0, 1, 2, 3] [KeyOK Tryz.prog 9 vkS, ([Value.string ⟨#[110, 101, 119]⟩] : List Value) = (([((⟨#[110, 101, 119]⟩ : ByteArray), .ptr 2 0 0)] : List (ByteArray × AVal))).map (fun p => vkS p.1), ([.ptr 2 0 0] : List AVal) = (([((⟨#[110, 101, 119]⟩ : ByteArray), .ptr 2 0 0)] : List (ByteArray × AVal))).map (·.2), valA (sV (⟨#[110, 101, 119]⟩ : ByteArray)) = some (vkS (⟨#[110, 101, 119]⟩ : ByteArray)), (mget ([((⟨#[110, 101, 119]⟩ : ByteArray), .ptr 2 0 0)] : List (ByteArray × AVal)) (⟨#[110, 101, 119]⟩ : ByteArray)).getD (.im (.sc (.pointer none))) = .ptr 2 0 0] ⟨key_str (by kernel_rfl), rfl, rfl, rfl, by kernel_rfl, trivial⟩ ?_
  refine AWp.seq ?_
  refine AWp.block ?_
  refine sR hP hn hm [(1, .more (xPtrNil false))] [(20, bV false)] [0, 1, 2, 8, 20] [] [0, 1, 2, 3] [false = false] ⟨rfl, trivial⟩ ?_
  refine AWp.cond false (by kernel_rfl) (fun h => nomatch h) (fun _ => ?_)
  refine sR hP hn hm [(1, .callz [] [] [] [] 0 (bV true) [])] [(23, bV false)] [0, 1, 2, 8, 23] [] [0, 1, 2, 3] [_, _] ⟨Tryz.call187, cx53_Name, trivial⟩ ?_
  refine AWp.cond false (by kernel_rfl) (fun h => nomatch h) (fun _ => ?_)
  refine AWp.skip ?_
  show AWp Γ _ _ _
  refine sR hP hn hm [(5, .more (xDelG vkS ([((⟨#[110, 101, 119]⟩ : ByteArray), .ptr 2 0 0)] : List (ByteArray × AVal)) (⟨#[110, 101, 119]⟩ : ByteArray) (some 0)))] [] [0, 2, 8] [(1, some (.gmap [] [] [] 1))] [0, 1, 2, 3] [KeyOK Tryz.prog 9 vkS, ([Value.string ⟨#[110, 101, 119]⟩] : List Value) = (([((⟨#[110, 101, 119]⟩ : ByteArray), .ptr 2 0 0)] : List (ByteArray × AVal))).map (fun p => vkS p.1), ([.ptr 2 0 0] : List AVal) = (([((⟨#[110, 101, 119]⟩ : ByteArray), .ptr 2 0 0)] : List (ByteArray × AVal))).map (·.2), valA (sV (⟨#[110, 101, 119]⟩ : ByteArray)) = some (vkS (⟨#[110, 101, 119]⟩ : ByteArray)), idxK ([((⟨#[110, 101, 119]⟩ : ByteArray), .ptr 2 0 0)] : List (ByteArray × AVal)) (⟨#[110, 101, 119]⟩ : ByteArray) = some 0] ⟨key_str (by kernel_rfl), rfl, rfl, rfl, by kernel_rfl, trivial⟩ ?_
  refine sR hP hn hm [(6, .more (xPutG vkS ([] : List (ByteArray × AVal)) (⟨#[108, 111, 103, 45, 48, 48, 48, 48, 48, 48]⟩ : ByteArray) (.ptr 2 0 0) false ([((⟨#[108, 111, 103, 45, 48, 48, 48, 48, 48, 48]⟩ : ByteArray), .ptr 2 0 0)] : List (ByteArray × AVal))))] [] [] [(1, some (.gmap [Value.string ⟨#[108, 111, 103, 45, 48, 48, 48, 48, 48, 48]⟩] [.ptr 2 0 0] [1] 2))] [0, 1, 2, 3] [KeyOK Tryz.prog 9 vkS, ([] : List Value) = (([] : List (ByteArray × AVal))).map (fun p => vkS p.1), ([] : List AVal) = (([] : List (ByteArray × AVal))).map (·.2), valA (sV (⟨#[108, 111, 103, 45, 48, 48, 48, 48, 48, 48]⟩ : ByteArray)) = some (vkS (⟨#[108, 111, 103, 45, 48, 48, 48, 48, 48, 48]⟩ : ByteArray)), (.ptr 2 0 0 : AVal) = .ptr 2 0 0, (mget ([] : List (ByteArray × AVal)) (⟨#[108, 111, 103, 45, 48, 48, 48, 48, 48, 48]⟩ : ByteArray)).isSome = false, mput ([] : List (ByteArray × AVal)) (⟨#[108, 111, 103, 45, 48, 48, 48, 48, 48, 48]⟩ : ByteArray) (.ptr 2 0 0) = ([((⟨#[108, 111, 103, 45, 48, 48, 48, 48, 48, 48]⟩ : ByteArray), .ptr 2 0 0)] : List (ByteArray × AVal)), ∀ a b : ByteArray, vkS a = vkS b → a = b] ⟨key_str (by kernel_rfl), rfl, rfl, rfl, rfl, by kernel_rfl, by kernel_rfl, vkS_inj, trivial⟩ ?_
  refine sO hP hn hm [] [(6, iV .i64 0)] [6] [] [0, 1, 2, 3] ?_
  refine AWp.ret ?_
  exact rl (.inl rfl) rfl (by kernel_rfl) (by kernel_rfl)
theorem cx55_step : Pv.Fn Tryz.prog 166 [.ptr 0 0 0] [(0, some (.box 126 [iV .i64 65536, .mown 1, .mown 3, iV .i64 (-1), iV .i64 3, bV false])), (1, some (.gmap [Value.string ⟨#[108, 111, 103, 45, 48, 48, 48, 48, 48, 48]⟩] [.ptr 2 0 0] [1] 2)), (2, some (.box 231 [.im (.row [[iI .u8 1], [iI .u8 0], [iI .u8 0], [iI .u8 0], [iI .u8 173], [iI .u8 222], [iI .u8 66], [iI .u8 251], [iI .u8 0]]), iV .i64 9])), (3, some (.gmap [] [] [] 0))] 4 (fun x o => x = iV .i64 0 ∧ o = [(0, some (.box 126 [iV .i64 65536, .mown 1, .mown 3, iV .i64 (-1), iV .i64 4, bV false])), (1, some (.gmap [Value.string ⟨#[108, 111, 103, 45, 48, 48, 48, 48, 48, 48]⟩] [.ptr 2 0 0] [1] 2)), (2, some (.box 231 [.im (.row [[iI .u8 1], [iI .u8 0], [iI .u8 0], [iI .u8 0], [iI .u8 173], [iI .u8 222], [iI .u8 66], [iI .u8 251], [iI .u8 0]]), iV .i64 9])), (3, some (.gmap [] [] [] 0))]) := by
  refine Fn.bodyK [0, 1, 2, 3] Tryz.func166 rfl rfl (fun Γ hP hn => ?_)
  have hm : Tryz.prog.follows .mixedOrders = true := by kernel_rfl
  replace hn : Γ.n = 39 := hn
  refine sO hP hn hm [] [] [0] [] [0, 1, 2, 3] ?_
  refine AWp.seq ?_
  refine AWp.block ?_
  refine sR hP hn hm [(1, .more (xPtrNil false))] [(3, bV false)] [0, 3] [] [0, 1, 2, 3] [false = false] ⟨rfl, trivial⟩ ?_
  refine AWp.cond false (by kernel_rfl) (fun h => nomatch h) (fun _ => ?_)
  refine sO hP hn hm [] [(6, bV false)] [0, 6] [] [0, 1, 2, 3] ?_
  refine AWp.cond false (by kernel_rfl) (fun h => nomatch h) (fun _ => ?_)
  refine sO hP hn hm [] [(11, bV false)] [0, 11] [] [0, 1, 2, 3] ?_
  refine AWp.cond false (by kernel_rfl) (fun h => nomatch h) (fun _ => ?_)
  refine AWp.skip ?_
  show AWp Γ _ _ _
  refine AWp.seq ?_
  refine sO hP hn hm [] [(24, bV false)] [0, 24] [] [0, 1, 2, 3] ?_
  refine AWp.cond false (by kernel_rfl) (fun h => nomatch h) (fun _ => ?_)
  refine AWp.skip ?_
  show AWp Γ _ _ _
  refine sO hP hn hm [] [] [] [(0, some (.box 126 [iV .i64 65536, .mown 1, .mown 3, iV .i64 (-1), iV .i64 4, bV false]))] [0, 1, 2, 3] ?_
  refine sO hP hn hm [] [(2, iV .i64 0)] [2] [] [0, 1, 2, 3] ?_
  refine AWp.ret ?_
  exact rl (.inl rfl) rfl (by kernel_rfl) (by kernel_rfl)
theorem cx56_SyncNames : Pv.Fn Tryz.prog 104 [.ptr 0 0 0] [(0, some (.box 126 [iV .i64 65536, .mown 1, .mown 3, iV .i64 (-1), iV .i64 3, bV false])), (1, some (.gmap [Value.string ⟨#[108, 111, 103, 45, 48, 48, 48, 48, 48, 48]⟩] [.ptr 2 0 0] [1] 2)), (2, some (.box 231 [.im (.row [[iI .u8 1], [iI .u8 0], [iI .u8 0], [iI .u8 0], [iI .u8 173], [iI .u8 222], [iI .u8 66], [iI .u8 251], [iI .u8 0]]), iV .i64 9])), (3, some (.gmap [] [] [] 0))] 4 (fun x o => x = iV .i64 0 ∧ o = [(0, some (.box 126 [iV .i64 65536, .mown 1, .mown 4, iV .i64 (-1), iV .i64 4, bV false])), (1, some (.gmap [Value.string ⟨#[108, 111, 103, 45, 48, 48, 48, 48, 48, 48]⟩] [.ptr 2 0 0] [1] 2)), (2, some (.box 231 [.im (.row [[iI .u8 1], [iI .u8 0], [iI .u8 0], [iI .u8 0], [iI .u8 173], [iI .u8 222], [iI .u8 66], [iI .u8 251], [iI .u8 0]]), iV .i64 9])), (3, some (.gmap [] [] [] 0)), (4, some (.gmap [Value.string ⟨#[108, 111, 103, 45, 48, 48, 48, 48, 48, 48]⟩] [.ptr 2 0 0] [1] 2))]) := by
  refine Fn.bodyK [0, 1, 2, 3, 4] Tryz.func104 rfl rfl (fun Γ hP hn => ?_)
  have hm : Tryz.prog.follows .mixedOrders = true := by kernel_rfl
  replace hn : Γ.n = 17 := hn
  refine sO hP hn hm [] [] [0] [] [0, 1, 2, 3] ?_
  refine AWp.seq ?_
  refine sR hP hn hm [(1, .callz [(0, 0), (1, 1), (2, 2), (3, 3)] [(0, 0), (1, 1), (2, 2), (3, 3)] [] [] 4 (iV .i64 0) [(0, some (.box 126 [iV .i64 65536, .mown 1, .mown 3, iV .i64 (-1), iV .i64 4, bV false])), (1, some (.gmap [Value.string ⟨#[108, 111, 103, 45, 48, 48, 48, 48, 48, 48]⟩] [.ptr 2 0 0] [1] 2)), (2, some (.box 231 [.im (.row [[iI .u8 1], [iI .u8 0], [iI .u8 0], [iI .u8 0], [iI .u8 173], [iI .u8 222], [iI .u8 66], [iI .u8 251], [iI .u8 0]]), iV .i64 9])), (3, some (.gmap [] [] [] 0))])] [(3, iV .i64 0)] [0, 3] [(0, some (.box 126 [iV .i64 65536, .mown 1, .mown 3, iV .i64 (-1), iV .i64 4, bV false]))] [0, 1, 2, 3] [_, _] ⟨Tryz.call166, cx55_step, trivial⟩ ?_
  refine sO hP hn hm [] [(7, bV false)] [0, 3, 7] [] [0, 1, 2, 3] ?_
  refine AWp.cond false (by kernel_rfl) (fun h => nomatch h) (fun _ => ?_)
  refine AWp.skip ?_
  show AWp Γ _ _ _
  refine sR hP hn hm [(5, .callz [(1, 0), (2, 1)] [(0, 1), (1, 2), (2, 4)] [] [4] 2 (.mown 2) [(0, some (.gmap [Value.string ⟨#[108, 111, 103, 45, 48, 48, 48, 48, 48, 48]⟩] [.ptr 1 0 0] [1] 2)), (1, some (.box 231 [.im (.row [[iI .u8 1], [iI .u8 0], [iI .u8 0], [iI .u8 0], [iI .u8 173], [iI .u8 222], [iI .u8 66], [iI .u8 251], [iI .u8 0]]), iV .i64 9])), (2, some (.gmap [Value.string ⟨#[108, 111, 103, 45, 48, 48, 48, 48, 48, 48]⟩] [.ptr 1 0 0] [1] 2))])] [] [] [(0, some (.box 126 [iV .i64 65536, .mown 1, .mown 4, iV .i64 (-1), iV .i64 4, bV false])), (4, some (.gmap [Value.string ⟨#[108, 111, 103, 45, 48, 48, 48, 48, 48, 48]⟩] [.ptr 2 0 0] [1] 2))] [0, 1, 2, 3, 4] [_, _] ⟨Tryz.call184, Fn.mcloneG (fun b es clock w h => mclone_ok b es clock w h) [Value.string ⟨#[108, 111, 103, 45, 48, 48, 48, 48, 48, 48]⟩] [.ptr 1 0 0] [1] 2 [(1, some (.box 231 [.im (.row [[iI .u8 1], [iI .u8 0], [iI .u8 0], [iI .u8 0], [iI .u8 173], [iI .u8 222], [iI .u8 66], [iI .u8 251], [iI .u8 0]]), iV .i64 9]))] 2 (by decide) (by kernel_rfl) (by kernel_rfl) (fun q o h => by have h2 := look_mem h; simp only [List.mem_cons, List.not_mem_nil, or_false, Prod.mk.injEq, Option.some.injEq] at h2; rcases h2 with ⟨_, rfl⟩ <;> rfl) (by kernel_rfl), trivial⟩ ?_
  refine sO hP hn hm [] [(2, iV .i64 0)] [2] [] [0, 1, 2, 3, 4] ?_
  refine AWp.ret ?_
  exact rl (.inl rfl) rfl (by kernel_rfl) (by kernel_rfl)
theorem cx57_Keys : Pv.Fn Tryz.prog 85 [.mown 0] [(0, some (.gmap [Value.string ⟨#[108, 111, 103, 45, 48, 48, 48, 48, 48, 48]⟩] [.ptr 1 0 0] [1] 2)), (1, some (.box 231 [.im (.row [[iI .u8 1], [iI .u8 0], [iI .u8 0], [iI .u8 0], [iI .u8 173], [iI .u8 222], [iI .u8 66], [iI .u8 251], [iI .u8 0]]), iV .i64 9]))] 2 (fun x o => x = .fn 137 [.ptr 2 0 0] ∧ o = [(0, some (.gmap [Value.string ⟨#[108, 111, 103, 45, 48, 48, 48, 48, 48, 48]⟩] [.ptr 1 0 0] [1] 2)), (1, some (.box 231 [.im (.row [[iI .u8 1], [iI .u8 0], [iI .u8 0], [iI .u8 0], [iI .u8 173], [iI .u8 222], [iI .u8 66], [iI .u8 251], [iI .u8 0]]), iV .i64 9])), (2, some (.box 124 [.mown 0]))]) := by
  refine Fn.bodyK [0, 1, 2] Tryz.func85 rfl rfl (fun Γ hP hn => ?_)
  have hm : Tryz.prog.follows .mixedOrders = true := by kernel_rfl
  replace hn : Γ.n = 4 := hn
  refine sO hP hn hm [(0, .k 2)] [(1, .ptr 2 0 0)] [1] [(2, some (.box 124 [.mown 0]))] [0, 1, 2] ?_
  refine sO hP hn hm [(0, .more xFunc)] [(2, .fn 137 [.ptr 2 0 0])] [2] [] [0, 1, 2] ?_
  refine AWp.ret ?_
  exact rl (.inl rfl) rfl (by kernel_rfl) (by kernel_rfl)
theorem cx58_Names : Pv.Fn Tryz.prog 55 [.ptr 0 0 0] [(0, some (.box 126 [iV .i64 65536, .mown 1, .mown 3, iV .i64 (-1), iV .i64 4, bV false])), (1, some (.gmap [Value.string ⟨#[108, 111, 103, 45, 48, 48, 48, 48, 48, 48]⟩] [.ptr 2 0 0] [1] 2)), (2, some (.box 231 [.im (.row [[iI .u8 1], [iI .u8 0], [iI .u8 0], [iI .u8 0], [iI .u8 173], [iI .u8 222], [iI .u8 66], [iI .u8 251], [iI .u8 0]]), iV .i64 9])), (3, some (.gmap [Value.string ⟨#[108, 111, 103, 45, 48, 48, 48, 48, 48, 48]⟩] [.ptr 2 0 0] [1] 2))] 4 (fun x o => x = .own 5 ∧ o = [(0, some (.box 126 [iV .i64 65536, .mown 1, .mown 3, iV .i64 (-1), iV .i64 4, bV false])), (1, some (.gmap [Value.string ⟨#[108, 111, 103, 45, 48, 48, 48, 48, 48, 48]⟩] [.ptr 2 0 0] [1] 2)), (2, some (.box 231 [.im (.row [[iI .u8 1], [iI .u8 0], [iI .u8 0], [iI .u8 0], [iI .u8 173], [iI .u8 222], [iI .u8 66], [iI .u8 251], [iI .u8 0]]), iV .i64 9])), (3, some (.gmap [Value.string ⟨#[108, 111, 103, 45, 48, 48, 48, 48, 48, 48]⟩] [.ptr 2 0 0] [1] 2)), (5, some (.row 1 9 [[sI (⟨#[108, 111, 103, 45, 48, 48, 48, 48, 48, 48]⟩ : ByteArray)]]))]) := by
  refine Fn.bodyK [0, 1, 2, 3, 5] Tryz.func55 rfl rfl (fun Γ hP hn => ?_)
  have hm : Tryz.prog.follows .mixedOrders = true := by kernel_rfl
  replace hn : Γ.n = 17 := hn
  refine sO hP hn hm [] [] [0] [] [0, 1, 2, 3] ?_
  refine AWp.seq ?_
  refine sR hP hn hm [(1, .more (xPtrNil false))] [(10, bV false)] [0, 10] [] [0, 1, 2, 3] [false = false] ⟨rfl, trivial⟩ ?_
  refine AWp.cond false (by kernel_rfl) (fun h => nomatch h) (fun _ => ?_)
  refine AWp.skip ?_
  show AWp Γ _ _ _
  refine sR hP hn hm [(4, .callz [(1, 0), (2, 1)] [(0, 1), (1, 2), (2, 4)] [] [4] 2 (.fn 137 [.ptr 2 0 0]) [(0, some (.gmap [Value.string ⟨#[108, 111, 103, 45, 48, 48, 48, 48, 48, 48]⟩] [.ptr 1 0 0] [1] 2)), (1, some (.box 231 [.im (.row [[iI .u8 1], [iI .u8 0], [iI .u8 0], [iI .u8 0], [iI .u8 173], [iI .u8 222], [iI .u8 66], [iI .u8 251], [iI .u8 0]]), iV .i64 9])), (2, some (.box 124 [.mown 0]))]), (5, .callz [(4, 0), (1, 1), (2, 2)] [(0, 4), (1, 1), (2, 2), (3, 5)] [] [5] 3 (.own 3) [(0, some (.box 124 [.mown 1])), (1, some (.gmap [Value.string ⟨#[108, 111, 103, 45, 48, 48, 48, 48, 48, 48]⟩] [.ptr 2 0 0] [1] 2)), (2, some (.box 231 [.im (.row [[iI .u8 1], [iI .u8 0], [iI .u8 0], [iI .u8 0], [iI .u8 173], [iI .u8 222], [iI .u8 66], [iI .u8 251], [iI .u8 0]]), iV .i64 9])), (3, some (.row 1 9 [[sI (⟨#[108, 111, 103, 45, 48, 48, 48, 48, 48, 48]⟩ : ByteArray)]]))])] [(2, .own 5)] [2] [(5, some (.row 1 9 [[sI (⟨#[108, 111, 103, 45, 48, 48, 48, 48, 48, 48]⟩ : ByteArray)]]))] [0, 1, 2, 3, 5] [_, _, _, _] ⟨Tryz.call85, cx57_Keys, Tryz.call84, Fn.sortedG (T := 124) (by kernel_rfl) sorted_ok ([((⟨#[108, 111, 103, 45, 48, 48, 48, 48, 48, 48]⟩ : ByteArray), .ptr 2 0 0)] : List (ByteArray × AVal)) (by decide) (by decide) (by decide) ([(⟨#[108, 111, 103, 45, 48, 48, 48, 48, 48, 48]⟩ : ByteArray)] : List ByteArray) (sort1 _) [Value.string ⟨#[108, 111, 103, 45, 48, 48, 48, 48, 48, 48]⟩] [.ptr 2 0 0] [1] 2 rfl rfl [(2, some (.box 231 [.im (.row [[iI .u8 1], [iI .u8 0], [iI .u8 0], [iI .u8 0], [iI .u8 173], [iI .u8 222], [iI .u8 66], [iI .u8 251], [iI .u8 0]]), iV .i64 9]))] 3 (by decide) (by kernel_rfl) (fun q o h => by have h2 := look_mem h; simp only [List.mem_cons, List.not_mem_nil, or_false, Prod.mk.injEq, Option.some.injEq] at h2; rcases h2 with ⟨_, rfl⟩ <;> rfl) (by kernel_rfl) [[sI (⟨#[108, 111, 103, 45, 48, 48, 48, 48, 48, 48]⟩ : ByteArray)]] rfl, trivial⟩ ?_
  refine AWp.ret ?_
  exact rl (.inl rfl) rfl (by kernel_rfl) (by kernel_rfl)
theorem cx59_HasPrefix : Pv.Fn Tryz.prog 47 [sV (⟨#[108, 111, 103, 45, 48, 48, 48, 48, 48, 48]⟩ : ByteArray), sV (⟨#[108, 111, 103, 45]⟩ : ByteArray)] [] 0 (fun x o => x = bV true ∧ o = []) := by
  refine Fn.bodyK [] Tryz.func47 rfl rfl (fun Γ hP hn => ?_)
  have hm : Tryz.prog.follows .mixedOrders = true := by kernel_rfl
  replace hn : Γ.n = 18 := hn
  refine sO hP hn hm [] [] [0, 1] [] [] ?_
  refine sR hP hn hm [] [(4, bV true)] [4] [] [] [(0 : Int) ≤ 0, (0 : Int) ≤ 4, (4 : Int) ≤ ((⟨#[108, 111, 103, 45, 48, 48, 48, 48, 48, 48]⟩ : ByteArray).size : Int)] ⟨by decide, by decide, by decide, trivial⟩ ?_
  refine AWp.ret ?_
  exact rl (.inl rfl) rfl (by kernel_rfl) (by kernel_rfl)
theorem cx60_CutPrefix : Pv.Fn Tryz.prog 138 [sV (⟨#[108, 111, 103, 45, 48, 48, 48, 48, 48, 48]⟩ : ByteArray), sV (⟨#[108, 111, 103, 45]⟩ : ByteArray)] [] 0 (fun x o => x = .tup [sV (⟨#[48, 48, 48, 48, 48, 48]⟩ : ByteArray), bV true] ∧ o = []) := by
  refine Fn.bodyK [] Tryz.func138 rfl rfl (fun Γ hP hn => ?_)
  have hm : Tryz.prog.follows .mixedOrders = true := by kernel_rfl
  replace hn : Γ.n = 15 := hn
  refine sO hP hn hm [] [] [0, 1] [] [] ?_
  refine AWp.seq ?_
  refine sR hP hn hm [(2, .callz [] [] [] [] 0 (bV true) [])] [(9, bV false)] [0, 1, 9] [] [] [_, _] ⟨Tryz.call47, cx59_HasPrefix, trivial⟩ ?_
  refine AWp.cond false (by kernel_rfl) (fun h => nomatch h) (fun _ => ?_)
  refine AWp.skip ?_
  show AWp Γ _ _ _
  refine sR hP hn hm [] [(4, sV (⟨#[48, 48, 48, 48, 48, 48]⟩ : ByteArray)), (5, bV true)] [4, 5] [] [] [(0 : Int) ≤ 4, (4 : Int) ≤ 10, (10 : Int) ≤ ((⟨#[108, 111, 103, 45, 48, 48, 48, 48, 48, 48]⟩ : ByteArray).size : Int)] ⟨by decide, by decide, by decide, trivial⟩ ?_
  refine AWp.ret ?_
  exact rl (.inl rfl) rfl (by kernel_rfl) (by kernel_rfl)
theorem cx61_CutPrefix : Pv.Fn Tryz.prog 86 [sV (⟨#[108, 111, 103, 45, 48, 48, 48, 48, 48, 48]⟩ : ByteArray), sV (⟨#[108, 111, 103, 45]⟩ : ByteArray)] [] 0 (fun x o => x = .tup [sV (⟨#[48, 48, 48, 48, 48, 48]⟩ : ByteArray), bV true] ∧ o = []) := by
  refine Fn.bodyK [] Tryz.func86 rfl rfl (fun Γ hP hn => ?_)
  have hm : Tryz.prog.follows .mixedOrders = true := by kernel_rfl
  replace hn : Γ.n = 11 := hn
  refine sO hP hn hm [] [] [0, 1] [] [] ?_
  refine sR hP hn hm [(2, .callz [] [] [] [] 0 (.tup [sV (⟨#[48, 48, 48, 48, 48, 48]⟩ : ByteArray), bV true]) [])] [(4, sV (⟨#[48, 48, 48, 48, 48, 48]⟩ : ByteArray)), (5, bV true)] [4, 5] [] [] [_, _] ⟨Tryz.call138, cx60_CutPrefix, trivial⟩ ?_
  refine AWp.ret ?_
  exact rl (.inl rfl) rfl (by kernel_rfl) (by kernel_rfl)
theorem cx62_Atoi : Pv.Fn Tryz.prog 139 [sV (⟨#[48, 48, 48, 48, 48, 48]⟩ : ByteArray)] [] 0 (fun x o => x = .tup [iV .i64 0, .im (.sc (.nilIface))] ∧ o = []) := by
  refine Fn.bodyK [] Tryz.func139 rfl rfl (fun Γ hP hn => ?_)
  have hm : Tryz.prog.follows .mixedOrders = true := by kernel_rfl
  replace hn : Γ.n = 77 := hn
  refine sO hP hn hm [] [] [0] [] [] ?_
  refine sO hP hn hm [] [(4, iV .i64 6)] [0, 4] [] [] ?_
  refine AWp.seq ?_
  refine sO hP hn hm [] [(30, bV true)] [0, 30] [] [] ?_
  refine AWp.cond true (by kernel_rfl) (fun _ => ?_) (fun h => nomatch h)
  refine sO hP hn hm [] [(5, sV (⟨#[48, 48, 48, 48, 48, 48]⟩ : ByteArray))] [0, 5] [] [] ?_
  refine AWp.seq ?_
  refine sR hP hn hm [] [(39, bV false)] [0, 5, 39] [] [] [(0 : Int) ≤ 0, (0 : Int) < ((⟨#[48, 48, 48, 48, 48, 48]⟩ : ByteArray).size : Int), (0 : Int) ≤ 0, (0 : Int) < ((⟨#[48, 48, 48, 48, 48, 48]⟩ : ByteArray).size : Int)] ⟨by decide, by decide, by decide, by decide, trivial⟩ ?_
  refine AWp.cond false (by kernel_rfl) (fun h => nomatch h) (fun _ => ?_)
  refine AWp.skip ?_
  show AWp Γ _ _ _
  refine sO hP hn hm [] [(6, iV .i64 0)] [0, 5, 6] [] [] ?_
  refine AWp.seq ?_
  refine sO hP hn hm [(1, .more xBytes)] [(47, .im (.row [[iI .u8 48], [iI .u8 48], [iI .u8 48], [iI .u8 48], [iI .u8 48], [iI .u8 48]])), (48, iV .i64 6), (49, iV .i64 0)] [5, 6, 47, 48, 49] [] [] ?_
  refine AWp.block ?_
  refine AWp.loop ?_
  refine LWp.round ?_
  refine sO hP hn hm [] [(50, bV true)] [5, 6, 47, 48, 49, 50] [] [] ?_
  refine AWp.seq ?_
  refine AWp.cond true (by kernel_rfl) (fun _ => ?_) (fun h => nomatch h)
  refine AWp.skip ?_
  show AWp Γ _ _ _
  refine AWp.seq ?_
  refine AWp.block ?_
  refine sR hP hn hm [(0, .c [iI .u8 48])] [(8, iV .u8 48)] [5, 6, 8, 47, 48, 49] [] [] [(0 : Int) ≤ 0, ([[iI .u8 48], [iI .u8 48], [iI .u8 48], [iI .u8 48], [iI .u8 48], [iI .u8 48]] : List (List Im))[0]? = some [iI .u8 48]] ⟨by decide, rfl, trivial⟩ ?_
  refine sO hP hn hm [] [(8, iV .u8 0)] [5, 6, 8, 47, 48, 49] [] [] ?_
  refine AWp.seq ?_
  refine sO hP hn hm [] [(56, bV false)] [5, 6, 8, 47, 48, 49, 56] [] [] ?_
  refine AWp.cond false (by kernel_rfl) (fun h => nomatch h) (fun _ => ?_)
  refine AWp.skip ?_
  show AWp Γ _ _ _
  refine rO hP hn hm [] [] [5, 6, 47, 48, 49] [] [] ?_
  show AWp Γ _ _ _
  refine rO hP hn hm [] [(49, iV .i64 1)] [5, 6, 47, 48, 49] [] [] ?_
  show LWp Γ _ _ _
  refine LWp.round ?_
  refine sO hP hn hm [] [(50, bV true)] [5, 6, 47, 48, 49, 50] [] [] ?_
  refine AWp.seq ?_
  refine AWp.cond true (by kernel_rfl) (fun _ => ?_) (fun h => nomatch h)
  refine AWp.skip ?_
  show AWp Γ _ _ _
  refine AWp.seq ?_
  refine AWp.block ?_
  refine sR hP hn hm [(0, .c [iI .u8 48])] [(8, iV .u8 48)] [5, 6, 8, 47, 48, 49] [] [] [(0 : Int) ≤ 1, ([[iI .u8 48], [iI .u8 48], [iI .u8 48], [iI .u8 48], [iI .u8 48], [iI .u8 48]] : List (List Im))[1]? = some [iI .u8 48]] ⟨by decide, rfl, trivial⟩ ?_
  refine sO hP hn hm [] [(8, iV .u8 0)] [5, 6, 8, 47, 48, 49] [] [] ?_
  refine AWp.seq ?_
  refine sO hP hn hm [] [(56, bV false)] [5, 6, 8, 47, 48, 49, 56] [] [] ?_
  refine AWp.cond false (by kernel_rfl) (fun h => nomatch h) (fun _ => ?_)
  refine AWp.skip ?_
  show AWp Γ _ _ _
  refine rO hP hn hm [] [] [5, 6, 47, 48, 49] [] [] ?_
  show AWp Γ _ _ _
  refine rO hP hn hm [] [(49, iV .i64 2)] [5, 6, 47, 48, 49] [] [] ?_
  show LWp Γ _ _ _
  refine LWp.round ?_
  refine sO hP hn hm [] [(50, bV true)] [5, 6, 47, 48, 49, 50] [] [] ?_
  refine AWp.seq ?_
  refine AWp.cond true (by kernel_rfl) (fun _ => ?_) (fun h => nomatch h)
  refine AWp.skip ?_
  show AWp Γ _ _ _
  refine AWp.seq ?_
  refine AWp.block ?_
  refine sR hP hn hm [(0, .c [iI .u8 48])] [(8, iV .u8 48)] [5, 6, 8, 47, 48, 49] [] [] [(0 : Int) ≤ 2, ([[iI .u8 48], [iI .u8 48], [iI .u8 48], [iI .u8 48], [iI .u8 48], [iI .u8 48]] : List (List Im))[2]? = some [iI .u8 48]] ⟨by decide, rfl, trivial⟩ ?_
  refine sO hP hn hm [] [(8, iV .u8 0)] [5, 6, 8, 47, 48, 49] [] [] ?_
  refine AWp.seq ?_
  refine sO hP hn hm [] [(56, bV false)] [5, 6, 8, 47, 48, 49, 56] [] [] ?_
  refine AWp.cond false (by kernel_rfl) (fun h => nomatch h) (fun _ => ?_)
  refine AWp.skip ?_
  show AWp Γ _ _ _
  refine rO hP hn hm [] [] [5, 6, 47, 48, 49] [] [] ?_
  show AWp Γ _ _ _
  refine rO hP hn hm [] [(49, iV .i64 3)] [5, 6, 47, 48, 49] [] [] ?_
  show LWp Γ _ _ _
  refine LWp.round ?_
  refine sO hP hn hm [] [(50, bV true)] [5, 6, 47, 48, 49, 50] [] [] ?_
  refine AWp.seq ?_
  refine AWp.cond true (by kernel_rfl) (fun _ => ?_) (fun h => nomatch h)
  refine AWp.skip ?_
  show AWp Γ _ _ _
  refine AWp.seq ?_
  refine AWp.block ?_
  refine sR hP hn hm [(0, .c [iI .u8 48])] [(8, iV .u8 48)] [5, 6, 8, 47, 48, 49] [] [] [(0 : Int) ≤ 3, ([[iI .u8 48], [iI .u8 48], [iI .u8 48], [iI .u8 48], [iI .u8 48], [iI .u8 48]] : List (List Im))[3]? = some [iI .u8 48]] ⟨by decide, rfl, trivial⟩ ?_
  refine sO hP hn hm [] [(8, iV .u8 0)] [5, 6, 8, 47, 48, 49] [] [] ?_
  refine AWp.seq ?_
  refine sO hP hn hm [] [(56, bV false)] [5, 6, 8, 47, 48, 49, 56] [] [] ?_
  refine AWp.cond false (by kernel_rfl) (fun h => nomatch h) (fun _ => ?_)
  refine AWp.skip ?_
  show AWp Γ _ _ _
  refine rO hP hn hm [] [] [5, 6, 47, 48, 49] [] [] ?_
  show AWp Γ _ _ _
  refine rO hP hn hm [] [(49, iV .i64 4)] [5, 6, 47, 48, 49] [] [] ?_
  show LWp Γ _ _ _
  refine LWp.round ?_
  refine sO hP hn hm [] [(50, bV true)] [5, 6, 47, 48, 49, 50] [] [] ?_
  refine AWp.seq ?_
  refine AWp.cond true (by kernel_rfl) (fun _ => ?_) (fun h => nomatch h)
  refine AWp.skip ?_
  show AWp Γ _ _ _
  refine AWp.seq ?_
  refine AWp.block ?_
  refine sR hP hn hm [(0, .c [iI .u8 48])] [(8, iV .u8 48)] [5, 6, 8, 47, 48, 49] [] [] [(0 : Int) ≤ 4, ([[iI .u8 48], [iI .u8 48], [iI .u8 48], [iI .u8 48], [iI .u8 48], [iI .u8 48]] : List (List Im))[4]? = some [iI .u8 48]] ⟨by decide, rfl, trivial⟩ ?_
  refine sO hP hn hm [] [(8, iV .u8 0)] [5, 6, 8, 47, 48, 49] [] [] ?_
  refine AWp.seq ?_
  refine sO hP hn hm [] [(56, bV false)] [5, 6, 8, 47, 48, 49, 56] [] [] ?_
  refine AWp.cond false (by kernel_rfl) (fun h => nomatch h) (fun _ => ?_)
  refine AWp.skip ?_
  show AWp Γ _ _ _
  refine rO hP hn hm [] [] [5, 6, 47, 48, 49] [] [] ?_
  show AWp Γ _ _ _
  refine rO hP hn hm [] [(49, iV .i64 5)] [5, 6, 47, 48, 49] [] [] ?_
  show LWp Γ _ _ _
  refine LWp.round ?_
  refine sO hP hn hm [] [(50, bV true)] [5, 6, 47, 48, 49, 50] [] [] ?_
  refine AWp.seq ?_
  refine AWp.cond true (by kernel_rfl) (fun _ => ?_) (fun h => nomatch h)
  refine AWp.skip ?_
  show AWp Γ _ _ _
  refine AWp.seq ?_
  refine AWp.block ?_
  refine sR hP hn hm [(0, .c [iI .u8 48])] [(8, iV .u8 48)] [5, 6, 8, 47, 48, 49] [] [] [(0 : Int) ≤ 5, ([[iI .u8 48], [iI .u8 48], [iI .u8 48], [iI .u8 48], [iI .u8 48], [iI .u8 48]] : List (List Im))[5]? = some [iI .u8 48]] ⟨by decide, rfl, trivial⟩ ?_
  refine sO hP hn hm [] [(8, iV .u8 0)] [5, 6, 8, 47, 48, 49] [] [] ?_
  refine AWp.seq ?_
  refine sO hP hn hm [] [(56, bV false)] [5, 6, 8, 47, 48, 49, 56] [] [] ?_
  refine AWp.cond false (by kernel_rfl) (fun h => nomatch h) (fun _ => ?_)
  refine AWp.skip ?_
  show AWp Γ _ _ _
  refine rO hP hn hm [] [] [5, 6, 47, 48, 49] [] [] ?_
  show AWp Γ _ _ _
  refine rO hP hn hm [] [(49, iV .i64 6)] [5, 6, 47, 48, 49] [] [] ?_
  show LWp Γ _ _ _
  refine LWp.round ?_
  refine sO hP hn hm [] [(50, bV false)] [5, 6, 47, 48, 49, 50] [] [] ?_
  refine AWp.seq ?_
  refine AWp.cond false (by kernel_rfl) (fun h => nomatch h) (fun _ => ?_)
  refine AWp.exit ?_
  show AWp Γ _ _ _
  refine AWp.seq ?_
  refine sR hP hn hm [] [(66, bV false)] [6, 66] [] [] [(0 : Int) ≤ 0, (0 : Int) < ((⟨#[48, 48, 48, 48, 48, 48]⟩ : ByteArray).size : Int)] ⟨by decide, by decide, trivial⟩ ?_
  refine AWp.cond false (by kernel_rfl) (fun h => nomatch h) (fun _ => ?_)
  refine AWp.skip ?_
  show AWp Γ _ _ _
  refine sO hP hn hm [] [(2, iV .i64 0), (3, .im (.sc (.nilIface)))] [2, 3] [] [] ?_
  refine AWp.ret ?_
  exact rl (.inl rfl) rfl (by kernel_rfl) (by kernel_rfl)
theorem cx63_Atoi : Pv.Fn Tryz.prog 87 [sV (⟨#[48, 48, 48, 48, 48, 48]⟩ : ByteArray)] [] 0 (fun x o => x = .tup [iV .i64 0, .im (.sc (.nilIface))] ∧ o = []) := by
  refine Fn.bodyK [] Tryz.func87 rfl rfl (fun Γ hP hn => ?_)
  have hm : Tryz.prog.follows .mixedOrders = true := by kernel_rfl
  replace hn : Γ.n = 18 := hn
  refine sO hP hn hm [] [] [0] [] [] ?_
  refine sR hP hn hm [(1, .callz [] [] [] [] 0 (.tup [iV .i64 0, .im (.sc (.nilIface))]) [])] [(4, iV .i64 0), (5, .im (.sc (.nilIface)))] [0, 4, 5] [] [] [_, _] ⟨Tryz.call139, cx62_Atoi, trivial⟩ ?_
  refine AWp.seq ?_
  refine sO hP hn hm [(1, .more xIfNil)] [(12, bV false)] [0, 4, 5, 12] [] [] ?_
  refine AWp.cond false (by kernel_rfl) (fun h => nomatch h) (fun _ => ?_)
  refine AWp.skip ?_
  show AWp Γ _ _ _
  refine sO hP hn hm [] [(2, iV .i64 0), (3, .im (.sc (.nilIface)))] [2, 3] [] [] ?_
  refine AWp.ret ?_
  exact rl (.inl rfl) rfl (by kernel_rfl) (by kernel_rfl)
theorem cx64_number : Pv.Fn Tryz.prog 56 [sV (⟨#[108, 111, 103]⟩ : ByteArray), sV (⟨#[108, 111, 103, 45, 48, 48, 48, 48, 48, 48]⟩ : ByteArray)] [] 0 (fun x o => x = iV .i64 0 ∧ o = []) := by
  refine Fn.bodyK [] Tryz.func56 rfl rfl (fun Γ hP hn => ?_)
  have hm : Tryz.prog.follows .mixedOrders = true := by kernel_rfl
  replace hn : Γ.n = 43 := hn
  refine sO hP hn hm [] [] [0, 1] [] [] ?_
  refine sR hP hn hm [(3, .callz [] [] [] [] 0 (.tup [sV (⟨#[48, 48, 48, 48, 48, 48]⟩ : ByteArray), bV true]) [])] [(5, sV (⟨#[48, 48, 48, 48, 48, 48]⟩ : ByteArray)), (6, bV true)] [0, 1, 5, 6] [] [] [(((⟨#[108, 111, 103]⟩ : ByteArray).size + (⟨#[45]⟩ : ByteArray).size : Nat) : Int) ≤ 9223372036854775807, _, _] ⟨by decide, Tryz.call86, cx61_CutPrefix, trivial⟩ ?_
  refine sR hP hn hm [(1, .callz [] [] [] [] 0 (.tup [iV .i64 0, .im (.sc (.nilIface))]) [])] [(7, iV .i64 0), (8, .im (.sc (.nilIface)))] [0, 1, 6, 7, 8] [] [] [_, _] ⟨Tryz.call87, cx63_Atoi, trivial⟩ ?_
  refine AWp.seq ?_
  refine sR hP hn hm [(4, .more xIfNil), (17, .callz [] [] [] [] 0 (sV (⟨#[108, 111, 103, 45, 48, 48, 48, 48, 48, 48]⟩ : ByteArray)) [])] [(41, bV false)] [7, 41] [] [] [_, _] ⟨Tryz.call88, cx51_file, trivial⟩ ?_
  refine AWp.cond false (by kernel_rfl) (fun h => nomatch h) (fun _ => ?_)
  refine AWp.skip ?_
  show AWp Γ _ _ _
  refine sO hP hn hm [] [(4, iV .i64 0)] [4] [] [] ?_
  refine AWp.ret ?_
  exact rl (.inl rfl) rfl (by kernel_rfl) (by kernel_rfl)
theorem cx65_HasPrefix : Pv.Fn Tryz.prog 47 [sV (⟨#[108, 111, 103, 45, 48, 48, 48, 48, 48, 48]⟩ : ByteArray), sV (⟨#[98, 108, 107, 45]⟩ : ByteArray)] [] 0 (fun x o => x = bV false ∧ o = []) := by
  refine Fn.bodyK [] Tryz.func47 rfl rfl (fun Γ hP hn => ?_)
  have hm : Tryz.prog.follows .mixedOrders = true := by kernel_rfl
  replace hn : Γ.n = 18 := hn
  refine sO hP hn hm [] [] [0, 1] [] [] ?_
  refine sR hP hn hm [] [(4, bV false)] [4] [] [] [(0 : Int) ≤ 0, (0 : Int) ≤ 4, (4 : Int) ≤ ((⟨#[108, 111, 103, 45, 48, 48, 48, 48, 48, 48]⟩ : ByteArray).size : Int)] ⟨by decide, by decide, by decide, trivial⟩ ?_
  refine AWp.ret ?_
  exact rl (.inl rfl) rfl (by kernel_rfl) (by kernel_rfl)
theorem cx66_CutPrefix : Pv.Fn Tryz.prog 138 [sV (⟨#[108, 111, 103, 45, 48, 48, 48, 48, 48, 48]⟩ : ByteArray), sV (⟨#[98, 108, 107, 45]⟩ : ByteArray)] [] 0 (fun x o => x = .tup [sV (⟨#[108, 111, 103, 45, 48, 48, 48, 48, 48, 48]⟩ : ByteArray), bV false] ∧ o = []) := by
  refine Fn.bodyK [] Tryz.func138 rfl rfl (fun Γ hP hn => ?_)
  have hm : Tryz.prog.follows .mixedOrders = true := by kernel_rfl
  replace hn : Γ.n = 15 := hn
  refine sO hP hn hm [] [] [0, 1] [] [] ?_
  refine AWp.seq ?_
  refine sR hP hn hm [(2, .callz [] [] [] [] 0 (bV false) [])] [(9, bV true)] [0, 1, 9] [] [] [_, _] ⟨Tryz.call47, cx65_HasPrefix, trivial⟩ ?_
  refine AWp.cond true (by kernel_rfl) (fun _ => ?_) (fun h => nomatch h)
  refine sO hP hn hm [] [(4, sV (⟨#[108, 111, 103, 45, 48, 48, 48, 48, 48, 48]⟩ : ByteArray)), (5, bV false)] [4, 5] [] [] ?_
  refine AWp.ret ?_
  exact rl (.inl rfl) rfl (by kernel_rfl) (by kernel_rfl)
theorem cx67_CutPrefix : Pv.Fn Tryz.prog 86 [sV (⟨#[108, 111, 103, 45, 48, 48, 48, 48, 48, 48]⟩ : ByteArray), sV (⟨#[98, 108, 107, 45]⟩ : ByteArray)] [] 0 (fun x o => x = .tup [sV (⟨#[108, 111, 103, 45, 48, 48, 48, 48, 48, 48]⟩ : ByteArray), bV false] ∧ o = []) := by
  refine Fn.bodyK [] Tryz.func86 rfl rfl (fun Γ hP hn => ?_)
  have hm : Tryz.prog.follows .mixedOrders = true := by kernel_rfl
  replace hn : Γ.n = 11 := hn
  refine sO hP hn hm [] [] [0, 1] [] [] ?_
  refine sR hP hn hm [(2, .callz [] [] [] [] 0 (.tup [sV (⟨#[108, 111, 103, 45, 48, 48, 48, 48, 48, 48]⟩ : ByteArray), bV false]) [])] [(4, sV (⟨#[108, 111, 103, 45, 48, 48, 48, 48, 48, 48]⟩ : ByteArray)), (5, bV false)] [4, 5] [] [] [_, _] ⟨Tryz.call138, cx66_CutPrefix, trivial⟩ ?_
  refine AWp.ret ?_
  exact rl (.inl rfl) rfl (by kernel_rfl) (by kernel_rfl)
theorem cx68_number : Pv.Fn Tryz.prog 56 [sV (⟨#[98, 108, 107]⟩ : ByteArray), sV (⟨#[108, 111, 103, 45, 48, 48, 48, 48, 48, 48]⟩ : ByteArray)] [] 0 (fun x o => x = iV .i64 (-1) ∧ o = []) := by
  refine Fn.bodyK [] Tryz.func56 rfl rfl (fun Γ hP hn => ?_)
  have hm : Tryz.prog.follows .mixedOrders = true := by kernel_rfl
  replace hn : Γ.n = 43 := hn
  refine sO hP hn hm [] [] [0, 1] [] [] ?_
  refine sR hP hn hm [(3, .callz [] [] [] [] 0 (.tup [sV (⟨#[108, 111, 103, 45, 48, 48, 48, 48, 48, 48]⟩ : ByteArray), bV false]) [])] [(5, sV (⟨#[108, 111, 103, 45, 48, 48, 48, 48, 48, 48]⟩ : ByteArray)), (6, bV false)] [0, 1, 5, 6] [] [] [(((⟨#[98, 108, 107]⟩ : ByteArray).size + (⟨#[45]⟩ : ByteArray).size : Nat) : Int) ≤ 9223372036854775807, _, _] ⟨by decide, Tryz.call86, cx67_CutPrefix, trivial⟩ ?_
  refine sR hP hn hm [(1, .callz [] [] [] [] 0 (.tup [.top, .top]) [])] [(7, .top), (8, .top)] [0, 1, 6, 7, 8] [] [] [_, _] ⟨Tryz.call87, atoi_bad (⟨#[108, 111, 103, 45, 48, 48, 48, 48, 48, 48]⟩ : ByteArray) (by decide) (by kernel_rfl), trivial⟩ ?_
  refine AWp.seq ?_
  refine sO hP hn hm [] [(41, bV true)] [7, 41] [] [] ?_
  refine AWp.cond true (by kernel_rfl) (fun _ => ?_) (fun h => nomatch h)
  refine sO hP hn hm [] [(4, iV .i64 (-1))] [4] [] [] ?_
  refine AWp.ret ?_
  exact rl (.inl rfl) rfl (by kernel_rfl) (by kernel_rfl)
theorem cx69_sweep : Pv.Fn Tryz.prog 58 [.ptr 0 0 0] [(0, some (.box 129 [.ptr 1 0 0, iV .i64 0, .none0, .none0, .mown 5, iV .i64 0, iV .i64 0, iV .i64 0])), (1, some (.box 126 [iV .i64 65536, .mown 2, .mown 4, iV .i64 (-1), iV .i64 4, bV false])), (2, some (.gmap [Value.string ⟨#[108, 111, 103, 45, 48, 48, 48, 48, 48, 48]⟩] [.ptr 3 0 0] [1] 2)), (3, some (.box 231 [.im (.row [[iI .u8 1], [iI .u8 0], [iI .u8 0], [iI .u8 0], [iI .u8 173], [iI .u8 222], [iI .u8 66], [iI .u8 251], [iI .u8 0]]), iV .i64 9])), (4, some (.gmap [Value.string ⟨#[108, 111, 103, 45, 48, 48, 48, 48, 48, 48]⟩] [.ptr 3 0 0] [1] 2)), (5, some (.gmap [] [] [] 0))] 6 (fun x o => x = .tup [] ∧ o = [(0, some (.box 129 [.ptr 1 0 0, iV .i64 0, .none0, .none0, .mown 5, iV .i64 0, iV .i64 0, iV .i64 0])), (1, some (.box 126 [iV .i64 65536, .mown 2, .mown 4, iV .i64 (-1), iV .i64 4, bV false])), (2, some (.gmap [Value.string ⟨#[108, 111, 103, 45, 48, 48, 48, 48, 48, 48]⟩] [.ptr 3 0 0] [1] 2)), (3, some (.box 231 [.im (.row [[iI .u8 1], [iI .u8 0], [iI .u8 0], [iI .u8 0], [iI .u8 173], [iI .u8 222], [iI .u8 66], [iI .u8 251], [iI .u8 0]]), iV .i64 9])), (4, some (.gmap [Value.string ⟨#[108, 111, 103, 45, 48, 48, 48, 48, 48, 48]⟩] [.ptr 3 0 0] [1] 2)), (5, some (.gmap [] [] [] 0))]) := by
  refine Fn.bodyK [0, 1, 2, 3, 4, 5] Tryz.func58 rfl rfl (fun Γ hP hn => ?_)
  have hm : Tryz.prog.follows .mixedOrders = true := by kernel_rfl
  replace hn : Γ.n = 55 := hn
  refine sR hP hn hm [(4, .callz [(1, 0), (2, 1), (3, 2), (4, 3)] [(0, 1), (1, 2), (2, 3), (3, 4), (5, 6)] [] [6] 4 (.own 5) [(0, some (.box 126 [iV .i64 65536, .mown 1, .mown 3, iV .i64 (-1), iV .i64 4, bV false])), (1, some (.gmap [Value.string ⟨#[108, 111, 103, 45, 48, 48, 48, 48, 48, 48]⟩] [.ptr 2 0 0] [1] 2)), (2, some (.box 231 [.im (.row [[iI .u8 1], [iI .u8 0], [iI .u8 0], [iI .u8 0], [iI .u8 173], [iI .u8 222], [iI .u8 66], [iI .u8 251], [iI .u8 0]]), iV .i64 9])), (3, some (.gmap [Value.string ⟨#[108, 111, 103, 45, 48, 48, 48, 48, 48, 48]⟩] [.ptr 2 0 0] [1] 2)), (5, some (.row 1 9 [[sI (⟨#[108, 111, 103, 45, 48, 48, 48, 48, 48, 48]⟩ : ByteArray)]]))])] [(10, .own 6), (11, iV .i64 1), (12, iV .i64 0)] [0, 10, 11, 12] [(6, some (.row 1 9 [[sI (⟨#[108, 111, 103, 45, 48, 48, 48, 48, 48, 48]⟩ : ByteArray)]]))] [0, 1, 2, 3, 4, 5, 6] [_, _] ⟨Tryz.call55, cx58_Names, trivial⟩ ?_
  refine AWp.block ?_
  refine AWp.loop ?_
  refine LWp.round ?_
  refine sO hP hn hm [] [(13, bV true)] [0, 10, 11, 12, 13] [] [0, 1, 2, 3, 4, 5, 6] ?_
  refine AWp.seq ?_
  refine AWp.cond true (by kernel_rfl) (fun _ => ?_) (fun h => nomatch h)
  refine AWp.skip ?_
  show AWp Γ _ _ _
  refine AWp.seq ?_
  refine AWp.block ?_
  refine sR hP hn hm [(1, .c [sI (⟨#[108, 111, 103, 45, 48, 48, 48, 48, 48, 48]⟩ : ByteArray)])] [(3, sV (⟨#[108, 111, 103, 45, 48, 48, 48, 48, 48, 48]⟩ : ByteArray))] [0, 3, 10, 11, 12] [] [0, 1, 2, 3, 4, 5, 6] [(0 : Int) ≤ 0, (0 : Int) < ((([[sI (⟨#[108, 111, 103, 45, 48, 48, 48, 48, 48, 48]⟩ : ByteArray)]] : List (List Im)).length : Nat) : Int), ([[sI (⟨#[108, 111, 103, 45, 48, 48, 48, 48, 48, 48]⟩ : ByteArray)]] : List (List Im))[0]? = some [sI (⟨#[108, 111, 103, 45, 48, 48, 48, 48, 48, 48]⟩ : ByteArray)]] ⟨by decide, by decide, rfl, trivial⟩ ?_
  refine sR hP hn hm [(1, .callz [] [] [] [] 0 (iV .i64 0) []), (3, .callz [] [] [] [] 0 (iV .i64 (-1)) [])] [(4, iV .i64 0), (5, iV .i64 (-1))] [0, 3, 4, 5, 10, 11, 12] [] [0, 1, 2, 3, 4, 5, 6] [_, _, _, _] ⟨Tryz.call56, cx64_number, Tryz.call56, cx68_number, trivial⟩ ?_
  refine sO hP hn hm [] [(23, iV .i64 0), (24, bV true), (25, bV true), (26, iV .i64 0), (27, .ptr 0 0 0), (28, .ptr 0 0 0), (29, .ptr 0 0 5), (30, iV .i64 0), (31, bV false), (32, bV false), (35, iV .i64 (-1)), (36, bV false), (37, bV false), (46, bV false), (47, bV false)] [0, 3, 10, 11, 12, 23, 24, 25, 26, 27, 28, 29, 30, 31, 32, 35, 36, 37, 46, 47] [] [0, 1, 2, 3, 4, 5, 6] ?_
  refine AWp.cond false (by kernel_rfl) (fun h => nomatch h) (fun _ => ?_)
  refine AWp.skip ?_
  show AWp Γ _ _ _
  refine rO hP hn hm [] [(12, iV .i64 1)] [0, 10, 11, 12, 23, 24, 25, 26, 27, 28, 29, 30, 31, 32, 35, 36, 37, 46] [] [0, 1, 2, 3, 4, 5, 6] ?_
  show LWp Γ _ _ _
  refine LWp.round ?_
  refine sO hP hn hm [] [(13, bV false)] [0, 10, 11, 12, 13, 23, 24, 25, 26, 27, 28, 29, 30, 31, 32, 35, 36, 37, 46] [] [0, 1, 2, 3, 4, 5, 6] ?_
  refine AWp.seq ?_
  refine AWp.cond false (by kernel_rfl) (fun h => nomatch h) (fun _ => ?_)
  refine AWp.exit ?_
  exact rl (.inr rfl) rfl (by kernel_rfl) (by kernel_rfl)
theorem cx70_Down : Pv.Fn Tryz.prog 54 [.ptr 0 0 0] [(0, some (.box 126 [iV .i64 65536, .mown 1, .mown 3, iV .i64 (-1), iV .i64 4, bV false])), (1, some (.gmap [Value.string ⟨#[108, 111, 103, 45, 48, 48, 48, 48, 48, 48]⟩] [.ptr 2 0 0] [1] 2)), (2, some (.box 231 [.im (.row [[iI .u8 1], [iI .u8 0], [iI .u8 0], [iI .u8 0], [iI .u8 173], [iI .u8 222], [iI .u8 66], [iI .u8 251], [iI .u8 0]]), iV .i64 9])), (3, some (.gmap [Value.string ⟨#[108, 111, 103, 45, 48, 48, 48, 48, 48, 48]⟩] [.ptr 2 0 0] [1] 2))] 4 (fun x o => x = bV false ∧ o = [(0, some (.box 126 [iV .i64 65536, .mown 1, .mown 3, iV .i64 (-1), iV .i64 4, bV false])), (1, some (.gmap [Value.string ⟨#[108, 111, 103, 45, 48, 48, 48, 48, 48, 48]⟩] [.ptr 2 0 0] [1] 2)), (2, some (.box 231 [.im (.row [[iI .u8 1], [iI .u8 0], [iI .u8 0], [iI .u8 0], [iI .u8 173], [iI .u8 222], [iI .u8 66], [iI .u8 251], [iI .u8 0]]), iV .i64 9])), (3, some (.gmap [Value.string ⟨#[108, 111, 103, 45, 48, 48, 48, 48, 48, 48]⟩] [.ptr 2 0 0] [1] 2))]) := by
  refine Fn.bodyK [0, 1, 2, 3] Tryz.func54 rfl rfl (fun Γ hP hn => ?_)
  have hm : Tryz.prog.follows .mixedOrders = true := by kernel_rfl
  replace hn : Γ.n = 11 := hn
  refine sO hP hn hm [] [] [0] [] [0, 1, 2, 3] ?_
  refine sR hP hn hm [(1, .more (xPtrNil true))] [(2, bV false)] [2] [] [0, 1, 2, 3] [true = !false] ⟨rfl, trivial⟩ ?_
  refine AWp.ret ?_
  exact rl (.inl rfl) rfl (by kernel_rfl) (by kernel_rfl)
theorem cx71_publish : Pv.Fn Tryz.prog 59 [.ptr 0 0 0, .agg [iV .i64 0, .none0, .none0], .im (.sc (.map none))] [(0, some (.box 129 [.ptr 1 0 0, iV .i64 0, .none0, .none0, .mown 4, iV .i64 (-1), iV .i64 0, iV .i64 0])), (1, some (.box 126 [iV .i64 65536, .mown 2, .mown 3, iV .i64 (-1), iV .i64 0, bV false])), (2, some (.gmap [] [] [] 0)), (3, some (.gmap [] [] [] 0)), (4, some (.gmap [] [] [] 0))] 5 (fun x o => x = iV .i64 0 ∧ o = [(0, some (.box 129 [.ptr 1 0 0, iV .i64 0, .none0, .none0, .mown 4, iV .i64 0, iV .i64 0, iV .i64 0])), (1, some (.box 126 [iV .i64 65536, .mown 2, .mown 11, iV .i64 (-1), iV .i64 4, bV false])), (2, some (.gmap [Value.string ⟨#[108, 111, 103, 45, 48, 48, 48, 48, 48, 48]⟩] [.ptr 10 0 0] [1] 2)), (3, some (.gmap [] [] [] 0)), (4, some (.gmap [] [] [] 0)), (10, some (.box 231 [.im (.row [[iI .u8 1], [iI .u8 0], [iI .u8 0], [iI .u8 0], [iI .u8 173], [iI .u8 222], [iI .u8 66], [iI .u8 251], [iI .u8 0]]), iV .i64 9])), (11, some (.gmap [Value.string ⟨#[108, 111, 103, 45, 48, 48, 48, 48, 48, 48]⟩] [.ptr 10 0 0] [1] 2))]) := by
  refine Fn.bodyK [0, 1, 2, 3, 4, 10, 11] Tryz.func59 rfl rfl (fun Γ hP hn => ?_)
  have hm : Tryz.prog.follows .mixedOrders = true := by kernel_rfl
  replace hn : Γ.n = 171 := hn
  refine sO hP hn hm [(0, .k 5)] [(4, .ptr 5 0 0)] [0, 2, 4] [(5, some (.box 92 [iV .i64 0, .none0, .none0]))] [0, 1, 2, 3, 4, 5] ?_
  refine AWp.seq ?_
  refine sO hP hn hm [] [(19, bV false)] [0, 2, 4, 19] [] [0, 1, 2, 3, 4, 5] ?_
  refine AWp.cond false (by kernel_rfl) (fun h => nomatch h) (fun _ => ?_)
  refine AWp.skip ?_
  show AWp Γ _ _ _
  refine sR hP hn hm [(1, .callz [] [(2, 6)] [] [6] 0 (.tup [.own 2, iV .i64 0]) [(2, some (.row 1 5 [[iI .u8 0]]))])] [(7, .own 6), (8, iV .i64 0)] [0, 2, 4, 7, 8] [(6, some (.row 1 5 [[iI .u8 0]]))] [0, 1, 2, 3, 4, 5, 6] [_, _] ⟨Tryz.call99, cx26_Store, trivial⟩ ?_
  refine AWp.seq ?_
  refine sO hP hn hm [] [(35, bV false)] [0, 2, 4, 7, 35] [] [0, 1, 2, 3, 4, 5, 6] ?_
  refine AWp.cond false (by kernel_rfl) (fun h => nomatch h) (fun _ => ?_)
  refine AWp.skip ?_
  show AWp Γ _ _ _
  refine AWp.seq ?_
  refine sR hP hn hm [(1, .callz [] [(0, 7)] [] [7] 0 (.fn 174 [.ptr 0 0 0]) [(0, some (.box 127 [.im (.sc (.map none))]))]), (2, .callz [(7, 0)] [(0, 7), (1, 8)] [] [8] 1 (.own 1) [(0, some (.box 127 [.im (.sc (.map none))])), (1, some (.row 1 3 []))])] [(38, .own 8), (39, iV .i64 0), (40, iV .i64 0)] [0, 2, 4, 7, 38, 39, 40] [(8, some (.row 1 3 []))] [0, 1, 2, 3, 4, 5, 6, 8] [_, _, _, _] ⟨Tryz.call101, cx27_Keys, Tryz.call100, Fn.sortedNil (T := 127) (el := 3) sortednil_ok, trivial⟩ ?_
  refine AWp.block ?_
  refine AWp.loop ?_
  refine LWp.round ?_
  refine sO hP hn hm [] [(41, bV false)] [0, 2, 4, 7, 38, 39, 40, 41] [] [0, 1, 2, 3, 4, 5, 6, 8] ?_
  refine AWp.seq ?_
  refine AWp.cond false (by kernel_rfl) (fun h => nomatch h) (fun _ => ?_)
  refine AWp.exit ?_
  show AWp Γ _ _ _
  refine AWp.seq ?_
  refine sO hP hn hm [(7, .more xLenNil)] [(69, bV false)] [0, 2, 4, 7, 69] [] [0, 1, 2, 3, 4, 5, 6] ?_
  refine AWp.cond false (by kernel_rfl) (fun h => nomatch h) (fun _ => ?_)
  refine AWp.skip ?_
  show AWp Γ _ _ _
  refine AWp.conv (inv := [(0, 0), (1, 1), (2, 2), (3, 3), (4, 4), (5, 5)]) (vk := [6]) (e0 := []) (t := ⟨[(0, .ptr 0 0 0), (2, .im (.sc (.map none))), (4, .ptr 5 0 0), (7, .im (.row [[iI .u8 0]])), (69, bV false)], [(0, some (.box 129 [.ptr 1 0 0, iV .i64 0, .none0, .none0, .mown 4, iV .i64 (-1), iV .i64 0, iV .i64 0])), (1, some (.box 126 [iV .i64 65536, .mown 2, .mown 3, iV .i64 (-1), iV .i64 0, bV false])), (2, some (.gmap [] [] [] 0)), (3, some (.gmap [] [] [] 0)), (4, some (.gmap [] [] [] 0)), (5, some (.box 92 [iV .i64 0, .none0, .none0]))], 5⟩) (by kernel_rfl) ?_
  refine sR hP hn hm [(2, .callz [] [(5, 9)] [] [9] 0 (.own 5) [(5, some (.row 1 5 [[iI .u8 1], [iI .u8 0], [iI .u8 0], [iI .u8 0], [iI .u8 173], [iI .u8 222], [iI .u8 66], [iI .u8 251], [iI .u8 0]]))]), (3, .callz [(0, 0), (1, 1), (2, 2), (3, 3), (4, 4), (9, 5)] [(0, 0), (1, 1), (2, 2), (3, 3), (4, 4), (5, 9), (6, 10)] [] [10] 6 (.tup []) [(0, some (.box 129 [.ptr 1 0 0, iV .i64 0, .none0, .none0, .mown 4, iV .i64 (-1), iV .i64 0, iV .i64 0])), (1, some (.box 126 [iV .i64 65536, .mown 2, .mown 3, iV .i64 (-1), iV .i64 2, bV false])), (2, some (.gmap [Value.string ⟨#[110, 101, 119]⟩] [.ptr 6 0 0] [0] 1)), (3, some (.gmap [] [] [] 0)), (4, some (.gmap [] [] [] 0)), (5, some (.row 1 5 [[iI .u8 1], [iI .u8 0], [iI .u8 0], [iI .u8 0], [iI .u8 173], [iI .u8 222], [iI .u8 66], [iI .u8 251], [iI .u8 0]])), (6, some (.box 231 [.im (.row [[iI .u8 1], [iI .u8 0], [iI .u8 0], [iI .u8 0], [iI .u8 173], [iI .u8 222], [iI .u8 66], [iI .u8 251], [iI .u8 0]]), iV .i64 9]))])] [] [0, 2, 4] [(1, some (.box 126 [iV .i64 65536, .mown 2, .mown 3, iV .i64 (-1), iV .i64 2, bV false])), (2, some (.gmap [Value.string ⟨#[110, 101, 119]⟩] [.ptr 10 0 0] [0] 1)), (10, some (.box 231 [.im (.row [[iI .u8 1], [iI .u8 0], [iI .u8 0], [iI .u8 0], [iI .u8 173], [iI .u8 222], [iI .u8 66], [iI .u8 251], [iI .u8 0]]), iV .i64 9]))] [0, 1, 2, 3, 4, 5, 10] [_, _, _, _] ⟨Tryz.call105, cx30_Seal, Tryz.call103, cx37_put, trivial⟩ ?_
  refine AWp.seq ?_
  refine sO hP hn hm [] [(86, bV true)] [0, 2, 4, 86] [] [0, 1, 2, 3, 4, 5, 10] ?_
  refine AWp.cond true (by kernel_rfl) (fun _ => ?_) (fun h => nomatch h)
  refine rG hP hn hm [(10, .callz [] [] [] [] 0 (sV (⟨#[108, 111, 103, 45, 48, 48, 48, 48, 48, 48]⟩ : ByteArray)) []), (11, .callz [(1, 0), (2, 1), (10, 2), (3, 3)] [(0, 1), (1, 2), (2, 10), (3, 3)] [] [] 4 (iV .i64 0) [(0, some (.box 126 [iV .i64 65536, .mown 1, .mown 3, iV .i64 (-1), iV .i64 3, bV false])), (1, some (.gmap [Value.string ⟨#[108, 111, 103, 45, 48, 48, 48, 48, 48, 48]⟩] [.ptr 2 0 0] [1] 2)), (2, some (.box 231 [.im (.row [[iI .u8 1], [iI .u8 0], [iI .u8 0], [iI .u8 0], [iI .u8 173], [iI .u8 222], [iI .u8 66], [iI .u8 251], [iI .u8 0]]), iV .i64 9])), (3, some (.gmap [] [] [] 0))])] [] [0, 2, 4] [(1, some (.box 126 [iV .i64 65536, .mown 2, .mown 3, iV .i64 (-1), iV .i64 3, bV false])), (2, some (.gmap [Value.string ⟨#[108, 111, 103, 45, 48, 48, 48, 48, 48, 48]⟩] [.ptr 10 0 0] [1] 2))] [0, 1, 2, 3, 4, 5, 10] [_, _, _, _] ⟨Tryz.call88, cx51_file, Tryz.call106, cx54_Rename, trivial⟩ ?_
  show AWp Γ _ _ _
  refine AWp.seq ?_
  refine sO hP hn hm [] [(105, bV true)] [0, 2, 4, 105] [] [0, 1, 2, 3, 4, 5, 10] ?_
  refine AWp.cond true (by kernel_rfl) (fun _ => ?_) (fun h => nomatch h)
  refine rG hP hn hm [(5, .callz [(1, 0), (2, 1), (10, 2), (3, 3)] [(0, 1), (1, 2), (2, 10), (3, 3), (4, 11)] [] [11] 4 (iV .i64 0) [(0, some (.box 126 [iV .i64 65536, .mown 1, .mown 4, iV .i64 (-1), iV .i64 4, bV false])), (1, some (.gmap [Value.string ⟨#[108, 111, 103, 45, 48, 48, 48, 48, 48, 48]⟩] [.ptr 2 0 0] [1] 2)), (2, some (.box 231 [.im (.row [[iI .u8 1], [iI .u8 0], [iI .u8 0], [iI .u8 0], [iI .u8 173], [iI .u8 222], [iI .u8 66], [iI .u8 251], [iI .u8 0]]), iV .i64 9])), (3, some (.gmap [] [] [] 0)), (4, some (.gmap [Value.string ⟨#[108, 111, 103, 45, 48, 48, 48, 48, 48, 48]⟩] [.ptr 2 0 0] [1] 2))])] [] [0, 2, 4] [(1, some (.box 126 [iV .i64 65536, .mown 2, .mown 11, iV .i64 (-1), iV .i64 4, bV false])), (11, some (.gmap [Value.string ⟨#[108, 111, 103, 45, 48, 48, 48, 48, 48, 48]⟩] [.ptr 10 0 0] [1] 2))] [0, 1, 2, 3, 4, 5, 10, 11] [_, _] ⟨Tryz.call104, cx56_SyncNames, trivial⟩ ?_
  show AWp Γ _ _ _
  refine AWp.seq ?_
  refine sO hP hn hm [] [(8, iV .i64 0)] [0, 2, 4, 8] [] [0, 1, 2, 3, 4, 5, 10, 11] ?_
  refine sO hP hn hm [] [(119, bV false)] [0, 2, 4, 8, 119] [] [0, 1, 2, 3, 4, 5, 10, 11] ?_
  refine AWp.cond false (by kernel_rfl) (fun h => nomatch h) (fun _ => ?_)
  refine AWp.skip ?_
  show AWp Γ _ _ _
  refine AWp.seq ?_
  refine sO hP hn hm [(1, .more (xRngNil 12))] [(124, .ptr 12 0 0)] [0, 4, 124] [(12, some .niter)] [0, 1, 2, 3, 4, 5, 10, 11, 12] ?_
  refine AWp.block ?_
  refine AWp.loop ?_
  refine LWp.round ?_
  refine AWp.seq ?_
  refine AWp.nextNil 125 126 12 hP rfl rfl rfl rfl rfl rfl (by rw [hn]; decide) (by rw [hn]; decide) (by kernel_rfl) (by kernel_rfl) ?_
  show AWp Γ _ _ _
  refine AWp.seq ?_
  refine AWp.cond false (by kernel_rfl) (fun h => nomatch h) (fun _ => ?_)
  refine AWp.exit ?_
  show AWp Γ _ _ _
  refine sO hP hn hm [] [] [0] [] [0, 1, 2, 3, 4, 10, 11] ?_
  refine sO hP hn hm [] [] [0] [(0, some (.box 129 [.ptr 1 0 0, iV .i64 0, .none0, .none0, .mown 4, iV .i64 0, iV .i64 0, iV .i64 0]))] [0, 1, 2, 3, 4, 10, 11] ?_
  refine sR hP hn hm [(1, .callz [(0, 0), (1, 1), (2, 2), (10, 3), (11, 4), (4, 5)] [(0, 0), (1, 1), (2, 2), (3, 10), (4, 11), (5, 4)] [] [] 6 (.tup []) [(0, some (.box 129 [.ptr 1 0 0, iV .i64 0, .none0, .none0, .mown 5, iV .i64 0, iV .i64 0, iV .i64 0])), (1, some (.box 126 [iV .i64 65536, .mown 2, .mown 4, iV .i64 (-1), iV .i64 4, bV false])), (2, some (.gmap [Value.string ⟨#[108, 111, 103, 45, 48, 48, 48, 48, 48, 48]⟩] [.ptr 3 0 0] [1] 2)), (3, some (.box 231 [.im (.row [[iI .u8 1], [iI .u8 0], [iI .u8 0], [iI .u8 0], [iI .u8 173], [iI .u8 222], [iI .u8 66], [iI .u8 251], [iI .u8 0]]), iV .i64 9])), (4, some (.gmap [Value.string ⟨#[108, 111, 103, 45, 48, 48, 48, 48, 48, 48]⟩] [.ptr 3 0 0] [1] 2)), (5, some (.gmap [] [] [] 0))])] [] [0] [] [0, 1, 2, 3, 4, 10, 11] [_, _] ⟨Tryz.call58, cx69_sweep, trivial⟩ ?_
  refine AWp.seq ?_
  refine sR hP hn hm [(4, .callz [(1, 0), (2, 1), (10, 2), (11, 3)] [(0, 1), (1, 2), (2, 10), (3, 11)] [] [] 4 (bV false) [(0, some (.box 126 [iV .i64 65536, .mown 1, .mown 3, iV .i64 (-1), iV .i64 4, bV false])), (1, some (.gmap [Value.string ⟨#[108, 111, 103, 45, 48, 48, 48, 48, 48, 48]⟩] [.ptr 2 0 0] [1] 2)), (2, some (.box 231 [.im (.row [[iI .u8 1], [iI .u8 0], [iI .u8 0], [iI .u8 0], [iI .u8 173], [iI .u8 222], [iI .u8 66], [iI .u8 251], [iI .u8 0]]), iV .i64 9])), (3, some (.gmap [Value.string ⟨#[108, 111, 103, 45, 48, 48, 48, 48, 48, 48]⟩] [.ptr 2 0 0] [1] 2))])] [(163, bV false)] [0, 163] [] [0, 1, 2, 3, 4, 10, 11] [_, _] ⟨Tryz.call54, cx70_Down, trivial⟩ ?_
  refine AWp.cond false (by kernel_rfl) (fun h => nomatch h) (fun _ => ?_)
  refine AWp.skip ?_
  show AWp Γ _ _ _
  refine sO hP hn hm [] [(6, iV .i64 0)] [6] [] [0, 1, 2, 3, 4, 10, 11] ?_
  refine AWp.ret ?_
  exact rl (.inl rfl) rfl (by kernel_rfl) (by kernel_rfl)
theorem cx72_Open : Pv.Fn Tryz.prog 36 [.ptr 0 0 0] [(0, some (.box 126 [iV .i64 65536, .mown 1, .mown 2, iV .i64 (-1), iV .i64 0, bV false])), (1, some (.gmap [] [] [] 0)), (2, some (.gmap [] [] [] 0))] 3 (fun x o => x = .tup [.ptr 4 0 0, sV (⟨#[]⟩ : ByteArray), iV .i64 0] ∧ o = [(0, some (.box 126 [iV .i64 65536, .mown 1, .mown 7, iV .i64 (-1), iV .i64 4, bV false])), (1, some (.gmap [Value.string ⟨#[108, 111, 103, 45, 48, 48, 48, 48, 48, 48]⟩] [.ptr 6 0 0] [1] 2)), (2, some (.gmap [] [] [] 0)), (3, some (.gmap [] [] [] 0)), (4, some (.box 129 [.ptr 0 0 0, iV .i64 0, .none0, .none0, .mown 3, iV .i64 0, iV .i64 0, iV .i64 0])), (6, some (.box 231 [.im (.row [[iI .u8 1], [iI .u8 0], [iI .u8 0], [iI .u8 0], [iI .u8 173], [iI .u8 222], [iI .u8 66], [iI .u8 251], [iI .u8 0]]), iV .i64 9])), (7, some (.gmap [Value.string ⟨#[108, 111, 103, 45, 48, 48, 48, 48, 48, 48]⟩] [.ptr 6 0 0] [1] 2))]) := by
  refine Fn.bodyK [0, 1, 2, 3, 4, 6, 7] Tryz.func36 rfl rfl (fun Γ hP hn => ?_)
  have hm : Tryz.prog.follows .mixedOrders = true := by kernel_rfl
  replace hn : Γ.n = 77 := hn
  refine sO hP hn hm [] [] [0] [] [0, 1, 2] ?_
  refine AWp.seq ?_
  refine AWp.block ?_
  refine sR hP hn hm [(1, .more (xPtrNil false))] [(12, bV false)] [0, 12] [] [0, 1, 2] [false = false] ⟨rfl, trivial⟩ ?_
  refine AWp.cond false (by kernel_rfl) (fun h => nomatch h) (fun _ => ?_)
  refine sR hP hn hm [(1, .callz [(0, 0), (1, 1), (2, 2)] [(0, 0), (1, 1), (2, 2)] [] [] 3 (bV false) [(0, some (.box 126 [iV .i64 65536, .mown 1, .mown 2, iV .i64 (-1), iV .i64 0, bV false])), (1, some (.gmap [] [] [] 0)), (2, some (.gmap [] [] [] 0))])] [(15, bV false)] [0, 15] [] [0, 1, 2] [_, _] ⟨Tryz.call54, cx2_Down, trivial⟩ ?_
  refine AWp.cond false (by kernel_rfl) (fun h => nomatch h) (fun _ => ?_)
  refine AWp.skip ?_
  show AWp Γ _ _ _
  refine sO hP hn hm [(1, .more (xMkG 3)), (3, .k 4)] [(5, .ptr 4 0 0)] [0, 5] [(3, some (.gmap [] [] [] 0)), (4, some (.box 129 [.ptr 0 0 0, iV .i64 0, .none0, .none0, .mown 3, iV .i64 (-1), iV .i64 0, iV .i64 0]))] [0, 1, 2, 3, 4] ?_
  refine sO hP hn hm [] [(6, iV .i64 (-1))] [0, 5, 6] [] [0, 1, 2, 3, 4] ?_
  refine AWp.seq ?_
  refine sR hP hn hm [(1, .callz [(0, 0), (1, 1), (2, 2)] [(0, 0), (1, 1), (2, 2), (4, 5)] [] [5] 3 (.own 4) [(0, some (.box 126 [iV .i64 65536, .mown 1, .mown 2, iV .i64 (-1), iV .i64 0, bV false])), (1, some (.gmap [] [] [] 0)), (2, some (.gmap [] [] [] 0)), (4, some (.row 1 9 []))])] [(23, .own 5), (24, iV .i64 0), (25, iV .i64 0)] [0, 5, 6, 23, 24, 25] [(5, some (.row 1 9 []))] [0, 1, 2, 3, 4, 5] [_, _] ⟨Tryz.call55, cx4_Names, trivial⟩ ?_
  refine AWp.block ?_
  refine AWp.loop ?_
  refine LWp.round ?_
  refine sO hP hn hm [] [(26, bV false)] [0, 5, 6, 23, 24, 25, 26] [] [0, 1, 2, 3, 4, 5] ?_
  refine AWp.seq ?_
  refine AWp.cond false (by kernel_rfl) (fun h => nomatch h) (fun _ => ?_)
  refine AWp.exit ?_
  show AWp Γ _ _ _
  refine sO hP hn hm [] [(9, bV true)] [0, 5, 6, 9] [] [0, 1, 2, 3, 4] ?_
  refine AWp.seq ?_
  refine sO hP hn hm [] [(46, bV false)] [0, 5, 6, 9, 46] [] [0, 1, 2, 3, 4] ?_
  refine AWp.cond false (by kernel_rfl) (fun h => nomatch h) (fun _ => ?_)
  refine AWp.skip ?_
  show AWp Γ _ _ _
  refine sR hP hn hm [(1, .callz [(4, 0), (0, 1), (1, 2), (2, 3), (3, 4)] [(0, 4), (1, 0), (2, 1), (3, 2), (4, 3)] [] [] 5 (.tup []) [(0, some (.box 129 [.ptr 1 0 0, iV .i64 0, .none0, .none0, .mown 4, iV .i64 (-1), iV .i64 0, iV .i64 0])), (1, some (.box 126 [iV .i64 65536, .mown 2, .mown 3, iV .i64 (-1), iV .i64 0, bV false])), (2, some (.gmap [] [] [] 0)), (3, some (.gmap [] [] [] 0)), (4, some (.gmap [] [] [] 0))])] [] [0, 5, 9] [] [0, 1, 2, 3, 4] [_, _] ⟨Tryz.call58, cx5_sweep, trivial⟩ ?_
  refine AWp.seq ?_
  refine sO hP hn hm [] [(58, bV true)] [0, 5, 58] [] [0, 1, 2, 3, 4] ?_
  refine AWp.cond true (by kernel_rfl) (fun _ => ?_) (fun h => nomatch h)
  refine sR hP hn hm [(5, .callz [(4, 0), (0, 1), (1, 2), (2, 3), (3, 4)] [(0, 4), (1, 0), (2, 1), (3, 2), (4, 3), (10, 6), (11, 7)] [] [6, 7] 5 (iV .i64 0) [(0, some (.box 129 [.ptr 1 0 0, iV .i64 0, .none0, .none0, .mown 4, iV .i64 0, iV .i64 0, iV .i64 0])), (1, some (.box 126 [iV .i64 65536, .mown 2, .mown 11, iV .i64 (-1), iV .i64 4, bV false])), (2, some (.gmap [Value.string ⟨#[108, 111, 103, 45, 48, 48, 48, 48, 48, 48]⟩] [.ptr 10 0 0] [1] 2)), (3, some (.gmap [] [] [] 0)), (4, some (.gmap [] [] [] 0)), (10, some (.box 231 [.im (.row [[iI .u8 1], [iI .u8 0], [iI .u8 0], [iI .u8 0], [iI .u8 173], [iI .u8 222], [iI .u8 66], [iI .u8 251], [iI .u8 0]]), iV .i64 9])), (11, some (.gmap [Value.string ⟨#[108, 111, 103, 45, 48, 48, 48, 48, 48, 48]⟩] [.ptr 10 0 0] [1] 2))])] [(11, iV .i64 0)] [0, 5, 11] [(0, some (.box 126 [iV .i64 65536, .mown 1, .mown 7, iV .i64 (-1), iV .i64 4, bV false])), (1, some (.gmap [Value.string ⟨#[108, 111, 103, 45, 48, 48, 48, 48, 48, 48]⟩] [.ptr 6 0 0] [1] 2)), (4, some (.box 129 [.ptr 0 0 0, iV .i64 0, .none0, .none0, .mown 3, iV .i64 0, iV .i64 0, iV .i64 0])), (6, some (.box 231 [.im (.row [[iI .u8 1], [iI .u8 0], [iI .u8 0], [iI .u8 0], [iI .u8 173], [iI .u8 222], [iI .u8 66], [iI .u8 251], [iI .u8 0]]), iV .i64 9])), (7, some (.gmap [Value.string ⟨#[108, 111, 103, 45, 48, 48, 48, 48, 48, 48]⟩] [.ptr 6 0 0] [1] 2))] [0, 1, 2, 3, 4, 6, 7] [_, _] ⟨Tryz.call59, cx71_publish, trivial⟩ ?_
  refine sO hP hn hm [] [(69, bV true)] [0, 5, 11, 69] [] [0, 1, 2, 3, 4, 6, 7] ?_
  refine AWp.cond true (by kernel_rfl) (fun _ => ?_) (fun h => nomatch h)
  refine rO hP hn hm [] [] [0, 5] [] [0, 1, 2, 3, 4, 6, 7] ?_
  show AWp Γ _ _ _
  refine AWp.seq ?_
  refine sR hP hn hm [(1, .callz [(0, 0), (1, 1), (6, 2), (7, 3)] [(0, 0), (1, 1), (2, 6), (3, 7)] [] [] 4 (bV false) [(0, some (.box 126 [iV .i64 65536, .mown 1, .mown 3, iV .i64 (-1), iV .i64 4, bV false])), (1, some (.gmap [Value.string ⟨#[108, 111, 103, 45, 48, 48, 48, 48, 48, 48]⟩] [.ptr 2 0 0] [1] 2)), (2, some (.box 231 [.im (.row [[iI .u8 1], [iI .u8 0], [iI .u8 0], [iI .u8 0], [iI .u8 173], [iI .u8 222], [iI .u8 66], [iI .u8 251], [iI .u8 0]]), iV .i64 9])), (3, some (.gmap [Value.string ⟨#[108, 111, 103, 45, 48, 48, 48, 48, 48, 48]⟩] [.ptr 2 0 0] [1] 2))])] [(75, bV false)] [5, 75] [] [0, 1, 2, 3, 4, 6, 7] [_, _] ⟨Tryz.call54, cx70_Down, trivial⟩ ?_
  refine AWp.cond false (by kernel_rfl) (fun h => nomatch h) (fun _ => ?_)
  refine AWp.skip ?_
  show AWp Γ _ _ _
  refine sO hP hn hm [] [(2, .ptr 4 0 0), (3, sV (⟨#[]⟩ : ByteArray)), (4, iV .i64 0)] [2, 3, 4] [] [0, 1, 2, 3, 4, 6, 7] ?_
  refine AWp.ret ?_
  exact rl (.inl rfl) rfl (by kernel_rfl) (by kernel_rfl)
theorem cx73_ReadOnly : Pv.Fn Tryz.prog 37 [.ptr 0 0 0] [(0, some (.box 129 [.ptr 1 0 0, iV .i64 0, .none0, .none0, .mown 5, iV .i64 0, iV .i64 0, iV .i64 0])), (1, some (.box 126 [iV .i64 65536, .mown 2, .mown 4, iV .i64 (-1), iV .i64 4, bV false])), (2, some (.gmap [Value.string ⟨#[108, 111, 103, 45, 48, 48, 48, 48, 48, 48]⟩] [.ptr 3 0 0] [1] 2)), (3, some (.box 231 [.im (.row [[iI .u8 1], [iI .u8 0], [iI .u8 0], [iI .u8 0], [iI .u8 173], [iI .u8 222], [iI .u8 66], [iI .u8 251], [iI .u8 0]]), iV .i64 9])), (4, some (.gmap [Value.string ⟨#[108, 111, 103, 45, 48, 48, 48, 48, 48, 48]⟩] [.ptr 3 0 0] [1] 2)), (5, some (.gmap [] [] [] 0))] 6 (fun x o => x = bV false ∧ o = [(0, some (.box 129 [.ptr 1 0 0, iV .i64 0, .none0, .none0, .mown 5, iV .i64 0, iV .i64 0, iV .i64 0])), (1, some (.box 126 [iV .i64 65536, .mown 2, .mown 4, iV .i64 (-1), iV .i64 4, bV false])), (2, some (.gmap [Value.string ⟨#[108, 111, 103, 45, 48, 48, 48, 48, 48, 48]⟩] [.ptr 3 0 0] [1] 2)), (3, some (.box 231 [.im (.row [[iI .u8 1], [iI .u8 0], [iI .u8 0], [iI .u8 0], [iI .u8 173], [iI .u8 222], [iI .u8 66], [iI .u8 251], [iI .u8 0]]), iV .i64 9])), (4, some (.gmap [Value.string ⟨#[108, 111, 103, 45, 48, 48, 48, 48, 48, 48]⟩] [.ptr 3 0 0] [1] 2)), (5, some (.gmap [] [] [] 0))]) := by
  refine Fn.bodyK [0, 1, 2, 3, 4, 5] Tryz.func37 rfl rfl (fun Γ hP hn => ?_)
  have hm : Tryz.prog.follows .mixedOrders = true := by kernel_rfl
  replace hn : Γ.n = 12 := hn
  refine sO hP hn hm [] [] [0] [] [0, 1, 2, 3, 4, 5] ?_
  refine sR hP hn hm [(1, .more (xPtrNil false))] [(2, bV false)] [2] [] [0, 1, 2, 3, 4, 5] [false = false] ⟨rfl, trivial⟩ ?_
  refine AWp.ret ?_
  exact rl (.inl rfl) rfl (by kernel_rfl) (by kernel_rfl)
theorem cx74_Begun : Pv.Fn Tryz.prog 17 [iV .i64 65536] [] 0 (fun x o => x = .ptr 7 0 0 ∧ o = [(0, some (.gmap [Value.string ⟨#[108, 111, 103, 45, 48, 48, 48, 48, 48, 48]⟩] [.ptr 5 0 0] [1] 2)), (2, some (.box 126 [iV .i64 65536, .mown 0, .mown 6, iV .i64 (-1), iV .i64 4, bV false])), (3, some (.gmap [] [] [] 0)), (4, some (.box 129 [.ptr 2 0 0, iV .i64 0, .none0, .none0, .mown 3, iV .i64 0, iV .i64 0, iV .i64 0])), (5, some (.box 231 [.im (.row [[iI .u8 1], [iI .u8 0], [iI .u8 0], [iI .u8 0], [iI .u8 173], [iI .u8 222], [iI .u8 66], [iI .u8 251], [iI .u8 0]]), iV .i64 9])), (6, some (.gmap [Value.string ⟨#[108, 111, 103, 45, 48, 48, 48, 48, 48, 48]⟩] [.ptr 5 0 0] [1] 2)), (7, some (.box 56 [.ptr 2 0 0, .ptr 4 0 0, iV .i64 0, .none0, .im (.sc (.pointer none)), bV false]))]) := by
  refine Fn.bodyK [0, 2, 3, 4, 5, 6, 7] Tryz.func17 rfl rfl (fun Γ hP hn => ?_)
  have hm : Tryz.prog.follows .mixedOrders = true := by kernel_rfl
  replace hn : Γ.n = 37 := hn
  refine sO hP hn hm [] [] [0] [] [] ?_
  refine sR hP hn hm [(1, .callz [] [(0, 0), (1, 1), (2, 2)] [] [0, 1, 2] 0 (.tup [.ptr 2 0 0, iV .i64 0]) [(0, some (.gmap [] [] [] 0)), (1, some (.gmap [] [] [] 0)), (2, some (.box 126 [iV .i64 65536, .mown 0, .mown 1, iV .i64 (-1), iV .i64 0, bV false]))])] [(3, .ptr 2 0 0), (4, iV .i64 0)] [3, 4] [(0, some (.gmap [] [] [] 0)), (1, some (.gmap [] [] [] 0)), (2, some (.box 126 [iV .i64 65536, .mown 0, .mown 1, iV .i64 (-1), iV .i64 0, bV false]))] [0, 1, 2] [_, _] ⟨Tryz.call35, cx1_New, trivial⟩ ?_
  refine AWp.seq ?_
  refine sR hP hn hm [(1, .more (xPtrNil false))] [(18, bV false)] [3, 18] [] [0, 1, 2] [false = false] ⟨rfl, trivial⟩ ?_
  refine AWp.cond false (by kernel_rfl) (fun h => nomatch h) (fun _ => ?_)
  refine AWp.skip ?_
  show AWp Γ _ _ _
  refine sR hP hn hm [(1, .callz [(2, 0), (0, 1), (1, 2)] [(0, 2), (1, 0), (2, 1), (3, 3), (4, 4), (6, 5), (7, 6)] [] [3, 4, 5, 6] 3 (.tup [.ptr 4 0 0, sV (⟨#[]⟩ : ByteArray), iV .i64 0]) [(0, some (.box 126 [iV .i64 65536, .mown 1, .mown 7, iV .i64 (-1), iV .i64 4, bV false])), (1, some (.gmap [Value.string ⟨#[108, 111, 103, 45, 48, 48, 48, 48, 48, 48]⟩] [.ptr 6 0 0] [1] 2)), (2, some (.gmap [] [] [] 0)), (3, some (.gmap [] [] [] 0)), (4, some (.box 129 [.ptr 0 0 0, iV .i64 0, .none0, .none0, .mown 3, iV .i64 0, iV .i64 0, iV .i64 0])), (6, some (.box 231 [.im (.row [[iI .u8 1], [iI .u8 0], [iI .u8 0], [iI .u8 0], [iI .u8 173], [iI .u8 222], [iI .u8 66], [iI .u8 251], [iI .u8 0]]), iV .i64 9])), (7, some (.gmap [Value.string ⟨#[108, 111, 103, 45, 48, 48, 48, 48, 48, 48]⟩] [.ptr 6 0 0] [1] 2))])] [(5, .ptr 4 0 0), (7, iV .i64 0)] [3, 5, 7] [(0, some (.gmap [Value.string ⟨#[108, 111, 103, 45, 48, 48, 48, 48, 48, 48]⟩] [.ptr 5 0 0] [1] 2)), (2, some (.box 126 [iV .i64 65536, .mown 0, .mown 6, iV .i64 (-1), iV .i64 4, bV false])), (3, some (.gmap [] [] [] 0)), (4, some (.box 129 [.ptr 2 0 0, iV .i64 0, .none0, .none0, .mown 3, iV .i64 0, iV .i64 0, iV .i64 0])), (5, some (.box 231 [.im (.row [[iI .u8 1], [iI .u8 0], [iI .u8 0], [iI .u8 0], [iI .u8 173], [iI .u8 222], [iI .u8 66], [iI .u8 251], [iI .u8 0]]), iV .i64 9])), (6, some (.gmap [Value.string ⟨#[108, 111, 103, 45, 48, 48, 48, 48, 48, 48]⟩] [.ptr 5 0 0] [1] 2))] [0, 2, 3, 4, 5, 6] [_, _] ⟨Tryz.call36, cx72_Open, trivial⟩ ?_
  refine AWp.seq ?_
  refine sR hP hn hm [(1, .more (xPtrNil false))] [(30, bV false)] [3, 5, 30] [] [0, 2, 3, 4, 5, 6] [false = false] ⟨rfl, trivial⟩ ?_
  refine AWp.cond false (by kernel_rfl) (fun h => nomatch h) (fun _ => ?_)
  refine AWp.skip ?_
  show AWp Γ _ _ _
  refine sR hP hn hm [(3, .callz [(4, 0), (2, 1), (0, 2), (5, 3), (6, 4), (3, 5)] [(0, 4), (1, 2), (2, 0), (3, 5), (4, 6), (5, 3)] [] [] 6 (bV false) [(0, some (.box 129 [.ptr 1 0 0, iV .i64 0, .none0, .none0, .mown 5, iV .i64 0, iV .i64 0, iV .i64 0])), (1, some (.box 126 [iV .i64 65536, .mown 2, .mown 4, iV .i64 (-1), iV .i64 4, bV false])), (2, some (.gmap [Value.string ⟨#[108, 111, 103, 45, 48, 48, 48, 48, 48, 48]⟩] [.ptr 3 0 0] [1] 2)), (3, some (.box 231 [.im (.row [[iI .u8 1], [iI .u8 0], [iI .u8 0], [iI .u8 0], [iI .u8 173], [iI .u8 222], [iI .u8 66], [iI .u8 251], [iI .u8 0]]), iV .i64 9])), (4, some (.gmap [Value.string ⟨#[108, 111, 103, 45, 48, 48, 48, 48, 48, 48]⟩] [.ptr 3 0 0] [1] 2)), (5, some (.gmap [] [] [] 0))]), (5, .k 7)] [(2, .ptr 7 0 0)] [2] [(7, some (.box 56 [.ptr 2 0 0, .ptr 4 0 0, iV .i64 0, .none0, .im (.sc (.pointer none)), bV false]))] [0, 2, 3, 4, 5, 6, 7] [_, _] ⟨Tryz.call37, cx73_ReadOnly, trivial⟩ ?_
  refine AWp.ret ?_
  exact rl (.inl rfl) rfl (by kernel_rfl) (by kernel_rfl)
theorem cx75_Error : Pv.Fn Tryz.prog 5 [iV .i64 10] [] 0 (fun x o => x = sV (⟨#[102, 117, 108, 108]⟩ : ByteArray) ∧ o = []) := by
  refine Fn.bodyK [] Tryz.func5 rfl rfl (fun Γ hP hn => ?_)
  have hm : Tryz.prog.follows .mixedOrders = true := by kernel_rfl
  replace hn : Γ.n = 25 := hn
  refine sO hP hn hm [] [] [0] [] [] ?_
  refine AWp.seq ?_
  refine AWp.block ?_
  refine sO hP hn hm [] [(3, bV true)] [0, 3] [] [] ?_
  refine AWp.cond true (by kernel_rfl) (fun _ => ?_) (fun h => nomatch h)
  refine sR hP hn hm [(1, .more (xIdxG Value.string gt0 (⟨#[102, 117, 108, 108]⟩ : ByteArray)))] [(2, sV (⟨#[102, 117, 108, 108]⟩ : ByteArray))] [2] [] [] [1 = 1, _, gt0.length = 13, (0 : Int) ≤ 10, gt0[Int.toNat 10]? = some (⟨#[102, 117, 108, 108]⟩ : ByteArray)] ⟨rfl, gt0_ok, rfl, by decide, rfl, trivial⟩ ?_
  refine AWp.ret ?_
  exact rl (.inl rfl) rfl (by kernel_rfl) (by kernel_rfl)
end Go.Proofs.YtppfbpckgfkhfaaGreatDoor.PvGO
