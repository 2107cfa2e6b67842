import Derived.Test.YtppfbpckgfkhfaaGreatDoorProg
import Derived.Test.YtppfbpckgfkhfaaGreatDoorPxReportNames06
set_option linter.unusedVariables false
set_option linter.unnecessarySimpa false
set_option linter.unusedSimpArgs false
set_option maxRecDepth 10000
namespace Go.Proofs.YtppfbpckgfkhfaaGreatDoor.PvGO
open Go Go.Pv
theorem cln107 : Pv.Fn Tryz.prog 107 [.im (.row [])] [] 0 (fun x o => x = .own 0 ∧ o = [(0, some (.row 1 3 []))]) := by
  refine Fn.bodyK [0] Tryz.func107 rfl rfl (fun Γ hP hn => ?_)
  have hm : Tryz.prog.follows .mixedOrders = true := by kernel_rfl
  replace hn : Γ.n = 8 := hn
  refine AWp.seq ?_
  refine reg hP hn hm [] [0, 2] [] ⟨[(0, .im (.row [])), (2, .none0)], [], 0⟩ [] (by kernel_rfl) trivial ?_
  refine AWp.seq ?_
  refine AWp.nilSplit 0 rfl (fun b m => ?_)
  refine AWp.seq ?_
  cases b with
  | none =>
    refine reg hP hn hm [(1, .more xNil)] [2, 4] [] ⟨[(2, .none0), (4, bV true)], [], 0⟩ [] (by kernel_rfl) trivial ?_
    refine AWp.cond true rfl (fun _ => ?_) (fun h => nomatch h)
    refine AWp.seq ?_
    refine reg hP hn hm [] [2] [] ⟨[(2, .none0)], [], 0⟩ [] (by kernel_rfl) trivial ?_
    refine AWp.conv (inv := []) (vk := []) (e0 := [0]) (t := ⟨[(2, .own 0)], [(0, some (.row 1 3 []))], 0⟩) (by kernel_rfl) ?_
    refine AWp.ret ?_
    exact Exists.intro _ (And.intro (fun _ _ h => h) (And.intro (.inl rfl) (And.intro rfl (And.intro (by kernel_rfl) (by kernel_rfl)))))
  | some b =>
    refine reg hP hn hm [(1, .more xNil)] [0, 2, 4] [] ⟨[(0, .im (.sc (.slice (some b) 0 m))), (2, .none0), (4, bV false)], [], 0⟩ [] (by kernel_rfl) trivial ?_
    refine AWp.cond false rfl (fun h => nomatch h) (fun _ => ?_)
    refine AWp.skip ?_
    refine AWp.unsplit 0 rfl ?_
    refine AWp.seq ?_
    refine reg hP hn hm [(0, .app 0 ([] : List (List Im))), (2, .app 1 [])] [2] [1] ⟨[(2, .own 1)], [(1, some (.row 1 3 []))], 0⟩ [([] : List (List Im)) = [], ([] : List (List Im)) = ([] : List (List Im)) ++ [], ∀ c ∈ ([] : List (List Im)), c.length = 1, ∀ c ∈ ([] : List (List Im)), leaves (c.map .im) = true, (([] : List (List Im)).length + ([] : List (List Im)).length) * 8 ≤ 140737488355328] (by kernel_rfl) ⟨rfl, rfl, by simp, by simp, by decide, trivial⟩ ?_
    refine AWp.conv (inv := [(1, 0)]) (vk := []) (e0 := []) (t := ⟨[(2, .own 0)], [(0, some (.row 1 3 []))], 0⟩) (by kernel_rfl) ?_
    refine AWp.ret ?_
    exact Exists.intro _ (And.intro (fun _ _ h => h) (And.intro (.inl rfl) (And.intro rfl (And.intro (by kernel_rfl) (by kernel_rfl)))))
theorem cln108 : Pv.Fn Tryz.prog 108 [.im (.row [])] [] 0 (fun x o => x = .own 0 ∧ o = [(0, some (.row 4 99 []))]) := by
  refine Fn.bodyK [0] Tryz.func108 rfl rfl (fun Γ hP hn => ?_)
  have hm : Tryz.prog.follows .mixedOrders = true := by kernel_rfl
  replace hn : Γ.n = 8 := hn
  refine AWp.seq ?_
  refine reg hP hn hm [] [0, 2] [] ⟨[(0, .im (.row [])), (2, .none0)], [], 0⟩ [] (by kernel_rfl) trivial ?_
  refine AWp.seq ?_
  refine AWp.nilSplit 0 rfl (fun b m => ?_)
  refine AWp.seq ?_
  cases b with
  | none =>
    refine reg hP hn hm [(1, .more xNil)] [2, 4] [] ⟨[(2, .none0), (4, bV true)], [], 0⟩ [] (by kernel_rfl) trivial ?_
    refine AWp.cond true rfl (fun _ => ?_) (fun h => nomatch h)
    refine AWp.seq ?_
    refine reg hP hn hm [] [2] [] ⟨[(2, .none0)], [], 0⟩ [] (by kernel_rfl) trivial ?_
    refine AWp.conv (inv := []) (vk := []) (e0 := [0]) (t := ⟨[(2, .own 0)], [(0, some (.row 4 99 []))], 0⟩) (by kernel_rfl) ?_
    refine AWp.ret ?_
    exact Exists.intro _ (And.intro (fun _ _ h => h) (And.intro (.inl rfl) (And.intro rfl (And.intro (by kernel_rfl) (by kernel_rfl)))))
  | some b =>
    refine reg hP hn hm [(1, .more xNil)] [0, 2, 4] [] ⟨[(0, .im (.sc (.slice (some b) 0 m))), (2, .none0), (4, bV false)], [], 0⟩ [] (by kernel_rfl) trivial ?_
    refine AWp.cond false rfl (fun h => nomatch h) (fun _ => ?_)
    refine AWp.skip ?_
    refine AWp.unsplit 0 rfl ?_
    refine AWp.seq ?_
    refine reg hP hn hm [(0, .app 0 ([] : List (List Im))), (2, .app 1 [])] [2] [1] ⟨[(2, .own 1)], [(1, some (.row 4 99 []))], 0⟩ [([] : List (List Im)) = [], ([] : List (List Im)) = ([] : List (List Im)) ++ [], ∀ c ∈ ([] : List (List Im)), c.length = 4, ∀ c ∈ ([] : List (List Im)), leaves (c.map .im) = true, (([] : List (List Im)).length + ([] : List (List Im)).length) * 72 ≤ 140737488355328] (by kernel_rfl) ⟨rfl, rfl, by simp, by simp, by decide, trivial⟩ ?_
    refine AWp.conv (inv := [(1, 0)]) (vk := []) (e0 := []) (t := ⟨[(2, .own 0)], [(0, some (.row 4 99 []))], 0⟩) (by kernel_rfl) ?_
    refine AWp.ret ?_
    exact Exists.intro _ (And.intro (fun _ _ h => h) (And.intro (.inl rfl) (And.intro rfl (And.intro (by kernel_rfl) (by kernel_rfl)))))
theorem cx76_twin : Pv.Fn Tryz.prog 60 [.agg [iV .i64 0, .none0, .none0]] [] 0 (fun x o => x = .agg [iV .i64 0, .im (.row []), .im (.row [])] ∧ o = []) := by
  refine Fn.bodyK [] Tryz.func60 rfl rfl (fun Γ hP hn => ?_)
  have hm : Tryz.prog.follows .mixedOrders = true := by kernel_rfl
  replace hn : Γ.n = 64 := hn
  refine sO hP hn hm [(0, .k 0), (1, .k 1)] [(1, .ptr 0 0 0), (2, .ptr 1 0 0)] [1, 2] [(0, some (.box 92 [iV .i64 0, .none0, .none0])), (1, some (.box 92 [iV .i64 0, .none0, .none0]))] [0, 1] ?_
  refine sR hP hn hm [(2, .call [] [(0, 2)] [] [2] 0 (.own 0) [(0, some (.row 1 3 []))])] [] [1, 2] [(0, some (.box 92 [iV .i64 0, .own 2, .none0])), (2, some (.row 1 3 []))] [0, 1, 2] [_, _] ⟨Tryz.call107, cln107, trivial⟩ ?_
  refine AWp.conv (inv := [(0, 0), (1, 1)]) (vk := [2]) (e0 := []) (t := ⟨[(1, .ptr 0 0 0), (2, .ptr 1 0 0)], [(0, some (.box 92 [iV .i64 0, .im (.row []), .none0])), (1, some (.box 92 [iV .i64 0, .none0, .none0]))], 0⟩) (by kernel_rfl) ?_
  refine sR hP hn hm [(2, .call [] [(0, 3)] [] [3] 0 (.own 0) [(0, some (.row 4 99 []))])] [] [1, 2] [(0, some (.box 92 [iV .i64 0, .im (.row []), .own 3])), (3, some (.row 4 99 []))] [0, 1, 3] [_, _] ⟨Tryz.call108, cln108, trivial⟩ ?_
  refine AWp.conv (inv := [(0, 0), (1, 1)]) (vk := [3]) (e0 := []) (t := ⟨[(1, .ptr 0 0 0), (2, .ptr 1 0 0)], [(0, some (.box 92 [iV .i64 0, .im (.row []), .im (.row [])])), (1, some (.box 92 [iV .i64 0, .none0, .none0]))], 0⟩) (by kernel_rfl) ?_
  refine AWp.seq ?_
  refine sO hP hn hm [] [(15, iV .i64 0), (16, iV .i64 0)] [1, 2, 15, 16] [] [0, 1] ?_
  refine AWp.block ?_
  refine AWp.loop ?_
  refine LWp.round ?_
  refine sO hP hn hm [] [(17, bV false)] [1, 2, 15, 16, 17] [] [0, 1] ?_
  refine AWp.seq ?_
  refine AWp.cond false (by kernel_rfl) (fun h => nomatch h) (fun _ => ?_)
  refine AWp.exit ?_
  show AWp Γ _ _ _
  refine sO hP hn hm [] [] [2] [(1, some (.box 92 [iV .i64 0, .im (.row []), .im (.row [])]))] [1] ?_
  refine AWp.ret ?_
  exact rl (.inl rfl) rfl (by kernel_rfl) (by kernel_rfl)
theorem cx77_Image : Pv.Fn Tryz.prog 38 [.ptr 0 0 0] [(0, some (.box 129 [.ptr 1 0 0, iV .i64 0, .none0, .none0, .mown 5, iV .i64 0, iV .i64 0, iV .i64 0])), (1, some (.box 126 [iV .i64 65536, .mown 2, .mown 4, iV .i64 (-1), iV .i64 4, bV false])), (2, some (.gmap [Value.string ⟨#[108, 111, 103, 45, 48, 48, 48, 48, 48, 48]⟩] [.ptr 3 0 0] [1] 2)), (3, some (.box 231 [.im (.row [[iI .u8 1], [iI .u8 0], [iI .u8 0], [iI .u8 0], [iI .u8 173], [iI .u8 222], [iI .u8 66], [iI .u8 251], [iI .u8 0]]), iV .i64 9])), (4, some (.gmap [Value.string ⟨#[108, 111, 103, 45, 48, 48, 48, 48, 48, 48]⟩] [.ptr 3 0 0] [1] 2)), (5, some (.gmap [] [] [] 0))] 6 (fun x o => x = .agg [iV .i64 0, .im (.row []), .im (.row [])] ∧ o = [(0, some (.box 129 [.ptr 1 0 0, iV .i64 0, .none0, .none0, .mown 5, iV .i64 0, iV .i64 0, iV .i64 0])), (1, some (.box 126 [iV .i64 65536, .mown 2, .mown 4, iV .i64 (-1), iV .i64 4, bV false])), (2, some (.gmap [Value.string ⟨#[108, 111, 103, 45, 48, 48, 48, 48, 48, 48]⟩] [.ptr 3 0 0] [1] 2)), (3, some (.box 231 [.im (.row [[iI .u8 1], [iI .u8 0], [iI .u8 0], [iI .u8 0], [iI .u8 173], [iI .u8 222], [iI .u8 66], [iI .u8 251], [iI .u8 0]]), iV .i64 9])), (4, some (.gmap [Value.string ⟨#[108, 111, 103, 45, 48, 48, 48, 48, 48, 48]⟩] [.ptr 3 0 0] [1] 2)), (5, some (.gmap [] [] [] 0))]) := by
  refine Fn.bodyK [0, 1, 2, 3, 4, 5] Tryz.func38 rfl rfl (fun Γ hP hn => ?_)
  have hm : Tryz.prog.follows .mixedOrders = true := by kernel_rfl
  replace hn : Γ.n = 11 := hn
  refine sO hP hn hm [(0, .k 6)] [(2, .ptr 6 0 0)] [0, 2] [(6, some (.box 92 [iV .i64 0, .none0, .none0]))] [0, 1, 2, 3, 4, 5, 6] ?_
  refine AWp.seq ?_
  refine sR hP hn hm [(1, .more (xPtrNil false))] [(4, bV false)] [0, 2, 4] [] [0, 1, 2, 3, 4, 5, 6] [false = false] ⟨rfl, trivial⟩ ?_
  refine AWp.cond false (by kernel_rfl) (fun h => nomatch h) (fun _ => ?_)
  refine AWp.skip ?_
  show AWp Γ _ _ _
  refine sR hP hn hm [(4, .callz [] [] [] [] 0 (.agg [iV .i64 0, .im (.row []), .im (.row [])]) [])] [] [2] [(6, some (.box 92 [iV .i64 0, .im (.row []), .im (.row [])]))] [0, 1, 2, 3, 4, 5, 6] [_, _] ⟨Tryz.call60, cx76_twin, trivial⟩ ?_
  refine AWp.ret ?_
  exact rl (.inl rfl) rfl (by kernel_rfl) (by kernel_rfl)
theorem cx78_items : Pv.Fn Tryz.prog 62 [.ptr 0 0 0] [(0, some (.box 129 [.ptr 1 0 0, iV .i64 0, .none0, .none0, .mown 5, iV .i64 0, iV .i64 0, iV .i64 0])), (1, some (.box 126 [iV .i64 65536, .mown 2, .mown 4, iV .i64 (-1), iV .i64 4, bV false])), (2, some (.gmap [Value.string ⟨#[108, 111, 103, 45, 48, 48, 48, 48, 48, 48]⟩] [.ptr 3 0 0] [1] 2)), (3, some (.box 231 [.im (.row [[iI .u8 1], [iI .u8 0], [iI .u8 0], [iI .u8 0], [iI .u8 173], [iI .u8 222], [iI .u8 66], [iI .u8 251], [iI .u8 0]]), iV .i64 9])), (4, some (.gmap [Value.string ⟨#[108, 111, 103, 45, 48, 48, 48, 48, 48, 48]⟩] [.ptr 3 0 0] [1] 2)), (5, some (.gmap [] [] [] 0))] 6 (fun x o => x = .none0 ∧ o = [(0, some (.box 129 [.ptr 1 0 0, iV .i64 0, .none0, .none0, .mown 5, iV .i64 0, iV .i64 0, iV .i64 0])), (1, some (.box 126 [iV .i64 65536, .mown 2, .mown 4, iV .i64 (-1), iV .i64 4, bV false])), (2, some (.gmap [Value.string ⟨#[108, 111, 103, 45, 48, 48, 48, 48, 48, 48]⟩] [.ptr 3 0 0] [1] 2)), (3, some (.box 231 [.im (.row [[iI .u8 1], [iI .u8 0], [iI .u8 0], [iI .u8 0], [iI .u8 173], [iI .u8 222], [iI .u8 66], [iI .u8 251], [iI .u8 0]]), iV .i64 9])), (4, some (.gmap [Value.string ⟨#[108, 111, 103, 45, 48, 48, 48, 48, 48, 48]⟩] [.ptr 3 0 0] [1] 2)), (5, some (.gmap [] [] [] 0))]) := by
  refine Fn.bodyK [0, 1, 2, 3, 4, 5] Tryz.func62 rfl rfl (fun Γ hP hn => ?_)
  have hm : Tryz.prog.follows .mixedOrders = true := by kernel_rfl
  replace hn : Γ.n = 30 := hn
  refine sO hP hn hm [] [] [0] [] [0, 1, 2, 3, 4, 5] ?_
  refine sO hP hn hm [] [(3, .none0)] [0, 3] [] [0, 1, 2, 3, 4, 5] ?_
  refine AWp.seq ?_
  refine sO hP hn hm [] [(10, .none0), (11, iV .i64 0), (12, iV .i64 0)] [0, 3, 10, 11, 12] [] [0, 1, 2, 3, 4, 5] ?_
  refine AWp.block ?_
  refine AWp.loop ?_
  refine LWp.round ?_
  refine sO hP hn hm [] [(13, bV false)] [0, 3, 10, 11, 12, 13] [] [0, 1, 2, 3, 4, 5] ?_
  refine AWp.seq ?_
  refine AWp.cond false (by kernel_rfl) (fun h => nomatch h) (fun _ => ?_)
  refine AWp.exit ?_
  show AWp Γ _ _ _
  refine sO hP hn hm [] [(2, .none0)] [2] [] [0, 1, 2, 3, 4, 5] ?_
  refine AWp.ret ?_
  exact rl (.inl rfl) rfl (by kernel_rfl) (by kernel_rfl)
theorem cln188 : Pv.Fn Tryz.prog 188 [.im (.row [])] [] 0 (fun x o => x = .own 0 ∧ o = [(0, some (.row 4 206 []))]) := by
  refine Fn.bodyK [0] Tryz.func188 rfl rfl (fun Γ hP hn => ?_)
  have hm : Tryz.prog.follows .mixedOrders = true := by kernel_rfl
  replace hn : Γ.n = 8 := hn
  refine AWp.seq ?_
  refine reg hP hn hm [] [0, 2] [] ⟨[(0, .im (.row [])), (2, .none0)], [], 0⟩ [] (by kernel_rfl) trivial ?_
  refine AWp.seq ?_
  refine AWp.nilSplit 0 rfl (fun b m => ?_)
  refine AWp.seq ?_
  cases b with
  | none =>
    refine reg hP hn hm [(1, .more xNil)] [2, 4] [] ⟨[(2, .none0), (4, bV true)], [], 0⟩ [] (by kernel_rfl) trivial ?_
    refine AWp.cond true rfl (fun _ => ?_) (fun h => nomatch h)
    refine AWp.seq ?_
    refine reg hP hn hm [] [2] [] ⟨[(2, .none0)], [], 0⟩ [] (by kernel_rfl) trivial ?_
    refine AWp.conv (inv := []) (vk := []) (e0 := [0]) (t := ⟨[(2, .own 0)], [(0, some (.row 4 206 []))], 0⟩) (by kernel_rfl) ?_
    refine AWp.ret ?_
    exact Exists.intro _ (And.intro (fun _ _ h => h) (And.intro (.inl rfl) (And.intro rfl (And.intro (by kernel_rfl) (by kernel_rfl)))))
  | some b =>
    refine reg hP hn hm [(1, .more xNil)] [0, 2, 4] [] ⟨[(0, .im (.sc (.slice (some b) 0 m))), (2, .none0), (4, bV false)], [], 0⟩ [] (by kernel_rfl) trivial ?_
    refine AWp.cond false rfl (fun h => nomatch h) (fun _ => ?_)
    refine AWp.skip ?_
    refine AWp.unsplit 0 rfl ?_
    refine AWp.seq ?_
    refine reg hP hn hm [(0, .app 0 ([] : List (List Im))), (2, .app 1 [])] [2] [1] ⟨[(2, .own 1)], [(1, some (.row 4 206 []))], 0⟩ [([] : List (List Im)) = [], ([] : List (List Im)) = ([] : List (List Im)) ++ [], ∀ c ∈ ([] : List (List Im)), c.length = 4, ∀ c ∈ ([] : List (List Im)), leaves (c.map .im) = true, (([] : List (List Im)).length + ([] : List (List Im)).length) * 32 ≤ 140737488355328] (by kernel_rfl) ⟨rfl, rfl, by simp, by simp, by decide, trivial⟩ ?_
    refine AWp.conv (inv := [(1, 0)]) (vk := []) (e0 := []) (t := ⟨[(2, .own 0)], [(0, some (.row 4 206 []))], 0⟩) (by kernel_rfl) ?_
    refine AWp.ret ?_
    exact Exists.intro _ (And.intro (fun _ _ h => h) (And.intro (.inl rfl) (And.intro rfl (And.intro (by kernel_rfl) (by kernel_rfl)))))
theorem cx79_Len64 : Pv.Fn Tryz.prog 194 [iV .u64 0] [] 0 (fun x o => x = iV .i64 0 ∧ o = []) := by
  refine Fn.bodyK [] Tryz.func194 rfl rfl (fun Γ hP hn => ?_)
  have hm : Tryz.prog.follows .mixedOrders = true := by kernel_rfl
  replace hn : Γ.n = 25 := hn
  refine sO hP hn hm [] [(2, iV .i64 0)] [0, 2] [] [] ?_
  refine AWp.seq ?_
  refine sO hP hn hm [] [(4, bV false)] [0, 2, 4] [] [] ?_
  refine AWp.cond false (by kernel_rfl) (fun h => nomatch h) (fun _ => ?_)
  refine AWp.skip ?_
  show AWp Γ _ _ _
  refine AWp.seq ?_
  refine sO hP hn hm [] [(8, bV false)] [0, 2, 8] [] [] ?_
  refine AWp.cond false (by kernel_rfl) (fun h => nomatch h) (fun _ => ?_)
  refine AWp.skip ?_
  show AWp Γ _ _ _
  refine AWp.seq ?_
  refine sO hP hn hm [] [(14, bV false)] [0, 2, 14] [] [] ?_
  refine AWp.cond false (by kernel_rfl) (fun h => nomatch h) (fun _ => ?_)
  refine AWp.skip ?_
  show AWp Γ _ _ _
  refine sR hP hn hm [] [] [2] [] [] [(0 : Int) ≤ 0, (0 : Int) < ((⟨#[0, 1, 2, 2, 3, 3, 3, 3, 4, 4, 4, 4, 4, 4, 4, 4, 5, 5, 5, 5, 5, 5, 5, 5, 5, 5, 5, 5, 5, 5, 5, 5, 6, 6, 6, 6, 6, 6, 6, 6, 6, 6, 6, 6, 6, 6, 6, 6, 6, 6, 6, 6, 6, 6, 6, 6, 6, 6, 6, 6, 6, 6, 6, 6, 7, 7, 7, 7, 7, 7, 7, 7, 7, 7, 7, 7, 7, 7, 7, 7, 7, 7, 7, 7, 7, 7, 7, 7, 7, 7, 7, 7, 7, 7, 7, 7, 7, 7, 7, 7, 7, 7, 7, 7, 7, 7, 7, 7, 7, 7, 7, 7, 7, 7, 7, 7, 7, 7, 7, 7, 7, 7, 7, 7, 7, 7, 7, 7, 8, 8, 8, 8, 8, 8, 8, 8, 8, 8, 8, 8, 8, 8, 8, 8, 8, 8, 8, 8, 8, 8, 8, 8, 8, 8, 8, 8, 8, 8, 8, 8, 8, 8, 8, 8, 8, 8, 8, 8, 8, 8, 8, 8, 8, 8, 8, 8, 8, 8, 8, 8, 8, 8, 8, 8, 8, 8, 8, 8, 8, 8, 8, 8, 8, 8, 8, 8, 8, 8, 8, 8, 8, 8, 8, 8, 8, 8, 8, 8, 8, 8, 8, 8, 8, 8, 8, 8, 8, 8, 8, 8, 8, 8, 8, 8, 8, 8, 8, 8, 8, 8, 8, 8, 8, 8, 8, 8, 8, 8, 8, 8, 8, 8, 8, 8, 8, 8, 8, 8, 8, 8, 8, 8, 8, 8, 8, 8]⟩ : ByteArray).size : Int)] ⟨by decide, by decide, trivial⟩ ?_
  refine AWp.ret ?_
  exact rl (.inl rfl) rfl (by kernel_rfl) (by kernel_rfl)
theorem cx80_Len : Pv.Fn Tryz.prog 214 [iV .u64 0] [] 0 (fun x o => x = iV .i64 0 ∧ o = []) := by
  refine Fn.bodyK [] Tryz.func214 rfl rfl (fun Γ hP hn => ?_)
  have hm : Tryz.prog.follows .mixedOrders = true := by kernel_rfl
  replace hn : Γ.n = 8 := hn
  refine sO hP hn hm [] [] [0] [] [] ?_
  refine AWp.seq ?_
  refine AWp.cond false (by kernel_rfl) (fun h => nomatch h) (fun _ => ?_)
  refine AWp.skip ?_
  show AWp Γ _ _ _
  refine sR hP hn hm [(1, .callz [] [] [] [] 0 (iV .i64 0) [])] [(2, iV .i64 0)] [2] [] [] [_, _] ⟨Tryz.call194, cx79_Len64, trivial⟩ ?_
  refine AWp.ret ?_
  exact rl (.inl rfl) rfl (by kernel_rfl) (by kernel_rfl)
theorem cx81_insertionSortCmpFunc : Pv.Fn Tryz.prog 312 [.own 0, iV .i64 0, iV .i64 0, .im (.sc (.func (.func 190) #[] #[]))] [(0, some (.row 4 206 []))] 1 (fun x o => x = .tup [] ∧ o = [(0, some (.row 4 206 []))]) := by
  refine Fn.bodyK [0] Tryz.func312 rfl rfl (fun Γ hP hn => ?_)
  have hm : Tryz.prog.follows .mixedOrders = true := by kernel_rfl
  replace hn : Γ.n = 53 := hn
  refine sO hP hn hm [] [(8, iV .i64 1)] [0, 1, 2, 3, 8] [] [0] ?_
  refine AWp.block ?_
  refine AWp.loop ?_
  refine LWp.round ?_
  refine AWp.seq ?_
  refine sO hP hn hm [] [(14, bV false)] [0, 1, 2, 3, 8, 14] [] [0] ?_
  refine AWp.cond false (by kernel_rfl) (fun h => nomatch h) (fun _ => ?_)
  refine AWp.exit ?_
  exact rl (.inr rfl) rfl (by kernel_rfl) (by kernel_rfl)
theorem cx82_pdqsortCmpFunc : Pv.Fn Tryz.prog 263 [.own 0, iV .i64 0, iV .i64 0, iV .i64 0, .im (.sc (.func (.func 190) #[] #[]))] [(0, some (.row 4 206 []))] 1 (fun x o => x = .tup [] ∧ o = [(0, some (.row 4 206 []))]) := by
  refine Fn.bodyK [0] Tryz.func263 rfl rfl (fun Γ hP hn => ?_)
  have hm : Tryz.prog.follows .mixedOrders = true := by kernel_rfl
  replace hn : Γ.n = 148 := hn
  refine sO hP hn hm [] [(10, bV true)] [0, 1, 2, 3, 4, 10] [] [0] ?_
  refine sO hP hn hm [] [(11, bV true)] [0, 1, 2, 3, 4, 10, 11] [] [0] ?_
  refine AWp.block ?_
  refine AWp.loop ?_
  refine LWp.round ?_
  refine AWp.block ?_
  refine sO hP hn hm [] [(12, iV .i64 0)] [0, 1, 2, 3, 4, 10, 11, 12] [] [0] ?_
  refine AWp.seq ?_
  refine sO hP hn hm [] [(25, bV true)] [0, 1, 2, 3, 4, 10, 11, 12, 25] [] [0] ?_
  refine AWp.cond true (by kernel_rfl) (fun _ => ?_) (fun h => nomatch h)
  refine sR hP hn hm [(4, .callz [(0, 0)] [(0, 0)] [] [] 1 (.tup []) [(0, some (.row 4 206 []))])] [] [] [] [0] [_, _] ⟨Tryz.call312, cx81_insertionSortCmpFunc, trivial⟩ ?_
  refine AWp.ret ?_
  exact rl (.inl rfl) rfl (by kernel_rfl) (by kernel_rfl)
theorem cx83_SortFunc : Pv.Fn Tryz.prog 189 [.own 0, .im (.sc (.func (.func 190) #[] #[]))] [(0, some (.row 4 206 []))] 1 (fun x o => x = .tup [] ∧ o = [(0, some (.row 4 206 []))]) := by
  refine Fn.bodyK [0] Tryz.func189 rfl rfl (fun Γ hP hn => ?_)
  have hm : Tryz.prog.follows .mixedOrders = true := by kernel_rfl
  replace hn : Γ.n = 14 := hn
  refine sO hP hn hm [] [(4, iV .i64 0)] [0, 1, 4] [] [0] ?_
  refine rG hP hn hm [(4, .callz [] [] [] [] 0 (iV .i64 0) []), (6, .callz [(0, 0)] [(0, 0)] [] [] 1 (.tup []) [(0, some (.row 4 206 []))])] [] [] [] [0] [_, _, _, _] ⟨Tryz.call214, cx80_Len, Tryz.call263, cx82_pdqsortCmpFunc, trivial⟩ ?_
  exact rl (.inr rfl) rfl (by kernel_rfl) (by kernel_rfl)
theorem cx84_sorted : Pv.Fn Tryz.prog 111 [.none0] [] 0 (fun x o => x = .own 0 ∧ o = [(0, some (.row 4 206 []))]) := by
  refine Fn.bodyK [0] Tryz.func111 rfl rfl (fun Γ hP hn => ?_)
  have hm : Tryz.prog.follows .mixedOrders = true := by kernel_rfl
  replace hn : Γ.n = 8 := hn
  refine sO hP hn hm [] [] [0] [] [] ?_
  refine sR hP hn hm [(1, .call [] [(0, 0)] [] [0] 0 (.own 0) [(0, some (.row 4 206 []))])] [(0, .own 0)] [0] [(0, some (.row 4 206 []))] [0] [_, _] ⟨Tryz.call188, cln188, trivial⟩ ?_
  refine sR hP hn hm [(1, .callz [(0, 0)] [(0, 0)] [] [] 1 (.tup []) [(0, some (.row 4 206 []))])] [] [0] [] [0] [_, _] ⟨Tryz.call189, cx83_SortFunc, trivial⟩ ?_
  refine sO hP hn hm [] [(2, .own 0)] [2] [] [0] ?_
  refine AWp.ret ?_
  exact rl (.inl rfl) rfl (by kernel_rfl) (by kernel_rfl)
theorem cx85_Next : Pv.Fn Tryz.prog 61 [.none0] [] 0 (fun x o => x = .tup [.agg [.none0, iV .i64 0], bV false] ∧ o = []) := by
  refine Fn.bodyK [] Tryz.func61 rfl rfl (fun Γ hP hn => ?_)
  have hm : Tryz.prog.follows .mixedOrders = true := by kernel_rfl
  replace hn : Γ.n = 46 := hn
  refine sO hP hn hm [(0, .k 0)] [(2, .ptr 0 0 0)] [0, 2] [(0, some (.box 101 [.none0, iV .i64 0]))] [0] ?_
  refine sR hP hn hm [(1, .callz [] [(0, 1)] [] [1] 0 (.own 0) [(0, some (.row 4 206 []))])] [(0, .own 1)] [0, 2] [(1, some (.row 4 206 []))] [0, 1] [_, _] ⟨Tryz.call111, cx84_sorted, trivial⟩ ?_
  refine AWp.seq ?_
  refine sO hP hn hm [] [(4, iV .i64 0)] [0, 2, 4] [] [0, 1] ?_
  refine AWp.block ?_
  refine AWp.loop ?_
  refine LWp.round ?_
  refine AWp.seq ?_
  refine sO hP hn hm [] [(12, bV true)] [0, 2, 4, 12] [] [0, 1] ?_
  refine AWp.cond true (by kernel_rfl) (fun _ => ?_) (fun h => nomatch h)
  refine AWp.skip ?_
  show AWp Γ _ _ _
  refine AWp.seq ?_
  refine AWp.block ?_
  refine sO hP hn hm [] [(15, .own 1), (16, iV .i64 0), (17, iV .i64 0)] [0, 2, 4, 15, 16, 17] [] [0, 1] ?_
  refine AWp.block ?_
  refine AWp.loop ?_
  refine LWp.round ?_
  refine sO hP hn hm [] [(18, bV false)] [0, 2, 4, 15, 16, 17, 18] [] [0, 1] ?_
  refine AWp.seq ?_
  refine AWp.cond false (by kernel_rfl) (fun h => nomatch h) (fun _ => ?_)
  refine AWp.exit ?_
  show AWp Γ _ _ _
  refine rO hP hn hm [] [(4, iV .i64 1)] [0, 2, 4] [] [0, 1] ?_
  show LWp Γ _ _ _
  refine LWp.round ?_
  refine AWp.seq ?_
  refine sO hP hn hm [] [(12, bV true)] [0, 2, 4, 12] [] [0, 1] ?_
  refine AWp.cond true (by kernel_rfl) (fun _ => ?_) (fun h => nomatch h)
  refine AWp.skip ?_
  show AWp Γ _ _ _
  refine AWp.seq ?_
  refine AWp.block ?_
  refine sO hP hn hm [] [(15, .own 1), (16, iV .i64 0), (17, iV .i64 0)] [0, 2, 4, 15, 16, 17] [] [0, 1] ?_
  refine AWp.block ?_
  refine AWp.loop ?_
  refine LWp.round ?_
  refine sO hP hn hm [] [(18, bV false)] [0, 2, 4, 15, 16, 17, 18] [] [0, 1] ?_
  refine AWp.seq ?_
  refine AWp.cond false (by kernel_rfl) (fun h => nomatch h) (fun _ => ?_)
  refine AWp.exit ?_
  show AWp Γ _ _ _
  refine rO hP hn hm [] [(4, iV .i64 2)] [0, 2, 4] [] [0, 1] ?_
  show LWp Γ _ _ _
  refine LWp.round ?_
  refine AWp.seq ?_
  refine sO hP hn hm [] [(12, bV true)] [0, 2, 4, 12] [] [0, 1] ?_
  refine AWp.cond true (by kernel_rfl) (fun _ => ?_) (fun h => nomatch h)
  refine AWp.skip ?_
  show AWp Γ _ _ _
  refine AWp.seq ?_
  refine AWp.block ?_
  refine sO hP hn hm [] [(15, .own 1), (16, iV .i64 0), (17, iV .i64 0)] [0, 2, 4, 15, 16, 17] [] [0, 1] ?_
  refine AWp.block ?_
  refine AWp.loop ?_
  refine LWp.round ?_
  refine sO hP hn hm [] [(18, bV false)] [0, 2, 4, 15, 16, 17, 18] [] [0, 1] ?_
  refine AWp.seq ?_
  refine AWp.cond false (by kernel_rfl) (fun h => nomatch h) (fun _ => ?_)
  refine AWp.exit ?_
  show AWp Γ _ _ _
  refine rO hP hn hm [] [(4, iV .i64 3)] [0, 2, 4] [] [0, 1] ?_
  show LWp Γ _ _ _
  refine LWp.round ?_
  refine AWp.seq ?_
  refine sO hP hn hm [] [(12, bV true)] [0, 2, 4, 12] [] [0, 1] ?_
  refine AWp.cond true (by kernel_rfl) (fun _ => ?_) (fun h => nomatch h)
  refine AWp.skip ?_
  show AWp Γ _ _ _
  refine AWp.seq ?_
  refine AWp.block ?_
  refine sO hP hn hm [] [(15, .own 1), (16, iV .i64 0), (17, iV .i64 0)] [0, 2, 4, 15, 16, 17] [] [0, 1] ?_
  refine AWp.block ?_
  refine AWp.loop ?_
  refine LWp.round ?_
  refine sO hP hn hm [] [(18, bV false)] [0, 2, 4, 15, 16, 17, 18] [] [0, 1] ?_
  refine AWp.seq ?_
  refine AWp.cond false (by kernel_rfl) (fun h => nomatch h) (fun _ => ?_)
  refine AWp.exit ?_
  show AWp Γ _ _ _
  refine rO hP hn hm [] [(4, iV .i64 4)] [0, 2, 4] [] [0, 1] ?_
  show LWp Γ _ _ _
  refine LWp.round ?_
  refine AWp.seq ?_
  refine sO hP hn hm [] [(12, bV true)] [0, 2, 4, 12] [] [0, 1] ?_
  refine AWp.cond true (by kernel_rfl) (fun _ => ?_) (fun h => nomatch h)
  refine AWp.skip ?_
  show AWp Γ _ _ _
  refine AWp.seq ?_
  refine AWp.block ?_
  refine sO hP hn hm [] [(15, .own 1), (16, iV .i64 0), (17, iV .i64 0)] [0, 2, 4, 15, 16, 17] [] [0, 1] ?_
  refine AWp.block ?_
  refine AWp.loop ?_
  refine LWp.round ?_
  refine sO hP hn hm [] [(18, bV false)] [0, 2, 4, 15, 16, 17, 18] [] [0, 1] ?_
  refine AWp.seq ?_
  refine AWp.cond false (by kernel_rfl) (fun h => nomatch h) (fun _ => ?_)
  refine AWp.exit ?_
  show AWp Γ _ _ _
  refine rO hP hn hm [] [(4, iV .i64 5)] [0, 2, 4] [] [0, 1] ?_
  show LWp Γ _ _ _
  refine LWp.round ?_
  refine AWp.seq ?_
  refine sO hP hn hm [] [(12, bV false)] [0, 2, 4, 12] [] [0, 1] ?_
  refine AWp.cond false (by kernel_rfl) (fun h => nomatch h) (fun _ => ?_)
  refine AWp.exit ?_
  show AWp Γ _ _ _
  refine sO hP hn hm [] [(3, bV false)] [2, 3] [] [0] ?_
  refine AWp.ret ?_
  exact rl (.inl rfl) rfl (by kernel_rfl) (by kernel_rfl)
theorem cx86_Plan : Pv.Fn Tryz.prog 39 [.ptr 0 0 0] [(0, some (.box 129 [.ptr 1 0 0, iV .i64 0, .none0, .none0, .mown 5, iV .i64 0, iV .i64 0, iV .i64 0])), (1, some (.box 126 [iV .i64 65536, .mown 2, .mown 4, iV .i64 (-1), iV .i64 4, bV false])), (2, some (.gmap [Value.string ⟨#[108, 111, 103, 45, 48, 48, 48, 48, 48, 48]⟩] [.ptr 3 0 0] [1] 2)), (3, some (.box 231 [.im (.row [[iI .u8 1], [iI .u8 0], [iI .u8 0], [iI .u8 0], [iI .u8 173], [iI .u8 222], [iI .u8 66], [iI .u8 251], [iI .u8 0]]), iV .i64 9])), (4, some (.gmap [Value.string ⟨#[108, 111, 103, 45, 48, 48, 48, 48, 48, 48]⟩] [.ptr 3 0 0] [1] 2)), (5, some (.gmap [] [] [] 0))] 6 (fun x o => x = .tup [.agg [.none0, iV .i64 0], bV false] ∧ o = [(0, some (.box 129 [.ptr 1 0 0, iV .i64 0, .none0, .none0, .mown 5, iV .i64 0, iV .i64 0, iV .i64 0])), (1, some (.box 126 [iV .i64 65536, .mown 2, .mown 4, iV .i64 (-1), iV .i64 4, bV false])), (2, some (.gmap [Value.string ⟨#[108, 111, 103, 45, 48, 48, 48, 48, 48, 48]⟩] [.ptr 3 0 0] [1] 2)), (3, some (.box 231 [.im (.row [[iI .u8 1], [iI .u8 0], [iI .u8 0], [iI .u8 0], [iI .u8 173], [iI .u8 222], [iI .u8 66], [iI .u8 251], [iI .u8 0]]), iV .i64 9])), (4, some (.gmap [Value.string ⟨#[108, 111, 103, 45, 48, 48, 48, 48, 48, 48]⟩] [.ptr 3 0 0] [1] 2)), (5, some (.gmap [] [] [] 0))]) := by
  refine Fn.bodyK [0, 1, 2, 3, 4, 5] Tryz.func39 rfl rfl (fun Γ hP hn => ?_)
  have hm : Tryz.prog.follows .mixedOrders = true := by kernel_rfl
  replace hn : Γ.n = 12 := hn
  refine sO hP hn hm [(0, .k 6)] [(2, .ptr 6 0 0)] [0, 2] [(6, some (.box 101 [.none0, iV .i64 0]))] [0, 1, 2, 3, 4, 5, 6] ?_
  refine AWp.seq ?_
  refine sR hP hn hm [(1, .more (xPtrNil false))] [(5, bV false)] [0, 2, 5] [] [0, 1, 2, 3, 4, 5, 6] [false = false] ⟨rfl, trivial⟩ ?_
  refine AWp.cond false (by kernel_rfl) (fun h => nomatch h) (fun _ => ?_)
  refine AWp.skip ?_
  show AWp Γ _ _ _
  refine sR hP hn hm [(1, .callz [(0, 0), (1, 1), (2, 2), (3, 3), (4, 4), (5, 5)] [(0, 0), (1, 1), (2, 2), (3, 3), (4, 4), (5, 5)] [] [] 6 (.none0) [(0, some (.box 129 [.ptr 1 0 0, iV .i64 0, .none0, .none0, .mown 5, iV .i64 0, iV .i64 0, iV .i64 0])), (1, some (.box 126 [iV .i64 65536, .mown 2, .mown 4, iV .i64 (-1), iV .i64 4, bV false])), (2, some (.gmap [Value.string ⟨#[108, 111, 103, 45, 48, 48, 48, 48, 48, 48]⟩] [.ptr 3 0 0] [1] 2)), (3, some (.box 231 [.im (.row [[iI .u8 1], [iI .u8 0], [iI .u8 0], [iI .u8 0], [iI .u8 173], [iI .u8 222], [iI .u8 66], [iI .u8 251], [iI .u8 0]]), iV .i64 9])), (4, some (.gmap [Value.string ⟨#[108, 111, 103, 45, 48, 48, 48, 48, 48, 48]⟩] [.ptr 3 0 0] [1] 2)), (5, some (.gmap [] [] [] 0))]), (2, .callz [] [] [] [] 0 (.tup [.agg [.none0, iV .i64 0], bV false]) [])] [(3, bV false)] [2, 3] [] [0, 1, 2, 3, 4, 5, 6] [_, _, _, _] ⟨Tryz.call62, cx78_items, Tryz.call61, cx85_Next, trivial⟩ ?_
  refine AWp.ret ?_
  exact rl (.inl rfl) rfl (by kernel_rfl) (by kernel_rfl)
theorem cx87_FormatInt : Pv.Fn Tryz.prog 42 [iV .i64 0, iV .i64 10] [] 0 (fun x o => x = sV (⟨#[48]⟩ : ByteArray) ∧ o = []) := by
  refine Fn.bodyK [] Tryz.func42 rfl rfl (fun Γ hP hn => ?_)
  have hm : Tryz.prog.follows .mixedOrders = true := by kernel_rfl
  replace hn : Γ.n = 8 := hn
  refine sO hP hn hm [] [] [0, 1] [] [] ?_
  refine sR hP hn hm [(2, .callz [] [] [] [] 0 (sV (⟨#[48]⟩ : ByteArray)) [])] [(4, sV (⟨#[48]⟩ : ByteArray))] [4] [] [] [_, _] ⟨Tryz.call64, cx39_FormatInt, trivial⟩ ?_
  refine AWp.ret ?_
  exact rl (.inl rfl) rfl (by kernel_rfl) (by kernel_rfl)
theorem cx88_FormatBool : Pv.Fn Tryz.prog 66 [bV false] [] 0 (fun x o => x = sV (⟨#[102, 97, 108, 115, 101]⟩ : ByteArray) ∧ o = []) := by
  refine Fn.bodyK [] Tryz.func66 rfl rfl (fun Γ hP hn => ?_)
  have hm : Tryz.prog.follows .mixedOrders = true := by kernel_rfl
  replace hn : Γ.n = 4 := hn
  refine sO hP hn hm [] [] [0] [] [] ?_
  refine AWp.seq ?_
  refine sO hP hn hm [] [(3, bV false)] [3] [] [] ?_
  refine AWp.cond false (by kernel_rfl) (fun h => nomatch h) (fun _ => ?_)
  refine AWp.skip ?_
  show AWp Γ _ _ _
  refine sO hP hn hm [] [(2, sV (⟨#[102, 97, 108, 115, 101]⟩ : ByteArray))] [2] [] [] ?_
  refine AWp.ret ?_
  exact rl (.inl rfl) rfl (by kernel_rfl) (by kernel_rfl)
theorem cx89_FormatBool : Pv.Fn Tryz.prog 44 [bV false] [] 0 (fun x o => x = sV (⟨#[102, 97, 108, 115, 101]⟩ : ByteArray) ∧ o = []) := by
  refine Fn.bodyK [] Tryz.func44 rfl rfl (fun Γ hP hn => ?_)
  have hm : Tryz.prog.follows .mixedOrders = true := by kernel_rfl
  replace hn : Γ.n = 5 := hn
  refine sO hP hn hm [] [] [0] [] [] ?_
  refine sR hP hn hm [(1, .callz [] [] [] [] 0 (sV (⟨#[102, 97, 108, 115, 101]⟩ : ByteArray)) [])] [(2, sV (⟨#[102, 97, 108, 115, 101]⟩ : ByteArray))] [2] [] [] [_, _] ⟨Tryz.call66, cx88_FormatBool, trivial⟩ ?_
  refine AWp.ret ?_
  exact rl (.inl rfl) rfl (by kernel_rfl) (by kernel_rfl)
theorem cx90_copyCheck : Pv.Fn Tryz.prog 118 [.ptr 0 0 0] [(0, some (.box 141 [.im (.sc (.pointer none)), .none0]))] 1 (fun x o => x = .tup [] ∧ o = [(0, some (.box 141 [.ptr 0 0 0, .none0]))]) := by
  refine Fn.bodyK [0] Tryz.func118 rfl rfl (fun Γ hP hn => ?_)
  have hm : Tryz.prog.follows .mixedOrders = true := by kernel_rfl
  replace hn : Γ.n = 20 := hn
  refine sR hP hn hm [(4, .more (xPtrNil true))] [(6, bV true)] [0, 6] [] [0] [true = true] ⟨rfl, trivial⟩ ?_
  refine AWp.cond true (by kernel_rfl) (fun _ => ?_) (fun h => nomatch h)
  refine rG hP hn hm [(2, .more xUnsafe), (3, .more (xSame 198)), (4, .more xUnsafe)] [] [] [(0, some (.box 141 [.ptr 0 0 0, .none0]))] [0] [∀ v w, (callFunc 198 #[v]).run Tryz.prog w = .ok (.value v) w] ⟨fun v w => x_noEscape (fn := Tryz.f198) Tryz.func198 (by kernel_rfl) rfl (by kernel_rfl) (by kernel_rfl) v w, trivial⟩ ?_
  exact rl (.inr rfl) rfl (by kernel_rfl) (by kernel_rfl)
theorem cx91_grow : Pv.Fn Tryz.prog 119 [.ptr 0 0 0, iV .i64 57] [(0, some (.box 141 [.ptr 0 0 0, .none0]))] 1 (fun x o => x = .tup [] ∧ o = [(0, some (.box 141 [.ptr 0 0 0, .own 1])), (1, some (.row 1 5 []))]) := by
  refine Fn.bodyK [0, 1] Tryz.func119 rfl rfl (fun Γ hP hn => ?_)
  have hm : Tryz.prog.follows .mixedOrders = true := by kernel_rfl
  replace hn : Γ.n = 30 := hn
  refine sR hP hn hm [(4, .more xCapNil), (8, .more (xNoZero 199 1 5)), (14, .more xCut0)] [(4, .own 1)] [0, 4] [(1, some (.row 1 5 []))] [0, 1] [(0 : Int) ≤ 57, (57 : Int) ≤ 281474976710656, ∀ (w : World) (n : Nat), n ≤ 281474976710656 → ∃ cs : Array Value, (callFunc 199 #[.int .i64 (n : Int)]).run Tryz.prog w = .ok (.value (.slice (some ⟨w.heap.size, 0, none⟩) n cs.size)) (World.alloc' w.drew.drew (.cells cs 5)) ∧ n ≤ cs.size, (0 : Int) = 0, 0 < 57] ⟨by decide, by decide, fun w n h => x_makeNoZero (fn := Tryz.f199) (ps := #[3]) (t := 64) (e := 5) Tryz.func199 (by kernel_rfl) rfl (by kernel_rfl) (by kernel_rfl) (by kernel_rfl) w n h, rfl, by decide, trivial⟩ ?_
  refine sO hP hn hm [(5, .more xCopy0)] [] [0, 4] [] [0, 1] ?_
  refine rO hP hn hm [] [] [] [(0, some (.box 141 [.ptr 0 0 0, .own 1]))] [0, 1] ?_
  exact rl (.inr rfl) rfl (by kernel_rfl) (by kernel_rfl)
theorem cx92_Grow : Pv.Fn Tryz.prog 67 [.ptr 0 0 0, iV .i64 57] [(0, some (.box 141 [.im (.sc (.pointer none)), .none0]))] 1 (fun x o => x = .tup [] ∧ o = [(0, some (.box 141 [.ptr 0 0 0, .own 1])), (1, some (.row 1 5 []))]) := by
  refine Fn.bodyK [0, 1] Tryz.func67 rfl rfl (fun Γ hP hn => ?_)
  have hm : Tryz.prog.follows .mixedOrders = true := by kernel_rfl
  replace hn : Γ.n = 25 := hn
  refine sR hP hn hm [(1, .callz [(0, 0)] [(0, 0)] [] [] 1 (.tup []) [(0, some (.box 141 [.ptr 0 0 0, .none0]))])] [] [0, 1] [(0, some (.box 141 [.ptr 0 0 0, .none0]))] [0] [_, _] ⟨Tryz.call118, cx90_copyCheck, trivial⟩ ?_
  refine AWp.seq ?_
  refine sO hP hn hm [] [(7, bV false)] [0, 1, 7] [] [0] ?_
  refine AWp.cond false (by kernel_rfl) (fun h => nomatch h) (fun _ => ?_)
  refine AWp.skip ?_
  show AWp Γ _ _ _
  refine sO hP hn hm [(4, .more xCapNil)] [(21, bV true)] [0, 1, 21] [] [0] ?_
  refine AWp.cond true (by kernel_rfl) (fun _ => ?_) (fun h => nomatch h)
  refine rG hP hn hm [(2, .callz [(0, 0)] [(0, 0), (1, 1)] [] [1] 1 (.tup []) [(0, some (.box 141 [.ptr 0 0 0, .own 1])), (1, some (.row 1 5 []))])] [] [] [(0, some (.box 141 [.ptr 0 0 0, .own 1])), (1, some (.row 1 5 []))] [0, 1] [_, _] ⟨Tryz.call119, cx91_grow, trivial⟩ ?_
  exact rl (.inr rfl) rfl (by kernel_rfl) (by kernel_rfl)
theorem cx93_copyCheck : Pv.Fn Tryz.prog 118 [.ptr 0 0 0] [(0, some (.box 141 [.ptr 0 0 0, .own 1])), (1, some (.row 1 5 []))] 2 (fun x o => x = .tup [] ∧ o = [(0, some (.box 141 [.ptr 0 0 0, .own 1])), (1, some (.row 1 5 []))]) := by
  refine Fn.bodyK [0, 1] Tryz.func118 rfl rfl (fun Γ hP hn => ?_)
  have hm : Tryz.prog.follows .mixedOrders = true := by kernel_rfl
  replace hn : Γ.n = 20 := hn
  refine sR hP hn hm [(4, .more (xPtrNil false))] [(6, bV false)] [0, 6] [] [0, 1] [false = false] ⟨rfl, trivial⟩ ?_
  refine AWp.cond false (by kernel_rfl) (fun h => nomatch h) (fun _ => ?_)
  refine sO hP hn hm [(5, .more xPtrSame)] [(19, bV false)] [19] [] [0, 1] ?_
  refine AWp.cond false (by kernel_rfl) (fun h => nomatch h) (fun _ => ?_)
  refine AWp.skip ?_
  exact rl (.inr rfl) rfl (by kernel_rfl) (by kernel_rfl)
theorem cx94_WriteString : Pv.Fn Tryz.prog 68 [.ptr 0 0 0, sV (⟨#[115, 101, 114, 105, 101, 115]⟩ : ByteArray)] [(0, some (.box 141 [.ptr 0 0 0, .own 1])), (1, some (.row 1 5 []))] 2 (fun x o => x = .tup [iV .i64 6, .im (.sc (.nilIface))] ∧ o = [(0, some (.box 141 [.ptr 0 0 0, .own 2])), (1, none), (2, some (.row 1 5 [[iI .u8 115], [iI .u8 101], [iI .u8 114], [iI .u8 105], [iI .u8 101], [iI .u8 115]]))]) := by
  refine Fn.bodyK [0, 1, 2] Tryz.func68 rfl rfl (fun Γ hP hn => ?_)
  have hm : Tryz.prog.follows .mixedOrders = true := by kernel_rfl
  replace hn : Γ.n = 19 := hn
  refine sO hP hn hm [] [] [0, 1] [] [0, 1] ?_
  refine sR hP hn hm [(1, .callz [(0, 0), (1, 1)] [(0, 0), (1, 1)] [] [] 2 (.tup []) [(0, some (.box 141 [.ptr 0 0 0, .own 1])), (1, some (.row 1 5 []))])] [] [0, 1] [] [0, 1] [_, _] ⟨Tryz.call118, cx93_copyCheck, trivial⟩ ?_
  refine sR hP hn hm [(6, .more (xAppStr 2 [[iI .u8 115], [iI .u8 101], [iI .u8 114], [iI .u8 105], [iI .u8 101], [iI .u8 115]]))] [] [1] [(0, some (.box 141 [.ptr 0 0 0, .own 2])), (2, some (.row 1 5 [[iI .u8 115], [iI .u8 101], [iI .u8 114], [iI .u8 105], [iI .u8 101], [iI .u8 115]]))] [0, 2] [([[iI .u8 115], [iI .u8 101], [iI .u8 114], [iI .u8 105], [iI .u8 101], [iI .u8 115]] : List (List Im)) = ([] : List (List Im)) ++ (bytesL (⟨#[115, 101, 114, 105, 101, 115]⟩ : ByteArray)).map (encInt .u8), (([] : List (List Im)).length + (⟨#[115, 101, 114, 105, 101, 115]⟩ : ByteArray).size) * 1 ≤ 140737488355328] ⟨by kernel_rfl, by decide, trivial⟩ ?_
  refine sO hP hn hm [] [(4, iV .i64 6), (5, .im (.sc (.nilIface)))] [4, 5] [] [0, 2] ?_
  refine AWp.ret ?_
  exact rl (.inl rfl) rfl (by kernel_rfl) (by kernel_rfl)
theorem cx95_copyCheck : Pv.Fn Tryz.prog 118 [.ptr 0 0 0] [(0, some (.box 141 [.ptr 0 0 0, .own 1])), (1, some (.row 1 5 [[iI .u8 115], [iI .u8 101], [iI .u8 114], [iI .u8 105], [iI .u8 101], [iI .u8 115]]))] 2 (fun x o => x = .tup [] ∧ o = [(0, some (.box 141 [.ptr 0 0 0, .own 1])), (1, some (.row 1 5 [[iI .u8 115], [iI .u8 101], [iI .u8 114], [iI .u8 105], [iI .u8 101], [iI .u8 115]]))]) := by
  refine Fn.bodyK [0, 1] Tryz.func118 rfl rfl (fun Γ hP hn => ?_)
  have hm : Tryz.prog.follows .mixedOrders = true := by kernel_rfl
  replace hn : Γ.n = 20 := hn
  refine sR hP hn hm [(4, .more (xPtrNil false))] [(6, bV false)] [0, 6] [] [0, 1] [false = false] ⟨rfl, trivial⟩ ?_
  refine AWp.cond false (by kernel_rfl) (fun h => nomatch h) (fun _ => ?_)
  refine sO hP hn hm [(5, .more xPtrSame)] [(19, bV false)] [19] [] [0, 1] ?_
  refine AWp.cond false (by kernel_rfl) (fun h => nomatch h) (fun _ => ?_)
  refine AWp.skip ?_
  exact rl (.inr rfl) rfl (by kernel_rfl) (by kernel_rfl)
theorem cx96_WriteString : Pv.Fn Tryz.prog 68 [.ptr 0 0 0, sV (⟨#[32]⟩ : ByteArray)] [(0, some (.box 141 [.ptr 0 0 0, .own 1])), (1, some (.row 1 5 [[iI .u8 115], [iI .u8 101], [iI .u8 114], [iI .u8 105], [iI .u8 101], [iI .u8 115]]))] 2 (fun x o => x = .tup [iV .i64 1, .im (.sc (.nilIface))] ∧ o = [(0, some (.box 141 [.ptr 0 0 0, .own 2])), (1, none), (2, some (.row 1 5 [[iI .u8 115], [iI .u8 101], [iI .u8 114], [iI .u8 105], [iI .u8 101], [iI .u8 115], [iI .u8 32]]))]) := by
  refine Fn.bodyK [0, 1, 2] Tryz.func68 rfl rfl (fun Γ hP hn => ?_)
  have hm : Tryz.prog.follows .mixedOrders = true := by kernel_rfl
  replace hn : Γ.n = 19 := hn
  refine sO hP hn hm [] [] [0, 1] [] [0, 1] ?_
  refine sR hP hn hm [(1, .callz [(0, 0), (1, 1)] [(0, 0), (1, 1)] [] [] 2 (.tup []) [(0, some (.box 141 [.ptr 0 0 0, .own 1])), (1, some (.row 1 5 [[iI .u8 115], [iI .u8 101], [iI .u8 114], [iI .u8 105], [iI .u8 101], [iI .u8 115]]))])] [] [0, 1] [] [0, 1] [_, _] ⟨Tryz.call118, cx95_copyCheck, trivial⟩ ?_
  refine sR hP hn hm [(6, .more (xAppStr 2 [[iI .u8 115], [iI .u8 101], [iI .u8 114], [iI .u8 105], [iI .u8 101], [iI .u8 115], [iI .u8 32]]))] [] [1] [(0, some (.box 141 [.ptr 0 0 0, .own 2])), (2, some (.row 1 5 [[iI .u8 115], [iI .u8 101], [iI .u8 114], [iI .u8 105], [iI .u8 101], [iI .u8 115], [iI .u8 32]]))] [0, 2] [([[iI .u8 115], [iI .u8 101], [iI .u8 114], [iI .u8 105], [iI .u8 101], [iI .u8 115], [iI .u8 32]] : List (List Im)) = ([[iI .u8 115], [iI .u8 101], [iI .u8 114], [iI .u8 105], [iI .u8 101], [iI .u8 115]] : List (List Im)) ++ (bytesL (⟨#[32]⟩ : ByteArray)).map (encInt .u8), (([[iI .u8 115], [iI .u8 101], [iI .u8 114], [iI .u8 105], [iI .u8 101], [iI .u8 115]] : List (List Im)).length + (⟨#[32]⟩ : ByteArray).size) * 1 ≤ 140737488355328] ⟨by kernel_rfl, by decide, trivial⟩ ?_
  refine sO hP hn hm [] [(4, iV .i64 1), (5, .im (.sc (.nilIface)))] [4, 5] [] [0, 2] ?_
  refine AWp.ret ?_
  exact rl (.inl rfl) rfl (by kernel_rfl) (by kernel_rfl)
theorem cx97_copyCheck : Pv.Fn Tryz.prog 118 [.ptr 0 0 0] [(0, some (.box 141 [.ptr 0 0 0, .own 1])), (1, some (.row 1 5 [[iI .u8 115], [iI .u8 101], [iI .u8 114], [iI .u8 105], [iI .u8 101], [iI .u8 115], [iI .u8 32]]))] 2 (fun x o => x = .tup [] ∧ o = [(0, some (.box 141 [.ptr 0 0 0, .own 1])), (1, some (.row 1 5 [[iI .u8 115], [iI .u8 101], [iI .u8 114], [iI .u8 105], [iI .u8 101], [iI .u8 115], [iI .u8 32]]))]) := by
  refine Fn.bodyK [0, 1] Tryz.func118 rfl rfl (fun Γ hP hn => ?_)
  have hm : Tryz.prog.follows .mixedOrders = true := by kernel_rfl
  replace hn : Γ.n = 20 := hn
  refine sR hP hn hm [(4, .more (xPtrNil false))] [(6, bV false)] [0, 6] [] [0, 1] [false = false] ⟨rfl, trivial⟩ ?_
  refine AWp.cond false (by kernel_rfl) (fun h => nomatch h) (fun _ => ?_)
  refine sO hP hn hm [(5, .more xPtrSame)] [(19, bV false)] [19] [] [0, 1] ?_
  refine AWp.cond false (by kernel_rfl) (fun h => nomatch h) (fun _ => ?_)
  refine AWp.skip ?_
  exact rl (.inr rfl) rfl (by kernel_rfl) (by kernel_rfl)
theorem cx98_WriteString : Pv.Fn Tryz.prog 68 [.ptr 0 0 0, sV (⟨#[48]⟩ : ByteArray)] [(0, some (.box 141 [.ptr 0 0 0, .own 1])), (1, some (.row 1 5 [[iI .u8 115], [iI .u8 101], [iI .u8 114], [iI .u8 105], [iI .u8 101], [iI .u8 115], [iI .u8 32]]))] 2 (fun x o => x = .tup [iV .i64 1, .im (.sc (.nilIface))] ∧ o = [(0, some (.box 141 [.ptr 0 0 0, .own 2])), (1, none), (2, some (.row 1 5 [[iI .u8 115], [iI .u8 101], [iI .u8 114], [iI .u8 105], [iI .u8 101], [iI .u8 115], [iI .u8 32], [iI .u8 48]]))]) := by
  refine Fn.bodyK [0, 1, 2] Tryz.func68 rfl rfl (fun Γ hP hn => ?_)
  have hm : Tryz.prog.follows .mixedOrders = true := by kernel_rfl
  replace hn : Γ.n = 19 := hn
  refine sO hP hn hm [] [] [0, 1] [] [0, 1] ?_
  refine sR hP hn hm [(1, .callz [(0, 0), (1, 1)] [(0, 0), (1, 1)] [] [] 2 (.tup []) [(0, some (.box 141 [.ptr 0 0 0, .own 1])), (1, some (.row 1 5 [[iI .u8 115], [iI .u8 101], [iI .u8 114], [iI .u8 105], [iI .u8 101], [iI .u8 115], [iI .u8 32]]))])] [] [0, 1] [] [0, 1] [_, _] ⟨Tryz.call118, cx97_copyCheck, trivial⟩ ?_
  refine sR hP hn hm [(6, .more (xAppStr 2 [[iI .u8 115], [iI .u8 101], [iI .u8 114], [iI .u8 105], [iI .u8 101], [iI .u8 115], [iI .u8 32], [iI .u8 48]]))] [] [1] [(0, some (.box 141 [.ptr 0 0 0, .own 2])), (2, some (.row 1 5 [[iI .u8 115], [iI .u8 101], [iI .u8 114], [iI .u8 105], [iI .u8 101], [iI .u8 115], [iI .u8 32], [iI .u8 48]]))] [0, 2] [([[iI .u8 115], [iI .u8 101], [iI .u8 114], [iI .u8 105], [iI .u8 101], [iI .u8 115], [iI .u8 32], [iI .u8 48]] : List (List Im)) = ([[iI .u8 115], [iI .u8 101], [iI .u8 114], [iI .u8 105], [iI .u8 101], [iI .u8 115], [iI .u8 32]] : List (List Im)) ++ (bytesL (⟨#[48]⟩ : ByteArray)).map (encInt .u8), (([[iI .u8 115], [iI .u8 101], [iI .u8 114], [iI .u8 105], [iI .u8 101], [iI .u8 115], [iI .u8 32]] : List (List Im)).length + (⟨#[48]⟩ : ByteArray).size) * 1 ≤ 140737488355328] ⟨by kernel_rfl, by decide, trivial⟩ ?_
  refine sO hP hn hm [] [(4, iV .i64 1), (5, .im (.sc (.nilIface)))] [4, 5] [] [0, 2] ?_
  refine AWp.ret ?_
  exact rl (.inl rfl) rfl (by kernel_rfl) (by kernel_rfl)
theorem cx99_copyCheck : Pv.Fn Tryz.prog 118 [.ptr 0 0 0] [(0, some (.box 141 [.ptr 0 0 0, .own 1])), (1, some (.row 1 5 [[iI .u8 115], [iI .u8 101], [iI .u8 114], [iI .u8 105], [iI .u8 101], [iI .u8 115], [iI .u8 32], [iI .u8 48]]))] 2 (fun x o => x = .tup [] ∧ o = [(0, some (.box 141 [.ptr 0 0 0, .own 1])), (1, some (.row 1 5 [[iI .u8 115], [iI .u8 101], [iI .u8 114], [iI .u8 105], [iI .u8 101], [iI .u8 115], [iI .u8 32], [iI .u8 48]]))]) := by
  refine Fn.bodyK [0, 1] Tryz.func118 rfl rfl (fun Γ hP hn => ?_)
  have hm : Tryz.prog.follows .mixedOrders = true := by kernel_rfl
  replace hn : Γ.n = 20 := hn
  refine sR hP hn hm [(4, .more (xPtrNil false))] [(6, bV false)] [0, 6] [] [0, 1] [false = false] ⟨rfl, trivial⟩ ?_
  refine AWp.cond false (by kernel_rfl) (fun h => nomatch h) (fun _ => ?_)
  refine sO hP hn hm [(5, .more xPtrSame)] [(19, bV false)] [19] [] [0, 1] ?_
  refine AWp.cond false (by kernel_rfl) (fun h => nomatch h) (fun _ => ?_)
  refine AWp.skip ?_
  exact rl (.inr rfl) rfl (by kernel_rfl) (by kernel_rfl)
theorem cx100_WriteString : Pv.Fn Tryz.prog 68 [.ptr 0 0 0, sV (⟨#[32]⟩ : ByteArray)] [(0, some (.box 141 [.ptr 0 0 0, .own 1])), (1, some (.row 1 5 [[iI .u8 115], [iI .u8 101], [iI .u8 114], [iI .u8 105], [iI .u8 101], [iI .u8 115], [iI .u8 32], [iI .u8 48]]))] 2 (fun x o => x = .tup [iV .i64 1, .im (.sc (.nilIface))] ∧ o = [(0, some (.box 141 [.ptr 0 0 0, .own 2])), (1, none), (2, some (.row 1 5 [[iI .u8 115], [iI .u8 101], [iI .u8 114], [iI .u8 105], [iI .u8 101], [iI .u8 115], [iI .u8 32], [iI .u8 48], [iI .u8 32]]))]) := by
  refine Fn.bodyK [0, 1, 2] Tryz.func68 rfl rfl (fun Γ hP hn => ?_)
  have hm : Tryz.prog.follows .mixedOrders = true := by kernel_rfl
  replace hn : Γ.n = 19 := hn
  refine sO hP hn hm [] [] [0, 1] [] [0, 1] ?_
  refine sR hP hn hm [(1, .callz [(0, 0), (1, 1)] [(0, 0), (1, 1)] [] [] 2 (.tup []) [(0, some (.box 141 [.ptr 0 0 0, .own 1])), (1, some (.row 1 5 [[iI .u8 115], [iI .u8 101], [iI .u8 114], [iI .u8 105], [iI .u8 101], [iI .u8 115], [iI .u8 32], [iI .u8 48]]))])] [] [0, 1] [] [0, 1] [_, _] ⟨Tryz.call118, cx99_copyCheck, trivial⟩ ?_
  refine sR hP hn hm [(6, .more (xAppStr 2 [[iI .u8 115], [iI .u8 101], [iI .u8 114], [iI .u8 105], [iI .u8 101], [iI .u8 115], [iI .u8 32], [iI .u8 48], [iI .u8 32]]))] [] [1] [(0, some (.box 141 [.ptr 0 0 0, .own 2])), (2, some (.row 1 5 [[iI .u8 115], [iI .u8 101], [iI .u8 114], [iI .u8 105], [iI .u8 101], [iI .u8 115], [iI .u8 32], [iI .u8 48], [iI .u8 32]]))] [0, 2] [([[iI .u8 115], [iI .u8 101], [iI .u8 114], [iI .u8 105], [iI .u8 101], [iI .u8 115], [iI .u8 32], [iI .u8 48], [iI .u8 32]] : List (List Im)) = ([[iI .u8 115], [iI .u8 101], [iI .u8 114], [iI .u8 105], [iI .u8 101], [iI .u8 115], [iI .u8 32], [iI .u8 48]] : List (List Im)) ++ (bytesL (⟨#[32]⟩ : ByteArray)).map (encInt .u8), (([[iI .u8 115], [iI .u8 101], [iI .u8 114], [iI .u8 105], [iI .u8 101], [iI .u8 115], [iI .u8 32], [iI .u8 48]] : List (List Im)).length + (⟨#[32]⟩ : ByteArray).size) * 1 ≤ 140737488355328] ⟨by kernel_rfl, by decide, trivial⟩ ?_
  refine sO hP hn hm [] [(4, iV .i64 1), (5, .im (.sc (.nilIface)))] [4, 5] [] [0, 2] ?_
  refine AWp.ret ?_
  exact rl (.inl rfl) rfl (by kernel_rfl) (by kernel_rfl)
theorem cx101_copyCheck : Pv.Fn Tryz.prog 118 [.ptr 0 0 0] [(0, some (.box 141 [.ptr 0 0 0, .own 1])), (1, some (.row 1 5 [[iI .u8 115], [iI .u8 101], [iI .u8 114], [iI .u8 105], [iI .u8 101], [iI .u8 115], [iI .u8 32], [iI .u8 48], [iI .u8 32]]))] 2 (fun x o => x = .tup [] ∧ o = [(0, some (.box 141 [.ptr 0 0 0, .own 1])), (1, some (.row 1 5 [[iI .u8 115], [iI .u8 101], [iI .u8 114], [iI .u8 105], [iI .u8 101], [iI .u8 115], [iI .u8 32], [iI .u8 48], [iI .u8 32]]))]) := by
  refine Fn.bodyK [0, 1] Tryz.func118 rfl rfl (fun Γ hP hn => ?_)
  have hm : Tryz.prog.follows .mixedOrders = true := by kernel_rfl
  replace hn : Γ.n = 20 := hn
  refine sR hP hn hm [(4, .more (xPtrNil false))] [(6, bV false)] [0, 6] [] [0, 1] [false = false] ⟨rfl, trivial⟩ ?_
  refine AWp.cond false (by kernel_rfl) (fun h => nomatch h) (fun _ => ?_)
  refine sO hP hn hm [(5, .more xPtrSame)] [(19, bV false)] [19] [] [0, 1] ?_
  refine AWp.cond false (by kernel_rfl) (fun h => nomatch h) (fun _ => ?_)
  refine AWp.skip ?_
  exact rl (.inr rfl) rfl (by kernel_rfl) (by kernel_rfl)
theorem cx102_WriteString : Pv.Fn Tryz.prog 68 [.ptr 0 0 0, sV (⟨#[104, 101, 97, 100]⟩ : ByteArray)] [(0, some (.box 141 [.ptr 0 0 0, .own 1])), (1, some (.row 1 5 [[iI .u8 115], [iI .u8 101], [iI .u8 114], [iI .u8 105], [iI .u8 101], [iI .u8 115], [iI .u8 32], [iI .u8 48], [iI .u8 32]]))] 2 (fun x o => x = .tup [iV .i64 4, .im (.sc (.nilIface))] ∧ o = [(0, some (.box 141 [.ptr 0 0 0, .own 2])), (1, none), (2, some (.row 1 5 [[iI .u8 115], [iI .u8 101], [iI .u8 114], [iI .u8 105], [iI .u8 101], [iI .u8 115], [iI .u8 32], [iI .u8 48], [iI .u8 32], [iI .u8 104], [iI .u8 101], [iI .u8 97], [iI .u8 100]]))]) := by
  refine Fn.bodyK [0, 1, 2] Tryz.func68 rfl rfl (fun Γ hP hn => ?_)
  have hm : Tryz.prog.follows .mixedOrders = true := by kernel_rfl
  replace hn : Γ.n = 19 := hn
  refine sO hP hn hm [] [] [0, 1] [] [0, 1] ?_
  refine sR hP hn hm [(1, .callz [(0, 0), (1, 1)] [(0, 0), (1, 1)] [] [] 2 (.tup []) [(0, some (.box 141 [.ptr 0 0 0, .own 1])), (1, some (.row 1 5 [[iI .u8 115], [iI .u8 101], [iI .u8 114], [iI .u8 105], [iI .u8 101], [iI .u8 115], [iI .u8 32], [iI .u8 48], [iI .u8 32]]))])] [] [0, 1] [] [0, 1] [_, _] ⟨Tryz.call118, cx101_copyCheck, trivial⟩ ?_
  refine sR hP hn hm [(6, .more (xAppStr 2 [[iI .u8 115], [iI .u8 101], [iI .u8 114], [iI .u8 105], [iI .u8 101], [iI .u8 115], [iI .u8 32], [iI .u8 48], [iI .u8 32], [iI .u8 104], [iI .u8 101], [iI .u8 97], [iI .u8 100]]))] [] [1] [(0, some (.box 141 [.ptr 0 0 0, .own 2])), (2, some (.row 1 5 [[iI .u8 115], [iI .u8 101], [iI .u8 114], [iI .u8 105], [iI .u8 101], [iI .u8 115], [iI .u8 32], [iI .u8 48], [iI .u8 32], [iI .u8 104], [iI .u8 101], [iI .u8 97], [iI .u8 100]]))] [0, 2] [([[iI .u8 115], [iI .u8 101], [iI .u8 114], [iI .u8 105], [iI .u8 101], [iI .u8 115], [iI .u8 32], [iI .u8 48], [iI .u8 32], [iI .u8 104], [iI .u8 101], [iI .u8 97], [iI .u8 100]] : List (List Im)) = ([[iI .u8 115], [iI .u8 101], [iI .u8 114], [iI .u8 105], [iI .u8 101], [iI .u8 115], [iI .u8 32], [iI .u8 48], [iI .u8 32]] : List (List Im)) ++ (bytesL (⟨#[104, 101, 97, 100]⟩ : ByteArray)).map (encInt .u8), (([[iI .u8 115], [iI .u8 101], [iI .u8 114], [iI .u8 105], [iI .u8 101], [iI .u8 115], [iI .u8 32], [iI .u8 48], [iI .u8 32]] : List (List Im)).length + (⟨#[104, 101, 97, 100]⟩ : ByteArray).size) * 1 ≤ 140737488355328] ⟨by kernel_rfl, by decide, trivial⟩ ?_
  refine sO hP hn hm [] [(4, iV .i64 4), (5, .im (.sc (.nilIface)))] [4, 5] [] [0, 2] ?_
  refine AWp.ret ?_
  exact rl (.inl rfl) rfl (by kernel_rfl) (by kernel_rfl)
theorem cx103_copyCheck : Pv.Fn Tryz.prog 118 [.ptr 0 0 0] [(0, some (.box 141 [.ptr 0 0 0, .own 1])), (1, some (.row 1 5 [[iI .u8 115], [iI .u8 101], [iI .u8 114], [iI .u8 105], [iI .u8 101], [iI .u8 115], [iI .u8 32], [iI .u8 48], [iI .u8 32], [iI .u8 104], [iI .u8 101], [iI .u8 97], [iI .u8 100]]))] 2 (fun x o => x = .tup [] ∧ o = [(0, some (.box 141 [.ptr 0 0 0, .own 1])), (1, some (.row 1 5 [[iI .u8 115], [iI .u8 101], [iI .u8 114], [iI .u8 105], [iI .u8 101], [iI .u8 115], [iI .u8 32], [iI .u8 48], [iI .u8 32], [iI .u8 104], [iI .u8 101], [iI .u8 97], [iI .u8 100]]))]) := by
  refine Fn.bodyK [0, 1] Tryz.func118 rfl rfl (fun Γ hP hn => ?_)
  have hm : Tryz.prog.follows .mixedOrders = true := by kernel_rfl
  replace hn : Γ.n = 20 := hn
  refine sR hP hn hm [(4, .more (xPtrNil false))] [(6, bV false)] [0, 6] [] [0, 1] [false = false] ⟨rfl, trivial⟩ ?_
  refine AWp.cond false (by kernel_rfl) (fun h => nomatch h) (fun _ => ?_)
  refine sO hP hn hm [(5, .more xPtrSame)] [(19, bV false)] [19] [] [0, 1] ?_
  refine AWp.cond false (by kernel_rfl) (fun h => nomatch h) (fun _ => ?_)
  refine AWp.skip ?_
  exact rl (.inr rfl) rfl (by kernel_rfl) (by kernel_rfl)
theorem cx104_WriteString : Pv.Fn Tryz.prog 68 [.ptr 0 0 0, sV (⟨#[32]⟩ : ByteArray)] [(0, some (.box 141 [.ptr 0 0 0, .own 1])), (1, some (.row 1 5 [[iI .u8 115], [iI .u8 101], [iI .u8 114], [iI .u8 105], [iI .u8 101], [iI .u8 115], [iI .u8 32], [iI .u8 48], [iI .u8 32], [iI .u8 104], [iI .u8 101], [iI .u8 97], [iI .u8 100]]))] 2 (fun x o => x = .tup [iV .i64 1, .im (.sc (.nilIface))] ∧ o = [(0, some (.box 141 [.ptr 0 0 0, .own 2])), (1, none), (2, some (.row 1 5 [[iI .u8 115], [iI .u8 101], [iI .u8 114], [iI .u8 105], [iI .u8 101], [iI .u8 115], [iI .u8 32], [iI .u8 48], [iI .u8 32], [iI .u8 104], [iI .u8 101], [iI .u8 97], [iI .u8 100], [iI .u8 32]]))]) := by
  refine Fn.bodyK [0, 1, 2] Tryz.func68 rfl rfl (fun Γ hP hn => ?_)
  have hm : Tryz.prog.follows .mixedOrders = true := by kernel_rfl
  replace hn : Γ.n = 19 := hn
  refine sO hP hn hm [] [] [0, 1] [] [0, 1] ?_
  refine sR hP hn hm [(1, .callz [(0, 0), (1, 1)] [(0, 0), (1, 1)] [] [] 2 (.tup []) [(0, some (.box 141 [.ptr 0 0 0, .own 1])), (1, some (.row 1 5 [[iI .u8 115], [iI .u8 101], [iI .u8 114], [iI .u8 105], [iI .u8 101], [iI .u8 115], [iI .u8 32], [iI .u8 48], [iI .u8 32], [iI .u8 104], [iI .u8 101], [iI .u8 97], [iI .u8 100]]))])] [] [0, 1] [] [0, 1] [_, _] ⟨Tryz.call118, cx103_copyCheck, trivial⟩ ?_
  refine sR hP hn hm [(6, .more (xAppStr 2 [[iI .u8 115], [iI .u8 101], [iI .u8 114], [iI .u8 105], [iI .u8 101], [iI .u8 115], [iI .u8 32], [iI .u8 48], [iI .u8 32], [iI .u8 104], [iI .u8 101], [iI .u8 97], [iI .u8 100], [iI .u8 32]]))] [] [1] [(0, some (.box 141 [.ptr 0 0 0, .own 2])), (2, some (.row 1 5 [[iI .u8 115], [iI .u8 101], [iI .u8 114], [iI .u8 105], [iI .u8 101], [iI .u8 115], [iI .u8 32], [iI .u8 48], [iI .u8 32], [iI .u8 104], [iI .u8 101], [iI .u8 97], [iI .u8 100], [iI .u8 32]]))] [0, 2] [([[iI .u8 115], [iI .u8 101], [iI .u8 114], [iI .u8 105], [iI .u8 101], [iI .u8 115], [iI .u8 32], [iI .u8 48], [iI .u8 32], [iI .u8 104], [iI .u8 101], [iI .u8 97], [iI .u8 100], [iI .u8 32]] : List (List Im)) = ([[iI .u8 115], [iI .u8 101], [iI .u8 114], [iI .u8 105], [iI .u8 101], [iI .u8 115], [iI .u8 32], [iI .u8 48], [iI .u8 32], [iI .u8 104], [iI .u8 101], [iI .u8 97], [iI .u8 100]] : List (List Im)) ++ (bytesL (⟨#[32]⟩ : ByteArray)).map (encInt .u8), (([[iI .u8 115], [iI .u8 101], [iI .u8 114], [iI .u8 105], [iI .u8 101], [iI .u8 115], [iI .u8 32], [iI .u8 48], [iI .u8 32], [iI .u8 104], [iI .u8 101], [iI .u8 97], [iI .u8 100]] : List (List Im)).length + (⟨#[32]⟩ : ByteArray).size) * 1 ≤ 140737488355328] ⟨by kernel_rfl, by decide, trivial⟩ ?_
  refine sO hP hn hm [] [(4, iV .i64 1), (5, .im (.sc (.nilIface)))] [4, 5] [] [0, 2] ?_
  refine AWp.ret ?_
  exact rl (.inl rfl) rfl (by kernel_rfl) (by kernel_rfl)
theorem cx105_copyCheck : Pv.Fn Tryz.prog 118 [.ptr 0 0 0] [(0, some (.box 141 [.ptr 0 0 0, .own 1])), (1, some (.row 1 5 [[iI .u8 115], [iI .u8 101], [iI .u8 114], [iI .u8 105], [iI .u8 101], [iI .u8 115], [iI .u8 32], [iI .u8 48], [iI .u8 32], [iI .u8 104], [iI .u8 101], [iI .u8 97], [iI .u8 100], [iI .u8 32]]))] 2 (fun x o => x = .tup [] ∧ o = [(0, some (.box 141 [.ptr 0 0 0, .own 1])), (1, some (.row 1 5 [[iI .u8 115], [iI .u8 101], [iI .u8 114], [iI .u8 105], [iI .u8 101], [iI .u8 115], [iI .u8 32], [iI .u8 48], [iI .u8 32], [iI .u8 104], [iI .u8 101], [iI .u8 97], [iI .u8 100], [iI .u8 32]]))]) := by
  refine Fn.bodyK [0, 1] Tryz.func118 rfl rfl (fun Γ hP hn => ?_)
  have hm : Tryz.prog.follows .mixedOrders = true := by kernel_rfl
  replace hn : Γ.n = 20 := hn
  refine sR hP hn hm [(4, .more (xPtrNil false))] [(6, bV false)] [0, 6] [] [0, 1] [false = false] ⟨rfl, trivial⟩ ?_
  refine AWp.cond false (by kernel_rfl) (fun h => nomatch h) (fun _ => ?_)
  refine sO hP hn hm [(5, .more xPtrSame)] [(19, bV false)] [19] [] [0, 1] ?_
  refine AWp.cond false (by kernel_rfl) (fun h => nomatch h) (fun _ => ?_)
  refine AWp.skip ?_
  exact rl (.inr rfl) rfl (by kernel_rfl) (by kernel_rfl)
theorem cx106_WriteString : Pv.Fn Tryz.prog 68 [.ptr 0 0 0, sV (⟨#[48]⟩ : ByteArray)] [(0, some (.box 141 [.ptr 0 0 0, .own 1])), (1, some (.row 1 5 [[iI .u8 115], [iI .u8 101], [iI .u8 114], [iI .u8 105], [iI .u8 101], [iI .u8 115], [iI .u8 32], [iI .u8 48], [iI .u8 32], [iI .u8 104], [iI .u8 101], [iI .u8 97], [iI .u8 100], [iI .u8 32]]))] 2 (fun x o => x = .tup [iV .i64 1, .im (.sc (.nilIface))] ∧ o = [(0, some (.box 141 [.ptr 0 0 0, .own 2])), (1, none), (2, some (.row 1 5 [[iI .u8 115], [iI .u8 101], [iI .u8 114], [iI .u8 105], [iI .u8 101], [iI .u8 115], [iI .u8 32], [iI .u8 48], [iI .u8 32], [iI .u8 104], [iI .u8 101], [iI .u8 97], [iI .u8 100], [iI .u8 32], [iI .u8 48]]))]) := by
  refine Fn.bodyK [0, 1, 2] Tryz.func68 rfl rfl (fun Γ hP hn => ?_)
  have hm : Tryz.prog.follows .mixedOrders = true := by kernel_rfl
  replace hn : Γ.n = 19 := hn
  refine sO hP hn hm [] [] [0, 1] [] [0, 1] ?_
  refine sR hP hn hm [(1, .callz [(0, 0), (1, 1)] [(0, 0), (1, 1)] [] [] 2 (.tup []) [(0, some (.box 141 [.ptr 0 0 0, .own 1])), (1, some (.row 1 5 [[iI .u8 115], [iI .u8 101], [iI .u8 114], [iI .u8 105], [iI .u8 101], [iI .u8 115], [iI .u8 32], [iI .u8 48], [iI .u8 32], [iI .u8 104], [iI .u8 101], [iI .u8 97], [iI .u8 100], [iI .u8 32]]))])] [] [0, 1] [] [0, 1] [_, _] ⟨Tryz.call118, cx105_copyCheck, trivial⟩ ?_
  refine sR hP hn hm [(6, .more (xAppStr 2 [[iI .u8 115], [iI .u8 101], [iI .u8 114], [iI .u8 105], [iI .u8 101], [iI .u8 115], [iI .u8 32], [iI .u8 48], [iI .u8 32], [iI .u8 104], [iI .u8 101], [iI .u8 97], [iI .u8 100], [iI .u8 32], [iI .u8 48]]))] [] [1] [(0, some (.box 141 [.ptr 0 0 0, .own 2])), (2, some (.row 1 5 [[iI .u8 115], [iI .u8 101], [iI .u8 114], [iI .u8 105], [iI .u8 101], [iI .u8 115], [iI .u8 32], [iI .u8 48], [iI .u8 32], [iI .u8 104], [iI .u8 101], [iI .u8 97], [iI .u8 100], [iI .u8 32], [iI .u8 48]]))] [0, 2] [([[iI .u8 115], [iI .u8 101], [iI .u8 114], [iI .u8 105], [iI .u8 101], [iI .u8 115], [iI .u8 32], [iI .u8 48], [iI .u8 32], [iI .u8 104], [iI .u8 101], [iI .u8 97], [iI .u8 100], [iI .u8 32], [iI .u8 48]] : List (List Im)) = ([[iI .u8 115], [iI .u8 101], [iI .u8 114], [iI .u8 105], [iI .u8 101], [iI .u8 115], [iI .u8 32], [iI .u8 48], [iI .u8 32], [iI .u8 104], [iI .u8 101], [iI .u8 97], [iI .u8 100], [iI .u8 32]] : List (List Im)) ++ (bytesL (⟨#[48]⟩ : ByteArray)).map (encInt .u8), (([[iI .u8 115], [iI .u8 101], [iI .u8 114], [iI .u8 105], [iI .u8 101], [iI .u8 115], [iI .u8 32], [iI .u8 48], [iI .u8 32], [iI .u8 104], [iI .u8 101], [iI .u8 97], [iI .u8 100], [iI .u8 32]] : List (List Im)).length + (⟨#[48]⟩ : ByteArray).size) * 1 ≤ 140737488355328] ⟨by kernel_rfl, by decide, trivial⟩ ?_
  refine sO hP hn hm [] [(4, iV .i64 1), (5, .im (.sc (.nilIface)))] [4, 5] [] [0, 2] ?_
  refine AWp.ret ?_
  exact rl (.inl rfl) rfl (by kernel_rfl) (by kernel_rfl)
theorem cx107_copyCheck : Pv.Fn Tryz.prog 118 [.ptr 0 0 0] [(0, some (.box 141 [.ptr 0 0 0, .own 1])), (1, some (.row 1 5 [[iI .u8 115], [iI .u8 101], [iI .u8 114], [iI .u8 105], [iI .u8 101], [iI .u8 115], [iI .u8 32], [iI .u8 48], [iI .u8 32], [iI .u8 104], [iI .u8 101], [iI .u8 97], [iI .u8 100], [iI .u8 32], [iI .u8 48]]))] 2 (fun x o => x = .tup [] ∧ o = [(0, some (.box 141 [.ptr 0 0 0, .own 1])), (1, some (.row 1 5 [[iI .u8 115], [iI .u8 101], [iI .u8 114], [iI .u8 105], [iI .u8 101], [iI .u8 115], [iI .u8 32], [iI .u8 48], [iI .u8 32], [iI .u8 104], [iI .u8 101], [iI .u8 97], [iI .u8 100], [iI .u8 32], [iI .u8 48]]))]) := by
  refine Fn.bodyK [0, 1] Tryz.func118 rfl rfl (fun Γ hP hn => ?_)
  have hm : Tryz.prog.follows .mixedOrders = true := by kernel_rfl
  replace hn : Γ.n = 20 := hn
  refine sR hP hn hm [(4, .more (xPtrNil false))] [(6, bV false)] [0, 6] [] [0, 1] [false = false] ⟨rfl, trivial⟩ ?_
  refine AWp.cond false (by kernel_rfl) (fun h => nomatch h) (fun _ => ?_)
  refine sO hP hn hm [(5, .more xPtrSame)] [(19, bV false)] [19] [] [0, 1] ?_
  refine AWp.cond false (by kernel_rfl) (fun h => nomatch h) (fun _ => ?_)
  refine AWp.skip ?_
  exact rl (.inr rfl) rfl (by kernel_rfl) (by kernel_rfl)
theorem cx108_WriteString : Pv.Fn Tryz.prog 68 [.ptr 0 0 0, sV (⟨#[32]⟩ : ByteArray)] [(0, some (.box 141 [.ptr 0 0 0, .own 1])), (1, some (.row 1 5 [[iI .u8 115], [iI .u8 101], [iI .u8 114], [iI .u8 105], [iI .u8 101], [iI .u8 115], [iI .u8 32], [iI .u8 48], [iI .u8 32], [iI .u8 104], [iI .u8 101], [iI .u8 97], [iI .u8 100], [iI .u8 32], [iI .u8 48]]))] 2 (fun x o => x = .tup [iV .i64 1, .im (.sc (.nilIface))] ∧ o = [(0, some (.box 141 [.ptr 0 0 0, .own 2])), (1, none), (2, some (.row 1 5 [[iI .u8 115], [iI .u8 101], [iI .u8 114], [iI .u8 105], [iI .u8 101], [iI .u8 115], [iI .u8 32], [iI .u8 48], [iI .u8 32], [iI .u8 104], [iI .u8 101], [iI .u8 97], [iI .u8 100], [iI .u8 32], [iI .u8 48], [iI .u8 32]]))]) := by
  refine Fn.bodyK [0, 1, 2] Tryz.func68 rfl rfl (fun Γ hP hn => ?_)
  have hm : Tryz.prog.follows .mixedOrders = true := by kernel_rfl
  replace hn : Γ.n = 19 := hn
  refine sO hP hn hm [] [] [0, 1] [] [0, 1] ?_
  refine sR hP hn hm [(1, .callz [(0, 0), (1, 1)] [(0, 0), (1, 1)] [] [] 2 (.tup []) [(0, some (.box 141 [.ptr 0 0 0, .own 1])), (1, some (.row 1 5 [[iI .u8 115], [iI .u8 101], [iI .u8 114], [iI .u8 105], [iI .u8 101], [iI .u8 115], [iI .u8 32], [iI .u8 48], [iI .u8 32], [iI .u8 104], [iI .u8 101], [iI .u8 97], [iI .u8 100], [iI .u8 32], [iI .u8 48]]))])] [] [0, 1] [] [0, 1] [_, _] ⟨Tryz.call118, cx107_copyCheck, trivial⟩ ?_
  refine sR hP hn hm [(6, .more (xAppStr 2 [[iI .u8 115], [iI .u8 101], [iI .u8 114], [iI .u8 105], [iI .u8 101], [iI .u8 115], [iI .u8 32], [iI .u8 48], [iI .u8 32], [iI .u8 104], [iI .u8 101], [iI .u8 97], [iI .u8 100], [iI .u8 32], [iI .u8 48], [iI .u8 32]]))] [] [1] [(0, some (.box 141 [.ptr 0 0 0, .own 2])), (2, some (.row 1 5 [[iI .u8 115], [iI .u8 101], [iI .u8 114], [iI .u8 105], [iI .u8 101], [iI .u8 115], [iI .u8 32], [iI .u8 48], [iI .u8 32], [iI .u8 104], [iI .u8 101], [iI .u8 97], [iI .u8 100], [iI .u8 32], [iI .u8 48], [iI .u8 32]]))] [0, 2] [([[iI .u8 115], [iI .u8 101], [iI .u8 114], [iI .u8 105], [iI .u8 101], [iI .u8 115], [iI .u8 32], [iI .u8 48], [iI .u8 32], [iI .u8 104], [iI .u8 101], [iI .u8 97], [iI .u8 100], [iI .u8 32], [iI .u8 48], [iI .u8 32]] : List (List Im)) = ([[iI .u8 115], [iI .u8 101], [iI .u8 114], [iI .u8 105], [iI .u8 101], [iI .u8 115], [iI .u8 32], [iI .u8 48], [iI .u8 32], [iI .u8 104], [iI .u8 101], [iI .u8 97], [iI .u8 100], [iI .u8 32], [iI .u8 48]] : List (List Im)) ++ (bytesL (⟨#[32]⟩ : ByteArray)).map (encInt .u8), (([[iI .u8 115], [iI .u8 101], [iI .u8 114], [iI .u8 105], [iI .u8 101], [iI .u8 115], [iI .u8 32], [iI .u8 48], [iI .u8 32], [iI .u8 104], [iI .u8 101], [iI .u8 97], [iI .u8 100], [iI .u8 32], [iI .u8 48]] : List (List Im)).length + (⟨#[32]⟩ : ByteArray).size) * 1 ≤ 140737488355328] ⟨by kernel_rfl, by decide, trivial⟩ ?_
  refine sO hP hn hm [] [(4, iV .i64 1), (5, .im (.sc (.nilIface)))] [4, 5] [] [0, 2] ?_
  refine AWp.ret ?_
  exact rl (.inl rfl) rfl (by kernel_rfl) (by kernel_rfl)
theorem cx109_copyCheck : Pv.Fn Tryz.prog 118 [.ptr 0 0 0] [(0, some (.box 141 [.ptr 0 0 0, .own 1])), (1, some (.row 1 5 [[iI .u8 115], [iI .u8 101], [iI .u8 114], [iI .u8 105], [iI .u8 101], [iI .u8 115], [iI .u8 32], [iI .u8 48], [iI .u8 32], [iI .u8 104], [iI .u8 101], [iI .u8 97], [iI .u8 100], [iI .u8 32], [iI .u8 48], [iI .u8 32]]))] 2 (fun x o => x = .tup [] ∧ o = [(0, some (.box 141 [.ptr 0 0 0, .own 1])), (1, some (.row 1 5 [[iI .u8 115], [iI .u8 101], [iI .u8 114], [iI .u8 105], [iI .u8 101], [iI .u8 115], [iI .u8 32], [iI .u8 48], [iI .u8 32], [iI .u8 104], [iI .u8 101], [iI .u8 97], [iI .u8 100], [iI .u8 32], [iI .u8 48], [iI .u8 32]]))]) := by
  refine Fn.bodyK [0, 1] Tryz.func118 rfl rfl (fun Γ hP hn => ?_)
  have hm : Tryz.prog.follows .mixedOrders = true := by kernel_rfl
  replace hn : Γ.n = 20 := hn
  refine sR hP hn hm [(4, .more (xPtrNil false))] [(6, bV false)] [0, 6] [] [0, 1] [false = false] ⟨rfl, trivial⟩ ?_
  refine AWp.cond false (by kernel_rfl) (fun h => nomatch h) (fun _ => ?_)
  refine sO hP hn hm [(5, .more xPtrSame)] [(19, bV false)] [19] [] [0, 1] ?_
  refine AWp.cond false (by kernel_rfl) (fun h => nomatch h) (fun _ => ?_)
  refine AWp.skip ?_
  exact rl (.inr rfl) rfl (by kernel_rfl) (by kernel_rfl)
theorem cx110_WriteString : Pv.Fn Tryz.prog 68 [.ptr 0 0 0, sV (⟨#[98, 108, 111, 99, 107, 115]⟩ : ByteArray)] [(0, some (.box 141 [.ptr 0 0 0, .own 1])), (1, some (.row 1 5 [[iI .u8 115], [iI .u8 101], [iI .u8 114], [iI .u8 105], [iI .u8 101], [iI .u8 115], [iI .u8 32], [iI .u8 48], [iI .u8 32], [iI .u8 104], [iI .u8 101], [iI .u8 97], [iI .u8 100], [iI .u8 32], [iI .u8 48], [iI .u8 32]]))] 2 (fun x o => x = .tup [iV .i64 6, .im (.sc (.nilIface))] ∧ o = [(0, some (.box 141 [.ptr 0 0 0, .own 2])), (1, none), (2, some (.row 1 5 [[iI .u8 115], [iI .u8 101], [iI .u8 114], [iI .u8 105], [iI .u8 101], [iI .u8 115], [iI .u8 32], [iI .u8 48], [iI .u8 32], [iI .u8 104], [iI .u8 101], [iI .u8 97], [iI .u8 100], [iI .u8 32], [iI .u8 48], [iI .u8 32], [iI .u8 98], [iI .u8 108], [iI .u8 111], [iI .u8 99], [iI .u8 107], [iI .u8 115]]))]) := by
  refine Fn.bodyK [0, 1, 2] Tryz.func68 rfl rfl (fun Γ hP hn => ?_)
  have hm : Tryz.prog.follows .mixedOrders = true := by kernel_rfl
  replace hn : Γ.n = 19 := hn
  refine sO hP hn hm [] [] [0, 1] [] [0, 1] ?_
  refine sR hP hn hm [(1, .callz [(0, 0), (1, 1)] [(0, 0), (1, 1)] [] [] 2 (.tup []) [(0, some (.box 141 [.ptr 0 0 0, .own 1])), (1, some (.row 1 5 [[iI .u8 115], [iI .u8 101], [iI .u8 114], [iI .u8 105], [iI .u8 101], [iI .u8 115], [iI .u8 32], [iI .u8 48], [iI .u8 32], [iI .u8 104], [iI .u8 101], [iI .u8 97], [iI .u8 100], [iI .u8 32], [iI .u8 48], [iI .u8 32]]))])] [] [0, 1] [] [0, 1] [_, _] ⟨Tryz.call118, cx109_copyCheck, trivial⟩ ?_
  refine sR hP hn hm [(6, .more (xAppStr 2 [[iI .u8 115], [iI .u8 101], [iI .u8 114], [iI .u8 105], [iI .u8 101], [iI .u8 115], [iI .u8 32], [iI .u8 48], [iI .u8 32], [iI .u8 104], [iI .u8 101], [iI .u8 97], [iI .u8 100], [iI .u8 32], [iI .u8 48], [iI .u8 32], [iI .u8 98], [iI .u8 108], [iI .u8 111], [iI .u8 99], [iI .u8 107], [iI .u8 115]]))] [] [1] [(0, some (.box 141 [.ptr 0 0 0, .own 2])), (2, some (.row 1 5 [[iI .u8 115], [iI .u8 101], [iI .u8 114], [iI .u8 105], [iI .u8 101], [iI .u8 115], [iI .u8 32], [iI .u8 48], [iI .u8 32], [iI .u8 104], [iI .u8 101], [iI .u8 97], [iI .u8 100], [iI .u8 32], [iI .u8 48], [iI .u8 32], [iI .u8 98], [iI .u8 108], [iI .u8 111], [iI .u8 99], [iI .u8 107], [iI .u8 115]]))] [0, 2] [([[iI .u8 115], [iI .u8 101], [iI .u8 114], [iI .u8 105], [iI .u8 101], [iI .u8 115], [iI .u8 32], [iI .u8 48], [iI .u8 32], [iI .u8 104], [iI .u8 101], [iI .u8 97], [iI .u8 100], [iI .u8 32], [iI .u8 48], [iI .u8 32], [iI .u8 98], [iI .u8 108], [iI .u8 111], [iI .u8 99], [iI .u8 107], [iI .u8 115]] : List (List Im)) = ([[iI .u8 115], [iI .u8 101], [iI .u8 114], [iI .u8 105], [iI .u8 101], [iI .u8 115], [iI .u8 32], [iI .u8 48], [iI .u8 32], [iI .u8 104], [iI .u8 101], [iI .u8 97], [iI .u8 100], [iI .u8 32], [iI .u8 48], [iI .u8 32]] : List (List Im)) ++ (bytesL (⟨#[98, 108, 111, 99, 107, 115]⟩ : ByteArray)).map (encInt .u8), (([[iI .u8 115], [iI .u8 101], [iI .u8 114], [iI .u8 105], [iI .u8 101], [iI .u8 115], [iI .u8 32], [iI .u8 48], [iI .u8 32], [iI .u8 104], [iI .u8 101], [iI .u8 97], [iI .u8 100], [iI .u8 32], [iI .u8 48], [iI .u8 32]] : List (List Im)).length + (⟨#[98, 108, 111, 99, 107, 115]⟩ : ByteArray).size) * 1 ≤ 140737488355328] ⟨by kernel_rfl, by decide, trivial⟩ ?_
  refine sO hP hn hm [] [(4, iV .i64 6), (5, .im (.sc (.nilIface)))] [4, 5] [] [0, 2] ?_
  refine AWp.ret ?_
  exact rl (.inl rfl) rfl (by kernel_rfl) (by kernel_rfl)
theorem cx111_copyCheck : Pv.Fn Tryz.prog 118 [.ptr 0 0 0] [(0, some (.box 141 [.ptr 0 0 0, .own 1])), (1, some (.row 1 5 [[iI .u8 115], [iI .u8 101], [iI .u8 114], [iI .u8 105], [iI .u8 101], [iI .u8 115], [iI .u8 32], [iI .u8 48], [iI .u8 32], [iI .u8 104], [iI .u8 101], [iI .u8 97], [iI .u8 100], [iI .u8 32], [iI .u8 48], [iI .u8 32], [iI .u8 98], [iI .u8 108], [iI .u8 111], [iI .u8 99], [iI .u8 107], [iI .u8 115]]))] 2 (fun x o => x = .tup [] ∧ o = [(0, some (.box 141 [.ptr 0 0 0, .own 1])), (1, some (.row 1 5 [[iI .u8 115], [iI .u8 101], [iI .u8 114], [iI .u8 105], [iI .u8 101], [iI .u8 115], [iI .u8 32], [iI .u8 48], [iI .u8 32], [iI .u8 104], [iI .u8 101], [iI .u8 97], [iI .u8 100], [iI .u8 32], [iI .u8 48], [iI .u8 32], [iI .u8 98], [iI .u8 108], [iI .u8 111], [iI .u8 99], [iI .u8 107], [iI .u8 115]]))]) := by
  refine Fn.bodyK [0, 1] Tryz.func118 rfl rfl (fun Γ hP hn => ?_)
  have hm : Tryz.prog.follows .mixedOrders = true := by kernel_rfl
  replace hn : Γ.n = 20 := hn
  refine sR hP hn hm [(4, .more (xPtrNil false))] [(6, bV false)] [0, 6] [] [0, 1] [false = false] ⟨rfl, trivial⟩ ?_
  refine AWp.cond false (by kernel_rfl) (fun h => nomatch h) (fun _ => ?_)
  refine sO hP hn hm [(5, .more xPtrSame)] [(19, bV false)] [19] [] [0, 1] ?_
  refine AWp.cond false (by kernel_rfl) (fun h => nomatch h) (fun _ => ?_)
  refine AWp.skip ?_
  exact rl (.inr rfl) rfl (by kernel_rfl) (by kernel_rfl)
theorem cx112_WriteString : Pv.Fn Tryz.prog 68 [.ptr 0 0 0, sV (⟨#[32]⟩ : ByteArray)] [(0, some (.box 141 [.ptr 0 0 0, .own 1])), (1, some (.row 1 5 [[iI .u8 115], [iI .u8 101], [iI .u8 114], [iI .u8 105], [iI .u8 101], [iI .u8 115], [iI .u8 32], [iI .u8 48], [iI .u8 32], [iI .u8 104], [iI .u8 101], [iI .u8 97], [iI .u8 100], [iI .u8 32], [iI .u8 48], [iI .u8 32], [iI .u8 98], [iI .u8 108], [iI .u8 111], [iI .u8 99], [iI .u8 107], [iI .u8 115]]))] 2 (fun x o => x = .tup [iV .i64 1, .im (.sc (.nilIface))] ∧ o = [(0, some (.box 141 [.ptr 0 0 0, .own 2])), (1, none), (2, some (.row 1 5 [[iI .u8 115], [iI .u8 101], [iI .u8 114], [iI .u8 105], [iI .u8 101], [iI .u8 115], [iI .u8 32], [iI .u8 48], [iI .u8 32], [iI .u8 104], [iI .u8 101], [iI .u8 97], [iI .u8 100], [iI .u8 32], [iI .u8 48], [iI .u8 32], [iI .u8 98], [iI .u8 108], [iI .u8 111], [iI .u8 99], [iI .u8 107], [iI .u8 115], [iI .u8 32]]))]) := by
  refine Fn.bodyK [0, 1, 2] Tryz.func68 rfl rfl (fun Γ hP hn => ?_)
  have hm : Tryz.prog.follows .mixedOrders = true := by kernel_rfl
  replace hn : Γ.n = 19 := hn
  refine sO hP hn hm [] [] [0, 1] [] [0, 1] ?_
  refine sR hP hn hm [(1, .callz [(0, 0), (1, 1)] [(0, 0), (1, 1)] [] [] 2 (.tup []) [(0, some (.box 141 [.ptr 0 0 0, .own 1])), (1, some (.row 1 5 [[iI .u8 115], [iI .u8 101], [iI .u8 114], [iI .u8 105], [iI .u8 101], [iI .u8 115], [iI .u8 32], [iI .u8 48], [iI .u8 32], [iI .u8 104], [iI .u8 101], [iI .u8 97], [iI .u8 100], [iI .u8 32], [iI .u8 48], [iI .u8 32], [iI .u8 98], [iI .u8 108], [iI .u8 111], [iI .u8 99], [iI .u8 107], [iI .u8 115]]))])] [] [0, 1] [] [0, 1] [_, _] ⟨Tryz.call118, cx111_copyCheck, trivial⟩ ?_
  refine sR hP hn hm [(6, .more (xAppStr 2 [[iI .u8 115], [iI .u8 101], [iI .u8 114], [iI .u8 105], [iI .u8 101], [iI .u8 115], [iI .u8 32], [iI .u8 48], [iI .u8 32], [iI .u8 104], [iI .u8 101], [iI .u8 97], [iI .u8 100], [iI .u8 32], [iI .u8 48], [iI .u8 32], [iI .u8 98], [iI .u8 108], [iI .u8 111], [iI .u8 99], [iI .u8 107], [iI .u8 115], [iI .u8 32]]))] [] [1] [(0, some (.box 141 [.ptr 0 0 0, .own 2])), (2, some (.row 1 5 [[iI .u8 115], [iI .u8 101], [iI .u8 114], [iI .u8 105], [iI .u8 101], [iI .u8 115], [iI .u8 32], [iI .u8 48], [iI .u8 32], [iI .u8 104], [iI .u8 101], [iI .u8 97], [iI .u8 100], [iI .u8 32], [iI .u8 48], [iI .u8 32], [iI .u8 98], [iI .u8 108], [iI .u8 111], [iI .u8 99], [iI .u8 107], [iI .u8 115], [iI .u8 32]]))] [0, 2] [([[iI .u8 115], [iI .u8 101], [iI .u8 114], [iI .u8 105], [iI .u8 101], [iI .u8 115], [iI .u8 32], [iI .u8 48], [iI .u8 32], [iI .u8 104], [iI .u8 101], [iI .u8 97], [iI .u8 100], [iI .u8 32], [iI .u8 48], [iI .u8 32], [iI .u8 98], [iI .u8 108], [iI .u8 111], [iI .u8 99], [iI .u8 107], [iI .u8 115], [iI .u8 32]] : List (List Im)) = ([[iI .u8 115], [iI .u8 101], [iI .u8 114], [iI .u8 105], [iI .u8 101], [iI .u8 115], [iI .u8 32], [iI .u8 48], [iI .u8 32], [iI .u8 104], [iI .u8 101], [iI .u8 97], [iI .u8 100], [iI .u8 32], [iI .u8 48], [iI .u8 32], [iI .u8 98], [iI .u8 108], [iI .u8 111], [iI .u8 99], [iI .u8 107], [iI .u8 115]] : List (List Im)) ++ (bytesL (⟨#[32]⟩ : ByteArray)).map (encInt .u8), (([[iI .u8 115], [iI .u8 101], [iI .u8 114], [iI .u8 105], [iI .u8 101], [iI .u8 115], [iI .u8 32], [iI .u8 48], [iI .u8 32], [iI .u8 104], [iI .u8 101], [iI .u8 97], [iI .u8 100], [iI .u8 32], [iI .u8 48], [iI .u8 32], [iI .u8 98], [iI .u8 108], [iI .u8 111], [iI .u8 99], [iI .u8 107], [iI .u8 115]] : List (List Im)).length + (⟨#[32]⟩ : ByteArray).size) * 1 ≤ 140737488355328] ⟨by kernel_rfl, by decide, trivial⟩ ?_
  refine sO hP hn hm [] [(4, iV .i64 1), (5, .im (.sc (.nilIface)))] [4, 5] [] [0, 2] ?_
  refine AWp.ret ?_
  exact rl (.inl rfl) rfl (by kernel_rfl) (by kernel_rfl)
theorem cx113_copyCheck : Pv.Fn Tryz.prog 118 [.ptr 0 0 0] [(0, some (.box 141 [.ptr 0 0 0, .own 1])), (1, some (.row 1 5 [[iI .u8 115], [iI .u8 101], [iI .u8 114], [iI .u8 105], [iI .u8 101], [iI .u8 115], [iI .u8 32], [iI .u8 48], [iI .u8 32], [iI .u8 104], [iI .u8 101], [iI .u8 97], [iI .u8 100], [iI .u8 32], [iI .u8 48], [iI .u8 32], [iI .u8 98], [iI .u8 108], [iI .u8 111], [iI .u8 99], [iI .u8 107], [iI .u8 115], [iI .u8 32]]))] 2 (fun x o => x = .tup [] ∧ o = [(0, some (.box 141 [.ptr 0 0 0, .own 1])), (1, some (.row 1 5 [[iI .u8 115], [iI .u8 101], [iI .u8 114], [iI .u8 105], [iI .u8 101], [iI .u8 115], [iI .u8 32], [iI .u8 48], [iI .u8 32], [iI .u8 104], [iI .u8 101], [iI .u8 97], [iI .u8 100], [iI .u8 32], [iI .u8 48], [iI .u8 32], [iI .u8 98], [iI .u8 108], [iI .u8 111], [iI .u8 99], [iI .u8 107], [iI .u8 115], [iI .u8 32]]))]) := by
  refine Fn.bodyK [0, 1] Tryz.func118 rfl rfl (fun Γ hP hn => ?_)
  have hm : Tryz.prog.follows .mixedOrders = true := by kernel_rfl
  replace hn : Γ.n = 20 := hn
  refine sR hP hn hm [(4, .more (xPtrNil false))] [(6, bV false)] [0, 6] [] [0, 1] [false = false] ⟨rfl, trivial⟩ ?_
  refine AWp.cond false (by kernel_rfl) (fun h => nomatch h) (fun _ => ?_)
  refine sO hP hn hm [(5, .more xPtrSame)] [(19, bV false)] [19] [] [0, 1] ?_
  refine AWp.cond false (by kernel_rfl) (fun h => nomatch h) (fun _ => ?_)
  refine AWp.skip ?_
  exact rl (.inr rfl) rfl (by kernel_rfl) (by kernel_rfl)
theorem cx114_WriteString : Pv.Fn Tryz.prog 68 [.ptr 0 0 0, sV (⟨#[48]⟩ : ByteArray)] [(0, some (.box 141 [.ptr 0 0 0, .own 1])), (1, some (.row 1 5 [[iI .u8 115], [iI .u8 101], [iI .u8 114], [iI .u8 105], [iI .u8 101], [iI .u8 115], [iI .u8 32], [iI .u8 48], [iI .u8 32], [iI .u8 104], [iI .u8 101], [iI .u8 97], [iI .u8 100], [iI .u8 32], [iI .u8 48], [iI .u8 32], [iI .u8 98], [iI .u8 108], [iI .u8 111], [iI .u8 99], [iI .u8 107], [iI .u8 115], [iI .u8 32]]))] 2 (fun x o => x = .tup [iV .i64 1, .im (.sc (.nilIface))] ∧ o = [(0, some (.box 141 [.ptr 0 0 0, .own 2])), (1, none), (2, some (.row 1 5 [[iI .u8 115], [iI .u8 101], [iI .u8 114], [iI .u8 105], [iI .u8 101], [iI .u8 115], [iI .u8 32], [iI .u8 48], [iI .u8 32], [iI .u8 104], [iI .u8 101], [iI .u8 97], [iI .u8 100], [iI .u8 32], [iI .u8 48], [iI .u8 32], [iI .u8 98], [iI .u8 108], [iI .u8 111], [iI .u8 99], [iI .u8 107], [iI .u8 115], [iI .u8 32], [iI .u8 48]]))]) := by
  refine Fn.bodyK [0, 1, 2] Tryz.func68 rfl rfl (fun Γ hP hn => ?_)
  have hm : Tryz.prog.follows .mixedOrders = true := by kernel_rfl
  replace hn : Γ.n = 19 := hn
  refine sO hP hn hm [] [] [0, 1] [] [0, 1] ?_
  refine sR hP hn hm [(1, .callz [(0, 0), (1, 1)] [(0, 0), (1, 1)] [] [] 2 (.tup []) [(0, some (.box 141 [.ptr 0 0 0, .own 1])), (1, some (.row 1 5 [[iI .u8 115], [iI .u8 101], [iI .u8 114], [iI .u8 105], [iI .u8 101], [iI .u8 115], [iI .u8 32], [iI .u8 48], [iI .u8 32], [iI .u8 104], [iI .u8 101], [iI .u8 97], [iI .u8 100], [iI .u8 32], [iI .u8 48], [iI .u8 32], [iI .u8 98], [iI .u8 108], [iI .u8 111], [iI .u8 99], [iI .u8 107], [iI .u8 115], [iI .u8 32]]))])] [] [0, 1] [] [0, 1] [_, _] ⟨Tryz.call118, cx113_copyCheck, trivial⟩ ?_
  refine sR hP hn hm [(6, .more (xAppStr 2 [[iI .u8 115], [iI .u8 101], [iI .u8 114], [iI .u8 105], [iI .u8 101], [iI .u8 115], [iI .u8 32], [iI .u8 48], [iI .u8 32], [iI .u8 104], [iI .u8 101], [iI .u8 97], [iI .u8 100], [iI .u8 32], [iI .u8 48], [iI .u8 32], [iI .u8 98], [iI .u8 108], [iI .u8 111], [iI .u8 99], [iI .u8 107], [iI .u8 115], [iI .u8 32], [iI .u8 48]]))] [] [1] [(0, some (.box 141 [.ptr 0 0 0, .own 2])), (2, some (.row 1 5 [[iI .u8 115], [iI .u8 101], [iI .u8 114], [iI .u8 105], [iI .u8 101], [iI .u8 115], [iI .u8 32], [iI .u8 48], [iI .u8 32], [iI .u8 104], [iI .u8 101], [iI .u8 97], [iI .u8 100], [iI .u8 32], [iI .u8 48], [iI .u8 32], [iI .u8 98], [iI .u8 108], [iI .u8 111], [iI .u8 99], [iI .u8 107], [iI .u8 115], [iI .u8 32], [iI .u8 48]]))] [0, 2] [([[iI .u8 115], [iI .u8 101], [iI .u8 114], [iI .u8 105], [iI .u8 101], [iI .u8 115], [iI .u8 32], [iI .u8 48], [iI .u8 32], [iI .u8 104], [iI .u8 101], [iI .u8 97], [iI .u8 100], [iI .u8 32], [iI .u8 48], [iI .u8 32], [iI .u8 98], [iI .u8 108], [iI .u8 111], [iI .u8 99], [iI .u8 107], [iI .u8 115], [iI .u8 32], [iI .u8 48]] : List (List Im)) = ([[iI .u8 115], [iI .u8 101], [iI .u8 114], [iI .u8 105], [iI .u8 101], [iI .u8 115], [iI .u8 32], [iI .u8 48], [iI .u8 32], [iI .u8 104], [iI .u8 101], [iI .u8 97], [iI .u8 100], [iI .u8 32], [iI .u8 48], [iI .u8 32], [iI .u8 98], [iI .u8 108], [iI .u8 111], [iI .u8 99], [iI .u8 107], [iI .u8 115], [iI .u8 32]] : List (List Im)) ++ (bytesL (⟨#[48]⟩ : ByteArray)).map (encInt .u8), (([[iI .u8 115], [iI .u8 101], [iI .u8 114], [iI .u8 105], [iI .u8 101], [iI .u8 115], [iI .u8 32], [iI .u8 48], [iI .u8 32], [iI .u8 104], [iI .u8 101], [iI .u8 97], [iI .u8 100], [iI .u8 32], [iI .u8 48], [iI .u8 32], [iI .u8 98], [iI .u8 108], [iI .u8 111], [iI .u8 99], [iI .u8 107], [iI .u8 115], [iI .u8 32]] : List (List Im)).length + (⟨#[48]⟩ : ByteArray).size) * 1 ≤ 140737488355328] ⟨by kernel_rfl, by decide, trivial⟩ ?_
  refine sO hP hn hm [] [(4, iV .i64 1), (5, .im (.sc (.nilIface)))] [4, 5] [] [0, 2] ?_
  refine AWp.ret ?_
  exact rl (.inl rfl) rfl (by kernel_rfl) (by kernel_rfl)
theorem cx115_copyCheck : Pv.Fn Tryz.prog 118 [.ptr 0 0 0] [(0, some (.box 141 [.ptr 0 0 0, .own 1])), (1, some (.row 1 5 [[iI .u8 115], [iI .u8 101], [iI .u8 114], [iI .u8 105], [iI .u8 101], [iI .u8 115], [iI .u8 32], [iI .u8 48], [iI .u8 32], [iI .u8 104], [iI .u8 101], [iI .u8 97], [iI .u8 100], [iI .u8 32], [iI .u8 48], [iI .u8 32], [iI .u8 98], [iI .u8 108], [iI .u8 111], [iI .u8 99], [iI .u8 107], [iI .u8 115], [iI .u8 32], [iI .u8 48]]))] 2 (fun x o => x = .tup [] ∧ o = [(0, some (.box 141 [.ptr 0 0 0, .own 1])), (1, some (.row 1 5 [[iI .u8 115], [iI .u8 101], [iI .u8 114], [iI .u8 105], [iI .u8 101], [iI .u8 115], [iI .u8 32], [iI .u8 48], [iI .u8 32], [iI .u8 104], [iI .u8 101], [iI .u8 97], [iI .u8 100], [iI .u8 32], [iI .u8 48], [iI .u8 32], [iI .u8 98], [iI .u8 108], [iI .u8 111], [iI .u8 99], [iI .u8 107], [iI .u8 115], [iI .u8 32], [iI .u8 48]]))]) := by
  refine Fn.bodyK [0, 1] Tryz.func118 rfl rfl (fun Γ hP hn => ?_)
  have hm : Tryz.prog.follows .mixedOrders = true := by kernel_rfl
  replace hn : Γ.n = 20 := hn
  refine sR hP hn hm [(4, .more (xPtrNil false))] [(6, bV false)] [0, 6] [] [0, 1] [false = false] ⟨rfl, trivial⟩ ?_
  refine AWp.cond false (by kernel_rfl) (fun h => nomatch h) (fun _ => ?_)
  refine sO hP hn hm [(5, .more xPtrSame)] [(19, bV false)] [19] [] [0, 1] ?_
  refine AWp.cond false (by kernel_rfl) (fun h => nomatch h) (fun _ => ?_)
  refine AWp.skip ?_
  exact rl (.inr rfl) rfl (by kernel_rfl) (by kernel_rfl)
theorem cx116_WriteString : Pv.Fn Tryz.prog 68 [.ptr 0 0 0, sV (⟨#[32]⟩ : ByteArray)] [(0, some (.box 141 [.ptr 0 0 0, .own 1])), (1, some (.row 1 5 [[iI .u8 115], [iI .u8 101], [iI .u8 114], [iI .u8 105], [iI .u8 101], [iI .u8 115], [iI .u8 32], [iI .u8 48], [iI .u8 32], [iI .u8 104], [iI .u8 101], [iI .u8 97], [iI .u8 100], [iI .u8 32], [iI .u8 48], [iI .u8 32], [iI .u8 98], [iI .u8 108], [iI .u8 111], [iI .u8 99], [iI .u8 107], [iI .u8 115], [iI .u8 32], [iI .u8 48]]))] 2 (fun x o => x = .tup [iV .i64 1, .im (.sc (.nilIface))] ∧ o = [(0, some (.box 141 [.ptr 0 0 0, .own 2])), (1, none), (2, some (.row 1 5 [[iI .u8 115], [iI .u8 101], [iI .u8 114], [iI .u8 105], [iI .u8 101], [iI .u8 115], [iI .u8 32], [iI .u8 48], [iI .u8 32], [iI .u8 104], [iI .u8 101], [iI .u8 97], [iI .u8 100], [iI .u8 32], [iI .u8 48], [iI .u8 32], [iI .u8 98], [iI .u8 108], [iI .u8 111], [iI .u8 99], [iI .u8 107], [iI .u8 115], [iI .u8 32], [iI .u8 48], [iI .u8 32]]))]) := by
  refine Fn.bodyK [0, 1, 2] Tryz.func68 rfl rfl (fun Γ hP hn => ?_)
  have hm : Tryz.prog.follows .mixedOrders = true := by kernel_rfl
  replace hn : Γ.n = 19 := hn
  refine sO hP hn hm [] [] [0, 1] [] [0, 1] ?_
  refine sR hP hn hm [(1, .callz [(0, 0), (1, 1)] [(0, 0), (1, 1)] [] [] 2 (.tup []) [(0, some (.box 141 [.ptr 0 0 0, .own 1])), (1, some (.row 1 5 [[iI .u8 115], [iI .u8 101], [iI .u8 114], [iI .u8 105], [iI .u8 101], [iI .u8 115], [iI .u8 32], [iI .u8 48], [iI .u8 32], [iI .u8 104], [iI .u8 101], [iI .u8 97], [iI .u8 100], [iI .u8 32], [iI .u8 48], [iI .u8 32], [iI .u8 98], [iI .u8 108], [iI .u8 111], [iI .u8 99], [iI .u8 107], [iI .u8 115], [iI .u8 32], [iI .u8 48]]))])] [] [0, 1] [] [0, 1] [_, _] ⟨Tryz.call118, cx115_copyCheck, trivial⟩ ?_
  refine sR hP hn hm [(6, .more (xAppStr 2 [[iI .u8 115], [iI .u8 101], [iI .u8 114], [iI .u8 105], [iI .u8 101], [iI .u8 115], [iI .u8 32], [iI .u8 48], [iI .u8 32], [iI .u8 104], [iI .u8 101], [iI .u8 97], [iI .u8 100], [iI .u8 32], [iI .u8 48], [iI .u8 32], [iI .u8 98], [iI .u8 108], [iI .u8 111], [iI .u8 99], [iI .u8 107], [iI .u8 115], [iI .u8 32], [iI .u8 48], [iI .u8 32]]))] [] [1] [(0, some (.box 141 [.ptr 0 0 0, .own 2])), (2, some (.row 1 5 [[iI .u8 115], [iI .u8 101], [iI .u8 114], [iI .u8 105], [iI .u8 101], [iI .u8 115], [iI .u8 32], [iI .u8 48], [iI .u8 32], [iI .u8 104], [iI .u8 101], [iI .u8 97], [iI .u8 100], [iI .u8 32], [iI .u8 48], [iI .u8 32], [iI .u8 98], [iI .u8 108], [iI .u8 111], [iI .u8 99], [iI .u8 107], [iI .u8 115], [iI .u8 32], [iI .u8 48], [iI .u8 32]]))] [0, 2] [([[iI .u8 115], [iI .u8 101], [iI .u8 114], [iI .u8 105], [iI .u8 101], [iI .u8 115], [iI .u8 32], [iI .u8 48], [iI .u8 32], [iI .u8 104], [iI .u8 101], [iI .u8 97], [iI .u8 100], [iI .u8 32], [iI .u8 48], [iI .u8 32], [iI .u8 98], [iI .u8 108], [iI .u8 111], [iI .u8 99], [iI .u8 107], [iI .u8 115], [iI .u8 32], [iI .u8 48], [iI .u8 32]] : List (List Im)) = ([[iI .u8 115], [iI .u8 101], [iI .u8 114], [iI .u8 105], [iI .u8 101], [iI .u8 115], [iI .u8 32], [iI .u8 48], [iI .u8 32], [iI .u8 104], [iI .u8 101], [iI .u8 97], [iI .u8 100], [iI .u8 32], [iI .u8 48], [iI .u8 32], [iI .u8 98], [iI .u8 108], [iI .u8 111], [iI .u8 99], [iI .u8 107], [iI .u8 115], [iI .u8 32], [iI .u8 48]] : List (List Im)) ++ (bytesL (⟨#[32]⟩ : ByteArray)).map (encInt .u8), (([[iI .u8 115], [iI .u8 101], [iI .u8 114], [iI .u8 105], [iI .u8 101], [iI .u8 115], [iI .u8 32], [iI .u8 48], [iI .u8 32], [iI .u8 104], [iI .u8 101], [iI .u8 97], [iI .u8 100], [iI .u8 32], [iI .u8 48], [iI .u8 32], [iI .u8 98], [iI .u8 108], [iI .u8 111], [iI .u8 99], [iI .u8 107], [iI .u8 115], [iI .u8 32], [iI .u8 48]] : List (List Im)).length + (⟨#[32]⟩ : ByteArray).size) * 1 ≤ 140737488355328] ⟨by kernel_rfl, by decide, trivial⟩ ?_
  refine sO hP hn hm [] [(4, iV .i64 1), (5, .im (.sc (.nilIface)))] [4, 5] [] [0, 2] ?_
  refine AWp.ret ?_
  exact rl (.inl rfl) rfl (by kernel_rfl) (by kernel_rfl)
theorem cx117_copyCheck : Pv.Fn Tryz.prog 118 [.ptr 0 0 0] [(0, some (.box 141 [.ptr 0 0 0, .own 1])), (1, some (.row 1 5 [[iI .u8 115], [iI .u8 101], [iI .u8 114], [iI .u8 105], [iI .u8 101], [iI .u8 115], [iI .u8 32], [iI .u8 48], [iI .u8 32], [iI .u8 104], [iI .u8 101], [iI .u8 97], [iI .u8 100], [iI .u8 32], [iI .u8 48], [iI .u8 32], [iI .u8 98], [iI .u8 108], [iI .u8 111], [iI .u8 99], [iI .u8 107], [iI .u8 115], [iI .u8 32], [iI .u8 48], [iI .u8 32]]))] 2 (fun x o => x = .tup [] ∧ o = [(0, some (.box 141 [.ptr 0 0 0, .own 1])), (1, some (.row 1 5 [[iI .u8 115], [iI .u8 101], [iI .u8 114], [iI .u8 105], [iI .u8 101], [iI .u8 115], [iI .u8 32], [iI .u8 48], [iI .u8 32], [iI .u8 104], [iI .u8 101], [iI .u8 97], [iI .u8 100], [iI .u8 32], [iI .u8 48], [iI .u8 32], [iI .u8 98], [iI .u8 108], [iI .u8 111], [iI .u8 99], [iI .u8 107], [iI .u8 115], [iI .u8 32], [iI .u8 48], [iI .u8 32]]))]) := by
  refine Fn.bodyK [0, 1] Tryz.func118 rfl rfl (fun Γ hP hn => ?_)
  have hm : Tryz.prog.follows .mixedOrders = true := by kernel_rfl
  replace hn : Γ.n = 20 := hn
  refine sR hP hn hm [(4, .more (xPtrNil false))] [(6, bV false)] [0, 6] [] [0, 1] [false = false] ⟨rfl, trivial⟩ ?_
  refine AWp.cond false (by kernel_rfl) (fun h => nomatch h) (fun _ => ?_)
  refine sO hP hn hm [(5, .more xPtrSame)] [(19, bV false)] [19] [] [0, 1] ?_
  refine AWp.cond false (by kernel_rfl) (fun h => nomatch h) (fun _ => ?_)
  refine AWp.skip ?_
  exact rl (.inr rfl) rfl (by kernel_rfl) (by kernel_rfl)
theorem cx118_WriteString : Pv.Fn Tryz.prog 68 [.ptr 0 0 0, sV (⟨#[109, 97, 114, 107]⟩ : ByteArray)] [(0, some (.box 141 [.ptr 0 0 0, .own 1])), (1, some (.row 1 5 [[iI .u8 115], [iI .u8 101], [iI .u8 114], [iI .u8 105], [iI .u8 101], [iI .u8 115], [iI .u8 32], [iI .u8 48], [iI .u8 32], [iI .u8 104], [iI .u8 101], [iI .u8 97], [iI .u8 100], [iI .u8 32], [iI .u8 48], [iI .u8 32], [iI .u8 98], [iI .u8 108], [iI .u8 111], [iI .u8 99], [iI .u8 107], [iI .u8 115], [iI .u8 32], [iI .u8 48], [iI .u8 32]]))] 2 (fun x o => x = .tup [iV .i64 4, .im (.sc (.nilIface))] ∧ o = [(0, some (.box 141 [.ptr 0 0 0, .own 2])), (1, none), (2, some (.row 1 5 [[iI .u8 115], [iI .u8 101], [iI .u8 114], [iI .u8 105], [iI .u8 101], [iI .u8 115], [iI .u8 32], [iI .u8 48], [iI .u8 32], [iI .u8 104], [iI .u8 101], [iI .u8 97], [iI .u8 100], [iI .u8 32], [iI .u8 48], [iI .u8 32], [iI .u8 98], [iI .u8 108], [iI .u8 111], [iI .u8 99], [iI .u8 107], [iI .u8 115], [iI .u8 32], [iI .u8 48], [iI .u8 32], [iI .u8 109], [iI .u8 97], [iI .u8 114], [iI .u8 107]]))]) := by
  refine Fn.bodyK [0, 1, 2] Tryz.func68 rfl rfl (fun Γ hP hn => ?_)
  have hm : Tryz.prog.follows .mixedOrders = true := by kernel_rfl
  replace hn : Γ.n = 19 := hn
  refine sO hP hn hm [] [] [0, 1] [] [0, 1] ?_
  refine sR hP hn hm [(1, .callz [(0, 0), (1, 1)] [(0, 0), (1, 1)] [] [] 2 (.tup []) [(0, some (.box 141 [.ptr 0 0 0, .own 1])), (1, some (.row 1 5 [[iI .u8 115], [iI .u8 101], [iI .u8 114], [iI .u8 105], [iI .u8 101], [iI .u8 115], [iI .u8 32], [iI .u8 48], [iI .u8 32], [iI .u8 104], [iI .u8 101], [iI .u8 97], [iI .u8 100], [iI .u8 32], [iI .u8 48], [iI .u8 32], [iI .u8 98], [iI .u8 108], [iI .u8 111], [iI .u8 99], [iI .u8 107], [iI .u8 115], [iI .u8 32], [iI .u8 48], [iI .u8 32]]))])] [] [0, 1] [] [0, 1] [_, _] ⟨Tryz.call118, cx117_copyCheck, trivial⟩ ?_
  refine sR hP hn hm [(6, .more (xAppStr 2 [[iI .u8 115], [iI .u8 101], [iI .u8 114], [iI .u8 105], [iI .u8 101], [iI .u8 115], [iI .u8 32], [iI .u8 48], [iI .u8 32], [iI .u8 104], [iI .u8 101], [iI .u8 97], [iI .u8 100], [iI .u8 32], [iI .u8 48], [iI .u8 32], [iI .u8 98], [iI .u8 108], [iI .u8 111], [iI .u8 99], [iI .u8 107], [iI .u8 115], [iI .u8 32], [iI .u8 48], [iI .u8 32], [iI .u8 109], [iI .u8 97], [iI .u8 114], [iI .u8 107]]))] [] [1] [(0, some (.box 141 [.ptr 0 0 0, .own 2])), (2, some (.row 1 5 [[iI .u8 115], [iI .u8 101], [iI .u8 114], [iI .u8 105], [iI .u8 101], [iI .u8 115], [iI .u8 32], [iI .u8 48], [iI .u8 32], [iI .u8 104], [iI .u8 101], [iI .u8 97], [iI .u8 100], [iI .u8 32], [iI .u8 48], [iI .u8 32], [iI .u8 98], [iI .u8 108], [iI .u8 111], [iI .u8 99], [iI .u8 107], [iI .u8 115], [iI .u8 32], [iI .u8 48], [iI .u8 32], [iI .u8 109], [iI .u8 97], [iI .u8 114], [iI .u8 107]]))] [0, 2] [([[iI .u8 115], [iI .u8 101], [iI .u8 114], [iI .u8 105], [iI .u8 101], [iI .u8 115], [iI .u8 32], [iI .u8 48], [iI .u8 32], [iI .u8 104], [iI .u8 101], [iI .u8 97], [iI .u8 100], [iI .u8 32], [iI .u8 48], [iI .u8 32], [iI .u8 98], [iI .u8 108], [iI .u8 111], [iI .u8 99], [iI .u8 107], [iI .u8 115], [iI .u8 32], [iI .u8 48], [iI .u8 32], [iI .u8 109], [iI .u8 97], [iI .u8 114], [iI .u8 107]] : List (List Im)) = ([[iI .u8 115], [iI .u8 101], [iI .u8 114], [iI .u8 105], [iI .u8 101], [iI .u8 115], [iI .u8 32], [iI .u8 48], [iI .u8 32], [iI .u8 104], [iI .u8 101], [iI .u8 97], [iI .u8 100], [iI .u8 32], [iI .u8 48], [iI .u8 32], [iI .u8 98], [iI .u8 108], [iI .u8 111], [iI .u8 99], [iI .u8 107], [iI .u8 115], [iI .u8 32], [iI .u8 48], [iI .u8 32]] : List (List Im)) ++ (bytesL (⟨#[109, 97, 114, 107]⟩ : ByteArray)).map (encInt .u8), (([[iI .u8 115], [iI .u8 101], [iI .u8 114], [iI .u8 105], [iI .u8 101], [iI .u8 115], [iI .u8 32], [iI .u8 48], [iI .u8 32], [iI .u8 104], [iI .u8 101], [iI .u8 97], [iI .u8 100], [iI .u8 32], [iI .u8 48], [iI .u8 32], [iI .u8 98], [iI .u8 108], [iI .u8 111], [iI .u8 99], [iI .u8 107], [iI .u8 115], [iI .u8 32], [iI .u8 48], [iI .u8 32]] : List (List Im)).length + (⟨#[109, 97, 114, 107]⟩ : ByteArray).size) * 1 ≤ 140737488355328] ⟨by kernel_rfl, by decide, trivial⟩ ?_
  refine sO hP hn hm [] [(4, iV .i64 4), (5, .im (.sc (.nilIface)))] [4, 5] [] [0, 2] ?_
  refine AWp.ret ?_
  exact rl (.inl rfl) rfl (by kernel_rfl) (by kernel_rfl)
theorem cx119_copyCheck : Pv.Fn Tryz.prog 118 [.ptr 0 0 0] [(0, some (.box 141 [.ptr 0 0 0, .own 1])), (1, some (.row 1 5 [[iI .u8 115], [iI .u8 101], [iI .u8 114], [iI .u8 105], [iI .u8 101], [iI .u8 115], [iI .u8 32], [iI .u8 48], [iI .u8 32], [iI .u8 104], [iI .u8 101], [iI .u8 97], [iI .u8 100], [iI .u8 32], [iI .u8 48], [iI .u8 32], [iI .u8 98], [iI .u8 108], [iI .u8 111], [iI .u8 99], [iI .u8 107], [iI .u8 115], [iI .u8 32], [iI .u8 48], [iI .u8 32], [iI .u8 109], [iI .u8 97], [iI .u8 114], [iI .u8 107]]))] 2 (fun x o => x = .tup [] ∧ o = [(0, some (.box 141 [.ptr 0 0 0, .own 1])), (1, some (.row 1 5 [[iI .u8 115], [iI .u8 101], [iI .u8 114], [iI .u8 105], [iI .u8 101], [iI .u8 115], [iI .u8 32], [iI .u8 48], [iI .u8 32], [iI .u8 104], [iI .u8 101], [iI .u8 97], [iI .u8 100], [iI .u8 32], [iI .u8 48], [iI .u8 32], [iI .u8 98], [iI .u8 108], [iI .u8 111], [iI .u8 99], [iI .u8 107], [iI .u8 115], [iI .u8 32], [iI .u8 48], [iI .u8 32], [iI .u8 109], [iI .u8 97], [iI .u8 114], [iI .u8 107]]))]) := by
  refine Fn.bodyK [0, 1] Tryz.func118 rfl rfl (fun Γ hP hn => ?_)
  have hm : Tryz.prog.follows .mixedOrders = true := by kernel_rfl
  replace hn : Γ.n = 20 := hn
  refine sR hP hn hm [(4, .more (xPtrNil false))] [(6, bV false)] [0, 6] [] [0, 1] [false = false] ⟨rfl, trivial⟩ ?_
  refine AWp.cond false (by kernel_rfl) (fun h => nomatch h) (fun _ => ?_)
  refine sO hP hn hm [(5, .more xPtrSame)] [(19, bV false)] [19] [] [0, 1] ?_
  refine AWp.cond false (by kernel_rfl) (fun h => nomatch h) (fun _ => ?_)
  refine AWp.skip ?_
  exact rl (.inr rfl) rfl (by kernel_rfl) (by kernel_rfl)
theorem cx120_WriteString : Pv.Fn Tryz.prog 68 [.ptr 0 0 0, sV (⟨#[32]⟩ : ByteArray)] [(0, some (.box 141 [.ptr 0 0 0, .own 1])), (1, some (.row 1 5 [[iI .u8 115], [iI .u8 101], [iI .u8 114], [iI .u8 105], [iI .u8 101], [iI .u8 115], [iI .u8 32], [iI .u8 48], [iI .u8 32], [iI .u8 104], [iI .u8 101], [iI .u8 97], [iI .u8 100], [iI .u8 32], [iI .u8 48], [iI .u8 32], [iI .u8 98], [iI .u8 108], [iI .u8 111], [iI .u8 99], [iI .u8 107], [iI .u8 115], [iI .u8 32], [iI .u8 48], [iI .u8 32], [iI .u8 109], [iI .u8 97], [iI .u8 114], [iI .u8 107]]))] 2 (fun x o => x = .tup [iV .i64 1, .im (.sc (.nilIface))] ∧ o = [(0, some (.box 141 [.ptr 0 0 0, .own 2])), (1, none), (2, some (.row 1 5 [[iI .u8 115], [iI .u8 101], [iI .u8 114], [iI .u8 105], [iI .u8 101], [iI .u8 115], [iI .u8 32], [iI .u8 48], [iI .u8 32], [iI .u8 104], [iI .u8 101], [iI .u8 97], [iI .u8 100], [iI .u8 32], [iI .u8 48], [iI .u8 32], [iI .u8 98], [iI .u8 108], [iI .u8 111], [iI .u8 99], [iI .u8 107], [iI .u8 115], [iI .u8 32], [iI .u8 48], [iI .u8 32], [iI .u8 109], [iI .u8 97], [iI .u8 114], [iI .u8 107], [iI .u8 32]]))]) := by
  refine Fn.bodyK [0, 1, 2] Tryz.func68 rfl rfl (fun Γ hP hn => ?_)
  have hm : Tryz.prog.follows .mixedOrders = true := by kernel_rfl
  replace hn : Γ.n = 19 := hn
  refine sO hP hn hm [] [] [0, 1] [] [0, 1] ?_
  refine sR hP hn hm [(1, .callz [(0, 0), (1, 1)] [(0, 0), (1, 1)] [] [] 2 (.tup []) [(0, some (.box 141 [.ptr 0 0 0, .own 1])), (1, some (.row 1 5 [[iI .u8 115], [iI .u8 101], [iI .u8 114], [iI .u8 105], [iI .u8 101], [iI .u8 115], [iI .u8 32], [iI .u8 48], [iI .u8 32], [iI .u8 104], [iI .u8 101], [iI .u8 97], [iI .u8 100], [iI .u8 32], [iI .u8 48], [iI .u8 32], [iI .u8 98], [iI .u8 108], [iI .u8 111], [iI .u8 99], [iI .u8 107], [iI .u8 115], [iI .u8 32], [iI .u8 48], [iI .u8 32], [iI .u8 109], [iI .u8 97], [iI .u8 114], [iI .u8 107]]))])] [] [0, 1] [] [0, 1] [_, _] ⟨Tryz.call118, cx119_copyCheck, trivial⟩ ?_
  refine sR hP hn hm [(6, .more (xAppStr 2 [[iI .u8 115], [iI .u8 101], [iI .u8 114], [iI .u8 105], [iI .u8 101], [iI .u8 115], [iI .u8 32], [iI .u8 48], [iI .u8 32], [iI .u8 104], [iI .u8 101], [iI .u8 97], [iI .u8 100], [iI .u8 32], [iI .u8 48], [iI .u8 32], [iI .u8 98], [iI .u8 108], [iI .u8 111], [iI .u8 99], [iI .u8 107], [iI .u8 115], [iI .u8 32], [iI .u8 48], [iI .u8 32], [iI .u8 109], [iI .u8 97], [iI .u8 114], [iI .u8 107], [iI .u8 32]]))] [] [1] [(0, some (.box 141 [.ptr 0 0 0, .own 2])), (2, some (.row 1 5 [[iI .u8 115], [iI .u8 101], [iI .u8 114], [iI .u8 105], [iI .u8 101], [iI .u8 115], [iI .u8 32], [iI .u8 48], [iI .u8 32], [iI .u8 104], [iI .u8 101], [iI .u8 97], [iI .u8 100], [iI .u8 32], [iI .u8 48], [iI .u8 32], [iI .u8 98], [iI .u8 108], [iI .u8 111], [iI .u8 99], [iI .u8 107], [iI .u8 115], [iI .u8 32], [iI .u8 48], [iI .u8 32], [iI .u8 109], [iI .u8 97], [iI .u8 114], [iI .u8 107], [iI .u8 32]]))] [0, 2] [([[iI .u8 115], [iI .u8 101], [iI .u8 114], [iI .u8 105], [iI .u8 101], [iI .u8 115], [iI .u8 32], [iI .u8 48], [iI .u8 32], [iI .u8 104], [iI .u8 101], [iI .u8 97], [iI .u8 100], [iI .u8 32], [iI .u8 48], [iI .u8 32], [iI .u8 98], [iI .u8 108], [iI .u8 111], [iI .u8 99], [iI .u8 107], [iI .u8 115], [iI .u8 32], [iI .u8 48], [iI .u8 32], [iI .u8 109], [iI .u8 97], [iI .u8 114], [iI .u8 107], [iI .u8 32]] : List (List Im)) = ([[iI .u8 115], [iI .u8 101], [iI .u8 114], [iI .u8 105], [iI .u8 101], [iI .u8 115], [iI .u8 32], [iI .u8 48], [iI .u8 32], [iI .u8 104], [iI .u8 101], [iI .u8 97], [iI .u8 100], [iI .u8 32], [iI .u8 48], [iI .u8 32], [iI .u8 98], [iI .u8 108], [iI .u8 111], [iI .u8 99], [iI .u8 107], [iI .u8 115], [iI .u8 32], [iI .u8 48], [iI .u8 32], [iI .u8 109], [iI .u8 97], [iI .u8 114], [iI .u8 107]] : List (List Im)) ++ (bytesL (⟨#[32]⟩ : ByteArray)).map (encInt .u8), (([[iI .u8 115], [iI .u8 101], [iI .u8 114], [iI .u8 105], [iI .u8 101], [iI .u8 115], [iI .u8 32], [iI .u8 48], [iI .u8 32], [iI .u8 104], [iI .u8 101], [iI .u8 97], [iI .u8 100], [iI .u8 32], [iI .u8 48], [iI .u8 32], [iI .u8 98], [iI .u8 108], [iI .u8 111], [iI .u8 99], [iI .u8 107], [iI .u8 115], [iI .u8 32], [iI .u8 48], [iI .u8 32], [iI .u8 109], [iI .u8 97], [iI .u8 114], [iI .u8 107]] : List (List Im)).length + (⟨#[32]⟩ : ByteArray).size) * 1 ≤ 140737488355328] ⟨by kernel_rfl, by decide, trivial⟩ ?_
  refine sO hP hn hm [] [(4, iV .i64 1), (5, .im (.sc (.nilIface)))] [4, 5] [] [0, 2] ?_
  refine AWp.ret ?_
  exact rl (.inl rfl) rfl (by kernel_rfl) (by kernel_rfl)
theorem cx121_copyCheck : Pv.Fn Tryz.prog 118 [.ptr 0 0 0] [(0, some (.box 141 [.ptr 0 0 0, .own 1])), (1, some (.row 1 5 [[iI .u8 115], [iI .u8 101], [iI .u8 114], [iI .u8 105], [iI .u8 101], [iI .u8 115], [iI .u8 32], [iI .u8 48], [iI .u8 32], [iI .u8 104], [iI .u8 101], [iI .u8 97], [iI .u8 100], [iI .u8 32], [iI .u8 48], [iI .u8 32], [iI .u8 98], [iI .u8 108], [iI .u8 111], [iI .u8 99], [iI .u8 107], [iI .u8 115], [iI .u8 32], [iI .u8 48], [iI .u8 32], [iI .u8 109], [iI .u8 97], [iI .u8 114], [iI .u8 107], [iI .u8 32]]))] 2 (fun x o => x = .tup [] ∧ o = [(0, some (.box 141 [.ptr 0 0 0, .own 1])), (1, some (.row 1 5 [[iI .u8 115], [iI .u8 101], [iI .u8 114], [iI .u8 105], [iI .u8 101], [iI .u8 115], [iI .u8 32], [iI .u8 48], [iI .u8 32], [iI .u8 104], [iI .u8 101], [iI .u8 97], [iI .u8 100], [iI .u8 32], [iI .u8 48], [iI .u8 32], [iI .u8 98], [iI .u8 108], [iI .u8 111], [iI .u8 99], [iI .u8 107], [iI .u8 115], [iI .u8 32], [iI .u8 48], [iI .u8 32], [iI .u8 109], [iI .u8 97], [iI .u8 114], [iI .u8 107], [iI .u8 32]]))]) := by
  refine Fn.bodyK [0, 1] Tryz.func118 rfl rfl (fun Γ hP hn => ?_)
  have hm : Tryz.prog.follows .mixedOrders = true := by kernel_rfl
  replace hn : Γ.n = 20 := hn
  refine sR hP hn hm [(4, .more (xPtrNil false))] [(6, bV false)] [0, 6] [] [0, 1] [false = false] ⟨rfl, trivial⟩ ?_
  refine AWp.cond false (by kernel_rfl) (fun h => nomatch h) (fun _ => ?_)
  refine sO hP hn hm [(5, .more xPtrSame)] [(19, bV false)] [19] [] [0, 1] ?_
  refine AWp.cond false (by kernel_rfl) (fun h => nomatch h) (fun _ => ?_)
  refine AWp.skip ?_
  exact rl (.inr rfl) rfl (by kernel_rfl) (by kernel_rfl)
theorem cx122_WriteString : Pv.Fn Tryz.prog 68 [.ptr 0 0 0, sV (⟨#[48]⟩ : ByteArray)] [(0, some (.box 141 [.ptr 0 0 0, .own 1])), (1, some (.row 1 5 [[iI .u8 115], [iI .u8 101], [iI .u8 114], [iI .u8 105], [iI .u8 101], [iI .u8 115], [iI .u8 32], [iI .u8 48], [iI .u8 32], [iI .u8 104], [iI .u8 101], [iI .u8 97], [iI .u8 100], [iI .u8 32], [iI .u8 48], [iI .u8 32], [iI .u8 98], [iI .u8 108], [iI .u8 111], [iI .u8 99], [iI .u8 107], [iI .u8 115], [iI .u8 32], [iI .u8 48], [iI .u8 32], [iI .u8 109], [iI .u8 97], [iI .u8 114], [iI .u8 107], [iI .u8 32]]))] 2 (fun x o => x = .tup [iV .i64 1, .im (.sc (.nilIface))] ∧ o = [(0, some (.box 141 [.ptr 0 0 0, .own 2])), (1, none), (2, some (.row 1 5 [[iI .u8 115], [iI .u8 101], [iI .u8 114], [iI .u8 105], [iI .u8 101], [iI .u8 115], [iI .u8 32], [iI .u8 48], [iI .u8 32], [iI .u8 104], [iI .u8 101], [iI .u8 97], [iI .u8 100], [iI .u8 32], [iI .u8 48], [iI .u8 32], [iI .u8 98], [iI .u8 108], [iI .u8 111], [iI .u8 99], [iI .u8 107], [iI .u8 115], [iI .u8 32], [iI .u8 48], [iI .u8 32], [iI .u8 109], [iI .u8 97], [iI .u8 114], [iI .u8 107], [iI .u8 32], [iI .u8 48]]))]) := by
  refine Fn.bodyK [0, 1, 2] Tryz.func68 rfl rfl (fun Γ hP hn => ?_)
  have hm : Tryz.prog.follows .mixedOrders = true := by kernel_rfl
  replace hn : Γ.n = 19 := hn
  refine sO hP hn hm [] [] [0, 1] [] [0, 1] ?_
  refine sR hP hn hm [(1, .callz [(0, 0), (1, 1)] [(0, 0), (1, 1)] [] [] 2 (.tup []) [(0, some (.box 141 [.ptr 0 0 0, .own 1])), (1, some (.row 1 5 [[iI .u8 115], [iI .u8 101], [iI .u8 114], [iI .u8 105], [iI .u8 101], [iI .u8 115], [iI .u8 32], [iI .u8 48], [iI .u8 32], [iI .u8 104], [iI .u8 101], [iI .u8 97], [iI .u8 100], [iI .u8 32], [iI .u8 48], [iI .u8 32], [iI .u8 98], [iI .u8 108], [iI .u8 111], [iI .u8 99], [iI .u8 107], [iI .u8 115], [iI .u8 32], [iI .u8 48], [iI .u8 32], [iI .u8 109], [iI .u8 97], [iI .u8 114], [iI .u8 107], [iI .u8 32]]))])] [] [0, 1] [] [0, 1] [_, _] ⟨Tryz.call118, cx121_copyCheck, trivial⟩ ?_
  refine sR hP hn hm [(6, .more (xAppStr 2 [[iI .u8 115], [iI .u8 101], [iI .u8 114], [iI .u8 105], [iI .u8 101], [iI .u8 115], [iI .u8 32], [iI .u8 48], [iI .u8 32], [iI .u8 104], [iI .u8 101], [iI .u8 97], [iI .u8 100], [iI .u8 32], [iI .u8 48], [iI .u8 32], [iI .u8 98], [iI .u8 108], [iI .u8 111], [iI .u8 99], [iI .u8 107], [iI .u8 115], [iI .u8 32], [iI .u8 48], [iI .u8 32], [iI .u8 109], [iI .u8 97], [iI .u8 114], [iI .u8 107], [iI .u8 32], [iI .u8 48]]))] [] [1] [(0, some (.box 141 [.ptr 0 0 0, .own 2])), (2, some (.row 1 5 [[iI .u8 115], [iI .u8 101], [iI .u8 114], [iI .u8 105], [iI .u8 101], [iI .u8 115], [iI .u8 32], [iI .u8 48], [iI .u8 32], [iI .u8 104], [iI .u8 101], [iI .u8 97], [iI .u8 100], [iI .u8 32], [iI .u8 48], [iI .u8 32], [iI .u8 98], [iI .u8 108], [iI .u8 111], [iI .u8 99], [iI .u8 107], [iI .u8 115], [iI .u8 32], [iI .u8 48], [iI .u8 32], [iI .u8 109], [iI .u8 97], [iI .u8 114], [iI .u8 107], [iI .u8 32], [iI .u8 48]]))] [0, 2] [([[iI .u8 115], [iI .u8 101], [iI .u8 114], [iI .u8 105], [iI .u8 101], [iI .u8 115], [iI .u8 32], [iI .u8 48], [iI .u8 32], [iI .u8 104], [iI .u8 101], [iI .u8 97], [iI .u8 100], [iI .u8 32], [iI .u8 48], [iI .u8 32], [iI .u8 98], [iI .u8 108], [iI .u8 111], [iI .u8 99], [iI .u8 107], [iI .u8 115], [iI .u8 32], [iI .u8 48], [iI .u8 32], [iI .u8 109], [iI .u8 97], [iI .u8 114], [iI .u8 107], [iI .u8 32], [iI .u8 48]] : List (List Im)) = ([[iI .u8 115], [iI .u8 101], [iI .u8 114], [iI .u8 105], [iI .u8 101], [iI .u8 115], [iI .u8 32], [iI .u8 48], [iI .u8 32], [iI .u8 104], [iI .u8 101], [iI .u8 97], [iI .u8 100], [iI .u8 32], [iI .u8 48], [iI .u8 32], [iI .u8 98], [iI .u8 108], [iI .u8 111], [iI .u8 99], [iI .u8 107], [iI .u8 115], [iI .u8 32], [iI .u8 48], [iI .u8 32], [iI .u8 109], [iI .u8 97], [iI .u8 114], [iI .u8 107], [iI .u8 32]] : List (List Im)) ++ (bytesL (⟨#[48]⟩ : ByteArray)).map (encInt .u8), (([[iI .u8 115], [iI .u8 101], [iI .u8 114], [iI .u8 105], [iI .u8 101], [iI .u8 115], [iI .u8 32], [iI .u8 48], [iI .u8 32], [iI .u8 104], [iI .u8 101], [iI .u8 97], [iI .u8 100], [iI .u8 32], [iI .u8 48], [iI .u8 32], [iI .u8 98], [iI .u8 108], [iI .u8 111], [iI .u8 99], [iI .u8 107], [iI .u8 115], [iI .u8 32], [iI .u8 48], [iI .u8 32], [iI .u8 109], [iI .u8 97], [iI .u8 114], [iI .u8 107], [iI .u8 32]] : List (List Im)).length + (⟨#[48]⟩ : ByteArray).size) * 1 ≤ 140737488355328] ⟨by kernel_rfl, by decide, trivial⟩ ?_
  refine sO hP hn hm [] [(4, iV .i64 1), (5, .im (.sc (.nilIface)))] [4, 5] [] [0, 2] ?_
  refine AWp.ret ?_
  exact rl (.inl rfl) rfl (by kernel_rfl) (by kernel_rfl)
theorem cx123_copyCheck : Pv.Fn Tryz.prog 118 [.ptr 0 0 0] [(0, some (.box 141 [.ptr 0 0 0, .own 1])), (1, some (.row 1 5 [[iI .u8 115], [iI .u8 101], [iI .u8 114], [iI .u8 105], [iI .u8 101], [iI .u8 115], [iI .u8 32], [iI .u8 48], [iI .u8 32], [iI .u8 104], [iI .u8 101], [iI .u8 97], [iI .u8 100], [iI .u8 32], [iI .u8 48], [iI .u8 32], [iI .u8 98], [iI .u8 108], [iI .u8 111], [iI .u8 99], [iI .u8 107], [iI .u8 115], [iI .u8 32], [iI .u8 48], [iI .u8 32], [iI .u8 109], [iI .u8 97], [iI .u8 114], [iI .u8 107], [iI .u8 32], [iI .u8 48]]))] 2 (fun x o => x = .tup [] ∧ o = [(0, some (.box 141 [.ptr 0 0 0, .own 1])), (1, some (.row 1 5 [[iI .u8 115], [iI .u8 101], [iI .u8 114], [iI .u8 105], [iI .u8 101], [iI .u8 115], [iI .u8 32], [iI .u8 48], [iI .u8 32], [iI .u8 104], [iI .u8 101], [iI .u8 97], [iI .u8 100], [iI .u8 32], [iI .u8 48], [iI .u8 32], [iI .u8 98], [iI .u8 108], [iI .u8 111], [iI .u8 99], [iI .u8 107], [iI .u8 115], [iI .u8 32], [iI .u8 48], [iI .u8 32], [iI .u8 109], [iI .u8 97], [iI .u8 114], [iI .u8 107], [iI .u8 32], [iI .u8 48]]))]) := by
  refine Fn.bodyK [0, 1] Tryz.func118 rfl rfl (fun Γ hP hn => ?_)
  have hm : Tryz.prog.follows .mixedOrders = true := by kernel_rfl
  replace hn : Γ.n = 20 := hn
  refine sR hP hn hm [(4, .more (xPtrNil false))] [(6, bV false)] [0, 6] [] [0, 1] [false = false] ⟨rfl, trivial⟩ ?_
  refine AWp.cond false (by kernel_rfl) (fun h => nomatch h) (fun _ => ?_)
  refine sO hP hn hm [(5, .more xPtrSame)] [(19, bV false)] [19] [] [0, 1] ?_
  refine AWp.cond false (by kernel_rfl) (fun h => nomatch h) (fun _ => ?_)
  refine AWp.skip ?_
  exact rl (.inr rfl) rfl (by kernel_rfl) (by kernel_rfl)
theorem cx124_WriteString : Pv.Fn Tryz.prog 68 [.ptr 0 0 0, sV (⟨#[32]⟩ : ByteArray)] [(0, some (.box 141 [.ptr 0 0 0, .own 1])), (1, some (.row 1 5 [[iI .u8 115], [iI .u8 101], [iI .u8 114], [iI .u8 105], [iI .u8 101], [iI .u8 115], [iI .u8 32], [iI .u8 48], [iI .u8 32], [iI .u8 104], [iI .u8 101], [iI .u8 97], [iI .u8 100], [iI .u8 32], [iI .u8 48], [iI .u8 32], [iI .u8 98], [iI .u8 108], [iI .u8 111], [iI .u8 99], [iI .u8 107], [iI .u8 115], [iI .u8 32], [iI .u8 48], [iI .u8 32], [iI .u8 109], [iI .u8 97], [iI .u8 114], [iI .u8 107], [iI .u8 32], [iI .u8 48]]))] 2 (fun x o => x = .tup [iV .i64 1, .im (.sc (.nilIface))] ∧ o = [(0, some (.box 141 [.ptr 0 0 0, .own 2])), (1, none), (2, some (.row 1 5 [[iI .u8 115], [iI .u8 101], [iI .u8 114], [iI .u8 105], [iI .u8 101], [iI .u8 115], [iI .u8 32], [iI .u8 48], [iI .u8 32], [iI .u8 104], [iI .u8 101], [iI .u8 97], [iI .u8 100], [iI .u8 32], [iI .u8 48], [iI .u8 32], [iI .u8 98], [iI .u8 108], [iI .u8 111], [iI .u8 99], [iI .u8 107], [iI .u8 115], [iI .u8 32], [iI .u8 48], [iI .u8 32], [iI .u8 109], [iI .u8 97], [iI .u8 114], [iI .u8 107], [iI .u8 32], [iI .u8 48], [iI .u8 32]]))]) := by
  refine Fn.bodyK [0, 1, 2] Tryz.func68 rfl rfl (fun Γ hP hn => ?_)
  have hm : Tryz.prog.follows .mixedOrders = true := by kernel_rfl
  replace hn : Γ.n = 19 := hn
  refine sO hP hn hm [] [] [0, 1] [] [0, 1] ?_
  refine sR hP hn hm [(1, .callz [(0, 0), (1, 1)] [(0, 0), (1, 1)] [] [] 2 (.tup []) [(0, some (.box 141 [.ptr 0 0 0, .own 1])), (1, some (.row 1 5 [[iI .u8 115], [iI .u8 101], [iI .u8 114], [iI .u8 105], [iI .u8 101], [iI .u8 115], [iI .u8 32], [iI .u8 48], [iI .u8 32], [iI .u8 104], [iI .u8 101], [iI .u8 97], [iI .u8 100], [iI .u8 32], [iI .u8 48], [iI .u8 32], [iI .u8 98], [iI .u8 108], [iI .u8 111], [iI .u8 99], [iI .u8 107], [iI .u8 115], [iI .u8 32], [iI .u8 48], [iI .u8 32], [iI .u8 109], [iI .u8 97], [iI .u8 114], [iI .u8 107], [iI .u8 32], [iI .u8 48]]))])] [] [0, 1] [] [0, 1] [_, _] ⟨Tryz.call118, cx123_copyCheck, trivial⟩ ?_
  refine sR hP hn hm [(6, .more (xAppStr 2 [[iI .u8 115], [iI .u8 101], [iI .u8 114], [iI .u8 105], [iI .u8 101], [iI .u8 115], [iI .u8 32], [iI .u8 48], [iI .u8 32], [iI .u8 104], [iI .u8 101], [iI .u8 97], [iI .u8 100], [iI .u8 32], [iI .u8 48], [iI .u8 32], [iI .u8 98], [iI .u8 108], [iI .u8 111], [iI .u8 99], [iI .u8 107], [iI .u8 115], [iI .u8 32], [iI .u8 48], [iI .u8 32], [iI .u8 109], [iI .u8 97], [iI .u8 114], [iI .u8 107], [iI .u8 32], [iI .u8 48], [iI .u8 32]]))] [] [1] [(0, some (.box 141 [.ptr 0 0 0, .own 2])), (2, some (.row 1 5 [[iI .u8 115], [iI .u8 101], [iI .u8 114], [iI .u8 105], [iI .u8 101], [iI .u8 115], [iI .u8 32], [iI .u8 48], [iI .u8 32], [iI .u8 104], [iI .u8 101], [iI .u8 97], [iI .u8 100], [iI .u8 32], [iI .u8 48], [iI .u8 32], [iI .u8 98], [iI .u8 108], [iI .u8 111], [iI .u8 99], [iI .u8 107], [iI .u8 115], [iI .u8 32], [iI .u8 48], [iI .u8 32], [iI .u8 109], [iI .u8 97], [iI .u8 114], [iI .u8 107], [iI .u8 32], [iI .u8 48], [iI .u8 32]]))] [0, 2] [([[iI .u8 115], [iI .u8 101], [iI .u8 114], [iI .u8 105], [iI .u8 101], [iI .u8 115], [iI .u8 32], [iI .u8 48], [iI .u8 32], [iI .u8 104], [iI .u8 101], [iI .u8 97], [iI .u8 100], [iI .u8 32], [iI .u8 48], [iI .u8 32], [iI .u8 98], [iI .u8 108], [iI .u8 111], [iI .u8 99], [iI .u8 107], [iI .u8 115], [iI .u8 32], [iI .u8 48], [iI .u8 32], [iI .u8 109], [iI .u8 97], [iI .u8 114], [iI .u8 107], [iI .u8 32], [iI .u8 48], [iI .u8 32]] : List (List Im)) = ([[iI .u8 115], [iI .u8 101], [iI .u8 114], [iI .u8 105], [iI .u8 101], [iI .u8 115], [iI .u8 32], [iI .u8 48], [iI .u8 32], [iI .u8 104], [iI .u8 101], [iI .u8 97], [iI .u8 100], [iI .u8 32], [iI .u8 48], [iI .u8 32], [iI .u8 98], [iI .u8 108], [iI .u8 111], [iI .u8 99], [iI .u8 107], [iI .u8 115], [iI .u8 32], [iI .u8 48], [iI .u8 32], [iI .u8 109], [iI .u8 97], [iI .u8 114], [iI .u8 107], [iI .u8 32], [iI .u8 48]] : List (List Im)) ++ (bytesL (⟨#[32]⟩ : ByteArray)).map (encInt .u8), (([[iI .u8 115], [iI .u8 101], [iI .u8 114], [iI .u8 105], [iI .u8 101], [iI .u8 115], [iI .u8 32], [iI .u8 48], [iI .u8 32], [iI .u8 104], [iI .u8 101], [iI .u8 97], [iI .u8 100], [iI .u8 32], [iI .u8 48], [iI .u8 32], [iI .u8 98], [iI .u8 108], [iI .u8 111], [iI .u8 99], [iI .u8 107], [iI .u8 115], [iI .u8 32], [iI .u8 48], [iI .u8 32], [iI .u8 109], [iI .u8 97], [iI .u8 114], [iI .u8 107], [iI .u8 32], [iI .u8 48]] : List (List Im)).length + (⟨#[32]⟩ : ByteArray).size) * 1 ≤ 140737488355328] ⟨by kernel_rfl, by decide, trivial⟩ ?_
  refine sO hP hn hm [] [(4, iV .i64 1), (5, .im (.sc (.nilIface)))] [4, 5] [] [0, 2] ?_
  refine AWp.ret ?_
  exact rl (.inl rfl) rfl (by kernel_rfl) (by kernel_rfl)
theorem cx125_copyCheck : Pv.Fn Tryz.prog 118 [.ptr 0 0 0] [(0, some (.box 141 [.ptr 0 0 0, .own 1])), (1, some (.row 1 5 [[iI .u8 115], [iI .u8 101], [iI .u8 114], [iI .u8 105], [iI .u8 101], [iI .u8 115], [iI .u8 32], [iI .u8 48], [iI .u8 32], [iI .u8 104], [iI .u8 101], [iI .u8 97], [iI .u8 100], [iI .u8 32], [iI .u8 48], [iI .u8 32], [iI .u8 98], [iI .u8 108], [iI .u8 111], [iI .u8 99], [iI .u8 107], [iI .u8 115], [iI .u8 32], [iI .u8 48], [iI .u8 32], [iI .u8 109], [iI .u8 97], [iI .u8 114], [iI .u8 107], [iI .u8 32], [iI .u8 48], [iI .u8 32]]))] 2 (fun x o => x = .tup [] ∧ o = [(0, some (.box 141 [.ptr 0 0 0, .own 1])), (1, some (.row 1 5 [[iI .u8 115], [iI .u8 101], [iI .u8 114], [iI .u8 105], [iI .u8 101], [iI .u8 115], [iI .u8 32], [iI .u8 48], [iI .u8 32], [iI .u8 104], [iI .u8 101], [iI .u8 97], [iI .u8 100], [iI .u8 32], [iI .u8 48], [iI .u8 32], [iI .u8 98], [iI .u8 108], [iI .u8 111], [iI .u8 99], [iI .u8 107], [iI .u8 115], [iI .u8 32], [iI .u8 48], [iI .u8 32], [iI .u8 109], [iI .u8 97], [iI .u8 114], [iI .u8 107], [iI .u8 32], [iI .u8 48], [iI .u8 32]]))]) := by
  refine Fn.bodyK [0, 1] Tryz.func118 rfl rfl (fun Γ hP hn => ?_)
  have hm : Tryz.prog.follows .mixedOrders = true := by kernel_rfl
  replace hn : Γ.n = 20 := hn
  refine sR hP hn hm [(4, .more (xPtrNil false))] [(6, bV false)] [0, 6] [] [0, 1] [false = false] ⟨rfl, trivial⟩ ?_
  refine AWp.cond false (by kernel_rfl) (fun h => nomatch h) (fun _ => ?_)
  refine sO hP hn hm [(5, .more xPtrSame)] [(19, bV false)] [19] [] [0, 1] ?_
  refine AWp.cond false (by kernel_rfl) (fun h => nomatch h) (fun _ => ?_)
  refine AWp.skip ?_
  exact rl (.inr rfl) rfl (by kernel_rfl) (by kernel_rfl)
theorem cx126_WriteString : Pv.Fn Tryz.prog 68 [.ptr 0 0 0, sV (⟨#[109, 111, 114, 101]⟩ : ByteArray)] [(0, some (.box 141 [.ptr 0 0 0, .own 1])), (1, some (.row 1 5 [[iI .u8 115], [iI .u8 101], [iI .u8 114], [iI .u8 105], [iI .u8 101], [iI .u8 115], [iI .u8 32], [iI .u8 48], [iI .u8 32], [iI .u8 104], [iI .u8 101], [iI .u8 97], [iI .u8 100], [iI .u8 32], [iI .u8 48], [iI .u8 32], [iI .u8 98], [iI .u8 108], [iI .u8 111], [iI .u8 99], [iI .u8 107], [iI .u8 115], [iI .u8 32], [iI .u8 48], [iI .u8 32], [iI .u8 109], [iI .u8 97], [iI .u8 114], [iI .u8 107], [iI .u8 32], [iI .u8 48], [iI .u8 32]]))] 2 (fun x o => x = .tup [iV .i64 4, .im (.sc (.nilIface))] ∧ o = [(0, some (.box 141 [.ptr 0 0 0, .own 2])), (1, none), (2, some (.row 1 5 [[iI .u8 115], [iI .u8 101], [iI .u8 114], [iI .u8 105], [iI .u8 101], [iI .u8 115], [iI .u8 32], [iI .u8 48], [iI .u8 32], [iI .u8 104], [iI .u8 101], [iI .u8 97], [iI .u8 100], [iI .u8 32], [iI .u8 48], [iI .u8 32], [iI .u8 98], [iI .u8 108], [iI .u8 111], [iI .u8 99], [iI .u8 107], [iI .u8 115], [iI .u8 32], [iI .u8 48], [iI .u8 32], [iI .u8 109], [iI .u8 97], [iI .u8 114], [iI .u8 107], [iI .u8 32], [iI .u8 48], [iI .u8 32], [iI .u8 109], [iI .u8 111], [iI .u8 114], [iI .u8 101]]))]) := by
  refine Fn.bodyK [0, 1, 2] Tryz.func68 rfl rfl (fun Γ hP hn => ?_)
  have hm : Tryz.prog.follows .mixedOrders = true := by kernel_rfl
  replace hn : Γ.n = 19 := hn
  refine sO hP hn hm [] [] [0, 1] [] [0, 1] ?_
  refine sR hP hn hm [(1, .callz [(0, 0), (1, 1)] [(0, 0), (1, 1)] [] [] 2 (.tup []) [(0, some (.box 141 [.ptr 0 0 0, .own 1])), (1, some (.row 1 5 [[iI .u8 115], [iI .u8 101], [iI .u8 114], [iI .u8 105], [iI .u8 101], [iI .u8 115], [iI .u8 32], [iI .u8 48], [iI .u8 32], [iI .u8 104], [iI .u8 101], [iI .u8 97], [iI .u8 100], [iI .u8 32], [iI .u8 48], [iI .u8 32], [iI .u8 98], [iI .u8 108], [iI .u8 111], [iI .u8 99], [iI .u8 107], [iI .u8 115], [iI .u8 32], [iI .u8 48], [iI .u8 32], [iI .u8 109], [iI .u8 97], [iI .u8 114], [iI .u8 107], [iI .u8 32], [iI .u8 48], [iI .u8 32]]))])] [] [0, 1] [] [0, 1] [_, _] ⟨Tryz.call118, cx125_copyCheck, trivial⟩ ?_
  refine sR hP hn hm [(6, .more (xAppStr 2 [[iI .u8 115], [iI .u8 101], [iI .u8 114], [iI .u8 105], [iI .u8 101], [iI .u8 115], [iI .u8 32], [iI .u8 48], [iI .u8 32], [iI .u8 104], [iI .u8 101], [iI .u8 97], [iI .u8 100], [iI .u8 32], [iI .u8 48], [iI .u8 32], [iI .u8 98], [iI .u8 108], [iI .u8 111], [iI .u8 99], [iI .u8 107], [iI .u8 115], [iI .u8 32], [iI .u8 48], [iI .u8 32], [iI .u8 109], [iI .u8 97], [iI .u8 114], [iI .u8 107], [iI .u8 32], [iI .u8 48], [iI .u8 32], [iI .u8 109], [iI .u8 111], [iI .u8 114], [iI .u8 101]]))] [] [1] [(0, some (.box 141 [.ptr 0 0 0, .own 2])), (2, some (.row 1 5 [[iI .u8 115], [iI .u8 101], [iI .u8 114], [iI .u8 105], [iI .u8 101], [iI .u8 115], [iI .u8 32], [iI .u8 48], [iI .u8 32], [iI .u8 104], [iI .u8 101], [iI .u8 97], [iI .u8 100], [iI .u8 32], [iI .u8 48], [iI .u8 32], [iI .u8 98], [iI .u8 108], [iI .u8 111], [iI .u8 99], [iI .u8 107], [iI .u8 115], [iI .u8 32], [iI .u8 48], [iI .u8 32], [iI .u8 109], [iI .u8 97], [iI .u8 114], [iI .u8 107], [iI .u8 32], [iI .u8 48], [iI .u8 32], [iI .u8 109], [iI .u8 111], [iI .u8 114], [iI .u8 101]]))] [0, 2] [([[iI .u8 115], [iI .u8 101], [iI .u8 114], [iI .u8 105], [iI .u8 101], [iI .u8 115], [iI .u8 32], [iI .u8 48], [iI .u8 32], [iI .u8 104], [iI .u8 101], [iI .u8 97], [iI .u8 100], [iI .u8 32], [iI .u8 48], [iI .u8 32], [iI .u8 98], [iI .u8 108], [iI .u8 111], [iI .u8 99], [iI .u8 107], [iI .u8 115], [iI .u8 32], [iI .u8 48], [iI .u8 32], [iI .u8 109], [iI .u8 97], [iI .u8 114], [iI .u8 107], [iI .u8 32], [iI .u8 48], [iI .u8 32], [iI .u8 109], [iI .u8 111], [iI .u8 114], [iI .u8 101]] : List (List Im)) = ([[iI .u8 115], [iI .u8 101], [iI .u8 114], [iI .u8 105], [iI .u8 101], [iI .u8 115], [iI .u8 32], [iI .u8 48], [iI .u8 32], [iI .u8 104], [iI .u8 101], [iI .u8 97], [iI .u8 100], [iI .u8 32], [iI .u8 48], [iI .u8 32], [iI .u8 98], [iI .u8 108], [iI .u8 111], [iI .u8 99], [iI .u8 107], [iI .u8 115], [iI .u8 32], [iI .u8 48], [iI .u8 32], [iI .u8 109], [iI .u8 97], [iI .u8 114], [iI .u8 107], [iI .u8 32], [iI .u8 48], [iI .u8 32]] : List (List Im)) ++ (bytesL (⟨#[109, 111, 114, 101]⟩ : ByteArray)).map (encInt .u8), (([[iI .u8 115], [iI .u8 101], [iI .u8 114], [iI .u8 105], [iI .u8 101], [iI .u8 115], [iI .u8 32], [iI .u8 48], [iI .u8 32], [iI .u8 104], [iI .u8 101], [iI .u8 97], [iI .u8 100], [iI .u8 32], [iI .u8 48], [iI .u8 32], [iI .u8 98], [iI .u8 108], [iI .u8 111], [iI .u8 99], [iI .u8 107], [iI .u8 115], [iI .u8 32], [iI .u8 48], [iI .u8 32], [iI .u8 109], [iI .u8 97], [iI .u8 114], [iI .u8 107], [iI .u8 32], [iI .u8 48], [iI .u8 32]] : List (List Im)).length + (⟨#[109, 111, 114, 101]⟩ : ByteArray).size) * 1 ≤ 140737488355328] ⟨by kernel_rfl, by decide, trivial⟩ ?_
  refine sO hP hn hm [] [(4, iV .i64 4), (5, .im (.sc (.nilIface)))] [4, 5] [] [0, 2] ?_
  refine AWp.ret ?_
  exact rl (.inl rfl) rfl (by kernel_rfl) (by kernel_rfl)
theorem cx127_copyCheck : Pv.Fn Tryz.prog 118 [.ptr 0 0 0] [(0, some (.box 141 [.ptr 0 0 0, .own 1])), (1, some (.row 1 5 [[iI .u8 115], [iI .u8 101], [iI .u8 114], [iI .u8 105], [iI .u8 101], [iI .u8 115], [iI .u8 32], [iI .u8 48], [iI .u8 32], [iI .u8 104], [iI .u8 101], [iI .u8 97], [iI .u8 100], [iI .u8 32], [iI .u8 48], [iI .u8 32], [iI .u8 98], [iI .u8 108], [iI .u8 111], [iI .u8 99], [iI .u8 107], [iI .u8 115], [iI .u8 32], [iI .u8 48], [iI .u8 32], [iI .u8 109], [iI .u8 97], [iI .u8 114], [iI .u8 107], [iI .u8 32], [iI .u8 48], [iI .u8 32], [iI .u8 109], [iI .u8 111], [iI .u8 114], [iI .u8 101]]))] 2 (fun x o => x = .tup [] ∧ o = [(0, some (.box 141 [.ptr 0 0 0, .own 1])), (1, some (.row 1 5 [[iI .u8 115], [iI .u8 101], [iI .u8 114], [iI .u8 105], [iI .u8 101], [iI .u8 115], [iI .u8 32], [iI .u8 48], [iI .u8 32], [iI .u8 104], [iI .u8 101], [iI .u8 97], [iI .u8 100], [iI .u8 32], [iI .u8 48], [iI .u8 32], [iI .u8 98], [iI .u8 108], [iI .u8 111], [iI .u8 99], [iI .u8 107], [iI .u8 115], [iI .u8 32], [iI .u8 48], [iI .u8 32], [iI .u8 109], [iI .u8 97], [iI .u8 114], [iI .u8 107], [iI .u8 32], [iI .u8 48], [iI .u8 32], [iI .u8 109], [iI .u8 111], [iI .u8 114], [iI .u8 101]]))]) := by
  refine Fn.bodyK [0, 1] Tryz.func118 rfl rfl (fun Γ hP hn => ?_)
  have hm : Tryz.prog.follows .mixedOrders = true := by kernel_rfl
  replace hn : Γ.n = 20 := hn
  refine sR hP hn hm [(4, .more (xPtrNil false))] [(6, bV false)] [0, 6] [] [0, 1] [false = false] ⟨rfl, trivial⟩ ?_
  refine AWp.cond false (by kernel_rfl) (fun h => nomatch h) (fun _ => ?_)
  refine sO hP hn hm [(5, .more xPtrSame)] [(19, bV false)] [19] [] [0, 1] ?_
  refine AWp.cond false (by kernel_rfl) (fun h => nomatch h) (fun _ => ?_)
  refine AWp.skip ?_
  exact rl (.inr rfl) rfl (by kernel_rfl) (by kernel_rfl)
theorem cx128_WriteString : Pv.Fn Tryz.prog 68 [.ptr 0 0 0, sV (⟨#[32]⟩ : ByteArray)] [(0, some (.box 141 [.ptr 0 0 0, .own 1])), (1, some (.row 1 5 [[iI .u8 115], [iI .u8 101], [iI .u8 114], [iI .u8 105], [iI .u8 101], [iI .u8 115], [iI .u8 32], [iI .u8 48], [iI .u8 32], [iI .u8 104], [iI .u8 101], [iI .u8 97], [iI .u8 100], [iI .u8 32], [iI .u8 48], [iI .u8 32], [iI .u8 98], [iI .u8 108], [iI .u8 111], [iI .u8 99], [iI .u8 107], [iI .u8 115], [iI .u8 32], [iI .u8 48], [iI .u8 32], [iI .u8 109], [iI .u8 97], [iI .u8 114], [iI .u8 107], [iI .u8 32], [iI .u8 48], [iI .u8 32], [iI .u8 109], [iI .u8 111], [iI .u8 114], [iI .u8 101]]))] 2 (fun x o => x = .tup [iV .i64 1, .im (.sc (.nilIface))] ∧ o = [(0, some (.box 141 [.ptr 0 0 0, .own 2])), (1, none), (2, some (.row 1 5 [[iI .u8 115], [iI .u8 101], [iI .u8 114], [iI .u8 105], [iI .u8 101], [iI .u8 115], [iI .u8 32], [iI .u8 48], [iI .u8 32], [iI .u8 104], [iI .u8 101], [iI .u8 97], [iI .u8 100], [iI .u8 32], [iI .u8 48], [iI .u8 32], [iI .u8 98], [iI .u8 108], [iI .u8 111], [iI .u8 99], [iI .u8 107], [iI .u8 115], [iI .u8 32], [iI .u8 48], [iI .u8 32], [iI .u8 109], [iI .u8 97], [iI .u8 114], [iI .u8 107], [iI .u8 32], [iI .u8 48], [iI .u8 32], [iI .u8 109], [iI .u8 111], [iI .u8 114], [iI .u8 101], [iI .u8 32]]))]) := by
  refine Fn.bodyK [0, 1, 2] Tryz.func68 rfl rfl (fun Γ hP hn => ?_)
  have hm : Tryz.prog.follows .mixedOrders = true := by kernel_rfl
  replace hn : Γ.n = 19 := hn
  refine sO hP hn hm [] [] [0, 1] [] [0, 1] ?_
  refine sR hP hn hm [(1, .callz [(0, 0), (1, 1)] [(0, 0), (1, 1)] [] [] 2 (.tup []) [(0, some (.box 141 [.ptr 0 0 0, .own 1])), (1, some (.row 1 5 [[iI .u8 115], [iI .u8 101], [iI .u8 114], [iI .u8 105], [iI .u8 101], [iI .u8 115], [iI .u8 32], [iI .u8 48], [iI .u8 32], [iI .u8 104], [iI .u8 101], [iI .u8 97], [iI .u8 100], [iI .u8 32], [iI .u8 48], [iI .u8 32], [iI .u8 98], [iI .u8 108], [iI .u8 111], [iI .u8 99], [iI .u8 107], [iI .u8 115], [iI .u8 32], [iI .u8 48], [iI .u8 32], [iI .u8 109], [iI .u8 97], [iI .u8 114], [iI .u8 107], [iI .u8 32], [iI .u8 48], [iI .u8 32], [iI .u8 109], [iI .u8 111], [iI .u8 114], [iI .u8 101]]))])] [] [0, 1] [] [0, 1] [_, _] ⟨Tryz.call118, cx127_copyCheck, trivial⟩ ?_
  refine sR hP hn hm [(6, .more (xAppStr 2 [[iI .u8 115], [iI .u8 101], [iI .u8 114], [iI .u8 105], [iI .u8 101], [iI .u8 115], [iI .u8 32], [iI .u8 48], [iI .u8 32], [iI .u8 104], [iI .u8 101], [iI .u8 97], [iI .u8 100], [iI .u8 32], [iI .u8 48], [iI .u8 32], [iI .u8 98], [iI .u8 108], [iI .u8 111], [iI .u8 99], [iI .u8 107], [iI .u8 115], [iI .u8 32], [iI .u8 48], [iI .u8 32], [iI .u8 109], [iI .u8 97], [iI .u8 114], [iI .u8 107], [iI .u8 32], [iI .u8 48], [iI .u8 32], [iI .u8 109], [iI .u8 111], [iI .u8 114], [iI .u8 101], [iI .u8 32]]))] [] [1] [(0, some (.box 141 [.ptr 0 0 0, .own 2])), (2, some (.row 1 5 [[iI .u8 115], [iI .u8 101], [iI .u8 114], [iI .u8 105], [iI .u8 101], [iI .u8 115], [iI .u8 32], [iI .u8 48], [iI .u8 32], [iI .u8 104], [iI .u8 101], [iI .u8 97], [iI .u8 100], [iI .u8 32], [iI .u8 48], [iI .u8 32], [iI .u8 98], [iI .u8 108], [iI .u8 111], [iI .u8 99], [iI .u8 107], [iI .u8 115], [iI .u8 32], [iI .u8 48], [iI .u8 32], [iI .u8 109], [iI .u8 97], [iI .u8 114], [iI .u8 107], [iI .u8 32], [iI .u8 48], [iI .u8 32], [iI .u8 109], [iI .u8 111], [iI .u8 114], [iI .u8 101], [iI .u8 32]]))] [0, 2] [([[iI .u8 115], [iI .u8 101], [iI .u8 114], [iI .u8 105], [iI .u8 101], [iI .u8 115], [iI .u8 32], [iI .u8 48], [iI .u8 32], [iI .u8 104], [iI .u8 101], [iI .u8 97], [iI .u8 100], [iI .u8 32], [iI .u8 48], [iI .u8 32], [iI .u8 98], [iI .u8 108], [iI .u8 111], [iI .u8 99], [iI .u8 107], [iI .u8 115], [iI .u8 32], [iI .u8 48], [iI .u8 32], [iI .u8 109], [iI .u8 97], [iI .u8 114], [iI .u8 107], [iI .u8 32], [iI .u8 48], [iI .u8 32], [iI .u8 109], [iI .u8 111], [iI .u8 114], [iI .u8 101], [iI .u8 32]] : List (List Im)) = ([[iI .u8 115], [iI .u8 101], [iI .u8 114], [iI .u8 105], [iI .u8 101], [iI .u8 115], [iI .u8 32], [iI .u8 48], [iI .u8 32], [iI .u8 104], [iI .u8 101], [iI .u8 97], [iI .u8 100], [iI .u8 32], [iI .u8 48], [iI .u8 32], [iI .u8 98], [iI .u8 108], [iI .u8 111], [iI .u8 99], [iI .u8 107], [iI .u8 115], [iI .u8 32], [iI .u8 48], [iI .u8 32], [iI .u8 109], [iI .u8 97], [iI .u8 114], [iI .u8 107], [iI .u8 32], [iI .u8 48], [iI .u8 32], [iI .u8 109], [iI .u8 111], [iI .u8 114], [iI .u8 101]] : List (List Im)) ++ (bytesL (⟨#[32]⟩ : ByteArray)).map (encInt .u8), (([[iI .u8 115], [iI .u8 101], [iI .u8 114], [iI .u8 105], [iI .u8 101], [iI .u8 115], [iI .u8 32], [iI .u8 48], [iI .u8 32], [iI .u8 104], [iI .u8 101], [iI .u8 97], [iI .u8 100], [iI .u8 32], [iI .u8 48], [iI .u8 32], [iI .u8 98], [iI .u8 108], [iI .u8 111], [iI .u8 99], [iI .u8 107], [iI .u8 115], [iI .u8 32], [iI .u8 48], [iI .u8 32], [iI .u8 109], [iI .u8 97], [iI .u8 114], [iI .u8 107], [iI .u8 32], [iI .u8 48], [iI .u8 32], [iI .u8 109], [iI .u8 111], [iI .u8 114], [iI .u8 101]] : List (List Im)).length + (⟨#[32]⟩ : ByteArray).size) * 1 ≤ 140737488355328] ⟨by kernel_rfl, by decide, trivial⟩ ?_
  refine sO hP hn hm [] [(4, iV .i64 1), (5, .im (.sc (.nilIface)))] [4, 5] [] [0, 2] ?_
  refine AWp.ret ?_
  exact rl (.inl rfl) rfl (by kernel_rfl) (by kernel_rfl)
theorem cx129_copyCheck : Pv.Fn Tryz.prog 118 [.ptr 0 0 0] [(0, some (.box 141 [.ptr 0 0 0, .own 1])), (1, some (.row 1 5 [[iI .u8 115], [iI .u8 101], [iI .u8 114], [iI .u8 105], [iI .u8 101], [iI .u8 115], [iI .u8 32], [iI .u8 48], [iI .u8 32], [iI .u8 104], [iI .u8 101], [iI .u8 97], [iI .u8 100], [iI .u8 32], [iI .u8 48], [iI .u8 32], [iI .u8 98], [iI .u8 108], [iI .u8 111], [iI .u8 99], [iI .u8 107], [iI .u8 115], [iI .u8 32], [iI .u8 48], [iI .u8 32], [iI .u8 109], [iI .u8 97], [iI .u8 114], [iI .u8 107], [iI .u8 32], [iI .u8 48], [iI .u8 32], [iI .u8 109], [iI .u8 111], [iI .u8 114], [iI .u8 101], [iI .u8 32]]))] 2 (fun x o => x = .tup [] ∧ o = [(0, some (.box 141 [.ptr 0 0 0, .own 1])), (1, some (.row 1 5 [[iI .u8 115], [iI .u8 101], [iI .u8 114], [iI .u8 105], [iI .u8 101], [iI .u8 115], [iI .u8 32], [iI .u8 48], [iI .u8 32], [iI .u8 104], [iI .u8 101], [iI .u8 97], [iI .u8 100], [iI .u8 32], [iI .u8 48], [iI .u8 32], [iI .u8 98], [iI .u8 108], [iI .u8 111], [iI .u8 99], [iI .u8 107], [iI .u8 115], [iI .u8 32], [iI .u8 48], [iI .u8 32], [iI .u8 109], [iI .u8 97], [iI .u8 114], [iI .u8 107], [iI .u8 32], [iI .u8 48], [iI .u8 32], [iI .u8 109], [iI .u8 111], [iI .u8 114], [iI .u8 101], [iI .u8 32]]))]) := by
  refine Fn.bodyK [0, 1] Tryz.func118 rfl rfl (fun Γ hP hn => ?_)
  have hm : Tryz.prog.follows .mixedOrders = true := by kernel_rfl
  replace hn : Γ.n = 20 := hn
  refine sR hP hn hm [(4, .more (xPtrNil false))] [(6, bV false)] [0, 6] [] [0, 1] [false = false] ⟨rfl, trivial⟩ ?_
  refine AWp.cond false (by kernel_rfl) (fun h => nomatch h) (fun _ => ?_)
  refine sO hP hn hm [(5, .more xPtrSame)] [(19, bV false)] [19] [] [0, 1] ?_
  refine AWp.cond false (by kernel_rfl) (fun h => nomatch h) (fun _ => ?_)
  refine AWp.skip ?_
  exact rl (.inr rfl) rfl (by kernel_rfl) (by kernel_rfl)
theorem cx130_WriteString : Pv.Fn Tryz.prog 68 [.ptr 0 0 0, sV (⟨#[102, 97, 108, 115, 101]⟩ : ByteArray)] [(0, some (.box 141 [.ptr 0 0 0, .own 1])), (1, some (.row 1 5 [[iI .u8 115], [iI .u8 101], [iI .u8 114], [iI .u8 105], [iI .u8 101], [iI .u8 115], [iI .u8 32], [iI .u8 48], [iI .u8 32], [iI .u8 104], [iI .u8 101], [iI .u8 97], [iI .u8 100], [iI .u8 32], [iI .u8 48], [iI .u8 32], [iI .u8 98], [iI .u8 108], [iI .u8 111], [iI .u8 99], [iI .u8 107], [iI .u8 115], [iI .u8 32], [iI .u8 48], [iI .u8 32], [iI .u8 109], [iI .u8 97], [iI .u8 114], [iI .u8 107], [iI .u8 32], [iI .u8 48], [iI .u8 32], [iI .u8 109], [iI .u8 111], [iI .u8 114], [iI .u8 101], [iI .u8 32]]))] 2 (fun x o => x = .tup [iV .i64 5, .im (.sc (.nilIface))] ∧ o = [(0, some (.box 141 [.ptr 0 0 0, .own 2])), (1, none), (2, some (.row 1 5 [[iI .u8 115], [iI .u8 101], [iI .u8 114], [iI .u8 105], [iI .u8 101], [iI .u8 115], [iI .u8 32], [iI .u8 48], [iI .u8 32], [iI .u8 104], [iI .u8 101], [iI .u8 97], [iI .u8 100], [iI .u8 32], [iI .u8 48], [iI .u8 32], [iI .u8 98], [iI .u8 108], [iI .u8 111], [iI .u8 99], [iI .u8 107], [iI .u8 115], [iI .u8 32], [iI .u8 48], [iI .u8 32], [iI .u8 109], [iI .u8 97], [iI .u8 114], [iI .u8 107], [iI .u8 32], [iI .u8 48], [iI .u8 32], [iI .u8 109], [iI .u8 111], [iI .u8 114], [iI .u8 101], [iI .u8 32], [iI .u8 102], [iI .u8 97], [iI .u8 108], [iI .u8 115], [iI .u8 101]]))]) := by
  refine Fn.bodyK [0, 1, 2] Tryz.func68 rfl rfl (fun Γ hP hn => ?_)
  have hm : Tryz.prog.follows .mixedOrders = true := by kernel_rfl
  replace hn : Γ.n = 19 := hn
  refine sO hP hn hm [] [] [0, 1] [] [0, 1] ?_
  refine sR hP hn hm [(1, .callz [(0, 0), (1, 1)] [(0, 0), (1, 1)] [] [] 2 (.tup []) [(0, some (.box 141 [.ptr 0 0 0, .own 1])), (1, some (.row 1 5 [[iI .u8 115], [iI .u8 101], [iI .u8 114], [iI .u8 105], [iI .u8 101], [iI .u8 115], [iI .u8 32], [iI .u8 48], [iI .u8 32], [iI .u8 104], [iI .u8 101], [iI .u8 97], [iI .u8 100], [iI .u8 32], [iI .u8 48], [iI .u8 32], [iI .u8 98], [iI .u8 108], [iI .u8 111], [iI .u8 99], [iI .u8 107], [iI .u8 115], [iI .u8 32], [iI .u8 48], [iI .u8 32], [iI .u8 109], [iI .u8 97], [iI .u8 114], [iI .u8 107], [iI .u8 32], [iI .u8 48], [iI .u8 32], [iI .u8 109], [iI .u8 111], [iI .u8 114], [iI .u8 101], [iI .u8 32]]))])] [] [0, 1] [] [0, 1] [_, _] ⟨Tryz.call118, cx129_copyCheck, trivial⟩ ?_
  refine sR hP hn hm [(6, .more (xAppStr 2 [[iI .u8 115], [iI .u8 101], [iI .u8 114], [iI .u8 105], [iI .u8 101], [iI .u8 115], [iI .u8 32], [iI .u8 48], [iI .u8 32], [iI .u8 104], [iI .u8 101], [iI .u8 97], [iI .u8 100], [iI .u8 32], [iI .u8 48], [iI .u8 32], [iI .u8 98], [iI .u8 108], [iI .u8 111], [iI .u8 99], [iI .u8 107], [iI .u8 115], [iI .u8 32], [iI .u8 48], [iI .u8 32], [iI .u8 109], [iI .u8 97], [iI .u8 114], [iI .u8 107], [iI .u8 32], [iI .u8 48], [iI .u8 32], [iI .u8 109], [iI .u8 111], [iI .u8 114], [iI .u8 101], [iI .u8 32], [iI .u8 102], [iI .u8 97], [iI .u8 108], [iI .u8 115], [iI .u8 101]]))] [] [1] [(0, some (.box 141 [.ptr 0 0 0, .own 2])), (2, some (.row 1 5 [[iI .u8 115], [iI .u8 101], [iI .u8 114], [iI .u8 105], [iI .u8 101], [iI .u8 115], [iI .u8 32], [iI .u8 48], [iI .u8 32], [iI .u8 104], [iI .u8 101], [iI .u8 97], [iI .u8 100], [iI .u8 32], [iI .u8 48], [iI .u8 32], [iI .u8 98], [iI .u8 108], [iI .u8 111], [iI .u8 99], [iI .u8 107], [iI .u8 115], [iI .u8 32], [iI .u8 48], [iI .u8 32], [iI .u8 109], [iI .u8 97], [iI .u8 114], [iI .u8 107], [iI .u8 32], [iI .u8 48], [iI .u8 32], [iI .u8 109], [iI .u8 111], [iI .u8 114], [iI .u8 101], [iI .u8 32], [iI .u8 102], [iI .u8 97], [iI .u8 108], [iI .u8 115], [iI .u8 101]]))] [0, 2] [([[iI .u8 115], [iI .u8 101], [iI .u8 114], [iI .u8 105], [iI .u8 101], [iI .u8 115], [iI .u8 32], [iI .u8 48], [iI .u8 32], [iI .u8 104], [iI .u8 101], [iI .u8 97], [iI .u8 100], [iI .u8 32], [iI .u8 48], [iI .u8 32], [iI .u8 98], [iI .u8 108], [iI .u8 111], [iI .u8 99], [iI .u8 107], [iI .u8 115], [iI .u8 32], [iI .u8 48], [iI .u8 32], [iI .u8 109], [iI .u8 97], [iI .u8 114], [iI .u8 107], [iI .u8 32], [iI .u8 48], [iI .u8 32], [iI .u8 109], [iI .u8 111], [iI .u8 114], [iI .u8 101], [iI .u8 32], [iI .u8 102], [iI .u8 97], [iI .u8 108], [iI .u8 115], [iI .u8 101]] : List (List Im)) = ([[iI .u8 115], [iI .u8 101], [iI .u8 114], [iI .u8 105], [iI .u8 101], [iI .u8 115], [iI .u8 32], [iI .u8 48], [iI .u8 32], [iI .u8 104], [iI .u8 101], [iI .u8 97], [iI .u8 100], [iI .u8 32], [iI .u8 48], [iI .u8 32], [iI .u8 98], [iI .u8 108], [iI .u8 111], [iI .u8 99], [iI .u8 107], [iI .u8 115], [iI .u8 32], [iI .u8 48], [iI .u8 32], [iI .u8 109], [iI .u8 97], [iI .u8 114], [iI .u8 107], [iI .u8 32], [iI .u8 48], [iI .u8 32], [iI .u8 109], [iI .u8 111], [iI .u8 114], [iI .u8 101], [iI .u8 32]] : List (List Im)) ++ (bytesL (⟨#[102, 97, 108, 115, 101]⟩ : ByteArray)).map (encInt .u8), (([[iI .u8 115], [iI .u8 101], [iI .u8 114], [iI .u8 105], [iI .u8 101], [iI .u8 115], [iI .u8 32], [iI .u8 48], [iI .u8 32], [iI .u8 104], [iI .u8 101], [iI .u8 97], [iI .u8 100], [iI .u8 32], [iI .u8 48], [iI .u8 32], [iI .u8 98], [iI .u8 108], [iI .u8 111], [iI .u8 99], [iI .u8 107], [iI .u8 115], [iI .u8 32], [iI .u8 48], [iI .u8 32], [iI .u8 109], [iI .u8 97], [iI .u8 114], [iI .u8 107], [iI .u8 32], [iI .u8 48], [iI .u8 32], [iI .u8 109], [iI .u8 111], [iI .u8 114], [iI .u8 101], [iI .u8 32]] : List (List Im)).length + (⟨#[102, 97, 108, 115, 101]⟩ : ByteArray).size) * 1 ≤ 140737488355328] ⟨by kernel_rfl, by decide, trivial⟩ ?_
  refine sO hP hn hm [] [(4, iV .i64 5), (5, .im (.sc (.nilIface)))] [4, 5] [] [0, 2] ?_
  refine AWp.ret ?_
  exact rl (.inl rfl) rfl (by kernel_rfl) (by kernel_rfl)
theorem cx131_copyCheck : Pv.Fn Tryz.prog 118 [.ptr 0 0 0] [(0, some (.box 141 [.ptr 0 0 0, .own 1])), (1, some (.row 1 5 [[iI .u8 115], [iI .u8 101], [iI .u8 114], [iI .u8 105], [iI .u8 101], [iI .u8 115], [iI .u8 32], [iI .u8 48], [iI .u8 32], [iI .u8 104], [iI .u8 101], [iI .u8 97], [iI .u8 100], [iI .u8 32], [iI .u8 48], [iI .u8 32], [iI .u8 98], [iI .u8 108], [iI .u8 111], [iI .u8 99], [iI .u8 107], [iI .u8 115], [iI .u8 32], [iI .u8 48], [iI .u8 32], [iI .u8 109], [iI .u8 97], [iI .u8 114], [iI .u8 107], [iI .u8 32], [iI .u8 48], [iI .u8 32], [iI .u8 109], [iI .u8 111], [iI .u8 114], [iI .u8 101], [iI .u8 32], [iI .u8 102], [iI .u8 97], [iI .u8 108], [iI .u8 115], [iI .u8 101]]))] 2 (fun x o => x = .tup [] ∧ o = [(0, some (.box 141 [.ptr 0 0 0, .own 1])), (1, some (.row 1 5 [[iI .u8 115], [iI .u8 101], [iI .u8 114], [iI .u8 105], [iI .u8 101], [iI .u8 115], [iI .u8 32], [iI .u8 48], [iI .u8 32], [iI .u8 104], [iI .u8 101], [iI .u8 97], [iI .u8 100], [iI .u8 32], [iI .u8 48], [iI .u8 32], [iI .u8 98], [iI .u8 108], [iI .u8 111], [iI .u8 99], [iI .u8 107], [iI .u8 115], [iI .u8 32], [iI .u8 48], [iI .u8 32], [iI .u8 109], [iI .u8 97], [iI .u8 114], [iI .u8 107], [iI .u8 32], [iI .u8 48], [iI .u8 32], [iI .u8 109], [iI .u8 111], [iI .u8 114], [iI .u8 101], [iI .u8 32], [iI .u8 102], [iI .u8 97], [iI .u8 108], [iI .u8 115], [iI .u8 101]]))]) := by
  refine Fn.bodyK [0, 1] Tryz.func118 rfl rfl (fun Γ hP hn => ?_)
  have hm : Tryz.prog.follows .mixedOrders = true := by kernel_rfl
  replace hn : Γ.n = 20 := hn
  refine sR hP hn hm [(4, .more (xPtrNil false))] [(6, bV false)] [0, 6] [] [0, 1] [false = false] ⟨rfl, trivial⟩ ?_
  refine AWp.cond false (by kernel_rfl) (fun h => nomatch h) (fun _ => ?_)
  refine sO hP hn hm [(5, .more xPtrSame)] [(19, bV false)] [19] [] [0, 1] ?_
  refine AWp.cond false (by kernel_rfl) (fun h => nomatch h) (fun _ => ?_)
  refine AWp.skip ?_
  exact rl (.inr rfl) rfl (by kernel_rfl) (by kernel_rfl)
theorem cx132_WriteString : Pv.Fn Tryz.prog 68 [.ptr 0 0 0, sV (⟨#[32]⟩ : ByteArray)] [(0, some (.box 141 [.ptr 0 0 0, .own 1])), (1, some (.row 1 5 [[iI .u8 115], [iI .u8 101], [iI .u8 114], [iI .u8 105], [iI .u8 101], [iI .u8 115], [iI .u8 32], [iI .u8 48], [iI .u8 32], [iI .u8 104], [iI .u8 101], [iI .u8 97], [iI .u8 100], [iI .u8 32], [iI .u8 48], [iI .u8 32], [iI .u8 98], [iI .u8 108], [iI .u8 111], [iI .u8 99], [iI .u8 107], [iI .u8 115], [iI .u8 32], [iI .u8 48], [iI .u8 32], [iI .u8 109], [iI .u8 97], [iI .u8 114], [iI .u8 107], [iI .u8 32], [iI .u8 48], [iI .u8 32], [iI .u8 109], [iI .u8 111], [iI .u8 114], [iI .u8 101], [iI .u8 32], [iI .u8 102], [iI .u8 97], [iI .u8 108], [iI .u8 115], [iI .u8 101]]))] 2 (fun x o => x = .tup [iV .i64 1, .im (.sc (.nilIface))] ∧ o = [(0, some (.box 141 [.ptr 0 0 0, .own 2])), (1, none), (2, some (.row 1 5 [[iI .u8 115], [iI .u8 101], [iI .u8 114], [iI .u8 105], [iI .u8 101], [iI .u8 115], [iI .u8 32], [iI .u8 48], [iI .u8 32], [iI .u8 104], [iI .u8 101], [iI .u8 97], [iI .u8 100], [iI .u8 32], [iI .u8 48], [iI .u8 32], [iI .u8 98], [iI .u8 108], [iI .u8 111], [iI .u8 99], [iI .u8 107], [iI .u8 115], [iI .u8 32], [iI .u8 48], [iI .u8 32], [iI .u8 109], [iI .u8 97], [iI .u8 114], [iI .u8 107], [iI .u8 32], [iI .u8 48], [iI .u8 32], [iI .u8 109], [iI .u8 111], [iI .u8 114], [iI .u8 101], [iI .u8 32], [iI .u8 102], [iI .u8 97], [iI .u8 108], [iI .u8 115], [iI .u8 101], [iI .u8 32]]))]) := by
  refine Fn.bodyK [0, 1, 2] Tryz.func68 rfl rfl (fun Γ hP hn => ?_)
  have hm : Tryz.prog.follows .mixedOrders = true := by kernel_rfl
  replace hn : Γ.n = 19 := hn
  refine sO hP hn hm [] [] [0, 1] [] [0, 1] ?_
  refine sR hP hn hm [(1, .callz [(0, 0), (1, 1)] [(0, 0), (1, 1)] [] [] 2 (.tup []) [(0, some (.box 141 [.ptr 0 0 0, .own 1])), (1, some (.row 1 5 [[iI .u8 115], [iI .u8 101], [iI .u8 114], [iI .u8 105], [iI .u8 101], [iI .u8 115], [iI .u8 32], [iI .u8 48], [iI .u8 32], [iI .u8 104], [iI .u8 101], [iI .u8 97], [iI .u8 100], [iI .u8 32], [iI .u8 48], [iI .u8 32], [iI .u8 98], [iI .u8 108], [iI .u8 111], [iI .u8 99], [iI .u8 107], [iI .u8 115], [iI .u8 32], [iI .u8 48], [iI .u8 32], [iI .u8 109], [iI .u8 97], [iI .u8 114], [iI .u8 107], [iI .u8 32], [iI .u8 48], [iI .u8 32], [iI .u8 109], [iI .u8 111], [iI .u8 114], [iI .u8 101], [iI .u8 32], [iI .u8 102], [iI .u8 97], [iI .u8 108], [iI .u8 115], [iI .u8 101]]))])] [] [0, 1] [] [0, 1] [_, _] ⟨Tryz.call118, cx131_copyCheck, trivial⟩ ?_
  refine sR hP hn hm [(6, .more (xAppStr 2 [[iI .u8 115], [iI .u8 101], [iI .u8 114], [iI .u8 105], [iI .u8 101], [iI .u8 115], [iI .u8 32], [iI .u8 48], [iI .u8 32], [iI .u8 104], [iI .u8 101], [iI .u8 97], [iI .u8 100], [iI .u8 32], [iI .u8 48], [iI .u8 32], [iI .u8 98], [iI .u8 108], [iI .u8 111], [iI .u8 99], [iI .u8 107], [iI .u8 115], [iI .u8 32], [iI .u8 48], [iI .u8 32], [iI .u8 109], [iI .u8 97], [iI .u8 114], [iI .u8 107], [iI .u8 32], [iI .u8 48], [iI .u8 32], [iI .u8 109], [iI .u8 111], [iI .u8 114], [iI .u8 101], [iI .u8 32], [iI .u8 102], [iI .u8 97], [iI .u8 108], [iI .u8 115], [iI .u8 101], [iI .u8 32]]))] [] [1] [(0, some (.box 141 [.ptr 0 0 0, .own 2])), (2, some (.row 1 5 [[iI .u8 115], [iI .u8 101], [iI .u8 114], [iI .u8 105], [iI .u8 101], [iI .u8 115], [iI .u8 32], [iI .u8 48], [iI .u8 32], [iI .u8 104], [iI .u8 101], [iI .u8 97], [iI .u8 100], [iI .u8 32], [iI .u8 48], [iI .u8 32], [iI .u8 98], [iI .u8 108], [iI .u8 111], [iI .u8 99], [iI .u8 107], [iI .u8 115], [iI .u8 32], [iI .u8 48], [iI .u8 32], [iI .u8 109], [iI .u8 97], [iI .u8 114], [iI .u8 107], [iI .u8 32], [iI .u8 48], [iI .u8 32], [iI .u8 109], [iI .u8 111], [iI .u8 114], [iI .u8 101], [iI .u8 32], [iI .u8 102], [iI .u8 97], [iI .u8 108], [iI .u8 115], [iI .u8 101], [iI .u8 32]]))] [0, 2] [([[iI .u8 115], [iI .u8 101], [iI .u8 114], [iI .u8 105], [iI .u8 101], [iI .u8 115], [iI .u8 32], [iI .u8 48], [iI .u8 32], [iI .u8 104], [iI .u8 101], [iI .u8 97], [iI .u8 100], [iI .u8 32], [iI .u8 48], [iI .u8 32], [iI .u8 98], [iI .u8 108], [iI .u8 111], [iI .u8 99], [iI .u8 107], [iI .u8 115], [iI .u8 32], [iI .u8 48], [iI .u8 32], [iI .u8 109], [iI .u8 97], [iI .u8 114], [iI .u8 107], [iI .u8 32], [iI .u8 48], [iI .u8 32], [iI .u8 109], [iI .u8 111], [iI .u8 114], [iI .u8 101], [iI .u8 32], [iI .u8 102], [iI .u8 97], [iI .u8 108], [iI .u8 115], [iI .u8 101], [iI .u8 32]] : List (List Im)) = ([[iI .u8 115], [iI .u8 101], [iI .u8 114], [iI .u8 105], [iI .u8 101], [iI .u8 115], [iI .u8 32], [iI .u8 48], [iI .u8 32], [iI .u8 104], [iI .u8 101], [iI .u8 97], [iI .u8 100], [iI .u8 32], [iI .u8 48], [iI .u8 32], [iI .u8 98], [iI .u8 108], [iI .u8 111], [iI .u8 99], [iI .u8 107], [iI .u8 115], [iI .u8 32], [iI .u8 48], [iI .u8 32], [iI .u8 109], [iI .u8 97], [iI .u8 114], [iI .u8 107], [iI .u8 32], [iI .u8 48], [iI .u8 32], [iI .u8 109], [iI .u8 111], [iI .u8 114], [iI .u8 101], [iI .u8 32], [iI .u8 102], [iI .u8 97], [iI .u8 108], [iI .u8 115], [iI .u8 101]] : List (List Im)) ++ (bytesL (⟨#[32]⟩ : ByteArray)).map (encInt .u8), (([[iI .u8 115], [iI .u8 101], [iI .u8 114], [iI .u8 105], [iI .u8 101], [iI .u8 115], [iI .u8 32], [iI .u8 48], [iI .u8 32], [iI .u8 104], [iI .u8 101], [iI .u8 97], [iI .u8 100], [iI .u8 32], [iI .u8 48], [iI .u8 32], [iI .u8 98], [iI .u8 108], [iI .u8 111], [iI .u8 99], [iI .u8 107], [iI .u8 115], [iI .u8 32], [iI .u8 48], [iI .u8 32], [iI .u8 109], [iI .u8 97], [iI .u8 114], [iI .u8 107], [iI .u8 32], [iI .u8 48], [iI .u8 32], [iI .u8 109], [iI .u8 111], [iI .u8 114], [iI .u8 101], [iI .u8 32], [iI .u8 102], [iI .u8 97], [iI .u8 108], [iI .u8 115], [iI .u8 101]] : List (List Im)).length + (⟨#[32]⟩ : ByteArray).size) * 1 ≤ 140737488355328] ⟨by kernel_rfl, by decide, trivial⟩ ?_
  refine sO hP hn hm [] [(4, iV .i64 1), (5, .im (.sc (.nilIface)))] [4, 5] [] [0, 2] ?_
  refine AWp.ret ?_
  exact rl (.inl rfl) rfl (by kernel_rfl) (by kernel_rfl)
theorem cx133_copyCheck : Pv.Fn Tryz.prog 118 [.ptr 0 0 0] [(0, some (.box 141 [.ptr 0 0 0, .own 1])), (1, some (.row 1 5 [[iI .u8 115], [iI .u8 101], [iI .u8 114], [iI .u8 105], [iI .u8 101], [iI .u8 115], [iI .u8 32], [iI .u8 48], [iI .u8 32], [iI .u8 104], [iI .u8 101], [iI .u8 97], [iI .u8 100], [iI .u8 32], [iI .u8 48], [iI .u8 32], [iI .u8 98], [iI .u8 108], [iI .u8 111], [iI .u8 99], [iI .u8 107], [iI .u8 115], [iI .u8 32], [iI .u8 48], [iI .u8 32], [iI .u8 109], [iI .u8 97], [iI .u8 114], [iI .u8 107], [iI .u8 32], [iI .u8 48], [iI .u8 32], [iI .u8 109], [iI .u8 111], [iI .u8 114], [iI .u8 101], [iI .u8 32], [iI .u8 102], [iI .u8 97], [iI .u8 108], [iI .u8 115], [iI .u8 101], [iI .u8 32]]))] 2 (fun x o => x = .tup [] ∧ o = [(0, some (.box 141 [.ptr 0 0 0, .own 1])), (1, some (.row 1 5 [[iI .u8 115], [iI .u8 101], [iI .u8 114], [iI .u8 105], [iI .u8 101], [iI .u8 115], [iI .u8 32], [iI .u8 48], [iI .u8 32], [iI .u8 104], [iI .u8 101], [iI .u8 97], [iI .u8 100], [iI .u8 32], [iI .u8 48], [iI .u8 32], [iI .u8 98], [iI .u8 108], [iI .u8 111], [iI .u8 99], [iI .u8 107], [iI .u8 115], [iI .u8 32], [iI .u8 48], [iI .u8 32], [iI .u8 109], [iI .u8 97], [iI .u8 114], [iI .u8 107], [iI .u8 32], [iI .u8 48], [iI .u8 32], [iI .u8 109], [iI .u8 111], [iI .u8 114], [iI .u8 101], [iI .u8 32], [iI .u8 102], [iI .u8 97], [iI .u8 108], [iI .u8 115], [iI .u8 101], [iI .u8 32]]))]) := by
  refine Fn.bodyK [0, 1] Tryz.func118 rfl rfl (fun Γ hP hn => ?_)
  have hm : Tryz.prog.follows .mixedOrders = true := by kernel_rfl
  replace hn : Γ.n = 20 := hn
  refine sR hP hn hm [(4, .more (xPtrNil false))] [(6, bV false)] [0, 6] [] [0, 1] [false = false] ⟨rfl, trivial⟩ ?_
  refine AWp.cond false (by kernel_rfl) (fun h => nomatch h) (fun _ => ?_)
  refine sO hP hn hm [(5, .more xPtrSame)] [(19, bV false)] [19] [] [0, 1] ?_
  refine AWp.cond false (by kernel_rfl) (fun h => nomatch h) (fun _ => ?_)
  refine AWp.skip ?_
  exact rl (.inr rfl) rfl (by kernel_rfl) (by kernel_rfl)
theorem cx134_WriteString : Pv.Fn Tryz.prog 68 [.ptr 0 0 0, sV (⟨#[114, 101, 97, 100, 111, 110, 108, 121]⟩ : ByteArray)] [(0, some (.box 141 [.ptr 0 0 0, .own 1])), (1, some (.row 1 5 [[iI .u8 115], [iI .u8 101], [iI .u8 114], [iI .u8 105], [iI .u8 101], [iI .u8 115], [iI .u8 32], [iI .u8 48], [iI .u8 32], [iI .u8 104], [iI .u8 101], [iI .u8 97], [iI .u8 100], [iI .u8 32], [iI .u8 48], [iI .u8 32], [iI .u8 98], [iI .u8 108], [iI .u8 111], [iI .u8 99], [iI .u8 107], [iI .u8 115], [iI .u8 32], [iI .u8 48], [iI .u8 32], [iI .u8 109], [iI .u8 97], [iI .u8 114], [iI .u8 107], [iI .u8 32], [iI .u8 48], [iI .u8 32], [iI .u8 109], [iI .u8 111], [iI .u8 114], [iI .u8 101], [iI .u8 32], [iI .u8 102], [iI .u8 97], [iI .u8 108], [iI .u8 115], [iI .u8 101], [iI .u8 32]]))] 2 (fun x o => x = .tup [iV .i64 8, .im (.sc (.nilIface))] ∧ o = [(0, some (.box 141 [.ptr 0 0 0, .own 2])), (1, none), (2, some (.row 1 5 [[iI .u8 115], [iI .u8 101], [iI .u8 114], [iI .u8 105], [iI .u8 101], [iI .u8 115], [iI .u8 32], [iI .u8 48], [iI .u8 32], [iI .u8 104], [iI .u8 101], [iI .u8 97], [iI .u8 100], [iI .u8 32], [iI .u8 48], [iI .u8 32], [iI .u8 98], [iI .u8 108], [iI .u8 111], [iI .u8 99], [iI .u8 107], [iI .u8 115], [iI .u8 32], [iI .u8 48], [iI .u8 32], [iI .u8 109], [iI .u8 97], [iI .u8 114], [iI .u8 107], [iI .u8 32], [iI .u8 48], [iI .u8 32], [iI .u8 109], [iI .u8 111], [iI .u8 114], [iI .u8 101], [iI .u8 32], [iI .u8 102], [iI .u8 97], [iI .u8 108], [iI .u8 115], [iI .u8 101], [iI .u8 32], [iI .u8 114], [iI .u8 101], [iI .u8 97], [iI .u8 100], [iI .u8 111], [iI .u8 110], [iI .u8 108], [iI .u8 121]]))]) := by
  refine Fn.bodyK [0, 1, 2] Tryz.func68 rfl rfl (fun Γ hP hn => ?_)
  have hm : Tryz.prog.follows .mixedOrders = true := by kernel_rfl
  replace hn : Γ.n = 19 := hn
  refine sO hP hn hm [] [] [0, 1] [] [0, 1] ?_
  refine sR hP hn hm [(1, .callz [(0, 0), (1, 1)] [(0, 0), (1, 1)] [] [] 2 (.tup []) [(0, some (.box 141 [.ptr 0 0 0, .own 1])), (1, some (.row 1 5 [[iI .u8 115], [iI .u8 101], [iI .u8 114], [iI .u8 105], [iI .u8 101], [iI .u8 115], [iI .u8 32], [iI .u8 48], [iI .u8 32], [iI .u8 104], [iI .u8 101], [iI .u8 97], [iI .u8 100], [iI .u8 32], [iI .u8 48], [iI .u8 32], [iI .u8 98], [iI .u8 108], [iI .u8 111], [iI .u8 99], [iI .u8 107], [iI .u8 115], [iI .u8 32], [iI .u8 48], [iI .u8 32], [iI .u8 109], [iI .u8 97], [iI .u8 114], [iI .u8 107], [iI .u8 32], [iI .u8 48], [iI .u8 32], [iI .u8 109], [iI .u8 111], [iI .u8 114], [iI .u8 101], [iI .u8 32], [iI .u8 102], [iI .u8 97], [iI .u8 108], [iI .u8 115], [iI .u8 101], [iI .u8 32]]))])] [] [0, 1] [] [0, 1] [_, _] ⟨Tryz.call118, cx133_copyCheck, trivial⟩ ?_
  refine sR hP hn hm [(6, .more (xAppStr 2 [[iI .u8 115], [iI .u8 101], [iI .u8 114], [iI .u8 105], [iI .u8 101], [iI .u8 115], [iI .u8 32], [iI .u8 48], [iI .u8 32], [iI .u8 104], [iI .u8 101], [iI .u8 97], [iI .u8 100], [iI .u8 32], [iI .u8 48], [iI .u8 32], [iI .u8 98], [iI .u8 108], [iI .u8 111], [iI .u8 99], [iI .u8 107], [iI .u8 115], [iI .u8 32], [iI .u8 48], [iI .u8 32], [iI .u8 109], [iI .u8 97], [iI .u8 114], [iI .u8 107], [iI .u8 32], [iI .u8 48], [iI .u8 32], [iI .u8 109], [iI .u8 111], [iI .u8 114], [iI .u8 101], [iI .u8 32], [iI .u8 102], [iI .u8 97], [iI .u8 108], [iI .u8 115], [iI .u8 101], [iI .u8 32], [iI .u8 114], [iI .u8 101], [iI .u8 97], [iI .u8 100], [iI .u8 111], [iI .u8 110], [iI .u8 108], [iI .u8 121]]))] [] [1] [(0, some (.box 141 [.ptr 0 0 0, .own 2])), (2, some (.row 1 5 [[iI .u8 115], [iI .u8 101], [iI .u8 114], [iI .u8 105], [iI .u8 101], [iI .u8 115], [iI .u8 32], [iI .u8 48], [iI .u8 32], [iI .u8 104], [iI .u8 101], [iI .u8 97], [iI .u8 100], [iI .u8 32], [iI .u8 48], [iI .u8 32], [iI .u8 98], [iI .u8 108], [iI .u8 111], [iI .u8 99], [iI .u8 107], [iI .u8 115], [iI .u8 32], [iI .u8 48], [iI .u8 32], [iI .u8 109], [iI .u8 97], [iI .u8 114], [iI .u8 107], [iI .u8 32], [iI .u8 48], [iI .u8 32], [iI .u8 109], [iI .u8 111], [iI .u8 114], [iI .u8 101], [iI .u8 32], [iI .u8 102], [iI .u8 97], [iI .u8 108], [iI .u8 115], [iI .u8 101], [iI .u8 32], [iI .u8 114], [iI .u8 101], [iI .u8 97], [iI .u8 100], [iI .u8 111], [iI .u8 110], [iI .u8 108], [iI .u8 121]]))] [0, 2] [([[iI .u8 115], [iI .u8 101], [iI .u8 114], [iI .u8 105], [iI .u8 101], [iI .u8 115], [iI .u8 32], [iI .u8 48], [iI .u8 32], [iI .u8 104], [iI .u8 101], [iI .u8 97], [iI .u8 100], [iI .u8 32], [iI .u8 48], [iI .u8 32], [iI .u8 98], [iI .u8 108], [iI .u8 111], [iI .u8 99], [iI .u8 107], [iI .u8 115], [iI .u8 32], [iI .u8 48], [iI .u8 32], [iI .u8 109], [iI .u8 97], [iI .u8 114], [iI .u8 107], [iI .u8 32], [iI .u8 48], [iI .u8 32], [iI .u8 109], [iI .u8 111], [iI .u8 114], [iI .u8 101], [iI .u8 32], [iI .u8 102], [iI .u8 97], [iI .u8 108], [iI .u8 115], [iI .u8 101], [iI .u8 32], [iI .u8 114], [iI .u8 101], [iI .u8 97], [iI .u8 100], [iI .u8 111], [iI .u8 110], [iI .u8 108], [iI .u8 121]] : List (List Im)) = ([[iI .u8 115], [iI .u8 101], [iI .u8 114], [iI .u8 105], [iI .u8 101], [iI .u8 115], [iI .u8 32], [iI .u8 48], [iI .u8 32], [iI .u8 104], [iI .u8 101], [iI .u8 97], [iI .u8 100], [iI .u8 32], [iI .u8 48], [iI .u8 32], [iI .u8 98], [iI .u8 108], [iI .u8 111], [iI .u8 99], [iI .u8 107], [iI .u8 115], [iI .u8 32], [iI .u8 48], [iI .u8 32], [iI .u8 109], [iI .u8 97], [iI .u8 114], [iI .u8 107], [iI .u8 32], [iI .u8 48], [iI .u8 32], [iI .u8 109], [iI .u8 111], [iI .u8 114], [iI .u8 101], [iI .u8 32], [iI .u8 102], [iI .u8 97], [iI .u8 108], [iI .u8 115], [iI .u8 101], [iI .u8 32]] : List (List Im)) ++ (bytesL (⟨#[114, 101, 97, 100, 111, 110, 108, 121]⟩ : ByteArray)).map (encInt .u8), (([[iI .u8 115], [iI .u8 101], [iI .u8 114], [iI .u8 105], [iI .u8 101], [iI .u8 115], [iI .u8 32], [iI .u8 48], [iI .u8 32], [iI .u8 104], [iI .u8 101], [iI .u8 97], [iI .u8 100], [iI .u8 32], [iI .u8 48], [iI .u8 32], [iI .u8 98], [iI .u8 108], [iI .u8 111], [iI .u8 99], [iI .u8 107], [iI .u8 115], [iI .u8 32], [iI .u8 48], [iI .u8 32], [iI .u8 109], [iI .u8 97], [iI .u8 114], [iI .u8 107], [iI .u8 32], [iI .u8 48], [iI .u8 32], [iI .u8 109], [iI .u8 111], [iI .u8 114], [iI .u8 101], [iI .u8 32], [iI .u8 102], [iI .u8 97], [iI .u8 108], [iI .u8 115], [iI .u8 101], [iI .u8 32]] : List (List Im)).length + (⟨#[114, 101, 97, 100, 111, 110, 108, 121]⟩ : ByteArray).size) * 1 ≤ 140737488355328] ⟨by kernel_rfl, by decide, trivial⟩ ?_
  refine sO hP hn hm [] [(4, iV .i64 8), (5, .im (.sc (.nilIface)))] [4, 5] [] [0, 2] ?_
  refine AWp.ret ?_
  exact rl (.inl rfl) rfl (by kernel_rfl) (by kernel_rfl)
theorem cx135_copyCheck : Pv.Fn Tryz.prog 118 [.ptr 0 0 0] [(0, some (.box 141 [.ptr 0 0 0, .own 1])), (1, some (.row 1 5 [[iI .u8 115], [iI .u8 101], [iI .u8 114], [iI .u8 105], [iI .u8 101], [iI .u8 115], [iI .u8 32], [iI .u8 48], [iI .u8 32], [iI .u8 104], [iI .u8 101], [iI .u8 97], [iI .u8 100], [iI .u8 32], [iI .u8 48], [iI .u8 32], [iI .u8 98], [iI .u8 108], [iI .u8 111], [iI .u8 99], [iI .u8 107], [iI .u8 115], [iI .u8 32], [iI .u8 48], [iI .u8 32], [iI .u8 109], [iI .u8 97], [iI .u8 114], [iI .u8 107], [iI .u8 32], [iI .u8 48], [iI .u8 32], [iI .u8 109], [iI .u8 111], [iI .u8 114], [iI .u8 101], [iI .u8 32], [iI .u8 102], [iI .u8 97], [iI .u8 108], [iI .u8 115], [iI .u8 101], [iI .u8 32], [iI .u8 114], [iI .u8 101], [iI .u8 97], [iI .u8 100], [iI .u8 111], [iI .u8 110], [iI .u8 108], [iI .u8 121]]))] 2 (fun x o => x = .tup [] ∧ o = [(0, some (.box 141 [.ptr 0 0 0, .own 1])), (1, some (.row 1 5 [[iI .u8 115], [iI .u8 101], [iI .u8 114], [iI .u8 105], [iI .u8 101], [iI .u8 115], [iI .u8 32], [iI .u8 48], [iI .u8 32], [iI .u8 104], [iI .u8 101], [iI .u8 97], [iI .u8 100], [iI .u8 32], [iI .u8 48], [iI .u8 32], [iI .u8 98], [iI .u8 108], [iI .u8 111], [iI .u8 99], [iI .u8 107], [iI .u8 115], [iI .u8 32], [iI .u8 48], [iI .u8 32], [iI .u8 109], [iI .u8 97], [iI .u8 114], [iI .u8 107], [iI .u8 32], [iI .u8 48], [iI .u8 32], [iI .u8 109], [iI .u8 111], [iI .u8 114], [iI .u8 101], [iI .u8 32], [iI .u8 102], [iI .u8 97], [iI .u8 108], [iI .u8 115], [iI .u8 101], [iI .u8 32], [iI .u8 114], [iI .u8 101], [iI .u8 97], [iI .u8 100], [iI .u8 111], [iI .u8 110], [iI .u8 108], [iI .u8 121]]))]) := by
  refine Fn.bodyK [0, 1] Tryz.func118 rfl rfl (fun Γ hP hn => ?_)
  have hm : Tryz.prog.follows .mixedOrders = true := by kernel_rfl
  replace hn : Γ.n = 20 := hn
  refine sR hP hn hm [(4, .more (xPtrNil false))] [(6, bV false)] [0, 6] [] [0, 1] [false = false] ⟨rfl, trivial⟩ ?_
  refine AWp.cond false (by kernel_rfl) (fun h => nomatch h) (fun _ => ?_)
  refine sO hP hn hm [(5, .more xPtrSame)] [(19, bV false)] [19] [] [0, 1] ?_
  refine AWp.cond false (by kernel_rfl) (fun h => nomatch h) (fun _ => ?_)
  refine AWp.skip ?_
  exact rl (.inr rfl) rfl (by kernel_rfl) (by kernel_rfl)
theorem cx136_WriteString : Pv.Fn Tryz.prog 68 [.ptr 0 0 0, sV (⟨#[32]⟩ : ByteArray)] [(0, some (.box 141 [.ptr 0 0 0, .own 1])), (1, some (.row 1 5 [[iI .u8 115], [iI .u8 101], [iI .u8 114], [iI .u8 105], [iI .u8 101], [iI .u8 115], [iI .u8 32], [iI .u8 48], [iI .u8 32], [iI .u8 104], [iI .u8 101], [iI .u8 97], [iI .u8 100], [iI .u8 32], [iI .u8 48], [iI .u8 32], [iI .u8 98], [iI .u8 108], [iI .u8 111], [iI .u8 99], [iI .u8 107], [iI .u8 115], [iI .u8 32], [iI .u8 48], [iI .u8 32], [iI .u8 109], [iI .u8 97], [iI .u8 114], [iI .u8 107], [iI .u8 32], [iI .u8 48], [iI .u8 32], [iI .u8 109], [iI .u8 111], [iI .u8 114], [iI .u8 101], [iI .u8 32], [iI .u8 102], [iI .u8 97], [iI .u8 108], [iI .u8 115], [iI .u8 101], [iI .u8 32], [iI .u8 114], [iI .u8 101], [iI .u8 97], [iI .u8 100], [iI .u8 111], [iI .u8 110], [iI .u8 108], [iI .u8 121]]))] 2 (fun x o => x = .tup [iV .i64 1, .im (.sc (.nilIface))] ∧ o = [(0, some (.box 141 [.ptr 0 0 0, .own 2])), (1, none), (2, some (.row 1 5 [[iI .u8 115], [iI .u8 101], [iI .u8 114], [iI .u8 105], [iI .u8 101], [iI .u8 115], [iI .u8 32], [iI .u8 48], [iI .u8 32], [iI .u8 104], [iI .u8 101], [iI .u8 97], [iI .u8 100], [iI .u8 32], [iI .u8 48], [iI .u8 32], [iI .u8 98], [iI .u8 108], [iI .u8 111], [iI .u8 99], [iI .u8 107], [iI .u8 115], [iI .u8 32], [iI .u8 48], [iI .u8 32], [iI .u8 109], [iI .u8 97], [iI .u8 114], [iI .u8 107], [iI .u8 32], [iI .u8 48], [iI .u8 32], [iI .u8 109], [iI .u8 111], [iI .u8 114], [iI .u8 101], [iI .u8 32], [iI .u8 102], [iI .u8 97], [iI .u8 108], [iI .u8 115], [iI .u8 101], [iI .u8 32], [iI .u8 114], [iI .u8 101], [iI .u8 97], [iI .u8 100], [iI .u8 111], [iI .u8 110], [iI .u8 108], [iI .u8 121], [iI .u8 32]]))]) := by
  refine Fn.bodyK [0, 1, 2] Tryz.func68 rfl rfl (fun Γ hP hn => ?_)
  have hm : Tryz.prog.follows .mixedOrders = true := by kernel_rfl
  replace hn : Γ.n = 19 := hn
  refine sO hP hn hm [] [] [0, 1] [] [0, 1] ?_
  refine sR hP hn hm [(1, .callz [(0, 0), (1, 1)] [(0, 0), (1, 1)] [] [] 2 (.tup []) [(0, some (.box 141 [.ptr 0 0 0, .own 1])), (1, some (.row 1 5 [[iI .u8 115], [iI .u8 101], [iI .u8 114], [iI .u8 105], [iI .u8 101], [iI .u8 115], [iI .u8 32], [iI .u8 48], [iI .u8 32], [iI .u8 104], [iI .u8 101], [iI .u8 97], [iI .u8 100], [iI .u8 32], [iI .u8 48], [iI .u8 32], [iI .u8 98], [iI .u8 108], [iI .u8 111], [iI .u8 99], [iI .u8 107], [iI .u8 115], [iI .u8 32], [iI .u8 48], [iI .u8 32], [iI .u8 109], [iI .u8 97], [iI .u8 114], [iI .u8 107], [iI .u8 32], [iI .u8 48], [iI .u8 32], [iI .u8 109], [iI .u8 111], [iI .u8 114], [iI .u8 101], [iI .u8 32], [iI .u8 102], [iI .u8 97], [iI .u8 108], [iI .u8 115], [iI .u8 101], [iI .u8 32], [iI .u8 114], [iI .u8 101], [iI .u8 97], [iI .u8 100], [iI .u8 111], [iI .u8 110], [iI .u8 108], [iI .u8 121]]))])] [] [0, 1] [] [0, 1] [_, _] ⟨Tryz.call118, cx135_copyCheck, trivial⟩ ?_
  refine sR hP hn hm [(6, .more (xAppStr 2 [[iI .u8 115], [iI .u8 101], [iI .u8 114], [iI .u8 105], [iI .u8 101], [iI .u8 115], [iI .u8 32], [iI .u8 48], [iI .u8 32], [iI .u8 104], [iI .u8 101], [iI .u8 97], [iI .u8 100], [iI .u8 32], [iI .u8 48], [iI .u8 32], [iI .u8 98], [iI .u8 108], [iI .u8 111], [iI .u8 99], [iI .u8 107], [iI .u8 115], [iI .u8 32], [iI .u8 48], [iI .u8 32], [iI .u8 109], [iI .u8 97], [iI .u8 114], [iI .u8 107], [iI .u8 32], [iI .u8 48], [iI .u8 32], [iI .u8 109], [iI .u8 111], [iI .u8 114], [iI .u8 101], [iI .u8 32], [iI .u8 102], [iI .u8 97], [iI .u8 108], [iI .u8 115], [iI .u8 101], [iI .u8 32], [iI .u8 114], [iI .u8 101], [iI .u8 97], [iI .u8 100], [iI .u8 111], [iI .u8 110], [iI .u8 108], [iI .u8 121], [iI .u8 32]]))] [] [1] [(0, some (.box 141 [.ptr 0 0 0, .own 2])), (2, some (.row 1 5 [[iI .u8 115], [iI .u8 101], [iI .u8 114], [iI .u8 105], [iI .u8 101], [iI .u8 115], [iI .u8 32], [iI .u8 48], [iI .u8 32], [iI .u8 104], [iI .u8 101], [iI .u8 97], [iI .u8 100], [iI .u8 32], [iI .u8 48], [iI .u8 32], [iI .u8 98], [iI .u8 108], [iI .u8 111], [iI .u8 99], [iI .u8 107], [iI .u8 115], [iI .u8 32], [iI .u8 48], [iI .u8 32], [iI .u8 109], [iI .u8 97], [iI .u8 114], [iI .u8 107], [iI .u8 32], [iI .u8 48], [iI .u8 32], [iI .u8 109], [iI .u8 111], [iI .u8 114], [iI .u8 101], [iI .u8 32], [iI .u8 102], [iI .u8 97], [iI .u8 108], [iI .u8 115], [iI .u8 101], [iI .u8 32], [iI .u8 114], [iI .u8 101], [iI .u8 97], [iI .u8 100], [iI .u8 111], [iI .u8 110], [iI .u8 108], [iI .u8 121], [iI .u8 32]]))] [0, 2] [([[iI .u8 115], [iI .u8 101], [iI .u8 114], [iI .u8 105], [iI .u8 101], [iI .u8 115], [iI .u8 32], [iI .u8 48], [iI .u8 32], [iI .u8 104], [iI .u8 101], [iI .u8 97], [iI .u8 100], [iI .u8 32], [iI .u8 48], [iI .u8 32], [iI .u8 98], [iI .u8 108], [iI .u8 111], [iI .u8 99], [iI .u8 107], [iI .u8 115], [iI .u8 32], [iI .u8 48], [iI .u8 32], [iI .u8 109], [iI .u8 97], [iI .u8 114], [iI .u8 107], [iI .u8 32], [iI .u8 48], [iI .u8 32], [iI .u8 109], [iI .u8 111], [iI .u8 114], [iI .u8 101], [iI .u8 32], [iI .u8 102], [iI .u8 97], [iI .u8 108], [iI .u8 115], [iI .u8 101], [iI .u8 32], [iI .u8 114], [iI .u8 101], [iI .u8 97], [iI .u8 100], [iI .u8 111], [iI .u8 110], [iI .u8 108], [iI .u8 121], [iI .u8 32]] : List (List Im)) = ([[iI .u8 115], [iI .u8 101], [iI .u8 114], [iI .u8 105], [iI .u8 101], [iI .u8 115], [iI .u8 32], [iI .u8 48], [iI .u8 32], [iI .u8 104], [iI .u8 101], [iI .u8 97], [iI .u8 100], [iI .u8 32], [iI .u8 48], [iI .u8 32], [iI .u8 98], [iI .u8 108], [iI .u8 111], [iI .u8 99], [iI .u8 107], [iI .u8 115], [iI .u8 32], [iI .u8 48], [iI .u8 32], [iI .u8 109], [iI .u8 97], [iI .u8 114], [iI .u8 107], [iI .u8 32], [iI .u8 48], [iI .u8 32], [iI .u8 109], [iI .u8 111], [iI .u8 114], [iI .u8 101], [iI .u8 32], [iI .u8 102], [iI .u8 97], [iI .u8 108], [iI .u8 115], [iI .u8 101], [iI .u8 32], [iI .u8 114], [iI .u8 101], [iI .u8 97], [iI .u8 100], [iI .u8 111], [iI .u8 110], [iI .u8 108], [iI .u8 121]] : List (List Im)) ++ (bytesL (⟨#[32]⟩ : ByteArray)).map (encInt .u8), (([[iI .u8 115], [iI .u8 101], [iI .u8 114], [iI .u8 105], [iI .u8 101], [iI .u8 115], [iI .u8 32], [iI .u8 48], [iI .u8 32], [iI .u8 104], [iI .u8 101], [iI .u8 97], [iI .u8 100], [iI .u8 32], [iI .u8 48], [iI .u8 32], [iI .u8 98], [iI .u8 108], [iI .u8 111], [iI .u8 99], [iI .u8 107], [iI .u8 115], [iI .u8 32], [iI .u8 48], [iI .u8 32], [iI .u8 109], [iI .u8 97], [iI .u8 114], [iI .u8 107], [iI .u8 32], [iI .u8 48], [iI .u8 32], [iI .u8 109], [iI .u8 111], [iI .u8 114], [iI .u8 101], [iI .u8 32], [iI .u8 102], [iI .u8 97], [iI .u8 108], [iI .u8 115], [iI .u8 101], [iI .u8 32], [iI .u8 114], [iI .u8 101], [iI .u8 97], [iI .u8 100], [iI .u8 111], [iI .u8 110], [iI .u8 108], [iI .u8 121]] : List (List Im)).length + (⟨#[32]⟩ : ByteArray).size) * 1 ≤ 140737488355328] ⟨by kernel_rfl, by decide, trivial⟩ ?_
  refine sO hP hn hm [] [(4, iV .i64 1), (5, .im (.sc (.nilIface)))] [4, 5] [] [0, 2] ?_
  refine AWp.ret ?_
  exact rl (.inl rfl) rfl (by kernel_rfl) (by kernel_rfl)
theorem cx137_copyCheck : Pv.Fn Tryz.prog 118 [.ptr 0 0 0] [(0, some (.box 141 [.ptr 0 0 0, .own 1])), (1, some (.row 1 5 [[iI .u8 115], [iI .u8 101], [iI .u8 114], [iI .u8 105], [iI .u8 101], [iI .u8 115], [iI .u8 32], [iI .u8 48], [iI .u8 32], [iI .u8 104], [iI .u8 101], [iI .u8 97], [iI .u8 100], [iI .u8 32], [iI .u8 48], [iI .u8 32], [iI .u8 98], [iI .u8 108], [iI .u8 111], [iI .u8 99], [iI .u8 107], [iI .u8 115], [iI .u8 32], [iI .u8 48], [iI .u8 32], [iI .u8 109], [iI .u8 97], [iI .u8 114], [iI .u8 107], [iI .u8 32], [iI .u8 48], [iI .u8 32], [iI .u8 109], [iI .u8 111], [iI .u8 114], [iI .u8 101], [iI .u8 32], [iI .u8 102], [iI .u8 97], [iI .u8 108], [iI .u8 115], [iI .u8 101], [iI .u8 32], [iI .u8 114], [iI .u8 101], [iI .u8 97], [iI .u8 100], [iI .u8 111], [iI .u8 110], [iI .u8 108], [iI .u8 121], [iI .u8 32]]))] 2 (fun x o => x = .tup [] ∧ o = [(0, some (.box 141 [.ptr 0 0 0, .own 1])), (1, some (.row 1 5 [[iI .u8 115], [iI .u8 101], [iI .u8 114], [iI .u8 105], [iI .u8 101], [iI .u8 115], [iI .u8 32], [iI .u8 48], [iI .u8 32], [iI .u8 104], [iI .u8 101], [iI .u8 97], [iI .u8 100], [iI .u8 32], [iI .u8 48], [iI .u8 32], [iI .u8 98], [iI .u8 108], [iI .u8 111], [iI .u8 99], [iI .u8 107], [iI .u8 115], [iI .u8 32], [iI .u8 48], [iI .u8 32], [iI .u8 109], [iI .u8 97], [iI .u8 114], [iI .u8 107], [iI .u8 32], [iI .u8 48], [iI .u8 32], [iI .u8 109], [iI .u8 111], [iI .u8 114], [iI .u8 101], [iI .u8 32], [iI .u8 102], [iI .u8 97], [iI .u8 108], [iI .u8 115], [iI .u8 101], [iI .u8 32], [iI .u8 114], [iI .u8 101], [iI .u8 97], [iI .u8 100], [iI .u8 111], [iI .u8 110], [iI .u8 108], [iI .u8 121], [iI .u8 32]]))]) := by
  refine Fn.bodyK [0, 1] Tryz.func118 rfl rfl (fun Γ hP hn => ?_)
  have hm : Tryz.prog.follows .mixedOrders = true := by kernel_rfl
  replace hn : Γ.n = 20 := hn
  refine sR hP hn hm [(4, .more (xPtrNil false))] [(6, bV false)] [0, 6] [] [0, 1] [false = false] ⟨rfl, trivial⟩ ?_
  refine AWp.cond false (by kernel_rfl) (fun h => nomatch h) (fun _ => ?_)
  refine sO hP hn hm [(5, .more xPtrSame)] [(19, bV false)] [19] [] [0, 1] ?_
  refine AWp.cond false (by kernel_rfl) (fun h => nomatch h) (fun _ => ?_)
  refine AWp.skip ?_
  exact rl (.inr rfl) rfl (by kernel_rfl) (by kernel_rfl)
theorem cx138_WriteString : Pv.Fn Tryz.prog 68 [.ptr 0 0 0, sV (⟨#[102, 97, 108, 115, 101]⟩ : ByteArray)] [(0, some (.box 141 [.ptr 0 0 0, .own 1])), (1, some (.row 1 5 [[iI .u8 115], [iI .u8 101], [iI .u8 114], [iI .u8 105], [iI .u8 101], [iI .u8 115], [iI .u8 32], [iI .u8 48], [iI .u8 32], [iI .u8 104], [iI .u8 101], [iI .u8 97], [iI .u8 100], [iI .u8 32], [iI .u8 48], [iI .u8 32], [iI .u8 98], [iI .u8 108], [iI .u8 111], [iI .u8 99], [iI .u8 107], [iI .u8 115], [iI .u8 32], [iI .u8 48], [iI .u8 32], [iI .u8 109], [iI .u8 97], [iI .u8 114], [iI .u8 107], [iI .u8 32], [iI .u8 48], [iI .u8 32], [iI .u8 109], [iI .u8 111], [iI .u8 114], [iI .u8 101], [iI .u8 32], [iI .u8 102], [iI .u8 97], [iI .u8 108], [iI .u8 115], [iI .u8 101], [iI .u8 32], [iI .u8 114], [iI .u8 101], [iI .u8 97], [iI .u8 100], [iI .u8 111], [iI .u8 110], [iI .u8 108], [iI .u8 121], [iI .u8 32]]))] 2 (fun x o => x = .tup [iV .i64 5, .im (.sc (.nilIface))] ∧ o = [(0, some (.box 141 [.ptr 0 0 0, .own 2])), (1, none), (2, some (.row 1 5 [[iI .u8 115], [iI .u8 101], [iI .u8 114], [iI .u8 105], [iI .u8 101], [iI .u8 115], [iI .u8 32], [iI .u8 48], [iI .u8 32], [iI .u8 104], [iI .u8 101], [iI .u8 97], [iI .u8 100], [iI .u8 32], [iI .u8 48], [iI .u8 32], [iI .u8 98], [iI .u8 108], [iI .u8 111], [iI .u8 99], [iI .u8 107], [iI .u8 115], [iI .u8 32], [iI .u8 48], [iI .u8 32], [iI .u8 109], [iI .u8 97], [iI .u8 114], [iI .u8 107], [iI .u8 32], [iI .u8 48], [iI .u8 32], [iI .u8 109], [iI .u8 111], [iI .u8 114], [iI .u8 101], [iI .u8 32], [iI .u8 102], [iI .u8 97], [iI .u8 108], [iI .u8 115], [iI .u8 101], [iI .u8 32], [iI .u8 114], [iI .u8 101], [iI .u8 97], [iI .u8 100], [iI .u8 111], [iI .u8 110], [iI .u8 108], [iI .u8 121], [iI .u8 32], [iI .u8 102], [iI .u8 97], [iI .u8 108], [iI .u8 115], [iI .u8 101]]))]) := by
  refine Fn.bodyK [0, 1, 2] Tryz.func68 rfl rfl (fun Γ hP hn => ?_)
  have hm : Tryz.prog.follows .mixedOrders = true := by kernel_rfl
  replace hn : Γ.n = 19 := hn
  refine sO hP hn hm [] [] [0, 1] [] [0, 1] ?_
  refine sR hP hn hm [(1, .callz [(0, 0), (1, 1)] [(0, 0), (1, 1)] [] [] 2 (.tup []) [(0, some (.box 141 [.ptr 0 0 0, .own 1])), (1, some (.row 1 5 [[iI .u8 115], [iI .u8 101], [iI .u8 114], [iI .u8 105], [iI .u8 101], [iI .u8 115], [iI .u8 32], [iI .u8 48], [iI .u8 32], [iI .u8 104], [iI .u8 101], [iI .u8 97], [iI .u8 100], [iI .u8 32], [iI .u8 48], [iI .u8 32], [iI .u8 98], [iI .u8 108], [iI .u8 111], [iI .u8 99], [iI .u8 107], [iI .u8 115], [iI .u8 32], [iI .u8 48], [iI .u8 32], [iI .u8 109], [iI .u8 97], [iI .u8 114], [iI .u8 107], [iI .u8 32], [iI .u8 48], [iI .u8 32], [iI .u8 109], [iI .u8 111], [iI .u8 114], [iI .u8 101], [iI .u8 32], [iI .u8 102], [iI .u8 97], [iI .u8 108], [iI .u8 115], [iI .u8 101], [iI .u8 32], [iI .u8 114], [iI .u8 101], [iI .u8 97], [iI .u8 100], [iI .u8 111], [iI .u8 110], [iI .u8 108], [iI .u8 121], [iI .u8 32]]))])] [] [0, 1] [] [0, 1] [_, _] ⟨Tryz.call118, cx137_copyCheck, trivial⟩ ?_
  refine sR hP hn hm [(6, .more (xAppStr 2 [[iI .u8 115], [iI .u8 101], [iI .u8 114], [iI .u8 105], [iI .u8 101], [iI .u8 115], [iI .u8 32], [iI .u8 48], [iI .u8 32], [iI .u8 104], [iI .u8 101], [iI .u8 97], [iI .u8 100], [iI .u8 32], [iI .u8 48], [iI .u8 32], [iI .u8 98], [iI .u8 108], [iI .u8 111], [iI .u8 99], [iI .u8 107], [iI .u8 115], [iI .u8 32], [iI .u8 48], [iI .u8 32], [iI .u8 109], [iI .u8 97], [iI .u8 114], [iI .u8 107], [iI .u8 32], [iI .u8 48], [iI .u8 32], [iI .u8 109], [iI .u8 111], [iI .u8 114], [iI .u8 101], [iI .u8 32], [iI .u8 102], [iI .u8 97], [iI .u8 108], [iI .u8 115], [iI .u8 101], [iI .u8 32], [iI .u8 114], [iI .u8 101], [iI .u8 97], [iI .u8 100], [iI .u8 111], [iI .u8 110], [iI .u8 108], [iI .u8 121], [iI .u8 32], [iI .u8 102], [iI .u8 97], [iI .u8 108], [iI .u8 115], [iI .u8 101]]))] [] [1] [(0, some (.box 141 [.ptr 0 0 0, .own 2])), (2, some (.row 1 5 [[iI .u8 115], [iI .u8 101], [iI .u8 114], [iI .u8 105], [iI .u8 101], [iI .u8 115], [iI .u8 32], [iI .u8 48], [iI .u8 32], [iI .u8 104], [iI .u8 101], [iI .u8 97], [iI .u8 100], [iI .u8 32], [iI .u8 48], [iI .u8 32], [iI .u8 98], [iI .u8 108], [iI .u8 111], [iI .u8 99], [iI .u8 107], [iI .u8 115], [iI .u8 32], [iI .u8 48], [iI .u8 32], [iI .u8 109], [iI .u8 97], [iI .u8 114], [iI .u8 107], [iI .u8 32], [iI .u8 48], [iI .u8 32], [iI .u8 109], [iI .u8 111], [iI .u8 114], [iI .u8 101], [iI .u8 32], [iI .u8 102], [iI .u8 97], [iI .u8 108], [iI .u8 115], [iI .u8 101], [iI .u8 32], [iI .u8 114], [iI .u8 101], [iI .u8 97], [iI .u8 100], [iI .u8 111], [iI .u8 110], [iI .u8 108], [iI .u8 121], [iI .u8 32], [iI .u8 102], [iI .u8 97], [iI .u8 108], [iI .u8 115], [iI .u8 101]]))] [0, 2] [([[iI .u8 115], [iI .u8 101], [iI .u8 114], [iI .u8 105], [iI .u8 101], [iI .u8 115], [iI .u8 32], [iI .u8 48], [iI .u8 32], [iI .u8 104], [iI .u8 101], [iI .u8 97], [iI .u8 100], [iI .u8 32], [iI .u8 48], [iI .u8 32], [iI .u8 98], [iI .u8 108], [iI .u8 111], [iI .u8 99], [iI .u8 107], [iI .u8 115], [iI .u8 32], [iI .u8 48], [iI .u8 32], [iI .u8 109], [iI .u8 97], [iI .u8 114], [iI .u8 107], [iI .u8 32], [iI .u8 48], [iI .u8 32], [iI .u8 109], [iI .u8 111], [iI .u8 114], [iI .u8 101], [iI .u8 32], [iI .u8 102], [iI .u8 97], [iI .u8 108], [iI .u8 115], [iI .u8 101], [iI .u8 32], [iI .u8 114], [iI .u8 101], [iI .u8 97], [iI .u8 100], [iI .u8 111], [iI .u8 110], [iI .u8 108], [iI .u8 121], [iI .u8 32], [iI .u8 102], [iI .u8 97], [iI .u8 108], [iI .u8 115], [iI .u8 101]] : List (List Im)) = ([[iI .u8 115], [iI .u8 101], [iI .u8 114], [iI .u8 105], [iI .u8 101], [iI .u8 115], [iI .u8 32], [iI .u8 48], [iI .u8 32], [iI .u8 104], [iI .u8 101], [iI .u8 97], [iI .u8 100], [iI .u8 32], [iI .u8 48], [iI .u8 32], [iI .u8 98], [iI .u8 108], [iI .u8 111], [iI .u8 99], [iI .u8 107], [iI .u8 115], [iI .u8 32], [iI .u8 48], [iI .u8 32], [iI .u8 109], [iI .u8 97], [iI .u8 114], [iI .u8 107], [iI .u8 32], [iI .u8 48], [iI .u8 32], [iI .u8 109], [iI .u8 111], [iI .u8 114], [iI .u8 101], [iI .u8 32], [iI .u8 102], [iI .u8 97], [iI .u8 108], [iI .u8 115], [iI .u8 101], [iI .u8 32], [iI .u8 114], [iI .u8 101], [iI .u8 97], [iI .u8 100], [iI .u8 111], [iI .u8 110], [iI .u8 108], [iI .u8 121], [iI .u8 32]] : List (List Im)) ++ (bytesL (⟨#[102, 97, 108, 115, 101]⟩ : ByteArray)).map (encInt .u8), (([[iI .u8 115], [iI .u8 101], [iI .u8 114], [iI .u8 105], [iI .u8 101], [iI .u8 115], [iI .u8 32], [iI .u8 48], [iI .u8 32], [iI .u8 104], [iI .u8 101], [iI .u8 97], [iI .u8 100], [iI .u8 32], [iI .u8 48], [iI .u8 32], [iI .u8 98], [iI .u8 108], [iI .u8 111], [iI .u8 99], [iI .u8 107], [iI .u8 115], [iI .u8 32], [iI .u8 48], [iI .u8 32], [iI .u8 109], [iI .u8 97], [iI .u8 114], [iI .u8 107], [iI .u8 32], [iI .u8 48], [iI .u8 32], [iI .u8 109], [iI .u8 111], [iI .u8 114], [iI .u8 101], [iI .u8 32], [iI .u8 102], [iI .u8 97], [iI .u8 108], [iI .u8 115], [iI .u8 101], [iI .u8 32], [iI .u8 114], [iI .u8 101], [iI .u8 97], [iI .u8 100], [iI .u8 111], [iI .u8 110], [iI .u8 108], [iI .u8 121], [iI .u8 32]] : List (List Im)).length + (⟨#[102, 97, 108, 115, 101]⟩ : ByteArray).size) * 1 ≤ 140737488355328] ⟨by kernel_rfl, by decide, trivial⟩ ?_
  refine sO hP hn hm [] [(4, iV .i64 5), (5, .im (.sc (.nilIface)))] [4, 5] [] [0, 2] ?_
  refine AWp.ret ?_
  exact rl (.inl rfl) rfl (by kernel_rfl) (by kernel_rfl)
theorem cx139_String : Pv.Fn Tryz.prog 69 [.ptr 0 0 0] [(0, some (.box 141 [.ptr 0 0 0, .own 1])), (1, some (.row 1 5 [[iI .u8 115], [iI .u8 101], [iI .u8 114], [iI .u8 105], [iI .u8 101], [iI .u8 115], [iI .u8 32], [iI .u8 48], [iI .u8 32], [iI .u8 104], [iI .u8 101], [iI .u8 97], [iI .u8 100], [iI .u8 32], [iI .u8 48], [iI .u8 32], [iI .u8 98], [iI .u8 108], [iI .u8 111], [iI .u8 99], [iI .u8 107], [iI .u8 115], [iI .u8 32], [iI .u8 48], [iI .u8 32], [iI .u8 109], [iI .u8 97], [iI .u8 114], [iI .u8 107], [iI .u8 32], [iI .u8 48], [iI .u8 32], [iI .u8 109], [iI .u8 111], [iI .u8 114], [iI .u8 101], [iI .u8 32], [iI .u8 102], [iI .u8 97], [iI .u8 108], [iI .u8 115], [iI .u8 101], [iI .u8 32], [iI .u8 114], [iI .u8 101], [iI .u8 97], [iI .u8 100], [iI .u8 111], [iI .u8 110], [iI .u8 108], [iI .u8 121], [iI .u8 32], [iI .u8 102], [iI .u8 97], [iI .u8 108], [iI .u8 115], [iI .u8 101]]))] 2 (fun x o => x = sV (⟨#[115, 101, 114, 105, 101, 115, 32, 48, 32, 104, 101, 97, 100, 32, 48, 32, 98, 108, 111, 99, 107, 115, 32, 48, 32, 109, 97, 114, 107, 32, 48, 32, 109, 111, 114, 101, 32, 102, 97, 108, 115, 101, 32, 114, 101, 97, 100, 111, 110, 108, 121, 32, 102, 97, 108, 115, 101]⟩ : ByteArray) ∧ o = [(0, some (.box 141 [.ptr 0 0 0, .own 1])), (1, none)]) := by
  refine Fn.bodyK [0, 1] Tryz.func69 rfl rfl (fun Γ hP hn => ?_)
  have hm : Tryz.prog.follows .mixedOrders = true := by kernel_rfl
  replace hn : Γ.n = 14 := hn
  refine sO hP hn hm [] [] [0] [] [0, 1] ?_
  refine sR hP hn hm [(4, .more xSliceData), (10, .more (xUString ([115, 101, 114, 105, 101, 115, 32, 48, 32, 104, 101, 97, 100, 32, 48, 32, 98, 108, 111, 99, 107, 115, 32, 48, 32, 109, 97, 114, 107, 32, 48, 32, 109, 111, 114, 101, 32, 102, 97, 108, 115, 101, 32, 114, 101, 97, 100, 111, 110, 108, 121, 32, 102, 97, 108, 115, 101] : List Int)))] [(2, sV (⟨#[115, 101, 114, 105, 101, 115, 32, 48, 32, 104, 101, 97, 100, 32, 48, 32, 98, 108, 111, 99, 107, 115, 32, 48, 32, 109, 97, 114, 107, 32, 48, 32, 109, 111, 114, 101, 32, 102, 97, 108, 115, 101, 32, 114, 101, 97, 100, 111, 110, 108, 121, 32, 102, 97, 108, 115, 101]⟩ : ByteArray))] [2] [] [0] [([[iI .u8 115], [iI .u8 101], [iI .u8 114], [iI .u8 105], [iI .u8 101], [iI .u8 115], [iI .u8 32], [iI .u8 48], [iI .u8 32], [iI .u8 104], [iI .u8 101], [iI .u8 97], [iI .u8 100], [iI .u8 32], [iI .u8 48], [iI .u8 32], [iI .u8 98], [iI .u8 108], [iI .u8 111], [iI .u8 99], [iI .u8 107], [iI .u8 115], [iI .u8 32], [iI .u8 48], [iI .u8 32], [iI .u8 109], [iI .u8 97], [iI .u8 114], [iI .u8 107], [iI .u8 32], [iI .u8 48], [iI .u8 32], [iI .u8 109], [iI .u8 111], [iI .u8 114], [iI .u8 101], [iI .u8 32], [iI .u8 102], [iI .u8 97], [iI .u8 108], [iI .u8 115], [iI .u8 101], [iI .u8 32], [iI .u8 114], [iI .u8 101], [iI .u8 97], [iI .u8 100], [iI .u8 111], [iI .u8 110], [iI .u8 108], [iI .u8 121], [iI .u8 32], [iI .u8 102], [iI .u8 97], [iI .u8 108], [iI .u8 115], [iI .u8 101]] : List (List Im)) ≠ [], [[iI .u8 115], [iI .u8 101], [iI .u8 114], [iI .u8 105], [iI .u8 101], [iI .u8 115], [iI .u8 32], [iI .u8 48], [iI .u8 32], [iI .u8 104], [iI .u8 101], [iI .u8 97], [iI .u8 100], [iI .u8 32], [iI .u8 48], [iI .u8 32], [iI .u8 98], [iI .u8 108], [iI .u8 111], [iI .u8 99], [iI .u8 107], [iI .u8 115], [iI .u8 32], [iI .u8 48], [iI .u8 32], [iI .u8 109], [iI .u8 97], [iI .u8 114], [iI .u8 107], [iI .u8 32], [iI .u8 48], [iI .u8 32], [iI .u8 109], [iI .u8 111], [iI .u8 114], [iI .u8 101], [iI .u8 32], [iI .u8 102], [iI .u8 97], [iI .u8 108], [iI .u8 115], [iI .u8 101], [iI .u8 32], [iI .u8 114], [iI .u8 101], [iI .u8 97], [iI .u8 100], [iI .u8 111], [iI .u8 110], [iI .u8 108], [iI .u8 121], [iI .u8 32], [iI .u8 102], [iI .u8 97], [iI .u8 108], [iI .u8 115], [iI .u8 101]] = ([115, 101, 114, 105, 101, 115, 32, 48, 32, 104, 101, 97, 100, 32, 48, 32, 98, 108, 111, 99, 107, 115, 32, 48, 32, 109, 97, 114, 107, 32, 48, 32, 109, 111, 114, 101, 32, 102, 97, 108, 115, 101, 32, 114, 101, 97, 100, 111, 110, 108, 121, 32, 102, 97, 108, 115, 101] : List Int).map (encInt .u8), (57 : Int) = (([115, 101, 114, 105, 101, 115, 32, 48, 32, 104, 101, 97, 100, 32, 48, 32, 98, 108, 111, 99, 107, 115, 32, 48, 32, 109, 97, 114, 107, 32, 48, 32, 109, 111, 114, 101, 32, 102, 97, 108, 115, 101, 32, 114, 101, 97, 100, 111, 110, 108, 121, 32, 102, 97, 108, 115, 101] : List Int).length : Int), ([115, 101, 114, 105, 101, 115, 32, 48, 32, 104, 101, 97, 100, 32, 48, 32, 98, 108, 111, 99, 107, 115, 32, 48, 32, 109, 97, 114, 107, 32, 48, 32, 109, 111, 114, 101, 32, 102, 97, 108, 115, 101, 32, 114, 101, 97, 100, 111, 110, 108, 121, 32, 102, 97, 108, 115, 101] : List Int) ≠ [] ∧ ([115, 101, 114, 105, 101, 115, 32, 48, 32, 104, 101, 97, 100, 32, 48, 32, 98, 108, 111, 99, 107, 115, 32, 48, 32, 109, 97, 114, 107, 32, 48, 32, 109, 111, 114, 101, 32, 102, 97, 108, 115, 101, 32, 114, 101, 97, 100, 111, 110, 108, 121, 32, 102, 97, 108, 115, 101] : List Int).length ≤ 9223372036854775807 ∧ bytesOK ([115, 101, 114, 105, 101, 115, 32, 48, 32, 104, 101, 97, 100, 32, 48, 32, 98, 108, 111, 99, 107, 115, 32, 48, 32, 109, 97, 114, 107, 32, 48, 32, 109, 111, 114, 101, 32, 102, 97, 108, 115, 101, 32, 114, 101, 97, 100, 111, 110, 108, 121, 32, 102, 97, 108, 115, 101] : List Int)] ⟨by simp, rfl, rfl, by simp [bytesOK], trivial⟩ ?_
  refine AWp.ret ?_
  exact rl (.inl rfl) rfl (by kernel_rfl) (by kernel_rfl)
end Go.Proofs.YtppfbpckgfkhfaaGreatDoor.PvGO
