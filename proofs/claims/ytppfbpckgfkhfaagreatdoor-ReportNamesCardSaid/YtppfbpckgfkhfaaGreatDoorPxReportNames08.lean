import Derived.Test.YtppfbpckgfkhfaaGreatDoorProg
import Derived.Test.YtppfbpckgfkhfaaGreatDoorPxReportNames07
set_option linter.unusedVariables false
set_option linter.unnecessarySimpa false
set_option linter.unusedSimpArgs false
set_option maxRecDepth 10000
namespace Go.Proofs.YtppfbpckgfkhfaaGreatDoor.PvGO
open Go Go.Pv
theorem cx140_Join : Pv.Fn Tryz.prog 45 [.im (.row [[sI (⟨#[115, 101, 114, 105, 101, 115]⟩ : ByteArray)], [sI (⟨#[48]⟩ : ByteArray)], [sI (⟨#[104, 101, 97, 100]⟩ : ByteArray)], [sI (⟨#[48]⟩ : ByteArray)], [sI (⟨#[98, 108, 111, 99, 107, 115]⟩ : ByteArray)], [sI (⟨#[48]⟩ : ByteArray)], [sI (⟨#[109, 97, 114, 107]⟩ : ByteArray)], [sI (⟨#[48]⟩ : ByteArray)], [sI (⟨#[109, 111, 114, 101]⟩ : ByteArray)], [sI (⟨#[102, 97, 108, 115, 101]⟩ : ByteArray)], [sI (⟨#[114, 101, 97, 100, 111, 110, 108, 121]⟩ : ByteArray)], [sI (⟨#[102, 97, 108, 115, 101]⟩ : ByteArray)]]), sV (⟨#[32]⟩ : ByteArray)] [] 0 (fun x o => x = sV (⟨#[115, 101, 114, 105, 101, 115, 32, 48, 32, 104, 101, 97, 100, 32, 48, 32, 98, 108, 111, 99, 107, 115, 32, 48, 32, 109, 97, 114, 107, 32, 48, 32, 109, 111, 114, 101, 32, 102, 97, 108, 115, 101, 32, 114, 101, 97, 100, 111, 110, 108, 121, 32, 102, 97, 108, 115, 101]⟩ : ByteArray) ∧ o = []) := by
  refine Fn.bodyK [] Tryz.func45 rfl rfl (fun Γ hP hn => ?_)
  have hm : Tryz.prog.follows .mixedOrders = true := by kernel_rfl
  replace hn : Γ.n = 75 := hn
  refine sO hP hn hm [] [] [0, 1] [] [] ?_
  refine AWp.seq ?_
  refine sO hP hn hm [] [(12, iV .i64 12)] [0, 1, 12] [] [] ?_
  refine AWp.block ?_
  refine sO hP hn hm [] [(13, bV false)] [0, 1, 12, 13] [] [] ?_
  refine AWp.cond false (by kernel_rfl) (fun h => nomatch h) (fun _ => ?_)
  refine sO hP hn hm [] [(15, bV false)] [0, 1, 15] [] [] ?_
  refine AWp.cond false (by kernel_rfl) (fun h => nomatch h) (fun _ => ?_)
  refine AWp.skip ?_
  show AWp Γ _ _ _
  refine sO hP hn hm [] [(5, iV .i64 0)] [0, 1, 5] [] [] ?_
  refine AWp.seq ?_
  refine sO hP hn hm [] [(22, bV true)] [0, 1, 5, 22] [] [] ?_
  refine AWp.cond true (by kernel_rfl) (fun _ => ?_) (fun h => nomatch h)
  refine AWp.seq ?_
  refine sR hP hn hm [] [(29, bV false)] [0, 1, 5, 29] [] [] [(11 : Int) ≠ 0] ⟨by decide, trivial⟩ ?_
  refine AWp.cond false (by kernel_rfl) (fun h => nomatch h) (fun _ => ?_)
  refine AWp.skip ?_
  show AWp Γ _ _ _
  refine rO hP hn hm [] [(5, iV .i64 11)] [0, 1, 5] [] [] ?_
  show AWp Γ _ _ _
  refine AWp.seq ?_
  refine sO hP hn hm [] [(39, .im (.row [[sI (⟨#[115, 101, 114, 105, 101, 115]⟩ : ByteArray)], [sI (⟨#[48]⟩ : ByteArray)], [sI (⟨#[104, 101, 97, 100]⟩ : ByteArray)], [sI (⟨#[48]⟩ : ByteArray)], [sI (⟨#[98, 108, 111, 99, 107, 115]⟩ : ByteArray)], [sI (⟨#[48]⟩ : ByteArray)], [sI (⟨#[109, 97, 114, 107]⟩ : ByteArray)], [sI (⟨#[48]⟩ : ByteArray)], [sI (⟨#[109, 111, 114, 101]⟩ : ByteArray)], [sI (⟨#[102, 97, 108, 115, 101]⟩ : ByteArray)], [sI (⟨#[114, 101, 97, 100, 111, 110, 108, 121]⟩ : ByteArray)], [sI (⟨#[102, 97, 108, 115, 101]⟩ : ByteArray)]])), (40, iV .i64 12), (41, iV .i64 0)] [0, 1, 5, 39, 40, 41] [] [] ?_
  refine AWp.block ?_
  refine AWp.loop ?_
  refine LWp.round ?_
  refine sO hP hn hm [] [(42, bV true)] [0, 1, 5, 39, 40, 41, 42] [] [] ?_
  refine AWp.seq ?_
  refine AWp.cond true (by kernel_rfl) (fun _ => ?_) (fun h => nomatch h)
  refine AWp.skip ?_
  show AWp Γ _ _ _
  refine AWp.seq ?_
  refine AWp.block ?_
  refine sR hP hn hm [(0, .c [sI (⟨#[115, 101, 114, 105, 101, 115]⟩ : ByteArray)])] [(7, sV (⟨#[115, 101, 114, 105, 101, 115]⟩ : ByteArray))] [0, 1, 5, 7, 39, 40, 41] [] [] [(0 : Int) ≤ 0, ([[sI (⟨#[115, 101, 114, 105, 101, 115]⟩ : ByteArray)], [sI (⟨#[48]⟩ : ByteArray)], [sI (⟨#[104, 101, 97, 100]⟩ : ByteArray)], [sI (⟨#[48]⟩ : ByteArray)], [sI (⟨#[98, 108, 111, 99, 107, 115]⟩ : ByteArray)], [sI (⟨#[48]⟩ : ByteArray)], [sI (⟨#[109, 97, 114, 107]⟩ : ByteArray)], [sI (⟨#[48]⟩ : ByteArray)], [sI (⟨#[109, 111, 114, 101]⟩ : ByteArray)], [sI (⟨#[102, 97, 108, 115, 101]⟩ : ByteArray)], [sI (⟨#[114, 101, 97, 100, 111, 110, 108, 121]⟩ : ByteArray)], [sI (⟨#[102, 97, 108, 115, 101]⟩ : ByteArray)]] : List (List Im))[0]? = some [sI (⟨#[115, 101, 114, 105, 101, 115]⟩ : ByteArray)]] ⟨by decide, rfl, trivial⟩ ?_
  refine AWp.seq ?_
  refine sO hP hn hm [] [(49, bV false)] [0, 1, 5, 7, 39, 40, 41, 49] [] [] ?_
  refine AWp.cond false (by kernel_rfl) (fun h => nomatch h) (fun _ => ?_)
  refine AWp.skip ?_
  show AWp Γ _ _ _
  refine rO hP hn hm [] [(5, iV .i64 17)] [0, 1, 5, 39, 40, 41] [] [] ?_
  show AWp Γ _ _ _
  refine rO hP hn hm [] [(41, iV .i64 1)] [0, 1, 5, 39, 40, 41] [] [] ?_
  show LWp Γ _ _ _
  refine LWp.round ?_
  refine sO hP hn hm [] [(42, bV true)] [0, 1, 5, 39, 40, 41, 42] [] [] ?_
  refine AWp.seq ?_
  refine AWp.cond true (by kernel_rfl) (fun _ => ?_) (fun h => nomatch h)
  refine AWp.skip ?_
  show AWp Γ _ _ _
  refine AWp.seq ?_
  refine AWp.block ?_
  refine sR hP hn hm [(0, .c [sI (⟨#[48]⟩ : ByteArray)])] [(7, sV (⟨#[48]⟩ : ByteArray))] [0, 1, 5, 7, 39, 40, 41] [] [] [(0 : Int) ≤ 1, ([[sI (⟨#[115, 101, 114, 105, 101, 115]⟩ : ByteArray)], [sI (⟨#[48]⟩ : ByteArray)], [sI (⟨#[104, 101, 97, 100]⟩ : ByteArray)], [sI (⟨#[48]⟩ : ByteArray)], [sI (⟨#[98, 108, 111, 99, 107, 115]⟩ : ByteArray)], [sI (⟨#[48]⟩ : ByteArray)], [sI (⟨#[109, 97, 114, 107]⟩ : ByteArray)], [sI (⟨#[48]⟩ : ByteArray)], [sI (⟨#[109, 111, 114, 101]⟩ : ByteArray)], [sI (⟨#[102, 97, 108, 115, 101]⟩ : ByteArray)], [sI (⟨#[114, 101, 97, 100, 111, 110, 108, 121]⟩ : ByteArray)], [sI (⟨#[102, 97, 108, 115, 101]⟩ : ByteArray)]] : List (List Im))[1]? = some [sI (⟨#[48]⟩ : ByteArray)]] ⟨by decide, rfl, trivial⟩ ?_
  refine AWp.seq ?_
  refine sO hP hn hm [] [(49, bV false)] [0, 1, 5, 7, 39, 40, 41, 49] [] [] ?_
  refine AWp.cond false (by kernel_rfl) (fun h => nomatch h) (fun _ => ?_)
  refine AWp.skip ?_
  show AWp Γ _ _ _
  refine rO hP hn hm [] [(5, iV .i64 18)] [0, 1, 5, 39, 40, 41] [] [] ?_
  show AWp Γ _ _ _
  refine rO hP hn hm [] [(41, iV .i64 2)] [0, 1, 5, 39, 40, 41] [] [] ?_
  show LWp Γ _ _ _
  refine LWp.round ?_
  refine sO hP hn hm [] [(42, bV true)] [0, 1, 5, 39, 40, 41, 42] [] [] ?_
  refine AWp.seq ?_
  refine AWp.cond true (by kernel_rfl) (fun _ => ?_) (fun h => nomatch h)
  refine AWp.skip ?_
  show AWp Γ _ _ _
  refine AWp.seq ?_
  refine AWp.block ?_
  refine sR hP hn hm [(0, .c [sI (⟨#[104, 101, 97, 100]⟩ : ByteArray)])] [(7, sV (⟨#[104, 101, 97, 100]⟩ : ByteArray))] [0, 1, 5, 7, 39, 40, 41] [] [] [(0 : Int) ≤ 2, ([[sI (⟨#[115, 101, 114, 105, 101, 115]⟩ : ByteArray)], [sI (⟨#[48]⟩ : ByteArray)], [sI (⟨#[104, 101, 97, 100]⟩ : ByteArray)], [sI (⟨#[48]⟩ : ByteArray)], [sI (⟨#[98, 108, 111, 99, 107, 115]⟩ : ByteArray)], [sI (⟨#[48]⟩ : ByteArray)], [sI (⟨#[109, 97, 114, 107]⟩ : ByteArray)], [sI (⟨#[48]⟩ : ByteArray)], [sI (⟨#[109, 111, 114, 101]⟩ : ByteArray)], [sI (⟨#[102, 97, 108, 115, 101]⟩ : ByteArray)], [sI (⟨#[114, 101, 97, 100, 111, 110, 108, 121]⟩ : ByteArray)], [sI (⟨#[102, 97, 108, 115, 101]⟩ : ByteArray)]] : List (List Im))[2]? = some [sI (⟨#[104, 101, 97, 100]⟩ : ByteArray)]] ⟨by decide, rfl, trivial⟩ ?_
  refine AWp.seq ?_
  refine sO hP hn hm [] [(49, bV false)] [0, 1, 5, 7, 39, 40, 41, 49] [] [] ?_
  refine AWp.cond false (by kernel_rfl) (fun h => nomatch h) (fun _ => ?_)
  refine AWp.skip ?_
  show AWp Γ _ _ _
  refine rO hP hn hm [] [(5, iV .i64 22)] [0, 1, 5, 39, 40, 41] [] [] ?_
  show AWp Γ _ _ _
  refine rO hP hn hm [] [(41, iV .i64 3)] [0, 1, 5, 39, 40, 41] [] [] ?_
  show LWp Γ _ _ _
  refine LWp.round ?_
  refine sO hP hn hm [] [(42, bV true)] [0, 1, 5, 39, 40, 41, 42] [] [] ?_
  refine AWp.seq ?_
  refine AWp.cond true (by kernel_rfl) (fun _ => ?_) (fun h => nomatch h)
  refine AWp.skip ?_
  show AWp Γ _ _ _
  refine AWp.seq ?_
  refine AWp.block ?_
  refine sR hP hn hm [(0, .c [sI (⟨#[48]⟩ : ByteArray)])] [(7, sV (⟨#[48]⟩ : ByteArray))] [0, 1, 5, 7, 39, 40, 41] [] [] [(0 : Int) ≤ 3, ([[sI (⟨#[115, 101, 114, 105, 101, 115]⟩ : ByteArray)], [sI (⟨#[48]⟩ : ByteArray)], [sI (⟨#[104, 101, 97, 100]⟩ : ByteArray)], [sI (⟨#[48]⟩ : ByteArray)], [sI (⟨#[98, 108, 111, 99, 107, 115]⟩ : ByteArray)], [sI (⟨#[48]⟩ : ByteArray)], [sI (⟨#[109, 97, 114, 107]⟩ : ByteArray)], [sI (⟨#[48]⟩ : ByteArray)], [sI (⟨#[109, 111, 114, 101]⟩ : ByteArray)], [sI (⟨#[102, 97, 108, 115, 101]⟩ : ByteArray)], [sI (⟨#[114, 101, 97, 100, 111, 110, 108, 121]⟩ : ByteArray)], [sI (⟨#[102, 97, 108, 115, 101]⟩ : ByteArray)]] : List (List Im))[3]? = some [sI (⟨#[48]⟩ : ByteArray)]] ⟨by decide, rfl, trivial⟩ ?_
  refine AWp.seq ?_
  refine sO hP hn hm [] [(49, bV false)] [0, 1, 5, 7, 39, 40, 41, 49] [] [] ?_
  refine AWp.cond false (by kernel_rfl) (fun h => nomatch h) (fun _ => ?_)
  refine AWp.skip ?_
  show AWp Γ _ _ _
  refine rO hP hn hm [] [(5, iV .i64 23)] [0, 1, 5, 39, 40, 41] [] [] ?_
  show AWp Γ _ _ _
  refine rO hP hn hm [] [(41, iV .i64 4)] [0, 1, 5, 39, 40, 41] [] [] ?_
  show LWp Γ _ _ _
  refine LWp.round ?_
  refine sO hP hn hm [] [(42, bV true)] [0, 1, 5, 39, 40, 41, 42] [] [] ?_
  refine AWp.seq ?_
  refine AWp.cond true (by kernel_rfl) (fun _ => ?_) (fun h => nomatch h)
  refine AWp.skip ?_
  show AWp Γ _ _ _
  refine AWp.seq ?_
  refine AWp.block ?_
  refine sR hP hn hm [(0, .c [sI (⟨#[98, 108, 111, 99, 107, 115]⟩ : ByteArray)])] [(7, sV (⟨#[98, 108, 111, 99, 107, 115]⟩ : ByteArray))] [0, 1, 5, 7, 39, 40, 41] [] [] [(0 : Int) ≤ 4, ([[sI (⟨#[115, 101, 114, 105, 101, 115]⟩ : ByteArray)], [sI (⟨#[48]⟩ : ByteArray)], [sI (⟨#[104, 101, 97, 100]⟩ : ByteArray)], [sI (⟨#[48]⟩ : ByteArray)], [sI (⟨#[98, 108, 111, 99, 107, 115]⟩ : ByteArray)], [sI (⟨#[48]⟩ : ByteArray)], [sI (⟨#[109, 97, 114, 107]⟩ : ByteArray)], [sI (⟨#[48]⟩ : ByteArray)], [sI (⟨#[109, 111, 114, 101]⟩ : ByteArray)], [sI (⟨#[102, 97, 108, 115, 101]⟩ : ByteArray)], [sI (⟨#[114, 101, 97, 100, 111, 110, 108, 121]⟩ : ByteArray)], [sI (⟨#[102, 97, 108, 115, 101]⟩ : ByteArray)]] : List (List Im))[4]? = some [sI (⟨#[98, 108, 111, 99, 107, 115]⟩ : ByteArray)]] ⟨by decide, rfl, trivial⟩ ?_
  refine AWp.seq ?_
  refine sO hP hn hm [] [(49, bV false)] [0, 1, 5, 7, 39, 40, 41, 49] [] [] ?_
  refine AWp.cond false (by kernel_rfl) (fun h => nomatch h) (fun _ => ?_)
  refine AWp.skip ?_
  show AWp Γ _ _ _
  refine rO hP hn hm [] [(5, iV .i64 29)] [0, 1, 5, 39, 40, 41] [] [] ?_
  show AWp Γ _ _ _
  refine rO hP hn hm [] [(41, iV .i64 5)] [0, 1, 5, 39, 40, 41] [] [] ?_
  show LWp Γ _ _ _
  refine LWp.round ?_
  refine sO hP hn hm [] [(42, bV true)] [0, 1, 5, 39, 40, 41, 42] [] [] ?_
  refine AWp.seq ?_
  refine AWp.cond true (by kernel_rfl) (fun _ => ?_) (fun h => nomatch h)
  refine AWp.skip ?_
  show AWp Γ _ _ _
  refine AWp.seq ?_
  refine AWp.block ?_
  refine sR hP hn hm [(0, .c [sI (⟨#[48]⟩ : ByteArray)])] [(7, sV (⟨#[48]⟩ : ByteArray))] [0, 1, 5, 7, 39, 40, 41] [] [] [(0 : Int) ≤ 5, ([[sI (⟨#[115, 101, 114, 105, 101, 115]⟩ : ByteArray)], [sI (⟨#[48]⟩ : ByteArray)], [sI (⟨#[104, 101, 97, 100]⟩ : ByteArray)], [sI (⟨#[48]⟩ : ByteArray)], [sI (⟨#[98, 108, 111, 99, 107, 115]⟩ : ByteArray)], [sI (⟨#[48]⟩ : ByteArray)], [sI (⟨#[109, 97, 114, 107]⟩ : ByteArray)], [sI (⟨#[48]⟩ : ByteArray)], [sI (⟨#[109, 111, 114, 101]⟩ : ByteArray)], [sI (⟨#[102, 97, 108, 115, 101]⟩ : ByteArray)], [sI (⟨#[114, 101, 97, 100, 111, 110, 108, 121]⟩ : ByteArray)], [sI (⟨#[102, 97, 108, 115, 101]⟩ : ByteArray)]] : List (List Im))[5]? = some [sI (⟨#[48]⟩ : ByteArray)]] ⟨by decide, rfl, trivial⟩ ?_
  refine AWp.seq ?_
  refine sO hP hn hm [] [(49, bV false)] [0, 1, 5, 7, 39, 40, 41, 49] [] [] ?_
  refine AWp.cond false (by kernel_rfl) (fun h => nomatch h) (fun _ => ?_)
  refine AWp.skip ?_
  show AWp Γ _ _ _
  refine rO hP hn hm [] [(5, iV .i64 30)] [0, 1, 5, 39, 40, 41] [] [] ?_
  show AWp Γ _ _ _
  refine rO hP hn hm [] [(41, iV .i64 6)] [0, 1, 5, 39, 40, 41] [] [] ?_
  show LWp Γ _ _ _
  refine LWp.round ?_
  refine sO hP hn hm [] [(42, bV true)] [0, 1, 5, 39, 40, 41, 42] [] [] ?_
  refine AWp.seq ?_
  refine AWp.cond true (by kernel_rfl) (fun _ => ?_) (fun h => nomatch h)
  refine AWp.skip ?_
  show AWp Γ _ _ _
  refine AWp.seq ?_
  refine AWp.block ?_
  refine sR hP hn hm [(0, .c [sI (⟨#[109, 97, 114, 107]⟩ : ByteArray)])] [(7, sV (⟨#[109, 97, 114, 107]⟩ : ByteArray))] [0, 1, 5, 7, 39, 40, 41] [] [] [(0 : Int) ≤ 6, ([[sI (⟨#[115, 101, 114, 105, 101, 115]⟩ : ByteArray)], [sI (⟨#[48]⟩ : ByteArray)], [sI (⟨#[104, 101, 97, 100]⟩ : ByteArray)], [sI (⟨#[48]⟩ : ByteArray)], [sI (⟨#[98, 108, 111, 99, 107, 115]⟩ : ByteArray)], [sI (⟨#[48]⟩ : ByteArray)], [sI (⟨#[109, 97, 114, 107]⟩ : ByteArray)], [sI (⟨#[48]⟩ : ByteArray)], [sI (⟨#[109, 111, 114, 101]⟩ : ByteArray)], [sI (⟨#[102, 97, 108, 115, 101]⟩ : ByteArray)], [sI (⟨#[114, 101, 97, 100, 111, 110, 108, 121]⟩ : ByteArray)], [sI (⟨#[102, 97, 108, 115, 101]⟩ : ByteArray)]] : List (List Im))[6]? = some [sI (⟨#[109, 97, 114, 107]⟩ : ByteArray)]] ⟨by decide, rfl, trivial⟩ ?_
  refine AWp.seq ?_
  refine sO hP hn hm [] [(49, bV false)] [0, 1, 5, 7, 39, 40, 41, 49] [] [] ?_
  refine AWp.cond false (by kernel_rfl) (fun h => nomatch h) (fun _ => ?_)
  refine AWp.skip ?_
  show AWp Γ _ _ _
  refine rO hP hn hm [] [(5, iV .i64 34)] [0, 1, 5, 39, 40, 41] [] [] ?_
  show AWp Γ _ _ _
  refine rO hP hn hm [] [(41, iV .i64 7)] [0, 1, 5, 39, 40, 41] [] [] ?_
  show LWp Γ _ _ _
  refine LWp.round ?_
  refine sO hP hn hm [] [(42, bV true)] [0, 1, 5, 39, 40, 41, 42] [] [] ?_
  refine AWp.seq ?_
  refine AWp.cond true (by kernel_rfl) (fun _ => ?_) (fun h => nomatch h)
  refine AWp.skip ?_
  show AWp Γ _ _ _
  refine AWp.seq ?_
  refine AWp.block ?_
  refine sR hP hn hm [(0, .c [sI (⟨#[48]⟩ : ByteArray)])] [(7, sV (⟨#[48]⟩ : ByteArray))] [0, 1, 5, 7, 39, 40, 41] [] [] [(0 : Int) ≤ 7, ([[sI (⟨#[115, 101, 114, 105, 101, 115]⟩ : ByteArray)], [sI (⟨#[48]⟩ : ByteArray)], [sI (⟨#[104, 101, 97, 100]⟩ : ByteArray)], [sI (⟨#[48]⟩ : ByteArray)], [sI (⟨#[98, 108, 111, 99, 107, 115]⟩ : ByteArray)], [sI (⟨#[48]⟩ : ByteArray)], [sI (⟨#[109, 97, 114, 107]⟩ : ByteArray)], [sI (⟨#[48]⟩ : ByteArray)], [sI (⟨#[109, 111, 114, 101]⟩ : ByteArray)], [sI (⟨#[102, 97, 108, 115, 101]⟩ : ByteArray)], [sI (⟨#[114, 101, 97, 100, 111, 110, 108, 121]⟩ : ByteArray)], [sI (⟨#[102, 97, 108, 115, 101]⟩ : ByteArray)]] : List (List Im))[7]? = some [sI (⟨#[48]⟩ : ByteArray)]] ⟨by decide, rfl, trivial⟩ ?_
  refine AWp.seq ?_
  refine sO hP hn hm [] [(49, bV false)] [0, 1, 5, 7, 39, 40, 41, 49] [] [] ?_
  refine AWp.cond false (by kernel_rfl) (fun h => nomatch h) (fun _ => ?_)
  refine AWp.skip ?_
  show AWp Γ _ _ _
  refine rO hP hn hm [] [(5, iV .i64 35)] [0, 1, 5, 39, 40, 41] [] [] ?_
  show AWp Γ _ _ _
  refine rO hP hn hm [] [(41, iV .i64 8)] [0, 1, 5, 39, 40, 41] [] [] ?_
  show LWp Γ _ _ _
  refine LWp.round ?_
  refine sO hP hn hm [] [(42, bV true)] [0, 1, 5, 39, 40, 41, 42] [] [] ?_
  refine AWp.seq ?_
  refine AWp.cond true (by kernel_rfl) (fun _ => ?_) (fun h => nomatch h)
  refine AWp.skip ?_
  show AWp Γ _ _ _
  refine AWp.seq ?_
  refine AWp.block ?_
  refine sR hP hn hm [(0, .c [sI (⟨#[109, 111, 114, 101]⟩ : ByteArray)])] [(7, sV (⟨#[109, 111, 114, 101]⟩ : ByteArray))] [0, 1, 5, 7, 39, 40, 41] [] [] [(0 : Int) ≤ 8, ([[sI (⟨#[115, 101, 114, 105, 101, 115]⟩ : ByteArray)], [sI (⟨#[48]⟩ : ByteArray)], [sI (⟨#[104, 101, 97, 100]⟩ : ByteArray)], [sI (⟨#[48]⟩ : ByteArray)], [sI (⟨#[98, 108, 111, 99, 107, 115]⟩ : ByteArray)], [sI (⟨#[48]⟩ : ByteArray)], [sI (⟨#[109, 97, 114, 107]⟩ : ByteArray)], [sI (⟨#[48]⟩ : ByteArray)], [sI (⟨#[109, 111, 114, 101]⟩ : ByteArray)], [sI (⟨#[102, 97, 108, 115, 101]⟩ : ByteArray)], [sI (⟨#[114, 101, 97, 100, 111, 110, 108, 121]⟩ : ByteArray)], [sI (⟨#[102, 97, 108, 115, 101]⟩ : ByteArray)]] : List (List Im))[8]? = some [sI (⟨#[109, 111, 114, 101]⟩ : ByteArray)]] ⟨by decide, rfl, trivial⟩ ?_
  refine AWp.seq ?_
  refine sO hP hn hm [] [(49, bV false)] [0, 1, 5, 7, 39, 40, 41, 49] [] [] ?_
  refine AWp.cond false (by kernel_rfl) (fun h => nomatch h) (fun _ => ?_)
  refine AWp.skip ?_
  show AWp Γ _ _ _
  refine rO hP hn hm [] [(5, iV .i64 39)] [0, 1, 5, 39, 40, 41] [] [] ?_
  show AWp Γ _ _ _
  refine rO hP hn hm [] [(41, iV .i64 9)] [0, 1, 5, 39, 40, 41] [] [] ?_
  show LWp Γ _ _ _
  refine LWp.round ?_
  refine sO hP hn hm [] [(42, bV true)] [0, 1, 5, 39, 40, 41, 42] [] [] ?_
  refine AWp.seq ?_
  refine AWp.cond true (by kernel_rfl) (fun _ => ?_) (fun h => nomatch h)
  refine AWp.skip ?_
  show AWp Γ _ _ _
  refine AWp.seq ?_
  refine AWp.block ?_
  refine sR hP hn hm [(0, .c [sI (⟨#[102, 97, 108, 115, 101]⟩ : ByteArray)])] [(7, sV (⟨#[102, 97, 108, 115, 101]⟩ : ByteArray))] [0, 1, 5, 7, 39, 40, 41] [] [] [(0 : Int) ≤ 9, ([[sI (⟨#[115, 101, 114, 105, 101, 115]⟩ : ByteArray)], [sI (⟨#[48]⟩ : ByteArray)], [sI (⟨#[104, 101, 97, 100]⟩ : ByteArray)], [sI (⟨#[48]⟩ : ByteArray)], [sI (⟨#[98, 108, 111, 99, 107, 115]⟩ : ByteArray)], [sI (⟨#[48]⟩ : ByteArray)], [sI (⟨#[109, 97, 114, 107]⟩ : ByteArray)], [sI (⟨#[48]⟩ : ByteArray)], [sI (⟨#[109, 111, 114, 101]⟩ : ByteArray)], [sI (⟨#[102, 97, 108, 115, 101]⟩ : ByteArray)], [sI (⟨#[114, 101, 97, 100, 111, 110, 108, 121]⟩ : ByteArray)], [sI (⟨#[102, 97, 108, 115, 101]⟩ : ByteArray)]] : List (List Im))[9]? = some [sI (⟨#[102, 97, 108, 115, 101]⟩ : ByteArray)]] ⟨by decide, rfl, trivial⟩ ?_
  refine AWp.seq ?_
  refine sO hP hn hm [] [(49, bV false)] [0, 1, 5, 7, 39, 40, 41, 49] [] [] ?_
  refine AWp.cond false (by kernel_rfl) (fun h => nomatch h) (fun _ => ?_)
  refine AWp.skip ?_
  show AWp Γ _ _ _
  refine rO hP hn hm [] [(5, iV .i64 44)] [0, 1, 5, 39, 40, 41] [] [] ?_
  show AWp Γ _ _ _
  refine rO hP hn hm [] [(41, iV .i64 10)] [0, 1, 5, 39, 40, 41] [] [] ?_
  show LWp Γ _ _ _
  refine LWp.round ?_
  refine sO hP hn hm [] [(42, bV true)] [0, 1, 5, 39, 40, 41, 42] [] [] ?_
  refine AWp.seq ?_
  refine AWp.cond true (by kernel_rfl) (fun _ => ?_) (fun h => nomatch h)
  refine AWp.skip ?_
  show AWp Γ _ _ _
  refine AWp.seq ?_
  refine AWp.block ?_
  refine sR hP hn hm [(0, .c [sI (⟨#[114, 101, 97, 100, 111, 110, 108, 121]⟩ : ByteArray)])] [(7, sV (⟨#[114, 101, 97, 100, 111, 110, 108, 121]⟩ : ByteArray))] [0, 1, 5, 7, 39, 40, 41] [] [] [(0 : Int) ≤ 10, ([[sI (⟨#[115, 101, 114, 105, 101, 115]⟩ : ByteArray)], [sI (⟨#[48]⟩ : ByteArray)], [sI (⟨#[104, 101, 97, 100]⟩ : ByteArray)], [sI (⟨#[48]⟩ : ByteArray)], [sI (⟨#[98, 108, 111, 99, 107, 115]⟩ : ByteArray)], [sI (⟨#[48]⟩ : ByteArray)], [sI (⟨#[109, 97, 114, 107]⟩ : ByteArray)], [sI (⟨#[48]⟩ : ByteArray)], [sI (⟨#[109, 111, 114, 101]⟩ : ByteArray)], [sI (⟨#[102, 97, 108, 115, 101]⟩ : ByteArray)], [sI (⟨#[114, 101, 97, 100, 111, 110, 108, 121]⟩ : ByteArray)], [sI (⟨#[102, 97, 108, 115, 101]⟩ : ByteArray)]] : List (List Im))[10]? = some [sI (⟨#[114, 101, 97, 100, 111, 110, 108, 121]⟩ : ByteArray)]] ⟨by decide, rfl, trivial⟩ ?_
  refine AWp.seq ?_
  refine sO hP hn hm [] [(49, bV false)] [0, 1, 5, 7, 39, 40, 41, 49] [] [] ?_
  refine AWp.cond false (by kernel_rfl) (fun h => nomatch h) (fun _ => ?_)
  refine AWp.skip ?_
  show AWp Γ _ _ _
  refine rO hP hn hm [] [(5, iV .i64 52)] [0, 1, 5, 39, 40, 41] [] [] ?_
  show AWp Γ _ _ _
  refine rO hP hn hm [] [(41, iV .i64 11)] [0, 1, 5, 39, 40, 41] [] [] ?_
  show LWp Γ _ _ _
  refine LWp.round ?_
  refine sO hP hn hm [] [(42, bV true)] [0, 1, 5, 39, 40, 41, 42] [] [] ?_
  refine AWp.seq ?_
  refine AWp.cond true (by kernel_rfl) (fun _ => ?_) (fun h => nomatch h)
  refine AWp.skip ?_
  show AWp Γ _ _ _
  refine AWp.seq ?_
  refine AWp.block ?_
  refine sR hP hn hm [(0, .c [sI (⟨#[102, 97, 108, 115, 101]⟩ : ByteArray)])] [(7, sV (⟨#[102, 97, 108, 115, 101]⟩ : ByteArray))] [0, 1, 5, 7, 39, 40, 41] [] [] [(0 : Int) ≤ 11, ([[sI (⟨#[115, 101, 114, 105, 101, 115]⟩ : ByteArray)], [sI (⟨#[48]⟩ : ByteArray)], [sI (⟨#[104, 101, 97, 100]⟩ : ByteArray)], [sI (⟨#[48]⟩ : ByteArray)], [sI (⟨#[98, 108, 111, 99, 107, 115]⟩ : ByteArray)], [sI (⟨#[48]⟩ : ByteArray)], [sI (⟨#[109, 97, 114, 107]⟩ : ByteArray)], [sI (⟨#[48]⟩ : ByteArray)], [sI (⟨#[109, 111, 114, 101]⟩ : ByteArray)], [sI (⟨#[102, 97, 108, 115, 101]⟩ : ByteArray)], [sI (⟨#[114, 101, 97, 100, 111, 110, 108, 121]⟩ : ByteArray)], [sI (⟨#[102, 97, 108, 115, 101]⟩ : ByteArray)]] : List (List Im))[11]? = some [sI (⟨#[102, 97, 108, 115, 101]⟩ : ByteArray)]] ⟨by decide, rfl, trivial⟩ ?_
  refine AWp.seq ?_
  refine sO hP hn hm [] [(49, bV false)] [0, 1, 5, 7, 39, 40, 41, 49] [] [] ?_
  refine AWp.cond false (by kernel_rfl) (fun h => nomatch h) (fun _ => ?_)
  refine AWp.skip ?_
  show AWp Γ _ _ _
  refine rO hP hn hm [] [(5, iV .i64 57)] [0, 1, 5, 39, 40, 41] [] [] ?_
  show AWp Γ _ _ _
  refine rO hP hn hm [] [(41, iV .i64 12)] [0, 1, 5, 39, 40, 41] [] [] ?_
  show LWp Γ _ _ _
  refine LWp.round ?_
  refine sO hP hn hm [] [(42, bV false)] [0, 1, 5, 39, 40, 41, 42] [] [] ?_
  refine AWp.seq ?_
  refine AWp.cond false (by kernel_rfl) (fun h => nomatch h) (fun _ => ?_)
  refine AWp.exit ?_
  show AWp Γ _ _ _
  refine sO hP hn hm [(0, .k 0)] [(8, .ptr 0 0 0)] [0, 1, 5, 8] [(0, some (.box 141 [.im (.sc (.pointer none)), .none0]))] [0] ?_
  refine sR hP hn hm [(1, .callz [(0, 0)] [(0, 0), (1, 1)] [] [1] 1 (.tup []) [(0, some (.box 141 [.ptr 0 0 0, .own 1])), (1, some (.row 1 5 []))])] [] [0, 1, 8] [(0, some (.box 141 [.ptr 0 0 0, .own 1])), (1, some (.row 1 5 []))] [0, 1] [_, _] ⟨Tryz.call67, cx92_Grow, trivial⟩ ?_
  refine sR hP hn hm [(1, .c [sI (⟨#[115, 101, 114, 105, 101, 115]⟩ : ByteArray)]), (3, .callz [(0, 0), (1, 1)] [(0, 0), (2, 2)] [] [2] 2 (.tup [iV .i64 6, .im (.sc (.nilIface))]) [(0, some (.box 141 [.ptr 0 0 0, .own 2])), (1, none), (2, some (.row 1 5 [[iI .u8 115], [iI .u8 101], [iI .u8 114], [iI .u8 105], [iI .u8 101], [iI .u8 115]]))])] [] [0, 1, 8] [(0, some (.box 141 [.ptr 0 0 0, .own 2])), (2, some (.row 1 5 [[iI .u8 115], [iI .u8 101], [iI .u8 114], [iI .u8 105], [iI .u8 101], [iI .u8 115]]))] [0, 2] [(0 : Int) ≤ 0, ([[sI (⟨#[115, 101, 114, 105, 101, 115]⟩ : ByteArray)], [sI (⟨#[48]⟩ : ByteArray)], [sI (⟨#[104, 101, 97, 100]⟩ : ByteArray)], [sI (⟨#[48]⟩ : ByteArray)], [sI (⟨#[98, 108, 111, 99, 107, 115]⟩ : ByteArray)], [sI (⟨#[48]⟩ : ByteArray)], [sI (⟨#[109, 97, 114, 107]⟩ : ByteArray)], [sI (⟨#[48]⟩ : ByteArray)], [sI (⟨#[109, 111, 114, 101]⟩ : ByteArray)], [sI (⟨#[102, 97, 108, 115, 101]⟩ : ByteArray)], [sI (⟨#[114, 101, 97, 100, 111, 110, 108, 121]⟩ : ByteArray)], [sI (⟨#[102, 97, 108, 115, 101]⟩ : ByteArray)]] : List (List Im))[0]? = some [sI (⟨#[115, 101, 114, 105, 101, 115]⟩ : ByteArray)], _, _] ⟨by decide, rfl, Tryz.call68, cx94_WriteString, trivial⟩ ?_
  refine AWp.seq ?_
  refine sR hP hn hm [(1, .rows [[sI (⟨#[48]⟩ : ByteArray)], [sI (⟨#[104, 101, 97, 100]⟩ : ByteArray)], [sI (⟨#[48]⟩ : ByteArray)], [sI (⟨#[98, 108, 111, 99, 107, 115]⟩ : ByteArray)], [sI (⟨#[48]⟩ : ByteArray)], [sI (⟨#[109, 97, 114, 107]⟩ : ByteArray)], [sI (⟨#[48]⟩ : ByteArray)], [sI (⟨#[109, 111, 114, 101]⟩ : ByteArray)], [sI (⟨#[102, 97, 108, 115, 101]⟩ : ByteArray)], [sI (⟨#[114, 101, 97, 100, 111, 110, 108, 121]⟩ : ByteArray)], [sI (⟨#[102, 97, 108, 115, 101]⟩ : ByteArray)]])] [(63, .im (.row [[sI (⟨#[48]⟩ : ByteArray)], [sI (⟨#[104, 101, 97, 100]⟩ : ByteArray)], [sI (⟨#[48]⟩ : ByteArray)], [sI (⟨#[98, 108, 111, 99, 107, 115]⟩ : ByteArray)], [sI (⟨#[48]⟩ : ByteArray)], [sI (⟨#[109, 97, 114, 107]⟩ : ByteArray)], [sI (⟨#[48]⟩ : ByteArray)], [sI (⟨#[109, 111, 114, 101]⟩ : ByteArray)], [sI (⟨#[102, 97, 108, 115, 101]⟩ : ByteArray)], [sI (⟨#[114, 101, 97, 100, 111, 110, 108, 121]⟩ : ByteArray)], [sI (⟨#[102, 97, 108, 115, 101]⟩ : ByteArray)]])), (64, iV .i64 11), (65, iV .i64 0)] [1, 8, 63, 64, 65] [] [0, 2] [(0 : Int) ≤ 1, (1 : Int) ≤ 12, (12 : Int) ≤ (([[sI (⟨#[115, 101, 114, 105, 101, 115]⟩ : ByteArray)], [sI (⟨#[48]⟩ : ByteArray)], [sI (⟨#[104, 101, 97, 100]⟩ : ByteArray)], [sI (⟨#[48]⟩ : ByteArray)], [sI (⟨#[98, 108, 111, 99, 107, 115]⟩ : ByteArray)], [sI (⟨#[48]⟩ : ByteArray)], [sI (⟨#[109, 97, 114, 107]⟩ : ByteArray)], [sI (⟨#[48]⟩ : ByteArray)], [sI (⟨#[109, 111, 114, 101]⟩ : ByteArray)], [sI (⟨#[102, 97, 108, 115, 101]⟩ : ByteArray)], [sI (⟨#[114, 101, 97, 100, 111, 110, 108, 121]⟩ : ByteArray)], [sI (⟨#[102, 97, 108, 115, 101]⟩ : ByteArray)]] : List (List Im)).length : Int), ∀ c ∈ ([[sI (⟨#[115, 101, 114, 105, 101, 115]⟩ : ByteArray)], [sI (⟨#[48]⟩ : ByteArray)], [sI (⟨#[104, 101, 97, 100]⟩ : ByteArray)], [sI (⟨#[48]⟩ : ByteArray)], [sI (⟨#[98, 108, 111, 99, 107, 115]⟩ : ByteArray)], [sI (⟨#[48]⟩ : ByteArray)], [sI (⟨#[109, 97, 114, 107]⟩ : ByteArray)], [sI (⟨#[48]⟩ : ByteArray)], [sI (⟨#[109, 111, 114, 101]⟩ : ByteArray)], [sI (⟨#[102, 97, 108, 115, 101]⟩ : ByteArray)], [sI (⟨#[114, 101, 97, 100, 111, 110, 108, 121]⟩ : ByteArray)], [sI (⟨#[102, 97, 108, 115, 101]⟩ : ByteArray)]] : List (List Im)), c.length = 1, [[sI (⟨#[48]⟩ : ByteArray)], [sI (⟨#[104, 101, 97, 100]⟩ : ByteArray)], [sI (⟨#[48]⟩ : ByteArray)], [sI (⟨#[98, 108, 111, 99, 107, 115]⟩ : ByteArray)], [sI (⟨#[48]⟩ : ByteArray)], [sI (⟨#[109, 97, 114, 107]⟩ : ByteArray)], [sI (⟨#[48]⟩ : ByteArray)], [sI (⟨#[109, 111, 114, 101]⟩ : ByteArray)], [sI (⟨#[102, 97, 108, 115, 101]⟩ : ByteArray)], [sI (⟨#[114, 101, 97, 100, 111, 110, 108, 121]⟩ : ByteArray)], [sI (⟨#[102, 97, 108, 115, 101]⟩ : ByteArray)]] = (([[sI (⟨#[115, 101, 114, 105, 101, 115]⟩ : ByteArray)], [sI (⟨#[48]⟩ : ByteArray)], [sI (⟨#[104, 101, 97, 100]⟩ : ByteArray)], [sI (⟨#[48]⟩ : ByteArray)], [sI (⟨#[98, 108, 111, 99, 107, 115]⟩ : ByteArray)], [sI (⟨#[48]⟩ : ByteArray)], [sI (⟨#[109, 97, 114, 107]⟩ : ByteArray)], [sI (⟨#[48]⟩ : ByteArray)], [sI (⟨#[109, 111, 114, 101]⟩ : ByteArray)], [sI (⟨#[102, 97, 108, 115, 101]⟩ : ByteArray)], [sI (⟨#[114, 101, 97, 100, 111, 110, 108, 121]⟩ : ByteArray)], [sI (⟨#[102, 97, 108, 115, 101]⟩ : ByteArray)]] : List (List Im)).drop 1).take (12 - 1)] ⟨by decide, by decide, by decide, by simp, rfl, trivial⟩ ?_
  refine AWp.block ?_
  refine AWp.loop ?_
  refine LWp.round ?_
  refine sO hP hn hm [] [(66, bV true)] [1, 8, 63, 64, 65, 66] [] [0, 2] ?_
  refine AWp.seq ?_
  refine AWp.cond true (by kernel_rfl) (fun _ => ?_) (fun h => nomatch h)
  refine AWp.skip ?_
  show AWp Γ _ _ _
  refine AWp.seq ?_
  refine AWp.block ?_
  refine sR hP hn hm [(0, .c [sI (⟨#[48]⟩ : ByteArray)])] [(10, sV (⟨#[48]⟩ : ByteArray))] [1, 8, 10, 63, 64, 65] [] [0, 2] [(0 : Int) ≤ 0, ([[sI (⟨#[48]⟩ : ByteArray)], [sI (⟨#[104, 101, 97, 100]⟩ : ByteArray)], [sI (⟨#[48]⟩ : ByteArray)], [sI (⟨#[98, 108, 111, 99, 107, 115]⟩ : ByteArray)], [sI (⟨#[48]⟩ : ByteArray)], [sI (⟨#[109, 97, 114, 107]⟩ : ByteArray)], [sI (⟨#[48]⟩ : ByteArray)], [sI (⟨#[109, 111, 114, 101]⟩ : ByteArray)], [sI (⟨#[102, 97, 108, 115, 101]⟩ : ByteArray)], [sI (⟨#[114, 101, 97, 100, 111, 110, 108, 121]⟩ : ByteArray)], [sI (⟨#[102, 97, 108, 115, 101]⟩ : ByteArray)]] : List (List Im))[0]? = some [sI (⟨#[48]⟩ : ByteArray)]] ⟨by decide, rfl, trivial⟩ ?_
  refine sR hP hn hm [(1, .callz [(0, 0), (2, 1)] [(0, 0), (2, 3)] [] [3] 2 (.tup [iV .i64 1, .im (.sc (.nilIface))]) [(0, some (.box 141 [.ptr 0 0 0, .own 2])), (1, none), (2, some (.row 1 5 [[iI .u8 115], [iI .u8 101], [iI .u8 114], [iI .u8 105], [iI .u8 101], [iI .u8 115], [iI .u8 32]]))])] [] [1, 8, 10, 63, 64, 65] [(0, some (.box 141 [.ptr 0 0 0, .own 3])), (3, some (.row 1 5 [[iI .u8 115], [iI .u8 101], [iI .u8 114], [iI .u8 105], [iI .u8 101], [iI .u8 115], [iI .u8 32]]))] [0, 3] [_, _] ⟨Tryz.call68, cx96_WriteString, trivial⟩ ?_
  refine rG hP hn hm [(1, .callz [(0, 0), (3, 1)] [(0, 0), (2, 4)] [] [4] 2 (.tup [iV .i64 1, .im (.sc (.nilIface))]) [(0, some (.box 141 [.ptr 0 0 0, .own 2])), (1, none), (2, some (.row 1 5 [[iI .u8 115], [iI .u8 101], [iI .u8 114], [iI .u8 105], [iI .u8 101], [iI .u8 115], [iI .u8 32], [iI .u8 48]]))])] [] [1, 8, 63, 64, 65] [(0, some (.box 141 [.ptr 0 0 0, .own 4])), (4, some (.row 1 5 [[iI .u8 115], [iI .u8 101], [iI .u8 114], [iI .u8 105], [iI .u8 101], [iI .u8 115], [iI .u8 32], [iI .u8 48]]))] [0, 4] [_, _] ⟨Tryz.call68, cx98_WriteString, trivial⟩ ?_
  show AWp Γ _ _ _
  refine rO hP hn hm [] [(65, iV .i64 1)] [1, 8, 63, 64, 65] [] [0, 4] ?_
  show LWp Γ _ _ _
  refine LWp.round ?_
  refine sO hP hn hm [] [(66, bV true)] [1, 8, 63, 64, 65, 66] [] [0, 4] ?_
  refine AWp.seq ?_
  refine AWp.cond true (by kernel_rfl) (fun _ => ?_) (fun h => nomatch h)
  refine AWp.skip ?_
  show AWp Γ _ _ _
  refine AWp.seq ?_
  refine AWp.block ?_
  refine sR hP hn hm [(0, .c [sI (⟨#[104, 101, 97, 100]⟩ : ByteArray)])] [(10, sV (⟨#[104, 101, 97, 100]⟩ : ByteArray))] [1, 8, 10, 63, 64, 65] [] [0, 4] [(0 : Int) ≤ 1, ([[sI (⟨#[48]⟩ : ByteArray)], [sI (⟨#[104, 101, 97, 100]⟩ : ByteArray)], [sI (⟨#[48]⟩ : ByteArray)], [sI (⟨#[98, 108, 111, 99, 107, 115]⟩ : ByteArray)], [sI (⟨#[48]⟩ : ByteArray)], [sI (⟨#[109, 97, 114, 107]⟩ : ByteArray)], [sI (⟨#[48]⟩ : ByteArray)], [sI (⟨#[109, 111, 114, 101]⟩ : ByteArray)], [sI (⟨#[102, 97, 108, 115, 101]⟩ : ByteArray)], [sI (⟨#[114, 101, 97, 100, 111, 110, 108, 121]⟩ : ByteArray)], [sI (⟨#[102, 97, 108, 115, 101]⟩ : ByteArray)]] : List (List Im))[1]? = some [sI (⟨#[104, 101, 97, 100]⟩ : ByteArray)]] ⟨by decide, rfl, trivial⟩ ?_
  refine sR hP hn hm [(1, .callz [(0, 0), (4, 1)] [(0, 0), (2, 5)] [] [5] 2 (.tup [iV .i64 1, .im (.sc (.nilIface))]) [(0, some (.box 141 [.ptr 0 0 0, .own 2])), (1, none), (2, some (.row 1 5 [[iI .u8 115], [iI .u8 101], [iI .u8 114], [iI .u8 105], [iI .u8 101], [iI .u8 115], [iI .u8 32], [iI .u8 48], [iI .u8 32]]))])] [] [1, 8, 10, 63, 64, 65] [(0, some (.box 141 [.ptr 0 0 0, .own 5])), (5, some (.row 1 5 [[iI .u8 115], [iI .u8 101], [iI .u8 114], [iI .u8 105], [iI .u8 101], [iI .u8 115], [iI .u8 32], [iI .u8 48], [iI .u8 32]]))] [0, 5] [_, _] ⟨Tryz.call68, cx100_WriteString, trivial⟩ ?_
  refine rG hP hn hm [(1, .callz [(0, 0), (5, 1)] [(0, 0), (2, 6)] [] [6] 2 (.tup [iV .i64 4, .im (.sc (.nilIface))]) [(0, some (.box 141 [.ptr 0 0 0, .own 2])), (1, none), (2, some (.row 1 5 [[iI .u8 115], [iI .u8 101], [iI .u8 114], [iI .u8 105], [iI .u8 101], [iI .u8 115], [iI .u8 32], [iI .u8 48], [iI .u8 32], [iI .u8 104], [iI .u8 101], [iI .u8 97], [iI .u8 100]]))])] [] [1, 8, 63, 64, 65] [(0, some (.box 141 [.ptr 0 0 0, .own 6])), (6, some (.row 1 5 [[iI .u8 115], [iI .u8 101], [iI .u8 114], [iI .u8 105], [iI .u8 101], [iI .u8 115], [iI .u8 32], [iI .u8 48], [iI .u8 32], [iI .u8 104], [iI .u8 101], [iI .u8 97], [iI .u8 100]]))] [0, 6] [_, _] ⟨Tryz.call68, cx102_WriteString, trivial⟩ ?_
  show AWp Γ _ _ _
  refine rO hP hn hm [] [(65, iV .i64 2)] [1, 8, 63, 64, 65] [] [0, 6] ?_
  show LWp Γ _ _ _
  refine LWp.round ?_
  refine sO hP hn hm [] [(66, bV true)] [1, 8, 63, 64, 65, 66] [] [0, 6] ?_
  refine AWp.seq ?_
  refine AWp.cond true (by kernel_rfl) (fun _ => ?_) (fun h => nomatch h)
  refine AWp.skip ?_
  show AWp Γ _ _ _
  refine AWp.seq ?_
  refine AWp.block ?_
  refine sR hP hn hm [(0, .c [sI (⟨#[48]⟩ : ByteArray)])] [(10, sV (⟨#[48]⟩ : ByteArray))] [1, 8, 10, 63, 64, 65] [] [0, 6] [(0 : Int) ≤ 2, ([[sI (⟨#[48]⟩ : ByteArray)], [sI (⟨#[104, 101, 97, 100]⟩ : ByteArray)], [sI (⟨#[48]⟩ : ByteArray)], [sI (⟨#[98, 108, 111, 99, 107, 115]⟩ : ByteArray)], [sI (⟨#[48]⟩ : ByteArray)], [sI (⟨#[109, 97, 114, 107]⟩ : ByteArray)], [sI (⟨#[48]⟩ : ByteArray)], [sI (⟨#[109, 111, 114, 101]⟩ : ByteArray)], [sI (⟨#[102, 97, 108, 115, 101]⟩ : ByteArray)], [sI (⟨#[114, 101, 97, 100, 111, 110, 108, 121]⟩ : ByteArray)], [sI (⟨#[102, 97, 108, 115, 101]⟩ : ByteArray)]] : List (List Im))[2]? = some [sI (⟨#[48]⟩ : ByteArray)]] ⟨by decide, rfl, trivial⟩ ?_
  refine sR hP hn hm [(1, .callz [(0, 0), (6, 1)] [(0, 0), (2, 7)] [] [7] 2 (.tup [iV .i64 1, .im (.sc (.nilIface))]) [(0, some (.box 141 [.ptr 0 0 0, .own 2])), (1, none), (2, some (.row 1 5 [[iI .u8 115], [iI .u8 101], [iI .u8 114], [iI .u8 105], [iI .u8 101], [iI .u8 115], [iI .u8 32], [iI .u8 48], [iI .u8 32], [iI .u8 104], [iI .u8 101], [iI .u8 97], [iI .u8 100], [iI .u8 32]]))])] [] [1, 8, 10, 63, 64, 65] [(0, some (.box 141 [.ptr 0 0 0, .own 7])), (7, some (.row 1 5 [[iI .u8 115], [iI .u8 101], [iI .u8 114], [iI .u8 105], [iI .u8 101], [iI .u8 115], [iI .u8 32], [iI .u8 48], [iI .u8 32], [iI .u8 104], [iI .u8 101], [iI .u8 97], [iI .u8 100], [iI .u8 32]]))] [0, 7] [_, _] ⟨Tryz.call68, cx104_WriteString, trivial⟩ ?_
  refine rG hP hn hm [(1, .callz [(0, 0), (7, 1)] [(0, 0), (2, 8)] [] [8] 2 (.tup [iV .i64 1, .im (.sc (.nilIface))]) [(0, some (.box 141 [.ptr 0 0 0, .own 2])), (1, none), (2, some (.row 1 5 [[iI .u8 115], [iI .u8 101], [iI .u8 114], [iI .u8 105], [iI .u8 101], [iI .u8 115], [iI .u8 32], [iI .u8 48], [iI .u8 32], [iI .u8 104], [iI .u8 101], [iI .u8 97], [iI .u8 100], [iI .u8 32], [iI .u8 48]]))])] [] [1, 8, 63, 64, 65] [(0, some (.box 141 [.ptr 0 0 0, .own 8])), (8, some (.row 1 5 [[iI .u8 115], [iI .u8 101], [iI .u8 114], [iI .u8 105], [iI .u8 101], [iI .u8 115], [iI .u8 32], [iI .u8 48], [iI .u8 32], [iI .u8 104], [iI .u8 101], [iI .u8 97], [iI .u8 100], [iI .u8 32], [iI .u8 48]]))] [0, 8] [_, _] ⟨Tryz.call68, cx106_WriteString, trivial⟩ ?_
  show AWp Γ _ _ _
  refine rO hP hn hm [] [(65, iV .i64 3)] [1, 8, 63, 64, 65] [] [0, 8] ?_
  show LWp Γ _ _ _
  refine LWp.round ?_
  refine sO hP hn hm [] [(66, bV true)] [1, 8, 63, 64, 65, 66] [] [0, 8] ?_
  refine AWp.seq ?_
  refine AWp.cond true (by kernel_rfl) (fun _ => ?_) (fun h => nomatch h)
  refine AWp.skip ?_
  show AWp Γ _ _ _
  refine AWp.seq ?_
  refine AWp.block ?_
  refine sR hP hn hm [(0, .c [sI (⟨#[98, 108, 111, 99, 107, 115]⟩ : ByteArray)])] [(10, sV (⟨#[98, 108, 111, 99, 107, 115]⟩ : ByteArray))] [1, 8, 10, 63, 64, 65] [] [0, 8] [(0 : Int) ≤ 3, ([[sI (⟨#[48]⟩ : ByteArray)], [sI (⟨#[104, 101, 97, 100]⟩ : ByteArray)], [sI (⟨#[48]⟩ : ByteArray)], [sI (⟨#[98, 108, 111, 99, 107, 115]⟩ : ByteArray)], [sI (⟨#[48]⟩ : ByteArray)], [sI (⟨#[109, 97, 114, 107]⟩ : ByteArray)], [sI (⟨#[48]⟩ : ByteArray)], [sI (⟨#[109, 111, 114, 101]⟩ : ByteArray)], [sI (⟨#[102, 97, 108, 115, 101]⟩ : ByteArray)], [sI (⟨#[114, 101, 97, 100, 111, 110, 108, 121]⟩ : ByteArray)], [sI (⟨#[102, 97, 108, 115, 101]⟩ : ByteArray)]] : List (List Im))[3]? = some [sI (⟨#[98, 108, 111, 99, 107, 115]⟩ : ByteArray)]] ⟨by decide, rfl, trivial⟩ ?_
  refine sR hP hn hm [(1, .callz [(0, 0), (8, 1)] [(0, 0), (2, 9)] [] [9] 2 (.tup [iV .i64 1, .im (.sc (.nilIface))]) [(0, some (.box 141 [.ptr 0 0 0, .own 2])), (1, none), (2, some (.row 1 5 [[iI .u8 115], [iI .u8 101], [iI .u8 114], [iI .u8 105], [iI .u8 101], [iI .u8 115], [iI .u8 32], [iI .u8 48], [iI .u8 32], [iI .u8 104], [iI .u8 101], [iI .u8 97], [iI .u8 100], [iI .u8 32], [iI .u8 48], [iI .u8 32]]))])] [] [1, 8, 10, 63, 64, 65] [(0, some (.box 141 [.ptr 0 0 0, .own 9])), (9, some (.row 1 5 [[iI .u8 115], [iI .u8 101], [iI .u8 114], [iI .u8 105], [iI .u8 101], [iI .u8 115], [iI .u8 32], [iI .u8 48], [iI .u8 32], [iI .u8 104], [iI .u8 101], [iI .u8 97], [iI .u8 100], [iI .u8 32], [iI .u8 48], [iI .u8 32]]))] [0, 9] [_, _] ⟨Tryz.call68, cx108_WriteString, trivial⟩ ?_
  refine rG hP hn hm [(1, .callz [(0, 0), (9, 1)] [(0, 0), (2, 10)] [] [10] 2 (.tup [iV .i64 6, .im (.sc (.nilIface))]) [(0, some (.box 141 [.ptr 0 0 0, .own 2])), (1, none), (2, some (.row 1 5 [[iI .u8 115], [iI .u8 101], [iI .u8 114], [iI .u8 105], [iI .u8 101], [iI .u8 115], [iI .u8 32], [iI .u8 48], [iI .u8 32], [iI .u8 104], [iI .u8 101], [iI .u8 97], [iI .u8 100], [iI .u8 32], [iI .u8 48], [iI .u8 32], [iI .u8 98], [iI .u8 108], [iI .u8 111], [iI .u8 99], [iI .u8 107], [iI .u8 115]]))])] [] [1, 8, 63, 64, 65] [(0, some (.box 141 [.ptr 0 0 0, .own 10])), (10, some (.row 1 5 [[iI .u8 115], [iI .u8 101], [iI .u8 114], [iI .u8 105], [iI .u8 101], [iI .u8 115], [iI .u8 32], [iI .u8 48], [iI .u8 32], [iI .u8 104], [iI .u8 101], [iI .u8 97], [iI .u8 100], [iI .u8 32], [iI .u8 48], [iI .u8 32], [iI .u8 98], [iI .u8 108], [iI .u8 111], [iI .u8 99], [iI .u8 107], [iI .u8 115]]))] [0, 10] [_, _] ⟨Tryz.call68, cx110_WriteString, trivial⟩ ?_
  show AWp Γ _ _ _
  refine rO hP hn hm [] [(65, iV .i64 4)] [1, 8, 63, 64, 65] [] [0, 10] ?_
  show LWp Γ _ _ _
  refine LWp.round ?_
  refine sO hP hn hm [] [(66, bV true)] [1, 8, 63, 64, 65, 66] [] [0, 10] ?_
  refine AWp.seq ?_
  refine AWp.cond true (by kernel_rfl) (fun _ => ?_) (fun h => nomatch h)
  refine AWp.skip ?_
  show AWp Γ _ _ _
  refine AWp.seq ?_
  refine AWp.block ?_
  refine sR hP hn hm [(0, .c [sI (⟨#[48]⟩ : ByteArray)])] [(10, sV (⟨#[48]⟩ : ByteArray))] [1, 8, 10, 63, 64, 65] [] [0, 10] [(0 : Int) ≤ 4, ([[sI (⟨#[48]⟩ : ByteArray)], [sI (⟨#[104, 101, 97, 100]⟩ : ByteArray)], [sI (⟨#[48]⟩ : ByteArray)], [sI (⟨#[98, 108, 111, 99, 107, 115]⟩ : ByteArray)], [sI (⟨#[48]⟩ : ByteArray)], [sI (⟨#[109, 97, 114, 107]⟩ : ByteArray)], [sI (⟨#[48]⟩ : ByteArray)], [sI (⟨#[109, 111, 114, 101]⟩ : ByteArray)], [sI (⟨#[102, 97, 108, 115, 101]⟩ : ByteArray)], [sI (⟨#[114, 101, 97, 100, 111, 110, 108, 121]⟩ : ByteArray)], [sI (⟨#[102, 97, 108, 115, 101]⟩ : ByteArray)]] : List (List Im))[4]? = some [sI (⟨#[48]⟩ : ByteArray)]] ⟨by decide, rfl, trivial⟩ ?_
  refine sR hP hn hm [(1, .callz [(0, 0), (10, 1)] [(0, 0), (2, 11)] [] [11] 2 (.tup [iV .i64 1, .im (.sc (.nilIface))]) [(0, some (.box 141 [.ptr 0 0 0, .own 2])), (1, none), (2, some (.row 1 5 [[iI .u8 115], [iI .u8 101], [iI .u8 114], [iI .u8 105], [iI .u8 101], [iI .u8 115], [iI .u8 32], [iI .u8 48], [iI .u8 32], [iI .u8 104], [iI .u8 101], [iI .u8 97], [iI .u8 100], [iI .u8 32], [iI .u8 48], [iI .u8 32], [iI .u8 98], [iI .u8 108], [iI .u8 111], [iI .u8 99], [iI .u8 107], [iI .u8 115], [iI .u8 32]]))])] [] [1, 8, 10, 63, 64, 65] [(0, some (.box 141 [.ptr 0 0 0, .own 11])), (11, some (.row 1 5 [[iI .u8 115], [iI .u8 101], [iI .u8 114], [iI .u8 105], [iI .u8 101], [iI .u8 115], [iI .u8 32], [iI .u8 48], [iI .u8 32], [iI .u8 104], [iI .u8 101], [iI .u8 97], [iI .u8 100], [iI .u8 32], [iI .u8 48], [iI .u8 32], [iI .u8 98], [iI .u8 108], [iI .u8 111], [iI .u8 99], [iI .u8 107], [iI .u8 115], [iI .u8 32]]))] [0, 11] [_, _] ⟨Tryz.call68, cx112_WriteString, trivial⟩ ?_
  refine rG hP hn hm [(1, .callz [(0, 0), (11, 1)] [(0, 0), (2, 12)] [] [12] 2 (.tup [iV .i64 1, .im (.sc (.nilIface))]) [(0, some (.box 141 [.ptr 0 0 0, .own 2])), (1, none), (2, some (.row 1 5 [[iI .u8 115], [iI .u8 101], [iI .u8 114], [iI .u8 105], [iI .u8 101], [iI .u8 115], [iI .u8 32], [iI .u8 48], [iI .u8 32], [iI .u8 104], [iI .u8 101], [iI .u8 97], [iI .u8 100], [iI .u8 32], [iI .u8 48], [iI .u8 32], [iI .u8 98], [iI .u8 108], [iI .u8 111], [iI .u8 99], [iI .u8 107], [iI .u8 115], [iI .u8 32], [iI .u8 48]]))])] [] [1, 8, 63, 64, 65] [(0, some (.box 141 [.ptr 0 0 0, .own 12])), (12, some (.row 1 5 [[iI .u8 115], [iI .u8 101], [iI .u8 114], [iI .u8 105], [iI .u8 101], [iI .u8 115], [iI .u8 32], [iI .u8 48], [iI .u8 32], [iI .u8 104], [iI .u8 101], [iI .u8 97], [iI .u8 100], [iI .u8 32], [iI .u8 48], [iI .u8 32], [iI .u8 98], [iI .u8 108], [iI .u8 111], [iI .u8 99], [iI .u8 107], [iI .u8 115], [iI .u8 32], [iI .u8 48]]))] [0, 12] [_, _] ⟨Tryz.call68, cx114_WriteString, trivial⟩ ?_
  show AWp Γ _ _ _
  refine rO hP hn hm [] [(65, iV .i64 5)] [1, 8, 63, 64, 65] [] [0, 12] ?_
  show LWp Γ _ _ _
  refine LWp.round ?_
  refine sO hP hn hm [] [(66, bV true)] [1, 8, 63, 64, 65, 66] [] [0, 12] ?_
  refine AWp.seq ?_
  refine AWp.cond true (by kernel_rfl) (fun _ => ?_) (fun h => nomatch h)
  refine AWp.skip ?_
  show AWp Γ _ _ _
  refine AWp.seq ?_
  refine AWp.block ?_
  refine sR hP hn hm [(0, .c [sI (⟨#[109, 97, 114, 107]⟩ : ByteArray)])] [(10, sV (⟨#[109, 97, 114, 107]⟩ : ByteArray))] [1, 8, 10, 63, 64, 65] [] [0, 12] [(0 : Int) ≤ 5, ([[sI (⟨#[48]⟩ : ByteArray)], [sI (⟨#[104, 101, 97, 100]⟩ : ByteArray)], [sI (⟨#[48]⟩ : ByteArray)], [sI (⟨#[98, 108, 111, 99, 107, 115]⟩ : ByteArray)], [sI (⟨#[48]⟩ : ByteArray)], [sI (⟨#[109, 97, 114, 107]⟩ : ByteArray)], [sI (⟨#[48]⟩ : ByteArray)], [sI (⟨#[109, 111, 114, 101]⟩ : ByteArray)], [sI (⟨#[102, 97, 108, 115, 101]⟩ : ByteArray)], [sI (⟨#[114, 101, 97, 100, 111, 110, 108, 121]⟩ : ByteArray)], [sI (⟨#[102, 97, 108, 115, 101]⟩ : ByteArray)]] : List (List Im))[5]? = some [sI (⟨#[109, 97, 114, 107]⟩ : ByteArray)]] ⟨by decide, rfl, trivial⟩ ?_
  refine sR hP hn hm [(1, .callz [(0, 0), (12, 1)] [(0, 0), (2, 13)] [] [13] 2 (.tup [iV .i64 1, .im (.sc (.nilIface))]) [(0, some (.box 141 [.ptr 0 0 0, .own 2])), (1, none), (2, some (.row 1 5 [[iI .u8 115], [iI .u8 101], [iI .u8 114], [iI .u8 105], [iI .u8 101], [iI .u8 115], [iI .u8 32], [iI .u8 48], [iI .u8 32], [iI .u8 104], [iI .u8 101], [iI .u8 97], [iI .u8 100], [iI .u8 32], [iI .u8 48], [iI .u8 32], [iI .u8 98], [iI .u8 108], [iI .u8 111], [iI .u8 99], [iI .u8 107], [iI .u8 115], [iI .u8 32], [iI .u8 48], [iI .u8 32]]))])] [] [1, 8, 10, 63, 64, 65] [(0, some (.box 141 [.ptr 0 0 0, .own 13])), (13, some (.row 1 5 [[iI .u8 115], [iI .u8 101], [iI .u8 114], [iI .u8 105], [iI .u8 101], [iI .u8 115], [iI .u8 32], [iI .u8 48], [iI .u8 32], [iI .u8 104], [iI .u8 101], [iI .u8 97], [iI .u8 100], [iI .u8 32], [iI .u8 48], [iI .u8 32], [iI .u8 98], [iI .u8 108], [iI .u8 111], [iI .u8 99], [iI .u8 107], [iI .u8 115], [iI .u8 32], [iI .u8 48], [iI .u8 32]]))] [0, 13] [_, _] ⟨Tryz.call68, cx116_WriteString, trivial⟩ ?_
  refine rG hP hn hm [(1, .callz [(0, 0), (13, 1)] [(0, 0), (2, 14)] [] [14] 2 (.tup [iV .i64 4, .im (.sc (.nilIface))]) [(0, some (.box 141 [.ptr 0 0 0, .own 2])), (1, none), (2, some (.row 1 5 [[iI .u8 115], [iI .u8 101], [iI .u8 114], [iI .u8 105], [iI .u8 101], [iI .u8 115], [iI .u8 32], [iI .u8 48], [iI .u8 32], [iI .u8 104], [iI .u8 101], [iI .u8 97], [iI .u8 100], [iI .u8 32], [iI .u8 48], [iI .u8 32], [iI .u8 98], [iI .u8 108], [iI .u8 111], [iI .u8 99], [iI .u8 107], [iI .u8 115], [iI .u8 32], [iI .u8 48], [iI .u8 32], [iI .u8 109], [iI .u8 97], [iI .u8 114], [iI .u8 107]]))])] [] [1, 8, 63, 64, 65] [(0, some (.box 141 [.ptr 0 0 0, .own 14])), (14, some (.row 1 5 [[iI .u8 115], [iI .u8 101], [iI .u8 114], [iI .u8 105], [iI .u8 101], [iI .u8 115], [iI .u8 32], [iI .u8 48], [iI .u8 32], [iI .u8 104], [iI .u8 101], [iI .u8 97], [iI .u8 100], [iI .u8 32], [iI .u8 48], [iI .u8 32], [iI .u8 98], [iI .u8 108], [iI .u8 111], [iI .u8 99], [iI .u8 107], [iI .u8 115], [iI .u8 32], [iI .u8 48], [iI .u8 32], [iI .u8 109], [iI .u8 97], [iI .u8 114], [iI .u8 107]]))] [0, 14] [_, _] ⟨Tryz.call68, cx118_WriteString, trivial⟩ ?_
  show AWp Γ _ _ _
  refine rO hP hn hm [] [(65, iV .i64 6)] [1, 8, 63, 64, 65] [] [0, 14] ?_
  show LWp Γ _ _ _
  refine LWp.round ?_
  refine sO hP hn hm [] [(66, bV true)] [1, 8, 63, 64, 65, 66] [] [0, 14] ?_
  refine AWp.seq ?_
  refine AWp.cond true (by kernel_rfl) (fun _ => ?_) (fun h => nomatch h)
  refine AWp.skip ?_
  show AWp Γ _ _ _
  refine AWp.seq ?_
  refine AWp.block ?_
  refine sR hP hn hm [(0, .c [sI (⟨#[48]⟩ : ByteArray)])] [(10, sV (⟨#[48]⟩ : ByteArray))] [1, 8, 10, 63, 64, 65] [] [0, 14] [(0 : Int) ≤ 6, ([[sI (⟨#[48]⟩ : ByteArray)], [sI (⟨#[104, 101, 97, 100]⟩ : ByteArray)], [sI (⟨#[48]⟩ : ByteArray)], [sI (⟨#[98, 108, 111, 99, 107, 115]⟩ : ByteArray)], [sI (⟨#[48]⟩ : ByteArray)], [sI (⟨#[109, 97, 114, 107]⟩ : ByteArray)], [sI (⟨#[48]⟩ : ByteArray)], [sI (⟨#[109, 111, 114, 101]⟩ : ByteArray)], [sI (⟨#[102, 97, 108, 115, 101]⟩ : ByteArray)], [sI (⟨#[114, 101, 97, 100, 111, 110, 108, 121]⟩ : ByteArray)], [sI (⟨#[102, 97, 108, 115, 101]⟩ : ByteArray)]] : List (List Im))[6]? = some [sI (⟨#[48]⟩ : ByteArray)]] ⟨by decide, rfl, trivial⟩ ?_
  refine sR hP hn hm [(1, .callz [(0, 0), (14, 1)] [(0, 0), (2, 15)] [] [15] 2 (.tup [iV .i64 1, .im (.sc (.nilIface))]) [(0, some (.box 141 [.ptr 0 0 0, .own 2])), (1, none), (2, some (.row 1 5 [[iI .u8 115], [iI .u8 101], [iI .u8 114], [iI .u8 105], [iI .u8 101], [iI .u8 115], [iI .u8 32], [iI .u8 48], [iI .u8 32], [iI .u8 104], [iI .u8 101], [iI .u8 97], [iI .u8 100], [iI .u8 32], [iI .u8 48], [iI .u8 32], [iI .u8 98], [iI .u8 108], [iI .u8 111], [iI .u8 99], [iI .u8 107], [iI .u8 115], [iI .u8 32], [iI .u8 48], [iI .u8 32], [iI .u8 109], [iI .u8 97], [iI .u8 114], [iI .u8 107], [iI .u8 32]]))])] [] [1, 8, 10, 63, 64, 65] [(0, some (.box 141 [.ptr 0 0 0, .own 15])), (15, some (.row 1 5 [[iI .u8 115], [iI .u8 101], [iI .u8 114], [iI .u8 105], [iI .u8 101], [iI .u8 115], [iI .u8 32], [iI .u8 48], [iI .u8 32], [iI .u8 104], [iI .u8 101], [iI .u8 97], [iI .u8 100], [iI .u8 32], [iI .u8 48], [iI .u8 32], [iI .u8 98], [iI .u8 108], [iI .u8 111], [iI .u8 99], [iI .u8 107], [iI .u8 115], [iI .u8 32], [iI .u8 48], [iI .u8 32], [iI .u8 109], [iI .u8 97], [iI .u8 114], [iI .u8 107], [iI .u8 32]]))] [0, 15] [_, _] ⟨Tryz.call68, cx120_WriteString, trivial⟩ ?_
  refine rG hP hn hm [(1, .callz [(0, 0), (15, 1)] [(0, 0), (2, 16)] [] [16] 2 (.tup [iV .i64 1, .im (.sc (.nilIface))]) [(0, some (.box 141 [.ptr 0 0 0, .own 2])), (1, none), (2, some (.row 1 5 [[iI .u8 115], [iI .u8 101], [iI .u8 114], [iI .u8 105], [iI .u8 101], [iI .u8 115], [iI .u8 32], [iI .u8 48], [iI .u8 32], [iI .u8 104], [iI .u8 101], [iI .u8 97], [iI .u8 100], [iI .u8 32], [iI .u8 48], [iI .u8 32], [iI .u8 98], [iI .u8 108], [iI .u8 111], [iI .u8 99], [iI .u8 107], [iI .u8 115], [iI .u8 32], [iI .u8 48], [iI .u8 32], [iI .u8 109], [iI .u8 97], [iI .u8 114], [iI .u8 107], [iI .u8 32], [iI .u8 48]]))])] [] [1, 8, 63, 64, 65] [(0, some (.box 141 [.ptr 0 0 0, .own 16])), (16, some (.row 1 5 [[iI .u8 115], [iI .u8 101], [iI .u8 114], [iI .u8 105], [iI .u8 101], [iI .u8 115], [iI .u8 32], [iI .u8 48], [iI .u8 32], [iI .u8 104], [iI .u8 101], [iI .u8 97], [iI .u8 100], [iI .u8 32], [iI .u8 48], [iI .u8 32], [iI .u8 98], [iI .u8 108], [iI .u8 111], [iI .u8 99], [iI .u8 107], [iI .u8 115], [iI .u8 32], [iI .u8 48], [iI .u8 32], [iI .u8 109], [iI .u8 97], [iI .u8 114], [iI .u8 107], [iI .u8 32], [iI .u8 48]]))] [0, 16] [_, _] ⟨Tryz.call68, cx122_WriteString, trivial⟩ ?_
  show AWp Γ _ _ _
  refine rO hP hn hm [] [(65, iV .i64 7)] [1, 8, 63, 64, 65] [] [0, 16] ?_
  show LWp Γ _ _ _
  refine LWp.round ?_
  refine sO hP hn hm [] [(66, bV true)] [1, 8, 63, 64, 65, 66] [] [0, 16] ?_
  refine AWp.seq ?_
  refine AWp.cond true (by kernel_rfl) (fun _ => ?_) (fun h => nomatch h)
  refine AWp.skip ?_
  show AWp Γ _ _ _
  refine AWp.seq ?_
  refine AWp.block ?_
  refine sR hP hn hm [(0, .c [sI (⟨#[109, 111, 114, 101]⟩ : ByteArray)])] [(10, sV (⟨#[109, 111, 114, 101]⟩ : ByteArray))] [1, 8, 10, 63, 64, 65] [] [0, 16] [(0 : Int) ≤ 7, ([[sI (⟨#[48]⟩ : ByteArray)], [sI (⟨#[104, 101, 97, 100]⟩ : ByteArray)], [sI (⟨#[48]⟩ : ByteArray)], [sI (⟨#[98, 108, 111, 99, 107, 115]⟩ : ByteArray)], [sI (⟨#[48]⟩ : ByteArray)], [sI (⟨#[109, 97, 114, 107]⟩ : ByteArray)], [sI (⟨#[48]⟩ : ByteArray)], [sI (⟨#[109, 111, 114, 101]⟩ : ByteArray)], [sI (⟨#[102, 97, 108, 115, 101]⟩ : ByteArray)], [sI (⟨#[114, 101, 97, 100, 111, 110, 108, 121]⟩ : ByteArray)], [sI (⟨#[102, 97, 108, 115, 101]⟩ : ByteArray)]] : List (List Im))[7]? = some [sI (⟨#[109, 111, 114, 101]⟩ : ByteArray)]] ⟨by decide, rfl, trivial⟩ ?_
  refine sR hP hn hm [(1, .callz [(0, 0), (16, 1)] [(0, 0), (2, 17)] [] [17] 2 (.tup [iV .i64 1, .im (.sc (.nilIface))]) [(0, some (.box 141 [.ptr 0 0 0, .own 2])), (1, none), (2, some (.row 1 5 [[iI .u8 115], [iI .u8 101], [iI .u8 114], [iI .u8 105], [iI .u8 101], [iI .u8 115], [iI .u8 32], [iI .u8 48], [iI .u8 32], [iI .u8 104], [iI .u8 101], [iI .u8 97], [iI .u8 100], [iI .u8 32], [iI .u8 48], [iI .u8 32], [iI .u8 98], [iI .u8 108], [iI .u8 111], [iI .u8 99], [iI .u8 107], [iI .u8 115], [iI .u8 32], [iI .u8 48], [iI .u8 32], [iI .u8 109], [iI .u8 97], [iI .u8 114], [iI .u8 107], [iI .u8 32], [iI .u8 48], [iI .u8 32]]))])] [] [1, 8, 10, 63, 64, 65] [(0, some (.box 141 [.ptr 0 0 0, .own 17])), (17, some (.row 1 5 [[iI .u8 115], [iI .u8 101], [iI .u8 114], [iI .u8 105], [iI .u8 101], [iI .u8 115], [iI .u8 32], [iI .u8 48], [iI .u8 32], [iI .u8 104], [iI .u8 101], [iI .u8 97], [iI .u8 100], [iI .u8 32], [iI .u8 48], [iI .u8 32], [iI .u8 98], [iI .u8 108], [iI .u8 111], [iI .u8 99], [iI .u8 107], [iI .u8 115], [iI .u8 32], [iI .u8 48], [iI .u8 32], [iI .u8 109], [iI .u8 97], [iI .u8 114], [iI .u8 107], [iI .u8 32], [iI .u8 48], [iI .u8 32]]))] [0, 17] [_, _] ⟨Tryz.call68, cx124_WriteString, trivial⟩ ?_
  refine rG hP hn hm [(1, .callz [(0, 0), (17, 1)] [(0, 0), (2, 18)] [] [18] 2 (.tup [iV .i64 4, .im (.sc (.nilIface))]) [(0, some (.box 141 [.ptr 0 0 0, .own 2])), (1, none), (2, some (.row 1 5 [[iI .u8 115], [iI .u8 101], [iI .u8 114], [iI .u8 105], [iI .u8 101], [iI .u8 115], [iI .u8 32], [iI .u8 48], [iI .u8 32], [iI .u8 104], [iI .u8 101], [iI .u8 97], [iI .u8 100], [iI .u8 32], [iI .u8 48], [iI .u8 32], [iI .u8 98], [iI .u8 108], [iI .u8 111], [iI .u8 99], [iI .u8 107], [iI .u8 115], [iI .u8 32], [iI .u8 48], [iI .u8 32], [iI .u8 109], [iI .u8 97], [iI .u8 114], [iI .u8 107], [iI .u8 32], [iI .u8 48], [iI .u8 32], [iI .u8 109], [iI .u8 111], [iI .u8 114], [iI .u8 101]]))])] [] [1, 8, 63, 64, 65] [(0, some (.box 141 [.ptr 0 0 0, .own 18])), (18, some (.row 1 5 [[iI .u8 115], [iI .u8 101], [iI .u8 114], [iI .u8 105], [iI .u8 101], [iI .u8 115], [iI .u8 32], [iI .u8 48], [iI .u8 32], [iI .u8 104], [iI .u8 101], [iI .u8 97], [iI .u8 100], [iI .u8 32], [iI .u8 48], [iI .u8 32], [iI .u8 98], [iI .u8 108], [iI .u8 111], [iI .u8 99], [iI .u8 107], [iI .u8 115], [iI .u8 32], [iI .u8 48], [iI .u8 32], [iI .u8 109], [iI .u8 97], [iI .u8 114], [iI .u8 107], [iI .u8 32], [iI .u8 48], [iI .u8 32], [iI .u8 109], [iI .u8 111], [iI .u8 114], [iI .u8 101]]))] [0, 18] [_, _] ⟨Tryz.call68, cx126_WriteString, trivial⟩ ?_
  show AWp Γ _ _ _
  refine rO hP hn hm [] [(65, iV .i64 8)] [1, 8, 63, 64, 65] [] [0, 18] ?_
  show LWp Γ _ _ _
  refine LWp.round ?_
  refine sO hP hn hm [] [(66, bV true)] [1, 8, 63, 64, 65, 66] [] [0, 18] ?_
  refine AWp.seq ?_
  refine AWp.cond true (by kernel_rfl) (fun _ => ?_) (fun h => nomatch h)
  refine AWp.skip ?_
  show AWp Γ _ _ _
  refine AWp.seq ?_
  refine AWp.block ?_
  refine sR hP hn hm [(0, .c [sI (⟨#[102, 97, 108, 115, 101]⟩ : ByteArray)])] [(10, sV (⟨#[102, 97, 108, 115, 101]⟩ : ByteArray))] [1, 8, 10, 63, 64, 65] [] [0, 18] [(0 : Int) ≤ 8, ([[sI (⟨#[48]⟩ : ByteArray)], [sI (⟨#[104, 101, 97, 100]⟩ : ByteArray)], [sI (⟨#[48]⟩ : ByteArray)], [sI (⟨#[98, 108, 111, 99, 107, 115]⟩ : ByteArray)], [sI (⟨#[48]⟩ : ByteArray)], [sI (⟨#[109, 97, 114, 107]⟩ : ByteArray)], [sI (⟨#[48]⟩ : ByteArray)], [sI (⟨#[109, 111, 114, 101]⟩ : ByteArray)], [sI (⟨#[102, 97, 108, 115, 101]⟩ : ByteArray)], [sI (⟨#[114, 101, 97, 100, 111, 110, 108, 121]⟩ : ByteArray)], [sI (⟨#[102, 97, 108, 115, 101]⟩ : ByteArray)]] : List (List Im))[8]? = some [sI (⟨#[102, 97, 108, 115, 101]⟩ : ByteArray)]] ⟨by decide, rfl, trivial⟩ ?_
  refine sR hP hn hm [(1, .callz [(0, 0), (18, 1)] [(0, 0), (2, 19)] [] [19] 2 (.tup [iV .i64 1, .im (.sc (.nilIface))]) [(0, some (.box 141 [.ptr 0 0 0, .own 2])), (1, none), (2, some (.row 1 5 [[iI .u8 115], [iI .u8 101], [iI .u8 114], [iI .u8 105], [iI .u8 101], [iI .u8 115], [iI .u8 32], [iI .u8 48], [iI .u8 32], [iI .u8 104], [iI .u8 101], [iI .u8 97], [iI .u8 100], [iI .u8 32], [iI .u8 48], [iI .u8 32], [iI .u8 98], [iI .u8 108], [iI .u8 111], [iI .u8 99], [iI .u8 107], [iI .u8 115], [iI .u8 32], [iI .u8 48], [iI .u8 32], [iI .u8 109], [iI .u8 97], [iI .u8 114], [iI .u8 107], [iI .u8 32], [iI .u8 48], [iI .u8 32], [iI .u8 109], [iI .u8 111], [iI .u8 114], [iI .u8 101], [iI .u8 32]]))])] [] [1, 8, 10, 63, 64, 65] [(0, some (.box 141 [.ptr 0 0 0, .own 19])), (19, some (.row 1 5 [[iI .u8 115], [iI .u8 101], [iI .u8 114], [iI .u8 105], [iI .u8 101], [iI .u8 115], [iI .u8 32], [iI .u8 48], [iI .u8 32], [iI .u8 104], [iI .u8 101], [iI .u8 97], [iI .u8 100], [iI .u8 32], [iI .u8 48], [iI .u8 32], [iI .u8 98], [iI .u8 108], [iI .u8 111], [iI .u8 99], [iI .u8 107], [iI .u8 115], [iI .u8 32], [iI .u8 48], [iI .u8 32], [iI .u8 109], [iI .u8 97], [iI .u8 114], [iI .u8 107], [iI .u8 32], [iI .u8 48], [iI .u8 32], [iI .u8 109], [iI .u8 111], [iI .u8 114], [iI .u8 101], [iI .u8 32]]))] [0, 19] [_, _] ⟨Tryz.call68, cx128_WriteString, trivial⟩ ?_
  refine rG hP hn hm [(1, .callz [(0, 0), (19, 1)] [(0, 0), (2, 20)] [] [20] 2 (.tup [iV .i64 5, .im (.sc (.nilIface))]) [(0, some (.box 141 [.ptr 0 0 0, .own 2])), (1, none), (2, some (.row 1 5 [[iI .u8 115], [iI .u8 101], [iI .u8 114], [iI .u8 105], [iI .u8 101], [iI .u8 115], [iI .u8 32], [iI .u8 48], [iI .u8 32], [iI .u8 104], [iI .u8 101], [iI .u8 97], [iI .u8 100], [iI .u8 32], [iI .u8 48], [iI .u8 32], [iI .u8 98], [iI .u8 108], [iI .u8 111], [iI .u8 99], [iI .u8 107], [iI .u8 115], [iI .u8 32], [iI .u8 48], [iI .u8 32], [iI .u8 109], [iI .u8 97], [iI .u8 114], [iI .u8 107], [iI .u8 32], [iI .u8 48], [iI .u8 32], [iI .u8 109], [iI .u8 111], [iI .u8 114], [iI .u8 101], [iI .u8 32], [iI .u8 102], [iI .u8 97], [iI .u8 108], [iI .u8 115], [iI .u8 101]]))])] [] [1, 8, 63, 64, 65] [(0, some (.box 141 [.ptr 0 0 0, .own 20])), (20, some (.row 1 5 [[iI .u8 115], [iI .u8 101], [iI .u8 114], [iI .u8 105], [iI .u8 101], [iI .u8 115], [iI .u8 32], [iI .u8 48], [iI .u8 32], [iI .u8 104], [iI .u8 101], [iI .u8 97], [iI .u8 100], [iI .u8 32], [iI .u8 48], [iI .u8 32], [iI .u8 98], [iI .u8 108], [iI .u8 111], [iI .u8 99], [iI .u8 107], [iI .u8 115], [iI .u8 32], [iI .u8 48], [iI .u8 32], [iI .u8 109], [iI .u8 97], [iI .u8 114], [iI .u8 107], [iI .u8 32], [iI .u8 48], [iI .u8 32], [iI .u8 109], [iI .u8 111], [iI .u8 114], [iI .u8 101], [iI .u8 32], [iI .u8 102], [iI .u8 97], [iI .u8 108], [iI .u8 115], [iI .u8 101]]))] [0, 20] [_, _] ⟨Tryz.call68, cx130_WriteString, trivial⟩ ?_
  show AWp Γ _ _ _
  refine rO hP hn hm [] [(65, iV .i64 9)] [1, 8, 63, 64, 65] [] [0, 20] ?_
  show LWp Γ _ _ _
  refine LWp.round ?_
  refine sO hP hn hm [] [(66, bV true)] [1, 8, 63, 64, 65, 66] [] [0, 20] ?_
  refine AWp.seq ?_
  refine AWp.cond true (by kernel_rfl) (fun _ => ?_) (fun h => nomatch h)
  refine AWp.skip ?_
  show AWp Γ _ _ _
  refine AWp.seq ?_
  refine AWp.block ?_
  refine sR hP hn hm [(0, .c [sI (⟨#[114, 101, 97, 100, 111, 110, 108, 121]⟩ : ByteArray)])] [(10, sV (⟨#[114, 101, 97, 100, 111, 110, 108, 121]⟩ : ByteArray))] [1, 8, 10, 63, 64, 65] [] [0, 20] [(0 : Int) ≤ 9, ([[sI (⟨#[48]⟩ : ByteArray)], [sI (⟨#[104, 101, 97, 100]⟩ : ByteArray)], [sI (⟨#[48]⟩ : ByteArray)], [sI (⟨#[98, 108, 111, 99, 107, 115]⟩ : ByteArray)], [sI (⟨#[48]⟩ : ByteArray)], [sI (⟨#[109, 97, 114, 107]⟩ : ByteArray)], [sI (⟨#[48]⟩ : ByteArray)], [sI (⟨#[109, 111, 114, 101]⟩ : ByteArray)], [sI (⟨#[102, 97, 108, 115, 101]⟩ : ByteArray)], [sI (⟨#[114, 101, 97, 100, 111, 110, 108, 121]⟩ : ByteArray)], [sI (⟨#[102, 97, 108, 115, 101]⟩ : ByteArray)]] : List (List Im))[9]? = some [sI (⟨#[114, 101, 97, 100, 111, 110, 108, 121]⟩ : ByteArray)]] ⟨by decide, rfl, trivial⟩ ?_
  refine sR hP hn hm [(1, .callz [(0, 0), (20, 1)] [(0, 0), (2, 21)] [] [21] 2 (.tup [iV .i64 1, .im (.sc (.nilIface))]) [(0, some (.box 141 [.ptr 0 0 0, .own 2])), (1, none), (2, some (.row 1 5 [[iI .u8 115], [iI .u8 101], [iI .u8 114], [iI .u8 105], [iI .u8 101], [iI .u8 115], [iI .u8 32], [iI .u8 48], [iI .u8 32], [iI .u8 104], [iI .u8 101], [iI .u8 97], [iI .u8 100], [iI .u8 32], [iI .u8 48], [iI .u8 32], [iI .u8 98], [iI .u8 108], [iI .u8 111], [iI .u8 99], [iI .u8 107], [iI .u8 115], [iI .u8 32], [iI .u8 48], [iI .u8 32], [iI .u8 109], [iI .u8 97], [iI .u8 114], [iI .u8 107], [iI .u8 32], [iI .u8 48], [iI .u8 32], [iI .u8 109], [iI .u8 111], [iI .u8 114], [iI .u8 101], [iI .u8 32], [iI .u8 102], [iI .u8 97], [iI .u8 108], [iI .u8 115], [iI .u8 101], [iI .u8 32]]))])] [] [1, 8, 10, 63, 64, 65] [(0, some (.box 141 [.ptr 0 0 0, .own 21])), (21, some (.row 1 5 [[iI .u8 115], [iI .u8 101], [iI .u8 114], [iI .u8 105], [iI .u8 101], [iI .u8 115], [iI .u8 32], [iI .u8 48], [iI .u8 32], [iI .u8 104], [iI .u8 101], [iI .u8 97], [iI .u8 100], [iI .u8 32], [iI .u8 48], [iI .u8 32], [iI .u8 98], [iI .u8 108], [iI .u8 111], [iI .u8 99], [iI .u8 107], [iI .u8 115], [iI .u8 32], [iI .u8 48], [iI .u8 32], [iI .u8 109], [iI .u8 97], [iI .u8 114], [iI .u8 107], [iI .u8 32], [iI .u8 48], [iI .u8 32], [iI .u8 109], [iI .u8 111], [iI .u8 114], [iI .u8 101], [iI .u8 32], [iI .u8 102], [iI .u8 97], [iI .u8 108], [iI .u8 115], [iI .u8 101], [iI .u8 32]]))] [0, 21] [_, _] ⟨Tryz.call68, cx132_WriteString, trivial⟩ ?_
  refine rG hP hn hm [(1, .callz [(0, 0), (21, 1)] [(0, 0), (2, 22)] [] [22] 2 (.tup [iV .i64 8, .im (.sc (.nilIface))]) [(0, some (.box 141 [.ptr 0 0 0, .own 2])), (1, none), (2, some (.row 1 5 [[iI .u8 115], [iI .u8 101], [iI .u8 114], [iI .u8 105], [iI .u8 101], [iI .u8 115], [iI .u8 32], [iI .u8 48], [iI .u8 32], [iI .u8 104], [iI .u8 101], [iI .u8 97], [iI .u8 100], [iI .u8 32], [iI .u8 48], [iI .u8 32], [iI .u8 98], [iI .u8 108], [iI .u8 111], [iI .u8 99], [iI .u8 107], [iI .u8 115], [iI .u8 32], [iI .u8 48], [iI .u8 32], [iI .u8 109], [iI .u8 97], [iI .u8 114], [iI .u8 107], [iI .u8 32], [iI .u8 48], [iI .u8 32], [iI .u8 109], [iI .u8 111], [iI .u8 114], [iI .u8 101], [iI .u8 32], [iI .u8 102], [iI .u8 97], [iI .u8 108], [iI .u8 115], [iI .u8 101], [iI .u8 32], [iI .u8 114], [iI .u8 101], [iI .u8 97], [iI .u8 100], [iI .u8 111], [iI .u8 110], [iI .u8 108], [iI .u8 121]]))])] [] [1, 8, 63, 64, 65] [(0, some (.box 141 [.ptr 0 0 0, .own 22])), (22, some (.row 1 5 [[iI .u8 115], [iI .u8 101], [iI .u8 114], [iI .u8 105], [iI .u8 101], [iI .u8 115], [iI .u8 32], [iI .u8 48], [iI .u8 32], [iI .u8 104], [iI .u8 101], [iI .u8 97], [iI .u8 100], [iI .u8 32], [iI .u8 48], [iI .u8 32], [iI .u8 98], [iI .u8 108], [iI .u8 111], [iI .u8 99], [iI .u8 107], [iI .u8 115], [iI .u8 32], [iI .u8 48], [iI .u8 32], [iI .u8 109], [iI .u8 97], [iI .u8 114], [iI .u8 107], [iI .u8 32], [iI .u8 48], [iI .u8 32], [iI .u8 109], [iI .u8 111], [iI .u8 114], [iI .u8 101], [iI .u8 32], [iI .u8 102], [iI .u8 97], [iI .u8 108], [iI .u8 115], [iI .u8 101], [iI .u8 32], [iI .u8 114], [iI .u8 101], [iI .u8 97], [iI .u8 100], [iI .u8 111], [iI .u8 110], [iI .u8 108], [iI .u8 121]]))] [0, 22] [_, _] ⟨Tryz.call68, cx134_WriteString, trivial⟩ ?_
  show AWp Γ _ _ _
  refine rO hP hn hm [] [(65, iV .i64 10)] [1, 8, 63, 64, 65] [] [0, 22] ?_
  show LWp Γ _ _ _
  refine LWp.round ?_
  refine sO hP hn hm [] [(66, bV true)] [1, 8, 63, 64, 65, 66] [] [0, 22] ?_
  refine AWp.seq ?_
  refine AWp.cond true (by kernel_rfl) (fun _ => ?_) (fun h => nomatch h)
  refine AWp.skip ?_
  show AWp Γ _ _ _
  refine AWp.seq ?_
  refine AWp.block ?_
  refine sR hP hn hm [(0, .c [sI (⟨#[102, 97, 108, 115, 101]⟩ : ByteArray)])] [(10, sV (⟨#[102, 97, 108, 115, 101]⟩ : ByteArray))] [1, 8, 10, 63, 64, 65] [] [0, 22] [(0 : Int) ≤ 10, ([[sI (⟨#[48]⟩ : ByteArray)], [sI (⟨#[104, 101, 97, 100]⟩ : ByteArray)], [sI (⟨#[48]⟩ : ByteArray)], [sI (⟨#[98, 108, 111, 99, 107, 115]⟩ : ByteArray)], [sI (⟨#[48]⟩ : ByteArray)], [sI (⟨#[109, 97, 114, 107]⟩ : ByteArray)], [sI (⟨#[48]⟩ : ByteArray)], [sI (⟨#[109, 111, 114, 101]⟩ : ByteArray)], [sI (⟨#[102, 97, 108, 115, 101]⟩ : ByteArray)], [sI (⟨#[114, 101, 97, 100, 111, 110, 108, 121]⟩ : ByteArray)], [sI (⟨#[102, 97, 108, 115, 101]⟩ : ByteArray)]] : List (List Im))[10]? = some [sI (⟨#[102, 97, 108, 115, 101]⟩ : ByteArray)]] ⟨by decide, rfl, trivial⟩ ?_
  refine sR hP hn hm [(1, .callz [(0, 0), (22, 1)] [(0, 0), (2, 23)] [] [23] 2 (.tup [iV .i64 1, .im (.sc (.nilIface))]) [(0, some (.box 141 [.ptr 0 0 0, .own 2])), (1, none), (2, some (.row 1 5 [[iI .u8 115], [iI .u8 101], [iI .u8 114], [iI .u8 105], [iI .u8 101], [iI .u8 115], [iI .u8 32], [iI .u8 48], [iI .u8 32], [iI .u8 104], [iI .u8 101], [iI .u8 97], [iI .u8 100], [iI .u8 32], [iI .u8 48], [iI .u8 32], [iI .u8 98], [iI .u8 108], [iI .u8 111], [iI .u8 99], [iI .u8 107], [iI .u8 115], [iI .u8 32], [iI .u8 48], [iI .u8 32], [iI .u8 109], [iI .u8 97], [iI .u8 114], [iI .u8 107], [iI .u8 32], [iI .u8 48], [iI .u8 32], [iI .u8 109], [iI .u8 111], [iI .u8 114], [iI .u8 101], [iI .u8 32], [iI .u8 102], [iI .u8 97], [iI .u8 108], [iI .u8 115], [iI .u8 101], [iI .u8 32], [iI .u8 114], [iI .u8 101], [iI .u8 97], [iI .u8 100], [iI .u8 111], [iI .u8 110], [iI .u8 108], [iI .u8 121], [iI .u8 32]]))])] [] [1, 8, 10, 63, 64, 65] [(0, some (.box 141 [.ptr 0 0 0, .own 23])), (23, some (.row 1 5 [[iI .u8 115], [iI .u8 101], [iI .u8 114], [iI .u8 105], [iI .u8 101], [iI .u8 115], [iI .u8 32], [iI .u8 48], [iI .u8 32], [iI .u8 104], [iI .u8 101], [iI .u8 97], [iI .u8 100], [iI .u8 32], [iI .u8 48], [iI .u8 32], [iI .u8 98], [iI .u8 108], [iI .u8 111], [iI .u8 99], [iI .u8 107], [iI .u8 115], [iI .u8 32], [iI .u8 48], [iI .u8 32], [iI .u8 109], [iI .u8 97], [iI .u8 114], [iI .u8 107], [iI .u8 32], [iI .u8 48], [iI .u8 32], [iI .u8 109], [iI .u8 111], [iI .u8 114], [iI .u8 101], [iI .u8 32], [iI .u8 102], [iI .u8 97], [iI .u8 108], [iI .u8 115], [iI .u8 101], [iI .u8 32], [iI .u8 114], [iI .u8 101], [iI .u8 97], [iI .u8 100], [iI .u8 111], [iI .u8 110], [iI .u8 108], [iI .u8 121], [iI .u8 32]]))] [0, 23] [_, _] ⟨Tryz.call68, cx136_WriteString, trivial⟩ ?_
  refine rG hP hn hm [(1, .callz [(0, 0), (23, 1)] [(0, 0), (2, 24)] [] [24] 2 (.tup [iV .i64 5, .im (.sc (.nilIface))]) [(0, some (.box 141 [.ptr 0 0 0, .own 2])), (1, none), (2, some (.row 1 5 [[iI .u8 115], [iI .u8 101], [iI .u8 114], [iI .u8 105], [iI .u8 101], [iI .u8 115], [iI .u8 32], [iI .u8 48], [iI .u8 32], [iI .u8 104], [iI .u8 101], [iI .u8 97], [iI .u8 100], [iI .u8 32], [iI .u8 48], [iI .u8 32], [iI .u8 98], [iI .u8 108], [iI .u8 111], [iI .u8 99], [iI .u8 107], [iI .u8 115], [iI .u8 32], [iI .u8 48], [iI .u8 32], [iI .u8 109], [iI .u8 97], [iI .u8 114], [iI .u8 107], [iI .u8 32], [iI .u8 48], [iI .u8 32], [iI .u8 109], [iI .u8 111], [iI .u8 114], [iI .u8 101], [iI .u8 32], [iI .u8 102], [iI .u8 97], [iI .u8 108], [iI .u8 115], [iI .u8 101], [iI .u8 32], [iI .u8 114], [iI .u8 101], [iI .u8 97], [iI .u8 100], [iI .u8 111], [iI .u8 110], [iI .u8 108], [iI .u8 121], [iI .u8 32], [iI .u8 102], [iI .u8 97], [iI .u8 108], [iI .u8 115], [iI .u8 101]]))])] [] [1, 8, 63, 64, 65] [(0, some (.box 141 [.ptr 0 0 0, .own 24])), (24, some (.row 1 5 [[iI .u8 115], [iI .u8 101], [iI .u8 114], [iI .u8 105], [iI .u8 101], [iI .u8 115], [iI .u8 32], [iI .u8 48], [iI .u8 32], [iI .u8 104], [iI .u8 101], [iI .u8 97], [iI .u8 100], [iI .u8 32], [iI .u8 48], [iI .u8 32], [iI .u8 98], [iI .u8 108], [iI .u8 111], [iI .u8 99], [iI .u8 107], [iI .u8 115], [iI .u8 32], [iI .u8 48], [iI .u8 32], [iI .u8 109], [iI .u8 97], [iI .u8 114], [iI .u8 107], [iI .u8 32], [iI .u8 48], [iI .u8 32], [iI .u8 109], [iI .u8 111], [iI .u8 114], [iI .u8 101], [iI .u8 32], [iI .u8 102], [iI .u8 97], [iI .u8 108], [iI .u8 115], [iI .u8 101], [iI .u8 32], [iI .u8 114], [iI .u8 101], [iI .u8 97], [iI .u8 100], [iI .u8 111], [iI .u8 110], [iI .u8 108], [iI .u8 121], [iI .u8 32], [iI .u8 102], [iI .u8 97], [iI .u8 108], [iI .u8 115], [iI .u8 101]]))] [0, 24] [_, _] ⟨Tryz.call68, cx138_WriteString, trivial⟩ ?_
  show AWp Γ _ _ _
  refine rO hP hn hm [] [(65, iV .i64 11)] [1, 8, 63, 64, 65] [] [0, 24] ?_
  show LWp Γ _ _ _
  refine LWp.round ?_
  refine sO hP hn hm [] [(66, bV false)] [1, 8, 63, 64, 65, 66] [] [0, 24] ?_
  refine AWp.seq ?_
  refine AWp.cond false (by kernel_rfl) (fun h => nomatch h) (fun _ => ?_)
  refine AWp.exit ?_
  show AWp Γ _ _ _
  refine sR hP hn hm [(0, .callz [(0, 0), (24, 1)] [(0, 0)] [] [] 2 (sV (⟨#[115, 101, 114, 105, 101, 115, 32, 48, 32, 104, 101, 97, 100, 32, 48, 32, 98, 108, 111, 99, 107, 115, 32, 48, 32, 109, 97, 114, 107, 32, 48, 32, 109, 111, 114, 101, 32, 102, 97, 108, 115, 101, 32, 114, 101, 97, 100, 111, 110, 108, 121, 32, 102, 97, 108, 115, 101]⟩ : ByteArray)) [(0, some (.box 141 [.ptr 0 0 0, .own 1])), (1, none)])] [(4, sV (⟨#[115, 101, 114, 105, 101, 115, 32, 48, 32, 104, 101, 97, 100, 32, 48, 32, 98, 108, 111, 99, 107, 115, 32, 48, 32, 109, 97, 114, 107, 32, 48, 32, 109, 111, 114, 101, 32, 102, 97, 108, 115, 101, 32, 114, 101, 97, 100, 111, 110, 108, 121, 32, 102, 97, 108, 115, 101]⟩ : ByteArray))] [4] [] [] [_, _] ⟨Tryz.call69, cx139_String, trivial⟩ ?_
  refine AWp.ret ?_
  exact rl (.inl rfl) rfl (by kernel_rfl) (by kernel_rfl)
theorem cx141_words : Pv.Fn Tryz.prog 24 [.own 0] [(0, some (.row 1 20 [[.sc (.iface 9 (.string ⟨#[115, 101, 114, 105, 101, 115]⟩))], [.sc (.iface 3 (.int .i64 0))], [.sc (.iface 9 (.string ⟨#[104, 101, 97, 100]⟩))], [.sc (.iface 3 (.int .i64 0))], [.sc (.iface 9 (.string ⟨#[98, 108, 111, 99, 107, 115]⟩))], [.sc (.iface 3 (.int .i64 0))], [.sc (.iface 9 (.string ⟨#[109, 97, 114, 107]⟩))], [.sc (.iface 2 (.int .i64 0))], [.sc (.iface 9 (.string ⟨#[109, 111, 114, 101]⟩))], [.sc (.iface 4 (.bool false))], [.sc (.iface 9 (.string ⟨#[114, 101, 97, 100, 111, 110, 108, 121]⟩))], [.sc (.iface 4 (.bool false))]]))] 1 (fun x o => x = sV (⟨#[115, 101, 114, 105, 101, 115, 32, 48, 32, 104, 101, 97, 100, 32, 48, 32, 98, 108, 111, 99, 107, 115, 32, 48, 32, 109, 97, 114, 107, 32, 48, 32, 109, 111, 114, 101, 32, 102, 97, 108, 115, 101, 32, 114, 101, 97, 100, 111, 110, 108, 121, 32, 102, 97, 108, 115, 101]⟩ : ByteArray) ∧ o = [(0, some (.row 1 20 [[.sc (.iface 9 (.string ⟨#[115, 101, 114, 105, 101, 115]⟩))], [.sc (.iface 3 (.int .i64 0))], [.sc (.iface 9 (.string ⟨#[104, 101, 97, 100]⟩))], [.sc (.iface 3 (.int .i64 0))], [.sc (.iface 9 (.string ⟨#[98, 108, 111, 99, 107, 115]⟩))], [.sc (.iface 3 (.int .i64 0))], [.sc (.iface 9 (.string ⟨#[109, 97, 114, 107]⟩))], [.sc (.iface 2 (.int .i64 0))], [.sc (.iface 9 (.string ⟨#[109, 111, 114, 101]⟩))], [.sc (.iface 4 (.bool false))], [.sc (.iface 9 (.string ⟨#[114, 101, 97, 100, 111, 110, 108, 121]⟩))], [.sc (.iface 4 (.bool false))]]))]) := by
  refine Fn.bodyK [0] Tryz.func24 rfl rfl (fun Γ hP hn => ?_)
  have hm : Tryz.prog.follows .mixedOrders = true := by kernel_rfl
  replace hn : Γ.n = 60 := hn
  refine sO hP hn hm [] [] [0] [] [0] ?_
  refine sO hP hn hm [] [(3, .none0)] [0, 3] [] [0] ?_
  refine AWp.seq ?_
  refine sO hP hn hm [] [(11, .own 0), (12, iV .i64 12), (13, iV .i64 0)] [3, 11, 12, 13] [] [0] ?_
  refine AWp.block ?_
  refine AWp.loop ?_
  refine LWp.round ?_
  refine sO hP hn hm [] [(14, bV true)] [3, 11, 12, 13, 14] [] [0] ?_
  refine AWp.seq ?_
  refine AWp.cond true (by kernel_rfl) (fun _ => ?_) (fun h => nomatch h)
  refine AWp.skip ?_
  show AWp Γ _ _ _
  refine AWp.seq ?_
  refine AWp.block ?_
  refine sR hP hn hm [(1, .c [.sc (.iface 9 (.string ⟨#[115, 101, 114, 105, 101, 115]⟩))])] [(5, .im (.sc (.iface 9 (.string ⟨#[115, 101, 114, 105, 101, 115]⟩))))] [3, 5, 11, 12, 13] [] [0] [(0 : Int) ≤ 0, (0 : Int) < ((([[.sc (.iface 9 (.string ⟨#[115, 101, 114, 105, 101, 115]⟩))], [.sc (.iface 3 (.int .i64 0))], [.sc (.iface 9 (.string ⟨#[104, 101, 97, 100]⟩))], [.sc (.iface 3 (.int .i64 0))], [.sc (.iface 9 (.string ⟨#[98, 108, 111, 99, 107, 115]⟩))], [.sc (.iface 3 (.int .i64 0))], [.sc (.iface 9 (.string ⟨#[109, 97, 114, 107]⟩))], [.sc (.iface 2 (.int .i64 0))], [.sc (.iface 9 (.string ⟨#[109, 111, 114, 101]⟩))], [.sc (.iface 4 (.bool false))], [.sc (.iface 9 (.string ⟨#[114, 101, 97, 100, 111, 110, 108, 121]⟩))], [.sc (.iface 4 (.bool false))]] : List (List Im)).length : Nat) : Int), ([[.sc (.iface 9 (.string ⟨#[115, 101, 114, 105, 101, 115]⟩))], [.sc (.iface 3 (.int .i64 0))], [.sc (.iface 9 (.string ⟨#[104, 101, 97, 100]⟩))], [.sc (.iface 3 (.int .i64 0))], [.sc (.iface 9 (.string ⟨#[98, 108, 111, 99, 107, 115]⟩))], [.sc (.iface 3 (.int .i64 0))], [.sc (.iface 9 (.string ⟨#[109, 97, 114, 107]⟩))], [.sc (.iface 2 (.int .i64 0))], [.sc (.iface 9 (.string ⟨#[109, 111, 114, 101]⟩))], [.sc (.iface 4 (.bool false))], [.sc (.iface 9 (.string ⟨#[114, 101, 97, 100, 111, 110, 108, 121]⟩))], [.sc (.iface 4 (.bool false))]] : List (List Im))[0]? = some [.sc (.iface 9 (.string ⟨#[115, 101, 114, 105, 101, 115]⟩))]] ⟨by decide, by decide, rfl, trivial⟩ ?_
  refine sO hP hn hm [] [(17, .im (.sc (.iface 9 (.string ⟨#[115, 101, 114, 105, 101, 115]⟩))))] [3, 11, 12, 13, 17] [] [0] ?_
  refine AWp.block ?_
  refine sO hP hn hm [(0, .more (xAssert true))] [(19, bV true), (20, sV (⟨#[115, 101, 114, 105, 101, 115]⟩ : ByteArray))] [3, 11, 12, 13, 17, 19, 20] [] [0] ?_
  refine AWp.cond true (by kernel_rfl) (fun _ => ?_) (fun h => nomatch h)
  refine sO hP hn hm [] [(6, sV (⟨#[115, 101, 114, 105, 101, 115]⟩ : ByteArray))] [3, 6, 11, 12, 13] [] [0] ?_
  refine rG hP hn hm [(2, .app 1 [[sI (⟨#[115, 101, 114, 105, 101, 115]⟩ : ByteArray)]]), (3, .app 2 [[sI (⟨#[115, 101, 114, 105, 101, 115]⟩ : ByteArray)]])] [(3, .own 2)] [3, 11, 12, 13] [(2, some (.row 1 9 [[sI (⟨#[115, 101, 114, 105, 101, 115]⟩ : ByteArray)]]))] [0, 2] [([[sI (⟨#[115, 101, 114, 105, 101, 115]⟩ : ByteArray)]] : List (List Im)) = [[sI (⟨#[115, 101, 114, 105, 101, 115]⟩ : ByteArray)]], [[sI (⟨#[115, 101, 114, 105, 101, 115]⟩ : ByteArray)]] = ([] : List (List Im)) ++ ([[sI (⟨#[115, 101, 114, 105, 101, 115]⟩ : ByteArray)]] : List (List Im)), ∀ c ∈ ([[sI (⟨#[115, 101, 114, 105, 101, 115]⟩ : ByteArray)]] : List (List Im)), c.length = 1, ∀ c ∈ ([[sI (⟨#[115, 101, 114, 105, 101, 115]⟩ : ByteArray)]] : List (List Im)), leaves (c.map .im) = true, (([] : List (List Im)).length + ([[sI (⟨#[115, 101, 114, 105, 101, 115]⟩ : ByteArray)]] : List (List Im)).length) * 16 ≤ 140737488355328] ⟨rfl, rfl, by simp, by decide, by decide, trivial⟩ ?_
  show AWp Γ _ _ _
  refine rO hP hn hm [] [(13, iV .i64 1)] [3, 11, 12, 13] [] [0, 2] ?_
  show LWp Γ _ _ _
  refine LWp.round ?_
  refine sO hP hn hm [] [(14, bV true)] [3, 11, 12, 13, 14] [] [0, 2] ?_
  refine AWp.seq ?_
  refine AWp.cond true (by kernel_rfl) (fun _ => ?_) (fun h => nomatch h)
  refine AWp.skip ?_
  show AWp Γ _ _ _
  refine AWp.seq ?_
  refine AWp.block ?_
  refine sR hP hn hm [(1, .c [.sc (.iface 3 (.int .i64 0))])] [(5, .im (.sc (.iface 3 (.int .i64 0))))] [3, 5, 11, 12, 13] [] [0, 2] [(0 : Int) ≤ 1, (1 : Int) < ((([[.sc (.iface 9 (.string ⟨#[115, 101, 114, 105, 101, 115]⟩))], [.sc (.iface 3 (.int .i64 0))], [.sc (.iface 9 (.string ⟨#[104, 101, 97, 100]⟩))], [.sc (.iface 3 (.int .i64 0))], [.sc (.iface 9 (.string ⟨#[98, 108, 111, 99, 107, 115]⟩))], [.sc (.iface 3 (.int .i64 0))], [.sc (.iface 9 (.string ⟨#[109, 97, 114, 107]⟩))], [.sc (.iface 2 (.int .i64 0))], [.sc (.iface 9 (.string ⟨#[109, 111, 114, 101]⟩))], [.sc (.iface 4 (.bool false))], [.sc (.iface 9 (.string ⟨#[114, 101, 97, 100, 111, 110, 108, 121]⟩))], [.sc (.iface 4 (.bool false))]] : List (List Im)).length : Nat) : Int), ([[.sc (.iface 9 (.string ⟨#[115, 101, 114, 105, 101, 115]⟩))], [.sc (.iface 3 (.int .i64 0))], [.sc (.iface 9 (.string ⟨#[104, 101, 97, 100]⟩))], [.sc (.iface 3 (.int .i64 0))], [.sc (.iface 9 (.string ⟨#[98, 108, 111, 99, 107, 115]⟩))], [.sc (.iface 3 (.int .i64 0))], [.sc (.iface 9 (.string ⟨#[109, 97, 114, 107]⟩))], [.sc (.iface 2 (.int .i64 0))], [.sc (.iface 9 (.string ⟨#[109, 111, 114, 101]⟩))], [.sc (.iface 4 (.bool false))], [.sc (.iface 9 (.string ⟨#[114, 101, 97, 100, 111, 110, 108, 121]⟩))], [.sc (.iface 4 (.bool false))]] : List (List Im))[1]? = some [.sc (.iface 3 (.int .i64 0))]] ⟨by decide, by decide, rfl, trivial⟩ ?_
  refine sO hP hn hm [] [(17, .im (.sc (.iface 3 (.int .i64 0))))] [3, 11, 12, 13, 17] [] [0, 2] ?_
  refine AWp.block ?_
  refine sO hP hn hm [(0, .more (xAssert false))] [(19, bV false), (20, sV (⟨#[]⟩ : ByteArray))] [3, 11, 12, 13, 17, 19, 20] [] [0, 2] ?_
  refine AWp.cond false (by kernel_rfl) (fun h => nomatch h) (fun _ => ?_)
  refine sO hP hn hm [(0, .more (xAssert true))] [(26, bV true), (27, iV .i64 0)] [3, 11, 12, 13, 17, 26, 27] [] [0, 2] ?_
  refine AWp.cond true (by kernel_rfl) (fun _ => ?_) (fun h => nomatch h)
  refine sO hP hn hm [] [(7, iV .i64 0)] [3, 7, 11, 12, 13] [] [0, 2] ?_
  refine rG hP hn hm [(2, .callz [] [] [] [] 0 (sV (⟨#[48]⟩ : ByteArray)) []), (3, .app 3 [[sI (⟨#[48]⟩ : ByteArray)]]), (4, .app 4 [[sI (⟨#[115, 101, 114, 105, 101, 115]⟩ : ByteArray)], [sI (⟨#[48]⟩ : ByteArray)]])] [(3, .own 4)] [3, 11, 12, 13] [(4, some (.row 1 9 [[sI (⟨#[115, 101, 114, 105, 101, 115]⟩ : ByteArray)], [sI (⟨#[48]⟩ : ByteArray)]]))] [0, 4] [_, _, ([[sI (⟨#[48]⟩ : ByteArray)]] : List (List Im)) = [[sI (⟨#[48]⟩ : ByteArray)]], [[sI (⟨#[115, 101, 114, 105, 101, 115]⟩ : ByteArray)], [sI (⟨#[48]⟩ : ByteArray)]] = ([[sI (⟨#[115, 101, 114, 105, 101, 115]⟩ : ByteArray)]] : List (List Im)) ++ ([[sI (⟨#[48]⟩ : ByteArray)]] : List (List Im)), ∀ c ∈ ([[sI (⟨#[48]⟩ : ByteArray)]] : List (List Im)), c.length = 1, ∀ c ∈ ([[sI (⟨#[48]⟩ : ByteArray)]] : List (List Im)), leaves (c.map .im) = true, (([[sI (⟨#[115, 101, 114, 105, 101, 115]⟩ : ByteArray)]] : List (List Im)).length + ([[sI (⟨#[48]⟩ : ByteArray)]] : List (List Im)).length) * 16 ≤ 140737488355328] ⟨Tryz.call41, cx41_Itoa, rfl, rfl, by simp, by decide, by decide, trivial⟩ ?_
  show AWp Γ _ _ _
  refine rO hP hn hm [] [(13, iV .i64 2)] [3, 11, 12, 13] [] [0, 4] ?_
  show LWp Γ _ _ _
  refine LWp.round ?_
  refine sO hP hn hm [] [(14, bV true)] [3, 11, 12, 13, 14] [] [0, 4] ?_
  refine AWp.seq ?_
  refine AWp.cond true (by kernel_rfl) (fun _ => ?_) (fun h => nomatch h)
  refine AWp.skip ?_
  show AWp Γ _ _ _
  refine AWp.seq ?_
  refine AWp.block ?_
  refine sR hP hn hm [(1, .c [.sc (.iface 9 (.string ⟨#[104, 101, 97, 100]⟩))])] [(5, .im (.sc (.iface 9 (.string ⟨#[104, 101, 97, 100]⟩))))] [3, 5, 11, 12, 13] [] [0, 4] [(0 : Int) ≤ 2, (2 : Int) < ((([[.sc (.iface 9 (.string ⟨#[115, 101, 114, 105, 101, 115]⟩))], [.sc (.iface 3 (.int .i64 0))], [.sc (.iface 9 (.string ⟨#[104, 101, 97, 100]⟩))], [.sc (.iface 3 (.int .i64 0))], [.sc (.iface 9 (.string ⟨#[98, 108, 111, 99, 107, 115]⟩))], [.sc (.iface 3 (.int .i64 0))], [.sc (.iface 9 (.string ⟨#[109, 97, 114, 107]⟩))], [.sc (.iface 2 (.int .i64 0))], [.sc (.iface 9 (.string ⟨#[109, 111, 114, 101]⟩))], [.sc (.iface 4 (.bool false))], [.sc (.iface 9 (.string ⟨#[114, 101, 97, 100, 111, 110, 108, 121]⟩))], [.sc (.iface 4 (.bool false))]] : List (List Im)).length : Nat) : Int), ([[.sc (.iface 9 (.string ⟨#[115, 101, 114, 105, 101, 115]⟩))], [.sc (.iface 3 (.int .i64 0))], [.sc (.iface 9 (.string ⟨#[104, 101, 97, 100]⟩))], [.sc (.iface 3 (.int .i64 0))], [.sc (.iface 9 (.string ⟨#[98, 108, 111, 99, 107, 115]⟩))], [.sc (.iface 3 (.int .i64 0))], [.sc (.iface 9 (.string ⟨#[109, 97, 114, 107]⟩))], [.sc (.iface 2 (.int .i64 0))], [.sc (.iface 9 (.string ⟨#[109, 111, 114, 101]⟩))], [.sc (.iface 4 (.bool false))], [.sc (.iface 9 (.string ⟨#[114, 101, 97, 100, 111, 110, 108, 121]⟩))], [.sc (.iface 4 (.bool false))]] : List (List Im))[2]? = some [.sc (.iface 9 (.string ⟨#[104, 101, 97, 100]⟩))]] ⟨by decide, by decide, rfl, trivial⟩ ?_
  refine sO hP hn hm [] [(17, .im (.sc (.iface 9 (.string ⟨#[104, 101, 97, 100]⟩))))] [3, 11, 12, 13, 17] [] [0, 4] ?_
  refine AWp.block ?_
  refine sO hP hn hm [(0, .more (xAssert true))] [(19, bV true), (20, sV (⟨#[104, 101, 97, 100]⟩ : ByteArray))] [3, 11, 12, 13, 17, 19, 20] [] [0, 4] ?_
  refine AWp.cond true (by kernel_rfl) (fun _ => ?_) (fun h => nomatch h)
  refine sO hP hn hm [] [(6, sV (⟨#[104, 101, 97, 100]⟩ : ByteArray))] [3, 6, 11, 12, 13] [] [0, 4] ?_
  refine rG hP hn hm [(2, .app 5 [[sI (⟨#[104, 101, 97, 100]⟩ : ByteArray)]]), (3, .app 6 [[sI (⟨#[115, 101, 114, 105, 101, 115]⟩ : ByteArray)], [sI (⟨#[48]⟩ : ByteArray)], [sI (⟨#[104, 101, 97, 100]⟩ : ByteArray)]])] [(3, .own 6)] [3, 11, 12, 13] [(6, some (.row 1 9 [[sI (⟨#[115, 101, 114, 105, 101, 115]⟩ : ByteArray)], [sI (⟨#[48]⟩ : ByteArray)], [sI (⟨#[104, 101, 97, 100]⟩ : ByteArray)]]))] [0, 6] [([[sI (⟨#[104, 101, 97, 100]⟩ : ByteArray)]] : List (List Im)) = [[sI (⟨#[104, 101, 97, 100]⟩ : ByteArray)]], [[sI (⟨#[115, 101, 114, 105, 101, 115]⟩ : ByteArray)], [sI (⟨#[48]⟩ : ByteArray)], [sI (⟨#[104, 101, 97, 100]⟩ : ByteArray)]] = ([[sI (⟨#[115, 101, 114, 105, 101, 115]⟩ : ByteArray)], [sI (⟨#[48]⟩ : ByteArray)]] : List (List Im)) ++ ([[sI (⟨#[104, 101, 97, 100]⟩ : ByteArray)]] : List (List Im)), ∀ c ∈ ([[sI (⟨#[104, 101, 97, 100]⟩ : ByteArray)]] : List (List Im)), c.length = 1, ∀ c ∈ ([[sI (⟨#[104, 101, 97, 100]⟩ : ByteArray)]] : List (List Im)), leaves (c.map .im) = true, (([[sI (⟨#[115, 101, 114, 105, 101, 115]⟩ : ByteArray)], [sI (⟨#[48]⟩ : ByteArray)]] : List (List Im)).length + ([[sI (⟨#[104, 101, 97, 100]⟩ : ByteArray)]] : List (List Im)).length) * 16 ≤ 140737488355328] ⟨rfl, rfl, by simp, by decide, by decide, trivial⟩ ?_
  show AWp Γ _ _ _
  refine rO hP hn hm [] [(13, iV .i64 3)] [3, 11, 12, 13] [] [0, 6] ?_
  show LWp Γ _ _ _
  refine LWp.round ?_
  refine sO hP hn hm [] [(14, bV true)] [3, 11, 12, 13, 14] [] [0, 6] ?_
  refine AWp.seq ?_
  refine AWp.cond true (by kernel_rfl) (fun _ => ?_) (fun h => nomatch h)
  refine AWp.skip ?_
  show AWp Γ _ _ _
  refine AWp.seq ?_
  refine AWp.block ?_
  refine sR hP hn hm [(1, .c [.sc (.iface 3 (.int .i64 0))])] [(5, .im (.sc (.iface 3 (.int .i64 0))))] [3, 5, 11, 12, 13] [] [0, 6] [(0 : Int) ≤ 3, (3 : Int) < ((([[.sc (.iface 9 (.string ⟨#[115, 101, 114, 105, 101, 115]⟩))], [.sc (.iface 3 (.int .i64 0))], [.sc (.iface 9 (.string ⟨#[104, 101, 97, 100]⟩))], [.sc (.iface 3 (.int .i64 0))], [.sc (.iface 9 (.string ⟨#[98, 108, 111, 99, 107, 115]⟩))], [.sc (.iface 3 (.int .i64 0))], [.sc (.iface 9 (.string ⟨#[109, 97, 114, 107]⟩))], [.sc (.iface 2 (.int .i64 0))], [.sc (.iface 9 (.string ⟨#[109, 111, 114, 101]⟩))], [.sc (.iface 4 (.bool false))], [.sc (.iface 9 (.string ⟨#[114, 101, 97, 100, 111, 110, 108, 121]⟩))], [.sc (.iface 4 (.bool false))]] : List (List Im)).length : Nat) : Int), ([[.sc (.iface 9 (.string ⟨#[115, 101, 114, 105, 101, 115]⟩))], [.sc (.iface 3 (.int .i64 0))], [.sc (.iface 9 (.string ⟨#[104, 101, 97, 100]⟩))], [.sc (.iface 3 (.int .i64 0))], [.sc (.iface 9 (.string ⟨#[98, 108, 111, 99, 107, 115]⟩))], [.sc (.iface 3 (.int .i64 0))], [.sc (.iface 9 (.string ⟨#[109, 97, 114, 107]⟩))], [.sc (.iface 2 (.int .i64 0))], [.sc (.iface 9 (.string ⟨#[109, 111, 114, 101]⟩))], [.sc (.iface 4 (.bool false))], [.sc (.iface 9 (.string ⟨#[114, 101, 97, 100, 111, 110, 108, 121]⟩))], [.sc (.iface 4 (.bool false))]] : List (List Im))[3]? = some [.sc (.iface 3 (.int .i64 0))]] ⟨by decide, by decide, rfl, trivial⟩ ?_
  refine sO hP hn hm [] [(17, .im (.sc (.iface 3 (.int .i64 0))))] [3, 11, 12, 13, 17] [] [0, 6] ?_
  refine AWp.block ?_
  refine sO hP hn hm [(0, .more (xAssert false))] [(19, bV false), (20, sV (⟨#[]⟩ : ByteArray))] [3, 11, 12, 13, 17, 19, 20] [] [0, 6] ?_
  refine AWp.cond false (by kernel_rfl) (fun h => nomatch h) (fun _ => ?_)
  refine sO hP hn hm [(0, .more (xAssert true))] [(26, bV true), (27, iV .i64 0)] [3, 11, 12, 13, 17, 26, 27] [] [0, 6] ?_
  refine AWp.cond true (by kernel_rfl) (fun _ => ?_) (fun h => nomatch h)
  refine sO hP hn hm [] [(7, iV .i64 0)] [3, 7, 11, 12, 13] [] [0, 6] ?_
  refine rG hP hn hm [(2, .callz [] [] [] [] 0 (sV (⟨#[48]⟩ : ByteArray)) []), (3, .app 7 [[sI (⟨#[48]⟩ : ByteArray)]]), (4, .app 8 [[sI (⟨#[115, 101, 114, 105, 101, 115]⟩ : ByteArray)], [sI (⟨#[48]⟩ : ByteArray)], [sI (⟨#[104, 101, 97, 100]⟩ : ByteArray)], [sI (⟨#[48]⟩ : ByteArray)]])] [(3, .own 8)] [3, 11, 12, 13] [(8, some (.row 1 9 [[sI (⟨#[115, 101, 114, 105, 101, 115]⟩ : ByteArray)], [sI (⟨#[48]⟩ : ByteArray)], [sI (⟨#[104, 101, 97, 100]⟩ : ByteArray)], [sI (⟨#[48]⟩ : ByteArray)]]))] [0, 8] [_, _, ([[sI (⟨#[48]⟩ : ByteArray)]] : List (List Im)) = [[sI (⟨#[48]⟩ : ByteArray)]], [[sI (⟨#[115, 101, 114, 105, 101, 115]⟩ : ByteArray)], [sI (⟨#[48]⟩ : ByteArray)], [sI (⟨#[104, 101, 97, 100]⟩ : ByteArray)], [sI (⟨#[48]⟩ : ByteArray)]] = ([[sI (⟨#[115, 101, 114, 105, 101, 115]⟩ : ByteArray)], [sI (⟨#[48]⟩ : ByteArray)], [sI (⟨#[104, 101, 97, 100]⟩ : ByteArray)]] : List (List Im)) ++ ([[sI (⟨#[48]⟩ : ByteArray)]] : List (List Im)), ∀ c ∈ ([[sI (⟨#[48]⟩ : ByteArray)]] : List (List Im)), c.length = 1, ∀ c ∈ ([[sI (⟨#[48]⟩ : ByteArray)]] : List (List Im)), leaves (c.map .im) = true, (([[sI (⟨#[115, 101, 114, 105, 101, 115]⟩ : ByteArray)], [sI (⟨#[48]⟩ : ByteArray)], [sI (⟨#[104, 101, 97, 100]⟩ : ByteArray)]] : List (List Im)).length + ([[sI (⟨#[48]⟩ : ByteArray)]] : List (List Im)).length) * 16 ≤ 140737488355328] ⟨Tryz.call41, cx41_Itoa, rfl, rfl, by simp, by decide, by decide, trivial⟩ ?_
  show AWp Γ _ _ _
  refine rO hP hn hm [] [(13, iV .i64 4)] [3, 11, 12, 13] [] [0, 8] ?_
  show LWp Γ _ _ _
  refine LWp.round ?_
  refine sO hP hn hm [] [(14, bV true)] [3, 11, 12, 13, 14] [] [0, 8] ?_
  refine AWp.seq ?_
  refine AWp.cond true (by kernel_rfl) (fun _ => ?_) (fun h => nomatch h)
  refine AWp.skip ?_
  show AWp Γ _ _ _
  refine AWp.seq ?_
  refine AWp.block ?_
  refine sR hP hn hm [(1, .c [.sc (.iface 9 (.string ⟨#[98, 108, 111, 99, 107, 115]⟩))])] [(5, .im (.sc (.iface 9 (.string ⟨#[98, 108, 111, 99, 107, 115]⟩))))] [3, 5, 11, 12, 13] [] [0, 8] [(0 : Int) ≤ 4, (4 : Int) < ((([[.sc (.iface 9 (.string ⟨#[115, 101, 114, 105, 101, 115]⟩))], [.sc (.iface 3 (.int .i64 0))], [.sc (.iface 9 (.string ⟨#[104, 101, 97, 100]⟩))], [.sc (.iface 3 (.int .i64 0))], [.sc (.iface 9 (.string ⟨#[98, 108, 111, 99, 107, 115]⟩))], [.sc (.iface 3 (.int .i64 0))], [.sc (.iface 9 (.string ⟨#[109, 97, 114, 107]⟩))], [.sc (.iface 2 (.int .i64 0))], [.sc (.iface 9 (.string ⟨#[109, 111, 114, 101]⟩))], [.sc (.iface 4 (.bool false))], [.sc (.iface 9 (.string ⟨#[114, 101, 97, 100, 111, 110, 108, 121]⟩))], [.sc (.iface 4 (.bool false))]] : List (List Im)).length : Nat) : Int), ([[.sc (.iface 9 (.string ⟨#[115, 101, 114, 105, 101, 115]⟩))], [.sc (.iface 3 (.int .i64 0))], [.sc (.iface 9 (.string ⟨#[104, 101, 97, 100]⟩))], [.sc (.iface 3 (.int .i64 0))], [.sc (.iface 9 (.string ⟨#[98, 108, 111, 99, 107, 115]⟩))], [.sc (.iface 3 (.int .i64 0))], [.sc (.iface 9 (.string ⟨#[109, 97, 114, 107]⟩))], [.sc (.iface 2 (.int .i64 0))], [.sc (.iface 9 (.string ⟨#[109, 111, 114, 101]⟩))], [.sc (.iface 4 (.bool false))], [.sc (.iface 9 (.string ⟨#[114, 101, 97, 100, 111, 110, 108, 121]⟩))], [.sc (.iface 4 (.bool false))]] : List (List Im))[4]? = some [.sc (.iface 9 (.string ⟨#[98, 108, 111, 99, 107, 115]⟩))]] ⟨by decide, by decide, rfl, trivial⟩ ?_
  refine sO hP hn hm [] [(17, .im (.sc (.iface 9 (.string ⟨#[98, 108, 111, 99, 107, 115]⟩))))] [3, 11, 12, 13, 17] [] [0, 8] ?_
  refine AWp.block ?_
  refine sO hP hn hm [(0, .more (xAssert true))] [(19, bV true), (20, sV (⟨#[98, 108, 111, 99, 107, 115]⟩ : ByteArray))] [3, 11, 12, 13, 17, 19, 20] [] [0, 8] ?_
  refine AWp.cond true (by kernel_rfl) (fun _ => ?_) (fun h => nomatch h)
  refine sO hP hn hm [] [(6, sV (⟨#[98, 108, 111, 99, 107, 115]⟩ : ByteArray))] [3, 6, 11, 12, 13] [] [0, 8] ?_
  refine rG hP hn hm [(2, .app 9 [[sI (⟨#[98, 108, 111, 99, 107, 115]⟩ : ByteArray)]]), (3, .app 10 [[sI (⟨#[115, 101, 114, 105, 101, 115]⟩ : ByteArray)], [sI (⟨#[48]⟩ : ByteArray)], [sI (⟨#[104, 101, 97, 100]⟩ : ByteArray)], [sI (⟨#[48]⟩ : ByteArray)], [sI (⟨#[98, 108, 111, 99, 107, 115]⟩ : ByteArray)]])] [(3, .own 10)] [3, 11, 12, 13] [(10, some (.row 1 9 [[sI (⟨#[115, 101, 114, 105, 101, 115]⟩ : ByteArray)], [sI (⟨#[48]⟩ : ByteArray)], [sI (⟨#[104, 101, 97, 100]⟩ : ByteArray)], [sI (⟨#[48]⟩ : ByteArray)], [sI (⟨#[98, 108, 111, 99, 107, 115]⟩ : ByteArray)]]))] [0, 10] [([[sI (⟨#[98, 108, 111, 99, 107, 115]⟩ : ByteArray)]] : List (List Im)) = [[sI (⟨#[98, 108, 111, 99, 107, 115]⟩ : ByteArray)]], [[sI (⟨#[115, 101, 114, 105, 101, 115]⟩ : ByteArray)], [sI (⟨#[48]⟩ : ByteArray)], [sI (⟨#[104, 101, 97, 100]⟩ : ByteArray)], [sI (⟨#[48]⟩ : ByteArray)], [sI (⟨#[98, 108, 111, 99, 107, 115]⟩ : ByteArray)]] = ([[sI (⟨#[115, 101, 114, 105, 101, 115]⟩ : ByteArray)], [sI (⟨#[48]⟩ : ByteArray)], [sI (⟨#[104, 101, 97, 100]⟩ : ByteArray)], [sI (⟨#[48]⟩ : ByteArray)]] : List (List Im)) ++ ([[sI (⟨#[98, 108, 111, 99, 107, 115]⟩ : ByteArray)]] : List (List Im)), ∀ c ∈ ([[sI (⟨#[98, 108, 111, 99, 107, 115]⟩ : ByteArray)]] : List (List Im)), c.length = 1, ∀ c ∈ ([[sI (⟨#[98, 108, 111, 99, 107, 115]⟩ : ByteArray)]] : List (List Im)), leaves (c.map .im) = true, (([[sI (⟨#[115, 101, 114, 105, 101, 115]⟩ : ByteArray)], [sI (⟨#[48]⟩ : ByteArray)], [sI (⟨#[104, 101, 97, 100]⟩ : ByteArray)], [sI (⟨#[48]⟩ : ByteArray)]] : List (List Im)).length + ([[sI (⟨#[98, 108, 111, 99, 107, 115]⟩ : ByteArray)]] : List (List Im)).length) * 16 ≤ 140737488355328] ⟨rfl, rfl, by simp, by decide, by decide, trivial⟩ ?_
  show AWp Γ _ _ _
  refine rO hP hn hm [] [(13, iV .i64 5)] [3, 11, 12, 13] [] [0, 10] ?_
  show LWp Γ _ _ _
  refine LWp.round ?_
  refine sO hP hn hm [] [(14, bV true)] [3, 11, 12, 13, 14] [] [0, 10] ?_
  refine AWp.seq ?_
  refine AWp.cond true (by kernel_rfl) (fun _ => ?_) (fun h => nomatch h)
  refine AWp.skip ?_
  show AWp Γ _ _ _
  refine AWp.seq ?_
  refine AWp.block ?_
  refine sR hP hn hm [(1, .c [.sc (.iface 3 (.int .i64 0))])] [(5, .im (.sc (.iface 3 (.int .i64 0))))] [3, 5, 11, 12, 13] [] [0, 10] [(0 : Int) ≤ 5, (5 : Int) < ((([[.sc (.iface 9 (.string ⟨#[115, 101, 114, 105, 101, 115]⟩))], [.sc (.iface 3 (.int .i64 0))], [.sc (.iface 9 (.string ⟨#[104, 101, 97, 100]⟩))], [.sc (.iface 3 (.int .i64 0))], [.sc (.iface 9 (.string ⟨#[98, 108, 111, 99, 107, 115]⟩))], [.sc (.iface 3 (.int .i64 0))], [.sc (.iface 9 (.string ⟨#[109, 97, 114, 107]⟩))], [.sc (.iface 2 (.int .i64 0))], [.sc (.iface 9 (.string ⟨#[109, 111, 114, 101]⟩))], [.sc (.iface 4 (.bool false))], [.sc (.iface 9 (.string ⟨#[114, 101, 97, 100, 111, 110, 108, 121]⟩))], [.sc (.iface 4 (.bool false))]] : List (List Im)).length : Nat) : Int), ([[.sc (.iface 9 (.string ⟨#[115, 101, 114, 105, 101, 115]⟩))], [.sc (.iface 3 (.int .i64 0))], [.sc (.iface 9 (.string ⟨#[104, 101, 97, 100]⟩))], [.sc (.iface 3 (.int .i64 0))], [.sc (.iface 9 (.string ⟨#[98, 108, 111, 99, 107, 115]⟩))], [.sc (.iface 3 (.int .i64 0))], [.sc (.iface 9 (.string ⟨#[109, 97, 114, 107]⟩))], [.sc (.iface 2 (.int .i64 0))], [.sc (.iface 9 (.string ⟨#[109, 111, 114, 101]⟩))], [.sc (.iface 4 (.bool false))], [.sc (.iface 9 (.string ⟨#[114, 101, 97, 100, 111, 110, 108, 121]⟩))], [.sc (.iface 4 (.bool false))]] : List (List Im))[5]? = some [.sc (.iface 3 (.int .i64 0))]] ⟨by decide, by decide, rfl, trivial⟩ ?_
  refine sO hP hn hm [] [(17, .im (.sc (.iface 3 (.int .i64 0))))] [3, 11, 12, 13, 17] [] [0, 10] ?_
  refine AWp.block ?_
  refine sO hP hn hm [(0, .more (xAssert false))] [(19, bV false), (20, sV (⟨#[]⟩ : ByteArray))] [3, 11, 12, 13, 17, 19, 20] [] [0, 10] ?_
  refine AWp.cond false (by kernel_rfl) (fun h => nomatch h) (fun _ => ?_)
  refine sO hP hn hm [(0, .more (xAssert true))] [(26, bV true), (27, iV .i64 0)] [3, 11, 12, 13, 17, 26, 27] [] [0, 10] ?_
  refine AWp.cond true (by kernel_rfl) (fun _ => ?_) (fun h => nomatch h)
  refine sO hP hn hm [] [(7, iV .i64 0)] [3, 7, 11, 12, 13] [] [0, 10] ?_
  refine rG hP hn hm [(2, .callz [] [] [] [] 0 (sV (⟨#[48]⟩ : ByteArray)) []), (3, .app 11 [[sI (⟨#[48]⟩ : ByteArray)]]), (4, .app 12 [[sI (⟨#[115, 101, 114, 105, 101, 115]⟩ : ByteArray)], [sI (⟨#[48]⟩ : ByteArray)], [sI (⟨#[104, 101, 97, 100]⟩ : ByteArray)], [sI (⟨#[48]⟩ : ByteArray)], [sI (⟨#[98, 108, 111, 99, 107, 115]⟩ : ByteArray)], [sI (⟨#[48]⟩ : ByteArray)]])] [(3, .own 12)] [3, 11, 12, 13] [(12, some (.row 1 9 [[sI (⟨#[115, 101, 114, 105, 101, 115]⟩ : ByteArray)], [sI (⟨#[48]⟩ : ByteArray)], [sI (⟨#[104, 101, 97, 100]⟩ : ByteArray)], [sI (⟨#[48]⟩ : ByteArray)], [sI (⟨#[98, 108, 111, 99, 107, 115]⟩ : ByteArray)], [sI (⟨#[48]⟩ : ByteArray)]]))] [0, 12] [_, _, ([[sI (⟨#[48]⟩ : ByteArray)]] : List (List Im)) = [[sI (⟨#[48]⟩ : ByteArray)]], [[sI (⟨#[115, 101, 114, 105, 101, 115]⟩ : ByteArray)], [sI (⟨#[48]⟩ : ByteArray)], [sI (⟨#[104, 101, 97, 100]⟩ : ByteArray)], [sI (⟨#[48]⟩ : ByteArray)], [sI (⟨#[98, 108, 111, 99, 107, 115]⟩ : ByteArray)], [sI (⟨#[48]⟩ : ByteArray)]] = ([[sI (⟨#[115, 101, 114, 105, 101, 115]⟩ : ByteArray)], [sI (⟨#[48]⟩ : ByteArray)], [sI (⟨#[104, 101, 97, 100]⟩ : ByteArray)], [sI (⟨#[48]⟩ : ByteArray)], [sI (⟨#[98, 108, 111, 99, 107, 115]⟩ : ByteArray)]] : List (List Im)) ++ ([[sI (⟨#[48]⟩ : ByteArray)]] : List (List Im)), ∀ c ∈ ([[sI (⟨#[48]⟩ : ByteArray)]] : List (List Im)), c.length = 1, ∀ c ∈ ([[sI (⟨#[48]⟩ : ByteArray)]] : List (List Im)), leaves (c.map .im) = true, (([[sI (⟨#[115, 101, 114, 105, 101, 115]⟩ : ByteArray)], [sI (⟨#[48]⟩ : ByteArray)], [sI (⟨#[104, 101, 97, 100]⟩ : ByteArray)], [sI (⟨#[48]⟩ : ByteArray)], [sI (⟨#[98, 108, 111, 99, 107, 115]⟩ : ByteArray)]] : List (List Im)).length + ([[sI (⟨#[48]⟩ : ByteArray)]] : List (List Im)).length) * 16 ≤ 140737488355328] ⟨Tryz.call41, cx41_Itoa, rfl, rfl, by simp, by decide, by decide, trivial⟩ ?_
  show AWp Γ _ _ _
  refine rO hP hn hm [] [(13, iV .i64 6)] [3, 11, 12, 13] [] [0, 12] ?_
  show LWp Γ _ _ _
  refine LWp.round ?_
  refine sO hP hn hm [] [(14, bV true)] [3, 11, 12, 13, 14] [] [0, 12] ?_
  refine AWp.seq ?_
  refine AWp.cond true (by kernel_rfl) (fun _ => ?_) (fun h => nomatch h)
  refine AWp.skip ?_
  show AWp Γ _ _ _
  refine AWp.seq ?_
  refine AWp.block ?_
  refine sR hP hn hm [(1, .c [.sc (.iface 9 (.string ⟨#[109, 97, 114, 107]⟩))])] [(5, .im (.sc (.iface 9 (.string ⟨#[109, 97, 114, 107]⟩))))] [3, 5, 11, 12, 13] [] [0, 12] [(0 : Int) ≤ 6, (6 : Int) < ((([[.sc (.iface 9 (.string ⟨#[115, 101, 114, 105, 101, 115]⟩))], [.sc (.iface 3 (.int .i64 0))], [.sc (.iface 9 (.string ⟨#[104, 101, 97, 100]⟩))], [.sc (.iface 3 (.int .i64 0))], [.sc (.iface 9 (.string ⟨#[98, 108, 111, 99, 107, 115]⟩))], [.sc (.iface 3 (.int .i64 0))], [.sc (.iface 9 (.string ⟨#[109, 97, 114, 107]⟩))], [.sc (.iface 2 (.int .i64 0))], [.sc (.iface 9 (.string ⟨#[109, 111, 114, 101]⟩))], [.sc (.iface 4 (.bool false))], [.sc (.iface 9 (.string ⟨#[114, 101, 97, 100, 111, 110, 108, 121]⟩))], [.sc (.iface 4 (.bool false))]] : List (List Im)).length : Nat) : Int), ([[.sc (.iface 9 (.string ⟨#[115, 101, 114, 105, 101, 115]⟩))], [.sc (.iface 3 (.int .i64 0))], [.sc (.iface 9 (.string ⟨#[104, 101, 97, 100]⟩))], [.sc (.iface 3 (.int .i64 0))], [.sc (.iface 9 (.string ⟨#[98, 108, 111, 99, 107, 115]⟩))], [.sc (.iface 3 (.int .i64 0))], [.sc (.iface 9 (.string ⟨#[109, 97, 114, 107]⟩))], [.sc (.iface 2 (.int .i64 0))], [.sc (.iface 9 (.string ⟨#[109, 111, 114, 101]⟩))], [.sc (.iface 4 (.bool false))], [.sc (.iface 9 (.string ⟨#[114, 101, 97, 100, 111, 110, 108, 121]⟩))], [.sc (.iface 4 (.bool false))]] : List (List Im))[6]? = some [.sc (.iface 9 (.string ⟨#[109, 97, 114, 107]⟩))]] ⟨by decide, by decide, rfl, trivial⟩ ?_
  refine sO hP hn hm [] [(17, .im (.sc (.iface 9 (.string ⟨#[109, 97, 114, 107]⟩))))] [3, 11, 12, 13, 17] [] [0, 12] ?_
  refine AWp.block ?_
  refine sO hP hn hm [(0, .more (xAssert true))] [(19, bV true), (20, sV (⟨#[109, 97, 114, 107]⟩ : ByteArray))] [3, 11, 12, 13, 17, 19, 20] [] [0, 12] ?_
  refine AWp.cond true (by kernel_rfl) (fun _ => ?_) (fun h => nomatch h)
  refine sO hP hn hm [] [(6, sV (⟨#[109, 97, 114, 107]⟩ : ByteArray))] [3, 6, 11, 12, 13] [] [0, 12] ?_
  refine rG hP hn hm [(2, .app 13 [[sI (⟨#[109, 97, 114, 107]⟩ : ByteArray)]]), (3, .app 14 [[sI (⟨#[115, 101, 114, 105, 101, 115]⟩ : ByteArray)], [sI (⟨#[48]⟩ : ByteArray)], [sI (⟨#[104, 101, 97, 100]⟩ : ByteArray)], [sI (⟨#[48]⟩ : ByteArray)], [sI (⟨#[98, 108, 111, 99, 107, 115]⟩ : ByteArray)], [sI (⟨#[48]⟩ : ByteArray)], [sI (⟨#[109, 97, 114, 107]⟩ : ByteArray)]])] [(3, .own 14)] [3, 11, 12, 13] [(14, some (.row 1 9 [[sI (⟨#[115, 101, 114, 105, 101, 115]⟩ : ByteArray)], [sI (⟨#[48]⟩ : ByteArray)], [sI (⟨#[104, 101, 97, 100]⟩ : ByteArray)], [sI (⟨#[48]⟩ : ByteArray)], [sI (⟨#[98, 108, 111, 99, 107, 115]⟩ : ByteArray)], [sI (⟨#[48]⟩ : ByteArray)], [sI (⟨#[109, 97, 114, 107]⟩ : ByteArray)]]))] [0, 14] [([[sI (⟨#[109, 97, 114, 107]⟩ : ByteArray)]] : List (List Im)) = [[sI (⟨#[109, 97, 114, 107]⟩ : ByteArray)]], [[sI (⟨#[115, 101, 114, 105, 101, 115]⟩ : ByteArray)], [sI (⟨#[48]⟩ : ByteArray)], [sI (⟨#[104, 101, 97, 100]⟩ : ByteArray)], [sI (⟨#[48]⟩ : ByteArray)], [sI (⟨#[98, 108, 111, 99, 107, 115]⟩ : ByteArray)], [sI (⟨#[48]⟩ : ByteArray)], [sI (⟨#[109, 97, 114, 107]⟩ : ByteArray)]] = ([[sI (⟨#[115, 101, 114, 105, 101, 115]⟩ : ByteArray)], [sI (⟨#[48]⟩ : ByteArray)], [sI (⟨#[104, 101, 97, 100]⟩ : ByteArray)], [sI (⟨#[48]⟩ : ByteArray)], [sI (⟨#[98, 108, 111, 99, 107, 115]⟩ : ByteArray)], [sI (⟨#[48]⟩ : ByteArray)]] : List (List Im)) ++ ([[sI (⟨#[109, 97, 114, 107]⟩ : ByteArray)]] : List (List Im)), ∀ c ∈ ([[sI (⟨#[109, 97, 114, 107]⟩ : ByteArray)]] : List (List Im)), c.length = 1, ∀ c ∈ ([[sI (⟨#[109, 97, 114, 107]⟩ : ByteArray)]] : List (List Im)), leaves (c.map .im) = true, (([[sI (⟨#[115, 101, 114, 105, 101, 115]⟩ : ByteArray)], [sI (⟨#[48]⟩ : ByteArray)], [sI (⟨#[104, 101, 97, 100]⟩ : ByteArray)], [sI (⟨#[48]⟩ : ByteArray)], [sI (⟨#[98, 108, 111, 99, 107, 115]⟩ : ByteArray)], [sI (⟨#[48]⟩ : ByteArray)]] : List (List Im)).length + ([[sI (⟨#[109, 97, 114, 107]⟩ : ByteArray)]] : List (List Im)).length) * 16 ≤ 140737488355328] ⟨rfl, rfl, by simp, by decide, by decide, trivial⟩ ?_
  show AWp Γ _ _ _
  refine rO hP hn hm [] [(13, iV .i64 7)] [3, 11, 12, 13] [] [0, 14] ?_
  show LWp Γ _ _ _
  refine LWp.round ?_
  refine sO hP hn hm [] [(14, bV true)] [3, 11, 12, 13, 14] [] [0, 14] ?_
  refine AWp.seq ?_
  refine AWp.cond true (by kernel_rfl) (fun _ => ?_) (fun h => nomatch h)
  refine AWp.skip ?_
  show AWp Γ _ _ _
  refine AWp.seq ?_
  refine AWp.block ?_
  refine sR hP hn hm [(1, .c [.sc (.iface 2 (.int .i64 0))])] [(5, .im (.sc (.iface 2 (.int .i64 0))))] [3, 5, 11, 12, 13] [] [0, 14] [(0 : Int) ≤ 7, (7 : Int) < ((([[.sc (.iface 9 (.string ⟨#[115, 101, 114, 105, 101, 115]⟩))], [.sc (.iface 3 (.int .i64 0))], [.sc (.iface 9 (.string ⟨#[104, 101, 97, 100]⟩))], [.sc (.iface 3 (.int .i64 0))], [.sc (.iface 9 (.string ⟨#[98, 108, 111, 99, 107, 115]⟩))], [.sc (.iface 3 (.int .i64 0))], [.sc (.iface 9 (.string ⟨#[109, 97, 114, 107]⟩))], [.sc (.iface 2 (.int .i64 0))], [.sc (.iface 9 (.string ⟨#[109, 111, 114, 101]⟩))], [.sc (.iface 4 (.bool false))], [.sc (.iface 9 (.string ⟨#[114, 101, 97, 100, 111, 110, 108, 121]⟩))], [.sc (.iface 4 (.bool false))]] : List (List Im)).length : Nat) : Int), ([[.sc (.iface 9 (.string ⟨#[115, 101, 114, 105, 101, 115]⟩))], [.sc (.iface 3 (.int .i64 0))], [.sc (.iface 9 (.string ⟨#[104, 101, 97, 100]⟩))], [.sc (.iface 3 (.int .i64 0))], [.sc (.iface 9 (.string ⟨#[98, 108, 111, 99, 107, 115]⟩))], [.sc (.iface 3 (.int .i64 0))], [.sc (.iface 9 (.string ⟨#[109, 97, 114, 107]⟩))], [.sc (.iface 2 (.int .i64 0))], [.sc (.iface 9 (.string ⟨#[109, 111, 114, 101]⟩))], [.sc (.iface 4 (.bool false))], [.sc (.iface 9 (.string ⟨#[114, 101, 97, 100, 111, 110, 108, 121]⟩))], [.sc (.iface 4 (.bool false))]] : List (List Im))[7]? = some [.sc (.iface 2 (.int .i64 0))]] ⟨by decide, by decide, rfl, trivial⟩ ?_
  refine sO hP hn hm [] [(17, .im (.sc (.iface 2 (.int .i64 0))))] [3, 11, 12, 13, 17] [] [0, 14] ?_
  refine AWp.block ?_
  refine sO hP hn hm [(0, .more (xAssert false))] [(19, bV false), (20, sV (⟨#[]⟩ : ByteArray))] [3, 11, 12, 13, 17, 19, 20] [] [0, 14] ?_
  refine AWp.cond false (by kernel_rfl) (fun h => nomatch h) (fun _ => ?_)
  refine sO hP hn hm [(0, .more (xAssert false))] [(26, bV false), (27, iV .i64 0)] [3, 11, 12, 13, 17, 26, 27] [] [0, 14] ?_
  refine AWp.cond false (by kernel_rfl) (fun h => nomatch h) (fun _ => ?_)
  refine sO hP hn hm [(0, .more (xAssert true))] [(34, bV true), (35, iV .i64 0)] [3, 11, 12, 13, 17, 34, 35] [] [0, 14] ?_
  refine AWp.cond true (by kernel_rfl) (fun _ => ?_) (fun h => nomatch h)
  refine sO hP hn hm [] [(8, iV .i64 0)] [3, 8, 11, 12, 13] [] [0, 14] ?_
  refine rG hP hn hm [(2, .callz [] [] [] [] 0 (sV (⟨#[48]⟩ : ByteArray)) []), (3, .app 15 [[sI (⟨#[48]⟩ : ByteArray)]]), (4, .app 16 [[sI (⟨#[115, 101, 114, 105, 101, 115]⟩ : ByteArray)], [sI (⟨#[48]⟩ : ByteArray)], [sI (⟨#[104, 101, 97, 100]⟩ : ByteArray)], [sI (⟨#[48]⟩ : ByteArray)], [sI (⟨#[98, 108, 111, 99, 107, 115]⟩ : ByteArray)], [sI (⟨#[48]⟩ : ByteArray)], [sI (⟨#[109, 97, 114, 107]⟩ : ByteArray)], [sI (⟨#[48]⟩ : ByteArray)]])] [(3, .own 16)] [3, 11, 12, 13] [(16, some (.row 1 9 [[sI (⟨#[115, 101, 114, 105, 101, 115]⟩ : ByteArray)], [sI (⟨#[48]⟩ : ByteArray)], [sI (⟨#[104, 101, 97, 100]⟩ : ByteArray)], [sI (⟨#[48]⟩ : ByteArray)], [sI (⟨#[98, 108, 111, 99, 107, 115]⟩ : ByteArray)], [sI (⟨#[48]⟩ : ByteArray)], [sI (⟨#[109, 97, 114, 107]⟩ : ByteArray)], [sI (⟨#[48]⟩ : ByteArray)]]))] [0, 16] [_, _, ([[sI (⟨#[48]⟩ : ByteArray)]] : List (List Im)) = [[sI (⟨#[48]⟩ : ByteArray)]], [[sI (⟨#[115, 101, 114, 105, 101, 115]⟩ : ByteArray)], [sI (⟨#[48]⟩ : ByteArray)], [sI (⟨#[104, 101, 97, 100]⟩ : ByteArray)], [sI (⟨#[48]⟩ : ByteArray)], [sI (⟨#[98, 108, 111, 99, 107, 115]⟩ : ByteArray)], [sI (⟨#[48]⟩ : ByteArray)], [sI (⟨#[109, 97, 114, 107]⟩ : ByteArray)], [sI (⟨#[48]⟩ : ByteArray)]] = ([[sI (⟨#[115, 101, 114, 105, 101, 115]⟩ : ByteArray)], [sI (⟨#[48]⟩ : ByteArray)], [sI (⟨#[104, 101, 97, 100]⟩ : ByteArray)], [sI (⟨#[48]⟩ : ByteArray)], [sI (⟨#[98, 108, 111, 99, 107, 115]⟩ : ByteArray)], [sI (⟨#[48]⟩ : ByteArray)], [sI (⟨#[109, 97, 114, 107]⟩ : ByteArray)]] : List (List Im)) ++ ([[sI (⟨#[48]⟩ : ByteArray)]] : List (List Im)), ∀ c ∈ ([[sI (⟨#[48]⟩ : ByteArray)]] : List (List Im)), c.length = 1, ∀ c ∈ ([[sI (⟨#[48]⟩ : ByteArray)]] : List (List Im)), leaves (c.map .im) = true, (([[sI (⟨#[115, 101, 114, 105, 101, 115]⟩ : ByteArray)], [sI (⟨#[48]⟩ : ByteArray)], [sI (⟨#[104, 101, 97, 100]⟩ : ByteArray)], [sI (⟨#[48]⟩ : ByteArray)], [sI (⟨#[98, 108, 111, 99, 107, 115]⟩ : ByteArray)], [sI (⟨#[48]⟩ : ByteArray)], [sI (⟨#[109, 97, 114, 107]⟩ : ByteArray)]] : List (List Im)).length + ([[sI (⟨#[48]⟩ : ByteArray)]] : List (List Im)).length) * 16 ≤ 140737488355328] ⟨Tryz.call42, cx87_FormatInt, rfl, rfl, by simp, by decide, by decide, trivial⟩ ?_
  show AWp Γ _ _ _
  refine rO hP hn hm [] [(13, iV .i64 8)] [3, 11, 12, 13] [] [0, 16] ?_
  show LWp Γ _ _ _
  refine LWp.round ?_
  refine sO hP hn hm [] [(14, bV true)] [3, 11, 12, 13, 14] [] [0, 16] ?_
  refine AWp.seq ?_
  refine AWp.cond true (by kernel_rfl) (fun _ => ?_) (fun h => nomatch h)
  refine AWp.skip ?_
  show AWp Γ _ _ _
  refine AWp.seq ?_
  refine AWp.block ?_
  refine sR hP hn hm [(1, .c [.sc (.iface 9 (.string ⟨#[109, 111, 114, 101]⟩))])] [(5, .im (.sc (.iface 9 (.string ⟨#[109, 111, 114, 101]⟩))))] [3, 5, 11, 12, 13] [] [0, 16] [(0 : Int) ≤ 8, (8 : Int) < ((([[.sc (.iface 9 (.string ⟨#[115, 101, 114, 105, 101, 115]⟩))], [.sc (.iface 3 (.int .i64 0))], [.sc (.iface 9 (.string ⟨#[104, 101, 97, 100]⟩))], [.sc (.iface 3 (.int .i64 0))], [.sc (.iface 9 (.string ⟨#[98, 108, 111, 99, 107, 115]⟩))], [.sc (.iface 3 (.int .i64 0))], [.sc (.iface 9 (.string ⟨#[109, 97, 114, 107]⟩))], [.sc (.iface 2 (.int .i64 0))], [.sc (.iface 9 (.string ⟨#[109, 111, 114, 101]⟩))], [.sc (.iface 4 (.bool false))], [.sc (.iface 9 (.string ⟨#[114, 101, 97, 100, 111, 110, 108, 121]⟩))], [.sc (.iface 4 (.bool false))]] : List (List Im)).length : Nat) : Int), ([[.sc (.iface 9 (.string ⟨#[115, 101, 114, 105, 101, 115]⟩))], [.sc (.iface 3 (.int .i64 0))], [.sc (.iface 9 (.string ⟨#[104, 101, 97, 100]⟩))], [.sc (.iface 3 (.int .i64 0))], [.sc (.iface 9 (.string ⟨#[98, 108, 111, 99, 107, 115]⟩))], [.sc (.iface 3 (.int .i64 0))], [.sc (.iface 9 (.string ⟨#[109, 97, 114, 107]⟩))], [.sc (.iface 2 (.int .i64 0))], [.sc (.iface 9 (.string ⟨#[109, 111, 114, 101]⟩))], [.sc (.iface 4 (.bool false))], [.sc (.iface 9 (.string ⟨#[114, 101, 97, 100, 111, 110, 108, 121]⟩))], [.sc (.iface 4 (.bool false))]] : List (List Im))[8]? = some [.sc (.iface 9 (.string ⟨#[109, 111, 114, 101]⟩))]] ⟨by decide, by decide, rfl, trivial⟩ ?_
  refine sO hP hn hm [] [(17, .im (.sc (.iface 9 (.string ⟨#[109, 111, 114, 101]⟩))))] [3, 11, 12, 13, 17] [] [0, 16] ?_
  refine AWp.block ?_
  refine sO hP hn hm [(0, .more (xAssert true))] [(19, bV true), (20, sV (⟨#[109, 111, 114, 101]⟩ : ByteArray))] [3, 11, 12, 13, 17, 19, 20] [] [0, 16] ?_
  refine AWp.cond true (by kernel_rfl) (fun _ => ?_) (fun h => nomatch h)
  refine sO hP hn hm [] [(6, sV (⟨#[109, 111, 114, 101]⟩ : ByteArray))] [3, 6, 11, 12, 13] [] [0, 16] ?_
  refine rG hP hn hm [(2, .app 17 [[sI (⟨#[109, 111, 114, 101]⟩ : ByteArray)]]), (3, .app 18 [[sI (⟨#[115, 101, 114, 105, 101, 115]⟩ : ByteArray)], [sI (⟨#[48]⟩ : ByteArray)], [sI (⟨#[104, 101, 97, 100]⟩ : ByteArray)], [sI (⟨#[48]⟩ : ByteArray)], [sI (⟨#[98, 108, 111, 99, 107, 115]⟩ : ByteArray)], [sI (⟨#[48]⟩ : ByteArray)], [sI (⟨#[109, 97, 114, 107]⟩ : ByteArray)], [sI (⟨#[48]⟩ : ByteArray)], [sI (⟨#[109, 111, 114, 101]⟩ : ByteArray)]])] [(3, .own 18)] [3, 11, 12, 13] [(18, some (.row 1 9 [[sI (⟨#[115, 101, 114, 105, 101, 115]⟩ : ByteArray)], [sI (⟨#[48]⟩ : ByteArray)], [sI (⟨#[104, 101, 97, 100]⟩ : ByteArray)], [sI (⟨#[48]⟩ : ByteArray)], [sI (⟨#[98, 108, 111, 99, 107, 115]⟩ : ByteArray)], [sI (⟨#[48]⟩ : ByteArray)], [sI (⟨#[109, 97, 114, 107]⟩ : ByteArray)], [sI (⟨#[48]⟩ : ByteArray)], [sI (⟨#[109, 111, 114, 101]⟩ : ByteArray)]]))] [0, 18] [([[sI (⟨#[109, 111, 114, 101]⟩ : ByteArray)]] : List (List Im)) = [[sI (⟨#[109, 111, 114, 101]⟩ : ByteArray)]], [[sI (⟨#[115, 101, 114, 105, 101, 115]⟩ : ByteArray)], [sI (⟨#[48]⟩ : ByteArray)], [sI (⟨#[104, 101, 97, 100]⟩ : ByteArray)], [sI (⟨#[48]⟩ : ByteArray)], [sI (⟨#[98, 108, 111, 99, 107, 115]⟩ : ByteArray)], [sI (⟨#[48]⟩ : ByteArray)], [sI (⟨#[109, 97, 114, 107]⟩ : ByteArray)], [sI (⟨#[48]⟩ : ByteArray)], [sI (⟨#[109, 111, 114, 101]⟩ : ByteArray)]] = ([[sI (⟨#[115, 101, 114, 105, 101, 115]⟩ : ByteArray)], [sI (⟨#[48]⟩ : ByteArray)], [sI (⟨#[104, 101, 97, 100]⟩ : ByteArray)], [sI (⟨#[48]⟩ : ByteArray)], [sI (⟨#[98, 108, 111, 99, 107, 115]⟩ : ByteArray)], [sI (⟨#[48]⟩ : ByteArray)], [sI (⟨#[109, 97, 114, 107]⟩ : ByteArray)], [sI (⟨#[48]⟩ : ByteArray)]] : List (List Im)) ++ ([[sI (⟨#[109, 111, 114, 101]⟩ : ByteArray)]] : List (List Im)), ∀ c ∈ ([[sI (⟨#[109, 111, 114, 101]⟩ : ByteArray)]] : List (List Im)), c.length = 1, ∀ c ∈ ([[sI (⟨#[109, 111, 114, 101]⟩ : ByteArray)]] : List (List Im)), leaves (c.map .im) = true, (([[sI (⟨#[115, 101, 114, 105, 101, 115]⟩ : ByteArray)], [sI (⟨#[48]⟩ : ByteArray)], [sI (⟨#[104, 101, 97, 100]⟩ : ByteArray)], [sI (⟨#[48]⟩ : ByteArray)], [sI (⟨#[98, 108, 111, 99, 107, 115]⟩ : ByteArray)], [sI (⟨#[48]⟩ : ByteArray)], [sI (⟨#[109, 97, 114, 107]⟩ : ByteArray)], [sI (⟨#[48]⟩ : ByteArray)]] : List (List Im)).length + ([[sI (⟨#[109, 111, 114, 101]⟩ : ByteArray)]] : List (List Im)).length) * 16 ≤ 140737488355328] ⟨rfl, rfl, by simp, by decide, by decide, trivial⟩ ?_
  show AWp Γ _ _ _
  refine rO hP hn hm [] [(13, iV .i64 9)] [3, 11, 12, 13] [] [0, 18] ?_
  show LWp Γ _ _ _
  refine LWp.round ?_
  refine sO hP hn hm [] [(14, bV true)] [3, 11, 12, 13, 14] [] [0, 18] ?_
  refine AWp.seq ?_
  refine AWp.cond true (by kernel_rfl) (fun _ => ?_) (fun h => nomatch h)
  refine AWp.skip ?_
  show AWp Γ _ _ _
  refine AWp.seq ?_
  refine AWp.block ?_
  refine sR hP hn hm [(1, .c [.sc (.iface 4 (.bool false))])] [(5, .im (.sc (.iface 4 (.bool false))))] [3, 5, 11, 12, 13] [] [0, 18] [(0 : Int) ≤ 9, (9 : Int) < ((([[.sc (.iface 9 (.string ⟨#[115, 101, 114, 105, 101, 115]⟩))], [.sc (.iface 3 (.int .i64 0))], [.sc (.iface 9 (.string ⟨#[104, 101, 97, 100]⟩))], [.sc (.iface 3 (.int .i64 0))], [.sc (.iface 9 (.string ⟨#[98, 108, 111, 99, 107, 115]⟩))], [.sc (.iface 3 (.int .i64 0))], [.sc (.iface 9 (.string ⟨#[109, 97, 114, 107]⟩))], [.sc (.iface 2 (.int .i64 0))], [.sc (.iface 9 (.string ⟨#[109, 111, 114, 101]⟩))], [.sc (.iface 4 (.bool false))], [.sc (.iface 9 (.string ⟨#[114, 101, 97, 100, 111, 110, 108, 121]⟩))], [.sc (.iface 4 (.bool false))]] : List (List Im)).length : Nat) : Int), ([[.sc (.iface 9 (.string ⟨#[115, 101, 114, 105, 101, 115]⟩))], [.sc (.iface 3 (.int .i64 0))], [.sc (.iface 9 (.string ⟨#[104, 101, 97, 100]⟩))], [.sc (.iface 3 (.int .i64 0))], [.sc (.iface 9 (.string ⟨#[98, 108, 111, 99, 107, 115]⟩))], [.sc (.iface 3 (.int .i64 0))], [.sc (.iface 9 (.string ⟨#[109, 97, 114, 107]⟩))], [.sc (.iface 2 (.int .i64 0))], [.sc (.iface 9 (.string ⟨#[109, 111, 114, 101]⟩))], [.sc (.iface 4 (.bool false))], [.sc (.iface 9 (.string ⟨#[114, 101, 97, 100, 111, 110, 108, 121]⟩))], [.sc (.iface 4 (.bool false))]] : List (List Im))[9]? = some [.sc (.iface 4 (.bool false))]] ⟨by decide, by decide, rfl, trivial⟩ ?_
  refine sO hP hn hm [] [(17, .im (.sc (.iface 4 (.bool false))))] [3, 11, 12, 13, 17] [] [0, 18] ?_
  refine AWp.block ?_
  refine sO hP hn hm [(0, .more (xAssert false))] [(19, bV false), (20, sV (⟨#[]⟩ : ByteArray))] [3, 11, 12, 13, 17, 19, 20] [] [0, 18] ?_
  refine AWp.cond false (by kernel_rfl) (fun h => nomatch h) (fun _ => ?_)
  refine sO hP hn hm [(0, .more (xAssert false))] [(26, bV false), (27, iV .i64 0)] [3, 11, 12, 13, 17, 26, 27] [] [0, 18] ?_
  refine AWp.cond false (by kernel_rfl) (fun h => nomatch h) (fun _ => ?_)
  refine sO hP hn hm [(0, .more (xAssert false))] [(34, bV false), (35, iV .i64 0)] [3, 11, 12, 13, 17, 34, 35] [] [0, 18] ?_
  refine AWp.cond false (by kernel_rfl) (fun h => nomatch h) (fun _ => ?_)
  refine sO hP hn hm [(0, .more (xAssert false))] [(42, bV false), (43, iV .u64 0)] [3, 11, 12, 13, 17, 42, 43] [] [0, 18] ?_
  refine AWp.cond false (by kernel_rfl) (fun h => nomatch h) (fun _ => ?_)
  refine sO hP hn hm [(0, .more (xAssert true))] [(50, bV true), (51, bV false)] [3, 11, 12, 13, 50, 51] [] [0, 18] ?_
  refine AWp.cond true (by kernel_rfl) (fun _ => ?_) (fun h => nomatch h)
  refine sO hP hn hm [] [(10, bV false)] [3, 10, 11, 12, 13] [] [0, 18] ?_
  refine rG hP hn hm [(2, .callz [] [] [] [] 0 (sV (⟨#[102, 97, 108, 115, 101]⟩ : ByteArray)) []), (3, .app 19 [[sI (⟨#[102, 97, 108, 115, 101]⟩ : ByteArray)]]), (4, .app 20 [[sI (⟨#[115, 101, 114, 105, 101, 115]⟩ : ByteArray)], [sI (⟨#[48]⟩ : ByteArray)], [sI (⟨#[104, 101, 97, 100]⟩ : ByteArray)], [sI (⟨#[48]⟩ : ByteArray)], [sI (⟨#[98, 108, 111, 99, 107, 115]⟩ : ByteArray)], [sI (⟨#[48]⟩ : ByteArray)], [sI (⟨#[109, 97, 114, 107]⟩ : ByteArray)], [sI (⟨#[48]⟩ : ByteArray)], [sI (⟨#[109, 111, 114, 101]⟩ : ByteArray)], [sI (⟨#[102, 97, 108, 115, 101]⟩ : ByteArray)]])] [(3, .own 20)] [3, 11, 12, 13] [(20, some (.row 1 9 [[sI (⟨#[115, 101, 114, 105, 101, 115]⟩ : ByteArray)], [sI (⟨#[48]⟩ : ByteArray)], [sI (⟨#[104, 101, 97, 100]⟩ : ByteArray)], [sI (⟨#[48]⟩ : ByteArray)], [sI (⟨#[98, 108, 111, 99, 107, 115]⟩ : ByteArray)], [sI (⟨#[48]⟩ : ByteArray)], [sI (⟨#[109, 97, 114, 107]⟩ : ByteArray)], [sI (⟨#[48]⟩ : ByteArray)], [sI (⟨#[109, 111, 114, 101]⟩ : ByteArray)], [sI (⟨#[102, 97, 108, 115, 101]⟩ : ByteArray)]]))] [0, 20] [_, _, ([[sI (⟨#[102, 97, 108, 115, 101]⟩ : ByteArray)]] : List (List Im)) = [[sI (⟨#[102, 97, 108, 115, 101]⟩ : ByteArray)]], [[sI (⟨#[115, 101, 114, 105, 101, 115]⟩ : ByteArray)], [sI (⟨#[48]⟩ : ByteArray)], [sI (⟨#[104, 101, 97, 100]⟩ : ByteArray)], [sI (⟨#[48]⟩ : ByteArray)], [sI (⟨#[98, 108, 111, 99, 107, 115]⟩ : ByteArray)], [sI (⟨#[48]⟩ : ByteArray)], [sI (⟨#[109, 97, 114, 107]⟩ : ByteArray)], [sI (⟨#[48]⟩ : ByteArray)], [sI (⟨#[109, 111, 114, 101]⟩ : ByteArray)], [sI (⟨#[102, 97, 108, 115, 101]⟩ : ByteArray)]] = ([[sI (⟨#[115, 101, 114, 105, 101, 115]⟩ : ByteArray)], [sI (⟨#[48]⟩ : ByteArray)], [sI (⟨#[104, 101, 97, 100]⟩ : ByteArray)], [sI (⟨#[48]⟩ : ByteArray)], [sI (⟨#[98, 108, 111, 99, 107, 115]⟩ : ByteArray)], [sI (⟨#[48]⟩ : ByteArray)], [sI (⟨#[109, 97, 114, 107]⟩ : ByteArray)], [sI (⟨#[48]⟩ : ByteArray)], [sI (⟨#[109, 111, 114, 101]⟩ : ByteArray)]] : List (List Im)) ++ ([[sI (⟨#[102, 97, 108, 115, 101]⟩ : ByteArray)]] : List (List Im)), ∀ c ∈ ([[sI (⟨#[102, 97, 108, 115, 101]⟩ : ByteArray)]] : List (List Im)), c.length = 1, ∀ c ∈ ([[sI (⟨#[102, 97, 108, 115, 101]⟩ : ByteArray)]] : List (List Im)), leaves (c.map .im) = true, (([[sI (⟨#[115, 101, 114, 105, 101, 115]⟩ : ByteArray)], [sI (⟨#[48]⟩ : ByteArray)], [sI (⟨#[104, 101, 97, 100]⟩ : ByteArray)], [sI (⟨#[48]⟩ : ByteArray)], [sI (⟨#[98, 108, 111, 99, 107, 115]⟩ : ByteArray)], [sI (⟨#[48]⟩ : ByteArray)], [sI (⟨#[109, 97, 114, 107]⟩ : ByteArray)], [sI (⟨#[48]⟩ : ByteArray)], [sI (⟨#[109, 111, 114, 101]⟩ : ByteArray)]] : List (List Im)).length + ([[sI (⟨#[102, 97, 108, 115, 101]⟩ : ByteArray)]] : List (List Im)).length) * 16 ≤ 140737488355328] ⟨Tryz.call44, cx89_FormatBool, rfl, rfl, by simp, by decide, by decide, trivial⟩ ?_
  show AWp Γ _ _ _
  refine rO hP hn hm [] [(13, iV .i64 10)] [3, 11, 12, 13] [] [0, 20] ?_
  show LWp Γ _ _ _
  refine LWp.round ?_
  refine sO hP hn hm [] [(14, bV true)] [3, 11, 12, 13, 14] [] [0, 20] ?_
  refine AWp.seq ?_
  refine AWp.cond true (by kernel_rfl) (fun _ => ?_) (fun h => nomatch h)
  refine AWp.skip ?_
  show AWp Γ _ _ _
  refine AWp.seq ?_
  refine AWp.block ?_
  refine sR hP hn hm [(1, .c [.sc (.iface 9 (.string ⟨#[114, 101, 97, 100, 111, 110, 108, 121]⟩))])] [(5, .im (.sc (.iface 9 (.string ⟨#[114, 101, 97, 100, 111, 110, 108, 121]⟩))))] [3, 5, 11, 12, 13] [] [0, 20] [(0 : Int) ≤ 10, (10 : Int) < ((([[.sc (.iface 9 (.string ⟨#[115, 101, 114, 105, 101, 115]⟩))], [.sc (.iface 3 (.int .i64 0))], [.sc (.iface 9 (.string ⟨#[104, 101, 97, 100]⟩))], [.sc (.iface 3 (.int .i64 0))], [.sc (.iface 9 (.string ⟨#[98, 108, 111, 99, 107, 115]⟩))], [.sc (.iface 3 (.int .i64 0))], [.sc (.iface 9 (.string ⟨#[109, 97, 114, 107]⟩))], [.sc (.iface 2 (.int .i64 0))], [.sc (.iface 9 (.string ⟨#[109, 111, 114, 101]⟩))], [.sc (.iface 4 (.bool false))], [.sc (.iface 9 (.string ⟨#[114, 101, 97, 100, 111, 110, 108, 121]⟩))], [.sc (.iface 4 (.bool false))]] : List (List Im)).length : Nat) : Int), ([[.sc (.iface 9 (.string ⟨#[115, 101, 114, 105, 101, 115]⟩))], [.sc (.iface 3 (.int .i64 0))], [.sc (.iface 9 (.string ⟨#[104, 101, 97, 100]⟩))], [.sc (.iface 3 (.int .i64 0))], [.sc (.iface 9 (.string ⟨#[98, 108, 111, 99, 107, 115]⟩))], [.sc (.iface 3 (.int .i64 0))], [.sc (.iface 9 (.string ⟨#[109, 97, 114, 107]⟩))], [.sc (.iface 2 (.int .i64 0))], [.sc (.iface 9 (.string ⟨#[109, 111, 114, 101]⟩))], [.sc (.iface 4 (.bool false))], [.sc (.iface 9 (.string ⟨#[114, 101, 97, 100, 111, 110, 108, 121]⟩))], [.sc (.iface 4 (.bool false))]] : List (List Im))[10]? = some [.sc (.iface 9 (.string ⟨#[114, 101, 97, 100, 111, 110, 108, 121]⟩))]] ⟨by decide, by decide, rfl, trivial⟩ ?_
  refine sO hP hn hm [] [(17, .im (.sc (.iface 9 (.string ⟨#[114, 101, 97, 100, 111, 110, 108, 121]⟩))))] [3, 11, 12, 13, 17] [] [0, 20] ?_
  refine AWp.block ?_
  refine sO hP hn hm [(0, .more (xAssert true))] [(19, bV true), (20, sV (⟨#[114, 101, 97, 100, 111, 110, 108, 121]⟩ : ByteArray))] [3, 11, 12, 13, 17, 19, 20] [] [0, 20] ?_
  refine AWp.cond true (by kernel_rfl) (fun _ => ?_) (fun h => nomatch h)
  refine sO hP hn hm [] [(6, sV (⟨#[114, 101, 97, 100, 111, 110, 108, 121]⟩ : ByteArray))] [3, 6, 11, 12, 13] [] [0, 20] ?_
  refine rG hP hn hm [(2, .app 21 [[sI (⟨#[114, 101, 97, 100, 111, 110, 108, 121]⟩ : ByteArray)]]), (3, .app 22 [[sI (⟨#[115, 101, 114, 105, 101, 115]⟩ : ByteArray)], [sI (⟨#[48]⟩ : ByteArray)], [sI (⟨#[104, 101, 97, 100]⟩ : ByteArray)], [sI (⟨#[48]⟩ : ByteArray)], [sI (⟨#[98, 108, 111, 99, 107, 115]⟩ : ByteArray)], [sI (⟨#[48]⟩ : ByteArray)], [sI (⟨#[109, 97, 114, 107]⟩ : ByteArray)], [sI (⟨#[48]⟩ : ByteArray)], [sI (⟨#[109, 111, 114, 101]⟩ : ByteArray)], [sI (⟨#[102, 97, 108, 115, 101]⟩ : ByteArray)], [sI (⟨#[114, 101, 97, 100, 111, 110, 108, 121]⟩ : ByteArray)]])] [(3, .own 22)] [3, 11, 12, 13] [(22, some (.row 1 9 [[sI (⟨#[115, 101, 114, 105, 101, 115]⟩ : ByteArray)], [sI (⟨#[48]⟩ : ByteArray)], [sI (⟨#[104, 101, 97, 100]⟩ : ByteArray)], [sI (⟨#[48]⟩ : ByteArray)], [sI (⟨#[98, 108, 111, 99, 107, 115]⟩ : ByteArray)], [sI (⟨#[48]⟩ : ByteArray)], [sI (⟨#[109, 97, 114, 107]⟩ : ByteArray)], [sI (⟨#[48]⟩ : ByteArray)], [sI (⟨#[109, 111, 114, 101]⟩ : ByteArray)], [sI (⟨#[102, 97, 108, 115, 101]⟩ : ByteArray)], [sI (⟨#[114, 101, 97, 100, 111, 110, 108, 121]⟩ : ByteArray)]]))] [0, 22] [([[sI (⟨#[114, 101, 97, 100, 111, 110, 108, 121]⟩ : ByteArray)]] : List (List Im)) = [[sI (⟨#[114, 101, 97, 100, 111, 110, 108, 121]⟩ : ByteArray)]], [[sI (⟨#[115, 101, 114, 105, 101, 115]⟩ : ByteArray)], [sI (⟨#[48]⟩ : ByteArray)], [sI (⟨#[104, 101, 97, 100]⟩ : ByteArray)], [sI (⟨#[48]⟩ : ByteArray)], [sI (⟨#[98, 108, 111, 99, 107, 115]⟩ : ByteArray)], [sI (⟨#[48]⟩ : ByteArray)], [sI (⟨#[109, 97, 114, 107]⟩ : ByteArray)], [sI (⟨#[48]⟩ : ByteArray)], [sI (⟨#[109, 111, 114, 101]⟩ : ByteArray)], [sI (⟨#[102, 97, 108, 115, 101]⟩ : ByteArray)], [sI (⟨#[114, 101, 97, 100, 111, 110, 108, 121]⟩ : ByteArray)]] = ([[sI (⟨#[115, 101, 114, 105, 101, 115]⟩ : ByteArray)], [sI (⟨#[48]⟩ : ByteArray)], [sI (⟨#[104, 101, 97, 100]⟩ : ByteArray)], [sI (⟨#[48]⟩ : ByteArray)], [sI (⟨#[98, 108, 111, 99, 107, 115]⟩ : ByteArray)], [sI (⟨#[48]⟩ : ByteArray)], [sI (⟨#[109, 97, 114, 107]⟩ : ByteArray)], [sI (⟨#[48]⟩ : ByteArray)], [sI (⟨#[109, 111, 114, 101]⟩ : ByteArray)], [sI (⟨#[102, 97, 108, 115, 101]⟩ : ByteArray)]] : List (List Im)) ++ ([[sI (⟨#[114, 101, 97, 100, 111, 110, 108, 121]⟩ : ByteArray)]] : List (List Im)), ∀ c ∈ ([[sI (⟨#[114, 101, 97, 100, 111, 110, 108, 121]⟩ : ByteArray)]] : List (List Im)), c.length = 1, ∀ c ∈ ([[sI (⟨#[114, 101, 97, 100, 111, 110, 108, 121]⟩ : ByteArray)]] : List (List Im)), leaves (c.map .im) = true, (([[sI (⟨#[115, 101, 114, 105, 101, 115]⟩ : ByteArray)], [sI (⟨#[48]⟩ : ByteArray)], [sI (⟨#[104, 101, 97, 100]⟩ : ByteArray)], [sI (⟨#[48]⟩ : ByteArray)], [sI (⟨#[98, 108, 111, 99, 107, 115]⟩ : ByteArray)], [sI (⟨#[48]⟩ : ByteArray)], [sI (⟨#[109, 97, 114, 107]⟩ : ByteArray)], [sI (⟨#[48]⟩ : ByteArray)], [sI (⟨#[109, 111, 114, 101]⟩ : ByteArray)], [sI (⟨#[102, 97, 108, 115, 101]⟩ : ByteArray)]] : List (List Im)).length + ([[sI (⟨#[114, 101, 97, 100, 111, 110, 108, 121]⟩ : ByteArray)]] : List (List Im)).length) * 16 ≤ 140737488355328] ⟨rfl, rfl, by simp, by decide, by decide, trivial⟩ ?_
  show AWp Γ _ _ _
  refine rO hP hn hm [] [(13, iV .i64 11)] [3, 11, 12, 13] [] [0, 22] ?_
  show LWp Γ _ _ _
  refine LWp.round ?_
  refine sO hP hn hm [] [(14, bV true)] [3, 11, 12, 13, 14] [] [0, 22] ?_
  refine AWp.seq ?_
  refine AWp.cond true (by kernel_rfl) (fun _ => ?_) (fun h => nomatch h)
  refine AWp.skip ?_
  show AWp Γ _ _ _
  refine AWp.seq ?_
  refine AWp.block ?_
  refine sR hP hn hm [(1, .c [.sc (.iface 4 (.bool false))])] [(5, .im (.sc (.iface 4 (.bool false))))] [3, 5, 11, 12, 13] [] [0, 22] [(0 : Int) ≤ 11, (11 : Int) < ((([[.sc (.iface 9 (.string ⟨#[115, 101, 114, 105, 101, 115]⟩))], [.sc (.iface 3 (.int .i64 0))], [.sc (.iface 9 (.string ⟨#[104, 101, 97, 100]⟩))], [.sc (.iface 3 (.int .i64 0))], [.sc (.iface 9 (.string ⟨#[98, 108, 111, 99, 107, 115]⟩))], [.sc (.iface 3 (.int .i64 0))], [.sc (.iface 9 (.string ⟨#[109, 97, 114, 107]⟩))], [.sc (.iface 2 (.int .i64 0))], [.sc (.iface 9 (.string ⟨#[109, 111, 114, 101]⟩))], [.sc (.iface 4 (.bool false))], [.sc (.iface 9 (.string ⟨#[114, 101, 97, 100, 111, 110, 108, 121]⟩))], [.sc (.iface 4 (.bool false))]] : List (List Im)).length : Nat) : Int), ([[.sc (.iface 9 (.string ⟨#[115, 101, 114, 105, 101, 115]⟩))], [.sc (.iface 3 (.int .i64 0))], [.sc (.iface 9 (.string ⟨#[104, 101, 97, 100]⟩))], [.sc (.iface 3 (.int .i64 0))], [.sc (.iface 9 (.string ⟨#[98, 108, 111, 99, 107, 115]⟩))], [.sc (.iface 3 (.int .i64 0))], [.sc (.iface 9 (.string ⟨#[109, 97, 114, 107]⟩))], [.sc (.iface 2 (.int .i64 0))], [.sc (.iface 9 (.string ⟨#[109, 111, 114, 101]⟩))], [.sc (.iface 4 (.bool false))], [.sc (.iface 9 (.string ⟨#[114, 101, 97, 100, 111, 110, 108, 121]⟩))], [.sc (.iface 4 (.bool false))]] : List (List Im))[11]? = some [.sc (.iface 4 (.bool false))]] ⟨by decide, by decide, rfl, trivial⟩ ?_
  refine sO hP hn hm [] [(17, .im (.sc (.iface 4 (.bool false))))] [3, 11, 12, 13, 17] [] [0, 22] ?_
  refine AWp.block ?_
  refine sO hP hn hm [(0, .more (xAssert false))] [(19, bV false), (20, sV (⟨#[]⟩ : ByteArray))] [3, 11, 12, 13, 17, 19, 20] [] [0, 22] ?_
  refine AWp.cond false (by kernel_rfl) (fun h => nomatch h) (fun _ => ?_)
  refine sO hP hn hm [(0, .more (xAssert false))] [(26, bV false), (27, iV .i64 0)] [3, 11, 12, 13, 17, 26, 27] [] [0, 22] ?_
  refine AWp.cond false (by kernel_rfl) (fun h => nomatch h) (fun _ => ?_)
  refine sO hP hn hm [(0, .more (xAssert false))] [(34, bV false), (35, iV .i64 0)] [3, 11, 12, 13, 17, 34, 35] [] [0, 22] ?_
  refine AWp.cond false (by kernel_rfl) (fun h => nomatch h) (fun _ => ?_)
  refine sO hP hn hm [(0, .more (xAssert false))] [(42, bV false), (43, iV .u64 0)] [3, 11, 12, 13, 17, 42, 43] [] [0, 22] ?_
  refine AWp.cond false (by kernel_rfl) (fun h => nomatch h) (fun _ => ?_)
  refine sO hP hn hm [(0, .more (xAssert true))] [(50, bV true), (51, bV false)] [3, 11, 12, 13, 50, 51] [] [0, 22] ?_
  refine AWp.cond true (by kernel_rfl) (fun _ => ?_) (fun h => nomatch h)
  refine sO hP hn hm [] [(10, bV false)] [3, 10, 11, 12, 13] [] [0, 22] ?_
  refine rG hP hn hm [(2, .callz [] [] [] [] 0 (sV (⟨#[102, 97, 108, 115, 101]⟩ : ByteArray)) []), (3, .app 23 [[sI (⟨#[102, 97, 108, 115, 101]⟩ : ByteArray)]]), (4, .app 24 [[sI (⟨#[115, 101, 114, 105, 101, 115]⟩ : ByteArray)], [sI (⟨#[48]⟩ : ByteArray)], [sI (⟨#[104, 101, 97, 100]⟩ : ByteArray)], [sI (⟨#[48]⟩ : ByteArray)], [sI (⟨#[98, 108, 111, 99, 107, 115]⟩ : ByteArray)], [sI (⟨#[48]⟩ : ByteArray)], [sI (⟨#[109, 97, 114, 107]⟩ : ByteArray)], [sI (⟨#[48]⟩ : ByteArray)], [sI (⟨#[109, 111, 114, 101]⟩ : ByteArray)], [sI (⟨#[102, 97, 108, 115, 101]⟩ : ByteArray)], [sI (⟨#[114, 101, 97, 100, 111, 110, 108, 121]⟩ : ByteArray)], [sI (⟨#[102, 97, 108, 115, 101]⟩ : ByteArray)]])] [(3, .own 24)] [3, 11, 12, 13] [(24, some (.row 1 9 [[sI (⟨#[115, 101, 114, 105, 101, 115]⟩ : ByteArray)], [sI (⟨#[48]⟩ : ByteArray)], [sI (⟨#[104, 101, 97, 100]⟩ : ByteArray)], [sI (⟨#[48]⟩ : ByteArray)], [sI (⟨#[98, 108, 111, 99, 107, 115]⟩ : ByteArray)], [sI (⟨#[48]⟩ : ByteArray)], [sI (⟨#[109, 97, 114, 107]⟩ : ByteArray)], [sI (⟨#[48]⟩ : ByteArray)], [sI (⟨#[109, 111, 114, 101]⟩ : ByteArray)], [sI (⟨#[102, 97, 108, 115, 101]⟩ : ByteArray)], [sI (⟨#[114, 101, 97, 100, 111, 110, 108, 121]⟩ : ByteArray)], [sI (⟨#[102, 97, 108, 115, 101]⟩ : ByteArray)]]))] [0, 24] [_, _, ([[sI (⟨#[102, 97, 108, 115, 101]⟩ : ByteArray)]] : List (List Im)) = [[sI (⟨#[102, 97, 108, 115, 101]⟩ : ByteArray)]], [[sI (⟨#[115, 101, 114, 105, 101, 115]⟩ : ByteArray)], [sI (⟨#[48]⟩ : ByteArray)], [sI (⟨#[104, 101, 97, 100]⟩ : ByteArray)], [sI (⟨#[48]⟩ : ByteArray)], [sI (⟨#[98, 108, 111, 99, 107, 115]⟩ : ByteArray)], [sI (⟨#[48]⟩ : ByteArray)], [sI (⟨#[109, 97, 114, 107]⟩ : ByteArray)], [sI (⟨#[48]⟩ : ByteArray)], [sI (⟨#[109, 111, 114, 101]⟩ : ByteArray)], [sI (⟨#[102, 97, 108, 115, 101]⟩ : ByteArray)], [sI (⟨#[114, 101, 97, 100, 111, 110, 108, 121]⟩ : ByteArray)], [sI (⟨#[102, 97, 108, 115, 101]⟩ : ByteArray)]] = ([[sI (⟨#[115, 101, 114, 105, 101, 115]⟩ : ByteArray)], [sI (⟨#[48]⟩ : ByteArray)], [sI (⟨#[104, 101, 97, 100]⟩ : ByteArray)], [sI (⟨#[48]⟩ : ByteArray)], [sI (⟨#[98, 108, 111, 99, 107, 115]⟩ : ByteArray)], [sI (⟨#[48]⟩ : ByteArray)], [sI (⟨#[109, 97, 114, 107]⟩ : ByteArray)], [sI (⟨#[48]⟩ : ByteArray)], [sI (⟨#[109, 111, 114, 101]⟩ : ByteArray)], [sI (⟨#[102, 97, 108, 115, 101]⟩ : ByteArray)], [sI (⟨#[114, 101, 97, 100, 111, 110, 108, 121]⟩ : ByteArray)]] : List (List Im)) ++ ([[sI (⟨#[102, 97, 108, 115, 101]⟩ : ByteArray)]] : List (List Im)), ∀ c ∈ ([[sI (⟨#[102, 97, 108, 115, 101]⟩ : ByteArray)]] : List (List Im)), c.length = 1, ∀ c ∈ ([[sI (⟨#[102, 97, 108, 115, 101]⟩ : ByteArray)]] : List (List Im)), leaves (c.map .im) = true, (([[sI (⟨#[115, 101, 114, 105, 101, 115]⟩ : ByteArray)], [sI (⟨#[48]⟩ : ByteArray)], [sI (⟨#[104, 101, 97, 100]⟩ : ByteArray)], [sI (⟨#[48]⟩ : ByteArray)], [sI (⟨#[98, 108, 111, 99, 107, 115]⟩ : ByteArray)], [sI (⟨#[48]⟩ : ByteArray)], [sI (⟨#[109, 97, 114, 107]⟩ : ByteArray)], [sI (⟨#[48]⟩ : ByteArray)], [sI (⟨#[109, 111, 114, 101]⟩ : ByteArray)], [sI (⟨#[102, 97, 108, 115, 101]⟩ : ByteArray)], [sI (⟨#[114, 101, 97, 100, 111, 110, 108, 121]⟩ : ByteArray)]] : List (List Im)).length + ([[sI (⟨#[102, 97, 108, 115, 101]⟩ : ByteArray)]] : List (List Im)).length) * 16 ≤ 140737488355328] ⟨Tryz.call44, cx89_FormatBool, rfl, rfl, by simp, by decide, by decide, trivial⟩ ?_
  show AWp Γ _ _ _
  refine rO hP hn hm [] [(13, iV .i64 12)] [3, 11, 12, 13] [] [0, 24] ?_
  show LWp Γ _ _ _
  refine LWp.round ?_
  refine sO hP hn hm [] [(14, bV false)] [3, 11, 12, 13, 14] [] [0, 24] ?_
  refine AWp.seq ?_
  refine AWp.cond false (by kernel_rfl) (fun h => nomatch h) (fun _ => ?_)
  refine AWp.exit ?_
  show AWp Γ _ _ _
  refine AWp.conv (inv := [(0, 0)]) (vk := [24]) (e0 := []) (t := ⟨[(3, .im (.row [[sI (⟨#[115, 101, 114, 105, 101, 115]⟩ : ByteArray)], [sI (⟨#[48]⟩ : ByteArray)], [sI (⟨#[104, 101, 97, 100]⟩ : ByteArray)], [sI (⟨#[48]⟩ : ByteArray)], [sI (⟨#[98, 108, 111, 99, 107, 115]⟩ : ByteArray)], [sI (⟨#[48]⟩ : ByteArray)], [sI (⟨#[109, 97, 114, 107]⟩ : ByteArray)], [sI (⟨#[48]⟩ : ByteArray)], [sI (⟨#[109, 111, 114, 101]⟩ : ByteArray)], [sI (⟨#[102, 97, 108, 115, 101]⟩ : ByteArray)], [sI (⟨#[114, 101, 97, 100, 111, 110, 108, 121]⟩ : ByteArray)], [sI (⟨#[102, 97, 108, 115, 101]⟩ : ByteArray)]])), (11, .own 0), (12, iV .i64 12), (13, iV .i64 12), (14, bV false)], [(0, some (.row 1 20 [[.sc (.iface 9 (.string ⟨#[115, 101, 114, 105, 101, 115]⟩))], [.sc (.iface 3 (.int .i64 0))], [.sc (.iface 9 (.string ⟨#[104, 101, 97, 100]⟩))], [.sc (.iface 3 (.int .i64 0))], [.sc (.iface 9 (.string ⟨#[98, 108, 111, 99, 107, 115]⟩))], [.sc (.iface 3 (.int .i64 0))], [.sc (.iface 9 (.string ⟨#[109, 97, 114, 107]⟩))], [.sc (.iface 2 (.int .i64 0))], [.sc (.iface 9 (.string ⟨#[109, 111, 114, 101]⟩))], [.sc (.iface 4 (.bool false))], [.sc (.iface 9 (.string ⟨#[114, 101, 97, 100, 111, 110, 108, 121]⟩))], [.sc (.iface 4 (.bool false))]]))], 1⟩) (by kernel_rfl) ?_
  refine sR hP hn hm [(1, .callz [] [] [] [] 0 (sV (⟨#[115, 101, 114, 105, 101, 115, 32, 48, 32, 104, 101, 97, 100, 32, 48, 32, 98, 108, 111, 99, 107, 115, 32, 48, 32, 109, 97, 114, 107, 32, 48, 32, 109, 111, 114, 101, 32, 102, 97, 108, 115, 101, 32, 114, 101, 97, 100, 111, 110, 108, 121, 32, 102, 97, 108, 115, 101]⟩ : ByteArray)) [])] [(2, sV (⟨#[115, 101, 114, 105, 101, 115, 32, 48, 32, 104, 101, 97, 100, 32, 48, 32, 98, 108, 111, 99, 107, 115, 32, 48, 32, 109, 97, 114, 107, 32, 48, 32, 109, 111, 114, 101, 32, 102, 97, 108, 115, 101, 32, 114, 101, 97, 100, 111, 110, 108, 121, 32, 102, 97, 108, 115, 101]⟩ : ByteArray))] [2] [] [0] [_, _] ⟨Tryz.call45, cx140_Join, trivial⟩ ?_
  refine AWp.ret ?_
  exact rl (.inl rfl) rfl (by kernel_rfl) (by kernel_rfl)
theorem cx142_Store : Pv.Fn Tryz.prog 18 [.ptr 0 0 0] [(0, some (.box 129 [.ptr 1 0 0, iV .i64 0, .none0, .none0, .mown 5, iV .i64 0, iV .i64 0, iV .i64 0])), (1, some (.box 126 [iV .i64 65536, .mown 2, .mown 4, iV .i64 (-1), iV .i64 4, bV false])), (2, some (.gmap [Value.string ⟨#[108, 111, 103, 45, 48, 48, 48, 48, 48, 48]⟩] [.ptr 3 0 0] [1] 2)), (3, some (.box 231 [.im (.row [[iI .u8 1], [iI .u8 0], [iI .u8 0], [iI .u8 0], [iI .u8 173], [iI .u8 222], [iI .u8 66], [iI .u8 251], [iI .u8 0]]), iV .i64 9])), (4, some (.gmap [Value.string ⟨#[108, 111, 103, 45, 48, 48, 48, 48, 48, 48]⟩] [.ptr 3 0 0] [1] 2)), (5, some (.gmap [] [] [] 0))] 6 (fun x o => x = sV (⟨#[115, 101, 114, 105, 101, 115, 32, 48, 32, 104, 101, 97, 100, 32, 48, 32, 98, 108, 111, 99, 107, 115, 32, 48, 32, 109, 97, 114, 107, 32, 48, 32, 109, 111, 114, 101, 32, 102, 97, 108, 115, 101, 32, 114, 101, 97, 100, 111, 110, 108, 121, 32, 102, 97, 108, 115, 101]⟩ : ByteArray) ∧ o = [(0, some (.box 129 [.ptr 1 0 0, iV .i64 0, .none0, .none0, .mown 5, iV .i64 0, iV .i64 0, iV .i64 0])), (1, some (.box 126 [iV .i64 65536, .mown 2, .mown 4, iV .i64 (-1), iV .i64 4, bV false])), (2, some (.gmap [Value.string ⟨#[108, 111, 103, 45, 48, 48, 48, 48, 48, 48]⟩] [.ptr 3 0 0] [1] 2)), (3, some (.box 231 [.im (.row [[iI .u8 1], [iI .u8 0], [iI .u8 0], [iI .u8 0], [iI .u8 173], [iI .u8 222], [iI .u8 66], [iI .u8 251], [iI .u8 0]]), iV .i64 9])), (4, some (.gmap [Value.string ⟨#[108, 111, 103, 45, 48, 48, 48, 48, 48, 48]⟩] [.ptr 3 0 0] [1] 2)), (5, some (.gmap [] [] [] 0))]) := by
  refine Fn.bodyK [0, 1, 2, 3, 4, 5] Tryz.func18 rfl rfl (fun Γ hP hn => ?_)
  have hm : Tryz.prog.follows .mixedOrders = true := by kernel_rfl
  replace hn : Γ.n = 57 := hn
  refine sO hP hn hm [] [] [0] [] [0, 1, 2, 3, 4, 5] ?_
  refine AWp.seq ?_
  refine sR hP hn hm [(1, .more (xPtrNil false))] [(10, bV false)] [0, 10] [] [0, 1, 2, 3, 4, 5] [false = false] ⟨rfl, trivial⟩ ?_
  refine AWp.cond false (by kernel_rfl) (fun h => nomatch h) (fun _ => ?_)
  refine AWp.skip ?_
  show AWp Γ _ _ _
  refine sR hP hn hm [(1, .callz [(0, 0), (1, 1), (2, 2), (3, 3), (4, 4), (5, 5)] [(0, 0), (1, 1), (2, 2), (3, 3), (4, 4), (5, 5)] [] [] 6 (.agg [iV .i64 0, .im (.row []), .im (.row [])]) [(0, some (.box 129 [.ptr 1 0 0, iV .i64 0, .none0, .none0, .mown 5, iV .i64 0, iV .i64 0, iV .i64 0])), (1, some (.box 126 [iV .i64 65536, .mown 2, .mown 4, iV .i64 (-1), iV .i64 4, bV false])), (2, some (.gmap [Value.string ⟨#[108, 111, 103, 45, 48, 48, 48, 48, 48, 48]⟩] [.ptr 3 0 0] [1] 2)), (3, some (.box 231 [.im (.row [[iI .u8 1], [iI .u8 0], [iI .u8 0], [iI .u8 0], [iI .u8 173], [iI .u8 222], [iI .u8 66], [iI .u8 251], [iI .u8 0]]), iV .i64 9])), (4, some (.gmap [Value.string ⟨#[108, 111, 103, 45, 48, 48, 48, 48, 48, 48]⟩] [.ptr 3 0 0] [1] 2)), (5, some (.gmap [] [] [] 0))]), (2, .k 6)] [(3, .ptr 6 0 0)] [0, 3] [(6, some (.box 92 [iV .i64 0, .im (.row []), .im (.row [])]))] [0, 1, 2, 3, 4, 5, 6] [_, _] ⟨Tryz.call38, cx77_Image, trivial⟩ ?_
  refine sO hP hn hm [] [(4, iV .i64 0)] [0, 3, 4] [] [0, 1, 2, 3, 4, 5, 6] ?_
  refine AWp.seq ?_
  refine sO hP hn hm [] [(14, .im (.row [])), (15, iV .i64 0), (16, iV .i64 0)] [0, 3, 4, 14, 15, 16] [] [0, 1, 2, 3, 4, 5, 6] ?_
  refine AWp.block ?_
  refine AWp.loop ?_
  refine LWp.round ?_
  refine sO hP hn hm [] [(17, bV false)] [0, 3, 4, 14, 15, 16, 17] [] [0, 1, 2, 3, 4, 5, 6] ?_
  refine AWp.seq ?_
  refine AWp.cond false (by kernel_rfl) (fun h => nomatch h) (fun _ => ?_)
  refine AWp.exit ?_
  show AWp Γ _ _ _
  refine sR hP hn hm [(1, .callz [(0, 0), (1, 1), (2, 2), (3, 3), (4, 4), (5, 5)] [(0, 0), (1, 1), (2, 2), (3, 3), (4, 4), (5, 5)] [] [] 6 (.tup [.agg [.none0, iV .i64 0], bV false]) [(0, some (.box 129 [.ptr 1 0 0, iV .i64 0, .none0, .none0, .mown 5, iV .i64 0, iV .i64 0, iV .i64 0])), (1, some (.box 126 [iV .i64 65536, .mown 2, .mown 4, iV .i64 (-1), iV .i64 4, bV false])), (2, some (.gmap [Value.string ⟨#[108, 111, 103, 45, 48, 48, 48, 48, 48, 48]⟩] [.ptr 3 0 0] [1] 2)), (3, some (.box 231 [.im (.row [[iI .u8 1], [iI .u8 0], [iI .u8 0], [iI .u8 0], [iI .u8 173], [iI .u8 222], [iI .u8 66], [iI .u8 251], [iI .u8 0]]), iV .i64 9])), (4, some (.gmap [Value.string ⟨#[108, 111, 103, 45, 48, 48, 48, 48, 48, 48]⟩] [.ptr 3 0 0] [1] 2)), (5, some (.gmap [] [] [] 0))]), (5, .k 7)] [(8, bV false)] [0, 3, 4, 8] [] [0, 1, 2, 3, 4, 5, 6] [_, _] ⟨Tryz.call39, cx86_Plan, trivial⟩ ?_
  refine sR hP hn hm [(0, .more xMkIf), (4, .more xMkIf), (5, .more xMkIf), (7, .more xMkIf), (8, .more xMkIf), (12, .more xMkIf), (13, .more xMkIf), (16, .more xMkIf), (17, .more xMkIf), (19, .more xMkIf), (20, .more xMkIf), (22, .more (xCallQ [(0, 0), (1, 1), (2, 2), (3, 3), (4, 4), (5, 5)] 6 (bV false) [(0, some (.box 129 [.ptr 1 0 0, iV .i64 0, .none0, .none0, .mown 5, iV .i64 0, iV .i64 0, iV .i64 0])), (1, some (.box 126 [iV .i64 65536, .mown 2, .mown 4, iV .i64 (-1), iV .i64 4, bV false])), (2, some (.gmap [Value.string ⟨#[108, 111, 103, 45, 48, 48, 48, 48, 48, 48]⟩] [.ptr 3 0 0] [1] 2)), (3, some (.box 231 [.im (.row [[iI .u8 1], [iI .u8 0], [iI .u8 0], [iI .u8 0], [iI .u8 173], [iI .u8 222], [iI .u8 66], [iI .u8 251], [iI .u8 0]]), iV .i64 9])), (4, some (.gmap [Value.string ⟨#[108, 111, 103, 45, 48, 48, 48, 48, 48, 48]⟩] [.ptr 3 0 0] [1] 2)), (5, some (.gmap [] [] [] 0))])), (23, .more xMkIf), (24, .app 8 [[.sc (.iface 9 (.string ⟨#[115, 101, 114, 105, 101, 115]⟩))], [.sc (.iface 3 (.int .i64 0))], [.sc (.iface 9 (.string ⟨#[104, 101, 97, 100]⟩))], [.sc (.iface 3 (.int .i64 0))], [.sc (.iface 9 (.string ⟨#[98, 108, 111, 99, 107, 115]⟩))], [.sc (.iface 3 (.int .i64 0))], [.sc (.iface 9 (.string ⟨#[109, 97, 114, 107]⟩))], [.sc (.iface 2 (.int .i64 0))], [.sc (.iface 9 (.string ⟨#[109, 111, 114, 101]⟩))], [.sc (.iface 4 (.bool false))], [.sc (.iface 9 (.string ⟨#[114, 101, 97, 100, 111, 110, 108, 121]⟩))], [.sc (.iface 4 (.bool false))]]), (25, .more (xCallQ [(8, 0)] 1 (sV (⟨#[115, 101, 114, 105, 101, 115, 32, 48, 32, 104, 101, 97, 100, 32, 48, 32, 98, 108, 111, 99, 107, 115, 32, 48, 32, 109, 97, 114, 107, 32, 48, 32, 109, 111, 114, 101, 32, 102, 97, 108, 115, 101, 32, 114, 101, 97, 100, 111, 110, 108, 121, 32, 102, 97, 108, 115, 101]⟩ : ByteArray)) [(0, some (.row 1 20 [[.sc (.iface 9 (.string ⟨#[115, 101, 114, 105, 101, 115]⟩))], [.sc (.iface 3 (.int .i64 0))], [.sc (.iface 9 (.string ⟨#[104, 101, 97, 100]⟩))], [.sc (.iface 3 (.int .i64 0))], [.sc (.iface 9 (.string ⟨#[98, 108, 111, 99, 107, 115]⟩))], [.sc (.iface 3 (.int .i64 0))], [.sc (.iface 9 (.string ⟨#[109, 97, 114, 107]⟩))], [.sc (.iface 2 (.int .i64 0))], [.sc (.iface 9 (.string ⟨#[109, 111, 114, 101]⟩))], [.sc (.iface 4 (.bool false))], [.sc (.iface 9 (.string ⟨#[114, 101, 97, 100, 111, 110, 108, 121]⟩))], [.sc (.iface 4 (.bool false))]]))]))] [(2, sV (⟨#[115, 101, 114, 105, 101, 115, 32, 48, 32, 104, 101, 97, 100, 32, 48, 32, 98, 108, 111, 99, 107, 115, 32, 48, 32, 109, 97, 114, 107, 32, 48, 32, 109, 111, 114, 101, 32, 102, 97, 108, 115, 101, 32, 114, 101, 97, 100, 111, 110, 108, 121, 32, 102, 97, 108, 115, 101]⟩ : ByteArray))] [2] [] [0, 1, 2, 3, 4, 5] [([(0, some (.box 129 [.ptr 1 0 0, iV .i64 0, .none0, .none0, .mown 5, iV .i64 0, iV .i64 0, iV .i64 0])), (1, some (.box 126 [iV .i64 65536, .mown 2, .mown 4, iV .i64 (-1), iV .i64 4, bV false])), (2, some (.gmap [Value.string ⟨#[108, 111, 103, 45, 48, 48, 48, 48, 48, 48]⟩] [.ptr 3 0 0] [1] 2)), (3, some (.box 231 [.im (.row [[iI .u8 1], [iI .u8 0], [iI .u8 0], [iI .u8 0], [iI .u8 173], [iI .u8 222], [iI .u8 66], [iI .u8 251], [iI .u8 0]]), iV .i64 9])), (4, some (.gmap [Value.string ⟨#[108, 111, 103, 45, 48, 48, 48, 48, 48, 48]⟩] [.ptr 3 0 0] [1] 2)), (5, some (.gmap [] [] [] 0)), (0, none), (1, none), (2, none), (3, none), (4, none), (5, none)] : List (Nat × Option MObj)) = [(0, some (.box 129 [.ptr 1 0 0, iV .i64 0, .none0, .none0, .mown 5, iV .i64 0, iV .i64 0, iV .i64 0])), (1, some (.box 126 [iV .i64 65536, .mown 2, .mown 4, iV .i64 (-1), iV .i64 4, bV false])), (2, some (.gmap [Value.string ⟨#[108, 111, 103, 45, 48, 48, 48, 48, 48, 48]⟩] [.ptr 3 0 0] [1] 2)), (3, some (.box 231 [.im (.row [[iI .u8 1], [iI .u8 0], [iI .u8 0], [iI .u8 0], [iI .u8 173], [iI .u8 222], [iI .u8 66], [iI .u8 251], [iI .u8 0]]), iV .i64 9])), (4, some (.gmap [Value.string ⟨#[108, 111, 103, 45, 48, 48, 48, 48, 48, 48]⟩] [.ptr 3 0 0] [1] 2)), (5, some (.gmap [] [] [] 0)), (0, none), (1, none), (2, none), (3, none), (4, none), (5, none)], _, _, ([[.sc (.iface 9 (.string ⟨#[115, 101, 114, 105, 101, 115]⟩))], [.sc (.iface 3 (.int .i64 0))], [.sc (.iface 9 (.string ⟨#[104, 101, 97, 100]⟩))], [.sc (.iface 3 (.int .i64 0))], [.sc (.iface 9 (.string ⟨#[98, 108, 111, 99, 107, 115]⟩))], [.sc (.iface 3 (.int .i64 0))], [.sc (.iface 9 (.string ⟨#[109, 97, 114, 107]⟩))], [.sc (.iface 2 (.int .i64 0))], [.sc (.iface 9 (.string ⟨#[109, 111, 114, 101]⟩))], [.sc (.iface 4 (.bool false))], [.sc (.iface 9 (.string ⟨#[114, 101, 97, 100, 111, 110, 108, 121]⟩))], [.sc (.iface 4 (.bool false))]] : List (List Im)) = [[.sc (.iface 9 (.string ⟨#[115, 101, 114, 105, 101, 115]⟩))], [.sc (.iface 3 (.int .i64 0))], [.sc (.iface 9 (.string ⟨#[104, 101, 97, 100]⟩))], [.sc (.iface 3 (.int .i64 0))], [.sc (.iface 9 (.string ⟨#[98, 108, 111, 99, 107, 115]⟩))], [.sc (.iface 3 (.int .i64 0))], [.sc (.iface 9 (.string ⟨#[109, 97, 114, 107]⟩))], [.sc (.iface 2 (.int .i64 0))], [.sc (.iface 9 (.string ⟨#[109, 111, 114, 101]⟩))], [.sc (.iface 4 (.bool false))], [.sc (.iface 9 (.string ⟨#[114, 101, 97, 100, 111, 110, 108, 121]⟩))], [.sc (.iface 4 (.bool false))]], ([(8, some (.row 1 20 [[.sc (.iface 9 (.string ⟨#[115, 101, 114, 105, 101, 115]⟩))], [.sc (.iface 3 (.int .i64 0))], [.sc (.iface 9 (.string ⟨#[104, 101, 97, 100]⟩))], [.sc (.iface 3 (.int .i64 0))], [.sc (.iface 9 (.string ⟨#[98, 108, 111, 99, 107, 115]⟩))], [.sc (.iface 3 (.int .i64 0))], [.sc (.iface 9 (.string ⟨#[109, 97, 114, 107]⟩))], [.sc (.iface 2 (.int .i64 0))], [.sc (.iface 9 (.string ⟨#[109, 111, 114, 101]⟩))], [.sc (.iface 4 (.bool false))], [.sc (.iface 9 (.string ⟨#[114, 101, 97, 100, 111, 110, 108, 121]⟩))], [.sc (.iface 4 (.bool false))]])), (8, none)] : List (Nat × Option MObj)) = [(8, some (.row 1 20 [[.sc (.iface 9 (.string ⟨#[115, 101, 114, 105, 101, 115]⟩))], [.sc (.iface 3 (.int .i64 0))], [.sc (.iface 9 (.string ⟨#[104, 101, 97, 100]⟩))], [.sc (.iface 3 (.int .i64 0))], [.sc (.iface 9 (.string ⟨#[98, 108, 111, 99, 107, 115]⟩))], [.sc (.iface 3 (.int .i64 0))], [.sc (.iface 9 (.string ⟨#[109, 97, 114, 107]⟩))], [.sc (.iface 2 (.int .i64 0))], [.sc (.iface 9 (.string ⟨#[109, 111, 114, 101]⟩))], [.sc (.iface 4 (.bool false))], [.sc (.iface 9 (.string ⟨#[114, 101, 97, 100, 111, 110, 108, 121]⟩))], [.sc (.iface 4 (.bool false))]])), (8, none)], _, _] ⟨rfl, Tryz.call37, cx73_ReadOnly, rfl, rfl, Tryz.call24, cx141_words, trivial⟩ ?_
  refine AWp.ret ?_
  exact rl (.inl rfl) rfl (by kernel_rfl) (by kernel_rfl)
theorem cx143_awake : Pv.Fn Tryz.prog 7 [] [] 0 (fun x o => x = bV true ∧ o = []) := by
  refine Fn.bodyK [] Tryz.func7 rfl rfl (fun Γ hP hn => ?_)
  have hm : Tryz.prog.follows .mixedOrders = true := by kernel_rfl
  replace hn : Γ.n = 17 := hn
  refine sO hP hn hm [] [] [] [] [] ?_
  refine sR hP hn hm [(0, .callz [] [(0, 0), (2, 1), (3, 2), (4, 3), (5, 4), (6, 5), (7, 6)] [] [0, 1, 2, 3, 4, 5, 6] 0 (.ptr 7 0 0) [(0, some (.gmap [Value.string ⟨#[108, 111, 103, 45, 48, 48, 48, 48, 48, 48]⟩] [.ptr 5 0 0] [1] 2)), (2, some (.box 126 [iV .i64 65536, .mown 0, .mown 6, iV .i64 (-1), iV .i64 4, bV false])), (3, some (.gmap [] [] [] 0)), (4, some (.box 129 [.ptr 2 0 0, iV .i64 0, .none0, .none0, .mown 3, iV .i64 0, iV .i64 0, iV .i64 0])), (5, some (.box 231 [.im (.row [[iI .u8 1], [iI .u8 0], [iI .u8 0], [iI .u8 0], [iI .u8 173], [iI .u8 222], [iI .u8 66], [iI .u8 251], [iI .u8 0]]), iV .i64 9])), (6, some (.gmap [Value.string ⟨#[108, 111, 103, 45, 48, 48, 48, 48, 48, 48]⟩] [.ptr 5 0 0] [1] 2)), (7, some (.box 56 [.ptr 2 0 0, .ptr 4 0 0, iV .i64 0, .none0, .im (.sc (.pointer none)), bV false]))])] [(1, .ptr 6 0 0)] [1] [(0, some (.gmap [Value.string ⟨#[108, 111, 103, 45, 48, 48, 48, 48, 48, 48]⟩] [.ptr 4 0 0] [1] 2)), (1, some (.box 126 [iV .i64 65536, .mown 0, .mown 5, iV .i64 (-1), iV .i64 4, bV false])), (2, some (.gmap [] [] [] 0)), (3, some (.box 129 [.ptr 1 0 0, iV .i64 0, .none0, .none0, .mown 2, iV .i64 0, iV .i64 0, iV .i64 0])), (4, some (.box 231 [.im (.row [[iI .u8 1], [iI .u8 0], [iI .u8 0], [iI .u8 0], [iI .u8 173], [iI .u8 222], [iI .u8 66], [iI .u8 251], [iI .u8 0]]), iV .i64 9])), (5, some (.gmap [Value.string ⟨#[108, 111, 103, 45, 48, 48, 48, 48, 48, 48]⟩] [.ptr 4 0 0] [1] 2)), (6, some (.box 56 [.ptr 1 0 0, .ptr 3 0 0, iV .i64 0, .none0, .im (.sc (.pointer none)), bV false]))] [0, 1, 2, 3, 4, 5, 6] [_, _] ⟨Tryz.call17, cx74_Begun, trivial⟩ ?_
  refine sR hP hn hm [(1, .more (xPtrNil true)), (3, .callz [] [] [] [] 0 (sV (⟨#[102, 117, 108, 108]⟩ : ByteArray)) []), (11, .callz [(3, 0), (1, 1), (0, 2), (4, 3), (5, 4), (2, 5)] [(0, 3), (1, 1), (2, 0), (3, 4), (4, 5), (5, 2)] [] [] 6 (sV (⟨#[115, 101, 114, 105, 101, 115, 32, 48, 32, 104, 101, 97, 100, 32, 48, 32, 98, 108, 111, 99, 107, 115, 32, 48, 32, 109, 97, 114, 107, 32, 48, 32, 109, 111, 114, 101, 32, 102, 97, 108, 115, 101, 32, 114, 101, 97, 100, 111, 110, 108, 121, 32, 102, 97, 108, 115, 101]⟩ : ByteArray)) [(0, some (.box 129 [.ptr 1 0 0, iV .i64 0, .none0, .none0, .mown 5, iV .i64 0, iV .i64 0, iV .i64 0])), (1, some (.box 126 [iV .i64 65536, .mown 2, .mown 4, iV .i64 (-1), iV .i64 4, bV false])), (2, some (.gmap [Value.string ⟨#[108, 111, 103, 45, 48, 48, 48, 48, 48, 48]⟩] [.ptr 3 0 0] [1] 2)), (3, some (.box 231 [.im (.row [[iI .u8 1], [iI .u8 0], [iI .u8 0], [iI .u8 0], [iI .u8 173], [iI .u8 222], [iI .u8 66], [iI .u8 251], [iI .u8 0]]), iV .i64 9])), (4, some (.gmap [Value.string ⟨#[108, 111, 103, 45, 48, 48, 48, 48, 48, 48]⟩] [.ptr 3 0 0] [1] 2)), (5, some (.gmap [] [] [] 0))])] [(0, bV true)] [0] [] [] [true = !false, _, _, _, _] ⟨rfl, Tryz.call5, cx75_Error, Tryz.call18, cx142_Store, trivial⟩ ?_
  refine AWp.ret ?_
  exact rl (.inl rfl) rfl (by kernel_rfl) (by kernel_rfl)
def f_report_Error.f (a0 : Int) : Option (ByteArray) := ((if (decide (a0 ≥ (0 : Int))) = true then (some (decide (a0 < (13 : Int)))) else (some false)) : Option (Bool)) >>= fun x3 => if x3 = true then ((at? gt0 a0) >>= fun b8 => some b8) else (((if (decide (a0 ≥ (20 : Int))) = true then (some (decide ((IntKind.i64.wrap (a0 - (20 : Int))) < (13 : Int)))) else (some false)) : Option (Bool)) >>= fun x13 => if x13 = true then ((at? gt1 (IntKind.i64.wrap (a0 - (20 : Int)))) >>= fun b18 => some b18) else (some (⟨#[111, 116, 104, 101, 114]⟩ : ByteArray)))
theorem f_report_Error.ok (a0 : Int) (r : ByteArray) (H : f_report_Error.f a0 = some r) : Pv.Fn Tryz.prog 5 [iV .i64 a0] [] 0 (fun x o => x = sV r ∧ o = []) := by
  unfold f_report_Error.f at H
  exact HT.fn H (fun r => sV r) (fun r => []) [] Tryz.func5 rfl rfl hmx (.r0 <| .bl <| .join (.sp (fun c2 => .rg [(2, hB c2)] <| .o [])
 (fun c2 => .rg [(2, hB c2)] <| .o []))
 (.st .normal (fun x3 => ⟨[(0, iV .i64 a0), (3, bV x3)], [], 0⟩) fun x3 => .cd (fun c4 => .el fun b8 p9 q10 => .rg [(1, hGX 13 Value.string gt0_ok p9 q10)] <| .ret [] [] [] ⟨[(2, sV b8)], [], 0⟩)
 (fun c4 => .join (.sp (fun c12 => .rg [(2, hB c12)] <| .o [])
 (fun c12 => .rg [(2, hB c12)] <| .o []))
 (.st .normal (fun x13 => ⟨[(0, iV .i64 a0), (13, bV x13)], [], 0⟩) fun x13 => .cd (fun c14 => .el fun b18 p19 q20 => .rg [(2, hGX 13 Value.string gt1_ok p19 q20)] <| .ret [] [] [] ⟨[(2, sV b18)], [], 0⟩)
 (fun c14 => .r0 <| .ret [] [] [] ⟨[(2, sV (⟨#[111, 116, 104, 101, 114]⟩ : ByteArray))], [], 0⟩)))))
def f_pluviallaw26_ReportNames_1.f (a0 : Int) : Option (Bool) := ((if (decide (a0 ≥ (0 : Int))) = true then (if (decide (a0 ≤ (12 : Int))) = true then (some true) else (if (decide (a0 ≥ (20 : Int))) = true then (some (decide (a0 ≤ (32 : Int)))) else (some false))) else (if (decide (a0 ≥ (20 : Int))) = true then (some (decide (a0 ≤ (32 : Int)))) else (some false))) : Option (Bool)) >>= fun x37 => some x37
theorem f_pluviallaw26_ReportNames_1.ok (a0 : Int) (r : Bool) (H : f_pluviallaw26_ReportNames_1.f a0 = some r) : Pv.Fn Tryz.prog 6 [iV .i64 a0] [] 0 (fun x o => x = bV r ∧ o = []) := by
  unfold f_pluviallaw26_ReportNames_1.f at H
  exact HT.fn H (fun r => bV r) (fun r => []) [] Tryz.func6 rfl rfl hmx (.r0 <| .join (.sp (fun c33 => .sp (fun c34 => .rg [(2, hB c33), (6, hB c34)] <| .o [])
 (fun c34 => .sp (fun c35 => .rg [(2, hB c33), (6, hB c34), (9, hB c35)] <| .o [])
 (fun c35 => .rg [(2, hB c33), (6, hB c34), (9, hB c35)] <| .o [])))
 (fun c33 => .sp (fun c36 => .rg [(2, hB c33), (9, hB c36)] <| .o [])
 (fun c36 => .rg [(2, hB c33), (9, hB c36)] <| .o [])))
 (.st .normal (fun x37 => ⟨[(2, bV x37)], [], 0⟩) fun x37 => .ret [] [] [] ⟨[(2, bV x37)], [], 0⟩))
def f_pluviallaw26_awake.f : Option Bool := some true
theorem f_pluviallaw26_awake.ok (r : Bool) (H : f_pluviallaw26_awake.f = some r) : Pv.Fn Tryz.prog 7 [] [] 0 (fun x o => x = bV r ∧ o = []) := by
  obtain rfl := sj H
  exact cx143_awake
def f_pluviallaw26_ReportNames.f (a0 : Int) (a1 : Int) : Option (Bool) := (f_report_Error.f a0) >>= fun t25 => (f_report_Error.f a1) >>= fun t27 => (((f_pluviallaw26_ReportNames_1.f a0) >>= fun t43 => if t43 = true then ((f_pluviallaw26_ReportNames_1.f a1) >>= fun t46 => some t46) else (some false)) : Option (Bool)) >>= fun x48 => if x48 = true then ((((f_pluviallaw26_awake.f) >>= fun t55 => if t55 = true then (if ((t25.toList == t27.toList) == (a0 == a1)) = true then (if (!(t25.toList == (⟨#[111, 116, 104, 101, 114]⟩ : ByteArray).toList)) = true then (some (!(t25.toList == (⟨#[]⟩ : ByteArray).toList))) else (some false)) else (some false)) else (some false)) : Option (Bool)) >>= fun x60 => some x60) else ((((f_pluviallaw26_awake.f) >>= fun t74 => if t74 = true then ((f_pluviallaw26_ReportNames_1.f a0) >>= fun t77 => if t77 = true then ((f_pluviallaw26_ReportNames_1.f a1) >>= fun t80 => if t80 = true then (some true) else (some (t27.toList == (⟨#[111, 116, 104, 101, 114]⟩ : ByteArray).toList))) else (if (t25.toList == (⟨#[111, 116, 104, 101, 114]⟩ : ByteArray).toList) = true then ((f_pluviallaw26_ReportNames_1.f a1) >>= fun t84 => if t84 = true then (some true) else (some (t27.toList == (⟨#[111, 116, 104, 101, 114]⟩ : ByteArray).toList))) else (some false))) else (some false)) : Option (Bool)) >>= fun x87 => some x87)
theorem f_pluviallaw26_ReportNames.ok (a0 : Int) (a1 : Int) (r : Bool) (H : f_pluviallaw26_ReportNames.f a0 a1 = some r) : Pv.Fn Tryz.prog 3 [iV .i64 a0, iV .i64 a1] [] 0 (fun x o => x = bV r ∧ o = []) := by
  unfold f_pluviallaw26_ReportNames.f at H
  exact HT.fn H (fun r => bV r) (fun r => []) [] Tryz.func3 rfl rfl hmx (.r0 <| .bd fun t25 e26 => .bd fun t27 e28 => .rg [(1, hC [] [] [] [] Tryz.call5 (f_report_Error.ok a0 t25 e26)), (3, hC [] [] [] [] Tryz.call5 (f_report_Error.ok a1 t27 e28))] <| .r0 <| .join (.bd fun t43 e44 => .sp (fun c45 => .bd fun t46 e47 => .rg [(2, hC [] [] [] [] Tryz.call6 (f_pluviallaw26_ReportNames_1.ok a0 t43 e44)), (3, hB c45), (6, hC [] [] [] [] Tryz.call6 (f_pluviallaw26_ReportNames_1.ok a1 t46 e47))] <| .o [])
 (fun c45 => .rg [(2, hC [] [] [] [] Tryz.call6 (f_pluviallaw26_ReportNames_1.ok a0 t43 e44)), (3, hB c45)] <| .o []))
 (.st .normal (fun x48 => ⟨[(0, iV .i64 a0), (1, iV .i64 a1), (5, sV t25), (6, sV t27), (7, .im (.sc (.func (.func 6) #[] #[]))), (19, bV x48)], [], 0⟩) fun x48 => .cd (fun c49 => .join (.bd fun t55 e56 => .sp (fun c57 => .sp (fun c58 => .sp (fun c59 => .rg [(0, hC [] [] [] [] Tryz.call7 (f_pluviallaw26_awake.ok  t55 e56)), (1, hB c57), (10, hB c58), (14, hB c59)] <| .o [])
 (fun c59 => .rg [(0, hC [] [] [] [] Tryz.call7 (f_pluviallaw26_awake.ok  t55 e56)), (1, hB c57), (10, hB c58), (14, hB c59)] <| .o []))
 (fun c58 => .rg [(0, hC [] [] [] [] Tryz.call7 (f_pluviallaw26_awake.ok  t55 e56)), (1, hB c57), (10, hB c58)] <| .o []))
 (fun c57 => .rg [(0, hC [] [] [] [] Tryz.call7 (f_pluviallaw26_awake.ok  t55 e56)), (1, hB c57)] <| .o []))
 (.st .normal (fun x60 => ⟨[(4, bV x60)], [], 0⟩) fun x60 => .ret [] [] [] ⟨[(4, bV x60)], [], 0⟩))
 (fun c49 => .join (.bd fun t74 e75 => .sp (fun c76 => .bd fun t77 e78 => .sp (fun c79 => .bd fun t80 e81 => .sp (fun c82 => .rg [(0, hC [] [] [] [] Tryz.call7 (f_pluviallaw26_awake.ok  t74 e75)), (1, hB c76), (4, hC [] [] [] [] Tryz.call6 (f_pluviallaw26_ReportNames_1.ok a0 t77 e78)), (5, hB c79), (13, hC [] [] [] [] Tryz.call6 (f_pluviallaw26_ReportNames_1.ok a1 t80 e81)), (14, hB c82)] <| .o [])
 (fun c82 => .rg [(0, hC [] [] [] [] Tryz.call7 (f_pluviallaw26_awake.ok  t74 e75)), (1, hB c76), (4, hC [] [] [] [] Tryz.call6 (f_pluviallaw26_ReportNames_1.ok a0 t77 e78)), (5, hB c79), (13, hC [] [] [] [] Tryz.call6 (f_pluviallaw26_ReportNames_1.ok a1 t80 e81)), (14, hB c82)] <| .o []))
 (fun c79 => .sp (fun c83 => .bd fun t84 e85 => .sp (fun c86 => .rg [(0, hC [] [] [] [] Tryz.call7 (f_pluviallaw26_awake.ok  t74 e75)), (1, hB c76), (4, hC [] [] [] [] Tryz.call6 (f_pluviallaw26_ReportNames_1.ok a0 t77 e78)), (5, hB c79), (10, hB c83), (13, hC [] [] [] [] Tryz.call6 (f_pluviallaw26_ReportNames_1.ok a1 t84 e85)), (14, hB c86)] <| .o [])
 (fun c86 => .rg [(0, hC [] [] [] [] Tryz.call7 (f_pluviallaw26_awake.ok  t74 e75)), (1, hB c76), (4, hC [] [] [] [] Tryz.call6 (f_pluviallaw26_ReportNames_1.ok a0 t77 e78)), (5, hB c79), (10, hB c83), (13, hC [] [] [] [] Tryz.call6 (f_pluviallaw26_ReportNames_1.ok a1 t84 e85)), (14, hB c86)] <| .o []))
 (fun c83 => .rg [(0, hC [] [] [] [] Tryz.call7 (f_pluviallaw26_awake.ok  t74 e75)), (1, hB c76), (4, hC [] [] [] [] Tryz.call6 (f_pluviallaw26_ReportNames_1.ok a0 t77 e78)), (5, hB c79), (10, hB c83)] <| .o [])))
 (fun c76 => .rg [(0, hC [] [] [] [] Tryz.call7 (f_pluviallaw26_awake.ok  t74 e75)), (1, hB c76)] <| .o []))
 (.st .normal (fun x87 => ⟨[(4, bV x87)], [], 0⟩) fun x87 => .ret [] [] [] ⟨[(4, bV x87)], [], 0⟩))))
end Go.Proofs.YtppfbpckgfkhfaaGreatDoor.PvGO
