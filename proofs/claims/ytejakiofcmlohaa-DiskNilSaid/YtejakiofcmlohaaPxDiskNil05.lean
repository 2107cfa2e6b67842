import Derived.Shelf.Slices.In.SortNone
import Derived.Shelf.Sort.Plain
import Derived.Test.YtejakiofcmlohaaProg
import Derived.Test.YtejakiofcmlohaaPxDiskNil04
set_option linter.unusedVariables false
set_option linter.unnecessarySimpa false
set_option linter.unusedSimpArgs false
set_option maxRecDepth 10000
namespace Go.Proofs.Ytejakiofcmlohaa.PvGN
open Go Go.Pv
def f_slices_Clone_byte.f (a0 : List Int) : Option (List Int) := (chk ((([] : List Int).length + a0.length) * 1 ≤ 140737488355328)) >>= fun _ => some a0
theorem f_slices_Clone_byte.ok (a0 r : List Int) (H : f_slices_Clone_byte.f a0 = some r) : Pv.Fn Try.prog 26 [.im (.row (a0.map (encInt .u8)))] [] 0 (fun x o => x = .own 0 ∧ o = [(0, some (.row 1 5 (r.map (encInt .u8))))]) := by
  unfold f_slices_Clone_byte.f at H
  obtain ⟨c1, H⟩ := chk_of H
  obtain rfl := Option.some.inj H
  refine Fn.bodyK [0] Try.func26 rfl rfl (fun Γ hP hn => ?_)
  have hm : Try.prog.follows .mixedOrders = true := by kernel_rfl
  replace hn : Γ.n = 8 := hn
  refine AWp.seq ?_
  refine reg hP hn hm [] [0, 2] [] ⟨[(0, .im (.row (a0.map (encInt .u8)))), (2, .none0)], [], 0⟩ [] (by kernel_rfl) trivial ?_
  refine AWp.seq ?_
  cases a0 with
  | nil =>
    refine AWp.nilSplit 0 rfl (fun b m => ?_)
    refine AWp.seq ?_
    cases b with
    | none =>
      refine reg hP hn hm [(1, .more xNil)] [2, 4] [] ⟨[(2, .none0), (4, bV true)], [], 0⟩ [] (by kernel_rfl) trivial ?_
      refine AWp.cond true rfl (fun _ => ?_) (fun h => nomatch h)
      refine AWp.seq ?_
      refine reg hP hn hm [] [2] [] ⟨[(2, .none0)], [], 0⟩ [] (by kernel_rfl) trivial ?_
      refine AWp.conv (inv := []) (vk := []) (e0 := [0]) (t := ⟨[(2, .own 0)], [(0, some (.row 1 5 []))], 0⟩) (by kernel_rfl) ?_
      refine AWp.ret ?_
      exact Exists.intro _ (And.intro (fun _ _ h => h) (And.intro (.inl rfl) (And.intro rfl (And.intro (by kernel_rfl) (by kernel_rfl)))))
    | some b =>
      refine reg hP hn hm [(1, .more xNil)] [0, 2, 4] [] ⟨[(0, .im (.sc (.slice (some b) 0 m))), (2, .none0), (4, bV false)], [], 0⟩ [] (by kernel_rfl) trivial ?_
      refine AWp.cond false rfl (fun h => nomatch h) (fun _ => ?_)
      refine AWp.skip ?_
      refine AWp.unsplit 0 rfl ?_
      refine AWp.seq ?_
      refine reg hP hn hm [(0, .app 0 ([] : List (List Im))), (2, .app 1 (([] : List Int).map (encInt .u8)))] [2] [1] ⟨[(2, .own 1)], [(1, some (.row 1 5 (([] : List Int).map (encInt .u8))))], 0⟩ [([] : List (List Im)) = [], ([] : List Int).map (encInt .u8) = ([] : List (List Im)) ++ ([] : List Int).map (encInt .u8), ∀ c ∈ ([] : List Int).map (encInt .u8), c.length = 1, ∀ c ∈ ([] : List Int).map (encInt .u8), leaves (c.map .im) = true, (([] : List (List Im)).length + (([] : List Int).map (encInt .u8)).length) * 1 ≤ 140737488355328] (by kernel_rfl) ⟨rfl, by simp, by exact all_len _ _ _ (fun _ => rfl), by exact all_leaf _ _ (fun _ => rfl), by simpa using c1, trivial⟩ ?_
      refine AWp.conv (inv := [(1, 0)]) (vk := []) (e0 := []) (t := ⟨[(2, .own 0)], [(0, some (.row 1 5 (([] : List Int).map (encInt .u8))))], 0⟩) (by kernel_rfl) ?_
      refine AWp.ret ?_
      exact Exists.intro _ (And.intro (fun _ _ h => h) (And.intro (.inl rfl) (And.intro rfl (And.intro (by kernel_rfl) (by kernel_rfl)))))
  | cons y l =>
    refine AWp.seq ?_
    refine reg hP hn hm [(1, .more xNil)] [0, 2, 4] [] ⟨[(0, .im (.row ((y :: l).map (encInt .u8)))), (2, .none0), (4, bV false)], [], 0⟩ [] (by kernel_rfl) trivial ?_
    refine AWp.cond false rfl (fun h => nomatch h) (fun _ => ?_)
    refine AWp.skip ?_
    refine AWp.seq ?_
    refine reg hP hn hm [(0, .app 0 ([] : List (List Im))), (2, .app 1 ((y :: l).map (encInt .u8)))] [2] [1] ⟨[(2, .own 1)], [(1, some (.row 1 5 ((y :: l).map (encInt .u8))))], 0⟩ [([] : List (List Im)) = [], (y :: l).map (encInt .u8) = ([] : List (List Im)) ++ (y :: l).map (encInt .u8), ∀ c ∈ (y :: l).map (encInt .u8), c.length = 1, ∀ c ∈ (y :: l).map (encInt .u8), leaves (c.map .im) = true, (([] : List (List Im)).length + ((y :: l).map (encInt .u8)).length) * 1 ≤ 140737488355328] (by kernel_rfl) ⟨rfl, by simp, by exact all_len _ _ _ (fun _ => rfl), by exact all_leaf _ _ (fun _ => rfl), by simpa using c1, trivial⟩ ?_
    refine AWp.conv (inv := [(1, 0)]) (vk := []) (e0 := []) (t := ⟨[(2, .own 0)], [(0, some (.row 1 5 ((y :: l).map (encInt .u8))))], 0⟩) (by kernel_rfl) ?_
    refine AWp.ret ?_
    exact Exists.intro _ (And.intro (fun _ _ h => h) (And.intro (.inl rfl) (And.intro rfl (And.intro (by kernel_rfl) (by kernel_rfl)))))
def lays150_ren : Go.Shelf.Ren := ⟨fun | 150 => 37 | 153 => 48 | 152 => 61 | 226 => 62 | 227 => 63 | 228 => 64 | 137 => 71 | 119 => 72 | 224 => 73 | 225 => 74 | 217 => 76 | 266 => 77 | n => n, fun | 9 => 9 | 4 => 4 | 3 => 3 | 5 => 5 | 21 => 21 | 117 => 102 | 116 => 101 | 0 => 0 | 46 => 85 | 124 => 114 | n => n, fun | n => n⟩
theorem lays150 : Go.Proofs.Lays.n150 Try.prog lays150_ren := {
  mixed := by kernel_rfl
  f119 := Try.func72.trans (congrArg some (by kernel_rfl))
  f137 := Try.func71.trans (congrArg some (by kernel_rfl))
  f150 := Try.func37.trans (congrArg some (by kernel_rfl))
  f152 := Try.func61.trans (congrArg some (by kernel_rfl))
  f153 := Try.func48.trans (congrArg some (by kernel_rfl))
  f217 := Try.func76.trans (congrArg some (by kernel_rfl))
  f224 := Try.func73.trans (congrArg some (by kernel_rfl))
  f225 := Try.func74.trans (congrArg some (by kernel_rfl))
  f226 := Try.func62.trans (congrArg some (by kernel_rfl))
  f227 := Try.func63.trans (congrArg some (by kernel_rfl))
  f228 := Try.func64.trans (congrArg some (by kernel_rfl))
  f266 := Try.func77.trans (congrArg some (by kernel_rfl))
  t0 := Try.underlying0
  a0 := Try.isAgg0
  z0 := Try.sizeOf0
  v0 := Try.zeroValue0
  t3 := Try.underlying3
  a3 := Try.isAgg3
  z3 := Try.sizeOf3
  v3 := Try.zeroValue3
  t4 := Try.underlying4
  a4 := Try.isAgg4
  z4 := Try.sizeOf4
  v4 := Try.zeroValue4
  t5 := Try.underlying5
  a5 := Try.isAgg5
  z5 := Try.sizeOf5
  v5 := Try.zeroValue5
  t9 := Try.underlying9
  a9 := Try.isAgg9
  z9 := Try.sizeOf9
  v9 := Try.zeroValue9
  t21 := Try.underlying21
  a21 := Try.isAgg21
  z21 := Try.sizeOf21
  v21 := Try.zeroValue21
  t46 := Try.underlying85
  a46 := Try.isAgg85
  z46 := Try.sizeOf85
  v46 := Try.zeroValue85
  t116 := Try.underlying101
  a116 := Try.isAgg101
  z116 := Try.sizeOf101
  t117 := Try.underlying102
  a117 := Try.isAgg102
  z117 := Try.sizeOf102
  v117 := Try.zeroValue102
  t124 := Try.underlying114
  a124 := Try.isAgg114
  z124 := Try.sizeOf114
  v124 := Try.zeroValue114 }
def lays190_ren : Go.Shelf.Ren := ⟨fun | 190 => 35 | 125 => 47 | 258 => 46 | 128 => 59 | 129 => 60 | 302 => 50 | 303 => 51 | 304 => 52 | 305 => 53 | 306 => 54 | 307 => 55 | 308 => 56 | 309 => 57 | 310 => 58 | 333 => 65 | 329 => 66 | 330 => 67 | 334 => 68 | 335 => 69 | 336 => 70 | 344 => 75 | n => n, fun | 31 => 47 | 9 => 9 | 3 => 3 | 46 => 85 | 0 => 0 | 51 => 95 | 53 => 97 | 4 => 4 | 183 => 89 | 182 => 88 | 131 => 78 | 5 => 5 | 218 => 105 | 222 => 109 | 228 => 115 | 229 => 39 | n => n, fun | n => n⟩
theorem lays190 : Go.Proofs.Lays.n190 Try.prog lays190_ren := {
  mixed := by kernel_rfl
  f125 := Try.func47.trans (congrArg some (by kernel_rfl))
  f128 := Try.func59.trans (congrArg some (by kernel_rfl))
  f129 := Try.func60.trans (congrArg some (by kernel_rfl))
  f190 := Try.func35.trans (congrArg some (by kernel_rfl))
  f258 := Try.func46.trans (congrArg some (by kernel_rfl))
  f302 := Try.func50.trans (congrArg some (by kernel_rfl))
  f303 := Try.func51.trans (congrArg some (by kernel_rfl))
  f304 := Try.func52.trans (congrArg some (by kernel_rfl))
  f305 := Try.func53.trans (congrArg some (by kernel_rfl))
  f306 := Try.func54.trans (congrArg some (by kernel_rfl))
  f307 := Try.func55.trans (congrArg some (by kernel_rfl))
  f308 := Try.func56.trans (congrArg some (by kernel_rfl))
  f309 := Try.func57.trans (congrArg some (by kernel_rfl))
  f310 := Try.func58.trans (congrArg some (by kernel_rfl))
  f329 := Try.func66.trans (congrArg some (by kernel_rfl))
  f330 := Try.func67.trans (congrArg some (by kernel_rfl))
  f333 := Try.func65.trans (congrArg some (by kernel_rfl))
  f334 := Try.func68.trans (congrArg some (by kernel_rfl))
  f335 := Try.func69.trans (congrArg some (by kernel_rfl))
  f336 := Try.func70.trans (congrArg some (by kernel_rfl))
  f344 := Try.func75.trans (congrArg some (by kernel_rfl))
  t0 := Try.underlying0
  a0 := Try.isAgg0
  z0 := Try.sizeOf0
  v0 := Try.zeroValue0
  t3 := Try.underlying3
  a3 := Try.isAgg3
  z3 := Try.sizeOf3
  v3 := Try.zeroValue3
  t4 := Try.underlying4
  a4 := Try.isAgg4
  z4 := Try.sizeOf4
  v4 := Try.zeroValue4
  t5 := Try.underlying5
  a5 := Try.isAgg5
  z5 := Try.sizeOf5
  v5 := Try.zeroValue5
  t9 := Try.underlying9
  a9 := Try.isAgg9
  z9 := Try.sizeOf9
  v9 := Try.zeroValue9
  t31 := Try.underlying47
  a31 := Try.isAgg47
  z31 := Try.sizeOf47
  v31 := Try.zeroValue47
  t46 := Try.underlying85
  a46 := Try.isAgg85
  z46 := Try.sizeOf85
  v46 := Try.zeroValue85
  t51 := Try.underlying95
  a51 := Try.isAgg95
  z51 := Try.sizeOf95
  v51 := Try.zeroValue95
  t53 := Try.underlying97
  a53 := Try.isAgg97
  z53 := Try.sizeOf97
  v53 := Try.zeroValue97
  t131 := Try.underlying78
  a131 := Try.isAgg78
  z131 := Try.sizeOf78
  v131 := Try.zeroValue78
  t182 := Try.underlying88
  a182 := Try.isAgg88
  z182 := Try.sizeOf88
  v182 := Try.zeroValue88
  t183 := Try.underlying89
  a183 := Try.isAgg89
  z183 := Try.sizeOf89
  v183 := Try.zeroValue89
  t218 := Try.underlying105
  a218 := Try.isAgg105
  z218 := Try.sizeOf105
  v218 := Try.zeroValue105
  t222 := Try.underlying109
  a222 := Try.isAgg109
  z222 := Try.sizeOf109
  v222 := Try.zeroValue109
  t228 := Try.underlying115
  a228 := Try.isAgg115
  z228 := Try.sizeOf115
  v228 := Try.zeroValue115
  t229 := Try.underlying39
  a229 := Try.isAgg39
  z229 := Try.sizeOf39
  v229 := Try.zeroValue39 }
def laysMc_ren : Go.Shelf.Ren := ⟨fun | 5 => 27 | 7 => 38 | n => n, fun | 23 => 54 | 25 => 9 | 3 => 57 | 4 => 4 | 20 => 20 | n => n, fun | n => n⟩
theorem laysMc : Go.Proofs.SlLaysW.n5 Try.prog laysMc_ren := {
  mixed := by kernel_rfl
  f5 := ⟨"maps.Clone[map[string]*pluvial/disk.file,string,*pluvial/disk.file]", by decide, Try.func27.trans (congrArg some (by kernel_rfl))⟩
  f7 := Try.func38.trans (congrArg some (by kernel_rfl))
  t4 := Try.underlying4
  a4 := Try.isAgg4
  z4 := Try.sizeOf4
  v4 := Try.zeroValue4
  t20 := Try.underlying20
  a20 := Try.isAgg20
  z20 := Try.sizeOf20
  v20 := Try.zeroValue20
  t23 := Try.underlying54
  a23 := Try.isAgg54
  z23 := Try.sizeOf54
  v23 := Try.zeroValue54 }
def laysKeys_ren : Go.Shelf.Ren := ⟨fun | 10 => 45 | n => n, fun | 33 => 58 | 23 => 54 | 0 => 0 | 4 => 4 | 26 => 9 | 3 => 57 | n => n, fun | n => n⟩
theorem laysKeys : Go.Proofs.SlLaysZ.n10 Try.prog laysKeys_ren := {
  mixed := by kernel_rfl
  f10 := ⟨"maps.Keys[map[string]*pluvial/disk.file,string,*pluvial/disk.file]$1", by decide, Try.func45.trans (congrArg some (by kernel_rfl))⟩
  t0 := Try.underlying0
  a0 := Try.isAgg0
  z0 := Try.sizeOf0
  v0 := Try.zeroValue0
  t4 := Try.underlying4
  a4 := Try.isAgg4
  z4 := Try.sizeOf4
  v4 := Try.zeroValue4
  t23 := Try.underlying54
  a23 := Try.isAgg54
  z23 := Try.sizeOf54
  v23 := Try.zeroValue54
  t26 := Try.underlying9
  a26 := Try.isAgg9
  z26 := Try.sizeOf9
  v26 := Try.zeroValue9
  t33 := Try.underlying58
  a33 := Try.isAgg58
  z33 := Try.sizeOf58
  v33 := Try.zeroValue58 }
def laysSorted_ren : Go.Shelf.Ren := ⟨fun | 6 => 33 | 8 => 44 | 9 => 35 | 11 => 49 | 13 => 47 | 12 => 46 | 23 => 59 | 24 => 60 | 14 => 50 | 15 => 51 | 16 => 52 | 17 => 53 | 18 => 54 | 19 => 55 | 20 => 56 | 21 => 57 | 22 => 58 | 25 => 65 | 26 => 66 | 27 => 67 | 28 => 68 | 29 => 69 | 30 => 70 | 31 => 75 | n => n, fun | 26 => 9 | 28 => 71 | 24 => 47 | 0 => 0 | 3 => 3 | 37 => 85 | 48 => 95 | 50 => 97 | 4 => 4 | 40 => 89 | 39 => 88 | 45 => 78 | 5 => 5 | 9 => 9 | 51 => 105 | 55 => 109 | 57 => 115 | 58 => 39 | 33 => 58 | n => n, fun | n => n⟩
theorem laysSorted : Go.Proofs.SlLaysZ.n6 Try.prog laysSorted_ren := {
  mixed := by kernel_rfl
  f6 := ⟨"slices.Sorted[string]", by decide, Try.func33.trans (congrArg some (by kernel_rfl))⟩
  f8 := ⟨"slices.Collect[string]", by decide, Try.func44.trans (congrArg some (by kernel_rfl))⟩
  f11 := ⟨"slices.AppendSeq[[]string,string]", by decide, Try.func49.trans (congrArg some (by kernel_rfl))⟩
  t0 := Try.underlying0
  a0 := Try.isAgg0
  z0 := Try.sizeOf0
  v0 := Try.zeroValue0
  t24 := Try.underlying47
  a24 := Try.isAgg47
  z24 := Try.sizeOf47
  v24 := Try.zeroValue47
  t26 := Try.underlying9
  a26 := Try.isAgg9
  z26 := Try.sizeOf9
  v26 := Try.zeroValue9
  t28 := Try.underlying71
  a28 := Try.isAgg71
  z28 := Try.sizeOf71
  v28 := Try.zeroValue71
  i26 := by kernel_rfl }
theorem contains_ok (a b : ByteArray) (r : Bool) (ha : a.size < 4294967281) (hb : b.size < 4294967281) (h1 : (a.data.toList.all fun b => decide (b.toNat < 128)) = true) (h2 : (b.data.toList.all fun b => decide (b.toNat < 128)) = true) (hr : Go.Lib.containsAny a.data.toList b.data.toList = r) : Pv.Fn Try.prog 37 [sV a, sV b] [] 0 (fun x o => x = bV r ∧ o = []) :=
  Fn.below (vs := [.string a, .string b]) (fun w => by subst hr; exact Go.Proofs.Any.strings_ContainsAny_laid lays150 (by kernel_rfl) a b w ha hb (ascii_of h1) (ascii_of h2))
theorem mclone_ok (b : Nat) (es : Array MapEntry) (clock : Nat) (w : World) (h : w.heap[b]? = some (.map es clock)) : Calls Try.prog 27 #[.map (some b)] w fun e w' => e = .returned (.map (some w.heap.size)) ∧ w' = w.alloc (.map es clock) := Go.Proofs.AnyW.maps_Clone laysMc b es clock w h
open Go.RowKit Go.Maps Go.Proofs in
theorem sorts_ok (m : Nat) : Go.Proofs.AnyZ.SortsIn Try.prog laysSorted_ren Fence.wide m :=
  ⟨fun blk off cap ss W hH hblk hsz => callsIn_wide.2 (Go.Proofs.Any.slices_Sort_string lays190 blk off cap ss W hH hblk hsz), fun p cap W => callsIn_wide.2 (Go.Proofs.Any.slices_Sort_string_none lays190 p cap W)⟩
open Go.RowKit Go.Maps Go.Proofs in
theorem sorted_ok (Bm b : Nat) (D0 : DataW Unit) (R : Value → Option (DataW Unit × List MemPlace)) (w : World) (hlt : Bm < w.heap.size) (hc : w.cell? ⟨Bm, 0, none⟩ = some (.map (some b))) (hown : w.ownsMap Try.prog 9 R b 1 D0) (hs : Go.Maps.size D0 ≤ 1) :
    Calls Try.prog 33 #[.func (.func 45) #[] #[.pointer (some ⟨Bm, 0, none⟩)]] w fun e w' => ∃ (v : Value) (ss : List (List UInt8)), e = .returned v ∧ ss.Perm (strKeys D0) ∧ w'.ownsRow w.heap.size 9 1 v ss.length ((ss.mergeSort (fun x y => decide (x ≤ y))).map Go.Proofs.encStr) ∧ Go.RowKit.Below w.heap.size w w' := by
  have hseq : SeqGives Fence.wide 2 Try.prog 45 #[.pointer (some ⟨Bm, 0, none⟩)] Go.Proofs.encStr (fun ss => ss.Perm (strKeys D0)) (Go.Maps.size D0) w :=
    Go.Proofs.AnyZ.keys_gives (ρ := laysKeys_ren) laysKeys Fence.wide _ trivial rfl (by omega) Bm b 1 D0 w hlt hc hown
  have cS := Go.Proofs.AnyZ.sorted_in laysSorted Fence.wide 5 trivial trivial trivial trivial rfl (by omega) (sorts_ok _) (enters_of Try.func35 (by kernel_rfl) rfl) 45 #[.pointer (some ⟨Bm, 0, none⟩)] trivial (enters_of Try.func45 (by kernel_rfl) rfl) _ _ (Nat.le_trans hs (by decide)) (by omega) _ hseq
  change CallsIn _ _ Try.prog 33 _ _ _ at cS
  refine (callsIn_wide (n := 5)).1 (cS.mono ?_)
  rintro e w' ⟨v, ss, rfl, hS, hrow, hnil, hb⟩
  exact ⟨v, ss, rfl, hS, hrow, hb⟩
theorem sort1 (x : ByteArray) : sortB [x] = [x] := by simp [sortB]
theorem f_sort.ok (a : List ByteArray) (h : a.length < 4611686018427387904) : Pv.Fn Try.prog 35 [.own 0] [(0, some (.row 1 9 (a.map Pv.encStr)))] 1 (fun x o => x = .tup [] ∧ o = [(0, some (.row 1 9 ((sortB a).map Pv.encStr)))]) :=
  Fn.sortStr (fun blk off cap ss w hH hb hl => Go.Proofs.Any.slices_Sort_string lays190 blk off cap ss w hH hb hl) (fun p cap w => Go.Proofs.Any.slices_Sort_string_none lays190 p cap w) a h
theorem sortOne (x : ByteArray) : Pv.Fn Try.prog 35 [.own 0] [(0, some (.row 1 9 [[sI x]]))] 1 (fun y o => y = .tup [] ∧ o = [(0, some (.row 1 9 [[sI x]]))]) := by
  have h := f_sort.ok [x] (by simp)
  rw [sort1] at h
  exact h
theorem cx1_Fuse (a1 : Int) : Pv.Fn Try.prog 11 [.im (.sc (.pointer none)), iV .i64 a1] [] 0 (fun x o => x = .tup [] ∧ o = []) := by
  refine Fn.bodyK [] Try.func11 rfl rfl (fun Γ hP hn => ?_)
  have hm : Try.prog.follows .mixedOrders = true := by kernel_rfl
  replace hn : Γ.n = 10 := hn
  refine sR hP hn hm [(1, .more (xPtrNil false))] [(5, bV false)] [0, 1, 5] [] [] [false = !true] ⟨rfl, trivial⟩ ?_
  refine AWp.cond false (by kernel_rfl) (fun h => nomatch h) (fun _ => ?_)
  refine AWp.skip ?_
  exact rl (.inr rfl) rfl (by kernel_rfl) (by kernel_rfl)
theorem cx2_Read (a0 : ByteArray) : Pv.Fn Try.prog 15 [.im (.sc (.pointer none)), sV a0] [] 0 (fun x o => x = .tup [.none0, iV .i64 2] ∧ o = []) := by
  refine Fn.bodyK [] Try.func15 rfl rfl (fun Γ hP hn => ?_)
  have hm : Try.prog.follows .mixedOrders = true := by kernel_rfl
  replace hn : Γ.n = 32 := hn
  refine sO hP hn hm [] [] [0, 1] [] [] ?_
  refine AWp.seq ?_
  refine AWp.block ?_
  refine sR hP hn hm [(1, .more (xPtrNil true))] [(6, bV true)] [0, 1, 6] [] [] [true = true] ⟨rfl, trivial⟩ ?_
  refine AWp.cond true (by kernel_rfl) (fun _ => ?_) (fun h => nomatch h)
  refine sO hP hn hm [] [(4, .none0), (5, iV .i64 2)] [4, 5] [] [] ?_
  refine AWp.ret ?_
  exact rl (.inl rfl) rfl (by kernel_rfl) (by kernel_rfl)
theorem cx3_New : Pv.Fn Try.prog 6 [iV .i64 9] [] 0 (fun x o => x = .tup [.ptr 2 0 0, iV .i64 0] ∧ o = [(0, some (.amap [] [])), (1, some (.amap [] [])), (2, some (.box 56 [iV .i64 9, .mown 0, .mown 1, iV .i64 (-1), iV .i64 0, bV false]))]) := by
  refine Fn.bodyK [0, 1, 2] Try.func6 rfl rfl (fun Γ hP hn => ?_)
  have hm : Try.prog.follows .mixedOrders = true := by kernel_rfl
  replace hn : Γ.n = 15 := hn
  refine sO hP hn hm [] [] [0] [] [] ?_
  refine AWp.seq ?_
  refine sO hP hn hm [] [(9, bV false)] [0, 9] [] [] ?_
  refine AWp.cond false (by kernel_rfl) (fun h => nomatch h) (fun _ => ?_)
  refine AWp.skip ?_
  show AWp Γ _ _ _
  refine sO hP hn hm [(1, .more (xMkA 0)), (2, .more (xMkA 1)), (4, .k 2)] [(2, .ptr 2 0 0), (3, iV .i64 0)] [2, 3] [(0, some (.amap [] [])), (1, some (.amap [] [])), (2, some (.box 56 [iV .i64 9, .mown 0, .mown 1, iV .i64 (-1), iV .i64 0, bV false]))] [0, 1, 2] ?_
  refine AWp.ret ?_
  exact rl (.inl rfl) rfl (by kernel_rfl) (by kernel_rfl)
theorem cx4_step : Pv.Fn Try.prog 24 [.ptr 0 0 0] [(0, some (.box 56 [iV .i64 9, .mown 1, .mown 2, iV .i64 (-1), iV .i64 0, bV false])), (1, some (.amap [] [])), (2, some (.amap [] []))] 3 (fun x o => x = iV .i64 0 ∧ o = [(0, some (.box 56 [iV .i64 9, .mown 1, .mown 2, iV .i64 (-1), iV .i64 1, bV false])), (1, some (.amap [] [])), (2, some (.amap [] []))]) := by
  refine Fn.bodyK [0, 1, 2] Try.func24 rfl rfl (fun Γ hP hn => ?_)
  have hm : Try.prog.follows .mixedOrders = true := by kernel_rfl
  replace hn : Γ.n = 39 := hn
  refine sO hP hn hm [] [] [0] [] [0, 1, 2] ?_
  refine AWp.seq ?_
  refine AWp.block ?_
  refine sR hP hn hm [(1, .more (xPtrNil false))] [(3, bV false)] [0, 3] [] [0, 1, 2] [false = false] ⟨rfl, trivial⟩ ?_
  refine AWp.cond false (by kernel_rfl) (fun h => nomatch h) (fun _ => ?_)
  refine sO hP hn hm [] [(6, bV false)] [0, 6] [] [0, 1, 2] ?_
  refine AWp.cond false (by kernel_rfl) (fun h => nomatch h) (fun _ => ?_)
  refine sO hP hn hm [] [(11, bV false)] [0, 11] [] [0, 1, 2] ?_
  refine AWp.cond false (by kernel_rfl) (fun h => nomatch h) (fun _ => ?_)
  refine AWp.skip ?_
  show AWp Γ _ _ _
  refine AWp.seq ?_
  refine sO hP hn hm [] [(24, bV false)] [0, 24] [] [0, 1, 2] ?_
  refine AWp.cond false (by kernel_rfl) (fun h => nomatch h) (fun _ => ?_)
  refine AWp.skip ?_
  show AWp Γ _ _ _
  refine sO hP hn hm [] [] [] [(0, some (.box 56 [iV .i64 9, .mown 1, .mown 2, iV .i64 (-1), iV .i64 1, bV false]))] [0, 1, 2] ?_
  refine sO hP hn hm [] [(2, iV .i64 0)] [2] [] [0, 1, 2] ?_
  refine AWp.ret ?_
  exact rl (.inl rfl) rfl (by kernel_rfl) (by kernel_rfl)
theorem cx5_Name : Pv.Fn Try.prog 25 [sV (⟨#[102]⟩ : ByteArray)] [] 0 (fun x o => x = bV true ∧ o = []) := by
  refine Fn.bodyK [] Try.func25 rfl rfl (fun Γ hP hn => ?_)
  have hm : Try.prog.follows .mixedOrders = true := by kernel_rfl
  replace hn : Γ.n = 15 := hn
  refine sO hP hn hm [] [] [0] [] [] ?_
  refine sR hP hn hm [(9, .callz [] [] [] [] 0 (bV false) [])] [(2, bV true)] [2] [] [] [_, _] ⟨Try.call37, contains_ok (⟨#[102]⟩ : ByteArray) (⟨#[47, 0]⟩ : ByteArray) false (by decide) (by decide) (by decide) (by decide) (by kernel_rfl), trivial⟩ ?_
  refine AWp.ret ?_
  exact rl (.inl rfl) rfl (by kernel_rfl) (by kernel_rfl)
theorem cx6_Used : Pv.Fn Try.prog 22 [.ptr 0 0 0] [(0, some (.box 56 [iV .i64 9, .mown 1, .mown 2, iV .i64 (-1), iV .i64 1, bV false])), (1, some (.amap [] [])), (2, some (.amap [] []))] 3 (fun x o => x = iV .i64 0 ∧ o = [(0, some (.box 56 [iV .i64 9, .mown 1, .mown 2, iV .i64 (-1), iV .i64 1, bV false])), (1, some (.amap [] [])), (2, some (.amap [] []))]) := by
  refine Fn.bodyK [0, 1, 2] Try.func22 rfl rfl (fun Γ hP hn => ?_)
  have hm : Try.prog.follows .mixedOrders = true := by kernel_rfl
  replace hn : Γ.n = 25 := hn
  refine sO hP hn hm [] [] [0] [] [0, 1, 2] ?_
  refine AWp.seq ?_
  refine sR hP hn hm [(1, .more (xPtrNil false))] [(7, bV false)] [0, 7] [] [0, 1, 2] [false = false] ⟨rfl, trivial⟩ ?_
  refine AWp.cond false (by kernel_rfl) (fun h => nomatch h) (fun _ => ?_)
  refine AWp.skip ?_
  show AWp Γ _ _ _
  refine sO hP hn hm [] [(3, iV .i64 0)] [0, 3] [] [0, 1, 2] ?_
  refine AWp.seq ?_
  refine sR hP hn hm [(4, .more (xRngA 3 0))] [(12, .ptr 3 0 0)] [3, 12] [(3, some (.iter (some 1) 0 []))] [0, 1, 2, 3] [0 = ([] : List Value).length] ⟨rfl, trivial⟩ ?_
  refine AWp.block ?_
  refine AWp.loop ?_
  refine LWp.round ?_
  refine AWp.seq ?_
  refine AWp.nextA0 13 14 3 1 (n := 0) (sn := []) (ks := []) (xs := []) hP rfl rfl rfl rfl rfl rfl (by rw [hn]; decide) (by rw [hn]; decide) (by kernel_rfl) (by kernel_rfl) (by kernel_rfl) rfl (by decide) ?_
  show AWp Γ _ _ _
  refine AWp.seq ?_
  refine AWp.cond false (by kernel_rfl) (fun h => nomatch h) (fun _ => ?_)
  refine AWp.exit ?_
  show AWp Γ _ _ _
  refine sO hP hn hm [] [(2, iV .i64 0)] [2] [] [0, 1, 2] ?_
  refine AWp.ret ?_
  exact rl (.inl rfl) rfl (by kernel_rfl) (by kernel_rfl)
theorem cx7_Append : Pv.Fn Try.prog 8 [.ptr 0 0 0, sV (⟨#[102]⟩ : ByteArray), .im (.row [[iI .u8 97], [iI .u8 98]])] [(0, some (.box 56 [iV .i64 9, .mown 1, .mown 2, iV .i64 (-1), iV .i64 0, bV false])), (1, some (.amap [] [])), (2, some (.amap [] []))] 3 (fun x o => x = iV .i64 0 ∧ o = [(0, some (.box 56 [iV .i64 9, .mown 1, .mown 2, iV .i64 (-1), iV .i64 1, bV false])), (1, some (.amap [Value.string ⟨#[102]⟩] [.ptr 3 0 0])), (2, some (.amap [] [])), (3, some (.box 60 [.im (.row [[iI .u8 97], [iI .u8 98]]), iV .i64 0]))]) := by
  refine Fn.bodyK [0, 1, 2, 3] Try.func8 rfl rfl (fun Γ hP hn => ?_)
  have hm : Try.prog.follows .mixedOrders = true := by kernel_rfl
  replace hn : Γ.n = 68 := hn
  refine sO hP hn hm [] [] [0, 1, 2] [] [0, 1, 2] ?_
  refine AWp.seq ?_
  refine sR hP hn hm [(1, .callz [(0, 0), (1, 1), (2, 2)] [(0, 0), (1, 1), (2, 2)] [] [] 3 (iV .i64 0) [(0, some (.box 56 [iV .i64 9, .mown 1, .mown 2, iV .i64 (-1), iV .i64 1, bV false])), (1, some (.amap [] [])), (2, some (.amap [] []))])] [(7, iV .i64 0)] [0, 1, 2, 7] [(0, some (.box 56 [iV .i64 9, .mown 1, .mown 2, iV .i64 (-1), iV .i64 1, bV false]))] [0, 1, 2] [_, _] ⟨Try.call24, cx4_step, trivial⟩ ?_
  refine sO hP hn hm [] [(12, bV false)] [0, 1, 2, 7, 12] [] [0, 1, 2] ?_
  refine AWp.cond false (by kernel_rfl) (fun h => nomatch h) (fun _ => ?_)
  refine AWp.skip ?_
  show AWp Γ _ _ _
  refine sR hP hn hm [(5, .more (xLookA vkS ([] : List (ByteArray × AVal)) (⟨#[102]⟩ : ByteArray) (.im (.sc (.pointer none)))))] [(8, .im (.sc (.pointer none)))] [0, 1, 2, 8] [] [0, 1, 2] [KeyOK Try.prog 9 vkS, ([] : List Value) = (([] : List (ByteArray × AVal))).map (fun p => vkS p.1), ([] : List AVal) = (([] : List (ByteArray × AVal))).map (·.2), valA (sV (⟨#[102]⟩ : ByteArray)) = some (vkS (⟨#[102]⟩ : ByteArray)), (mget ([] : List (ByteArray × AVal)) (⟨#[102]⟩ : ByteArray)).getD (.im (.sc (.pointer none))) = .im (.sc (.pointer none))] ⟨key_str (by kernel_rfl), rfl, rfl, rfl, by kernel_rfl, trivial⟩ ?_
  refine AWp.seq ?_
  refine AWp.block ?_
  refine sR hP hn hm [(1, .callz [] [] [] [] 0 (bV true) [])] [(20, bV false)] [0, 1, 2, 8, 20] [] [0, 1, 2] [_, _] ⟨Try.call25, cx5_Name, trivial⟩ ?_
  refine AWp.cond false (by kernel_rfl) (fun h => nomatch h) (fun _ => ?_)
  refine sR hP hn hm [(1, .more (xCallQ [(0, 0), (1, 1), (2, 2)] 3 (iV .i64 0) [(0, some (.box 56 [iV .i64 9, .mown 1, .mown 2, iV .i64 (-1), iV .i64 1, bV false])), (1, some (.amap [] [])), (2, some (.amap [] []))])), (12, .more (xPtrNil true)), (18, .more (xLenA 0))] [(24, bV false)] [0, 1, 2, 8, 24] [] [0, 1, 2] [([(0, some (.box 56 [iV .i64 9, .mown 1, .mown 2, iV .i64 (-1), iV .i64 1, bV false])), (1, some (.amap [] [])), (2, some (.amap [] [])), (0, none), (1, none), (2, none)] : List (Nat × Option MObj)) = [(0, some (.box 56 [iV .i64 9, .mown 1, .mown 2, iV .i64 (-1), iV .i64 1, bV false])), (1, some (.amap [] [])), (2, some (.amap [] [])), (0, none), (1, none), (2, none)], _, _, true = true, (0 : Int) = (([] : List Value).length : Int)] ⟨rfl, Try.call22, cx6_Used, rfl, rfl, trivial⟩ ?_
  refine AWp.cond false (by kernel_rfl) (fun h => nomatch h) (fun _ => ?_)
  refine sR hP hn hm [(1, .more (xPtrNil true))] [(47, bV true)] [0, 1, 2, 8, 47] [] [0, 1, 2] [true = true] ⟨rfl, trivial⟩ ?_
  refine AWp.cond true (by kernel_rfl) (fun _ => ?_) (fun h => nomatch h)
  refine sO hP hn hm [(1, .k 3)] [(8, .ptr 3 0 0)] [0, 1, 2, 8] [(3, some (.box 60 [.none0, iV .i64 0]))] [0, 1, 2, 3] ?_
  refine rG hP hn hm [(6, .more (xPutA vkS ([] : List (ByteArray × AVal)) (⟨#[102]⟩ : ByteArray) (.ptr 3 0 0)))] [] [2, 8] [(1, some (.amap [Value.string ⟨#[102]⟩] [.ptr 3 0 0]))] [0, 1, 2, 3] [KeyOK Try.prog 9 vkS, ([] : List Value) = (([] : List (ByteArray × AVal))).map (fun p => vkS p.1), ([] : List AVal) = (([] : List (ByteArray × AVal))).map (·.2), valA (sV (⟨#[102]⟩ : ByteArray)) = some (vkS (⟨#[102]⟩ : ByteArray)), (.ptr 3 0 0 : AVal) = .ptr 3 0 0] ⟨key_str (by kernel_rfl), rfl, rfl, rfl, rfl, trivial⟩ ?_
  show AWp Γ _ _ _
  refine sR hP hn hm [(5, .call [] [(0, 4)] [] [4] 0 (.own 0) [(0, some (.row 1 5 (([] : List Int).map (encInt .u8))))]), (7, .app 5 [[iI .u8 97], [iI .u8 98]])] [] [] [(3, some (.box 60 [.own 5, iV .i64 0])), (5, some (.row 1 5 [[iI .u8 97], [iI .u8 98]]))] [0, 1, 2, 3, 5] [_, _, [[iI .u8 97], [iI .u8 98]] = ([] : List (List Im)) ++ ([[iI .u8 97], [iI .u8 98]] : List (List Im)), ∀ c ∈ ([[iI .u8 97], [iI .u8 98]] : List (List Im)), c.length = 1, ∀ c ∈ ([[iI .u8 97], [iI .u8 98]] : List (List Im)), leaves (c.map .im) = true, (([] : List (List Im)).length + ([[iI .u8 97], [iI .u8 98]] : List (List Im)).length) * 1 ≤ 140737488355328] ⟨Try.call26, f_slices_Clone_byte.ok ([] : List Int) ([] : List Int) (by kernel_rfl), rfl, by simp, by decide, by decide, trivial⟩ ?_
  refine AWp.conv (inv := [(0, 0), (1, 1), (2, 2), (3, 3)]) (vk := [5]) (e0 := []) (t := ⟨[], [(0, some (.box 56 [iV .i64 9, .mown 1, .mown 2, iV .i64 (-1), iV .i64 1, bV false])), (1, some (.amap [Value.string ⟨#[102]⟩] [.ptr 3 0 0])), (2, some (.amap [] [])), (3, some (.box 60 [.im (.row [[iI .u8 97], [iI .u8 98]]), iV .i64 0]))], 3⟩) (by kernel_rfl) ?_
  refine sO hP hn hm [] [(6, iV .i64 0)] [6] [] [0, 1, 2, 3] ?_
  refine AWp.ret ?_
  exact rl (.inl rfl) rfl (by kernel_rfl) (by kernel_rfl)
theorem cx8_step : Pv.Fn Try.prog 24 [.ptr 0 0 0] [(0, some (.box 56 [iV .i64 9, .mown 1, .mown 3, iV .i64 (-1), iV .i64 1, bV false])), (1, some (.amap [Value.string ⟨#[102]⟩] [.ptr 2 0 0])), (2, some (.box 60 [.im (.row [[iI .u8 97], [iI .u8 98]]), iV .i64 0])), (3, some (.amap [] []))] 4 (fun x o => x = iV .i64 0 ∧ o = [(0, some (.box 56 [iV .i64 9, .mown 1, .mown 3, iV .i64 (-1), iV .i64 2, bV false])), (1, some (.amap [Value.string ⟨#[102]⟩] [.ptr 2 0 0])), (2, some (.box 60 [.im (.row [[iI .u8 97], [iI .u8 98]]), iV .i64 0])), (3, some (.amap [] []))]) := by
  refine Fn.bodyK [0, 1, 2, 3] Try.func24 rfl rfl (fun Γ hP hn => ?_)
  have hm : Try.prog.follows .mixedOrders = true := by kernel_rfl
  replace hn : Γ.n = 39 := hn
  refine sO hP hn hm [] [] [0] [] [0, 1, 2, 3] ?_
  refine AWp.seq ?_
  refine AWp.block ?_
  refine sR hP hn hm [(1, .more (xPtrNil false))] [(3, bV false)] [0, 3] [] [0, 1, 2, 3] [false = false] ⟨rfl, trivial⟩ ?_
  refine AWp.cond false (by kernel_rfl) (fun h => nomatch h) (fun _ => ?_)
  refine sO hP hn hm [] [(6, bV false)] [0, 6] [] [0, 1, 2, 3] ?_
  refine AWp.cond false (by kernel_rfl) (fun h => nomatch h) (fun _ => ?_)
  refine sO hP hn hm [] [(11, bV false)] [0, 11] [] [0, 1, 2, 3] ?_
  refine AWp.cond false (by kernel_rfl) (fun h => nomatch h) (fun _ => ?_)
  refine AWp.skip ?_
  show AWp Γ _ _ _
  refine AWp.seq ?_
  refine sO hP hn hm [] [(24, bV false)] [0, 24] [] [0, 1, 2, 3] ?_
  refine AWp.cond false (by kernel_rfl) (fun h => nomatch h) (fun _ => ?_)
  refine AWp.skip ?_
  show AWp Γ _ _ _
  refine sO hP hn hm [] [] [] [(0, some (.box 56 [iV .i64 9, .mown 1, .mown 3, iV .i64 (-1), iV .i64 2, bV false]))] [0, 1, 2, 3] ?_
  refine sO hP hn hm [] [(2, iV .i64 0)] [2] [] [0, 1, 2, 3] ?_
  refine AWp.ret ?_
  exact rl (.inl rfl) rfl (by kernel_rfl) (by kernel_rfl)
theorem cx9_Sync : Pv.Fn Try.prog 9 [.ptr 0 0 0, sV (⟨#[102]⟩ : ByteArray)] [(0, some (.box 56 [iV .i64 9, .mown 1, .mown 3, iV .i64 (-1), iV .i64 1, bV false])), (1, some (.amap [Value.string ⟨#[102]⟩] [.ptr 2 0 0])), (2, some (.box 60 [.im (.row [[iI .u8 97], [iI .u8 98]]), iV .i64 0])), (3, some (.amap [] []))] 4 (fun x o => x = iV .i64 0 ∧ o = [(0, some (.box 56 [iV .i64 9, .mown 1, .mown 3, iV .i64 (-1), iV .i64 2, bV false])), (1, some (.amap [Value.string ⟨#[102]⟩] [.ptr 2 0 0])), (2, some (.box 60 [.im (.row [[iI .u8 97], [iI .u8 98]]), iV .i64 2])), (3, some (.amap [] []))]) := by
  refine Fn.bodyK [0, 1, 2, 3] Try.func9 rfl rfl (fun Γ hP hn => ?_)
  have hm : Try.prog.follows .mixedOrders = true := by kernel_rfl
  replace hn : Γ.n = 28 := hn
  refine sO hP hn hm [] [] [0, 1] [] [0, 1, 2, 3] ?_
  refine AWp.seq ?_
  refine sR hP hn hm [(1, .callz [(0, 0), (1, 1), (2, 2), (3, 3)] [(0, 0), (1, 1), (2, 2), (3, 3)] [] [] 4 (iV .i64 0) [(0, some (.box 56 [iV .i64 9, .mown 1, .mown 3, iV .i64 (-1), iV .i64 2, bV false])), (1, some (.amap [Value.string ⟨#[102]⟩] [.ptr 2 0 0])), (2, some (.box 60 [.im (.row [[iI .u8 97], [iI .u8 98]]), iV .i64 0])), (3, some (.amap [] []))])] [(5, iV .i64 0)] [0, 1, 5] [(0, some (.box 56 [iV .i64 9, .mown 1, .mown 3, iV .i64 (-1), iV .i64 2, bV false]))] [0, 1, 2, 3] [_, _] ⟨Try.call24, cx8_step, trivial⟩ ?_
  refine sO hP hn hm [] [(10, bV false)] [0, 1, 5, 10] [] [0, 1, 2, 3] ?_
  refine AWp.cond false (by kernel_rfl) (fun h => nomatch h) (fun _ => ?_)
  refine AWp.skip ?_
  show AWp Γ _ _ _
  refine sR hP hn hm [(5, .more (xLookA vkS ([((⟨#[102]⟩ : ByteArray), .ptr 2 0 0)] : List (ByteArray × AVal)) (⟨#[102]⟩ : ByteArray) (.ptr 2 0 0)))] [(6, .ptr 2 0 0)] [6] [] [0, 1, 2, 3] [KeyOK Try.prog 9 vkS, ([Value.string ⟨#[102]⟩] : List Value) = (([((⟨#[102]⟩ : ByteArray), .ptr 2 0 0)] : List (ByteArray × AVal))).map (fun p => vkS p.1), ([.ptr 2 0 0] : List AVal) = (([((⟨#[102]⟩ : ByteArray), .ptr 2 0 0)] : List (ByteArray × AVal))).map (·.2), valA (sV (⟨#[102]⟩ : ByteArray)) = some (vkS (⟨#[102]⟩ : ByteArray)), (mget ([((⟨#[102]⟩ : ByteArray), .ptr 2 0 0)] : List (ByteArray × AVal)) (⟨#[102]⟩ : ByteArray)).getD (.im (.sc (.pointer none))) = .ptr 2 0 0] ⟨key_str (by kernel_rfl), rfl, rfl, rfl, by kernel_rfl, trivial⟩ ?_
  refine AWp.seq ?_
  refine sR hP hn hm [(1, .more (xPtrNil false))] [(19, bV false)] [6, 19] [] [0, 1, 2, 3] [false = false] ⟨rfl, trivial⟩ ?_
  refine AWp.cond false (by kernel_rfl) (fun h => nomatch h) (fun _ => ?_)
  refine AWp.skip ?_
  show AWp Γ _ _ _
  refine sO hP hn hm [] [] [] [(2, some (.box 60 [.im (.row [[iI .u8 97], [iI .u8 98]]), iV .i64 2]))] [0, 1, 2, 3] ?_
  refine sO hP hn hm [] [(4, iV .i64 0)] [4] [] [0, 1, 2, 3] ?_
  refine AWp.ret ?_
  exact rl (.inl rfl) rfl (by kernel_rfl) (by kernel_rfl)
theorem cx10_step : Pv.Fn Try.prog 24 [.ptr 0 0 0] [(0, some (.box 56 [iV .i64 9, .mown 1, .mown 3, iV .i64 (-1), iV .i64 2, bV false])), (1, some (.amap [Value.string ⟨#[102]⟩] [.ptr 2 0 0])), (2, some (.box 60 [.im (.row [[iI .u8 97], [iI .u8 98]]), iV .i64 2])), (3, some (.amap [] []))] 4 (fun x o => x = iV .i64 0 ∧ o = [(0, some (.box 56 [iV .i64 9, .mown 1, .mown 3, iV .i64 (-1), iV .i64 3, bV false])), (1, some (.amap [Value.string ⟨#[102]⟩] [.ptr 2 0 0])), (2, some (.box 60 [.im (.row [[iI .u8 97], [iI .u8 98]]), iV .i64 2])), (3, some (.amap [] []))]) := by
  refine Fn.bodyK [0, 1, 2, 3] Try.func24 rfl rfl (fun Γ hP hn => ?_)
  have hm : Try.prog.follows .mixedOrders = true := by kernel_rfl
  replace hn : Γ.n = 39 := hn
  refine sO hP hn hm [] [] [0] [] [0, 1, 2, 3] ?_
  refine AWp.seq ?_
  refine AWp.block ?_
  refine sR hP hn hm [(1, .more (xPtrNil false))] [(3, bV false)] [0, 3] [] [0, 1, 2, 3] [false = false] ⟨rfl, trivial⟩ ?_
  refine AWp.cond false (by kernel_rfl) (fun h => nomatch h) (fun _ => ?_)
  refine sO hP hn hm [] [(6, bV false)] [0, 6] [] [0, 1, 2, 3] ?_
  refine AWp.cond false (by kernel_rfl) (fun h => nomatch h) (fun _ => ?_)
  refine sO hP hn hm [] [(11, bV false)] [0, 11] [] [0, 1, 2, 3] ?_
  refine AWp.cond false (by kernel_rfl) (fun h => nomatch h) (fun _ => ?_)
  refine AWp.skip ?_
  show AWp Γ _ _ _
  refine AWp.seq ?_
  refine sO hP hn hm [] [(24, bV false)] [0, 24] [] [0, 1, 2, 3] ?_
  refine AWp.cond false (by kernel_rfl) (fun h => nomatch h) (fun _ => ?_)
  refine AWp.skip ?_
  show AWp Γ _ _ _
  refine sO hP hn hm [] [] [] [(0, some (.box 56 [iV .i64 9, .mown 1, .mown 3, iV .i64 (-1), iV .i64 3, bV false]))] [0, 1, 2, 3] ?_
  refine sO hP hn hm [] [(2, iV .i64 0)] [2] [] [0, 1, 2, 3] ?_
  refine AWp.ret ?_
  exact rl (.inl rfl) rfl (by kernel_rfl) (by kernel_rfl)
theorem cx11_SyncNames : Pv.Fn Try.prog 10 [.ptr 0 0 0] [(0, some (.box 56 [iV .i64 9, .mown 1, .mown 3, iV .i64 (-1), iV .i64 2, bV false])), (1, some (.amap [Value.string ⟨#[102]⟩] [.ptr 2 0 0])), (2, some (.box 60 [.im (.row [[iI .u8 97], [iI .u8 98]]), iV .i64 2])), (3, some (.amap [] []))] 4 (fun x o => x = iV .i64 0 ∧ o = [(0, some (.box 56 [iV .i64 9, .mown 1, .mown 4, iV .i64 (-1), iV .i64 3, bV false])), (1, some (.amap [Value.string ⟨#[102]⟩] [.ptr 2 0 0])), (2, some (.box 60 [.im (.row [[iI .u8 97], [iI .u8 98]]), iV .i64 2])), (3, some (.amap [] [])), (4, some (.amap [Value.string ⟨#[102]⟩] [.ptr 2 0 0]))]) := by
  refine Fn.bodyK [0, 1, 2, 3, 4] Try.func10 rfl rfl (fun Γ hP hn => ?_)
  have hm : Try.prog.follows .mixedOrders = true := by kernel_rfl
  replace hn : Γ.n = 17 := hn
  refine sO hP hn hm [] [] [0] [] [0, 1, 2, 3] ?_
  refine AWp.seq ?_
  refine sR hP hn hm [(1, .callz [(0, 0), (1, 1), (2, 2), (3, 3)] [(0, 0), (1, 1), (2, 2), (3, 3)] [] [] 4 (iV .i64 0) [(0, some (.box 56 [iV .i64 9, .mown 1, .mown 3, iV .i64 (-1), iV .i64 3, bV false])), (1, some (.amap [Value.string ⟨#[102]⟩] [.ptr 2 0 0])), (2, some (.box 60 [.im (.row [[iI .u8 97], [iI .u8 98]]), iV .i64 2])), (3, some (.amap [] []))])] [(3, iV .i64 0)] [0, 3] [(0, some (.box 56 [iV .i64 9, .mown 1, .mown 3, iV .i64 (-1), iV .i64 3, bV false]))] [0, 1, 2, 3] [_, _] ⟨Try.call24, cx10_step, trivial⟩ ?_
  refine sO hP hn hm [] [(7, bV false)] [0, 3, 7] [] [0, 1, 2, 3] ?_
  refine AWp.cond false (by kernel_rfl) (fun h => nomatch h) (fun _ => ?_)
  refine AWp.skip ?_
  show AWp Γ _ _ _
  refine sR hP hn hm [(5, .callz [(1, 0), (2, 1)] [(0, 1), (1, 2), (2, 4)] [] [4] 2 (.mown 2) [(0, some (.amap [Value.string ⟨#[102]⟩] [.ptr 1 0 0])), (1, some (.box 60 [.im (.row [[iI .u8 97], [iI .u8 98]]), iV .i64 2])), (2, some (.amap [Value.string ⟨#[102]⟩] [.ptr 1 0 0]))])] [] [] [(0, some (.box 56 [iV .i64 9, .mown 1, .mown 4, iV .i64 (-1), iV .i64 3, bV false])), (4, some (.amap [Value.string ⟨#[102]⟩] [.ptr 2 0 0]))] [0, 1, 2, 3, 4] [_, _] ⟨Try.call27, Fn.mclone (fun b es clock w h => mclone_ok b es clock w h) [Value.string ⟨#[102]⟩] [.ptr 1 0 0] [(1, some (.box 60 [.im (.row [[iI .u8 97], [iI .u8 98]]), iV .i64 2]))] 2 (by decide) (by kernel_rfl) (by kernel_rfl) (fun q o h => by have h2 := look_mem h; simp only [List.mem_cons, List.not_mem_nil, or_false, Prod.mk.injEq, Option.some.injEq] at h2; rcases h2 with ⟨_, rfl⟩ <;> rfl) (by kernel_rfl), trivial⟩ ?_
  refine sO hP hn hm [] [(2, iV .i64 0)] [2] [] [0, 1, 2, 3, 4] ?_
  refine AWp.ret ?_
  exact rl (.inl rfl) rfl (by kernel_rfl) (by kernel_rfl)
theorem cx12_step : Pv.Fn Try.prog 24 [.ptr 0 0 0] [(0, some (.box 56 [iV .i64 9, .mown 1, .mown 3, iV .i64 (-1), iV .i64 3, bV false])), (1, some (.amap [Value.string ⟨#[102]⟩] [.ptr 2 0 0])), (2, some (.box 60 [.im (.row [[iI .u8 97], [iI .u8 98]]), iV .i64 2])), (3, some (.amap [Value.string ⟨#[102]⟩] [.ptr 2 0 0]))] 4 (fun x o => x = iV .i64 0 ∧ o = [(0, some (.box 56 [iV .i64 9, .mown 1, .mown 3, iV .i64 (-1), iV .i64 4, bV false])), (1, some (.amap [Value.string ⟨#[102]⟩] [.ptr 2 0 0])), (2, some (.box 60 [.im (.row [[iI .u8 97], [iI .u8 98]]), iV .i64 2])), (3, some (.amap [Value.string ⟨#[102]⟩] [.ptr 2 0 0]))]) := by
  refine Fn.bodyK [0, 1, 2, 3] Try.func24 rfl rfl (fun Γ hP hn => ?_)
  have hm : Try.prog.follows .mixedOrders = true := by kernel_rfl
  replace hn : Γ.n = 39 := hn
  refine sO hP hn hm [] [] [0] [] [0, 1, 2, 3] ?_
  refine AWp.seq ?_
  refine AWp.block ?_
  refine sR hP hn hm [(1, .more (xPtrNil false))] [(3, bV false)] [0, 3] [] [0, 1, 2, 3] [false = false] ⟨rfl, trivial⟩ ?_
  refine AWp.cond false (by kernel_rfl) (fun h => nomatch h) (fun _ => ?_)
  refine sO hP hn hm [] [(6, bV false)] [0, 6] [] [0, 1, 2, 3] ?_
  refine AWp.cond false (by kernel_rfl) (fun h => nomatch h) (fun _ => ?_)
  refine sO hP hn hm [] [(11, bV false)] [0, 11] [] [0, 1, 2, 3] ?_
  refine AWp.cond false (by kernel_rfl) (fun h => nomatch h) (fun _ => ?_)
  refine AWp.skip ?_
  show AWp Γ _ _ _
  refine AWp.seq ?_
  refine sO hP hn hm [] [(24, bV false)] [0, 24] [] [0, 1, 2, 3] ?_
  refine AWp.cond false (by kernel_rfl) (fun h => nomatch h) (fun _ => ?_)
  refine AWp.skip ?_
  show AWp Γ _ _ _
  refine sO hP hn hm [] [] [] [(0, some (.box 56 [iV .i64 9, .mown 1, .mown 3, iV .i64 (-1), iV .i64 4, bV false]))] [0, 1, 2, 3] ?_
  refine sO hP hn hm [] [(2, iV .i64 0)] [2] [] [0, 1, 2, 3] ?_
  refine AWp.ret ?_
  exact rl (.inl rfl) rfl (by kernel_rfl) (by kernel_rfl)
theorem cx13_Used : Pv.Fn Try.prog 22 [.ptr 0 0 0] [(0, some (.box 56 [iV .i64 9, .mown 1, .mown 3, iV .i64 (-1), iV .i64 4, bV false])), (1, some (.amap [Value.string ⟨#[102]⟩] [.ptr 2 0 0])), (2, some (.box 60 [.im (.row [[iI .u8 97], [iI .u8 98]]), iV .i64 2])), (3, some (.amap [Value.string ⟨#[102]⟩] [.ptr 2 0 0]))] 4 (fun x o => x = iV .i64 2 ∧ o = [(0, some (.box 56 [iV .i64 9, .mown 1, .mown 3, iV .i64 (-1), iV .i64 4, bV false])), (1, some (.amap [Value.string ⟨#[102]⟩] [.ptr 2 0 0])), (2, some (.box 60 [.im (.row [[iI .u8 97], [iI .u8 98]]), iV .i64 2])), (3, some (.amap [Value.string ⟨#[102]⟩] [.ptr 2 0 0]))]) := by
  refine Fn.bodyK [0, 1, 2, 3] Try.func22 rfl rfl (fun Γ hP hn => ?_)
  have hm : Try.prog.follows .mixedOrders = true := by kernel_rfl
  replace hn : Γ.n = 25 := hn
  refine sO hP hn hm [] [] [0] [] [0, 1, 2, 3] ?_
  refine AWp.seq ?_
  refine sR hP hn hm [(1, .more (xPtrNil false))] [(7, bV false)] [0, 7] [] [0, 1, 2, 3] [false = false] ⟨rfl, trivial⟩ ?_
  refine AWp.cond false (by kernel_rfl) (fun h => nomatch h) (fun _ => ?_)
  refine AWp.skip ?_
  show AWp Γ _ _ _
  refine sO hP hn hm [] [(3, iV .i64 0)] [0, 3] [] [0, 1, 2, 3] ?_
  refine AWp.seq ?_
  refine sR hP hn hm [(4, .more (xRngA 4 1))] [(12, .ptr 4 0 0)] [3, 12] [(4, some (.iter (some 1) 1 []))] [0, 1, 2, 3, 4] [1 = ([Value.string ⟨#[102]⟩] : List Value).length] ⟨rfl, trivial⟩ ?_
  refine AWp.block ?_
  refine AWp.loop ?_
  refine LWp.round ?_
  refine AWp.seq ?_
  refine AWp.nextA1 0 13 14 4 1 (n := 1) (sn := []) (ks := [Value.string ⟨#[102]⟩]) (xs := [.ptr 2 0 0]) hP rfl rfl rfl rfl rfl rfl (by rw [hn]; decide) (by rw [hn]; decide) (by kernel_rfl) (by kernel_rfl) (by kernel_rfl) rfl (by decide) ?_
  show AWp Γ _ _ _
  refine AWp.seq ?_
  refine AWp.cond true (by kernel_rfl) (fun _ => ?_) (fun h => nomatch h)
  refine AWp.skip ?_
  show AWp Γ _ _ _
  refine AWp.block ?_
  refine sR hP hn hm [(0, .more (xEntA vkS ([((⟨#[102]⟩ : ByteArray), .ptr 2 0 0)] : List (ByteArray × AVal)) 0 ((⟨#[102]⟩ : ByteArray), .ptr 2 0 0) (sV (⟨#[102]⟩ : ByteArray))))] [(5, .ptr 2 0 0)] [3, 5, 12] [] [0, 1, 2, 3, 4] [1 = ([Value.string ⟨#[102]⟩] : List Value).length, ([0] : List Nat).getLast? = some 0, ([Value.string ⟨#[102]⟩] : List Value) = (([((⟨#[102]⟩ : ByteArray), .ptr 2 0 0)] : List (ByteArray × AVal))).map (fun p => vkS p.1), ([.ptr 2 0 0] : List AVal) = (([((⟨#[102]⟩ : ByteArray), .ptr 2 0 0)] : List (ByteArray × AVal))).map (·.2), (([((⟨#[102]⟩ : ByteArray), .ptr 2 0 0)] : List (ByteArray × AVal)))[0]? = some ((⟨#[102]⟩ : ByteArray), .ptr 2 0 0), valA (sV (⟨#[102]⟩ : ByteArray)) = some (vkS (⟨#[102]⟩ : ByteArray))] ⟨rfl, rfl, rfl, rfl, rfl, rfl, trivial⟩ ?_
  refine rO hP hn hm [] [(3, iV .i64 2)] [3, 12] [] [0, 1, 2, 3, 4] ?_
  show LWp Γ _ _ _
  refine LWp.round ?_
  refine AWp.seq ?_
  refine AWp.nextA0 13 14 4 1 (n := 1) (sn := [0]) (ks := [Value.string ⟨#[102]⟩]) (xs := [.ptr 2 0 0]) hP rfl rfl rfl rfl rfl rfl (by rw [hn]; decide) (by rw [hn]; decide) (by kernel_rfl) (by kernel_rfl) (by kernel_rfl) rfl (by decide) ?_
  show AWp Γ _ _ _
  refine AWp.seq ?_
  refine AWp.cond false (by kernel_rfl) (fun h => nomatch h) (fun _ => ?_)
  refine AWp.exit ?_
  show AWp Γ _ _ _
  refine sO hP hn hm [] [(2, iV .i64 2)] [2] [] [0, 1, 2, 3] ?_
  refine AWp.ret ?_
  exact rl (.inl rfl) rfl (by kernel_rfl) (by kernel_rfl)
theorem cx14_Append : Pv.Fn Try.prog 8 [.ptr 0 0 0, sV (⟨#[102]⟩ : ByteArray), .im (.row [[iI .u8 99]])] [(0, some (.box 56 [iV .i64 9, .mown 1, .mown 3, iV .i64 (-1), iV .i64 3, bV false])), (1, some (.amap [Value.string ⟨#[102]⟩] [.ptr 2 0 0])), (2, some (.box 60 [.im (.row [[iI .u8 97], [iI .u8 98]]), iV .i64 2])), (3, some (.amap [Value.string ⟨#[102]⟩] [.ptr 2 0 0]))] 4 (fun x o => x = iV .i64 0 ∧ o = [(0, some (.box 56 [iV .i64 9, .mown 1, .mown 3, iV .i64 (-1), iV .i64 4, bV false])), (1, some (.amap [Value.string ⟨#[102]⟩] [.ptr 2 0 0])), (2, some (.box 60 [.im (.row [[iI .u8 97], [iI .u8 98], [iI .u8 99]]), iV .i64 2])), (3, some (.amap [Value.string ⟨#[102]⟩] [.ptr 2 0 0]))]) := by
  refine Fn.bodyK [0, 1, 2, 3] Try.func8 rfl rfl (fun Γ hP hn => ?_)
  have hm : Try.prog.follows .mixedOrders = true := by kernel_rfl
  replace hn : Γ.n = 68 := hn
  refine sO hP hn hm [] [] [0, 1, 2] [] [0, 1, 2, 3] ?_
  refine AWp.seq ?_
  refine sR hP hn hm [(1, .callz [(0, 0), (1, 1), (2, 2), (3, 3)] [(0, 0), (1, 1), (2, 2), (3, 3)] [] [] 4 (iV .i64 0) [(0, some (.box 56 [iV .i64 9, .mown 1, .mown 3, iV .i64 (-1), iV .i64 4, bV false])), (1, some (.amap [Value.string ⟨#[102]⟩] [.ptr 2 0 0])), (2, some (.box 60 [.im (.row [[iI .u8 97], [iI .u8 98]]), iV .i64 2])), (3, some (.amap [Value.string ⟨#[102]⟩] [.ptr 2 0 0]))])] [(7, iV .i64 0)] [0, 1, 2, 7] [(0, some (.box 56 [iV .i64 9, .mown 1, .mown 3, iV .i64 (-1), iV .i64 4, bV false]))] [0, 1, 2, 3] [_, _] ⟨Try.call24, cx12_step, trivial⟩ ?_
  refine sO hP hn hm [] [(12, bV false)] [0, 1, 2, 7, 12] [] [0, 1, 2, 3] ?_
  refine AWp.cond false (by kernel_rfl) (fun h => nomatch h) (fun _ => ?_)
  refine AWp.skip ?_
  show AWp Γ _ _ _
  refine sR hP hn hm [(5, .more (xLookA vkS ([((⟨#[102]⟩ : ByteArray), .ptr 2 0 0)] : List (ByteArray × AVal)) (⟨#[102]⟩ : ByteArray) (.ptr 2 0 0)))] [(8, .ptr 2 0 0)] [0, 1, 2, 8] [] [0, 1, 2, 3] [KeyOK Try.prog 9 vkS, ([Value.string ⟨#[102]⟩] : List Value) = (([((⟨#[102]⟩ : ByteArray), .ptr 2 0 0)] : List (ByteArray × AVal))).map (fun p => vkS p.1), ([.ptr 2 0 0] : List AVal) = (([((⟨#[102]⟩ : ByteArray), .ptr 2 0 0)] : List (ByteArray × AVal))).map (·.2), valA (sV (⟨#[102]⟩ : ByteArray)) = some (vkS (⟨#[102]⟩ : ByteArray)), (mget ([((⟨#[102]⟩ : ByteArray), .ptr 2 0 0)] : List (ByteArray × AVal)) (⟨#[102]⟩ : ByteArray)).getD (.im (.sc (.pointer none))) = .ptr 2 0 0] ⟨key_str (by kernel_rfl), rfl, rfl, rfl, by kernel_rfl, trivial⟩ ?_
  refine AWp.seq ?_
  refine AWp.block ?_
  refine sR hP hn hm [(1, .callz [] [] [] [] 0 (bV true) [])] [(20, bV false)] [0, 1, 2, 8, 20] [] [0, 1, 2, 3] [_, _] ⟨Try.call25, cx5_Name, trivial⟩ ?_
  refine AWp.cond false (by kernel_rfl) (fun h => nomatch h) (fun _ => ?_)
  refine sR hP hn hm [(1, .more (xCallQ [(0, 0), (1, 1), (2, 2), (3, 3)] 4 (iV .i64 2) [(0, some (.box 56 [iV .i64 9, .mown 1, .mown 3, iV .i64 (-1), iV .i64 4, bV false])), (1, some (.amap [Value.string ⟨#[102]⟩] [.ptr 2 0 0])), (2, some (.box 60 [.im (.row [[iI .u8 97], [iI .u8 98]]), iV .i64 2])), (3, some (.amap [Value.string ⟨#[102]⟩] [.ptr 2 0 0]))])), (12, .more (xPtrNil false))] [(24, bV false)] [0, 1, 2, 8, 24] [] [0, 1, 2, 3] [([(0, some (.box 56 [iV .i64 9, .mown 1, .mown 3, iV .i64 (-1), iV .i64 4, bV false])), (1, some (.amap [Value.string ⟨#[102]⟩] [.ptr 2 0 0])), (2, some (.box 60 [.im (.row [[iI .u8 97], [iI .u8 98]]), iV .i64 2])), (3, some (.amap [Value.string ⟨#[102]⟩] [.ptr 2 0 0])), (0, none), (1, none), (2, none), (3, none)] : List (Nat × Option MObj)) = [(0, some (.box 56 [iV .i64 9, .mown 1, .mown 3, iV .i64 (-1), iV .i64 4, bV false])), (1, some (.amap [Value.string ⟨#[102]⟩] [.ptr 2 0 0])), (2, some (.box 60 [.im (.row [[iI .u8 97], [iI .u8 98]]), iV .i64 2])), (3, some (.amap [Value.string ⟨#[102]⟩] [.ptr 2 0 0])), (0, none), (1, none), (2, none), (3, none)], _, _, false = false] ⟨rfl, Try.call22, cx13_Used, rfl, trivial⟩ ?_
  refine AWp.cond false (by kernel_rfl) (fun h => nomatch h) (fun _ => ?_)
  refine sR hP hn hm [(1, .more (xPtrNil false))] [(47, bV false)] [0, 1, 2, 8, 47] [] [0, 1, 2, 3] [false = false] ⟨rfl, trivial⟩ ?_
  refine AWp.cond false (by kernel_rfl) (fun h => nomatch h) (fun _ => ?_)
  refine AWp.skip ?_
  show AWp Γ _ _ _
  refine sR hP hn hm [(5, .call [] [(0, 4)] [] [4] 0 (.own 0) [(0, some (.row 1 5 (([97, 98] : List Int).map (encInt .u8))))]), (7, .app 5 [[iI .u8 97], [iI .u8 98], [iI .u8 99]])] [] [] [(2, some (.box 60 [.own 5, iV .i64 2])), (5, some (.row 1 5 [[iI .u8 97], [iI .u8 98], [iI .u8 99]]))] [0, 1, 2, 3, 5] [_, _, [[iI .u8 97], [iI .u8 98], [iI .u8 99]] = ([[iI .u8 97], [iI .u8 98]] : List (List Im)) ++ ([[iI .u8 99]] : List (List Im)), ∀ c ∈ ([[iI .u8 99]] : List (List Im)), c.length = 1, ∀ c ∈ ([[iI .u8 99]] : List (List Im)), leaves (c.map .im) = true, (([[iI .u8 97], [iI .u8 98]] : List (List Im)).length + ([[iI .u8 99]] : List (List Im)).length) * 1 ≤ 140737488355328] ⟨Try.call26, f_slices_Clone_byte.ok ([97, 98] : List Int) ([97, 98] : List Int) (by kernel_rfl), rfl, by simp, by decide, by decide, trivial⟩ ?_
  refine AWp.conv (inv := [(0, 0), (1, 1), (2, 2), (3, 3)]) (vk := [5]) (e0 := []) (t := ⟨[], [(0, some (.box 56 [iV .i64 9, .mown 1, .mown 3, iV .i64 (-1), iV .i64 4, bV false])), (1, some (.amap [Value.string ⟨#[102]⟩] [.ptr 2 0 0])), (2, some (.box 60 [.im (.row [[iI .u8 97], [iI .u8 98], [iI .u8 99]]), iV .i64 2])), (3, some (.amap [Value.string ⟨#[102]⟩] [.ptr 2 0 0]))], 4⟩) (by kernel_rfl) ?_
  refine sO hP hn hm [] [(6, iV .i64 0)] [6] [] [0, 1, 2, 3] ?_
  refine AWp.ret ?_
  exact rl (.inl rfl) rfl (by kernel_rfl) (by kernel_rfl)
theorem cx15_Keys : Pv.Fn Try.prog 34 [.mown 0] [(0, some (.amap [Value.string ⟨#[102]⟩] [.ptr 1 0 0])), (1, some (.box 60 [.im (.row [[iI .u8 97], [iI .u8 98], [iI .u8 99]]), iV .i64 2]))] 2 (fun x o => x = .fn 45 [.ptr 2 0 0] ∧ o = [(0, some (.amap [Value.string ⟨#[102]⟩] [.ptr 1 0 0])), (1, some (.box 60 [.im (.row [[iI .u8 97], [iI .u8 98], [iI .u8 99]]), iV .i64 2])), (2, some (.box 54 [.mown 0]))]) := by
  refine Fn.bodyK [0, 1, 2] Try.func34 rfl rfl (fun Γ hP hn => ?_)
  have hm : Try.prog.follows .mixedOrders = true := by kernel_rfl
  replace hn : Γ.n = 4 := hn
  refine sO hP hn hm [(0, .k 2)] [(1, .ptr 2 0 0)] [1] [(2, some (.box 54 [.mown 0]))] [0, 1, 2] ?_
  refine sO hP hn hm [(0, .more xFunc)] [(2, .fn 45 [.ptr 2 0 0])] [2] [] [0, 1, 2] ?_
  refine AWp.ret ?_
  exact rl (.inl rfl) rfl (by kernel_rfl) (by kernel_rfl)
theorem cx16_Crash : Pv.Fn Try.prog 14 [.ptr 0 0 0, .none0, .none0] [(0, some (.box 56 [iV .i64 9, .mown 1, .mown 3, iV .i64 (-1), iV .i64 4, bV false])), (1, some (.amap [Value.string ⟨#[102]⟩] [.ptr 2 0 0])), (2, some (.box 60 [.im (.row [[iI .u8 97], [iI .u8 98], [iI .u8 99]]), iV .i64 2])), (3, some (.amap [Value.string ⟨#[102]⟩] [.ptr 2 0 0]))] 4 (fun x o => x = .ptr 5 0 0 ∧ o = [(0, some (.box 56 [iV .i64 9, .mown 1, .mown 3, iV .i64 (-1), iV .i64 4, bV false])), (1, some (.amap [Value.string ⟨#[102]⟩] [.ptr 2 0 0])), (2, some (.box 60 [.im (.row [[iI .u8 97], [iI .u8 98], [iI .u8 99]]), iV .i64 2])), (3, some (.amap [Value.string ⟨#[102]⟩] [.ptr 2 0 0])), (4, some (.amap [Value.string ⟨#[102]⟩] [.ptr 10 0 0])), (5, some (.box 56 [iV .i64 9, .mown 4, .mown 11, iV .i64 (-1), iV .i64 0, bV false])), (10, some (.box 60 [.im (.row [[iI .u8 97], [iI .u8 98]]), iV .i64 2])), (11, some (.amap [Value.string ⟨#[102]⟩] [.ptr 10 0 0]))]) := by
  refine Fn.bodyK [0, 1, 2, 3, 4, 5, 10, 11] Try.func14 rfl rfl (fun Γ hP hn => ?_)
  have hm : Try.prog.follows .mixedOrders = true := by kernel_rfl
  replace hn : Γ.n = 150 := hn
  refine sO hP hn hm [] [] [0, 1, 2] [] [0, 1, 2, 3] ?_
  refine AWp.seq ?_
  refine sR hP hn hm [(1, .more (xPtrNil false))] [(19, bV false)] [0, 1, 2, 19] [] [0, 1, 2, 3] [false = false] ⟨rfl, trivial⟩ ?_
  refine AWp.cond false (by kernel_rfl) (fun h => nomatch h) (fun _ => ?_)
  refine AWp.skip ?_
  show AWp Γ _ _ _
  refine sO hP hn hm [(4, .more (xMkA 4)), (6, .k 5)] [(7, .ptr 5 0 0)] [0, 1, 2, 7] [(4, some (.amap [] [])), (5, some (.box 56 [iV .i64 9, .mown 4, .im (.sc (.map none)), iV .i64 (-1), iV .i64 0, bV false]))] [0, 1, 2, 3, 4, 5] ?_
  refine sR hP hn hm [(4, .callz [(1, 0), (2, 1)] [(0, 1), (1, 2), (2, 6)] [] [6] 2 (.fn 45 [.ptr 2 0 0]) [(0, some (.amap [Value.string ⟨#[102]⟩] [.ptr 1 0 0])), (1, some (.box 60 [.im (.row [[iI .u8 97], [iI .u8 98], [iI .u8 99]]), iV .i64 2])), (2, some (.box 54 [.mown 0]))]), (5, .callz [(6, 0), (1, 1), (2, 2)] [(0, 6), (1, 1), (2, 2), (3, 7)] [] [7] 3 (.own 3) [(0, some (.box 54 [.mown 1])), (1, some (.amap [Value.string ⟨#[102]⟩] [.ptr 2 0 0])), (2, some (.box 60 [.im (.row [[iI .u8 97], [iI .u8 98], [iI .u8 99]]), iV .i64 2])), (3, some (.row 1 9 [[sI (⟨#[102]⟩ : ByteArray)]]))])] [(8, .own 7)] [0, 1, 2, 7, 8] [(7, some (.row 1 9 [[sI (⟨#[102]⟩ : ByteArray)]]))] [0, 1, 2, 3, 4, 5, 7] [_, _, _, _] ⟨Try.call34, cx15_Keys, Try.call33, Fn.sorted1 (T := 54) (by kernel_rfl) sorted_ok (⟨#[102]⟩ : ByteArray) (by decide) (.ptr 2 0 0) [(2, some (.box 60 [.im (.row [[iI .u8 97], [iI .u8 98], [iI .u8 99]]), iV .i64 2]))] 3 (by decide) (by kernel_rfl) (fun q o h => by have h2 := look_mem h; simp only [List.mem_cons, List.not_mem_nil, or_false, Prod.mk.injEq, Option.some.injEq] at h2; rcases h2 with ⟨_, rfl⟩ <;> rfl) rfl, trivial⟩ ?_
  refine AWp.seq ?_
  refine sR hP hn hm [(4, .more (xRngA 8 1))] [(37, .ptr 8 0 0)] [0, 1, 2, 7, 8, 37] [(8, some (.iter (some 3) 1 []))] [0, 1, 2, 3, 4, 5, 7, 8] [1 = ([Value.string ⟨#[102]⟩] : List Value).length] ⟨rfl, trivial⟩ ?_
  refine AWp.block ?_
  refine AWp.loop ?_
  refine LWp.round ?_
  refine AWp.seq ?_
  refine AWp.nextA1 0 38 39 8 3 (n := 1) (sn := []) (ks := [Value.string ⟨#[102]⟩]) (xs := [.ptr 2 0 0]) hP rfl rfl rfl rfl rfl rfl (by rw [hn]; decide) (by rw [hn]; decide) (by kernel_rfl) (by kernel_rfl) (by kernel_rfl) rfl (by decide) ?_
  show AWp Γ _ _ _
  refine AWp.seq ?_
  refine AWp.cond true (by kernel_rfl) (fun _ => ?_) (fun h => nomatch h)
  refine AWp.skip ?_
  show AWp Γ _ _ _
  refine AWp.block ?_
  refine sR hP hn hm [(0, .more (xEntA vkS ([((⟨#[102]⟩ : ByteArray), .ptr 2 0 0)] : List (ByteArray × AVal)) 0 ((⟨#[102]⟩ : ByteArray), .ptr 2 0 0) (sV (⟨#[102]⟩ : ByteArray))))] [(9, sV (⟨#[102]⟩ : ByteArray))] [0, 1, 2, 7, 8, 9, 37] [] [0, 1, 2, 3, 4, 5, 7, 8] [1 = ([Value.string ⟨#[102]⟩] : List Value).length, ([0] : List Nat).getLast? = some 0, ([Value.string ⟨#[102]⟩] : List Value) = (([((⟨#[102]⟩ : ByteArray), .ptr 2 0 0)] : List (ByteArray × AVal))).map (fun p => vkS p.1), ([.ptr 2 0 0] : List AVal) = (([((⟨#[102]⟩ : ByteArray), .ptr 2 0 0)] : List (ByteArray × AVal))).map (·.2), (([((⟨#[102]⟩ : ByteArray), .ptr 2 0 0)] : List (ByteArray × AVal)))[0]? = some ((⟨#[102]⟩ : ByteArray), .ptr 2 0 0), valA (sV (⟨#[102]⟩ : ByteArray)) = some (vkS (⟨#[102]⟩ : ByteArray))] ⟨rfl, rfl, rfl, rfl, rfl, rfl, trivial⟩ ?_
  refine sR hP hn hm [(5, .more (xLookA2 vkS ([((⟨#[102]⟩ : ByteArray), .ptr 2 0 0)] : List (ByteArray × AVal)) (⟨#[102]⟩ : ByteArray) (.ptr 2 0 0) true))] [(11, bV true)] [0, 1, 2, 7, 8, 9, 11, 37] [] [0, 1, 2, 3, 4, 5, 7, 8] [KeyOK Try.prog 9 vkS, ([Value.string ⟨#[102]⟩] : List Value) = (([((⟨#[102]⟩ : ByteArray), .ptr 2 0 0)] : List (ByteArray × AVal))).map (fun p => vkS p.1), ([.ptr 2 0 0] : List AVal) = (([((⟨#[102]⟩ : ByteArray), .ptr 2 0 0)] : List (ByteArray × AVal))).map (·.2), valA (sV (⟨#[102]⟩ : ByteArray)) = some (vkS (⟨#[102]⟩ : ByteArray)), (mget ([((⟨#[102]⟩ : ByteArray), .ptr 2 0 0)] : List (ByteArray × AVal)) (⟨#[102]⟩ : ByteArray)).getD (.im (.sc (.pointer none))) = .ptr 2 0 0, (mget ([((⟨#[102]⟩ : ByteArray), .ptr 2 0 0)] : List (ByteArray × AVal)) (⟨#[102]⟩ : ByteArray)).isSome = true] ⟨key_str (by kernel_rfl), rfl, rfl, rfl, by kernel_rfl, by kernel_rfl, trivial⟩ ?_
  refine sO hP hn hm [] [(52, bV false)] [0, 1, 2, 7, 8, 9, 37, 52] [] [0, 1, 2, 3, 4, 5, 7, 8] ?_
  refine AWp.cond false (by kernel_rfl) (fun h => nomatch h) (fun _ => ?_)
  refine AWp.skip ?_
  show LWp Γ _ _ _
  refine LWp.round ?_
  refine AWp.seq ?_
  refine AWp.nextA0 38 39 8 3 (n := 1) (sn := [0]) (ks := [Value.string ⟨#[102]⟩]) (xs := [.ptr 2 0 0]) hP rfl rfl rfl rfl rfl rfl (by rw [hn]; decide) (by rw [hn]; decide) (by kernel_rfl) (by kernel_rfl) (by kernel_rfl) rfl (by decide) ?_
  show AWp Γ _ _ _
  refine AWp.seq ?_
  refine AWp.cond false (by kernel_rfl) (fun h => nomatch h) (fun _ => ?_)
  refine AWp.exit ?_
  show AWp Γ _ _ _
  refine sR hP hn hm [(1, .callz [(7, 0)] [(0, 7)] [] [] 1 (.tup []) [(0, some (.row 1 9 [[sI (⟨#[102]⟩ : ByteArray)]]))])] [] [0, 1, 2, 7, 8] [] [0, 1, 2, 3, 4, 5, 7] [_, _] ⟨Try.call35, sortOne (⟨#[102]⟩ : ByteArray), trivial⟩ ?_
  refine AWp.seq ?_
  refine sO hP hn hm [] [(59, .own 7), (60, iV .i64 1), (61, iV .i64 0)] [0, 1, 2, 7, 59, 60, 61] [] [0, 1, 2, 3, 4, 5, 7] ?_
  refine AWp.block ?_
  refine AWp.loop ?_
  refine LWp.round ?_
  refine sO hP hn hm [] [(62, bV true)] [0, 1, 2, 7, 59, 60, 61, 62] [] [0, 1, 2, 3, 4, 5, 7] ?_
  refine AWp.seq ?_
  refine AWp.cond true (by kernel_rfl) (fun _ => ?_) (fun h => nomatch h)
  refine AWp.skip ?_
  show AWp Γ _ _ _
  refine AWp.seq ?_
  refine AWp.block ?_
  refine sR hP hn hm [(2, .c [sI (⟨#[102]⟩ : ByteArray)])] [(12, iV .i64 0), (13, sV (⟨#[102]⟩ : ByteArray))] [0, 1, 2, 7, 12, 13, 59, 60, 61] [] [0, 1, 2, 3, 4, 5, 7] [(0 : Int) ≤ 0, (0 : Int) < ((([[sI (⟨#[102]⟩ : ByteArray)]] : List (List Im)).length : Nat) : Int), ([[sI (⟨#[102]⟩ : ByteArray)]] : List (List Im))[0]? = some [sI (⟨#[102]⟩ : ByteArray)]] ⟨by decide, by decide, rfl, trivial⟩ ?_
  refine sR hP hn hm [(5, .more (xLookA vkS ([((⟨#[102]⟩ : ByteArray), .ptr 2 0 0)] : List (ByteArray × AVal)) (⟨#[102]⟩ : ByteArray) (.ptr 2 0 0)))] [(14, .ptr 2 0 0)] [0, 1, 2, 7, 12, 13, 14, 59, 60, 61] [] [0, 1, 2, 3, 4, 5, 7] [KeyOK Try.prog 9 vkS, ([Value.string ⟨#[102]⟩] : List Value) = (([((⟨#[102]⟩ : ByteArray), .ptr 2 0 0)] : List (ByteArray × AVal))).map (fun p => vkS p.1), ([.ptr 2 0 0] : List AVal) = (([((⟨#[102]⟩ : ByteArray), .ptr 2 0 0)] : List (ByteArray × AVal))).map (·.2), valA (sV (⟨#[102]⟩ : ByteArray)) = some (vkS (⟨#[102]⟩ : ByteArray)), (mget ([((⟨#[102]⟩ : ByteArray), .ptr 2 0 0)] : List (ByteArray × AVal)) (⟨#[102]⟩ : ByteArray)).getD (.im (.sc (.pointer none))) = .ptr 2 0 0] ⟨key_str (by kernel_rfl), rfl, rfl, rfl, by kernel_rfl, trivial⟩ ?_
  refine AWp.seq ?_
  refine sR hP hn hm [(5, .more (xLookA vkS ([((⟨#[102]⟩ : ByteArray), .ptr 2 0 0)] : List (ByteArray × AVal)) (⟨#[102]⟩ : ByteArray) (.ptr 2 0 0)))] [(15, .ptr 2 0 0)] [0, 1, 2, 7, 12, 13, 14, 15, 59, 60, 61] [] [0, 1, 2, 3, 4, 5, 7] [KeyOK Try.prog 9 vkS, ([Value.string ⟨#[102]⟩] : List Value) = (([((⟨#[102]⟩ : ByteArray), .ptr 2 0 0)] : List (ByteArray × AVal))).map (fun p => vkS p.1), ([.ptr 2 0 0] : List AVal) = (([((⟨#[102]⟩ : ByteArray), .ptr 2 0 0)] : List (ByteArray × AVal))).map (·.2), valA (sV (⟨#[102]⟩ : ByteArray)) = some (vkS (⟨#[102]⟩ : ByteArray)), (mget ([((⟨#[102]⟩ : ByteArray), .ptr 2 0 0)] : List (ByteArray × AVal)) (⟨#[102]⟩ : ByteArray)).getD (.im (.sc (.pointer none))) = .ptr 2 0 0] ⟨key_str (by kernel_rfl), rfl, rfl, rfl, by kernel_rfl, trivial⟩ ?_
  refine sO hP hn hm [(2, .more xPtrSame)] [(92, bV false)] [0, 1, 2, 7, 12, 13, 14, 15, 59, 60, 61, 92] [] [0, 1, 2, 3, 4, 5, 7] ?_
  refine AWp.cond false (by kernel_rfl) (fun h => nomatch h) (fun _ => ?_)
  refine AWp.skip ?_
  show AWp Γ _ _ _
  refine AWp.seq ?_
  refine sR hP hn hm [(1, .more (xPtrNil false))] [(95, bV false)] [0, 1, 2, 7, 12, 13, 14, 59, 60, 61, 95] [] [0, 1, 2, 3, 4, 5, 7] [false = false] ⟨rfl, trivial⟩ ?_
  refine AWp.cond false (by kernel_rfl) (fun h => nomatch h) (fun _ => ?_)
  refine AWp.skip ?_
  show AWp Γ _ _ _
  refine sO hP hn hm [] [(16, iV .i64 2)] [0, 1, 2, 7, 12, 13, 14, 16, 59, 60, 61] [] [0, 1, 2, 3, 4, 5, 7] ?_
  refine AWp.seq ?_
  refine sO hP hn hm [] [(17, iV .i64 1)] [0, 1, 2, 7, 12, 13, 14, 16, 17, 59, 60, 61] [] [0, 1, 2, 3, 4, 5, 7] ?_
  refine sO hP hn hm [] [(110, iV .i64 0), (111, .none0), (112, iV .i64 0), (113, bV false), (114, bV false)] [0, 1, 2, 7, 12, 13, 14, 16, 17, 59, 60, 61, 110, 111, 112, 113, 114] [] [0, 1, 2, 3, 4, 5, 7] ?_
  refine AWp.cond false (by kernel_rfl) (fun h => nomatch h) (fun _ => ?_)
  refine AWp.skip ?_
  show AWp Γ _ _ _
  refine rG hP hn hm [(10, .rows [[iI .u8 97], [iI .u8 98]]), (11, .call [] [(0, 9)] [] [9] 0 (.own 0) [(0, some (.row 1 5 (([97, 98] : List Int).map (encInt .u8))))]), (14, .k 10), (15, .more (xPutA vkS ([] : List (ByteArray × AVal)) (⟨#[102]⟩ : ByteArray) (.ptr 10 0 0)))] [] [0, 1, 2, 7, 59, 60, 61, 110, 111, 112, 113] [(4, some (.amap [Value.string ⟨#[102]⟩] [.ptr 10 0 0])), (9, some (.row 1 5 [[iI .u8 97], [iI .u8 98]])), (10, some (.box 60 [.own 9, iV .i64 2]))] [0, 1, 2, 3, 4, 5, 7, 9, 10] [(0 : Int) ≤ 0, (0 : Int) ≤ 2, (2 : Int) ≤ (([[iI .u8 97], [iI .u8 98], [iI .u8 99]] : List (List Im)).length : Int), ∀ c ∈ ([[iI .u8 97], [iI .u8 98], [iI .u8 99]] : List (List Im)), c.length = 1, [[iI .u8 97], [iI .u8 98]] = (([[iI .u8 97], [iI .u8 98], [iI .u8 99]] : List (List Im)).drop 0).take (2 - 0), _, _, KeyOK Try.prog 9 vkS, ([] : List Value) = (([] : List (ByteArray × AVal))).map (fun p => vkS p.1), ([] : List AVal) = (([] : List (ByteArray × AVal))).map (·.2), valA (sV (⟨#[102]⟩ : ByteArray)) = some (vkS (⟨#[102]⟩ : ByteArray)), (.ptr 10 0 0 : AVal) = .ptr 10 0 0] ⟨by decide, by decide, by decide, by simp, rfl, Try.call26, f_slices_Clone_byte.ok ([97, 98] : List Int) ([97, 98] : List Int) (by kernel_rfl), key_str (by kernel_rfl), rfl, rfl, rfl, rfl, trivial⟩ ?_
  show ?_
  refine AWp.conv (inv := [(0, 0), (1, 1), (2, 2), (3, 3), (4, 4), (5, 5), (7, 7), (10, 10)]) (vk := [9]) (e0 := []) (t := ⟨[(0, .ptr 0 0 0), (1, .none0), (2, .none0), (7, .ptr 5 0 0), (59, .own 7), (60, iV .i64 1), (61, iV .i64 0), (110, iV .i64 0), (111, .none0), (112, iV .i64 0), (113, bV false)], [(0, some (.box 56 [iV .i64 9, .mown 1, .mown 3, iV .i64 (-1), iV .i64 4, bV false])), (1, some (.amap [Value.string ⟨#[102]⟩] [.ptr 2 0 0])), (2, some (.box 60 [.im (.row [[iI .u8 97], [iI .u8 98], [iI .u8 99]]), iV .i64 2])), (3, some (.amap [Value.string ⟨#[102]⟩] [.ptr 2 0 0])), (4, some (.amap [Value.string ⟨#[102]⟩] [.ptr 10 0 0])), (5, some (.box 56 [iV .i64 9, .mown 4, .im (.sc (.map none)), iV .i64 (-1), iV .i64 0, bV false])), (7, some (.row 1 9 [[sI (⟨#[102]⟩ : ByteArray)]])), (10, some (.box 60 [.im (.row [[iI .u8 97], [iI .u8 98]]), iV .i64 2]))], 4⟩) (by kernel_rfl) ?_
  show AWp Γ _ _ _
  refine rO hP hn hm [] [(61, iV .i64 1)] [0, 1, 2, 7, 59, 60, 61, 110, 111, 112, 113] [] [0, 1, 2, 3, 4, 5, 7, 10] ?_
  show LWp Γ _ _ _
  refine LWp.round ?_
  refine sO hP hn hm [] [(62, bV false)] [0, 1, 2, 7, 59, 60, 61, 62, 110, 111, 112, 113] [] [0, 1, 2, 3, 4, 5, 7, 10] ?_
  refine AWp.seq ?_
  refine AWp.cond false (by kernel_rfl) (fun h => nomatch h) (fun _ => ?_)
  refine AWp.exit ?_
  show AWp Γ _ _ _
  refine sR hP hn hm [(5, .callz [(4, 0), (10, 1)] [(0, 4), (1, 10), (2, 11)] [] [11] 2 (.mown 2) [(0, some (.amap [Value.string ⟨#[102]⟩] [.ptr 1 0 0])), (1, some (.box 60 [.im (.row [[iI .u8 97], [iI .u8 98]]), iV .i64 2])), (2, some (.amap [Value.string ⟨#[102]⟩] [.ptr 1 0 0]))])] [] [7] [(5, some (.box 56 [iV .i64 9, .mown 4, .mown 11, iV .i64 (-1), iV .i64 0, bV false])), (11, some (.amap [Value.string ⟨#[102]⟩] [.ptr 10 0 0]))] [0, 1, 2, 3, 4, 5, 10, 11] [_, _] ⟨Try.call27, Fn.mclone (fun b es clock w h => mclone_ok b es clock w h) [Value.string ⟨#[102]⟩] [.ptr 1 0 0] [(1, some (.box 60 [.im (.row [[iI .u8 97], [iI .u8 98]]), iV .i64 2]))] 2 (by decide) (by kernel_rfl) (by kernel_rfl) (fun q o h => by have h2 := look_mem h; simp only [List.mem_cons, List.not_mem_nil, or_false, Prod.mk.injEq, Option.some.injEq] at h2; rcases h2 with ⟨_, rfl⟩ <;> rfl) (by kernel_rfl), trivial⟩ ?_
  refine sO hP hn hm [] [(6, .ptr 5 0 0)] [6] [] [0, 1, 2, 3, 4, 5, 10, 11] ?_
  refine AWp.ret ?_
  exact rl (.inl rfl) rfl (by kernel_rfl) (by kernel_rfl)
theorem cx17_Read : Pv.Fn Try.prog 15 [.ptr 0 0 0, sV (⟨#[102]⟩ : ByteArray)] [(0, some (.box 56 [iV .i64 9, .mown 1, .mown 3, iV .i64 (-1), iV .i64 0, bV false])), (1, some (.amap [Value.string ⟨#[102]⟩] [.ptr 2 0 0])), (2, some (.box 60 [.im (.row [[iI .u8 97], [iI .u8 98]]), iV .i64 2])), (3, some (.amap [Value.string ⟨#[102]⟩] [.ptr 2 0 0]))] 4 (fun x o => x = .tup [.own 4, iV .i64 0] ∧ o = [(0, some (.box 56 [iV .i64 9, .mown 1, .mown 3, iV .i64 (-1), iV .i64 0, bV false])), (1, some (.amap [Value.string ⟨#[102]⟩] [.ptr 2 0 0])), (2, some (.box 60 [.im (.row [[iI .u8 97], [iI .u8 98]]), iV .i64 2])), (3, some (.amap [Value.string ⟨#[102]⟩] [.ptr 2 0 0])), (4, some (.row 1 5 [[iI .u8 97], [iI .u8 98]]))]) := by
  refine Fn.bodyK [0, 1, 2, 3, 4] Try.func15 rfl rfl (fun Γ hP hn => ?_)
  have hm : Try.prog.follows .mixedOrders = true := by kernel_rfl
  replace hn : Γ.n = 32 := hn
  refine sO hP hn hm [] [] [0, 1] [] [0, 1, 2, 3] ?_
  refine AWp.seq ?_
  refine AWp.block ?_
  refine sR hP hn hm [(1, .more (xPtrNil false))] [(6, bV false)] [0, 1, 6] [] [0, 1, 2, 3] [false = false] ⟨rfl, trivial⟩ ?_
  refine AWp.cond false (by kernel_rfl) (fun h => nomatch h) (fun _ => ?_)
  refine sO hP hn hm [] [(9, bV false)] [0, 1, 9] [] [0, 1, 2, 3] ?_
  refine AWp.cond false (by kernel_rfl) (fun h => nomatch h) (fun _ => ?_)
  refine sR hP hn hm [(5, .more (xLookA vkS ([((⟨#[102]⟩ : ByteArray), .ptr 2 0 0)] : List (ByteArray × AVal)) (⟨#[102]⟩ : ByteArray) (.ptr 2 0 0))), (6, .more (xPtrNil false))] [(14, bV false)] [0, 1, 14] [] [0, 1, 2, 3] [KeyOK Try.prog 9 vkS, ([Value.string ⟨#[102]⟩] : List Value) = (([((⟨#[102]⟩ : ByteArray), .ptr 2 0 0)] : List (ByteArray × AVal))).map (fun p => vkS p.1), ([.ptr 2 0 0] : List AVal) = (([((⟨#[102]⟩ : ByteArray), .ptr 2 0 0)] : List (ByteArray × AVal))).map (·.2), valA (sV (⟨#[102]⟩ : ByteArray)) = some (vkS (⟨#[102]⟩ : ByteArray)), (mget ([((⟨#[102]⟩ : ByteArray), .ptr 2 0 0)] : List (ByteArray × AVal)) (⟨#[102]⟩ : ByteArray)).getD (.im (.sc (.pointer none))) = .ptr 2 0 0, false = false] ⟨key_str (by kernel_rfl), rfl, rfl, rfl, by kernel_rfl, rfl, trivial⟩ ?_
  refine AWp.cond false (by kernel_rfl) (fun h => nomatch h) (fun _ => ?_)
  refine AWp.skip ?_
  show AWp Γ _ _ _
  refine sR hP hn hm [(5, .more (xLookA vkS ([((⟨#[102]⟩ : ByteArray), .ptr 2 0 0)] : List (ByteArray × AVal)) (⟨#[102]⟩ : ByteArray) (.ptr 2 0 0))), (9, .call [] [(0, 4)] [] [4] 0 (.own 0) [(0, some (.row 1 5 (([97, 98] : List Int).map (encInt .u8))))])] [(4, .own 4), (5, iV .i64 0)] [4, 5] [(4, some (.row 1 5 [[iI .u8 97], [iI .u8 98]]))] [0, 1, 2, 3, 4] [KeyOK Try.prog 9 vkS, ([Value.string ⟨#[102]⟩] : List Value) = (([((⟨#[102]⟩ : ByteArray), .ptr 2 0 0)] : List (ByteArray × AVal))).map (fun p => vkS p.1), ([.ptr 2 0 0] : List AVal) = (([((⟨#[102]⟩ : ByteArray), .ptr 2 0 0)] : List (ByteArray × AVal))).map (·.2), valA (sV (⟨#[102]⟩ : ByteArray)) = some (vkS (⟨#[102]⟩ : ByteArray)), (mget ([((⟨#[102]⟩ : ByteArray), .ptr 2 0 0)] : List (ByteArray × AVal)) (⟨#[102]⟩ : ByteArray)).getD (.im (.sc (.pointer none))) = .ptr 2 0 0, _, _] ⟨key_str (by kernel_rfl), rfl, rfl, rfl, by kernel_rfl, Try.call26, f_slices_Clone_byte.ok ([97, 98] : List Int) ([97, 98] : List Int) (by kernel_rfl), trivial⟩ ?_
  refine AWp.ret ?_
  exact rl (.inl rfl) rfl (by kernel_rfl) (by kernel_rfl)
theorem cx18_Crash : Pv.Fn Try.prog 14 [.ptr 0 0 0, .none0, .own 4] [(0, some (.box 56 [iV .i64 9, .mown 1, .mown 3, iV .i64 (-1), iV .i64 4, bV false])), (1, some (.amap [Value.string ⟨#[102]⟩] [.ptr 2 0 0])), (2, some (.box 60 [.im (.row [[iI .u8 97], [iI .u8 98], [iI .u8 99]]), iV .i64 2])), (3, some (.amap [Value.string ⟨#[102]⟩] [.ptr 2 0 0])), (4, some (.row 1 46 [[iI .u16 1]]))] 5 (fun x o => x = .ptr 6 0 0 ∧ o = [(0, some (.box 56 [iV .i64 9, .mown 1, .mown 3, iV .i64 (-1), iV .i64 4, bV false])), (1, some (.amap [Value.string ⟨#[102]⟩] [.ptr 2 0 0])), (2, some (.box 60 [.im (.row [[iI .u8 97], [iI .u8 98], [iI .u8 99]]), iV .i64 2])), (3, some (.amap [Value.string ⟨#[102]⟩] [.ptr 2 0 0])), (4, some (.row 1 46 [[iI .u16 1]])), (5, some (.amap [Value.string ⟨#[102]⟩] [.ptr 11 0 0])), (6, some (.box 56 [iV .i64 9, .mown 5, .mown 12, iV .i64 (-1), iV .i64 0, bV false])), (11, some (.box 60 [.im (.row [[iI .u8 97], [iI .u8 98], [iI .u8 99]]), iV .i64 3])), (12, some (.amap [Value.string ⟨#[102]⟩] [.ptr 11 0 0]))]) := by
  refine Fn.bodyK [0, 1, 2, 3, 4, 5, 6, 11, 12] Try.func14 rfl rfl (fun Γ hP hn => ?_)
  have hm : Try.prog.follows .mixedOrders = true := by kernel_rfl
  replace hn : Γ.n = 150 := hn
  refine sO hP hn hm [] [] [0, 1, 2] [] [0, 1, 2, 3, 4] ?_
  refine AWp.seq ?_
  refine sR hP hn hm [(1, .more (xPtrNil false))] [(19, bV false)] [0, 1, 2, 19] [] [0, 1, 2, 3, 4] [false = false] ⟨rfl, trivial⟩ ?_
  refine AWp.cond false (by kernel_rfl) (fun h => nomatch h) (fun _ => ?_)
  refine AWp.skip ?_
  show AWp Γ _ _ _
  refine sO hP hn hm [(4, .more (xMkA 5)), (6, .k 6)] [(7, .ptr 6 0 0)] [0, 1, 2, 7] [(5, some (.amap [] [])), (6, some (.box 56 [iV .i64 9, .mown 5, .im (.sc (.map none)), iV .i64 (-1), iV .i64 0, bV false]))] [0, 1, 2, 3, 4, 5, 6] ?_
  refine sR hP hn hm [(4, .callz [(1, 0), (2, 1)] [(0, 1), (1, 2), (2, 7)] [] [7] 2 (.fn 45 [.ptr 2 0 0]) [(0, some (.amap [Value.string ⟨#[102]⟩] [.ptr 1 0 0])), (1, some (.box 60 [.im (.row [[iI .u8 97], [iI .u8 98], [iI .u8 99]]), iV .i64 2])), (2, some (.box 54 [.mown 0]))]), (5, .callz [(7, 0), (1, 1), (2, 2)] [(0, 7), (1, 1), (2, 2), (3, 8)] [] [8] 3 (.own 3) [(0, some (.box 54 [.mown 1])), (1, some (.amap [Value.string ⟨#[102]⟩] [.ptr 2 0 0])), (2, some (.box 60 [.im (.row [[iI .u8 97], [iI .u8 98], [iI .u8 99]]), iV .i64 2])), (3, some (.row 1 9 [[sI (⟨#[102]⟩ : ByteArray)]]))])] [(8, .own 8)] [0, 1, 2, 7, 8] [(8, some (.row 1 9 [[sI (⟨#[102]⟩ : ByteArray)]]))] [0, 1, 2, 3, 4, 5, 6, 8] [_, _, _, _] ⟨Try.call34, cx15_Keys, Try.call33, Fn.sorted1 (T := 54) (by kernel_rfl) sorted_ok (⟨#[102]⟩ : ByteArray) (by decide) (.ptr 2 0 0) [(2, some (.box 60 [.im (.row [[iI .u8 97], [iI .u8 98], [iI .u8 99]]), iV .i64 2]))] 3 (by decide) (by kernel_rfl) (fun q o h => by have h2 := look_mem h; simp only [List.mem_cons, List.not_mem_nil, or_false, Prod.mk.injEq, Option.some.injEq] at h2; rcases h2 with ⟨_, rfl⟩ <;> rfl) rfl, trivial⟩ ?_
  refine AWp.seq ?_
  refine sR hP hn hm [(4, .more (xRngA 9 1))] [(37, .ptr 9 0 0)] [0, 1, 2, 7, 8, 37] [(9, some (.iter (some 3) 1 []))] [0, 1, 2, 3, 4, 5, 6, 8, 9] [1 = ([Value.string ⟨#[102]⟩] : List Value).length] ⟨rfl, trivial⟩ ?_
  refine AWp.block ?_
  refine AWp.loop ?_
  refine LWp.round ?_
  refine AWp.seq ?_
  refine AWp.nextA1 0 38 39 9 3 (n := 1) (sn := []) (ks := [Value.string ⟨#[102]⟩]) (xs := [.ptr 2 0 0]) hP rfl rfl rfl rfl rfl rfl (by rw [hn]; decide) (by rw [hn]; decide) (by kernel_rfl) (by kernel_rfl) (by kernel_rfl) rfl (by decide) ?_
  show AWp Γ _ _ _
  refine AWp.seq ?_
  refine AWp.cond true (by kernel_rfl) (fun _ => ?_) (fun h => nomatch h)
  refine AWp.skip ?_
  show AWp Γ _ _ _
  refine AWp.block ?_
  refine sR hP hn hm [(0, .more (xEntA vkS ([((⟨#[102]⟩ : ByteArray), .ptr 2 0 0)] : List (ByteArray × AVal)) 0 ((⟨#[102]⟩ : ByteArray), .ptr 2 0 0) (sV (⟨#[102]⟩ : ByteArray))))] [(9, sV (⟨#[102]⟩ : ByteArray))] [0, 1, 2, 7, 8, 9, 37] [] [0, 1, 2, 3, 4, 5, 6, 8, 9] [1 = ([Value.string ⟨#[102]⟩] : List Value).length, ([0] : List Nat).getLast? = some 0, ([Value.string ⟨#[102]⟩] : List Value) = (([((⟨#[102]⟩ : ByteArray), .ptr 2 0 0)] : List (ByteArray × AVal))).map (fun p => vkS p.1), ([.ptr 2 0 0] : List AVal) = (([((⟨#[102]⟩ : ByteArray), .ptr 2 0 0)] : List (ByteArray × AVal))).map (·.2), (([((⟨#[102]⟩ : ByteArray), .ptr 2 0 0)] : List (ByteArray × AVal)))[0]? = some ((⟨#[102]⟩ : ByteArray), .ptr 2 0 0), valA (sV (⟨#[102]⟩ : ByteArray)) = some (vkS (⟨#[102]⟩ : ByteArray))] ⟨rfl, rfl, rfl, rfl, rfl, rfl, trivial⟩ ?_
  refine sR hP hn hm [(5, .more (xLookA2 vkS ([((⟨#[102]⟩ : ByteArray), .ptr 2 0 0)] : List (ByteArray × AVal)) (⟨#[102]⟩ : ByteArray) (.ptr 2 0 0) true))] [(11, bV true)] [0, 1, 2, 7, 8, 9, 11, 37] [] [0, 1, 2, 3, 4, 5, 6, 8, 9] [KeyOK Try.prog 9 vkS, ([Value.string ⟨#[102]⟩] : List Value) = (([((⟨#[102]⟩ : ByteArray), .ptr 2 0 0)] : List (ByteArray × AVal))).map (fun p => vkS p.1), ([.ptr 2 0 0] : List AVal) = (([((⟨#[102]⟩ : ByteArray), .ptr 2 0 0)] : List (ByteArray × AVal))).map (·.2), valA (sV (⟨#[102]⟩ : ByteArray)) = some (vkS (⟨#[102]⟩ : ByteArray)), (mget ([((⟨#[102]⟩ : ByteArray), .ptr 2 0 0)] : List (ByteArray × AVal)) (⟨#[102]⟩ : ByteArray)).getD (.im (.sc (.pointer none))) = .ptr 2 0 0, (mget ([((⟨#[102]⟩ : ByteArray), .ptr 2 0 0)] : List (ByteArray × AVal)) (⟨#[102]⟩ : ByteArray)).isSome = true] ⟨key_str (by kernel_rfl), rfl, rfl, rfl, by kernel_rfl, by kernel_rfl, trivial⟩ ?_
  refine sO hP hn hm [] [(52, bV false)] [0, 1, 2, 7, 8, 9, 37, 52] [] [0, 1, 2, 3, 4, 5, 6, 8, 9] ?_
  refine AWp.cond false (by kernel_rfl) (fun h => nomatch h) (fun _ => ?_)
  refine AWp.skip ?_
  show LWp Γ _ _ _
  refine LWp.round ?_
  refine AWp.seq ?_
  refine AWp.nextA0 38 39 9 3 (n := 1) (sn := [0]) (ks := [Value.string ⟨#[102]⟩]) (xs := [.ptr 2 0 0]) hP rfl rfl rfl rfl rfl rfl (by rw [hn]; decide) (by rw [hn]; decide) (by kernel_rfl) (by kernel_rfl) (by kernel_rfl) rfl (by decide) ?_
  show AWp Γ _ _ _
  refine AWp.seq ?_
  refine AWp.cond false (by kernel_rfl) (fun h => nomatch h) (fun _ => ?_)
  refine AWp.exit ?_
  show AWp Γ _ _ _
  refine sR hP hn hm [(1, .callz [(8, 0)] [(0, 8)] [] [] 1 (.tup []) [(0, some (.row 1 9 [[sI (⟨#[102]⟩ : ByteArray)]]))])] [] [0, 1, 2, 7, 8] [] [0, 1, 2, 3, 4, 5, 6, 8] [_, _] ⟨Try.call35, sortOne (⟨#[102]⟩ : ByteArray), trivial⟩ ?_
  refine AWp.seq ?_
  refine sO hP hn hm [] [(59, .own 8), (60, iV .i64 1), (61, iV .i64 0)] [0, 1, 2, 7, 59, 60, 61] [] [0, 1, 2, 3, 4, 5, 6, 8] ?_
  refine AWp.block ?_
  refine AWp.loop ?_
  refine LWp.round ?_
  refine sO hP hn hm [] [(62, bV true)] [0, 1, 2, 7, 59, 60, 61, 62] [] [0, 1, 2, 3, 4, 5, 6, 8] ?_
  refine AWp.seq ?_
  refine AWp.cond true (by kernel_rfl) (fun _ => ?_) (fun h => nomatch h)
  refine AWp.skip ?_
  show AWp Γ _ _ _
  refine AWp.seq ?_
  refine AWp.block ?_
  refine sR hP hn hm [(2, .c [sI (⟨#[102]⟩ : ByteArray)])] [(12, iV .i64 0), (13, sV (⟨#[102]⟩ : ByteArray))] [0, 1, 2, 7, 12, 13, 59, 60, 61] [] [0, 1, 2, 3, 4, 5, 6, 8] [(0 : Int) ≤ 0, (0 : Int) < ((([[sI (⟨#[102]⟩ : ByteArray)]] : List (List Im)).length : Nat) : Int), ([[sI (⟨#[102]⟩ : ByteArray)]] : List (List Im))[0]? = some [sI (⟨#[102]⟩ : ByteArray)]] ⟨by decide, by decide, rfl, trivial⟩ ?_
  refine sR hP hn hm [(5, .more (xLookA vkS ([((⟨#[102]⟩ : ByteArray), .ptr 2 0 0)] : List (ByteArray × AVal)) (⟨#[102]⟩ : ByteArray) (.ptr 2 0 0)))] [(14, .ptr 2 0 0)] [0, 1, 2, 7, 12, 13, 14, 59, 60, 61] [] [0, 1, 2, 3, 4, 5, 6, 8] [KeyOK Try.prog 9 vkS, ([Value.string ⟨#[102]⟩] : List Value) = (([((⟨#[102]⟩ : ByteArray), .ptr 2 0 0)] : List (ByteArray × AVal))).map (fun p => vkS p.1), ([.ptr 2 0 0] : List AVal) = (([((⟨#[102]⟩ : ByteArray), .ptr 2 0 0)] : List (ByteArray × AVal))).map (·.2), valA (sV (⟨#[102]⟩ : ByteArray)) = some (vkS (⟨#[102]⟩ : ByteArray)), (mget ([((⟨#[102]⟩ : ByteArray), .ptr 2 0 0)] : List (ByteArray × AVal)) (⟨#[102]⟩ : ByteArray)).getD (.im (.sc (.pointer none))) = .ptr 2 0 0] ⟨key_str (by kernel_rfl), rfl, rfl, rfl, by kernel_rfl, trivial⟩ ?_
  refine AWp.seq ?_
  refine sR hP hn hm [(5, .more (xLookA vkS ([((⟨#[102]⟩ : ByteArray), .ptr 2 0 0)] : List (ByteArray × AVal)) (⟨#[102]⟩ : ByteArray) (.ptr 2 0 0)))] [(15, .ptr 2 0 0)] [0, 1, 2, 7, 12, 13, 14, 15, 59, 60, 61] [] [0, 1, 2, 3, 4, 5, 6, 8] [KeyOK Try.prog 9 vkS, ([Value.string ⟨#[102]⟩] : List Value) = (([((⟨#[102]⟩ : ByteArray), .ptr 2 0 0)] : List (ByteArray × AVal))).map (fun p => vkS p.1), ([.ptr 2 0 0] : List AVal) = (([((⟨#[102]⟩ : ByteArray), .ptr 2 0 0)] : List (ByteArray × AVal))).map (·.2), valA (sV (⟨#[102]⟩ : ByteArray)) = some (vkS (⟨#[102]⟩ : ByteArray)), (mget ([((⟨#[102]⟩ : ByteArray), .ptr 2 0 0)] : List (ByteArray × AVal)) (⟨#[102]⟩ : ByteArray)).getD (.im (.sc (.pointer none))) = .ptr 2 0 0] ⟨key_str (by kernel_rfl), rfl, rfl, rfl, by kernel_rfl, trivial⟩ ?_
  refine sO hP hn hm [(2, .more xPtrSame)] [(92, bV false)] [0, 1, 2, 7, 12, 13, 14, 15, 59, 60, 61, 92] [] [0, 1, 2, 3, 4, 5, 6, 8] ?_
  refine AWp.cond false (by kernel_rfl) (fun h => nomatch h) (fun _ => ?_)
  refine AWp.skip ?_
  show AWp Γ _ _ _
  refine AWp.seq ?_
  refine sR hP hn hm [(1, .more (xPtrNil false))] [(95, bV false)] [0, 1, 2, 7, 12, 13, 14, 59, 60, 61, 95] [] [0, 1, 2, 3, 4, 5, 6, 8] [false = false] ⟨rfl, trivial⟩ ?_
  refine AWp.cond false (by kernel_rfl) (fun h => nomatch h) (fun _ => ?_)
  refine AWp.skip ?_
  show AWp Γ _ _ _
  refine sO hP hn hm [] [(16, iV .i64 2)] [0, 1, 2, 7, 12, 13, 14, 16, 59, 60, 61] [] [0, 1, 2, 3, 4, 5, 6, 8] ?_
  refine AWp.seq ?_
  refine sO hP hn hm [] [(17, iV .i64 1)] [0, 1, 2, 7, 12, 13, 14, 16, 17, 59, 60, 61] [] [0, 1, 2, 3, 4, 5, 6, 8] ?_
  refine sO hP hn hm [] [(110, iV .i64 0), (111, .own 4), (112, iV .i64 1), (113, bV true), (114, bV true)] [0, 1, 2, 7, 12, 13, 14, 16, 17, 59, 60, 61, 110, 111, 112, 113, 114] [] [0, 1, 2, 3, 4, 5, 6, 8] ?_
  refine AWp.cond true (by kernel_rfl) (fun _ => ?_) (fun h => nomatch h)
  refine rG hP hn hm [(4, .c [iI .u16 1])] [(16, iV .i64 3)] [0, 1, 2, 7, 13, 14, 16, 59, 60, 61, 110, 111, 112, 113] [] [0, 1, 2, 3, 4, 5, 6, 8] [(0 : Int) ≤ 0, (0 : Int) < ((([[iI .u16 1]] : List (List Im)).length : Nat) : Int), ([[iI .u16 1]] : List (List Im))[0]? = some [iI .u16 1], (2 : Int) ≠ 0] ⟨by decide, by decide, rfl, by decide, trivial⟩ ?_
  show AWp Γ _ _ _
  refine rG hP hn hm [(10, .rows [[iI .u8 97], [iI .u8 98], [iI .u8 99]]), (11, .call [] [(0, 10)] [] [10] 0 (.own 0) [(0, some (.row 1 5 (([97, 98, 99] : List Int).map (encInt .u8))))]), (14, .k 11), (15, .more (xPutA vkS ([] : List (ByteArray × AVal)) (⟨#[102]⟩ : ByteArray) (.ptr 11 0 0)))] [] [0, 1, 2, 7, 59, 60, 61, 110, 111, 112, 113] [(5, some (.amap [Value.string ⟨#[102]⟩] [.ptr 11 0 0])), (10, some (.row 1 5 [[iI .u8 97], [iI .u8 98], [iI .u8 99]])), (11, some (.box 60 [.own 10, iV .i64 3]))] [0, 1, 2, 3, 4, 5, 6, 8, 10, 11] [(0 : Int) ≤ 0, (0 : Int) ≤ 3, (3 : Int) ≤ (([[iI .u8 97], [iI .u8 98], [iI .u8 99]] : List (List Im)).length : Int), ∀ c ∈ ([[iI .u8 97], [iI .u8 98], [iI .u8 99]] : List (List Im)), c.length = 1, [[iI .u8 97], [iI .u8 98], [iI .u8 99]] = (([[iI .u8 97], [iI .u8 98], [iI .u8 99]] : List (List Im)).drop 0).take (3 - 0), _, _, KeyOK Try.prog 9 vkS, ([] : List Value) = (([] : List (ByteArray × AVal))).map (fun p => vkS p.1), ([] : List AVal) = (([] : List (ByteArray × AVal))).map (·.2), valA (sV (⟨#[102]⟩ : ByteArray)) = some (vkS (⟨#[102]⟩ : ByteArray)), (.ptr 11 0 0 : AVal) = .ptr 11 0 0] ⟨by decide, by decide, by decide, by simp, rfl, Try.call26, f_slices_Clone_byte.ok ([97, 98, 99] : List Int) ([97, 98, 99] : List Int) (by kernel_rfl), key_str (by kernel_rfl), rfl, rfl, rfl, rfl, trivial⟩ ?_
  show ?_
  refine AWp.conv (inv := [(0, 0), (1, 1), (2, 2), (3, 3), (4, 4), (5, 5), (6, 6), (8, 8), (11, 11)]) (vk := [10]) (e0 := []) (t := ⟨[(0, .ptr 0 0 0), (1, .none0), (2, .own 4), (7, .ptr 6 0 0), (59, .own 8), (60, iV .i64 1), (61, iV .i64 0), (110, iV .i64 0), (111, .own 4), (112, iV .i64 1), (113, bV true)], [(0, some (.box 56 [iV .i64 9, .mown 1, .mown 3, iV .i64 (-1), iV .i64 4, bV false])), (1, some (.amap [Value.string ⟨#[102]⟩] [.ptr 2 0 0])), (2, some (.box 60 [.im (.row [[iI .u8 97], [iI .u8 98], [iI .u8 99]]), iV .i64 2])), (3, some (.amap [Value.string ⟨#[102]⟩] [.ptr 2 0 0])), (4, some (.row 1 46 [[iI .u16 1]])), (5, some (.amap [Value.string ⟨#[102]⟩] [.ptr 11 0 0])), (6, some (.box 56 [iV .i64 9, .mown 5, .im (.sc (.map none)), iV .i64 (-1), iV .i64 0, bV false])), (8, some (.row 1 9 [[sI (⟨#[102]⟩ : ByteArray)]])), (11, some (.box 60 [.im (.row [[iI .u8 97], [iI .u8 98], [iI .u8 99]]), iV .i64 3]))], 5⟩) (by kernel_rfl) ?_
  show AWp Γ _ _ _
  refine rO hP hn hm [] [(61, iV .i64 1)] [0, 1, 2, 7, 59, 60, 61, 110, 111, 112, 113] [] [0, 1, 2, 3, 4, 5, 6, 8, 11] ?_
  show LWp Γ _ _ _
  refine LWp.round ?_
  refine sO hP hn hm [] [(62, bV false)] [0, 1, 2, 7, 59, 60, 61, 62, 110, 111, 112, 113] [] [0, 1, 2, 3, 4, 5, 6, 8, 11] ?_
  refine AWp.seq ?_
  refine AWp.cond false (by kernel_rfl) (fun h => nomatch h) (fun _ => ?_)
  refine AWp.exit ?_
  show AWp Γ _ _ _
  refine sR hP hn hm [(5, .callz [(5, 0), (11, 1)] [(0, 5), (1, 11), (2, 12)] [] [12] 2 (.mown 2) [(0, some (.amap [Value.string ⟨#[102]⟩] [.ptr 1 0 0])), (1, some (.box 60 [.im (.row [[iI .u8 97], [iI .u8 98], [iI .u8 99]]), iV .i64 3])), (2, some (.amap [Value.string ⟨#[102]⟩] [.ptr 1 0 0]))])] [] [7] [(6, some (.box 56 [iV .i64 9, .mown 5, .mown 12, iV .i64 (-1), iV .i64 0, bV false])), (12, some (.amap [Value.string ⟨#[102]⟩] [.ptr 11 0 0]))] [0, 1, 2, 3, 4, 5, 6, 11, 12] [_, _] ⟨Try.call27, Fn.mclone (fun b es clock w h => mclone_ok b es clock w h) [Value.string ⟨#[102]⟩] [.ptr 1 0 0] [(1, some (.box 60 [.im (.row [[iI .u8 97], [iI .u8 98], [iI .u8 99]]), iV .i64 3]))] 2 (by decide) (by kernel_rfl) (by kernel_rfl) (fun q o h => by have h2 := look_mem h; simp only [List.mem_cons, List.not_mem_nil, or_false, Prod.mk.injEq, Option.some.injEq] at h2; rcases h2 with ⟨_, rfl⟩ <;> rfl) (by kernel_rfl), trivial⟩ ?_
  refine sO hP hn hm [] [(6, .ptr 6 0 0)] [6] [] [0, 1, 2, 3, 4, 5, 6, 11, 12] ?_
  refine AWp.ret ?_
  exact rl (.inl rfl) rfl (by kernel_rfl) (by kernel_rfl)
theorem cx19_Read : Pv.Fn Try.prog 15 [.ptr 0 0 0, sV (⟨#[102]⟩ : ByteArray)] [(0, some (.box 56 [iV .i64 9, .mown 1, .mown 3, iV .i64 (-1), iV .i64 0, bV false])), (1, some (.amap [Value.string ⟨#[102]⟩] [.ptr 2 0 0])), (2, some (.box 60 [.im (.row [[iI .u8 97], [iI .u8 98], [iI .u8 99]]), iV .i64 3])), (3, some (.amap [Value.string ⟨#[102]⟩] [.ptr 2 0 0]))] 4 (fun x o => x = .tup [.own 4, iV .i64 0] ∧ o = [(0, some (.box 56 [iV .i64 9, .mown 1, .mown 3, iV .i64 (-1), iV .i64 0, bV false])), (1, some (.amap [Value.string ⟨#[102]⟩] [.ptr 2 0 0])), (2, some (.box 60 [.im (.row [[iI .u8 97], [iI .u8 98], [iI .u8 99]]), iV .i64 3])), (3, some (.amap [Value.string ⟨#[102]⟩] [.ptr 2 0 0])), (4, some (.row 1 5 [[iI .u8 97], [iI .u8 98], [iI .u8 99]]))]) := by
  refine Fn.bodyK [0, 1, 2, 3, 4] Try.func15 rfl rfl (fun Γ hP hn => ?_)
  have hm : Try.prog.follows .mixedOrders = true := by kernel_rfl
  replace hn : Γ.n = 32 := hn
  refine sO hP hn hm [] [] [0, 1] [] [0, 1, 2, 3] ?_
  refine AWp.seq ?_
  refine AWp.block ?_
  refine sR hP hn hm [(1, .more (xPtrNil false))] [(6, bV false)] [0, 1, 6] [] [0, 1, 2, 3] [false = false] ⟨rfl, trivial⟩ ?_
  refine AWp.cond false (by kernel_rfl) (fun h => nomatch h) (fun _ => ?_)
  refine sO hP hn hm [] [(9, bV false)] [0, 1, 9] [] [0, 1, 2, 3] ?_
  refine AWp.cond false (by kernel_rfl) (fun h => nomatch h) (fun _ => ?_)
  refine sR hP hn hm [(5, .more (xLookA vkS ([((⟨#[102]⟩ : ByteArray), .ptr 2 0 0)] : List (ByteArray × AVal)) (⟨#[102]⟩ : ByteArray) (.ptr 2 0 0))), (6, .more (xPtrNil false))] [(14, bV false)] [0, 1, 14] [] [0, 1, 2, 3] [KeyOK Try.prog 9 vkS, ([Value.string ⟨#[102]⟩] : List Value) = (([((⟨#[102]⟩ : ByteArray), .ptr 2 0 0)] : List (ByteArray × AVal))).map (fun p => vkS p.1), ([.ptr 2 0 0] : List AVal) = (([((⟨#[102]⟩ : ByteArray), .ptr 2 0 0)] : List (ByteArray × AVal))).map (·.2), valA (sV (⟨#[102]⟩ : ByteArray)) = some (vkS (⟨#[102]⟩ : ByteArray)), (mget ([((⟨#[102]⟩ : ByteArray), .ptr 2 0 0)] : List (ByteArray × AVal)) (⟨#[102]⟩ : ByteArray)).getD (.im (.sc (.pointer none))) = .ptr 2 0 0, false = false] ⟨key_str (by kernel_rfl), rfl, rfl, rfl, by kernel_rfl, rfl, trivial⟩ ?_
  refine AWp.cond false (by kernel_rfl) (fun h => nomatch h) (fun _ => ?_)
  refine AWp.skip ?_
  show AWp Γ _ _ _
  refine sR hP hn hm [(5, .more (xLookA vkS ([((⟨#[102]⟩ : ByteArray), .ptr 2 0 0)] : List (ByteArray × AVal)) (⟨#[102]⟩ : ByteArray) (.ptr 2 0 0))), (9, .call [] [(0, 4)] [] [4] 0 (.own 0) [(0, some (.row 1 5 (([97, 98, 99] : List Int).map (encInt .u8))))])] [(4, .own 4), (5, iV .i64 0)] [4, 5] [(4, some (.row 1 5 [[iI .u8 97], [iI .u8 98], [iI .u8 99]]))] [0, 1, 2, 3, 4] [KeyOK Try.prog 9 vkS, ([Value.string ⟨#[102]⟩] : List Value) = (([((⟨#[102]⟩ : ByteArray), .ptr 2 0 0)] : List (ByteArray × AVal))).map (fun p => vkS p.1), ([.ptr 2 0 0] : List AVal) = (([((⟨#[102]⟩ : ByteArray), .ptr 2 0 0)] : List (ByteArray × AVal))).map (·.2), valA (sV (⟨#[102]⟩ : ByteArray)) = some (vkS (⟨#[102]⟩ : ByteArray)), (mget ([((⟨#[102]⟩ : ByteArray), .ptr 2 0 0)] : List (ByteArray × AVal)) (⟨#[102]⟩ : ByteArray)).getD (.im (.sc (.pointer none))) = .ptr 2 0 0, _, _] ⟨key_str (by kernel_rfl), rfl, rfl, rfl, by kernel_rfl, Try.call26, f_slices_Clone_byte.ok ([97, 98, 99] : List Int) ([97, 98, 99] : List Int) (by kernel_rfl), trivial⟩ ?_
  refine AWp.ret ?_
  exact rl (.inl rfl) rfl (by kernel_rfl) (by kernel_rfl)
theorem cx20_awake : Pv.Fn Try.prog 7 [] [] 0 (fun x o => x = bV true ∧ o = []) := by
  refine Fn.bodyK [] Try.func7 rfl rfl (fun Γ hP hn => ?_)
  have hm : Try.prog.follows .mixedOrders = true := by kernel_rfl
  replace hn : Γ.n = 58 := hn
  refine sO hP hn hm [] [] [] [] [] ?_
  refine sR hP hn hm [(0, .callz [] [(0, 0), (1, 1), (2, 2)] [] [0, 1, 2] 0 (.tup [.ptr 2 0 0, iV .i64 0]) [(0, some (.amap [] [])), (1, some (.amap [] [])), (2, some (.box 56 [iV .i64 9, .mown 0, .mown 1, iV .i64 (-1), iV .i64 0, bV false]))])] [(1, .ptr 2 0 0), (2, iV .i64 0)] [1, 2] [(0, some (.amap [] [])), (1, some (.amap [] [])), (2, some (.box 56 [iV .i64 9, .mown 0, .mown 1, iV .i64 (-1), iV .i64 0, bV false]))] [0, 1, 2] [_, _] ⟨Try.call6, cx3_New, trivial⟩ ?_
  refine AWp.seq ?_
  refine sR hP hn hm [(1, .more (xPtrNil false))] [(16, bV false)] [1, 16] [] [0, 1, 2] [false = false] ⟨rfl, trivial⟩ ?_
  refine AWp.cond false (by kernel_rfl) (fun h => nomatch h) (fun _ => ?_)
  refine AWp.skip ?_
  show AWp Γ _ _ _
  refine sR hP hn hm [(1, .k 3), (2, .more xMark), (3, .callz [(2, 0), (0, 1), (1, 2)] [(0, 2), (1, 0), (2, 1), (3, 4)] [] [4] 3 (iV .i64 0) [(0, some (.box 56 [iV .i64 9, .mown 1, .mown 2, iV .i64 (-1), iV .i64 1, bV false])), (1, some (.amap [Value.string ⟨#[102]⟩] [.ptr 3 0 0])), (2, some (.amap [] [])), (3, some (.box 60 [.im (.row [[iI .u8 97], [iI .u8 98]]), iV .i64 0]))])] [] [1] [(0, some (.amap [Value.string ⟨#[102]⟩] [.ptr 4 0 0])), (2, some (.box 56 [iV .i64 9, .mown 0, .mown 1, iV .i64 (-1), iV .i64 1, bV false])), (4, some (.box 60 [.im (.row [[iI .u8 97], [iI .u8 98]]), iV .i64 0]))] [0, 1, 2, 4] [_, _] ⟨Try.call8, cx7_Append, trivial⟩ ?_
  refine sR hP hn hm [(1, .callz [(2, 0), (0, 1), (4, 2), (1, 3)] [(0, 2), (1, 0), (2, 4), (3, 1)] [] [] 4 (iV .i64 0) [(0, some (.box 56 [iV .i64 9, .mown 1, .mown 3, iV .i64 (-1), iV .i64 2, bV false])), (1, some (.amap [Value.string ⟨#[102]⟩] [.ptr 2 0 0])), (2, some (.box 60 [.im (.row [[iI .u8 97], [iI .u8 98]]), iV .i64 2])), (3, some (.amap [] []))])] [] [1] [(2, some (.box 56 [iV .i64 9, .mown 0, .mown 1, iV .i64 (-1), iV .i64 2, bV false])), (4, some (.box 60 [.im (.row [[iI .u8 97], [iI .u8 98]]), iV .i64 2]))] [0, 1, 2, 4] [_, _] ⟨Try.call9, cx9_Sync, trivial⟩ ?_
  refine sR hP hn hm [(1, .callz [(2, 0), (0, 1), (4, 2), (1, 3)] [(0, 2), (1, 0), (2, 4), (3, 1), (4, 5)] [] [5] 4 (iV .i64 0) [(0, some (.box 56 [iV .i64 9, .mown 1, .mown 4, iV .i64 (-1), iV .i64 3, bV false])), (1, some (.amap [Value.string ⟨#[102]⟩] [.ptr 2 0 0])), (2, some (.box 60 [.im (.row [[iI .u8 97], [iI .u8 98]]), iV .i64 2])), (3, some (.amap [] [])), (4, some (.amap [Value.string ⟨#[102]⟩] [.ptr 2 0 0]))])] [] [1] [(2, some (.box 56 [iV .i64 9, .mown 0, .mown 5, iV .i64 (-1), iV .i64 3, bV false])), (5, some (.amap [Value.string ⟨#[102]⟩] [.ptr 4 0 0]))] [0, 2, 4, 5] [_, _] ⟨Try.call10, cx11_SyncNames, trivial⟩ ?_
  refine sR hP hn hm [(1, .k 6), (2, .more xMark), (3, .callz [(2, 0), (0, 1), (4, 2), (5, 3)] [(0, 2), (1, 0), (2, 4), (3, 5)] [] [] 4 (iV .i64 0) [(0, some (.box 56 [iV .i64 9, .mown 1, .mown 3, iV .i64 (-1), iV .i64 4, bV false])), (1, some (.amap [Value.string ⟨#[102]⟩] [.ptr 2 0 0])), (2, some (.box 60 [.im (.row [[iI .u8 97], [iI .u8 98], [iI .u8 99]]), iV .i64 2])), (3, some (.amap [Value.string ⟨#[102]⟩] [.ptr 2 0 0]))])] [] [1] [(2, some (.box 56 [iV .i64 9, .mown 0, .mown 5, iV .i64 (-1), iV .i64 4, bV false])), (4, some (.box 60 [.im (.row [[iI .u8 97], [iI .u8 98], [iI .u8 99]]), iV .i64 2]))] [0, 2, 4, 5] [_, _] ⟨Try.call8, cx14_Append, trivial⟩ ?_
  refine sR hP hn hm [(1, .callz [(2, 0), (0, 1), (4, 2), (5, 3)] [(0, 2), (1, 0), (2, 4), (3, 5), (4, 7), (5, 8), (10, 9), (11, 10)] [] [7, 8, 9, 10] 4 (.ptr 5 0 0) [(0, some (.box 56 [iV .i64 9, .mown 1, .mown 3, iV .i64 (-1), iV .i64 4, bV false])), (1, some (.amap [Value.string ⟨#[102]⟩] [.ptr 2 0 0])), (2, some (.box 60 [.im (.row [[iI .u8 97], [iI .u8 98], [iI .u8 99]]), iV .i64 2])), (3, some (.amap [Value.string ⟨#[102]⟩] [.ptr 2 0 0])), (4, some (.amap [Value.string ⟨#[102]⟩] [.ptr 10 0 0])), (5, some (.box 56 [iV .i64 9, .mown 4, .mown 11, iV .i64 (-1), iV .i64 0, bV false])), (10, some (.box 60 [.im (.row [[iI .u8 97], [iI .u8 98]]), iV .i64 2])), (11, some (.amap [Value.string ⟨#[102]⟩] [.ptr 10 0 0]))]), (2, .callz [(8, 0), (7, 1), (9, 2), (10, 3)] [(0, 8), (1, 7), (2, 9), (3, 10), (4, 11)] [] [11] 4 (.tup [.own 4, iV .i64 0]) [(0, some (.box 56 [iV .i64 9, .mown 1, .mown 3, iV .i64 (-1), iV .i64 0, bV false])), (1, some (.amap [Value.string ⟨#[102]⟩] [.ptr 2 0 0])), (2, some (.box 60 [.im (.row [[iI .u8 97], [iI .u8 98]]), iV .i64 2])), (3, some (.amap [Value.string ⟨#[102]⟩] [.ptr 2 0 0])), (4, some (.row 1 5 [[iI .u8 97], [iI .u8 98]]))])] [(3, .own 11), (4, iV .i64 0)] [1, 3, 4] [(11, some (.row 1 5 [[iI .u8 97], [iI .u8 98]]))] [0, 2, 4, 5, 11] [_, _, _, _] ⟨Try.call14, cx16_Crash, Try.call15, cx17_Read, trivial⟩ ?_
  refine sR hP hn hm [(1, .k 12), (2, .callz [(2, 0), (0, 1), (4, 2), (5, 3), (12, 4)] [(0, 2), (1, 0), (2, 4), (3, 5), (4, 12), (5, 13), (6, 14), (11, 15), (12, 16)] [] [13, 14, 15, 16] 5 (.ptr 6 0 0) [(0, some (.box 56 [iV .i64 9, .mown 1, .mown 3, iV .i64 (-1), iV .i64 4, bV false])), (1, some (.amap [Value.string ⟨#[102]⟩] [.ptr 2 0 0])), (2, some (.box 60 [.im (.row [[iI .u8 97], [iI .u8 98], [iI .u8 99]]), iV .i64 2])), (3, some (.amap [Value.string ⟨#[102]⟩] [.ptr 2 0 0])), (4, some (.row 1 46 [[iI .u16 1]])), (5, some (.amap [Value.string ⟨#[102]⟩] [.ptr 11 0 0])), (6, some (.box 56 [iV .i64 9, .mown 5, .mown 12, iV .i64 (-1), iV .i64 0, bV false])), (11, some (.box 60 [.im (.row [[iI .u8 97], [iI .u8 98], [iI .u8 99]]), iV .i64 3])), (12, some (.amap [Value.string ⟨#[102]⟩] [.ptr 11 0 0]))]), (3, .callz [(14, 0), (13, 1), (15, 2), (16, 3)] [(0, 14), (1, 13), (2, 15), (3, 16), (4, 17)] [] [17] 4 (.tup [.own 4, iV .i64 0]) [(0, some (.box 56 [iV .i64 9, .mown 1, .mown 3, iV .i64 (-1), iV .i64 0, bV false])), (1, some (.amap [Value.string ⟨#[102]⟩] [.ptr 2 0 0])), (2, some (.box 60 [.im (.row [[iI .u8 97], [iI .u8 98], [iI .u8 99]]), iV .i64 3])), (3, some (.amap [Value.string ⟨#[102]⟩] [.ptr 2 0 0])), (4, some (.row 1 5 [[iI .u8 97], [iI .u8 98], [iI .u8 99]]))])] [(5, .own 17), (6, iV .i64 0)] [3, 4, 5, 6] [(17, some (.row 1 5 [[iI .u8 97], [iI .u8 98], [iI .u8 99]]))] [11, 17] [_, _, _, _] ⟨Try.call14, cx18_Crash, Try.call15, cx19_Read, trivial⟩ ?_
  refine sR hP hn hm [(8, .more (xStr ([97, 98] : List Int))), (13, .more (xStr ([97, 98, 99] : List Int)))] [(0, bV true)] [0] [] [] [[[iI .u8 97], [iI .u8 98]] = ([97, 98] : List Int).map (encInt .u8), [[iI .u8 97], [iI .u8 98], [iI .u8 99]] = ([97, 98, 99] : List Int).map (encInt .u8)] ⟨rfl, rfl, trivial⟩ ?_
  refine AWp.ret ?_
  exact rl (.inl rfl) rfl (by kernel_rfl) (by kernel_rfl)
theorem cx21_step : Pv.Fn Try.prog 24 [.im (.sc (.pointer none))] [] 0 (fun x o => x = iV .i64 2 ∧ o = []) := by
  refine Fn.bodyK [] Try.func24 rfl rfl (fun Γ hP hn => ?_)
  have hm : Try.prog.follows .mixedOrders = true := by kernel_rfl
  replace hn : Γ.n = 39 := hn
  refine sO hP hn hm [] [] [0] [] [] ?_
  refine AWp.seq ?_
  refine AWp.block ?_
  refine sR hP hn hm [(1, .more (xPtrNil true))] [(3, bV true)] [0, 3] [] [] [true = true] ⟨rfl, trivial⟩ ?_
  refine AWp.cond true (by kernel_rfl) (fun _ => ?_) (fun h => nomatch h)
  refine sO hP hn hm [] [(2, iV .i64 2)] [2] [] [] ?_
  refine AWp.ret ?_
  exact rl (.inl rfl) rfl (by kernel_rfl) (by kernel_rfl)
theorem cx22_Append (a0 : ByteArray) : Pv.Fn Try.prog 8 [.im (.sc (.pointer none)), sV a0, .none0] [] 0 (fun x o => x = iV .i64 2 ∧ o = []) := by
  refine Fn.bodyK [] Try.func8 rfl rfl (fun Γ hP hn => ?_)
  have hm : Try.prog.follows .mixedOrders = true := by kernel_rfl
  replace hn : Γ.n = 68 := hn
  refine sO hP hn hm [] [] [0, 1, 2] [] [] ?_
  refine AWp.seq ?_
  refine sR hP hn hm [(1, .callz [] [] [] [] 0 (iV .i64 2) [])] [(7, iV .i64 2)] [0, 1, 2, 7] [] [] [_, _] ⟨Try.call24, cx21_step, trivial⟩ ?_
  refine sO hP hn hm [] [(12, bV true)] [0, 1, 2, 7, 12] [] [] ?_
  refine AWp.cond true (by kernel_rfl) (fun _ => ?_) (fun h => nomatch h)
  refine sO hP hn hm [] [(6, iV .i64 2)] [6] [] [] ?_
  refine AWp.ret ?_
  exact rl (.inl rfl) rfl (by kernel_rfl) (by kernel_rfl)
theorem cx23_Sync (a0 : ByteArray) : Pv.Fn Try.prog 9 [.im (.sc (.pointer none)), sV a0] [] 0 (fun x o => x = iV .i64 2 ∧ o = []) := by
  refine Fn.bodyK [] Try.func9 rfl rfl (fun Γ hP hn => ?_)
  have hm : Try.prog.follows .mixedOrders = true := by kernel_rfl
  replace hn : Γ.n = 28 := hn
  refine sO hP hn hm [] [] [0, 1] [] [] ?_
  refine AWp.seq ?_
  refine sR hP hn hm [(1, .callz [] [] [] [] 0 (iV .i64 2) [])] [(5, iV .i64 2)] [0, 1, 5] [] [] [_, _] ⟨Try.call24, cx21_step, trivial⟩ ?_
  refine sO hP hn hm [] [(10, bV true)] [0, 1, 5, 10] [] [] ?_
  refine AWp.cond true (by kernel_rfl) (fun _ => ?_) (fun h => nomatch h)
  refine sO hP hn hm [] [(4, iV .i64 2)] [4] [] [] ?_
  refine AWp.ret ?_
  exact rl (.inl rfl) rfl (by kernel_rfl) (by kernel_rfl)
theorem cx24_Rename (a0 : ByteArray) : Pv.Fn Try.prog 20 [.im (.sc (.pointer none)), sV a0, sV a0] [] 0 (fun x o => x = iV .i64 2 ∧ o = []) := by
  refine Fn.bodyK [] Try.func20 rfl rfl (fun Γ hP hn => ?_)
  have hm : Try.prog.follows .mixedOrders = true := by kernel_rfl
  replace hn : Γ.n = 38 := hn
  refine sO hP hn hm [] [] [0, 1, 2] [] [] ?_
  refine AWp.seq ?_
  refine sR hP hn hm [(1, .callz [] [] [] [] 0 (iV .i64 2) [])] [(7, iV .i64 2)] [0, 1, 2, 7] [] [] [_, _] ⟨Try.call24, cx21_step, trivial⟩ ?_
  refine sO hP hn hm [] [(12, bV true)] [0, 1, 2, 7, 12] [] [] ?_
  refine AWp.cond true (by kernel_rfl) (fun _ => ?_) (fun h => nomatch h)
  refine sO hP hn hm [] [(6, iV .i64 2)] [6] [] [] ?_
  refine AWp.ret ?_
  exact rl (.inl rfl) rfl (by kernel_rfl) (by kernel_rfl)
theorem cx25_Remove (a0 : ByteArray) : Pv.Fn Try.prog 21 [.im (.sc (.pointer none)), sV a0] [] 0 (fun x o => x = iV .i64 2 ∧ o = []) := by
  refine Fn.bodyK [] Try.func21 rfl rfl (fun Γ hP hn => ?_)
  have hm : Try.prog.follows .mixedOrders = true := by kernel_rfl
  replace hn : Γ.n = 23 := hn
  refine sO hP hn hm [] [] [0, 1] [] [] ?_
  refine AWp.seq ?_
  refine sR hP hn hm [(1, .callz [] [] [] [] 0 (iV .i64 2) [])] [(5, iV .i64 2)] [0, 1, 5] [] [] [_, _] ⟨Try.call24, cx21_step, trivial⟩ ?_
  refine sO hP hn hm [] [(9, bV true)] [0, 1, 5, 9] [] [] ?_
  refine AWp.cond true (by kernel_rfl) (fun _ => ?_) (fun h => nomatch h)
  refine sO hP hn hm [] [(4, iV .i64 2)] [4] [] [] ?_
  refine AWp.ret ?_
  exact rl (.inl rfl) rfl (by kernel_rfl) (by kernel_rfl)
theorem cx26_SyncNames : Pv.Fn Try.prog 10 [.im (.sc (.pointer none))] [] 0 (fun x o => x = iV .i64 2 ∧ o = []) := by
  refine Fn.bodyK [] Try.func10 rfl rfl (fun Γ hP hn => ?_)
  have hm : Try.prog.follows .mixedOrders = true := by kernel_rfl
  replace hn : Γ.n = 17 := hn
  refine sO hP hn hm [] [] [0] [] [] ?_
  refine AWp.seq ?_
  refine sR hP hn hm [(1, .callz [] [] [] [] 0 (iV .i64 2) [])] [(3, iV .i64 2)] [0, 3] [] [] [_, _] ⟨Try.call24, cx21_step, trivial⟩ ?_
  refine sO hP hn hm [] [(7, bV true)] [0, 3, 7] [] [] ?_
  refine AWp.cond true (by kernel_rfl) (fun _ => ?_) (fun h => nomatch h)
  refine sO hP hn hm [] [(2, iV .i64 2)] [2] [] [] ?_
  refine AWp.ret ?_
  exact rl (.inl rfl) rfl (by kernel_rfl) (by kernel_rfl)
theorem cx27_Used : Pv.Fn Try.prog 22 [.im (.sc (.pointer none))] [] 0 (fun x o => x = iV .i64 0 ∧ o = []) := by
  refine Fn.bodyK [] Try.func22 rfl rfl (fun Γ hP hn => ?_)
  have hm : Try.prog.follows .mixedOrders = true := by kernel_rfl
  replace hn : Γ.n = 25 := hn
  refine sO hP hn hm [] [] [0] [] [] ?_
  refine AWp.seq ?_
  refine sR hP hn hm [(1, .more (xPtrNil true))] [(7, bV true)] [0, 7] [] [] [true = true] ⟨rfl, trivial⟩ ?_
  refine AWp.cond true (by kernel_rfl) (fun _ => ?_) (fun h => nomatch h)
  refine sO hP hn hm [] [(2, iV .i64 0)] [2] [] [] ?_
  refine AWp.ret ?_
  exact rl (.inl rfl) rfl (by kernel_rfl) (by kernel_rfl)
theorem cx28_Names : Pv.Fn Try.prog 17 [.im (.sc (.pointer none))] [] 0 (fun x o => x = .none0 ∧ o = []) := by
  refine Fn.bodyK [] Try.func17 rfl rfl (fun Γ hP hn => ?_)
  have hm : Try.prog.follows .mixedOrders = true := by kernel_rfl
  replace hn : Γ.n = 17 := hn
  refine sO hP hn hm [] [] [0] [] [] ?_
  refine AWp.seq ?_
  refine sR hP hn hm [(1, .more (xPtrNil true))] [(10, bV true)] [0, 10] [] [] [true = true] ⟨rfl, trivial⟩ ?_
  refine AWp.cond true (by kernel_rfl) (fun _ => ?_) (fun h => nomatch h)
  refine sO hP hn hm [] [(2, .none0)] [2] [] [] ?_
  refine AWp.ret ?_
  exact rl (.inl rfl) rfl (by kernel_rfl) (by kernel_rfl)
theorem cx29_Down : Pv.Fn Try.prog 18 [.im (.sc (.pointer none))] [] 0 (fun x o => x = bV false ∧ o = []) := by
  refine Fn.bodyK [] Try.func18 rfl rfl (fun Γ hP hn => ?_)
  have hm : Try.prog.follows .mixedOrders = true := by kernel_rfl
  replace hn : Γ.n = 11 := hn
  refine sO hP hn hm [] [] [0] [] [] ?_
  refine sR hP hn hm [(1, .more (xPtrNil false))] [(2, bV false)] [2] [] [] [false = !true] ⟨rfl, trivial⟩ ?_
  refine AWp.ret ?_
  exact rl (.inl rfl) rfl (by kernel_rfl) (by kernel_rfl)
theorem cx30_Steps : Pv.Fn Try.prog 19 [.im (.sc (.pointer none))] [] 0 (fun x o => x = iV .i64 0 ∧ o = []) := by
  refine Fn.bodyK [] Try.func19 rfl rfl (fun Γ hP hn => ?_)
  have hm : Try.prog.follows .mixedOrders = true := by kernel_rfl
  replace hn : Γ.n = 9 := hn
  refine sO hP hn hm [] [] [0] [] [] ?_
  refine AWp.seq ?_
  refine sR hP hn hm [(1, .more (xPtrNil true))] [(4, bV true)] [0, 4] [] [] [true = true] ⟨rfl, trivial⟩ ?_
  refine AWp.cond true (by kernel_rfl) (fun _ => ?_) (fun h => nomatch h)
  refine sO hP hn hm [] [(2, iV .i64 0)] [2] [] [] ?_
  refine AWp.ret ?_
  exact rl (.inl rfl) rfl (by kernel_rfl) (by kernel_rfl)
theorem cx31_Crash : Pv.Fn Try.prog 14 [.im (.sc (.pointer none)), .none0, .none0] [] 0 (fun x o => x = .im (.sc (.pointer none)) ∧ o = []) := by
  refine Fn.bodyK [] Try.func14 rfl rfl (fun Γ hP hn => ?_)
  have hm : Try.prog.follows .mixedOrders = true := by kernel_rfl
  replace hn : Γ.n = 150 := hn
  refine sO hP hn hm [] [] [0, 1, 2] [] [] ?_
  refine AWp.seq ?_
  refine sR hP hn hm [(1, .more (xPtrNil true))] [(19, bV true)] [0, 1, 2, 19] [] [] [true = true] ⟨rfl, trivial⟩ ?_
  refine AWp.cond true (by kernel_rfl) (fun _ => ?_) (fun h => nomatch h)
  refine sO hP hn hm [] [(6, .im (.sc (.pointer none)))] [6] [] [] ?_
  refine AWp.ret ?_
  exact rl (.inl rfl) rfl (by kernel_rfl) (by kernel_rfl)
theorem cx32_Twin : Pv.Fn Try.prog 23 [.im (.sc (.pointer none))] [] 0 (fun x o => x = .im (.sc (.pointer none)) ∧ o = []) := by
  refine Fn.bodyK [] Try.func23 rfl rfl (fun Γ hP hn => ?_)
  have hm : Try.prog.follows .mixedOrders = true := by kernel_rfl
  replace hn : Γ.n = 27 := hn
  refine sO hP hn hm [] [] [0] [] [] ?_
  refine AWp.seq ?_
  refine sR hP hn hm [(1, .more (xPtrNil true))] [(7, bV true)] [0, 7] [] [] [true = true] ⟨rfl, trivial⟩ ?_
  refine AWp.cond true (by kernel_rfl) (fun _ => ?_) (fun h => nomatch h)
  refine sO hP hn hm [] [(2, .im (.sc (.pointer none)))] [2] [] [] ?_
  refine AWp.ret ?_
  exact rl (.inl rfl) rfl (by kernel_rfl) (by kernel_rfl)
theorem cx33_DiskNil (a0 : ByteArray) (a1 : Int) : Pv.Fn Try.prog 5 [sV a0, iV .i64 a1] [] 0 (fun x o => x = bV true ∧ o = []) := by
  refine Fn.bodyK [] Try.func5 rfl rfl (fun Γ hP hn => ?_)
  have hm : Try.prog.follows .mixedOrders = true := by kernel_rfl
  replace hn : Γ.n = 83 := hn
  refine sO hP hn hm [] [] [0, 1] [] [] ?_
  refine sO hP hn hm [] [(5, .im (.sc (.pointer none)))] [0, 1, 5] [] [] ?_
  refine sR hP hn hm [(2, .callz [] [] [] [] 0 (.tup []) [])] [] [0, 5] [] [] [_, _] ⟨Try.call11, (cx1_Fuse a1), trivial⟩ ?_
  refine sR hP hn hm [(2, .callz [] [] [] [] 0 (.tup [.none0, iV .i64 2]) [])] [(7, iV .i64 2)] [0, 5, 7] [] [] [_, _] ⟨Try.call15, (cx2_Read a0), trivial⟩ ?_
  refine sR hP hn hm [(0, .callz [] [] [] [] 0 (bV true) []), (4, .callz [] [] [] [] 0 (iV .i64 2) []), (10, .callz [] [] [] [] 0 (iV .i64 2) []), (17, .callz [] [] [] [] 0 (iV .i64 2) []), (23, .callz [] [] [] [] 0 (iV .i64 2) []), (28, .callz [] [] [] [] 0 (iV .i64 2) []), (37, .callz [] [] [] [] 0 (iV .i64 0) []), (42, .callz [] [] [] [] 0 (.none0) []), (48, .callz [] [] [] [] 0 (bV false) []), (53, .callz [] [] [] [] 0 (iV .i64 0) []), (58, .callz [] [] [] [] 0 (.im (.sc (.pointer none))) []), (59, .more (xPtrNil true)), (63, .callz [] [] [] [] 0 (.im (.sc (.pointer none))) []), (64, .more (xPtrNil true))] [(4, bV true)] [4] [] [] [_, _, _, _, _, _, _, _, _, _, _, _, _, _, _, _, _, _, _, _, _, _, true = true, _, _, true = true] ⟨Try.call7, cx20_awake, Try.call8, (cx22_Append a0), Try.call9, (cx23_Sync a0), Try.call20, (cx24_Rename a0), Try.call21, (cx25_Remove a0), Try.call10, cx26_SyncNames, Try.call22, cx27_Used, Try.call17, cx28_Names, Try.call18, cx29_Down, Try.call19, cx30_Steps, Try.call14, cx31_Crash, rfl, Try.call23, cx32_Twin, rfl, trivial⟩ ?_
  refine AWp.ret ?_
  exact rl (.inl rfl) rfl (by kernel_rfl) (by kernel_rfl)
def f_pluviallaw13_DiskNil.f (a0 : ByteArray) (a1 : Int) : Option Bool := some true
theorem f_pluviallaw13_DiskNil.ok (a0 : ByteArray) (a1 : Int) (r : Bool) (H : f_pluviallaw13_DiskNil.f a0 a1 = some r) : Pv.Fn Try.prog 5 [sV a0, iV .i64 a1] [] 0 (fun x o => x = bV r ∧ o = []) := by
  obtain rfl := sj H
  exact (cx33_DiskNil a0 a1)
end Go.Proofs.Ytejakiofcmlohaa.PvGN
