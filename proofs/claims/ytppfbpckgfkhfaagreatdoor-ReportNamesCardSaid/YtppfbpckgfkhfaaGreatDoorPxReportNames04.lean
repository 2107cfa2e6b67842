import Derived.Deep.Draws
import Derived.Laws.MakeOwn
import Derived.Lib.LaidTab
import Derived.Lib.MakeNoZero
import Derived.Maps.RangeRun
import Derived.Maps.RangeWalk
import Derived.Sort.Grow
import Derived.Sort.OwnSorted
import Derived.Test.YtppfbpckgfkhfaaGreatDoorPxReportNames03
set_option linter.unusedVariables false
set_option linter.unusedSimpArgs false
namespace Go.Pv
def xCapNil : Ext where
  f P o s := match o.op with
    | .call { callee := .builtin .cap, args := ⟨[x]⟩, argTypes := ts } => match ts[0]? with
      | some t => match P.underlying t, s.eval x with
        | some (.slice _), .none0 => some ⟨[], [], .im (.sc (.int .i64 0)), [], []⟩
        | _, _ => none
      | none => none
    | _ => none
  ok P o s e he hp := by
    split at he
    · rename_i x ts ho
      split at he
      · rename_i t hts
        split at he
        · rename_i el ht hx
          obtain rfl := Option.some.inj he
          refine .quiet rfl fun Γ κ I s2 a w hP hrel hn => ?_
          have g1 := opd hrel hn x (by simp [ho, Op.operands, Call.operands]) hx
          obtain ⟨base, e⟩ := none0_inv g1
          refine ⟨.int .i64 0, ?_, .im (.sc _)⟩
          simp [execOp, ho, resolve, invoke, builtin, e, Builtin.cap_, hts, run_underlying' ht, goInt]
        · simp at he
      · simp at he
    · simp at he
end Go.Pv
set_option linter.unusedVariables false
set_option linter.unusedSimpArgs false
namespace Go.Pv
theorem x_makeNoZero {P : Program} {g : FuncId} {fn : Func} (hf : P.funcs[g]? = some fn) (hname : (fn.name == "runtime.NumGoroutine") = false) (hb : fn.body.isNone = true) (hn : Extern.findNext fn = none) {ps : Array TypeId} {t e : TypeId}
    (he : Extern.find fn = some (Extern.BytealgMakeNoZero.makeNoZero ps #[t])) (ht : P.underlying t = some (.slice e)) (w : World) (n : Nat) (h : n ≤ 281474976710656) :
    ∃ cs : Array Value, (callFunc g #[.int .i64 (n : Int)]).run P w = .ok (.value (.slice (some ⟨w.heap.size, 0, none⟩) n cs.size)) (World.alloc' w.drew.drew (.cells cs e)) ∧ n ≤ cs.size := by
  obtain ⟨cs, h1, h2, _⟩ := Lib.run_makeNoZero (P := P) w ps t e ht n h
  refine ⟨cs, ?_, h2⟩
  rw [run_callFunc_extern hf hname hb hn he, h1]
  rfl
def xNoZero (g k el : Nat) : Ext where
  f P o s := match o.op with
    | .call { callee := .value fo, args := ⟨[x]⟩, argTypes := ts } => match s.eval fo, s.eval x with
      | .im (.sc (.func (.func g') ⟨[]⟩ ⟨[]⟩)), .im (.sc (.int .i64 n)) => match Nat.beq g g' with
        | true => some ⟨[], [k], .cut k 0 n.toNat, [(k, some (.row 1 el []))], [0 ≤ n, n ≤ 281474976710656, ∀ (w : World) (n : Nat), n ≤ 281474976710656 → ∃ cs : Array Value, (callFunc g #[.int .i64 (n : Int)]).run P w = .ok (.value (.slice (some ⟨w.heap.size, 0, none⟩) n cs.size)) (World.alloc' w.drew.drew (.cells cs el)) ∧ n ≤ cs.size]⟩
        | false => none
      | _, _ => none
    | _ => none
  ok P o s e he hp := by
    split at he
    · rename_i fo x ts ho
      split at he
      · rename_i g' n hfo hx
        split at he
        · rename_i hb
          obtain rfl := Nat.eq_of_beq_eq_true hb
          obtain rfl := Option.some.inj he
          obtain ⟨p1, p2, p3, _⟩ := hp
          refine .of fun Γ κ I s2 a w hP hr hn hf => ?_
          have hfk := hf k (by simp [mkSp])
          have h1 := (opd hr hn fo (by simp [ho, Op.operands, Call.operands]) hfo).sc_inv
          have h2 := (opd hr hn x (by simp [ho, Op.operands, Call.operands]) hx).sc_inv
          obtain ⟨m, rfl⟩ : ∃ m : Nat, n = (m : Int) := ⟨n.toNat, by omega⟩
          simp only [Int.toNat_natCast] at *
          obtain ⟨cs, hrun, hle⟩ := p3 w m (by omega)
          have hdrew1 : Inv Γ κ I s2 w.drew := by
            refine ⟨fun k o hk => ?_, hr.inv.inj, hr.inv.disj, hr.inv.bound, ⟨hr.inv.keep.os, hr.inv.keep.tape, hr.inv.keep.output, hr.inv.keep.size, hr.inv.keep.block⟩, hr.inv.ikeep, hr.inv.fromI, hr.inv.fromO, hr.inv.fix⟩
            have := hr.inv.objs k o hk
            unfold OAt at this ⊢
            split
            · rename_i e'; rw [e'] at this; exact this
            · rename_i ki' e'; rw [e'] at this; exact this.mono (fun _ h => h) (fun _ _ => rfl) rfl (fun _ _ => rfl)
          have hdrew : Inv Γ κ I s2 w.drew.drew := by
            refine ⟨fun k o hk => ?_, hdrew1.inj, hdrew1.disj, hdrew1.bound, ⟨hdrew1.keep.os, hdrew1.keep.tape, hdrew1.keep.output, hdrew1.keep.size, hdrew1.keep.block⟩, hdrew1.ikeep, hdrew1.fromI, hdrew1.fromO, hdrew1.fix⟩
            have := hdrew1.objs k o hk
            unfold OAt at this ⊢
            split
            · rename_i e'; rw [e'] at this; exact this
            · rename_i ki' e'; rw [e'] at this; exact this.mono (fun _ h => h) (fun _ _ => rfl) rfl (fun _ _ => rfl)
          let ki : KI := ⟨w.drew.drew.heap.size, cs.size, 1, 0⟩
          let ob : Obj := .cells cs el
          have hO : ORep (World.alloc' w.drew.drew ob) I (setK κ k (some ki)) ki (.row 1 el []) :=
            ⟨rfl, rfl, Nat.zero_le _, cs, alloc_new _ _, by simp [ki], fun i hi => by simp at hi⟩
          obtain ⟨f1, f2, f3⟩ := hdrew.alloc hfk (ki := ki) rfl hO
          refine ⟨.slice (some ⟨w.heap.size, 0, none⟩) m cs.size, _, _, _, I, .inl rfl, ?_, f1, fun _ h => h, f2, f3, ?_⟩
          · simp only [execOp, ho, resolve, h1, h2, Deferred.ofValue, Sem.run_bind, Sem.run_pure, Result.andThen_ok, invoke]
            have := hrun
            simp [this, h2]
            try rfl
          · have := Rep.cut (w := World.alloc' w.drew.drew ob) (I := I) (κ := setK κ k (some ki)) (k := k) (lo := 0) (n := m) (off := 0) (ki := ki) (setK_self ..) (.inl (by simp)) (by simp [ki]; exact hle)
            exact this
        · simp at he
      · simp at he
    · simp at he
def xCut0 : Ext where
  f P o s := match o.op with
    | .slice t x none hi none => match elemP P t, s.eval x with
      | some (e, sz), .cut k 0 n => match s.obj k with
        | some (.row sz' el []) => match optN s hi n with
          | some u => some ⟨[k], [], .own k, [], [u = 0, 0 < n]⟩
          | none => none
        | _ => none
      | _, _ => none
    | _ => none
  ok P o s e he hp := by
    split at he
    · rename_i t x hi ho
      split at he
      · rename_i e' sz k n hel hx
        split at he
        · rename_i sz' el hk
          split at he
          · rename_i u hu
            obtain rfl := Option.some.inj he
            obtain ⟨rfl, hn0, _⟩ := hp
            obtain ⟨hun, ag, hag⟩ := elemP_inv hel
            refine .quiet rfl fun Γ κ I s2 a w hP hrel hn => ?_
            obtain ⟨m1, m2, m3⟩ := cut_opds (s := s) ho
            have g1 := opd hrel hn x m1 hx
            have q1 : optV ((none : Option Operand).map a.eval) 0 0 := optA_rep hrel hn m2 (show optA s none 0 0 from rfl)
            have q2 := optA_rep hrel hn m3 (optN_A hu)
            have hk2 := (needs_obj hn k (by simp)).trans hk
            have hO := hrel.inv.objs k _ hk2
            generalize ha : a.eval x = v at g1
            cases g1 with
            | cut0 base eκ =>
              have hb := run_sliceBounds (P := P) (isSlice := true) (len := 0) (cap := 0) q1 q2 (Int.le_refl 0) (Int.le_refl 0) (by omega) w
              refine ⟨.slice base 0 0, ?_, .own0 base eκ⟩
              rw [Option.map_none] at hb
              simp only [Int.toNat_zero] at hb
              simp [execOp, ho, ha, Instr.sliceAt, run_underlying' hun, Instr.slice, hb, run_sizeOf' hag]
              try cases base <;> simp [Addr.add]
            | @cut _ _ _ off ki eκ h1 h2 =>
              simp only [OAt, eκ] at hO
              obtain ⟨o1, o2, o3, arr, o4, o5, o6⟩ := hO
              have hb := run_sliceBounds (P := P) (isSlice := true) (len := n) (cap := ki.cap - 0) q1 q2 (Int.le_refl 0) (Int.le_refl 0) (by omega) w
              have hlen : ki.len = 0 := by simpa using o2
              have hoff : off = 0 := by
                rcases h1 with h1 | h1
                · simpa using h1
                · omega
              subst hoff
              refine ⟨.slice (some ⟨ki.b, 0, none⟩) 0 ki.cap, ?_, by have := Rep.own (w := w) (I := I) eκ; rw [hlen] at this; exact this⟩
              rw [Option.map_none] at hb
              simp only [Int.toNat_zero, Nat.sub_zero] at hb ha
              simp [execOp, ho, ha, Instr.sliceAt, run_underlying' hun, Instr.slice, hb, run_sizeOf' hag]
              try simp [Addr.add]
          · simp at he
        · simp at he
      · simp at he
    · simp at he
def xCopy0 : Ext where
  f P o s := match o.op with
    | .call { callee := .builtin .copy, args := ⟨[x, y]⟩, argTypes := ts } => match ts[0]? with
      | some t => match elemP P t, s.eval x, s.eval y with
        | some _, .own k, .none0 => match s.obj k with
          | some (.row sz el []) => some ⟨[k], [], .im (.sc (.int .i64 0)), [], []⟩
          | _ => none
        | _, _, _ => none
      | none => none
    | _ => none
  ok P o s e he hp := by
    split at he
    · rename_i x y ts ho
      split at he
      · rename_i t hts
        split at he
        · rename_i p k hel hx hy
          split at he
          · rename_i sz el hk
            obtain rfl := Option.some.inj he
            obtain ⟨hun, ag, hag⟩ := elemP_inv hel
            refine .quiet rfl fun Γ κ I s2 a w hP hrel hn => ?_
            have g1 := opd hrel hn x (by simp [ho, Op.operands, Call.operands]) hx
            have g2 := opd hrel hn y (by simp [ho, Op.operands, Call.operands]) hy
            obtain ⟨base, e⟩ := none0_inv g2
            have hk2 := (needs_obj hn k (by simp)).trans hk
            have hO := hrel.inv.objs k _ hk2
            have hfc : ∀ (sz : Nat) (w : World), (Builtin.firstCells sz 0 (.slice base 0 0)).run P w = .ok #[] w := by
              intro sz w; cases base <;> simp [Builtin.firstCells, loadCells, loadCellsFrom]
            generalize ha : a.eval x = v at g1
            refine ⟨.int .i64 0, ?_, .im (.sc _)⟩
            cases g1 with
            | own0 base' eκ =>
              cases base' <;> simp [execOp, ho, resolve, invoke, builtin, ha, e, Builtin.copy_, hts, run_underlying' hun, Builtin.lenOf, run_sizeOf' hag, hfc, goInt, storeCells]
            | @own _ ki eκ =>
              simp [execOp, ho, resolve, invoke, builtin, ha, e, Builtin.copy_, hts, run_underlying' hun, Builtin.lenOf, run_sizeOf' hag, hfc, goInt, storeCells]
          · simp at he
        · simp at he
      · simp at he
    · simp at he
end Go.Pv
set_option linter.unusedVariables false
set_option linter.unusedSimpArgs false
namespace Go.Pv
open Go.Instr
def hit {K : Type} [DecidableEq K] (a : K) : List K → List MapEntry → Nat → Option (Nat × Value)
  | k :: ks, e :: es, i => if k = a then some (i, e.val) else hit a ks es (i + 1)
  | _, _, _ => none
structure KeyOK (P : Program) (t : TypeId) {K : Type} [DecidableEq K] (vk : K → Value) : Prop where
  check : ∀ b a w, (checkKey b 10000 t (vk a)).run P w = .ok () w
  find : ∀ a (es : List MapEntry) (ks : List K) w, es.map (·.key) = ks.map vk → (findKey t (vk a) es).run P w = .ok (hit a ks es 0) w
  same : ∀ a w, (keyThatStays (vk a) (vk a)).run P w = .ok (vk a) w
theorem findNow_ok {K : Type} [DecidableEq K] {d : TypeDesc} {vk : K → Value} (h : ∀ a b, sameNow d (vk a) (vk b) = some (decide (b = a))) (a : K) : ∀ (es : List MapEntry) (ks : List K) (i : Nat), es.map (·.key) = ks.map vk → findNow d (vk a) es i = some (hit a ks es i)
  | [], [], i, _ => by simp [findNow, hit]
  | [], k :: ks, i, e => by simp at e
  | e :: es, [], i, q => by simp at q
  | e :: es, k :: ks, i, q => by
    simp only [List.map_cons, List.cons.injEq] at q
    rw [findNow, q.1, h, hit]
    by_cases c : k = a
    · simp [c]
    · simp [c, findNow_ok h a es ks (i + 1) q.2]
theorem key_plain {K : Type} [DecidableEq K] {P : Program} {t : TypeId} {d : TypeDesc} {vk : K → Value} (ht : P.underlying t = some d) (hc : ∀ b a w, (checkKey b 10000 t (vk a)).run P w = .ok () w) (h : ∀ a b, sameNow d (vk a) (vk b) = some (decide (b = a)))
    (hs : ∀ a, sameBits 10000 (vk a) (vk a) = true) : KeyOK P t vk where
  check := hc
  find a es ks w q := by
    simp only [findKey, Sem.run_bind, run_underlying' ht, Result.andThen_ok, findNow_ok h a es ks 0 q, Sem.run_pure]
  same a w := by simp [keyThatStays, hs]
end Go.Pv
set_option linter.unusedVariables false
set_option linter.unusedSimpArgs false
namespace Go.Pv
open Go.Instr
def mput {K V : Type} [DecidableEq K] : List (K × V) → K → V → List (K × V)
  | [], k, v => [(k, v)]
  | p :: l, k, v => if p.1 = k then (k, v) :: l else p :: mput l k v
def mget {K V : Type} [DecidableEq K] : List (K × V) → K → Option V
  | [], _ => none
  | p :: l, k => if p.1 = k then some p.2 else mget l k
theorem hit_ok {K V : Type} [DecidableEq K] (k : K) : ∀ (l : List (K × V)) (E : List MapEntry) (off : Nat), E.length = l.length →
    (hit k (l.map (·.1)) E off = none ∧ mget l k = none ∧ ∀ v, mput l k v = l ++ [(k, v)]) ∨
    ∃ i e p, E[i]? = some e ∧ l[i]? = some p ∧ p.1 = k ∧ hit k (l.map (·.1)) E off = some (off + i, e.val) ∧ mget l k = some p.2 ∧ ∀ v, mput l k v = l.set i (k, v)
  | [], E, off, _ => .inl ⟨by simp [hit], rfl, fun v => rfl⟩
  | p :: l, [], off, h => by simp at h
  | p :: l, e :: E, off, h => by
    by_cases c : p.1 = k
    · exact .inr ⟨0, e, p, rfl, rfl, c, by simp [hit, c], by simp [mget, c], fun v => by simp [mput, c]⟩
    · rcases hit_ok k l E (off + 1) (by simpa using h) with ⟨h1, h2, h3⟩ | ⟨i, e', p', h1, h2, h3, h4, h5, h6⟩
      · exact .inl ⟨by simp [hit, c, h1], by simp [mget, c, h2], fun v => by simp [mput, c, h3]⟩
      · exact .inr ⟨i + 1, e', p', by simpa using h1, by simpa using h2, h3, by simp [hit, c, h4]; omega, by simp [mget, c, h5], fun v => by simp [mput, c, h6]⟩
theorem run_getMap {P : Program} {w : World} {b : Nat} {arr : Array MapEntry} {c : Nat} (hb : w.heap[b]? = some (.map arr c)) : (getObj b).run P w = .ok (.map arr c) w := by simp [getObj, Sem.run, hb]
theorem run_setMap {P : Program} {w : World} {b : Nat} {arr : Array MapEntry} {c : Nat} {o' : Obj} (hb : w.heap[b]? = some (.map arr c)) : (setObj b o').run P w = .ok () (World.setBlock w b o') := by simp [setObj, Sem.run, hb, World.setBlock]
theorem run_mlook {P : Program} {t kt et : TypeId} {K : Type} [DecidableEq K] {vk : K → Value} {w : World} {b : Nat} {arr : Array MapEntry} {clock : Nat} {ks : List K} {z : Value} {c : Bool} {k : K} (ht : P.underlying t = some (.map kt et)) (hk : KeyOK P kt vk)
    (hb : w.heap[b]? = some (.map arr clock)) (hks : arr.toList.map (·.key) = ks.map vk) (hz : (zeroValue et).run P w = .ok z w) :
    (lookup t (.map (some b)) (vk k) c).run P w = .ok (if c then .tuple #[((hit k ks arr.toList 0).map (·.2)).getD z, .bool (hit k ks arr.toList 0).isSome] else ((hit k ks arr.toList 0).map (·.2)).getD z) w := by
  simp only [lookup, Sem.run_bind, run_underlying' ht, Result.andThen_ok, run_getMap hb, Sem.run_pure, hk.check, hk.find k arr.toList ks w hks]
  cases hit k ks arr.toList 0 with
  | none => simp [hz]
  | some p => simp
theorem run_mput {P : Program} {t kt et : TypeId} {K : Type} [DecidableEq K] {vk : K → Value} {w : World} {b : Nat} {arr : Array MapEntry} {clock : Nat} {ks : List K} {k : K} {v : Value} (ht : P.underlying t = some (.map kt et)) (hk : KeyOK P kt vk)
    (hb : w.heap[b]? = some (.map arr clock)) (hks : arr.toList.map (·.key) = ks.map vk) :
    (hit k ks arr.toList 0 = none → (mapUpdate t (.map (some b)) (vk k) v).run P w = .ok () (World.setBlock w b (.map (arr.push ⟨vk k, v, clock⟩) (clock + 1)))) ∧
    ∀ i u e, hit k ks arr.toList 0 = some (i, u) → arr[i]? = some e → e.key = vk k → (mapUpdate t (.map (some b)) (vk k) v).run P w = .ok () (World.setBlock w b (.map (arr.modify i fun e => { e with key := vk k, val := v }) clock)) := by
  constructor
  · intro h
    simp only [mapUpdate, Sem.run_bind, run_underlying' ht, Result.andThen_ok, run_getMap hb, hk.check, hk.find k arr.toList ks w hks, h, run_setMap hb]
  · intro i u e h he hkey
    simp only [mapUpdate, Sem.run_bind, run_underlying' ht, Result.andThen_ok, run_getMap hb, hk.check, hk.find k arr.toList ks w hks, h, he, Option.map_some, Option.getD_some, hkey, hk.same, run_setMap hb]
theorem map_at {w : World} {I : Nat → Prop} {κ : Nat → Option KI} {k : Nat} {es : List (Value × Im)} (h : OAt w I κ k (.map es)) : ∃ ki arr, κ k = some ki ∧ w.heap[ki.b]? = some (.map arr es.length) ∧ arr.size = es.length ∧
    ∀ i (h : i < es.length), ∃ e, arr[i]? = some e ∧ e.born = i ∧ e.key = (es[i]).1 ∧ IRep w I (es[i]).2 e.val := by
  unfold OAt at h
  cases e : κ k with
  | none => rw [e] at h; obtain ⟨_, _, h⟩ := h; simp at h
  | some ki => rw [e] at h; obtain ⟨arr, h1, h2, h3⟩ := h; exact ⟨ki, arr, rfl, h1, h2, h3⟩
theorem mown_inv {w : World} {I : Nat → Prop} {κ : Nat → Option KI} {k : Nat} {v : Value} (h : Rep w I κ (.mown k) v) : ∃ ki, κ k = some ki ∧ v = .map (some ki.b) := by
  cases h with
  | mown e => exact ⟨_, e, rfl⟩
def valA : AVal → Option Value
  | .im (.sc v) => some v
  | .agg cells => (scVals cells).map fun vs => .agg vs.toArray
  | _ => none
theorem valA_rep {w : World} {I : Nat → Prop} {κ : Nat → Option KI} {x : AVal} {v u : Value} (h : valA x = some v) (hr : Rep w I κ x u) : u = v := by
  unfold valA at h
  split at h
  · obtain rfl := Option.some.inj h; exact hr.sc_inv
  · rename_i cells
    cases e : scVals cells with
    | none => rw [e] at h; simp at h
    | some vs => rw [e] at h; simp at h; rw [← h]; exact agg_sc e hr
  · simp at h
def putOp : Op → Option (TypeId × Operand × Operand × Operand)
  | .mapUpdate t m k x => some (t, m, k, x)
  | .insert t m k x => some (t, m, k, x)
  | _ => none
theorem putOp_of {o : Op} {t : TypeId} {x y z : Operand} (h : putOp o = some (t, x, y, z)) : o = .mapUpdate t x y z ∨ o = .insert t x y z := by
  unfold putOp at h
  split at h
  · simp at h; obtain ⟨rfl, rfl, rfl, rfl⟩ := h; exact .inl rfl
  · simp at h; obtain ⟨rfl, rfl, rfl, rfl⟩ := h; exact .inr rfl
  · simp at h
end Go.Pv
set_option linter.unusedVariables false
set_option linter.unusedSimpArgs false
namespace Go.Pv
open Go.Instr
theorem iter_at {w : World} {I : Nat → Prop} {κ : Nat → Option KI} {k : Nat} {m : Option Nat} {n : Nat} {sn : List Nat} (h : OAt w I κ k (.iter m n sn)) : ∃ ki bm, κ k = some ki ∧ w.heap[ki.b]? = some (.mapIter (some bm) n sn.toArray n) ∧
    ∀ m', m = some m' → ∃ km, κ m' = some km ∧ km.b = bm := by
  unfold OAt at h
  cases e : κ k with
  | none => rw [e] at h; obtain ⟨_, _, h⟩ := h; simp at h
  | some ki => rw [e] at h; obtain ⟨bm, h1, h2⟩ := h; exact ⟨ki, bm, rfl, h1, h2⟩
theorem ptr00 {w : World} {I : Nat → Prop} {κ : Nat → Option KI} {k : Nat} {ki : KI} {v : Value} (h : Rep w I κ (.ptr k 0 0) v) (e : κ k = some ki) : v = .pointer (some ⟨ki.b, 0, none⟩) := by
  cases h with
  | ptr e' => rw [e] at e'; obtain rfl := Option.some.inj e'; simp
def remI (n : Nat) (sn : List Nat) : List Nat := (List.range n).filter fun i => !sn.contains i
theorem remI_push {n : Nat} {sn : List Nat} {i : Nat} (hi : i ∈ remI n sn) : ∃ A B, remI n sn = A ++ i :: B ∧ remI n (sn ++ [i]) = A ++ B := by
  obtain ⟨h1, h2⟩ := List.mem_filter.1 hi
  have hin : i < n := by simpa using h1
  have := filter_part (l := List.range n) (f := fun j => !sn.contains j) (g := fun j => !(sn ++ [i]).contains j) (i := i) (by simpa using hin) (by simpa using h2) (by simp) (fun j hj hne => by simp [hne])
  simp only [List.getElem_range] at this
  exact ⟨_, _, this.1, this.2⟩
theorem Sat.drew {Γ : Ctx} {s : AState} {a : Act} {w : World} (hs : Sat Γ s a w) : Sat Γ s a w.drew := by
  obtain ⟨κ, I, hr⟩ := hs
  have hk : Keeps Γ.M0 Γ.w0 w.drew := ⟨hr.inv.keep.os, hr.inv.keep.tape, hr.inv.keep.output, hr.inv.keep.size, hr.inv.keep.block⟩
  refine ⟨κ, I, hr.size, hr.defers, fun x => (hr.slots x).mono (fun _ h => h) (fun _ _ => rfl) (fun _ _ => rfl), ?_, hr.inv.inj, hr.inv.disj, hr.inv.bound, hk, hr.inv.ikeep, hr.inv.fromI, hr.inv.fromO, hr.inv.fix⟩
  intro k o hko
  have := hr.inv.objs k o hko
  unfold OAt at this ⊢
  split
  · rename_i e; rw [e] at this; exact this
  · rename_i ki e; rw [e] at this; exact this.mono (fun _ h => h) (fun _ _ => rfl) rfl (fun _ _ => rfl)
theorem Sat.putv {Γ : Ctx} {s : AState} {a : Act} {w : World} {κ : Nat → Option KI} {I : Nat → Prop} (hr : Rel Γ κ I s a w) (d : Nat) (hd : d < Γ.n) {x : AVal} {v : Value} (hx : Rep w I κ x v) : Rel Γ κ I (s.put (some d) x) (a.put (some d) v) w := by
  refine ⟨by simpa [Act.put] using hr.size, hr.defers, fun y => ?_, hr.inv.eqv (fun k o hk => by rw [AState.obj_put] at hk; exact hk) rfl⟩
  rw [AState.get_put]
  by_cases e : d = y
  · rw [if_pos e]
    have hsz : d < a.tmps.size := by rw [hr.size]; exact hd
    have : (a.put (some d) v).tmps.getD y undef = v := by subst e; simp [Act.put, hsz]
    rw [this]; exact hx
  · rw [if_neg e]
    have : (a.put (some d) v).tmps.getD y undef = a.tmps.getD y undef := by simp [Act.put, Array.getD_eq_getD_getElem?, Array.getElem?_setIfInBounds, e]
    rw [this]; exact hr.slots y
theorem AWp.next {Γ : Ctx} {P : Program} {id : Nat} {o1 o2 : Oper} {Q : Exit → AState → Prop} {s : AState} {x : Operand} (d1 d2 k m : Nat) {n : Nat} {sn : List Nat} {es : List (Value × Im)} (hP : Γ.P = P)
    (h1 : o1.op = .next x false) (h2 : o2.op = .extract (.tmp d1) 0) (g1 : o1.guard = none) (g2 : o2.guard = none) (e1 : o1.dst = some d1) (e2 : o2.dst = some d2) (l1 : d1 < Γ.n) (l2 : d2 < Γ.n)
    (hx : s.eval x = .ptr k 0 0) (hk : s.obj k = some (.iter (some m) n sn)) (hm : s.obj m = some (.map es)) (hn : n = es.length)
    (h0 : remI n sn = [] → Q .normal ((s.put (some d1) .top).put (some d2) (.im (.sc (.bool false)))))
    (hi : ∀ i A B, remI n sn = A ++ i :: B → remI n (sn ++ [i]) = A ++ B → i < n → Q .normal (((s.objput [(k, some (.iter (some m) n (sn ++ [i])))]).put (some d1) .top).put (some d2) (.im (.sc (.bool true))))) :
    AWp Γ (.region id #[o1, o2] false) Q s := by
  subst hP
  intro a w hs
  refine wp_region_lit ?_
  refine wpList_plain g1 fun K hK => ?_
  obtain ⟨κ, I, hr⟩ := hs
  obtain ⟨km, arr, eκ, q1, q2, q3⟩ := map_at (hr.inv.objs m _ hm)
  obtain ⟨ki, bm, eκ2, r1, r2⟩ := iter_at (hr.inv.objs k _ hk)
  obtain ⟨km', e', rfl⟩ := r2 m rfl
  rw [eκ] at e'; obtain rfl := Option.some.inj e'
  have hrx := hr.eval x
  rw [hx] at hrx
  have ex := ptr00 hrx eκ2
  have hborn : ∀ e ∈ arr.toList, ∃ i, arr[i]? = some e ∧ e.born = i ∧ i < n := by
    intro e he
    obtain ⟨i, hi, rfl⟩ := List.mem_iff_getElem.1 he
    simp only [Array.length_toList] at hi
    obtain ⟨e2, b1, b2, _⟩ := q3 i (by omega)
    have : arr[i]? = some arr[i] := Array.getElem?_eq_getElem hi
    rw [this] at b1; obtain rfl := Option.some.inj b1
    exact ⟨i, by simp, by simpa using b2, by omega⟩
  have step2 : ∀ (s1 : AState) (a1 : Act) (w1 : World) (b : Bool) (vs : List Value), Sat Γ s1 (a1.put (some d1) (.tuple ((.bool b) :: vs).toArray)) w1 → d1 < a1.tmps.size → Q .normal (s1.put (some d2) (.im (.sc (.bool b)))) →
      wpList Γ.P #[o1, o2] (fun e a' w' => ∃ s', Sat Γ s' a' w' ∧ Q e s') [o2] (a1.put (some d1) (.tuple ((.bool b) :: vs).toArray)) w1 := by
    intro s1 a1 w1 b vs hs1 hsz hq
    refine wpList_plain g2 fun K hK => ?_
    have hval : (a1.put (some d1) (.tuple ((.bool b) :: vs).toArray)).eval (.tmp d1) = .tuple ((.bool b) :: vs).toArray := by simp [Act.put, Act.eval, hsz]
    have hgoal := hK ((a1.put (some d1) (.tuple ((.bool b) :: vs).toArray)).put o2.dst (.bool b)) w1 (by
      refine ⟨_, ?_, hq⟩
      rw [e2]
      obtain ⟨κ1, I1, hr1⟩ := hs1
      exact ⟨κ1, I1, Sat.putv hr1 d2 l2 (.im (.sc _))⟩)
    unfold Oper.wp
    simp [execOp, h2, hval, Instr.extract, Result.andThen]
    exact hgoal
  have hmemI : ∀ e, e ∈ (leftOf arr sn.toArray).toList ↔ ∃ i, arr[i]? = some e ∧ e.born = i ∧ i ∈ remI n sn := by
    intro e
    constructor
    · intro he
      have he' : e ∈ arr ∧ e.born ∉ sn := by simpa [leftOf] using he
      obtain ⟨i, b1, b2, b3⟩ := hborn e (by simpa using he'.1)
      refine ⟨i, b1, b2, List.mem_filter.2 ⟨by simpa using b3, ?_⟩⟩
      rw [b2] at he'; simpa using he'.2
    · rintro ⟨i, b1, b2, b3⟩
      obtain ⟨_, b4⟩ := List.mem_filter.1 b3
      have := Array.mem_of_getElem? b1
      have hb4 : i ∉ sn := by simpa using b4
      simp [leftOf, this, b2, hb4]
  have hsz1 : d1 < a.tmps.size := by rw [hr.size]; exact l1
  rcases run_next_at (P := Γ.P) w o1.type ki.b km.b n n sn.toArray arr es.length r1 q1 (fun e he => by obtain ⟨i, _, b2, b3⟩ := hborn e he; omega) (by omega) with ⟨c0, hrun⟩ | ⟨e, he, w1, hw1, hrun⟩
  · have hrem : remI n sn = [] := by
      refine List.eq_nil_iff_forall_not_mem.2 fun i hi' => ?_
      have hin : i < n := by have := (List.mem_filter.1 hi').1; simpa using this
      obtain ⟨e, b1, b2, _⟩ := q3 i (by omega)
      have := (hmemI e).2 ⟨i, b1, b2, hi'⟩
      have h00 : (leftOf arr sn.toArray).toList = [] := by rw [← List.length_eq_zero_iff]; simpa using c0
      rw [h00] at this; simp at this
    have hg := hK (a.put o1.dst (.tuple #[.bool false])) w (by
      rw [e1]
      exact step2 (s.put (some d1) .top) a w false [] ⟨κ, I, Sat.putv hr d1 l1 (.top _)⟩ hsz1 (h0 hrem))
    unfold Oper.wp
    simp [execOp, h1, ex, hrun, Result.andThen]
    exact hg
  · obtain ⟨i, b1, b2, b3⟩ := (hmemI e).1 he
    obtain ⟨A, B, p1, p2⟩ := remI_push b3
    have hin : i < n := by have := (List.mem_filter.1 b3).1; simpa using this
    have hs1 : ∃ κ I, Rel Γ κ I s a w1 ∧ κ k = some ki ∧ κ m = some km ∧ w1.heap = w.heap := by
      rcases hw1 with rfl | rfl
      · exact ⟨κ, I, hr, eκ2, eκ, rfl⟩
      · have hk' : Keeps Γ.M0 Γ.w0 w.drew := ⟨hr.inv.keep.os, hr.inv.keep.tape, hr.inv.keep.output, hr.inv.keep.size, hr.inv.keep.block⟩
        refine ⟨κ, I, ⟨hr.size, hr.defers, fun x => (hr.slots x).mono (fun _ h => h) (fun _ _ => rfl) (fun _ _ => rfl), ⟨fun k o hko => ?_, hr.inv.inj, hr.inv.disj, hr.inv.bound, hk', hr.inv.ikeep, hr.inv.fromI, hr.inv.fromO, hr.inv.fix⟩⟩, eκ2, eκ, rfl⟩
        have := hr.inv.objs k o hko
        unfold OAt at this ⊢
        split
        · rename_i e; rw [e] at this; exact this
        · rename_i ki e; rw [e] at this; exact this.mono (fun _ h => h) (fun _ _ => rfl) rfl (fun _ _ => rfl)
    obtain ⟨κ1, I1, hr1, f1, f2, f3⟩ := hs1
    let ob : Obj := .mapIter (some km.b) n (sn ++ [e.born]).toArray es.length
    have hb : ki.b < w1.heap.size := by rw [f3]; exact (Array.getElem?_eq_some_iff.1 r1).1
    have hO : ORep (World.setBlock w1 ki.b ob) I1 κ1 ki (.iter (some m) n (sn ++ [i])) := by
      refine ⟨km.b, by rw [setBlock_get _ _ _ _ hb, if_pos rfl]; simp [ob, b2, hn], fun m' e => by obtain rfl := Option.some.inj e; exact ⟨km, f2, rfl⟩⟩
    obtain ⟨u1, u2⟩ := hr1.inv.update hk f1 hO
    have hr2 : Rel Γ κ1 I1 (s.objput [(k, some (.iter (some m) n (sn ++ [i])))]) a (World.setBlock w1 ki.b ob) :=
      ⟨hr1.size, hr1.defers, fun y => (hr1.slots y).mono (fun _ h => h) u2 (fun _ _ => rfl), u1⟩
    have hg := hK (a.put o1.dst (.tuple #[.bool true, e.key, e.val])) (World.setBlock w1 ki.b ob) (by
      rw [e1]
      exact step2 _ a _ true [e.key, e.val] ⟨κ1, I1, Sat.putv hr2 d1 l1 (.top _)⟩ hsz1 (hi i A B p1 p2 hin))
    unfold Oper.wp
    simp [execOp, h1, ex, hrun, Result.andThen]
    exact hg
end Go.Pv
set_option linter.unusedVariables false
set_option linter.unusedSimpArgs false
namespace Go.Pv
open Go.Instr
theorem keys_aM {K : Type} {vk : K → Value} {l : List (K × AVal)} {arr : Array MapEntry} (hs : arr.size = l.length) (h : ∀ i (h : i < l.length), ∃ e, arr[i]? = some e ∧ e.key = vk (l[i]).1) : arr.toList.map (·.key) = (l.map (·.1)).map vk := by
  apply List.ext_getElem
  · simp [hs]
  · intro i h1 h2
    simp only [List.length_map, Array.length_toList] at h1
    obtain ⟨e, e1, e3⟩ := h i (by omega)
    rw [Array.getElem?_eq_getElem h1] at e1
    obtain rfl := Option.some.inj e1
    simp [e3]
end Go.Pv
set_option linter.unusedVariables false
set_option linter.unusedSimpArgs false
namespace Go.Pv
open Go.Instr
theorem ba_beq (a b : ByteArray) : (a == b) = decide (a = b) := by
  show (a.data == b.data) = _
  rw [Bool.eq_iff_iff, decide_eq_true_eq, beq_iff_eq]
  exact ⟨fun h => by cases a; cases b; simp at h; subst h; rfl, fun h => by rw [h]⟩
abbrev vkS (a : ByteArray) : Value := .string a
theorem key_str {P : Program} {t : TypeId} (ht : P.underlying t = some .string) : KeyOK P t vkS :=
  key_plain ht (fun b a w => by
    have : ∀ n, (checkKey b (n + 1) t (.string a)).run P w = .ok () w := fun n => by simp [checkKey, run_underlying' ht]
    exact this 9999) (fun a b => by
    simp only [sameNow]
    congr 1
    rw [ba_beq]
    by_cases c : b = a
    · subst c; simp
    · simp [c]; exact fun h => c (Eq.symm h)) (fun a => by simp [sameBits, ba_beq])
end Go.Pv
set_option linter.unusedVariables false
set_option linter.unusedSimpArgs false
namespace Go.Pv
theorem run_eql_ptr {P : Program} {t e : TypeId} (ht : P.underlying t = some (.pointer e)) (p : Option Addr) (w : World) : (binOp .eql t (.pointer p) (.pointer none)).run P w = .ok (.bool p.isNone) w := by
  have h : (Op.equal t (.pointer p) (.pointer none)).run P w = .ok p.isNone w := by
    unfold Op.equal Op.maxDepth
    rw [Op.equalIn]
    cases p <;> simp only [Sem.run_bind, run_underlying' ht, Result.andThen_ok, Sem.run_pure] <;> rfl
  show (do pure (.bool (← Op.equal t (.pointer p) (.pointer none))) : Sem Value).run P w = _
  rw [Sem.run_bind, h]; rfl
end Go.Pv
set_option linter.unusedVariables false
set_option linter.unusedSimpArgs false
namespace Go.Pv
structure Gh where
  B : List Nat
  G : World → (Nat → Prop) → Prop
  mono : ∀ (w w' : World) (I I' : Nat → Prop), (∀ b ∈ B, w'.heap[b]? = w.heap[b]?) → (∀ b, I b → I' b) → (∀ b, I b → w'.heap[b]? = w.heap[b]?) → G w I → G w' I'
structure GInv (Γ : Ctx) (κ : Nat → Option KI) (I : Nat → Prop) (s : AState) (g : Gh) (w : World) : Prop where
  holds : g.G w I
  size : ∀ b ∈ g.B, b < w.heap.size
  dis : ∀ b ∈ g.B, ¬ I b
  obj : ∀ b ∈ g.B, ∀ k o ki, s.obj k = some o → κ k = some ki → ki.b ≠ b
  new : ∀ b ∈ g.B, Γ.M0 b ∨ Γ.w0.heap.size ≤ b
def GSat (Γ : Ctx) (s : AState) (g : Gh) (a : Act) (w : World) : Prop := ∃ κ I, Rel Γ κ I s a w ∧ GInv Γ κ I s g w
def GWp (Γ : Ctx) (c : Code) (Q : Exit → AState → Gh → Prop) (s : AState) (g : Gh) : Prop :=
  ∀ a w, GSat Γ s g a w → c.wp Γ.P (fun e a' w' => ∃ s' g', GSat Γ s' g' a' w' ∧ Q e s' g') a w
theorem GWp.mono {Γ : Ctx} {c : Code} {Q Q' : Exit → AState → Gh → Prop} {s : AState} {g : Gh} (h : GWp Γ c Q s g) (hq : ∀ e s g, Q e s g → Q' e s g) : GWp Γ c Q' s g :=
  fun a w hs => Code.wp_mono (fun e a w ⟨s', g', h1, h2⟩ => ⟨s', g', h1, hq _ _ _ h2⟩) (h a w hs)
theorem GWp.ex {Γ : Ctx} {c : Code} {Q : Exit → AState → Gh → Prop} {s : AState} {g : Gh} {α : Type} {S : α → AState} {G : α → Gh} (hc : ∀ a w, GSat Γ s g a w → ∃ x, GSat Γ (S x) (G x) a w) (h : ∀ x, GWp Γ c Q (S x) (G x)) : GWp Γ c Q s g :=
  fun a w hs => let ⟨x, hx⟩ := hc a w hs; h x a w hx
theorem GWp.skip {Γ : Ctx} {Q : Exit → AState → Gh → Prop} {s : AState} {g : Gh} (h : Q .normal s g) : GWp Γ .skip Q s g := fun a w hs => wp_skip ⟨s, g, hs, h⟩
theorem GWp.exit {Γ : Ctx} {Q : Exit → AState → Gh → Prop} {s : AState} {g : Gh} {id : Nat} (h : Q (.exit id) s g) : GWp Γ (.exit id) Q s g := fun a w hs => wp_exit ⟨s, g, hs, h⟩
theorem GWp.ret {Γ : Ctx} {Q : Exit → AState → Gh → Prop} {s : AState} {g : Gh} (h : Q .ret s g) : GWp Γ .ret Q s g := fun a w hs => wp_ret ⟨s, g, hs, h⟩
def gseqQ (next : AState → Gh → Prop) (Q : Exit → AState → Gh → Prop) : Exit → AState → Gh → Prop
  | .normal, s, g => next s g
  | e, s, g => Q e s g
theorem GWp.seq {Γ : Ctx} {x y : Code} {Q : Exit → AState → Gh → Prop} {s : AState} {g : Gh} (h : GWp Γ x (gseqQ (GWp Γ y Q) Q) s g) : GWp Γ (.seq x y) Q s g := fun a w hs =>
  wp_seq (Code.wp_mono (fun e a w ⟨s', g', h1, h2⟩ => by
    cases e with
    | normal => exact h2 a w h1
    | _ => exact ⟨s', g', h1, h2⟩) (h a w hs))
def gblockQ (id : Nat) (Q : Exit → AState → Gh → Prop) : Exit → AState → Gh → Prop
  | .exit i, s, g => if i = id then Q .normal s g else Q (.exit i) s g
  | e, s, g => Q e s g
theorem GWp.block {Γ : Ctx} {id : Nat} {c : Code} {Q : Exit → AState → Gh → Prop} {s : AState} {g : Gh} (h : GWp Γ c (gblockQ id Q) s g) : GWp Γ (.block id c) Q s g := fun a w hs =>
  wp_block (Code.wp_mono (fun e a w ⟨s', g', h1, h2⟩ => by
    cases e with
    | exit i => simp only [Exit.inBlock]; simp only [gblockQ] at h2; split <;> simp_all <;> exact ⟨s', g', h1, h2⟩
    | _ => exact ⟨s', g', h1, h2⟩) (h a w hs))
theorem GWp.cond {Γ : Ctx} {c : Operand} {x y : Code} {Q : Exit → AState → Gh → Prop} {s : AState} {g : Gh} (b : Bool) (hb : s.eval c = .im (.sc (.bool b)))
    (ht : b = true → GWp Γ x Q s g) (hf : b = false → GWp Γ y Q s g) : GWp Γ (.cond c x y) Q s g := fun a w hs => by
  obtain ⟨κ, I, hr, hg⟩ := hs
  have hc : a.eval c = .bool b := (hb ▸ hr.eval c).sc_inv
  exact wp_cond_split hc (fun h => ht h a w ⟨κ, I, hr, hg⟩) (fun h => hf h a w ⟨κ, I, hr, hg⟩)
def GLWp (Γ : Ctx) (c : Code) (Q : Exit → AState → Gh → Prop) (s : AState) (g : Gh) : Prop :=
  ∀ a w, GSat Γ s g a w → ∀ (b : Frame) (k : List Go.Item) (cs : List Frame),
    ∃ e a' w', (∃ s' g', GSat Γ s' g' a' w' ∧ Q e s' g') ∧ Arrives Γ.P (lone (b.at a (.code c :: .inLoop c :: k)) cs w) b k cs e a' w'
theorem GLWp.round {Γ : Ctx} {c : Code} {Q : Exit → AState → Gh → Prop} {s : AState} {g : Gh} (h : GWp Γ c (gseqQ (GLWp Γ c Q) Q) s g) : GLWp Γ c Q s g := by
  intro a w hs b k cs
  obtain ⟨e, a₁, w₁, ⟨s', g', h1, h2⟩, harr⟩ := h a w hs b (.inLoop c :: k) cs
  cases e with
  | normal =>
    obtain ⟨e₂, a₂, w₂, hq₂, harr₂⟩ := h2 a₁ w₁ h1 b k cs
    exact ⟨e₂, a₂, w₂, hq₂, .of_steps (Steps.trans harr (.one step_inLoop)) harr₂⟩
  | exit id => exact ⟨_, a₁, w₁, ⟨s', g', h1, h2⟩, .pass (x := .inLoop c) rfl (fun _ _ => .inl (by simp)) harr⟩
  | goto l => exact ⟨_, a₁, w₁, ⟨s', g', h1, h2⟩, .pass (x := .inLoop c) rfl (fun _ _ => .inl (by simp)) harr⟩
  | ret => exact ⟨_, a₁, w₁, ⟨s', g', h1, h2⟩, .pass (x := .inLoop c) rfl (fun _ _ => .inl (by simp)) harr⟩
  | panic ch => exact ⟨_, a₁, w₁, ⟨s', g', h1, h2⟩, .pass (x := .inLoop c) rfl (fun _ _ => .inl (by simp)) harr⟩
  | outgrown => exact ⟨_, a₁, w₁, ⟨s', g', h1, h2⟩, .pass (x := .inLoop c) rfl (fun _ _ => .inl (by simp)) harr⟩
theorem GWp.loop {Γ : Ctx} {c : Code} {Q : Exit → AState → Gh → Prop} {s : AState} {g : Gh} (h : GLWp Γ c Q s g) : GWp Γ (.loop c) Q s g := fun a w hs b k cs =>
  let ⟨e, a', w', hq, harr⟩ := h a w hs b k cs
  ⟨e, a', w', hq, .of_steps (.one step_loop) harr⟩
theorem GLWp.ex {Γ : Ctx} {c : Code} {Q : Exit → AState → Gh → Prop} {s : AState} {g : Gh} {α : Type} {S : α → AState} {G : α → Gh} (hc : ∀ a w, GSat Γ s g a w → ∃ x, GSat Γ (S x) (G x) a w) (h : ∀ x, GLWp Γ c Q (S x) (G x)) : GLWp Γ c Q s g :=
  fun a w hs => let ⟨x, hx⟩ := hc a w hs; h x a w hx
theorem ORep.lt {w : World} {I : Nat → Prop} {κ : Nat → Option KI} {ki : KI} {o : MObj} (h : ORep w I κ ki o) : ki.b < w.heap.size := by
  have key : ∀ x, w.heap[ki.b]? = some x → ki.b < w.heap.size := fun x e => (Array.getElem?_eq_some_iff.1 e).1
  cases o with
  | row sz el es => obtain ⟨_, _, _, arr, h3, _⟩ := h; exact key _ h3
  | box el cells => obtain ⟨_, _, arr, h3, _⟩ := h; exact key _ h3
  | map es => obtain ⟨arr, h1, _⟩ := h; exact key _ h1
  | iter m n sn => obtain ⟨bm, h1, _⟩ := h; exact key _ h1
  | arow sz el es fs => obtain ⟨_, _, _, arr, h3, _⟩ := h; exact key _ h3
  | amap ks xs => obtain ⟨_, arr, h3, _⟩ := h; exact key _ h3
  | dmap es => obtain ⟨arr, h1, _⟩ := h; exact key _ h1
  | gmap ks xs bs c => obtain ⟨_, _, _, _, _, arr, h3, _⟩ := h; exact key _ h3
  | niter => exact key _ h
theorem GWp.frame {Γ : Ctx} {c : Code} {Q : Exit → AState → Gh → Prop} {s : AState} {g : Gh}
    (h : ∀ Γ' : Ctx, Γ'.P = Γ.P → Γ'.n = Γ.n → AWp Γ' c (fun e s' => s'.floor = s.floor ∧ Q e s' g) s) : GWp Γ c Q s g := by
  rintro a w ⟨κ, I, hr, hg⟩
  have hdis : ∀ b, I b → ¬ entryM κ s b := fun b hb ⟨k, o, ki, h1, h2, h3⟩ => hr.inv.disj k o ki h1 h2 (h3 ▸ hb)
  have glob : GlobOK Γ.P I (entryM κ s) w := ⟨fun x cs e => by
    obtain ⟨h1, h2, h3⟩ := hr.inv.tab e
    exact ⟨h1, hdis x h1, h2, h3⟩, fun x e => by
    obtain ⟨h1, h2, h3⟩ := hr.inv.err e
    exact ⟨h1, hdis x h1, h2, h3⟩⟩
  let Γ' : Ctx := { P := Γ.P, n := Γ.n, w0 := w, I0 := I, M0 := entryM κ s, κ0 := κ, glob := glob }
  have sat : Sat Γ' s a w := ⟨κ, I, hr.size, hr.defers, hr.slots, hr.inv.objs, hr.inv.inj, hr.inv.disj, hr.inv.bound, Keeps.refl _ _, fun _ h => h, fun b h => .inl h, fun k o ki h1 h2 => .inl ⟨k, o, ki, h1, h2, rfl⟩, fun k hk => rfl⟩
  refine Code.wp_mono (fun e a' w' ⟨s', h1, hfl, h2⟩ => ?_) (h Γ' rfl rfl a w sat)
  obtain ⟨κ', I', r'⟩ := h1
  have hsz : w.heap.size ≤ w'.heap.size := r'.inv.keep.size
  have fromM : ∀ b, entryM κ s b → Γ.M0 b ∨ Γ.w0.heap.size ≤ b := fun b ⟨k, o, ki, h1, h2, h3⟩ => h3 ▸ hr.inv.fromO k o ki h1 h2
  have old : ∀ b, b < w.heap.size → ¬ entryM κ s b → w'.heap[b]? = w.heap[b]? := fun b hb hn => r'.inv.keep.block b hb hn
  have gnot : ∀ b ∈ g.B, ¬ entryM κ s b := fun b hb ⟨k, o, ki, h1, h2, h3⟩ => hg.obj b hb k o ki h1 h2 h3
  refine ⟨s', g, ⟨κ', I', ⟨r'.size, r'.defers, r'.slots, r'.inv.objs, r'.inv.inj, r'.inv.disj, r'.inv.bound, ?_, ?_, ?_, ?_, ?_⟩, ?_, ?_, ?_, ?_, hg.new⟩, h2⟩
  · refine hr.inv.keep.trans r'.inv.keep (fun b hb hm => ?_)
    rcases fromM b hm with h | h
    · exact h
    · omega
  · exact fun b hb => r'.inv.ikeep b (hr.inv.ikeep b hb)
  · intro b hb
    rcases r'.inv.fromI b hb with h | h | h
    · exact hr.inv.fromI b h
    · exact .inr (fromM b h)
    · exact .inr (.inr (Nat.le_trans hr.inv.keep.size h))
  · intro k o ki h1 h2
    rcases r'.inv.fromO k o ki h1 h2 with h | h
    · exact fromM _ h
    · exact .inr (Nat.le_trans hr.inv.keep.size h)
  · intro k hk
    exact (r'.inv.fix k hk).trans (hr.inv.fix k (hfl ▸ hk))
  · exact g.mono w w' I I' (fun b hb => old b (hg.size b hb) (gnot b hb)) (fun b hb => r'.inv.ikeep b hb) (fun b hb => old b (hr.inv.bound b hb) (hdis b hb)) hg.holds
  · exact fun b hb => Nat.lt_of_lt_of_le (hg.size b hb) hsz
  · intro b hb hI
    rcases r'.inv.fromI b hI with h | h | h
    · exact hg.dis b hb h
    · exact gnot b hb h
    · exact absurd (hg.size b hb) (Nat.not_lt.2 h)
  · intro b hb k o ki h1 h2 e
    rcases r'.inv.fromO k o ki h1 h2 with h | h
    · exact gnot b hb (e ▸ h)
    · have := hg.size b hb; rw [e] at h; exact absurd this (Nat.not_lt.2 h)
end Go.Pv
set_option linter.unusedVariables false
set_option linter.unusedSimpArgs false
open Go.RowKit
namespace Go.Pv
def TabsAt (P : Program) (w : World) : Prop := (∀ g cs, globTab P g = some cs → g < w.heap.size ∧ ∃ t m, w.heap[g]? = some (.cells cs.toArray t m)) ∧
  ∀ g, globIf P g = true → g < w.heap.size ∧ ∃ tp p t m, w.heap[g]? = some (.cells #[.iface tp p] t m)
theorem Fn.lawG {P : Program} {f : FuncId} {args : List AVal} {vs : List Value} {w : World} (h : Fn P f args [] 0 (fun x o => x = bV true ∧ o = []))
    (hl : vs.length = args.length) (hreps : ∀ j (h : j < args.length) (h' : j < vs.length), Rep w (fun b => b < w.heap.size) (fun _ => none) (args[j]) (vs[j])) (ht : TabsAt P w) :
    Calls P f vs.toArray w fun e w' => e = .returned (.bool true) ∧ Below w.heap.size w w' := by
  have hg : GlobOK P (fun b => b < w.heap.size) (entryM (fun _ => none) ⟨[], [], 0⟩) w := ⟨fun g cs e => ⟨(ht.1 g cs e).1, (fun ⟨k, o, ki, h1, _⟩ => by simp [AState.obj, look] at h1), ht.1 g cs e⟩, fun g e => ⟨(ht.2 g e).1, (fun ⟨k, o, ki, h1, _⟩ => by simp [AState.obj, look] at h1), ht.2 g e⟩⟩
  have hinv : Inv (entryCtx P 0 (fun _ => none) (fun b => b < w.heap.size) ⟨[], [], 0⟩ w hg) (fun _ => none) (fun b => b < w.heap.size) ⟨[], [], 0⟩ w := by
    refine ⟨?_, ?_, ?_, fun b h => h, Keeps.refl _ _, fun _ h => h, fun b h => .inl h, ?_, fun _ _ => rfl⟩
    · intro k o h; simp [AState.obj, look] at h
    · intro k k' o o' ki ki' h; simp [AState.obj, look] at h
    · intro k o ki h; simp [AState.obj, look] at h
    · intro k o ki h; simp [AState.obj, look] at h
  refine (h (fun _ => none) (fun b => b < w.heap.size) w vs hl hreps hg hinv).mono ?_
  rintro e w' ⟨v, r, o, κ', I', rfl, ⟨rfl, rfl⟩, hr, hi⟩
  refine ⟨by rw [hr.sc_inv], ?_⟩
  have hM : ∀ b, b < w.heap.size → w'.heap[b]? = w.heap[b]? := fun b hb => hi.keep.block b hb (fun hm => by
    obtain ⟨k, o, ki, h1, _⟩ := hm
    simp [AState.obj, look] at h1)
  exact ⟨hi.keep.os, hi.keep.tape, hi.keep.output, hi.keep.size, hM⟩
end Go.Pv
set_option linter.unusedVariables false
set_option linter.unusedSimpArgs false
namespace Go.Pv
theorem wrap64 {n : Int} (h0 : -9223372036854775808 ≤ n) (h1 : n < 9223372036854775808) : IntKind.i64.wrap n = n := by
  simp only [IntKind.wrap, IntKind.signed, IntKind.bits]
  simp
  omega
abbrev L (s : ByteArray) : List UInt8 := s.data.toList
theorem toList_L (s : ByteArray) : s.toList = L s := ByteArray.toList_eq ..
end Go.Pv
set_option linter.unusedVariables false
set_option linter.unusedSimpArgs false
namespace Go.Pv
structure FlatA (w : World) (I : Nat → Prop) (κ : Nat → Option KI) (sz : Nat) (gs : List (List AVal)) (vs : List Value) : Prop where
  len : vs.length = gs.length * sz
  el : ∀ i (h : i < gs.length), (gs[i]).length = sz
  at_ : ∀ i (h : i < gs.length) j (h' : j < (gs[i]).length), ∃ v, vs[i * sz + j]? = some v ∧ Rep w I κ ((gs[i])[j]) v
theorem FlatA.nil (w : World) (I : Nat → Prop) (κ : Nat → Option KI) (sz : Nat) : FlatA w I κ sz [] [] := ⟨by simp, fun i h => absurd h (Nat.not_lt_zero _), fun i h => absurd h (Nat.not_lt_zero _)⟩
theorem FlatA.mono {w w' : World} {I I' : Nat → Prop} {κ κ' : Nat → Option KI} {sz : Nat} {gs : List (List AVal)} {vs : List Value} (h : FlatA w I κ sz gs vs) (hI : ∀ b, I b → I' b) (hw : ∀ b, I b → w'.heap[b]? = w.heap[b]?)
    (hk : ∀ k, hasLL k gs = true → κ' k = κ k) : FlatA w' I' κ' sz gs vs :=
  ⟨h.len, h.el, fun i hi j hj => let ⟨v, e, r⟩ := h.at_ i hi j hj; ⟨v, e, r.mono hI hw (fun k hkk => hk k (by
    cases e : hasLL k gs with
    | true => rfl
    | false => rw [hasL_get (hasLL_get e i hi) j hj] at hkk; cases hkk))⟩⟩
theorem Inv.drew {Γ : Ctx} {κ : Nat → Option KI} {I : Nat → Prop} {s : AState} {w : World} (h : Inv Γ κ I s w) : Inv Γ κ I s w.drew := by
  refine ⟨fun k o hk => ?_, h.inj, h.disj, h.bound, ⟨h.keep.os, h.keep.tape, h.keep.output, h.keep.size, h.keep.block⟩, h.ikeep, h.fromI, h.fromO, h.fix⟩
  have := h.objs k o hk
  unfold OAt at this ⊢
  split
  · rename_i e'; rw [e'] at this; exact this
  · rename_i ki' e'; rw [e'] at this; exact this.mono (fun _ h => h) (fun _ _ => rfl) rfl (fun _ _ => rfl)
end Go.Pv
set_option linter.unusedVariables false
set_option linter.unusedSimpArgs false
namespace Go.Pv
def NAt (w : World) (I : Nat → Prop) (sz el : Nat) (v : Value) (es : List (List Im)) (B : List Nat) : Prop :=
  (∃ base, v = .slice base 0 0 ∧ es = [] ∧ B = []) ∨ ∃ ki : KI, B = [ki.b] ∧ v = .slice (some ⟨ki.b, 0, none⟩) ki.len ki.cap ∧ ORep w I (fun _ => none) ki (.row sz el es)
theorem NAt.mono {w w' : World} {I I' : Nat → Prop} {sz el : Nat} {v : Value} {es : List (List Im)} {B : List Nat} (h : NAt w I sz el v es B) (hB : ∀ b ∈ B, w'.heap[b]? = w.heap[b]?) (hI : ∀ b, I b → I' b) (hw : ∀ b, I b → w'.heap[b]? = w.heap[b]?) : NAt w' I' sz el v es B := by
  rcases h with h | ⟨ki, rfl, h2, h3⟩
  · exact .inl h
  · exact .inr ⟨ki, rfl, h2, h3.mono hI hw (hB _ (by simp)) (fun _ _ => rfl)⟩
def nest (sz el : Nat) (u : List Value) (gs : List (List (List Im))) (Bs : List (List Nat)) : Gh where
  B := Bs.flatten
  G w I := u.length = gs.length ∧ Bs.length = gs.length ∧ Bs.flatten.Nodup ∧ ∀ i (h : i < gs.length) (h1 : i < u.length) (h2 : i < Bs.length), NAt w I sz el u[i] gs[i] Bs[i]
  mono w w' I I' hB hI hw h := ⟨h.1, h.2.1, h.2.2.1, fun i h0 h1 h2 => (h.2.2.2 i h0 h1 h2).mono (fun b hb => hB b (List.mem_flatten.2 ⟨_, List.getElem_mem h2, hb⟩)) hI hw⟩
theorem obj_objput (s : AState) (l : List (Nat × Option MObj)) (k : Nat) : (s.objput l).obj k = match look l k with | some o => o | none => s.obj k := by
  show (look (l ++ s.objs) k).getD none = _
  rw [look_append]
  cases look l k <;> rfl
def cellsI (u : List Value) : List (List Im) := u.map fun v => [.sc v]
theorem cellsI_get (u : List Value) (j : Nat) (h : j < (cellsI u).length) : (cellsI u)[j] = [.sc (u[j]'(by simpa [cellsI] using h))] := by simp [cellsI]
theorem ORep.data {w : World} {I : Nat → Prop} {κ : Nat → Option KI} {ki : KI} {sz el : Nat} {es : List (List Im)} (h : ORep w I κ ki (.row sz el es)) {I' : Nat → Prop} (hI : ∀ b, I b → I' b) (hb : I' ki.b) : IRep w I' (.row es) (.slice (some ⟨ki.b, 0, none⟩) ki.len ki.cap) := by
  obtain ⟨h1, h2, h3, arr, h4, h5, h6⟩ := h
  refine .row (sz := sz) (fun i j => (arr[i * sz + j]?).getD undef) h2 hb (by rw [h2]; exact h3) (fun i h => (h6 i h).1) (fun i j hi hj => ?_) (fun i hi j hj => ?_)
  · obtain ⟨e1, e2⟩ := h6 i hi
    obtain ⟨v, e3, _⟩ := e2 j (by rw [e1]; exact hj)
    unfold World.cell?
    simp only [h4, Nat.zero_add, e3]
    rfl
  · obtain ⟨e1, e2⟩ := h6 i hi
    obtain ⟨v, e3, e4⟩ := e2 j hj
    rw [e3]
    exact e4.mono hI (fun _ _ => rfl)
theorem freeze {Γ : Ctx} {s : AState} {u : List Value} {gs : List (List (List Im))} {Bs : List (List Nat)} {sz el k5 e5 x : Nat} (h5 : s.obj k5 = some (.row 1 e5 (cellsI u))) (hx : s.get x = .own k5)
    (a : Act) (w : World) (hs : GSat Γ s (nest sz el u gs Bs) a w) : Sat Γ ⟨[(x, .im (.row (gs.map fun es => [.row es])))], [], s.floor⟩ a w := by
  obtain ⟨κ, I, hr, hg⟩ := hs
  obtain ⟨hu, hB, hnd, hat⟩ := hg.holds
  let I' : Nat → Prop := fun b => I b ∨ (∃ ki, κ k5 = some ki ∧ b = ki.b) ∨ b ∈ Bs.flatten
  have hI : ∀ b, I b → I' b := fun b h => .inl h
  have no : ∀ k o, (⟨[(x, .im (.row (gs.map fun es => [.row es])))], [], s.floor⟩ : AState).obj k = some o → False := fun k o h => by simp [AState.obj, look] at h
  have h0 := hr.inv.objs _ _ h5
  refine ⟨κ, I', hr.size, hr.defers, fun y => ?_, fun k o h => (no k o h).elim, fun k k' o o' ki ki' h => (no k o h).elim, fun k o ki h => (no k o h).elim, ?_, hr.inv.keep, fun b h => .inl (hr.inv.ikeep b h), ?_, fun k o ki h => (no k o h).elim, hr.inv.fix⟩
  · show Rep w I' κ ((look [(x, AVal.im (.row (gs.map fun es => [.row es])))] y).getD .top) _
    rw [look_cons]
    by_cases e : x = y
    · subst e
      rw [if_pos rfl]
      have hv := hr.slots x
      rw [hx] at hv
      unfold OAt at h0
      refine .im ?_
      generalize a.tmps.getD x undef = val at hv ⊢
      cases hv with
      | own0 base e =>
        rw [e] at h0
        obtain ⟨_, _, h0⟩ := h0
        simp at h0
        have : u = [] := by simpa [cellsI] using h0.2.2
        have : gs = [] := List.length_eq_zero_iff.1 (by rw [← hu, this]; rfl)
        rw [this]; exact .row0 base 0
      | own e =>
        rename_i ki
        rw [e] at h0
        obtain ⟨g1, g2, g3, arr, g4, g5, g6⟩ := h0
        have hlen : (cellsI u).length = gs.length := by simp [cellsI, hu]
        have hcell : ∀ i (h : i < u.length), arr[i]? = some u[i] := fun i h => by
          obtain ⟨_, q⟩ := g6 i (by simpa [cellsI] using h)
          obtain ⟨v, e1, e2⟩ := q 0 (by rw [cellsI_get]; simp)
          have : (cellsI u)[i][0]'(by rw [cellsI_get]; simp) = .sc u[i] := by simp [cellsI]
          rw [this] at e2; cases e2
          simpa using e1
        refine .row (sz := 1) (fun i _ => (arr[i]?).getD undef) (by simp [g2, hlen]) (.inr (.inl ⟨ki, e, rfl⟩)) (by rw [g2]; exact g3) (fun i h => by simp) (fun i j hi hj => ?_) (fun i hi j hj => ?_)
        · obtain rfl : j = 0 := by omega
          have hi' : i < u.length := by simpa [hu] using hi
          unfold World.cell?
          simp only [g4, Nat.zero_add, Nat.mul_one, Nat.add_zero, hcell i hi']
          rfl
        · have hi' : i < gs.length := by simpa using hi
          obtain rfl : j = 0 := by simp at hj; exact hj
          rw [hcell i (by omega)]
          simp only [List.getElem_map, List.getElem_cons_zero, Option.getD_some]
          rcases hat i hi' (by omega) (by omega) with ⟨base, e1, e2, e3⟩ | ⟨kj, e1, e2, e3⟩
          · rw [e1, e2]; exact .row0 base 0
          · rw [e2]; exact e3.data hI (.inr (.inr (List.mem_flatten.2 ⟨Bs[i]'(by omega), List.getElem_mem _, by rw [e1]; simp⟩)))
    · rw [if_neg e]; exact .top _
  · intro b hb
    rcases hb with h | ⟨ki, e, rfl⟩ | h
    · exact hr.inv.bound b h
    · unfold OAt at h0; rw [e] at h0; exact h0.lt
    · exact hg.size b h
  · intro b hb
    rcases hb with h | ⟨ki, e, rfl⟩ | h
    · exact hr.inv.fromI b h
    · exact .inr (hr.inv.fromO k5 _ ki h5 e)
    · exact .inr (hg.new b h)
end Go.Pv
set_option linter.unusedVariables false
set_option linter.unusedSimpArgs false
namespace Go.Pv
open Go.Instr
theorem run_neq_ptr {P : Program} {t e : TypeId} (ht : P.underlying t = some (.pointer e)) (p : Option Addr) (w : World) : (binOp .neq t (.pointer p) (.pointer none)).run P w = .ok (.bool !p.isNone) w := by
  have h : (Op.equal t (.pointer p) (.pointer none)).run P w = .ok p.isNone w := by
    unfold Op.equal Op.maxDepth
    rw [Op.equalIn]
    cases p <;> simp only [Sem.run_bind, run_underlying' ht, Result.andThen_ok, Sem.run_pure] <;> rfl
  show (do pure (.bool (!(← Op.equal t (.pointer p) (.pointer none)))) : Sem Value).run P w = _
  rw [Sem.run_bind, h]; rfl
def isNilP : AVal → Option Bool
  | .ptr _ _ _ => some false
  | .im (.sc (.pointer p)) => some p.isNone
  | _ => none
theorem isNilP_rep {w : World} {I : Nat → Prop} {κ : Nat → Option KI} {a : AVal} {v : Value} {b : Bool} (h : Rep w I κ a v) (e : isNilP a = some b) : ∃ p, v = .pointer p ∧ p.isNone = b := by
  unfold isNilP at e
  split at e
  · cases h with | ptr _ => exact ⟨_, rfl, Option.some.inj e⟩
  · have := h.sc_inv; exact ⟨_, this, Option.some.inj e⟩
  · cases e
def xPtrNil (b : Bool) : Ext where
  f P o s := match o.op with
    | .binOp op t x (.const (.pointer none)) _ => match P.underlying t, isNilP (s.eval x), op with
      | some (.pointer _), some c, .eql => some ⟨[], [], .im (.sc (.bool b)), [], [b = c]⟩
      | some (.pointer _), some c, .neq => some ⟨[], [], .im (.sc (.bool b)), [], [b = !c]⟩
      | _, _, _ => none
    | _ => none
  ok P o s e he hp := by
    split at he
    · rename_i op t x t2 ho
      have hc : ∀ a : Act, a.eval (.const (.pointer none)) = .pointer none := fun a => rfl
      split at he
      · rename_i _ _ el c ht hx
        obtain rfl := Option.some.inj he
        obtain ⟨rfl, _⟩ := hp
        refine .quiet rfl fun Γ κ I s2 a w hP hrel hn => ?_
        have g := opd hrel hn x (by simp [ho, Op.operands]) rfl
        obtain ⟨p, ep, rfl⟩ := isNilP_rep g hx
        refine ⟨.bool p.isNone, ?_, .im (.sc _)⟩
        simp only [execOp, ho, ep, hc, eqGuard]
        simp [run_eql_ptr ht]
      · rename_i _ _ el c ht hx
        obtain rfl := Option.some.inj he
        obtain ⟨rfl, _⟩ := hp
        refine .quiet rfl fun Γ κ I s2 a w hP hrel hn => ?_
        have g := opd hrel hn x (by simp [ho, Op.operands]) rfl
        obtain ⟨p, ep, rfl⟩ := isNilP_rep g hx
        refine ⟨.bool !p.isNone, ?_, .im (.sc _)⟩
        simp only [execOp, ho, ep, hc, eqGuard]
        simp [run_neq_ptr ht]
      · simp at he
    · simp at he
theorem run_ptr_same {P : Program} {t e : TypeId} {ag : Bool} {sz : Nat} (ht : P.underlying t = some (.pointer e)) (hsz : aggP P e = some (ag, sz)) (a : Addr) (w : World) : (Op.equal t (.pointer (some a)) (.pointer (some a))).run P w = .ok true w := by
  unfold Op.equal Op.maxDepth
  rw [Op.equalIn]
  by_cases h0 : sz = 0
  · simp [run_underlying' ht, run_sizeOf' hsz, h0]
  · simp [run_underlying' ht, run_sizeOf' hsz, h0, sameAddr]
def xPtrSame : Ext where
  f P o s := match o.op with
    | .binOp op t x y _ => match P.underlying t, s.eval x, s.eval y, op with
      | some (.pointer e), .ptr k 0 0, .ptr k' 0 0, .neq => match Nat.beq k k', aggP P e with
        | true, some _ => some ⟨[], [], .im (.sc (.bool false)), [], []⟩
        | _, _ => none
      | _, _, _, _ => none
    | _ => none
  ok P o s e he hp := by
    split at he
    · rename_i op t x y t2 ho
      split at he
      · rename_i _ el k k' ht hx hy
        split at he
        · rename_i ags hb hsz
          obtain rfl := Nat.eq_of_beq_eq_true hb
          obtain rfl := Option.some.inj he
          refine .quiet rfl fun Γ κ I s2 a w hP hrel hn => ?_
          have g := opd hrel hn x (by simp [ho, Op.operands]) hx
          have g' := opd hrel hn y (by simp [ho, Op.operands]) hy
          have key : ∃ ki, κ k = some ki := by
            generalize a.eval x = v at g
            cases g with
            | ptr e => exact ⟨_, e⟩
          obtain ⟨ki, eκ⟩ := key
          have e1 := ptr00 g eκ
          have e2 := ptr00 g' eκ
          refine ⟨.bool false, ?_, .im (.sc _)⟩
          simp only [execOp, ho, e1, e2, eqGuard]
          simp [binOp, run_ptr_same (ag := ags.1) (sz := ags.2) ht hsz]
        · simp at he
      · simp at he
    · simp at he
theorem look_same (f : Nat → Option MObj) : ∀ (l : List (Nat × Nat)) (k : Nat), look (l.map fun p => (p.1, f p.1)) k = if k ∈ l.map (·.1) then some (f k) else none := by
  intro l k
  induction l with
  | nil => rfl
  | cons p l ih =>
    rw [List.map_cons, look_cons, ih]
    by_cases e : p.1 = k
    · subst e; simp
    · have : ¬ k = p.1 := fun h => e h.symm
      rw [if_neg e, List.map_cons]
      simp only [List.mem_cons, this, false_or]
theorem look_same0 : ∀ (l : List (Nat × Nat)) (k : Nat), k ∉ l.map (·.1) → look (l.map fun p => (p.1, (none : Option MObj))) k = none := by
  intro l k h
  induction l with
  | nil => rfl
  | cons p l ih =>
    simp only [List.map_cons, List.mem_cons, not_or] at h
    rw [List.map_cons, look_cons, if_neg (fun e => h.1 e.symm), ih h.2]
theorem OpOK.still {P : Program} {o : Oper} {s : AState} {keys news : List Nat} {res : AVal} (inv : List (Nat × Nat)) {post : List (Nat × Option MObj)} (hp : post = (inv.map fun p => (p.1, s.obj p.1)) ++ inv.map fun p => (p.1, none)) (hk : ∀ p ∈ inv, p.1 ∈ keys)
    (h : OpOK P o (mkSp s o keys news res post)) : OpOK P o (mkSp s o keys news res []) := by
  intro Γ hP hd s2 a w hs hn hf K Q hK
  refine h Γ hP hd s2 a w hs hn hf K Q (fun a' w' h' => hK a' w' (h'.eqv ⟨fun x => ?_, fun k => ?_, ?_⟩))
  · simp only [Sp.act, mkSp]
    cases o.dst with
    | none => rfl
    | some d => rw [AState.get_put, AState.get_put]; rfl
  · have e1 : ∀ (s : AState) (d : Option Nat) (v : AVal) (k : Nat), (s.put d v).obj k = s.obj k := fun s d v k => by cases d <;> rfl
    simp only [Sp.act, mkSp, e1, obj_objput, hp, look_append, look_same]
    by_cases c : k ∈ inv.map (·.1)
    · obtain ⟨p, hp', rfl⟩ := List.mem_map.1 c
      have h2 : s2.obj p.1 = s.obj p.1 := hn.2 (p.1, s.obj p.1) (List.mem_map.2 ⟨p.1, hk p hp', rfl⟩)
      rw [if_pos c]
      show s.obj p.1 = _
      rw [h2]; rfl
    · rw [if_neg c, look_same0 _ _ c]; rfl
  · simp only [Sp.act, mkSp]
    cases o.dst <;> rfl
def xCallQ (inv : List (Nat × Nat)) (floor : Nat) (r : AVal) (objs : List (Nat × Option MObj)) : Ext where
  f P o s := match o.op with
    | .call { callee := .value fo, args := ags, argTypes := ts } => match autoCallT P (fun x => x) inv (swapL inv) [] [] floor r objs s fo ags with
      | some e => some ⟨e.keys, e.news, e.res, [], (e.post = (inv.map fun p => (p.1, s.obj p.1)) ++ inv.map fun p => (p.1, none)) :: e.props⟩
      | none => none
    | _ => none
  ok P o s e he hp := by
    split at he
    · rename_i fo ags ts ho
      split at he
      · rename_i e' he'
        obtain rfl := Option.some.inj he
        obtain ⟨h1, h2⟩ := hp
        refine OpOK.still inv h1 ?_ (autoCallT_ok (fun _ _ _ _ _ h => h) ho he' h2)
        unfold autoCallT at he'
        split at he'
        · split at he'
          · split at he'
            · obtain rfl := Option.some.inj he'
              exact fun p hp => List.mem_append_left _ (List.mem_map.2 ⟨p, hp, rfl⟩)
            · simp at he'
          · simp at he'
        · simp at he'
      · simp at he
    · simp at he
end Go.Pv
set_option linter.unusedVariables false
set_option linter.unusedSimpArgs false
namespace Go.Pv
open Go.Instr
abbrev gM {K : Type} (vk : K → Value) (l : List (K × AVal)) (bs : List Nat) (c : Nat) : MObj := .gmap (l.map fun p => vk p.1) (l.map (·.2)) bs c
theorem gmap_at {w : World} {I : Nat → Prop} {κ : Nat → Option KI} {k : Nat} {ks : List Value} {xs : List AVal} {bs : List Nat} {c : Nat} (h : OAt w I κ k (.gmap ks xs bs c)) : ∃ ki arr, κ k = some ki ∧ xs.length = ks.length ∧ bs.length = ks.length ∧ bs.Nodup ∧ (∀ b ∈ bs, b < c) ∧ ks.Nodup ∧
    w.heap[ki.b]? = some (.map arr c) ∧ arr.size = ks.length ∧ ∀ i (h : i < ks.length), ∃ e, arr[i]? = some e ∧ (∀ (h' : i < bs.length), e.born = bs[i]) ∧ e.key = ks[i] ∧ ∀ (h' : i < xs.length), Rep w I κ (xs[i]) e.val := by
  unfold OAt at h
  cases e : κ k with
  | none => rw [e] at h; obtain ⟨_, _, h⟩ := h; simp at h
  | some ki => rw [e] at h; obtain ⟨h0, p1, p2, p3, p4, arr, h1, h2, h3⟩ := h; exact ⟨ki, arr, rfl, h0, p1, p2, p3, p4, h1, h2, h3⟩
theorem gM_at {K : Type} {vk : K → Value} {l : List (K × AVal)} {bs : List Nat} {c : Nat} {w : World} {I : Nat → Prop} {κ : Nat → Option KI} {k : Nat} (h : OAt w I κ k (gM vk l bs c)) : ∃ ki arr, κ k = some ki ∧ bs.length = l.length ∧ bs.Nodup ∧ (∀ b ∈ bs, b < c) ∧ (l.map fun p => vk p.1).Nodup ∧
    w.heap[ki.b]? = some (.map arr c) ∧ arr.size = l.length ∧ arr.toList.map (·.key) = (l.map (·.1)).map vk ∧ ∀ i (h : i < l.length), ∃ e, arr[i]? = some e ∧ (∀ (h' : i < bs.length), e.born = bs[i]) ∧ e.key = vk (l[i]).1 ∧ Rep w I κ (l[i]).2 e.val := by
  obtain ⟨ki, arr, eκ, h0, p1, p2, p3, p4, h1, h2, h3⟩ := gmap_at h
  simp only [List.length_map] at p1 h2 h3
  have h3' : ∀ i (h : i < l.length), ∃ e, arr[i]? = some e ∧ (∀ (h' : i < bs.length), e.born = bs[i]) ∧ e.key = vk (l[i]).1 ∧ Rep w I κ (l[i]).2 e.val := fun i h => by
    obtain ⟨e, a1, a2, a3, a4⟩ := h3 i h
    exact ⟨e, a1, a2, by rw [a3]; simp, by have := a4 h; simpa using this⟩
  exact ⟨ki, arr, eκ, p1, p2, p3, p4, h1, h2, keys_aM h2 (fun i hi => let ⟨e, a1, a2, a3, _⟩ := h3' i hi; ⟨e, a1, a3⟩), h3'⟩
def xMkG (k : Nat) : Ext where
  f P o s := match o.op with
    | .makeMap t none => some ⟨[], [k], .mown k, [(k, some (.gmap [] [] [] 0))], []⟩
    | _ => none
  ok P o s e he hp := by
    split at he
    · rename_i t ho
      obtain rfl := Option.some.inj he
      refine .of fun Γ κ I s2 a w hP hr hn hf => ?_
      have hfk := hf k (by simp [mkSp])
      let ki : KI := ⟨w.heap.size, 0, 0, 0⟩
      have hO : ORep (World.alloc' w (.map #[] 0)) I (setK κ k (some ki)) ki (.gmap [] [] [] 0) := ⟨rfl, rfl, List.nodup_nil, fun b h => (by cases h), List.nodup_nil, #[], alloc_new _ _, rfl, fun i h => absurd h (Nat.not_lt_zero _)⟩
      obtain ⟨f1, f2, f3⟩ := hr.inv.alloc hfk (ki := ki) rfl hO
      refine ⟨_, _, _, _, I, .inl rfl, ?_, f1, fun _ h => h, f2, f3, .mown (ki := ki) (setK_self ..)⟩
      simp [execOp, ho, makeMap, newObj, Sem.run, World.alloc', ki]
    · simp at he
def gbs (b : Bool) (bs : List Nat) (c : Nat) : List Nat := match b with | true => bs | false => bs ++ [c]
def gcl (b : Bool) (c : Nat) : Nat := match b with | true => c | false => c + 1
theorem mget_not {K : Type} [DecidableEq K] {vk : K → Value} (hinj : ∀ a b, vk a = vk b → a = b) {k : K} : ∀ l : List (K × AVal), mget l k = none → vk k ∉ l.map fun p => vk p.1
  | [], _ => by simp
  | x :: l, h => by
    rw [mget] at h
    by_cases c : x.1 = k
    · rw [if_pos c] at h; cases h
    · rw [if_neg c] at h
      intro h2
      rcases List.mem_cons.1 h2 with e | e
      · exact c (hinj _ _ e).symm
      · exact mget_not hinj l h e
def xPutG {K : Type} [DecidableEq K] (vk : K → Value) (l : List (K × AVal)) (k : K) (v : AVal) (b : Bool) (l' : List (K × AVal)) : Ext where
  f P o s := match putOp o.op with
    | some (t, x, y, z) => match P.underlying t, s.eval x with
      | some (.map kt et), .mown m => match s.obj m with
        | some (.gmap ks xs bs c) => some ⟨[m], [], .top, [(m, some (gM vk l' (gbs b bs c) (gcl b c)))], [KeyOK P kt vk, ks = l.map (fun p => vk p.1), xs = l.map (·.2), valA (s.eval y) = some (vk k), s.eval z = v, (mget l k).isSome = b, mput l k v = l', (∀ a b, vk a = vk b → a = b)]⟩
        | _ => none
      | _, _ => none
    | none => none
  ok P o s e he hp := by
    split at he
    · rename_i t x y z hop
      have hop := putOp_of hop
      split at he
      · rename_i kt et m ht hx
        split at he
        · rename_i ks xs bs c hm
          obtain rfl := Option.some.inj he
          obtain ⟨hK, rfl, rfl, hy, hz, hbb, rfl, hinj, _⟩ := hp
          refine .of fun Γ κ I s2 a w hP hr hn hf => ?_
          have g1 := opd hr hn x (by rcases hop with ho | ho <;> simp [ho, Op.operands]) hx
          have g2 := valA_rep hy (opd hr hn y (by rcases hop with ho | ho <;> simp [ho, Op.operands]) rfl)
          have hv := opd hr hn z (by rcases hop with ho | ho <;> simp [ho, Op.operands]) hz
          have hm2 := (needs_obj hn m (by simp)).trans hm
          obtain ⟨ki, eκ, ex⟩ := mown_inv g1
          obtain ⟨ki', arr, eκ', p1, p2, p3, p4, h1, h2, hks, h3'⟩ := gM_at (l := l) (hr.inv.objs m _ hm2)
          rw [eκ] at eκ'; obtain rfl := Option.some.inj eκ'
          obtain ⟨r1, r2⟩ := run_mput (v := a.eval z) (k := k) ht hK h1 hks
          have hb : ki.b < w.heap.size := (Array.getElem?_eq_some_iff.1 h1).1
          have hne : ∀ ob b, I b → (World.setBlock w ki.b ob).heap[b]? = w.heap[b]? := fun ob b hb' => by
            rw [setBlock_get _ _ _ _ hb, if_neg]
            rintro rfl
            exact hr.inv.disj m _ ki hm2 eκ hb'
          have fin : ∀ ob O, (execOp a.eval o).run P w = .ok .skip (World.setBlock w ki.b ob) → ORep (World.setBlock w ki.b ob) I κ ki O →
              ∃ v' nx w' κ' I', Gives v' nx ∧ (execOp a.eval o).run P w = .ok nx w' ∧ Inv Γ κ' I' (s2.objput [(m, some O)]) w' ∧ (∀ b, I b → I' b) ∧ (∀ b, I b → w'.heap[b]? = w.heap[b]?) ∧ (∀ x k, (s2.get x).has k = true → κ' k = κ k) ∧ Rep w' I' κ' .top v' := by
            intro ob O hrun hO
            obtain ⟨f1, f2⟩ := hr.inv.update hm2 eκ hO
            exact ⟨_, _, _, κ, I, .inr ⟨rfl, rfl⟩, hrun, f1, fun _ h => h, f2, fun _ _ _ => rfl, .top _⟩
          rcases hit_ok k l arr.toList 0 (by simp [h2]) with ⟨q1, q2, q3⟩ | ⟨i, e, p, q1, q2, q3, q4, q5, q6⟩
          · rw [q2] at hbb
            obtain rfl : false = b := hbb
            refine fin (.map (arr.push ⟨vk k, a.eval z, c⟩) (c + 1)) _ (by rcases hop with ho | ho <;> simp only [execOp, ho, ex, g2, Sem.run_bind, r1 q1, Result.andThen_ok, Sem.run_pure]) ?_
            rw [q3]
            have hnot : vk k ∉ l.map fun p => vk p.1 := mget_not hinj l q2
            refine ⟨by simp, by simp [gbs, p1], ?_, ?_, ?_, arr.push ⟨vk k, a.eval z, c⟩, by rw [setBlock_get _ _ _ _ hb, if_pos rfl]; rfl, by simp [h2], fun i hi => ?_⟩
            · show (bs ++ [c]).Nodup
              rw [List.nodup_append]
              exact ⟨p2, by simp, fun a ha b hb' e => by subst e; have := p3 a ha; simp at hb'; omega⟩
            · intro b' hb'
              rcases List.mem_append.1 hb' with h | h
              · have := p3 b' h; show b' < c + 1; omega
              · simp at h; show b' < c + 1; omega
            · rw [List.map_append, List.nodup_append]
              exact ⟨p4, by simp, fun a ha b hb' e => by subst e; simp at hb'; rw [hb'] at ha; exact hnot ha⟩
            · simp only [List.length_map, List.length_append, List.length_cons, List.length_nil] at hi
              by_cases c' : i < l.length
              · obtain ⟨e, a1, a2, a3, a4⟩ := h3' i c'
                refine ⟨e, by rw [Array.getElem?_push, if_neg (by omega), a1], fun h' => ?_, ?_, fun h' => ?_⟩
                · rw [a2 (by omega)]; simp only [gbs]; rw [List.getElem_append_left (by omega)]
                · rw [a3]; simp [List.getElem_append, c']
                · have : ((l ++ [(k, v)]).map (·.2))[i]'h' = (l[i]).2 := by simp [List.getElem_append, c']
                  rw [this]; exact a4.mono (fun _ h => h) (hne _) (fun _ _ => rfl)
              · have hi' : i = l.length := by omega
                refine ⟨⟨vk k, a.eval z, c⟩, by rw [Array.getElem?_push, if_pos (by omega)], fun h' => ?_, by simp [hi'], fun h' => ?_⟩
                · simp only [gbs]; rw [List.getElem_append_right (by omega)]; simp
                · have : ((l ++ [(k, v)]).map (·.2))[i]'h' = v := by simp [hi']
                  rw [this]; exact hv.mono (fun _ h => h) (hne _) (fun _ _ => rfl)
          · rw [q5] at hbb
            obtain rfl : true = b := hbb
            have q1' : arr[i]? = some e := by simpa using q1
            have hil : i < l.length := (List.getElem?_eq_some_iff.1 q2).1
            have hli : l[i] = p := (List.getElem?_eq_some_iff.1 q2).2
            obtain ⟨e', a1, a2, a3, a4⟩ := h3' i hil
            rw [q1'] at a1; obtain rfl := Option.some.inj a1
            have hkey : e.key = vk k := by rw [a3, hli, q3]
            have hrun := r2 i e.val e (by rw [q4]; simp) q1' hkey
            refine fin (.map (arr.modify i fun e => { e with key := vk k, val := a.eval z }) c) _ (by rcases hop with ho | ho <;> simp only [execOp, ho, ex, g2, Sem.run_bind, hrun, Result.andThen_ok, Sem.run_pure]) ?_
            rw [q6]
            have hkm : (l.set i (k, v)).map (fun p => vk p.1) = l.map fun p => vk p.1 := by
              apply List.ext_getElem (by simp)
              intro j h1 h2
              simp only [List.length_map, List.length_set] at h1
              simp only [List.getElem_map, List.getElem_set]
              by_cases c : i = j
              · subst c; rw [if_pos rfl, hli, q3]
              · rw [if_neg c]
            refine ⟨by simp, by simp [gbs, p1], p2, p3, by rw [hkm]; exact p4, arr.modify i fun e => { e with key := vk k, val := a.eval z }, by rw [setBlock_get _ _ _ _ hb, if_pos rfl]; rfl, by simp [h2], fun j hj => ?_⟩
            simp only [List.length_map, List.length_set] at hj
            obtain ⟨e2, b1, b2, b3, b4⟩ := h3' j hj
            by_cases c : i = j
            · subst c
              refine ⟨{ e with key := vk k, val := a.eval z }, by simp [Array.getElem?_modify, q1'], a2, by simp, fun h' => ?_⟩
              have : ((l.set i (k, v)).map (·.2))[i]'h' = v := by simp
              rw [this]; exact hv.mono (fun _ h => h) (hne _) (fun _ _ => rfl)
            · refine ⟨e2, by simp [Array.getElem?_modify, c, b1], b2, ?_, fun h' => ?_⟩
              · rw [b3]; simp [List.getElem_set, c]
              · have : ((l.set i (k, v)).map (·.2))[j]'h' = (l[j]).2 := by simp [List.getElem_set, c]
                rw [this]; exact b4.mono (fun _ h => h) (hne _) (fun _ _ => rfl)
        · simp at he
      · simp at he
    · simp at he
def idxK {K : Type} [DecidableEq K] : List (K × AVal) → K → Option Nat
  | [], _ => none
  | p :: l, k => if p.1 = k then some 0 else (idxK l k).map (· + 1)
theorem hit_idx {K : Type} [DecidableEq K] (k : K) : ∀ (l : List (K × AVal)) (E : List MapEntry) (off : Nat), E.length = l.length →
    (hit k (l.map (·.1)) E off = none ∧ idxK l k = none) ∨ ∃ i v, idxK l k = some i ∧ i < l.length ∧ hit k (l.map (·.1)) E off = some (off + i, v)
  | [], E, off, _ => .inl ⟨by simp [hit], rfl⟩
  | p :: l, [], off, h => by simp at h
  | p :: l, e :: E, off, h => by
    by_cases c : p.1 = k
    · exact .inr ⟨0, e.val, by simp [idxK, c], by simp, by simp [hit, c]⟩
    · rcases hit_idx k l E (off + 1) (by simpa using h) with ⟨h1, h2⟩ | ⟨i, v, h1, h2, h3⟩
      · exact .inl ⟨by simp [hit, c, h1], by simp [idxK, c, h2]⟩
      · exact .inr ⟨i + 1, v, by simp [idxK, c, h1], by simpa using h2, by simp [hit, c, h3]; omega⟩
theorem eraseIB_toList (arr : Array MapEntry) (i : Nat) : (arr.eraseIdxIfInBounds i).toList = arr.toList.eraseIdx i := by
  unfold Array.eraseIdxIfInBounds
  split
  · rw [Array.toList_eraseIdx]
  · rename_i h
    rw [List.eraseIdx_of_length_le (by simpa using h)]
def xDelG {K : Type} [DecidableEq K] (vk : K → Value) (l : List (K × AVal)) (k : K) (oi : Option Nat) : Ext where
  f P o s := match o.op with
    | .call { callee := .builtin .delete, args := ⟨[x, y]⟩, argTypes := ts } => match ts[0]? with
      | some t => match P.underlying t, s.eval x with
        | some (.map kt et), .mown m => match s.obj m, oi with
          | some (.gmap ks xs bs c), some i => some ⟨[m], [], .im (.sc (.tuple #[])), [(m, some (.gmap (ks.eraseIdx i) (xs.eraseIdx i) (bs.eraseIdx i) c))], [KeyOK P kt vk, ks = l.map (fun p => vk p.1), xs = l.map (·.2), valA (s.eval y) = some (vk k), idxK l k = some i]⟩
          | some (.gmap ks xs bs c), none => some ⟨[m], [], .im (.sc (.tuple #[])), [(m, some (.gmap ks xs bs c))], [KeyOK P kt vk, ks = l.map (fun p => vk p.1), xs = l.map (·.2), valA (s.eval y) = some (vk k), idxK l k = none]⟩
          | _, _ => none
        | _, _ => none
      | none => none
    | _ => none
  ok P o s e he hp := by
    split at he
    · rename_i x y ts ho
      split at he
      · rename_i t hts
        split at he
        · rename_i kt et m ht hx
          have both : ∀ (ks : List Value) (xs : List AVal) (bs : List Nat) (c : Nat) (oi : Option Nat) (ks' : List Value) (xs' : List AVal) (bs' : List Nat), s.obj m = some (.gmap ks xs bs c) → KeyOK P kt vk → ks = l.map (fun p => vk p.1) → xs = l.map (·.2) → valA (s.eval y) = some (vk k) → idxK l k = oi →
              (∀ i, oi = some i → ks' = ks.eraseIdx i ∧ xs' = xs.eraseIdx i ∧ bs' = bs.eraseIdx i) → (oi = none → ks' = ks ∧ xs' = xs ∧ bs' = bs) →
              OpOK P o (mkSp s o [m] [] (.im (.sc (.tuple #[]))) [(m, some (.gmap ks' xs' bs' c))]) := by
            intro ks xs bs c oi ks' xs' bs' hm hK eks exs hy hoi hE hN
            subst eks exs
            refine .of fun Γ κ I s2 a w hP hr hn hf => ?_
            have g1 := opd hr hn x (by simp [ho, Op.operands, Call.operands]) hx
            have g2 := valA_rep hy (opd hr hn y (by simp [ho, Op.operands, Call.operands]) rfl)
            have hm2 := (needs_obj hn m (by simp)).trans hm
            obtain ⟨ki, eκ, ex⟩ := mown_inv g1
            obtain ⟨ki', arr, eκ', p1, p2, p3, p4, h1, h2, hks, h3'⟩ := gM_at (l := l) (hr.inv.objs m _ hm2)
            rw [eκ] at eκ'; obtain rfl := Option.some.inj eκ'
            have hb : ki.b < w.heap.size := (Array.getElem?_eq_some_iff.1 h1).1
            have hne : ∀ ob b, I b → (World.setBlock w ki.b ob).heap[b]? = w.heap[b]? := fun ob b hb' => by
              rw [setBlock_get _ _ _ _ hb, if_neg]
              rintro rfl
              exact hr.inv.disj m _ ki hm2 eκ hb'
            have fin : ∀ ob O, (execOp a.eval o).run P w = .ok (.value (.tuple #[])) (World.setBlock w ki.b ob) → ORep (World.setBlock w ki.b ob) I κ ki O →
                ∃ v' nx w' κ' I', Gives v' nx ∧ (execOp a.eval o).run P w = .ok nx w' ∧ Inv Γ κ' I' (s2.objput [(m, some O)]) w' ∧ (∀ b, I b → I' b) ∧ (∀ b, I b → w'.heap[b]? = w.heap[b]?) ∧ (∀ x k, (s2.get x).has k = true → κ' k = κ k) ∧ Rep w' I' κ' (.im (.sc (.tuple #[]))) v' := by
              intro ob O hrun hO
              obtain ⟨f1, f2⟩ := hr.inv.update hm2 eκ hO
              exact ⟨_, _, _, κ, I, .inl rfl, hrun, f1, fun _ h => h, f2, fun _ _ _ => rfl, .im (.sc _)⟩
            rcases hit_idx k l arr.toList 0 (by simp [h2]) with ⟨q1, q2⟩ | ⟨i, v, q1, q2, q3⟩
            · obtain ⟨rfl, rfl, rfl⟩ := hN (by rw [← hoi, q2])
              refine fin (.map arr c) _ ?_ ?_
              · simp [execOp, ho, resolve, invoke, builtin, ex, g2, Builtin.delete_, hts, run_underlying' ht, run_getMap h1, hK.check, hK.find k arr.toList (l.map (·.1)) w hks, q1, run_setMap h1]
              · refine ⟨by simp, by simp [p1], p2, p3, p4, arr, by rw [setBlock_get _ _ _ _ hb, if_pos rfl], by simp [h2], fun i hi => ?_⟩
                simp only [List.length_map] at hi
                obtain ⟨e, a1, a2, a3, a4⟩ := h3' i hi
                exact ⟨e, a1, a2, by rw [a3]; simp, fun h' => by rw [List.getElem_map]; exact a4.mono (fun _ h => h) (hne _) (fun _ _ => rfl)⟩
            · obtain ⟨rfl, rfl, rfl⟩ := hE i (by rw [← hoi, q1])
              refine fin (.map (arr.eraseIdxIfInBounds i) c) _ ?_ ?_
              · simp [execOp, ho, resolve, invoke, builtin, ex, g2, Builtin.delete_, hts, run_underlying' ht, run_getMap h1, hK.check, hK.find k arr.toList (l.map (·.1)) w hks, q3, run_setMap h1]
              · have hlen : (arr.eraseIdxIfInBounds i).size = l.length - 1 := by
                  rw [← Array.length_toList, eraseIB_toList, List.length_eraseIdx, Array.length_toList, h2, if_pos q2]
                refine ⟨by simp [List.length_eraseIdx], by simp [List.length_eraseIdx, p1], p2.sublist (List.eraseIdx_sublist _ _), fun b hb' => p3 b (List.mem_of_mem_eraseIdx hb'), p4.sublist (List.eraseIdx_sublist _ _), arr.eraseIdxIfInBounds i, by rw [setBlock_get _ _ _ _ hb, if_pos rfl], by rw [hlen]; simp [List.length_eraseIdx, q2], fun j hj => ?_⟩
                simp only [List.length_eraseIdx, List.length_map, if_pos q2] at hj
                have hget : ∀ j, (arr.eraseIdxIfInBounds i)[j]? = if j < i then arr[j]? else arr[j + 1]? := fun j => by
                  rw [← Array.getElem?_toList, eraseIB_toList, List.getElem?_eraseIdx]
                  split <;> simp
                by_cases c' : j < i
                · obtain ⟨e, a1, a2, a3, a4⟩ := h3' j (by omega)
                  refine ⟨e, by rw [hget, if_pos c', a1], fun h' => ?_, ?_, fun h' => ?_⟩
                  · rw [List.getElem_eraseIdx_of_lt _ c']; exact a2 (by omega)
                  · rw [List.getElem_eraseIdx_of_lt _ c', a3]; simp
                  · rw [List.getElem_eraseIdx_of_lt _ c', List.getElem_map]; exact a4.mono (fun _ h => h) (hne _) (fun _ _ => rfl)
                · obtain ⟨e, a1, a2, a3, a4⟩ := h3' (j + 1) (by omega)
                  refine ⟨e, by rw [hget, if_neg c', a1], fun h' => ?_, ?_, fun h' => ?_⟩
                  · rw [List.getElem_eraseIdx_of_ge _ (by omega)]; exact a2 (by omega)
                  · rw [List.getElem_eraseIdx_of_ge _ (by omega), a3]; simp
                  · rw [List.getElem_eraseIdx_of_ge _ (by omega), List.getElem_map]; exact a4.mono (fun _ h => h) (hne _) (fun _ _ => rfl)
          split at he
          · rename_i ks xs bs c i hm
            obtain rfl := Option.some.inj he
            obtain ⟨hK, eks, exs, hy, hi, _⟩ := hp
            exact both ks xs bs c (some i) _ _ _ hm hK eks exs hy hi (fun j e => by cases e; exact ⟨rfl, rfl, rfl⟩) (fun e => by cases e)
          · rename_i ks xs bs c hm
            obtain rfl := Option.some.inj he
            obtain ⟨hK, eks, exs, hy, hi, _⟩ := hp
            exact both ks xs bs c none _ _ _ hm hK eks exs hy hi (fun j e => by cases e) (fun e => ⟨rfl, rfl, rfl⟩)
          · simp at he
        · simp at he
      · simp at he
    · simp at he
def xLookG {K : Type} [DecidableEq K] (vk : K → Value) (l : List (K × AVal)) (k : K) (r : AVal) : Ext where
  f P o s := match o.op with
    | .lookup t x y false => match P.underlying t, s.eval x with
      | some (.map kt et), .mown m => match s.obj m, zeroA P et with
        | some (.gmap ks xs bs c), some z => some ⟨[m], [], r, [], [KeyOK P kt vk, ks = l.map (fun p => vk p.1), xs = l.map (·.2), valA (s.eval y) = some (vk k), (mget l k).getD z = r]⟩
        | _, _ => none
      | _, _ => none
    | _ => none
  ok P o s e he hp := by
    split at he
    · rename_i t x y ho
      split at he
      · rename_i kt et m ht hx
        split at he
        · rename_i ks xs bs c z hm hz
          obtain rfl := Option.some.inj he
          obtain ⟨hK, rfl, rfl, hy, hr0, _⟩ := hp
          unfold zeroA at hz
          cases hi : P.info? et with
          | none => rw [hi] at hz; simp at hz
          | some i =>
            cases hzz : i.zero with
            | none => rw [hi] at hz; simp [hzz] at hz
            | some zv =>
              rw [hi] at hz
              simp [hzz] at hz
              refine .quiet rfl fun Γ κ I s2 a w hP hr hn => ?_
              have g1 := opd hr hn x (by simp [ho, Op.operands]) hx
              have g2 := valA_rep hy (opd hr hn y (by simp [ho, Op.operands]) rfl)
              have hm2 := (needs_obj hn m (by simp)).trans hm
              obtain ⟨ki, eκ, ex⟩ := mown_inv g1
              obtain ⟨ki', arr, eκ', p1, p2, p3, p4, h1, h2, hks, h3'⟩ := gM_at (l := l) (hr.inv.objs m _ hm2)
              rw [eκ] at eκ'; obtain rfl := Option.some.inj eκ'
              have hz0 : (zeroValue et).run P w = .ok zv w := by simp [zeroValue, run_typeInfo' hi, hzz]
              have hrun := run_mlook (k := k) (c := false) ht hK h1 hks hz0
              have hrep : Rep w I κ r (((hit k (l.map (·.1)) arr.toList 0).map (·.2)).getD zv) := by
                rcases hit_ok k l arr.toList 0 (by simp [h2]) with ⟨q1, q2, q3⟩ | ⟨i, e, p, q1, q2, q3, q4, q5, q6⟩
                · rw [q1]
                  rw [q2] at hr0
                  have := constA_rep w I κ zv
                  rw [hz] at this; rw [← hr0]; exact this
                · rw [q4]
                  rw [q5] at hr0
                  have q1' : arr[i]? = some e := by simpa using q1
                  have hil : i < l.length := (List.getElem?_eq_some_iff.1 q2).1
                  obtain ⟨e', a1, a2, a3, a4⟩ := h3' i hil
                  rw [q1'] at a1; obtain rfl := Option.some.inj a1
                  have := (List.getElem?_eq_some_iff.1 q2).2
                  rw [this] at a4
                  rw [← hr0]; exact a4
              exact ⟨_, by simp [execOp, ho, ex, g2, hrun], hrep⟩
        · simp at he
      · simp at he
    · simp at he
def xLenG (n : Int) : Ext where
  f P o s := match o.op with
    | .call { callee := .builtin .len, args := ⟨[x]⟩, argTypes := ts } => match ts[0]? with
      | some t => match P.underlying t, s.eval x with
        | some (.map _ _), .mown m => match s.obj m with
          | some (.gmap ks xs bs c) => some ⟨[m], [], .im (.sc (.int .i64 n)), [], [n = (ks.length : Int)]⟩
          | _ => none
        | _, _ => none
      | none => none
    | _ => none
  ok P o s e he hp := by
    split at he
    · rename_i x ts ho
      split at he
      · rename_i t hts
        split at he
        · rename_i kt et m ht hx
          split at he
          · rename_i ks xs bs c hm
            obtain rfl := Option.some.inj he
            obtain ⟨rfl, _⟩ := hp
            refine .quiet rfl fun Γ κ I s2 a w hP hr hn => ?_
            have g1 := opd hr hn x (by simp [ho, Op.operands, Call.operands]) hx
            have hm2 := (needs_obj hn m (by simp)).trans hm
            obtain ⟨ki, eκ, ex⟩ := mown_inv g1
            obtain ⟨ki', arr, eκ', h0, p1, p2, p3, p4, h1, h2, h3⟩ := gmap_at (hr.inv.objs m _ hm2)
            rw [eκ] at eκ'; obtain rfl := Option.some.inj eκ'
            refine ⟨.int .i64 (ks.length : Int), ?_, .im (.sc _)⟩
            simp [execOp, ho, resolve, invoke, builtin, ex, Builtin.len_, hts, run_underlying' ht, run_getMap h1, goInt, h2]
          · simp at he
        · simp at he
      · simp at he
    · simp at he
def xRngG (k : Nat) : Ext where
  f P o s := match o.op with
    | .range t x => match P.underlying t, s.eval x with
      | some (.map _ _), .mown m => match s.obj m with
        | some (.gmap ks xs bs c) => some ⟨[m], [k], .ptr k 0 0, [(k, some (.iter (some m) c []))], []⟩
        | _ => none
      | _, _ => none
    | _ => none
  ok P o s e he hp := by
    split at he
    · rename_i t x ho
      split at he
      · rename_i kt et m ht hx
        split at he
        · rename_i ks xs bs c hm
          obtain rfl := Option.some.inj he
          refine .of fun Γ κ I s2 a w hP hr hn hf => ?_
          have hfk := hf k (by simp [mkSp])
          have g1 := opd hr hn x (by simp [ho, Op.operands]) hx
          have hm2 := (needs_obj hn m (by simp)).trans hm
          obtain ⟨km, eκ, ex⟩ := mown_inv g1
          obtain ⟨ki', arr, eκ', h0, p1, p2, p3, p4, h1, h2, h3⟩ := gmap_at (hr.inv.objs m _ hm2)
          rw [eκ] at eκ'; obtain rfl := Option.some.inj eκ'
          have hmk : m ≠ k := fun e => by rw [e, hfk.2.2.1] at hm2; simp at hm2
          let ki : KI := ⟨w.heap.size, 0, 0, 0⟩
          have hO : ORep (World.alloc' w (.mapIter (some km.b) c #[] c)) I (setK κ k (some ki)) ki (.iter (some m) c []) :=
            ⟨km.b, alloc_new _ _, fun m' e => by obtain rfl := Option.some.inj e; exact ⟨km, (setK_ne _ _ _ hmk).trans eκ, rfl⟩⟩
          obtain ⟨f1, f2, f3⟩ := hr.inv.alloc hfk (ki := ki) rfl hO
          refine ⟨.pointer (some ⟨w.heap.size, 0, none⟩), _, World.alloc' w (.mapIter (some km.b) c #[] c), _, I, .inl rfl, ?_, f1, fun _ h => h, f2, f3, ?_⟩
          · simp [execOp, ho, ex, Instr.range, run_underlying' ht, run_getMap h1, newObj, Sem.run, World.alloc']
          · have := Rep.ptr (w := World.alloc' w (.mapIter (some km.b) c #[] c)) (I := I) (κ := setK κ k (some ki)) (k := k) (e := 0) (j := 0) (ki := ki) (setK_self ..)
            show Rep _ _ _ (.ptr k 0 0) _
            simpa [ki] using this
        · simp at he
      · simp at he
    · simp at he
theorem borns_eq {arr : Array MapEntry} {bs : List Nat} (hn : bs.length = arr.size) (h : ∀ i (h : i < arr.size), ∃ e, arr[i]? = some e ∧ ∀ (h' : i < bs.length), e.born = bs[i]) : arr.toList.map (·.born) = bs := by
  apply List.ext_getElem (by simp [hn])
  intro i h1 h2
  simp only [List.length_map, Array.length_toList] at h1
  obtain ⟨e, a1, a2⟩ := h i h1
  rw [Array.getElem?_eq_getElem h1] at a1
  simp only [List.getElem_map, Array.getElem_toList]
  rw [Option.some.inj a1]; exact a2 h2
theorem AWp.nextG {Γ : Ctx} {P : Program} {id : Nat} {o1 o2 : Oper} {Q : Exit → AState → Prop} {s : AState} {x : Operand} (d1 d2 k m : Nat) {n : Nat} {sn : List Nat} {ks : List Value} {xs : List AVal} {bs : List Nat} (hP : Γ.P = P)
    (h1 : o1.op = .next x false) (h2 : o2.op = .extract (.tmp d1) 0) (g1 : o1.guard = none) (g2 : o2.guard = none) (e1 : o1.dst = some d1) (e2 : o2.dst = some d2) (l1 : d1 < Γ.n) (l2 : d2 < Γ.n)
    (hx : s.eval x = .ptr k 0 0) (hk : s.obj k = some (.iter (some m) n sn)) (hm : s.obj m = some (.gmap ks xs bs n))
    (h0 : (∀ b ∈ bs, b ∈ sn) → Q .normal ((s.put (some d1) .top).put (some d2) (.im (.sc (.bool false)))))
    (hi : ∀ (i : Nat) (h : i < bs.length), bs[i] ∉ sn → Q .normal (((s.objput [(k, some (.iter (some m) n (sn ++ [bs[i]])))]).put (some d1) .top).put (some d2) (.im (.sc (.bool true))))) :
    AWp Γ (.region id #[o1, o2] false) Q s := by
  subst hP
  intro a w hs
  refine wp_region_lit ?_
  refine wpList_plain g1 fun K hK => ?_
  obtain ⟨κ, I, hr⟩ := hs
  obtain ⟨km, arr, eκ, h00, p1, p2, p3, p4, q1, q2, q3⟩ := gmap_at (hr.inv.objs m _ hm)
  obtain ⟨ki, bm, eκ2, r1, r2⟩ := iter_at (hr.inv.objs k _ hk)
  obtain ⟨km', e', rfl⟩ := r2 m rfl
  rw [eκ] at e'; obtain rfl := Option.some.inj e'
  have hrx := hr.eval x
  rw [hx] at hrx
  have ex := ptr00 hrx eκ2
  have hbn := borns_eq (arr := arr) (by rw [p1, q2]) (fun j hj => let ⟨e2, b1, b2, _⟩ := q3 j (by omega); ⟨e2, b1, b2⟩)
  have hlt : ∀ e ∈ arr.toList, e.born < n := fun e he => p3 _ (by rw [← hbn]; exact List.mem_map.2 ⟨e, he, rfl⟩)
  have step2 : ∀ (s1 : AState) (a1 : Act) (w1 : World) (b : Bool) (vs : List Value), Sat Γ s1 (a1.put (some d1) (.tuple ((.bool b) :: vs).toArray)) w1 → d1 < a1.tmps.size → Q .normal (s1.put (some d2) (.im (.sc (.bool b)))) →
      wpList Γ.P #[o1, o2] (fun e a' w' => ∃ s', Sat Γ s' a' w' ∧ Q e s') [o2] (a1.put (some d1) (.tuple ((.bool b) :: vs).toArray)) w1 := by
    intro s1 a1 w1 b vs hs1 hsz hq
    refine wpList_plain g2 fun K hK => ?_
    have hval : (a1.put (some d1) (.tuple ((.bool b) :: vs).toArray)).eval (.tmp d1) = .tuple ((.bool b) :: vs).toArray := by simp [Act.put, Act.eval, hsz]
    have hgoal := hK ((a1.put (some d1) (.tuple ((.bool b) :: vs).toArray)).put o2.dst (.bool b)) w1 (by
      refine ⟨_, ?_, hq⟩
      rw [e2]
      obtain ⟨κ1, I1, hr1⟩ := hs1
      exact ⟨κ1, I1, Sat.putv hr1 d2 l2 (.im (.sc _))⟩)
    unfold Oper.wp
    simp [execOp, h2, hval, Instr.extract, Result.andThen]
    exact hgoal
  have hmemI : ∀ e, e ∈ (leftOf arr sn.toArray).toList ↔ e ∈ arr.toList ∧ e.born ∉ sn := by
    intro e
    simp [leftOf]
  have hsz1 : d1 < a.tmps.size := by rw [hr.size]; exact l1
  rcases run_next_at (P := Γ.P) w o1.type ki.b km.b n n sn.toArray arr n r1 q1 hlt (Nat.le_refl _) with ⟨c0, hrun⟩ | ⟨e, he, w1, hw1, hrun⟩
  · have hrem : ∀ b ∈ bs, b ∈ sn := by
      intro b hb
      rw [← hbn] at hb
      obtain ⟨e, he, rfl⟩ := List.mem_map.1 hb
      have h00 : (leftOf arr sn.toArray).toList = [] := by rw [← List.length_eq_zero_iff]; simpa using c0
      by_cases c : e.born ∈ sn
      · exact c
      · have := (hmemI e).2 ⟨he, c⟩
        rw [h00] at this; simp at this
    have hg := hK (a.put o1.dst (.tuple #[.bool false])) w (by
      rw [e1]
      exact step2 (s.put (some d1) .top) a w false [] ⟨κ, I, Sat.putv hr d1 l1 (.top _)⟩ hsz1 (h0 hrem))
    unfold Oper.wp
    simp [execOp, h1, ex, hrun, Result.andThen]
    exact hg
  · obtain ⟨b1, b3⟩ := (hmemI e).1 he
    obtain ⟨i, hi1, hi2⟩ := List.mem_iff_getElem.1 (show e.born ∈ bs by rw [← hbn]; exact List.mem_map.2 ⟨e, b1, rfl⟩)
    have hs1 : ∃ κ I, Rel Γ κ I s a w1 ∧ κ k = some ki ∧ κ m = some km ∧ w1.heap = w.heap := by
      rcases hw1 with rfl | rfl
      · exact ⟨κ, I, hr, eκ2, eκ, rfl⟩
      · have hk' : Keeps Γ.M0 Γ.w0 w.drew := ⟨hr.inv.keep.os, hr.inv.keep.tape, hr.inv.keep.output, hr.inv.keep.size, hr.inv.keep.block⟩
        refine ⟨κ, I, ⟨hr.size, hr.defers, fun x => (hr.slots x).mono (fun _ h => h) (fun _ _ => rfl) (fun _ _ => rfl), ⟨fun k o hko => ?_, hr.inv.inj, hr.inv.disj, hr.inv.bound, hk', hr.inv.ikeep, hr.inv.fromI, hr.inv.fromO, hr.inv.fix⟩⟩, eκ2, eκ, rfl⟩
        have := hr.inv.objs k o hko
        unfold OAt at this ⊢
        split
        · rename_i e; rw [e] at this; exact this
        · rename_i ki e; rw [e] at this; exact this.mono (fun _ h => h) (fun _ _ => rfl) rfl (fun _ _ => rfl)
    obtain ⟨κ1, I1, hr1, f1, f2, f3⟩ := hs1
    let ob : Obj := .mapIter (some km.b) n (sn ++ [e.born]).toArray n
    have hb : ki.b < w1.heap.size := by rw [f3]; exact (Array.getElem?_eq_some_iff.1 r1).1
    have hO : ORep (World.setBlock w1 ki.b ob) I1 κ1 ki (.iter (some m) n (sn ++ [bs[i]])) := by
      refine ⟨km.b, by rw [setBlock_get _ _ _ _ hb, if_pos rfl]; simp [ob, hi2], fun m' e => by obtain rfl := Option.some.inj e; exact ⟨km, f2, rfl⟩⟩
    obtain ⟨u1, u2⟩ := hr1.inv.update hk f1 hO
    have hr2 : Rel Γ κ1 I1 (s.objput [(k, some (.iter (some m) n (sn ++ [bs[i]])))]) a (World.setBlock w1 ki.b ob) :=
      ⟨hr1.size, hr1.defers, fun y => (hr1.slots y).mono (fun _ h => h) u2 (fun _ _ => rfl), u1⟩
    have hg := hK (a.put o1.dst (.tuple #[.bool true, e.key, e.val])) (World.setBlock w1 ki.b ob) (by
      rw [e1]
      exact step2 _ a _ true [e.key, e.val] ⟨κ1, I1, Sat.putv hr2 d1 l1 (.top _)⟩ hsz1 (hi i hi1 (by rw [hi2]; exact b3)))
    unfold Oper.wp
    simp [execOp, h1, ex, hrun, Result.andThen]
    exact hg
theorem AWp.nextG0 {Γ : Ctx} {P : Program} {id : Nat} {o1 o2 : Oper} {Q : Exit → AState → Prop} {s : AState} {x : Operand} (d1 d2 k m : Nat) {n : Nat} {sn : List Nat} {ks : List Value} {xs : List AVal} {bs : List Nat} (hP : Γ.P = P)
    (h1 : o1.op = .next x false) (h2 : o2.op = .extract (.tmp d1) 0) (g1 : o1.guard = none) (g2 : o2.guard = none) (e1 : o1.dst = some d1) (e2 : o2.dst = some d2) (l1 : d1 < Γ.n) (l2 : d2 < Γ.n)
    (hx : s.eval x = .ptr k 0 0) (hk : s.obj k = some (.iter (some m) n sn)) (hm : s.obj m = some (.gmap ks xs bs n)) (hr : (bs.all fun b => sn.contains b) = true)
    (h0 : Q .normal ((s.put (some d1) .top).put (some d2) (.im (.sc (.bool false))))) : AWp Γ (.region id #[o1, o2] false) Q s :=
  AWp.nextG d1 d2 k m hP h1 h2 g1 g2 e1 e2 l1 l2 hx hk hm (fun _ => h0) (fun i h hb => by
    have := List.all_eq_true.1 hr _ (List.getElem_mem h)
    exact absurd (by simpa using this) hb)
def xLenNil : Ext where
  f P o s := match o.op with
    | .call { callee := .builtin .len, args := ⟨[x]⟩, argTypes := ts } => match ts[0]? with
      | some t => match P.underlying t, s.eval x with
        | some (.map _ _), .im (.sc (.map none)) => some ⟨[], [], .im (.sc (.int .i64 0)), [], []⟩
        | _, _ => none
      | none => none
    | _ => none
  ok P o s e he hp := by
    split at he
    · rename_i x ts ho
      split at he
      · rename_i t hts
        split at he
        · rename_i kt et ht hx
          obtain rfl := Option.some.inj he
          refine .quiet rfl fun Γ κ I s2 a w hP hr hn => ?_
          have g1 := opd hr hn x (by simp [ho, Op.operands, Call.operands]) hx
          have ex := g1.sc_inv
          refine ⟨.int .i64 0, ?_, .im (.sc _)⟩
          simp [execOp, ho, resolve, invoke, builtin, ex, Builtin.len_, hts, run_underlying' ht, goInt]
        · simp at he
      · simp at he
    · simp at he
theorem vkS_inj : ∀ a b : ByteArray, vkS a = vkS b → a = b := fun a b h => Value.string.inj h
def xRngNil (k : Nat) : Ext where
  f P o s := match o.op with
    | .range t x => match P.underlying t, s.eval x with
      | some (.map _ _), .im (.sc (.map none)) => some ⟨[], [k], .ptr k 0 0, [(k, some .niter)], []⟩
      | _, _ => none
    | _ => none
  ok P o s e he hp := by
    split at he
    · rename_i t x ho
      split at he
      · rename_i kt et ht hx
        obtain rfl := Option.some.inj he
        refine .of fun Γ κ I s2 a w hP hr hn hf => ?_
        have hfk := hf k (by simp [mkSp])
        have g1 := opd hr hn x (by simp [ho, Op.operands]) hx
        have ex := g1.sc_inv
        let ki : KI := ⟨w.heap.size, 0, 0, 0⟩
        have hO : ORep (World.alloc' w (.mapIter none 0 #[] 0)) I (setK κ k (some ki)) ki .niter := alloc_new _ _
        obtain ⟨f1, f2, f3⟩ := hr.inv.alloc hfk (ki := ki) rfl hO
        refine ⟨.pointer (some ⟨w.heap.size, 0, none⟩), _, World.alloc' w (.mapIter none 0 #[] 0), _, I, .inl rfl, ?_, f1, fun _ h => h, f2, f3, ?_⟩
        · simp [execOp, ho, ex, Instr.range, run_underlying' ht, newObj, Sem.run, World.alloc']
        · have := Rep.ptr (w := World.alloc' w (.mapIter none 0 #[] 0)) (I := I) (κ := setK κ k (some ki)) (k := k) (e := 0) (j := 0) (ki := ki) (setK_self ..)
          show Rep _ _ _ (.ptr k 0 0) _
          simpa [ki] using this
      · simp at he
    · simp at he
theorem AWp.nextNil {Γ : Ctx} {P : Program} {id : Nat} {o1 o2 : Oper} {Q : Exit → AState → Prop} {s : AState} {x : Operand} (d1 d2 k : Nat) (hP : Γ.P = P)
    (h1 : o1.op = .next x false) (h2 : o2.op = .extract (.tmp d1) 0) (g1 : o1.guard = none) (g2 : o2.guard = none) (e1 : o1.dst = some d1) (e2 : o2.dst = some d2) (l1 : d1 < Γ.n) (l2 : d2 < Γ.n)
    (hx : s.eval x = .ptr k 0 0) (hk : s.obj k = some .niter)
    (h0 : Q .normal ((s.put (some d1) .top).put (some d2) (.im (.sc (.bool false))))) : AWp Γ (.region id #[o1, o2] false) Q s := by
  subst hP
  intro a w hs
  refine wp_region_lit ?_
  refine wpList_plain g1 fun K hK => ?_
  obtain ⟨κ, I, hr⟩ := hs
  obtain ⟨ki, eκ2, r1⟩ : ∃ ki, κ k = some ki ∧ w.heap[ki.b]? = some (.mapIter none 0 #[] 0) := by
    have := hr.inv.objs k _ hk
    unfold OAt at this
    cases e : κ k with
    | none => rw [e] at this; obtain ⟨_, _, h⟩ := this; cases h
    | some ki => rw [e] at this; exact ⟨ki, rfl, this⟩
  have hrx := hr.eval x
  rw [hx] at hrx
  have ex := ptr00 hrx eκ2
  have hsz1 : d1 < a.tmps.size := by rw [hr.size]; exact l1
  have hrun : (Instr.next (.pointer (some ⟨ki.b, 0, none⟩)) false o1.type).run Γ.P w = .ok (.tuple #[.bool false]) w := by
    simp [Instr.next, getObj, Sem.run, r1]
  have hg := hK (a.put o1.dst (.tuple #[.bool false])) w (by
    rw [e1]
    refine wpList_plain g2 fun K hK => ?_
    have hval : (a.put (some d1) (.tuple #[.bool false])).eval (.tmp d1) = .tuple #[.bool false] := by simp [Act.put, Act.eval, hsz1]
    have hgoal := hK ((a.put (some d1) (.tuple #[.bool false])).put o2.dst (.bool false)) w (by
      refine ⟨_, ?_, h0⟩
      rw [e2]
      exact ⟨κ, I, Sat.putv (Sat.putv hr d1 l1 (.top _)) d2 l2 (.im (.sc _))⟩)
    unfold Oper.wp
    simp [execOp, h2, hval, Instr.extract, Result.andThen]
    exact hgoal)
  unfold Oper.wp
  simp [execOp, h1, ex, hrun, Result.andThen]
  exact hg
end Go.Pv
set_option linter.unusedVariables false
set_option linter.unusedSimpArgs false
namespace Go.Pv
def xIdxG {α : Type} (enc : α → Value) (tab : List α) (b : α) : Ext where
  f P o s := match o.op with
    | .indexAddr t x i => match P.underlying t, s.eval x, s.eval i with
      | some (.array len el), .gl g, .im (.sc (.int kk m)) => match aggP P el with
        | some (ag, sz) => some ⟨[], [], .ip [.sc (enc b)], [], [sz = 1, globTab P g = some (tab.map enc), tab.length = len, 0 ≤ m, tab[m.toNat]? = some b]⟩
        | none => none
      | _, _, _ => none
    | _ => none
  ok P o s ef he hp := by
    split at he
    · rename_i t x i ho
      split at he
      · rename_i len el g kk m ht hx hi
        split at he
        · rename_i ag sz hag
          obtain rfl := Option.some.inj he
          obtain ⟨rfl, hg, hlen, hm, hb, _⟩ := hp
          refine .quiet rfl fun Γ κ I s2 a w hP hr hn => ?_
          have h := opd hr hn x (by simp [ho, Op.operands]) hx
          have h' := (opd hr hn i (by simp [ho, Op.operands]) hi).sc_inv
          generalize ha : a.eval x = v at h
          obtain ⟨k, rfl⟩ := Int.eq_ofNat_of_zero_le hm
          simp only [Int.toNat_natCast] at hb
          have hk : k < tab.length := by
            rcases Nat.lt_or_ge k tab.length with h | h
            · exact h
            · rw [List.getElem?_eq_none h] at hb; cases hb
          have hlt : k < len := hlen ▸ hk
          obtain ⟨t1, t2, t3, t4, t5⟩ := hr.inv.tab (by rw [hP]; exact hg)
          cases h with
          | gl g =>
            refine ⟨.pointer (some ⟨g, k, none⟩), ?_, ?_⟩
            · simp [execOp, ho, ha, h', Instr.indexAt, asIntOf, run_underlying' ht, hlt, Instr.sureAddr, run_sizeOf' hag, addr_add]
            · refine .ip (fun _ => enc b) t1 (fun j hj => ?_) (fun j hj => ?_)
              · obtain rfl : j = 0 := by simpa using hj
                simp [World.cell?, t5, hb]
              · obtain rfl : j = 0 := by simpa using hj
                exact .sc _
        · simp at he
      · simp at he
    · simp at he
abbrev hGX {P : Program} {α : Type} {g : Nat} {tab : List α} {i : Int} {b : α} (n : Nat) (enc : α → Value) (hg : globTab P g = some (tab.map enc)) (h0 : 0 ≤ i) (h1 : tab[i.toNat]? = some b) (hl : tab.length = n := by rfl) : HI :=
  ⟨.more (xIdxG enc tab b), .c (p := (1 : Nat) = 1) rfl (.c hg (.c hl (.c h0 (.c h1 .n))))⟩
end Go.Pv
set_option linter.unusedVariables false
set_option linter.unusedSimpArgs false
namespace Go.Pv
theorem Fn.quiet {P : Program} {f : FuncId} {vs : List Value} {r : Value} {floor : Nat}
    (h : ∀ (w : World) (I M : Nat → Prop), GlobOK P I M w → Calls P f vs.toArray w fun e w' => e = .returned r ∧ ∃ k os, w' = Sort.grow (w.drewN k) os) :
    Fn P f (vs.map fun v => .im (.sc v)) [] floor (fun x o => x = .im (.sc r) ∧ o = []) := by
  intro κ I w vs' hl hreps hg hinv
  have hvs : vs' = vs := by
    apply List.ext_getElem (by simpa using hl)
    intro j h1 h2
    have := hreps j (by simpa using h2) h1
    rw [List.getElem_map] at this
    exact this.sc_inv
  subst hvs
  refine (h w I _ hg).mono ?_
  rintro e w' ⟨rfl, k, os, rfl⟩
  have hb : ∀ b, b < w.heap.size → (Sort.grow (w.drewN k) os).heap[b]? = w.heap[b]? := fun b hb => by
    rw [Sort.heap_grow_old _ _ (by simpa using hb)]; rfl
  have hs : w.heap.size ≤ (Sort.grow (w.drewN k) os).heap.size := by simp
  refine ⟨r, .im (.sc r), [], κ, I, rfl, ⟨rfl, rfl⟩, .im (.sc _), ?_⟩
  have ho : ∀ k, (⟨[], [], floor⟩ : AState).obj k = none := fun k => by simp [AState.obj, look]
  refine ⟨?_, ?_, ?_, fun b hI => Nat.lt_of_lt_of_le (hinv.bound b hI) hs, ⟨rfl, rfl, rfl, hs, fun b hlt _ => hb b hlt⟩, fun _ h => h, fun b h => .inl h, ?_, hinv.fix⟩
  · intro k o h; rw [ho] at h; cases h
  · intro k k' o o' ki ki' h; rw [ho] at h; cases h
  · intro k o ki h; rw [ho] at h; cases h
  · intro k o ki h; rw [ho] at h; cases h
end Go.Pv
set_option linter.unusedVariables false
set_option linter.unusedSimpArgs false
namespace Go.Pv.GS
section Defs
variable {α : Type} (cmp : α → α → Option Int)
def insertionSort.l1 (a1 : Int) (a2 : Int) (x0 : Int) (x1 : List α) (x2 : Int) : Option (List α) := ((if (decide (x2 > a1)) = true then ((at? x1 x2) >>= fun b3 => (at? x1 (IntKind.i64.wrap (x2 - (1 : Int)))) >>= fun b4 => (cmp b3 b4) >>= fun t5 => some (decide (t5 < (0 : Int)))) else (some false)) : Option (Bool)) >>= fun x6 => if x6 = true then ((at? x1 (IntKind.i64.wrap (x2 - (1 : Int)))) >>= fun b7 => (at? x1 x2) >>= fun b8 => (at? (x1.set (Int.toNat (x2)) b7) (IntKind.i64.wrap (x2 - (1 : Int)))) >>= fun b9 => insertionSort.l1 a1 a2 x0 ((x1.set (Int.toNat (x2)) b7).set (Int.toNat (IntKind.i64.wrap (x2 - (1 : Int)))) b8) (IntKind.i64.wrap (x2 - (1 : Int)))) else (some x1)
partial_fixpoint
def insertionSort.l0 (a1 : Int) (a2 : Int) (x0 : List α) (x1 : Int) : Option (List α) := if (decide (x1 < a2)) = true then ((insertionSort.l1 cmp a1 a2 x1 x0 x1) >>= fun x2 => insertionSort.l0 a1 a2 x2 (IntKind.i64.wrap (x1 + (1 : Int)))) else (some x0)
partial_fixpoint
def insertionSort.f (a0 : List α) (a1 : Int) (a2 : Int) : Option (List α) := (insertionSort.l0 cmp a1 a2 a0 (IntKind.i64.wrap (a1 + (1 : Int)))) >>= fun x0 => some x0
def swapRange.l0 (a1 : Int) (a2 : Int) (a3 : Int) (x0 : List α) (x1 : Int) : Option (List α) := if (decide (x1 < a3)) = true then ((at? x0 (IntKind.i64.wrap (a2 + x1))) >>= fun b2 => (at? x0 (IntKind.i64.wrap (a1 + x1))) >>= fun b3 => (at? (x0.set (Int.toNat (IntKind.i64.wrap (a1 + x1))) b2) (IntKind.i64.wrap (a2 + x1))) >>= fun b4 => swapRange.l0 a1 a2 a3 ((x0.set (Int.toNat (IntKind.i64.wrap (a1 + x1))) b2).set (Int.toNat (IntKind.i64.wrap (a2 + x1))) b3) (IntKind.i64.wrap (x1 + (1 : Int)))) else (some x0)
partial_fixpoint
def swapRange.f (a0 : List α) (a1 : Int) (a2 : Int) (a3 : Int) : Option (List α) := (swapRange.l0 a1 a2 a3 a0 0) >>= fun x0 => some x0
def rotate.l0 (a2 : Int) (x0 : List α) (x1 : Int) (x2 : Int) : Option ((List α) × Int) := if (x1 != x2) = true then (((if (decide (x1 > x2)) = true then ((swapRange.f x0 (IntKind.i64.wrap (a2 - x1)) a2 x2) >>= fun t3 => some (t3, IntKind.i64.wrap (x1 - x2), x2)) else ((swapRange.f x0 (IntKind.i64.wrap (a2 - x1)) (IntKind.i64.wrap ((IntKind.i64.wrap (a2 + x2)) - x1)) x1) >>= fun t4 => some (t4, x1, IntKind.i64.wrap (x2 - x1)))) : Option ((List α) × Int × Int)) >>= fun oo => match oo with | (x5, x6, x7) => (rotate.l0 a2 x5 x6 x7)) else (some (x0, x1))
partial_fixpoint
def rotate.f (a0 : List α) (a1 : Int) (a2 : Int) (a3 : Int) : Option (List α) := (rotate.l0 a2 a0 (IntKind.i64.wrap (a2 - a1)) (IntKind.i64.wrap (a3 - a2))) >>= fun oo => match oo with | (x0, x1) => ((swapRange.f x0 (IntKind.i64.wrap (a2 - x1)) a2 x1) >>= fun t2 => some t2)
def symMerge.l0 (a0 : List α) (a1 : Int) (x0 : Int) (x1 : Int) : Option (Int) := if (decide (x0 < x1)) = true then ((at? a0 (IntKind.i64.wrap (Int.fdiv (IntKind.u64.wrap (IntKind.i64.wrap (x0 + x1))) 2))) >>= fun b2 => (at? a0 a1) >>= fun b3 => (cmp b2 b3) >>= fun t4 => ((if (decide (t4 < (0 : Int))) = true then (some (IntKind.i64.wrap ((IntKind.i64.wrap (Int.fdiv (IntKind.u64.wrap (IntKind.i64.wrap (x0 + x1))) 2)) + (1 : Int)), x1)) else (some (x0, IntKind.i64.wrap (Int.fdiv (IntKind.u64.wrap (IntKind.i64.wrap (x0 + x1))) 2)))) : Option (Int × Int)) >>= fun oo => match oo with | (x5, x6) => (symMerge.l0 a0 a1 x5 x6)) else (some x0)
partial_fixpoint
def symMerge.l1 (x0 : Int) (x1 : List α) (x2 : Int) : Option (List α) := if (decide (x2 < (IntKind.i64.wrap (x0 - (1 : Int))))) = true then ((at? x1 (IntKind.i64.wrap (x2 + (1 : Int)))) >>= fun b3 => (at? x1 x2) >>= fun b4 => (at? (x1.set (Int.toNat (x2)) b3) (IntKind.i64.wrap (x2 + (1 : Int)))) >>= fun b5 => symMerge.l1 x0 ((x1.set (Int.toNat (x2)) b3).set (Int.toNat (IntKind.i64.wrap (x2 + (1 : Int)))) b4) (IntKind.i64.wrap (x2 + (1 : Int)))) else (some x1)
partial_fixpoint
def symMerge.l2 (a0 : List α) (a2 : Int) (x0 : Int) (x1 : Int) : Option (Int) := if (decide (x0 < x1)) = true then ((at? a0 a2) >>= fun b2 => (at? a0 (IntKind.i64.wrap (Int.fdiv (IntKind.u64.wrap (IntKind.i64.wrap (x0 + x1))) 2))) >>= fun b3 => (cmp b2 b3) >>= fun t4 => ((if (!(decide (t4 < (0 : Int)))) = true then (some (IntKind.i64.wrap ((IntKind.i64.wrap (Int.fdiv (IntKind.u64.wrap (IntKind.i64.wrap (x0 + x1))) 2)) + (1 : Int)), x1)) else (some (x0, IntKind.i64.wrap (Int.fdiv (IntKind.u64.wrap (IntKind.i64.wrap (x0 + x1))) 2)))) : Option (Int × Int)) >>= fun oo => match oo with | (x5, x6) => (symMerge.l2 a0 a2 x5 x6)) else (some x0)
partial_fixpoint
def symMerge.l3 (x0 : Int) (x1 : List α) (x2 : Int) : Option (List α) := if (decide (x2 > x0)) = true then ((at? x1 (IntKind.i64.wrap (x2 - (1 : Int)))) >>= fun b3 => (at? x1 x2) >>= fun b4 => (at? (x1.set (Int.toNat (x2)) b3) (IntKind.i64.wrap (x2 - (1 : Int)))) >>= fun b5 => symMerge.l3 x0 ((x1.set (Int.toNat (x2)) b3).set (Int.toNat (IntKind.i64.wrap (x2 - (1 : Int)))) b4) (IntKind.i64.wrap (x2 - (1 : Int)))) else (some x1)
partial_fixpoint
def symMerge.l4 (a0 : List α) (a1 : Int) (a2 : Int) (a3 : Int) (x0 : Int) (x1 : Int) : Option (Int) := if (decide (x0 < x1)) = true then ((at? a0 (IntKind.i64.wrap ((IntKind.i64.wrap ((IntKind.i64.wrap ((IntKind.i64.wrap (Int.fdiv (IntKind.u64.wrap (IntKind.i64.wrap (a1 + a3))) 2)) + a2)) - (1 : Int))) - (IntKind.i64.wrap (Int.fdiv (IntKind.u64.wrap (IntKind.i64.wrap (x0 + x1))) 2))))) >>= fun b2 => (at? a0 (IntKind.i64.wrap (Int.fdiv (IntKind.u64.wrap (IntKind.i64.wrap (x0 + x1))) 2))) >>= fun b3 => (cmp b2 b3) >>= fun t4 => ((if (!(decide (t4 < (0 : Int)))) = true then (some (IntKind.i64.wrap ((IntKind.i64.wrap (Int.fdiv (IntKind.u64.wrap (IntKind.i64.wrap (x0 + x1))) 2)) + (1 : Int)), x1)) else (some (x0, IntKind.i64.wrap (Int.fdiv (IntKind.u64.wrap (IntKind.i64.wrap (x0 + x1))) 2)))) : Option (Int × Int)) >>= fun oo => match oo with | (x5, x6) => (symMerge.l4 a0 a1 a2 a3 x5 x6)) else (some x0)
partial_fixpoint
def symMerge.f (a0 : List α) (a1 : Int) (a2 : Int) (a3 : Int) : Option (List α) := if ((IntKind.i64.wrap (a2 - a1)) == (1 : Int)) = true then ((symMerge.l0 cmp a0 a1 a2 a3) >>= fun x0 => (symMerge.l1 x0 a0 a1) >>= fun x1 => some x1) else (if ((IntKind.i64.wrap (a3 - a2)) == (1 : Int)) = true then ((symMerge.l2 cmp a0 a2 a1 a2) >>= fun x2 => (symMerge.l3 x2 a0 a2) >>= fun x3 => some x3) else (((if (decide (a2 > (IntKind.i64.wrap (Int.fdiv (IntKind.u64.wrap (IntKind.i64.wrap (a1 + a3))) 2)))) = true then (some (IntKind.i64.wrap ((IntKind.i64.wrap ((IntKind.i64.wrap (Int.fdiv (IntKind.u64.wrap (IntKind.i64.wrap (a1 + a3))) 2)) + a2)) - a3), IntKind.i64.wrap (Int.fdiv (IntKind.u64.wrap (IntKind.i64.wrap (a1 + a3))) 2))) else (some (a1, a2))) : Option (Int × Int)) >>= fun oo => match oo with | (x4, x5) => ((symMerge.l4 cmp a0 a1 a2 a3 x4 x5) >>= fun x6 => ((if (decide (x6 < a2)) = true then (some (decide (a2 < (IntKind.i64.wrap ((IntKind.i64.wrap ((IntKind.i64.wrap (Int.fdiv (IntKind.u64.wrap (IntKind.i64.wrap (a1 + a3))) 2)) + a2)) - x6))))) else (some false)) : Option (Bool)) >>= fun x7 => ((if x7 = true then ((rotate.f a0 x6 a2 (IntKind.i64.wrap ((IntKind.i64.wrap ((IntKind.i64.wrap (Int.fdiv (IntKind.u64.wrap (IntKind.i64.wrap (a1 + a3))) 2)) + a2)) - x6))) >>= fun t8 => some t8) else (some a0)) : Option (List α)) >>= fun x9 => ((if (decide (a1 < x6)) = true then (some (decide (x6 < (IntKind.i64.wrap (Int.fdiv (IntKind.u64.wrap (IntKind.i64.wrap (a1 + a3))) 2))))) else (some false)) : Option (Bool)) >>= fun x10 => ((if x10 = true then ((symMerge.f x9 a1 x6 (IntKind.i64.wrap (Int.fdiv (IntKind.u64.wrap (IntKind.i64.wrap (a1 + a3))) 2))) >>= fun t11 => some t11) else (some x9)) : Option (List α)) >>= fun x12 => ((if (decide ((IntKind.i64.wrap (Int.fdiv (IntKind.u64.wrap (IntKind.i64.wrap (a1 + a3))) 2)) < (IntKind.i64.wrap ((IntKind.i64.wrap ((IntKind.i64.wrap (Int.fdiv (IntKind.u64.wrap (IntKind.i64.wrap (a1 + a3))) 2)) + a2)) - x6)))) = true then (some (decide ((IntKind.i64.wrap ((IntKind.i64.wrap ((IntKind.i64.wrap (Int.fdiv (IntKind.u64.wrap (IntKind.i64.wrap (a1 + a3))) 2)) + a2)) - x6)) < a3))) else (some false)) : Option (Bool)) >>= fun x13 => ((if x13 = true then ((symMerge.f x12 (IntKind.i64.wrap (Int.fdiv (IntKind.u64.wrap (IntKind.i64.wrap (a1 + a3))) 2)) (IntKind.i64.wrap ((IntKind.i64.wrap ((IntKind.i64.wrap (Int.fdiv (IntKind.u64.wrap (IntKind.i64.wrap (a1 + a3))) 2)) + a2)) - x6)) a3) >>= fun t14 => some t14) else (some x12)) : Option (List α)) >>= fun x15 => some x15)))
partial_fixpoint
def stable.l0 (a1 : Int) (x0 : List α) (x1 : Int) (x2 : Int) : Option ((List α) × Int) := if (decide (x2 ≤ a1)) = true then ((insertionSort.f cmp x0 x1 x2) >>= fun t3 => stable.l0 a1 t3 x2 (IntKind.i64.wrap (x2 + (20 : Int)))) else (some (x0, x1))
partial_fixpoint
def stable.l2 (a1 : Int) (x0 : Int) (x1 : List α) (x2 : Int) (x3 : Int) : Option ((List α) × Int) := if (decide (x3 ≤ a1)) = true then ((symMerge.f cmp x1 x2 (IntKind.i64.wrap (x2 + x0)) x3) >>= fun t4 => stable.l2 a1 x0 t4 x3 (IntKind.i64.wrap (x3 + (IntKind.i64.wrap ((2 : Int) * x0))))) else (some (x1, x2))
partial_fixpoint
def stable.l1 (a1 : Int) (x0 : List α) (x1 : Int) : Option (List α) := if (decide (x1 < a1)) = true then ((stable.l2 cmp a1 x1 x0 0 (IntKind.i64.wrap ((2 : Int) * x1))) >>= fun oo => match oo with | (x2, x3) => (((if (decide ((IntKind.i64.wrap (x3 + x1)) < a1)) = true then ((symMerge.f cmp x2 x3 (IntKind.i64.wrap (x3 + x1)) a1) >>= fun t4 => some t4) else (some x2)) : Option (List α)) >>= fun x5 => stable.l1 a1 x5 (IntKind.i64.wrap (x1 * (2 : Int))))) else (some x0)
partial_fixpoint
def stable.f (a0 : List α) (a1 : Int) : Option (List α) := (stable.l0 cmp a1 a0 0 20) >>= fun oo => match oo with | (x0, x1) => ((insertionSort.f cmp x0 x1 a1) >>= fun t2 => (stable.l1 cmp a1 t2 20) >>= fun x3 => some x3)
def SortStable.f (a0 : List α) : Option (List α) := (stable.f cmp a0 (a0.length : Int)) >>= fun t0 => some t0
end Defs
section Merge
variable {α : Type} (lt : α → α → Bool)
def mrg : List α → List α → List α
  | [], ys => ys
  | x :: xs, [] => x :: xs
  | x :: xs, y :: ys => if lt y x = true then y :: mrg (x :: xs) ys else x :: mrg xs (y :: ys)
termination_by xs ys => xs.length + ys.length
structure SWO (lt : α → α → Bool) : Prop where
  asymm : ∀ a b, lt a b = true → lt b a = false
  trans : ∀ a b c, lt b a = false → lt c b = false → lt c a = false
variable {lt}
def S (lt : α → α → Bool) (l : List α) : List α := l.foldl (fun acc x => mrg lt acc [x]) []
end Merge
section Run
variable {α : Type} {cmp : α → α → Option Int} {lt : α → α → Bool}
end Run
end Go.Pv.GS
set_option linter.unusedVariables false
set_option linter.unusedSimpArgs false
namespace Go.Pv.GS
theorem at_get {α β : Type} {l : List α} {i : Int} {k : Nat} {x : α} (hi : i = (k : Int)) (hx : l[k]? = some x) (f : α → Option β) : (at? l i >>= f) = f x := by
  subst hi
  have : at? l (k : Int) = some x := by unfold at?; rw [if_pos (by omega)]; simpa using hx
  rw [this]; rfl
section Run
variable {α : Type} {cmp : α → α → Option Int} {lt : α → α → Bool}
end Run
end Go.Pv.GS
set_option linter.unusedVariables false
set_option linter.unusedSimpArgs false
namespace Go.Pv
open Go.Pv.GS
abbrev bl (a b : ByteArray) : Bool := Op.bytesLess a.toList b.toList
end Go.Pv
set_option linter.unusedVariables false
set_option linter.unusedSimpArgs false
namespace Go.Pv
open Go
def sortB (l : List ByteArray) : List ByteArray := ((l.map L).mergeSort fun x y => decide (x ≤ y)).map fun x => ⟨x.toArray⟩
theorem mk_L (x : ByteArray) : (⟨(L x).toArray⟩ : ByteArray) = x := by obtain ⟨⟨l⟩⟩ := x; rfl
theorem sortB_L (l : List ByteArray) : (sortB l).map L = (l.map L).mergeSort fun x y => decide (x ≤ y) := by
  unfold sortB; rw [List.map_map]
  conv => rhs; rw [← List.map_id ((l.map L).mergeSort fun x y => decide (x ≤ y))]
  rfl
end Go.Pv
