import Derived.Lib.MakeNoZero
import Derived.Maps.RangeRun
import Derived.Maps.RangeWalk
import Derived.Test.YtfkppdcfgmgllaaPxPlanBelows03
set_option linter.unusedVariables false
set_option linter.unusedSimpArgs false
namespace Go.Pv
open Go.Instr
def hit {K : Type} [DecidableEq K] (a : K) : List K → List MapEntry → Nat → Option (Nat × Value)
  | k :: ks, e :: es, i => if k = a then some (i, e.val) else hit a ks es (i + 1)
  | _, _, _ => none
structure KeyOK (P : Program) (t : TypeId) {K : Type} [DecidableEq K] (vk : K → Value) : Prop where
  check : ∀ b a w, (checkKey b 10000 t (vk a)).run P w = .ok () w
  find : ∀ a (es : List MapEntry) (ks : List K) w, es.map (·.key) = ks.map vk → (findKey t (vk a) es).run P w = .ok (hit a ks es 0) w
  same : ∀ a w, (keyThatStays (vk a) (vk a)).run P w = .ok (vk a) w
theorem findNow_ok {K : Type} [DecidableEq K] {d : TypeDesc} {vk : K → Value} (h : ∀ a b, sameNow d (vk a) (vk b) = some (decide (b = a))) (a : K) : ∀ (es : List MapEntry) (ks : List K) (i : Nat), es.map (·.key) = ks.map vk → findNow d (vk a) es i = some (hit a ks es i)
  | [], [], i, _ => by simp [findNow, hit]
  | [], k :: ks, i, e => by simp at e
  | e :: es, [], i, q => by simp at q
  | e :: es, k :: ks, i, q => by
    simp only [List.map_cons, List.cons.injEq] at q
    rw [findNow, q.1, h, hit]
    by_cases c : k = a
    · simp [c]
    · simp [c, findNow_ok h a es ks (i + 1) q.2]
theorem key_plain {K : Type} [DecidableEq K] {P : Program} {t : TypeId} {d : TypeDesc} {vk : K → Value} (ht : P.underlying t = some d) (hc : ∀ b a w, (checkKey b 10000 t (vk a)).run P w = .ok () w) (h : ∀ a b, sameNow d (vk a) (vk b) = some (decide (b = a)))
    (hs : ∀ a, sameBits 10000 (vk a) (vk a) = true) : KeyOK P t vk where
  check := hc
  find a es ks w q := by
    simp only [findKey, Sem.run_bind, run_underlying' ht, Result.andThen_ok, findNow_ok h a es ks 0 q, Sem.run_pure]
  same a w := by simp [keyThatStays, hs]
theorem key_int {P : Program} {t : TypeId} {q : IntKind} (ht : P.underlying t = some (.int q)) : KeyOK P t (fun a : Int => Value.int q a) :=
  key_plain ht (fun b a w => by
    have : ∀ n, (checkKey b (n + 1) t (.int q a)).run P w = .ok () w := fun n => by simp [checkKey, run_underlying' ht]
    exact this 9999) (fun a b => by
    simp only [sameNow, if_true]
    congr 1
    by_cases c : b = a
    · subst c; simp
    · simp [c]; exact fun h => c (Eq.symm h)) (fun a => by simp [sameBits])
end Go.Pv
set_option linter.unusedVariables false
set_option linter.unusedSimpArgs false
namespace Go.Pv
open Go.Instr
def mE {K V : Type} (vk : K → Value) (iv : V → Im) (l : List (K × V)) : List (Value × Im) := l.map fun p => (vk p.1, iv p.2)
def mput {K V : Type} [DecidableEq K] : List (K × V) → K → V → List (K × V)
  | [], k, v => [(k, v)]
  | p :: l, k, v => if p.1 = k then (k, v) :: l else p :: mput l k v
def mget {K V : Type} [DecidableEq K] : List (K × V) → K → Option V
  | [], _ => none
  | p :: l, k => if p.1 = k then some p.2 else mget l k
theorem hit_ok {K V : Type} [DecidableEq K] (k : K) : ∀ (l : List (K × V)) (E : List MapEntry) (off : Nat), E.length = l.length →
    (hit k (l.map (·.1)) E off = none ∧ mget l k = none ∧ ∀ v, mput l k v = l ++ [(k, v)]) ∨
    ∃ i e p, E[i]? = some e ∧ l[i]? = some p ∧ p.1 = k ∧ hit k (l.map (·.1)) E off = some (off + i, e.val) ∧ mget l k = some p.2 ∧ ∀ v, mput l k v = l.set i (k, v)
  | [], E, off, _ => .inl ⟨by simp [hit], rfl, fun v => rfl⟩
  | p :: l, [], off, h => by simp at h
  | p :: l, e :: E, off, h => by
    by_cases c : p.1 = k
    · exact .inr ⟨0, e, p, rfl, rfl, c, by simp [hit, c], by simp [mget, c], fun v => by simp [mput, c]⟩
    · rcases hit_ok k l E (off + 1) (by simpa using h) with ⟨h1, h2, h3⟩ | ⟨i, e', p', h1, h2, h3, h4, h5, h6⟩
      · exact .inl ⟨by simp [hit, c, h1], by simp [mget, c, h2], fun v => by simp [mput, c, h3]⟩
      · exact .inr ⟨i + 1, e', p', by simpa using h1, by simpa using h2, h3, by simp [hit, c, h4]; omega, by simp [mget, c, h5], fun v => by simp [mput, c, h6]⟩
theorem run_getMap {P : Program} {w : World} {b : Nat} {arr : Array MapEntry} {c : Nat} (hb : w.heap[b]? = some (.map arr c)) : (getObj b).run P w = .ok (.map arr c) w := by simp [getObj, Sem.run, hb]
theorem run_setMap {P : Program} {w : World} {b : Nat} {arr : Array MapEntry} {c : Nat} {o' : Obj} (hb : w.heap[b]? = some (.map arr c)) : (setObj b o').run P w = .ok () (World.setBlock w b o') := by simp [setObj, Sem.run, hb, World.setBlock]
theorem run_mlook {P : Program} {t kt et : TypeId} {K : Type} [DecidableEq K] {vk : K → Value} {w : World} {b : Nat} {arr : Array MapEntry} {clock : Nat} {ks : List K} {z : Value} {c : Bool} {k : K} (ht : P.underlying t = some (.map kt et)) (hk : KeyOK P kt vk)
    (hb : w.heap[b]? = some (.map arr clock)) (hks : arr.toList.map (·.key) = ks.map vk) (hz : (zeroValue et).run P w = .ok z w) :
    (lookup t (.map (some b)) (vk k) c).run P w = .ok (if c then .tuple #[((hit k ks arr.toList 0).map (·.2)).getD z, .bool (hit k ks arr.toList 0).isSome] else ((hit k ks arr.toList 0).map (·.2)).getD z) w := by
  simp only [lookup, Sem.run_bind, run_underlying' ht, Result.andThen_ok, run_getMap hb, Sem.run_pure, hk.check, hk.find k arr.toList ks w hks]
  cases hit k ks arr.toList 0 with
  | none => simp [hz]
  | some p => simp
theorem run_mput {P : Program} {t kt et : TypeId} {K : Type} [DecidableEq K] {vk : K → Value} {w : World} {b : Nat} {arr : Array MapEntry} {clock : Nat} {ks : List K} {k : K} {v : Value} (ht : P.underlying t = some (.map kt et)) (hk : KeyOK P kt vk)
    (hb : w.heap[b]? = some (.map arr clock)) (hks : arr.toList.map (·.key) = ks.map vk) :
    (hit k ks arr.toList 0 = none → (mapUpdate t (.map (some b)) (vk k) v).run P w = .ok () (World.setBlock w b (.map (arr.push ⟨vk k, v, clock⟩) (clock + 1)))) ∧
    ∀ i u e, hit k ks arr.toList 0 = some (i, u) → arr[i]? = some e → e.key = vk k → (mapUpdate t (.map (some b)) (vk k) v).run P w = .ok () (World.setBlock w b (.map (arr.modify i fun e => { e with key := vk k, val := v }) clock)) := by
  constructor
  · intro h
    simp only [mapUpdate, Sem.run_bind, run_underlying' ht, Result.andThen_ok, run_getMap hb, hk.check, hk.find k arr.toList ks w hks, h, run_setMap hb]
  · intro i u e h he hkey
    simp only [mapUpdate, Sem.run_bind, run_underlying' ht, Result.andThen_ok, run_getMap hb, hk.check, hk.find k arr.toList ks w hks, h, he, Option.map_some, Option.getD_some, hkey, hk.same, run_setMap hb]
theorem map_at {w : World} {I : Nat → Prop} {κ : Nat → Option KI} {k : Nat} {es : List (Value × Im)} (h : OAt w I κ k (.map es)) : ∃ ki arr, κ k = some ki ∧ w.heap[ki.b]? = some (.map arr es.length) ∧ arr.size = es.length ∧
    ∀ i (h : i < es.length), ∃ e, arr[i]? = some e ∧ e.born = i ∧ e.key = (es[i]).1 ∧ IRep w I (es[i]).2 e.val := by
  unfold OAt at h
  cases e : κ k with
  | none => rw [e] at h; obtain ⟨_, _, h⟩ := h; simp at h
  | some ki => rw [e] at h; obtain ⟨arr, h1, h2, h3⟩ := h; exact ⟨ki, arr, rfl, h1, h2, h3⟩
theorem mown_inv {w : World} {I : Nat → Prop} {κ : Nat → Option KI} {k : Nat} {v : Value} (h : Rep w I κ (.mown k) v) : ∃ ki, κ k = some ki ∧ v = .map (some ki.b) := by
  cases h with
  | mown e => exact ⟨_, e, rfl⟩
theorem keys_mE {K V : Type} {vk : K → Value} {iv : V → Im} {l : List (K × V)} {arr : Array MapEntry} (hs : arr.size = (mE vk iv l).length) (h : ∀ i (h : i < (mE vk iv l).length), ∃ e, arr[i]? = some e ∧ e.born = i ∧ e.key = ((mE vk iv l)[i]).1 ∧ True) : arr.toList.map (·.key) = (l.map (·.1)).map vk := by
  apply List.ext_getElem
  · simp [hs, mE]
  · intro i h1 h2
    simp only [List.length_map, Array.length_toList] at h1
    obtain ⟨e, e1, _, e3, _⟩ := h i (by omega)
    rw [Array.getElem?_eq_getElem h1] at e1
    obtain rfl := Option.some.inj e1
    simp [e3, mE]
def valA : AVal → Option Value
  | .im (.sc v) => some v
  | .agg cells => (scVals cells).map fun vs => .agg vs.toArray
  | _ => none
theorem valA_rep {w : World} {I : Nat → Prop} {κ : Nat → Option KI} {x : AVal} {v u : Value} (h : valA x = some v) (hr : Rep w I κ x u) : u = v := by
  unfold valA at h
  split at h
  · obtain rfl := Option.some.inj h; exact hr.sc_inv
  · rename_i cells
    cases e : scVals cells with
    | none => rw [e] at h; simp at h
    | some vs => rw [e] at h; simp at h; rw [← h]; exact agg_sc e hr
  · simp at h
def xMk (k : Nat) : Ext where
  f P o s := match o.op with
    | .makeMap t none => some ⟨[], [k], .mown k, [(k, some (.map []))], []⟩
    | _ => none
  ok P o s e he hp := by
    split at he
    · rename_i t ho
      obtain rfl := Option.some.inj he
      refine .of fun Γ κ I s2 a w hP hr hn hf => ?_
      have hfk := hf k (by simp [mkSp])
      let ki : KI := ⟨w.heap.size, 0, 0, 0⟩
      have hO : ORep (World.alloc' w (.map #[] 0)) I (setK κ k (some ki)) ki (.map []) := ⟨#[], alloc_new _ _, rfl, fun i h => absurd h (Nat.not_lt_zero _)⟩
      obtain ⟨f1, f2, f3⟩ := hr.inv.alloc hfk (ki := ki) rfl hO
      refine ⟨_, _, _, _, I, .inl rfl, ?_, f1, fun _ h => h, f2, f3, .mown (ki := ki) (setK_self ..)⟩
      simp [execOp, ho, makeMap, newObj, Sem.run, World.alloc', ki]
    · simp at he
def putOp : Op → Option (TypeId × Operand × Operand × Operand)
  | .mapUpdate t m k x => some (t, m, k, x)
  | .insert t m k x => some (t, m, k, x)
  | _ => none
theorem putOp_of {o : Op} {t : TypeId} {x y z : Operand} (h : putOp o = some (t, x, y, z)) : o = .mapUpdate t x y z ∨ o = .insert t x y z := by
  unfold putOp at h
  split at h
  · simp at h; obtain ⟨rfl, rfl, rfl, rfl⟩ := h; exact .inl rfl
  · simp at h; obtain ⟨rfl, rfl, rfl, rfl⟩ := h; exact .inr rfl
  · simp at h
def xPut {K V : Type} [DecidableEq K] (vk : K → Value) (iv : V → Im) (l : List (K × V)) (k : K) (v : V) : Ext where
  f P o s := match putOp o.op with
    | some (t, x, y, z) => match P.underlying t, s.eval x, s.eval z with
      | some (.map kt et), .mown m, .im u => match s.obj m with
        | some (.map es) => some ⟨[m], [], .top, [(m, some (.map (mE vk iv (mput l k v))))], [KeyOK P kt vk, es = mE vk iv l, valA (s.eval y) = some (vk k), u = iv v]⟩
        | _ => none
      | _, _, _ => none
    | none => none
  ok P o s e he hp := by
    split at he
    · rename_i t x y z hop
      have hop := putOp_of hop
      split at he
      · rename_i kt et m u ht hx hz
        split at he
        · rename_i es hm
          obtain rfl := Option.some.inj he
          obtain ⟨hK, rfl, hy, rfl, _⟩ := hp
          refine .of fun Γ κ I s2 a w hP hr hn hf => ?_
          have g1 := opd hr hn x (by rcases hop with ho | ho <;> simp [ho, Op.operands]) hx
          have g2 := valA_rep hy (opd hr hn y (by rcases hop with ho | ho <;> simp [ho, Op.operands]) rfl)
          have g3 := opd hr hn z (by rcases hop with ho | ho <;> simp [ho, Op.operands]) hz
          have hm2 := (needs_obj hn m (by simp)).trans hm
          obtain ⟨ki, eκ, ex⟩ := mown_inv g1
          obtain ⟨ki', arr, eκ', h1, h2, h3⟩ := map_at (hr.inv.objs m _ hm2)
          rw [eκ] at eκ'; obtain rfl := Option.some.inj eκ'
          have hks := keys_mE h2 (fun i hi => let ⟨e, a1, a2, a3, _⟩ := h3 i hi; ⟨e, a1, a2, a3, trivial⟩)
          have hlen : (mE vk iv l).length = l.length := by simp [mE]
          obtain ⟨r1, r2⟩ := run_mput (v := a.eval z) (k := k) ht hK h1 hks
          have hb : ki.b < w.heap.size := (Array.getElem?_eq_some_iff.1 h1).1
          have hne : ∀ ob b, I b → (World.setBlock w ki.b ob).heap[b]? = w.heap[b]? := fun ob b hb' => by
            rw [setBlock_get _ _ _ _ hb, if_neg]
            rintro rfl
            exact hr.inv.disj m _ ki hm2 eκ hb'
          have hv : IRep w I (iv v) (a.eval z) := by cases g3 with | im h => exact h
          have fin : ∀ ob, (execOp a.eval o).run P w = .ok .skip (World.setBlock w ki.b ob) → ORep (World.setBlock w ki.b ob) I κ ki (.map (mE vk iv (mput l k v))) →
              ∃ v' nx w' κ' I', Gives v' nx ∧ (execOp a.eval o).run P w = .ok nx w' ∧ Inv Γ κ' I' (s2.objput [(m, some (.map (mE vk iv (mput l k v))))]) w' ∧ (∀ b, I b → I' b) ∧ (∀ b, I b → w'.heap[b]? = w.heap[b]?) ∧ (∀ x k, (s2.get x).has k = true → κ' k = κ k) ∧ Rep w' I' κ' .top v' := by
            intro ob hrun hO
            obtain ⟨f1, f2⟩ := hr.inv.update hm2 eκ hO
            exact ⟨_, _, _, κ, I, .inr ⟨rfl, rfl⟩, hrun, f1, fun _ h => h, f2, fun _ _ _ => rfl, .top _⟩
          rcases hit_ok k l arr.toList 0 (by simp [h2, hlen]) with ⟨q1, q2, q3⟩ | ⟨i, e, p, q1, q2, q3, q4, q5, q6⟩
          · refine fin (.map (arr.push ⟨vk k, a.eval z, (mE vk iv l).length⟩) ((mE vk iv l).length + 1)) (by rcases hop with ho | ho <;> simp only [execOp, ho, ex, g2, Sem.run_bind, r1 q1, Result.andThen_ok, Sem.run_pure]) ?_
            rw [q3]
            refine ⟨arr.push ⟨vk k, a.eval z, (mE vk iv l).length⟩, by rw [setBlock_get _ _ _ _ hb, if_pos rfl]; simp [mE], by simp [mE, h2], fun i hi => ?_⟩
            simp only [mE, List.length_map, List.length_append, List.length_cons, List.length_nil] at hi
            by_cases c : i < l.length
            · obtain ⟨e, a1, a2, a3, a4⟩ := h3 i (by omega)
              refine ⟨e, by rw [Array.getElem?_push, if_neg (by omega), a1], a2, ?_, ?_⟩
              · rw [a3]; simp [mE, List.getElem_append, c]
              · have : (mE vk iv (l ++ [(k, v)]))[i]'(by simp [mE]; omega) = (mE vk iv l)[i]'(by omega) := by simp [mE, List.getElem_append, c]
                rw [this]; exact a4.mono (fun _ h => h) (hne _)
            · have hi' : i = l.length := by omega
              refine ⟨⟨vk k, a.eval z, (mE vk iv l).length⟩, by rw [Array.getElem?_push, if_pos (by omega)], by simp [mE, hi'], by simp [mE, hi'], ?_⟩
              have : (mE vk iv (l ++ [(k, v)]))[i]'(by simp [mE]; omega) = (vk k, iv v) := by simp [mE, hi']
              rw [this]; exact hv.mono (fun _ h => h) (hne _)
          · have q1' : arr[i]? = some e := by simpa using q1
            have hil : i < l.length := (List.getElem?_eq_some_iff.1 q2).1
            obtain ⟨e', a1, a2, a3, a4⟩ := h3 i (by omega)
            rw [q1'] at a1; obtain rfl := Option.some.inj a1
            have hkey : e.key = vk k := by
              rw [a3]
              have := (List.getElem?_eq_some_iff.1 q2).2
              simp [mE, this, q3]
            have hrun := r2 i e.val e (by rw [q4]; simp) q1' hkey
            refine fin (.map (arr.modify i fun e => { e with key := vk k, val := a.eval z }) (mE vk iv l).length) (by rcases hop with ho | ho <;> simp only [execOp, ho, ex, g2, Sem.run_bind, hrun, Result.andThen_ok, Sem.run_pure]) ?_
            rw [q6]
            refine ⟨arr.modify i fun e => { e with key := vk k, val := a.eval z }, by rw [setBlock_get _ _ _ _ hb, if_pos rfl]; simp [mE], by simp [mE, h2], fun j hj => ?_⟩
            simp only [mE, List.length_map, List.length_set] at hj
            obtain ⟨e2, b1, b2, b3, b4⟩ := h3 j (by omega)
            by_cases c : i = j
            · subst c
              refine ⟨{ e with key := vk k, val := a.eval z }, by simp [Array.getElem?_modify, q1'], a2, by simp [mE], ?_⟩
              have : (mE vk iv (l.set i (k, v)))[i]'(by simp [mE]; omega) = (vk k, iv v) := by simp [mE]
              rw [this]; exact hv.mono (fun _ h => h) (hne _)
            · refine ⟨e2, by simp [Array.getElem?_modify, c, b1], b2, ?_, ?_⟩
              · rw [b3]; simp [mE, List.getElem_set, c]
              · have : (mE vk iv (l.set i (k, v)))[j]'(by simp [mE]; omega) = (mE vk iv l)[j]'(by omega) := by simp [mE, List.getElem_set, c]
                rw [this]; exact b4.mono (fun _ h => h) (hne _)
        · simp at he
      · simp at he
    · simp at he
def xLook {K V : Type} [DecidableEq K] (vk : K → Value) (iv : V → Im) (l : List (K × V)) (k : K) (v0 : V) : Ext where
  f P o s := match o.op with
    | .lookup t x y c => match P.underlying t, s.eval x with
      | some (.map kt et), .mown m => match s.obj m, zeroA P et with
        | some (.map es), some (.im z) => some ⟨[m], [], (match c with
            | true => .tup [.im (iv ((mget l k).getD v0)), .im (.sc (.bool (mget l k).isSome))]
            | false => .im (iv ((mget l k).getD v0))), [], [KeyOK P kt vk, es = mE vk iv l, valA (s.eval y) = some (vk k), z = iv v0]⟩
        | _, _ => none
      | _, _ => none
    | _ => none
  ok P o s e he hp := by
    split at he
    · rename_i t x y c ho
      split at he
      · rename_i kt et m ht hx
        split at he
        · rename_i es z hm hz
          obtain rfl := Option.some.inj he
          obtain ⟨hK, rfl, hy, rfl, _⟩ := hp
          unfold zeroA at hz
          cases hi : P.info? et with
          | none => rw [hi] at hz; simp at hz
          | some i =>
            cases hzz : i.zero with
            | none => rw [hi] at hz; simp [hzz] at hz
            | some zv =>
              rw [hi] at hz
              simp [hzz] at hz
              refine .quiet rfl fun Γ κ I s2 a w hP hr hn => ?_
              have g1 := opd hr hn x (by simp [ho, Op.operands]) hx
              have g2 := valA_rep hy (opd hr hn y (by simp [ho, Op.operands]) rfl)
              have hm2 := (needs_obj hn m (by simp)).trans hm
              obtain ⟨ki, eκ, ex⟩ := mown_inv g1
              obtain ⟨ki', arr, eκ', h1, h2, h3⟩ := map_at (hr.inv.objs m _ hm2)
              rw [eκ] at eκ'; obtain rfl := Option.some.inj eκ'
              have hks := keys_mE h2 (fun i hi => let ⟨e, a1, a2, a3, _⟩ := h3 i hi; ⟨e, a1, a2, a3, trivial⟩)
              have hlen : (mE vk iv l).length = l.length := by simp [mE]
              have hz0 : (zeroValue et).run P w = .ok zv w := by simp [zeroValue, run_typeInfo' hi, hzz]
              have hrun := run_mlook (k := k) (c := c) ht hK h1 hks hz0
              have hrep : Rep w I κ (.im (iv ((mget l k).getD v0))) (((hit k (l.map (·.1)) arr.toList 0).map (·.2)).getD zv) ∧ (hit k (l.map (·.1)) arr.toList 0).isSome = (mget l k).isSome := by
                rcases hit_ok k l arr.toList 0 (by simp [h2, hlen]) with ⟨q1, q2, q3⟩ | ⟨i, e, p, q1, q2, q3, q4, q5, q6⟩
                · rw [q1, q2]
                  refine ⟨?_, rfl⟩
                  have := constA_rep w I κ zv
                  rw [hz] at this; exact this
                · rw [q4, q5]
                  refine ⟨?_, rfl⟩
                  have q1' : arr[i]? = some e := by simpa using q1
                  have hil : i < l.length := (List.getElem?_eq_some_iff.1 q2).1
                  obtain ⟨e', a1, a2, a3, a4⟩ := h3 i (by omega)
                  rw [q1'] at a1; obtain rfl := Option.some.inj a1
                  have := (List.getElem?_eq_some_iff.1 q2).2
                  simp [mE, this] at a4
                  exact .im a4
              cases c with
              | false => exact ⟨_, by simp [execOp, ho, ex, g2, hrun], hrep.1⟩
              | true =>
                refine ⟨.tuple #[((hit k (l.map (·.1)) arr.toList 0).map (·.2)).getD zv, .bool (hit k (l.map (·.1)) arr.toList 0).isSome], by simp [execOp, ho, ex, g2, hrun], ?_⟩
                refine Rep.tup (vs := [_, _]) rfl (fun j h h' => ?_)
                match j with
                | 0 => exact hrep.1
                | 1 => show Rep _ _ _ (.im (.sc (.bool (mget l k).isSome))) (.bool _); rw [hrep.2]; exact .im (.sc _)
                | j + 2 => exact absurd h (by simp)
        · simp at he
      · simp at he
    · simp at he
end Go.Pv
set_option linter.unusedVariables false
set_option linter.unusedSimpArgs false
namespace Go.Pv
open Go.Instr
theorem iter_at {w : World} {I : Nat → Prop} {κ : Nat → Option KI} {k : Nat} {m : Option Nat} {n : Nat} {sn : List Nat} (h : OAt w I κ k (.iter m n sn)) : ∃ ki bm, κ k = some ki ∧ w.heap[ki.b]? = some (.mapIter (some bm) n sn.toArray n) ∧
    ∀ m', m = some m' → ∃ km, κ m' = some km ∧ km.b = bm := by
  unfold OAt at h
  cases e : κ k with
  | none => rw [e] at h; obtain ⟨_, _, h⟩ := h; simp at h
  | some ki => rw [e] at h; obtain ⟨bm, h1, h2⟩ := h; exact ⟨ki, bm, rfl, h1, h2⟩
theorem ptr00 {w : World} {I : Nat → Prop} {κ : Nat → Option KI} {k : Nat} {ki : KI} {v : Value} (h : Rep w I κ (.ptr k 0 0) v) (e : κ k = some ki) : v = .pointer (some ⟨ki.b, 0, none⟩) := by
  cases h with
  | ptr e' => rw [e] at e'; obtain rfl := Option.some.inj e'; simp
def remI (n : Nat) (sn : List Nat) : List Nat := (List.range n).filter fun i => !sn.contains i
theorem remI_push {n : Nat} {sn : List Nat} {i : Nat} (hi : i ∈ remI n sn) : ∃ A B, remI n sn = A ++ i :: B ∧ remI n (sn ++ [i]) = A ++ B := by
  obtain ⟨h1, h2⟩ := List.mem_filter.1 hi
  have hin : i < n := by simpa using h1
  have := filter_part (l := List.range n) (f := fun j => !sn.contains j) (g := fun j => !(sn ++ [i]).contains j) (i := i) (by simpa using hin) (by simpa using h2) (by simp) (fun j hj hne => by simp [hne])
  simp only [List.getElem_range] at this
  exact ⟨_, _, this.1, this.2⟩
theorem Sat.drew {Γ : Ctx} {s : AState} {a : Act} {w : World} (hs : Sat Γ s a w) : Sat Γ s a w.drew := by
  obtain ⟨κ, I, hr⟩ := hs
  have hk : Keeps Γ.M0 Γ.w0 w.drew := ⟨hr.inv.keep.os, hr.inv.keep.tape, hr.inv.keep.output, hr.inv.keep.size, hr.inv.keep.block⟩
  refine ⟨κ, I, hr.size, hr.defers, fun x => (hr.slots x).mono (fun _ h => h) (fun _ _ => rfl) (fun _ _ => rfl), ?_, hr.inv.inj, hr.inv.disj, hr.inv.bound, hk, hr.inv.ikeep, hr.inv.fromI, hr.inv.fromO, hr.inv.fix⟩
  intro k o hko
  have := hr.inv.objs k o hko
  unfold OAt at this ⊢
  split
  · rename_i e; rw [e] at this; exact this
  · rename_i ki e; rw [e] at this; exact this.mono (fun _ h => h) (fun _ _ => rfl) rfl (fun _ _ => rfl)
theorem Sat.putv {Γ : Ctx} {s : AState} {a : Act} {w : World} {κ : Nat → Option KI} {I : Nat → Prop} (hr : Rel Γ κ I s a w) (d : Nat) (hd : d < Γ.n) {x : AVal} {v : Value} (hx : Rep w I κ x v) : Rel Γ κ I (s.put (some d) x) (a.put (some d) v) w := by
  refine ⟨by simpa [Act.put] using hr.size, hr.defers, fun y => ?_, hr.inv.eqv (fun k o hk => by rw [AState.obj_put] at hk; exact hk) rfl⟩
  rw [AState.get_put]
  by_cases e : d = y
  · rw [if_pos e]
    have hsz : d < a.tmps.size := by rw [hr.size]; exact hd
    have : (a.put (some d) v).tmps.getD y undef = v := by subst e; simp [Act.put, hsz]
    rw [this]; exact hx
  · rw [if_neg e]
    have : (a.put (some d) v).tmps.getD y undef = a.tmps.getD y undef := by simp [Act.put, Array.getD_eq_getD_getElem?, Array.getElem?_setIfInBounds, e]
    rw [this]; exact hr.slots y
theorem AWp.next {Γ : Ctx} {P : Program} {id : Nat} {o1 o2 : Oper} {Q : Exit → AState → Prop} {s : AState} {x : Operand} (d1 d2 k m : Nat) {n : Nat} {sn : List Nat} {es : List (Value × Im)} (hP : Γ.P = P)
    (h1 : o1.op = .next x false) (h2 : o2.op = .extract (.tmp d1) 0) (g1 : o1.guard = none) (g2 : o2.guard = none) (e1 : o1.dst = some d1) (e2 : o2.dst = some d2) (l1 : d1 < Γ.n) (l2 : d2 < Γ.n)
    (hx : s.eval x = .ptr k 0 0) (hk : s.obj k = some (.iter (some m) n sn)) (hm : s.obj m = some (.map es)) (hn : n = es.length)
    (h0 : remI n sn = [] → Q .normal ((s.put (some d1) .top).put (some d2) (.im (.sc (.bool false)))))
    (hi : ∀ i A B, remI n sn = A ++ i :: B → remI n (sn ++ [i]) = A ++ B → i < n → Q .normal (((s.objput [(k, some (.iter (some m) n (sn ++ [i])))]).put (some d1) .top).put (some d2) (.im (.sc (.bool true))))) :
    AWp Γ (.region id #[o1, o2] false) Q s := by
  subst hP
  intro a w hs
  refine wp_region_lit ?_
  refine wpList_plain g1 fun K hK => ?_
  obtain ⟨κ, I, hr⟩ := hs
  obtain ⟨km, arr, eκ, q1, q2, q3⟩ := map_at (hr.inv.objs m _ hm)
  obtain ⟨ki, bm, eκ2, r1, r2⟩ := iter_at (hr.inv.objs k _ hk)
  obtain ⟨km', e', rfl⟩ := r2 m rfl
  rw [eκ] at e'; obtain rfl := Option.some.inj e'
  have hrx := hr.eval x
  rw [hx] at hrx
  have ex := ptr00 hrx eκ2
  have hborn : ∀ e ∈ arr.toList, ∃ i, arr[i]? = some e ∧ e.born = i ∧ i < n := by
    intro e he
    obtain ⟨i, hi, rfl⟩ := List.mem_iff_getElem.1 he
    simp only [Array.length_toList] at hi
    obtain ⟨e2, b1, b2, _⟩ := q3 i (by omega)
    have : arr[i]? = some arr[i] := Array.getElem?_eq_getElem hi
    rw [this] at b1; obtain rfl := Option.some.inj b1
    exact ⟨i, by simp, by simpa using b2, by omega⟩
  have step2 : ∀ (s1 : AState) (a1 : Act) (w1 : World) (b : Bool) (vs : List Value), Sat Γ s1 (a1.put (some d1) (.tuple ((.bool b) :: vs).toArray)) w1 → d1 < a1.tmps.size → Q .normal (s1.put (some d2) (.im (.sc (.bool b)))) →
      wpList Γ.P #[o1, o2] (fun e a' w' => ∃ s', Sat Γ s' a' w' ∧ Q e s') [o2] (a1.put (some d1) (.tuple ((.bool b) :: vs).toArray)) w1 := by
    intro s1 a1 w1 b vs hs1 hsz hq
    refine wpList_plain g2 fun K hK => ?_
    have hval : (a1.put (some d1) (.tuple ((.bool b) :: vs).toArray)).eval (.tmp d1) = .tuple ((.bool b) :: vs).toArray := by simp [Act.put, Act.eval, hsz]
    have hgoal := hK ((a1.put (some d1) (.tuple ((.bool b) :: vs).toArray)).put o2.dst (.bool b)) w1 (by
      refine ⟨_, ?_, hq⟩
      rw [e2]
      obtain ⟨κ1, I1, hr1⟩ := hs1
      exact ⟨κ1, I1, Sat.putv hr1 d2 l2 (.im (.sc _))⟩)
    unfold Oper.wp
    simp [execOp, h2, hval, Instr.extract, Result.andThen]
    exact hgoal
  have hmemI : ∀ e, e ∈ (leftOf arr sn.toArray).toList ↔ ∃ i, arr[i]? = some e ∧ e.born = i ∧ i ∈ remI n sn := by
    intro e
    constructor
    · intro he
      have he' : e ∈ arr ∧ e.born ∉ sn := by simpa [leftOf] using he
      obtain ⟨i, b1, b2, b3⟩ := hborn e (by simpa using he'.1)
      refine ⟨i, b1, b2, List.mem_filter.2 ⟨by simpa using b3, ?_⟩⟩
      rw [b2] at he'; simpa using he'.2
    · rintro ⟨i, b1, b2, b3⟩
      obtain ⟨_, b4⟩ := List.mem_filter.1 b3
      have := Array.mem_of_getElem? b1
      have hb4 : i ∉ sn := by simpa using b4
      simp [leftOf, this, b2, hb4]
  have hsz1 : d1 < a.tmps.size := by rw [hr.size]; exact l1
  rcases run_next_at (P := Γ.P) w o1.type ki.b km.b n n sn.toArray arr es.length r1 q1 (fun e he => by obtain ⟨i, _, b2, b3⟩ := hborn e he; omega) (by omega) with ⟨c0, hrun⟩ | ⟨e, he, w1, hw1, hrun⟩
  · have hrem : remI n sn = [] := by
      refine List.eq_nil_iff_forall_not_mem.2 fun i hi' => ?_
      have hin : i < n := by have := (List.mem_filter.1 hi').1; simpa using this
      obtain ⟨e, b1, b2, _⟩ := q3 i (by omega)
      have := (hmemI e).2 ⟨i, b1, b2, hi'⟩
      have h00 : (leftOf arr sn.toArray).toList = [] := by rw [← List.length_eq_zero_iff]; simpa using c0
      rw [h00] at this; simp at this
    have hg := hK (a.put o1.dst (.tuple #[.bool false])) w (by
      rw [e1]
      exact step2 (s.put (some d1) .top) a w false [] ⟨κ, I, Sat.putv hr d1 l1 (.top _)⟩ hsz1 (h0 hrem))
    unfold Oper.wp
    simp [execOp, h1, ex, hrun, Result.andThen]
    exact hg
  · obtain ⟨i, b1, b2, b3⟩ := (hmemI e).1 he
    obtain ⟨A, B, p1, p2⟩ := remI_push b3
    have hin : i < n := by have := (List.mem_filter.1 b3).1; simpa using this
    have hs1 : ∃ κ I, Rel Γ κ I s a w1 ∧ κ k = some ki ∧ κ m = some km ∧ w1.heap = w.heap := by
      rcases hw1 with rfl | rfl
      · exact ⟨κ, I, hr, eκ2, eκ, rfl⟩
      · have hk' : Keeps Γ.M0 Γ.w0 w.drew := ⟨hr.inv.keep.os, hr.inv.keep.tape, hr.inv.keep.output, hr.inv.keep.size, hr.inv.keep.block⟩
        refine ⟨κ, I, ⟨hr.size, hr.defers, fun x => (hr.slots x).mono (fun _ h => h) (fun _ _ => rfl) (fun _ _ => rfl), ⟨fun k o hko => ?_, hr.inv.inj, hr.inv.disj, hr.inv.bound, hk', hr.inv.ikeep, hr.inv.fromI, hr.inv.fromO, hr.inv.fix⟩⟩, eκ2, eκ, rfl⟩
        have := hr.inv.objs k o hko
        unfold OAt at this ⊢
        split
        · rename_i e; rw [e] at this; exact this
        · rename_i ki e; rw [e] at this; exact this.mono (fun _ h => h) (fun _ _ => rfl) rfl (fun _ _ => rfl)
    obtain ⟨κ1, I1, hr1, f1, f2, f3⟩ := hs1
    let ob : Obj := .mapIter (some km.b) n (sn ++ [e.born]).toArray es.length
    have hb : ki.b < w1.heap.size := by rw [f3]; exact (Array.getElem?_eq_some_iff.1 r1).1
    have hO : ORep (World.setBlock w1 ki.b ob) I1 κ1 ki (.iter (some m) n (sn ++ [i])) := by
      refine ⟨km.b, by rw [setBlock_get _ _ _ _ hb, if_pos rfl]; simp [ob, b2, hn], fun m' e => by obtain rfl := Option.some.inj e; exact ⟨km, f2, rfl⟩⟩
    obtain ⟨u1, u2⟩ := hr1.inv.update hk f1 hO
    have hr2 : Rel Γ κ1 I1 (s.objput [(k, some (.iter (some m) n (sn ++ [i])))]) a (World.setBlock w1 ki.b ob) :=
      ⟨hr1.size, hr1.defers, fun y => (hr1.slots y).mono (fun _ h => h) u2 (fun _ _ => rfl), u1⟩
    have hg := hK (a.put o1.dst (.tuple #[.bool true, e.key, e.val])) (World.setBlock w1 ki.b ob) (by
      rw [e1]
      exact step2 _ a _ true [e.key, e.val] ⟨κ1, I1, Sat.putv hr2 d1 l1 (.top _)⟩ hsz1 (hi i A B p1 p2 hin))
    unfold Oper.wp
    simp [execOp, h1, ex, hrun, Result.andThen]
    exact hg
end Go.Pv
set_option linter.unusedVariables false
set_option linter.unusedSimpArgs false
namespace Go.Pv
abbrev vkI (q : IntKind) (a : Int) : Value := .int q a
end Go.Pv
