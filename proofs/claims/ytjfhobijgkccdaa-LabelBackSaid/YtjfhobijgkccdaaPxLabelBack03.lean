import Derived.Laws.MakeOwn
import Derived.Lib.Builder
import Derived.Lib.UnsafeStr
import Derived.Test.YtjfhobijgkccdaaPxLabelBack02
set_option linter.unusedVariables false
set_option linter.unusedSimpArgs false
namespace Go.Pv
def ptrEq : AVal → AVal → Option Bool
  | .im (.sc (.pointer none)), .im (.sc (.pointer none)) => some true
  | .ptr .., .im (.sc (.pointer none)) => some false
  | .ip _, .im (.sc (.pointer none)) => some false
  | .im (.sc (.pointer none)), .ptr .. => some false
  | .im (.sc (.pointer none)), .ip _ => some false
  | .ptr k 0 j, .ptr k' 0 j' => match Nat.beq k k' && Nat.beq j j' with
    | true => some true
    | false => none
  | _, _ => none
theorem ptrEq_ok {w : World} {I : Nat → Prop} {κ : Nat → Option KI} {x y : AVal} {u v : Value} {r : Bool} (h : ptrEq x y = some r) (hx : Rep w I κ x u) (hy : Rep w I κ y v) :
    (u = .pointer none ∧ v = .pointer none ∧ r = true) ∨ (∃ a, u = .pointer (some a) ∧ v = .pointer none ∧ r = false) ∨ (∃ a, u = .pointer none ∧ v = .pointer (some a) ∧ r = false) ∨ ∃ a, u = .pointer (some a) ∧ v = .pointer (some a) ∧ r = true := by
  unfold ptrEq at h
  split at h
  · obtain rfl := Option.some.inj h; exact .inl ⟨hx.sc_inv, hy.sc_inv, rfl⟩
  · obtain rfl := Option.some.inj h; cases hx; exact .inr (.inl ⟨_, rfl, hy.sc_inv, rfl⟩)
  · obtain rfl := Option.some.inj h; cases hx; exact .inr (.inl ⟨_, rfl, hy.sc_inv, rfl⟩)
  · obtain rfl := Option.some.inj h; cases hy; exact .inr (.inr (.inl ⟨_, hx.sc_inv, rfl, rfl⟩))
  · obtain rfl := Option.some.inj h; cases hy; exact .inr (.inr (.inl ⟨_, hx.sc_inv, rfl, rfl⟩))
  · split at h
    · rename_i hb
      simp only [Bool.and_eq_true] at hb
      obtain ⟨h1, h2⟩ := hb
      obtain rfl := Nat.eq_of_beq_eq_true h1
      obtain rfl := Nat.eq_of_beq_eq_true h2
      obtain rfl := Option.some.inj h
      cases hx with
      | ptr e1 => cases hy with
        | ptr e2 => rw [e1] at e2; obtain rfl := Option.some.inj e2; exact .inr (.inr (.inr ⟨_, rfl, rfl, rfl⟩))
    · simp at h
  · simp at h
theorem run_ptrNil {P : Program} {t e : TypeId} (ht : P.underlying t = some (.pointer e)) (w : World) : (Op.equal t (.pointer none) (.pointer none)).run P w = .ok true w ∧ (∀ a, (Op.equal t (.pointer (some a)) (.pointer none)).run P w = .ok false w) ∧ ∀ a, (Op.equal t (.pointer none) (.pointer (some a))).run P w = .ok false w := by
  unfold Op.equal Op.maxDepth
  refine ⟨?_, fun a => ?_, fun a => ?_⟩ <;> rw [Op.equalIn] <;> simp only [Sem.run_bind, run_underlying' ht, Result.andThen_ok, Sem.run_pure] <;> rfl
theorem run_eqlP {P : Program} {t : TypeId} {p q : Option Addr} {r : Bool} {w : World} (h : (Op.equal t (.pointer p) (.pointer q)).run P w = .ok r w) : (binOp .eql t (.pointer p) (.pointer q)).run P w = .ok (.bool r) w ∧ (binOp .neq t (.pointer p) (.pointer q)).run P w = .ok (.bool !r) w := by
  constructor
  · show (do pure (.bool (← Op.equal t (.pointer p) (.pointer q))) : Sem Value).run P w = _
    rw [Sem.run_bind, h]; rfl
  · show (do pure (.bool (!(← Op.equal t (.pointer p) (.pointer q)))) : Sem Value).run P w = _
    rw [Sem.run_bind, h]; rfl
theorem run_ptrEq {P : Program} {t e : TypeId} {j : TypeInfo} (ht : P.underlying t = some (.pointer e)) (hj : P.info? e = some j) {w : World} {I : Nat → Prop} {κ : Nat → Option KI} {x y : AVal} {u v : Value} {r : Bool} (h : ptrEq x y = some r) (hx : Rep w I κ x u) (hy : Rep w I κ y v) :
    (binOp .eql t u v).run P w = .ok (.bool r) w ∧ (binOp .neq t u v).run P w = .ok (.bool !r) w ∧ (∀ op p q, (eqGuard op t p q u v).run P w = .ok () w) := by
  rcases ptrEq_ok h hx hy with ⟨rfl, rfl, rfl⟩ | ⟨a, rfl, rfl, rfl⟩ | ⟨a, rfl, rfl, rfl⟩ | ⟨a, rfl, rfl, rfl⟩
  · exact ⟨(run_eqlP (run_ptrNil ht w).1).1, (run_eqlP (run_ptrNil ht w).1).2, fun op p q => by cases op <;> rfl⟩
  · exact ⟨(run_eqlP ((run_ptrNil ht w).2.1 a)).1, (run_eqlP ((run_ptrNil ht w).2.1 a)).2, fun op p q => by cases op <;> rfl⟩
  · exact ⟨(run_eqlP ((run_ptrNil ht w).2.2 a)).1, (run_eqlP ((run_ptrNil ht w).2.2 a)).2, fun op p q => by cases op <;> rfl⟩
  · exact ⟨run_eql_ptr_same w a ht hj, Lib.run_neq_ptr_same w a ht hj, fun op p q => by cases op <;> rfl⟩
def xPtrEq (b : Option Bool) : Ext where
  f P o s := match o.op with
    | .binOp op t x y _ => match P.underlying t, ptrEq (s.eval x) (s.eval y) with
      | some (.pointer e), some r => match P.info? e with
        | some j => match op with
          | .eql => some ⟨[], [], .im (.sc (.bool (optB b r).1)), [], (optB b r).2⟩
          | .neq => some ⟨[], [], .im (.sc (.bool (optB b !r).1)), [], (optB b !r).2⟩
          | _ => none
        | none => none
      | _, _ => none
    | _ => none
  ok P o s e he hp := by
    split at he
    · rename_i op t x y _ ho
      split at he
      · rename_i el r ht hr
        split at he
        · rename_i j hj
          split at he
          · obtain rfl := Option.some.inj he
            simp only at hp ⊢
            rw [optB_eq hp]
            exact .quiet rfl fun Γ κ I s2 a w hP hrel hn => by
              obtain ⟨g1, g2, g3⟩ := run_ptrEq (P := P) ht hj hr (opd hrel hn x (by simp [ho, Op.operands]) rfl) (opd hrel hn y (by simp [ho, Op.operands]) rfl)
              exact ⟨.bool r, by simp only [execOp, ho, Sem.run_bind, g3, Result.andThen_ok, g1, Sem.run_pure], .im (.sc _)⟩
          · obtain rfl := Option.some.inj he
            simp only at hp ⊢
            rw [optB_eq hp]
            exact .quiet rfl fun Γ κ I s2 a w hP hrel hn => by
              obtain ⟨g1, g2, g3⟩ := run_ptrEq (P := P) ht hj hr (opd hrel hn x (by simp [ho, Op.operands]) rfl) (opd hrel hn y (by simp [ho, Op.operands]) rfl)
              exact ⟨.bool !r, by simp only [execOp, ho, Sem.run_bind, g3, Result.andThen_ok, g2, Sem.run_pure], .im (.sc _)⟩
          · simp at he
        · simp at he
      · simp at he
    · simp at he
theorem box_shape {w : World} {I : Nat → Prop} {κ : Nat → Option KI} {k j el : Nat} {cells : List AVal} {v : Value} (h : OAt w I κ k (.box el cells)) (hv : Rep w I κ (.ptr k 0 j) v) :
    ∃ b, v = .pointer (some ⟨b, j, none⟩) ∧ w.shape? b = some (el, cells.length) := by
  cases hv with
  | @ptr _ _ _ ki e =>
    simp only [OAt, e] at h
    obtain ⟨h1, h2, arr, h3, h4, _⟩ := h
    exact ⟨ki.b, by simp, by simp [World.shape?, h3, h4]⟩
def xUnsafe : Ext where
  f P o s := match o.op with
    | .convert st t x => match s.eval x with
      | .ptr k 0 j => match s.obj k with
        | some (.box el cells) => match P.underlying st, P.underlying t with
          | some (.pointer u), some .unsafePointer => match P.info? u with
            | some i => match Nat.blt 0 i.size && Nat.blt j cells.length with
              | true => some ⟨[k], [], .ptr k 0 j, [], []⟩
              | false => none
            | none => none
          | some .unsafePointer, some (.pointer u) => match P.info? u with
            | some i => match liesAt P P.depth el (cells.length / P.cellsOf el) j u 1 with
              | true => some ⟨[k], [], .ptr k 0 j, [], []⟩
              | false => none
            | none => none
          | _, _ => none
        | _ => none
      | _ => none
    | _ => none
  ok P o s e he hp := by
    split at he
    · rename_i st t x ho
      split at he
      · rename_i k j hx
        split at he
        · rename_i el cells hk
          split at he
          · rename_i u hs ht
            split at he
            · rename_i i hi
              split at he
              · rename_i hb
                obtain rfl := Option.some.inj he
                simp only [Bool.and_eq_true, Nat.blt_eq] at hb
                refine .quiet rfl fun Γ κ I s2 a w hP hrel hn => ?_
                have g := opd hrel hn x (by simp [ho, Op.operands]) hx
                obtain ⟨b, e1, e2⟩ := box_shape (hrel.inv.objs k _ ((needs_obj hn k (by simp)).trans hk)) g
                refine ⟨a.eval x, ?_, g⟩
                rw [e1]
                simp only [execOp, ho, e1]
                rw [Sem.run_bind, Lib.run_to_unsafe w ⟨b, j, none⟩ hs ht hi (by omega) e2 hb.2]
                rfl
              · simp at he
            · simp at he
          · rename_i u hs ht
            split at he
            · rename_i i hi
              split at he
              · rename_i hb
                obtain rfl := Option.some.inj he
                refine .quiet rfl fun Γ κ I s2 a w hP hrel hn => ?_
                have g := opd hrel hn x (by simp [ho, Op.operands]) hx
                obtain ⟨b, e1, e2⟩ := box_shape (hrel.inv.objs k _ ((needs_obj hn k (by simp)).trans hk)) g
                refine ⟨a.eval x, ?_, g⟩
                rw [e1]
                simp only [execOp, ho, e1]
                rw [Sem.run_bind, Lib.run_from_unsafe w ⟨b, j, none⟩ hs ht hi e2 hb]
                rfl
              · simp at he
            · simp at he
          · simp at he
        · simp at he
      · simp at he
    · simp at he
theorem x_noEscape {P : Program} {g : FuncId} {fn : Func} (hf : P.funcs[g]? = some fn) (hname : (fn.name == "runtime.NumGoroutine") = false) (hb : fn.body.isNone = true) (hn : Extern.findNext fn = none) (he : Extern.find fn = some Extern.AbiNoEscape.same) (v : Value) (w : World) :
    (callFunc g #[v]).run P w = .ok (.value v) w := by
  rw [run_callFunc_extern hf hname hb hn he, Lib.run_noEscape]
  rfl
def xSame (g : Nat) : Ext where
  f P o s := match o.op with
    | .call { callee := .value fo, args := ⟨[x]⟩, argTypes := ts } => match s.eval fo with
      | .im (.sc (.func (.func g') ⟨[]⟩ ⟨[]⟩)) => match Nat.beq g g' with
        | true => some ⟨[], [], s.eval x, [], [∀ v w, (callFunc g #[v]).run P w = .ok (.value v) w]⟩
        | false => none
      | _ => none
    | _ => none
  ok P o s e he hp := by
    split at he
    · rename_i fo x ts ho
      split at he
      · rename_i g' hfo
        split at he
        · rename_i hb
          obtain rfl := Nat.eq_of_beq_eq_true hb
          obtain rfl := Option.some.inj he
          refine .quiet rfl fun Γ κ I s2 a w hP hrel hn => ?_
          have h1 := (opd hrel hn fo (by simp [ho, Op.operands, Call.operands]) hfo).sc_inv
          refine ⟨a.eval x, ?_, opd hrel hn x (by simp [ho, Op.operands, Call.operands]) rfl⟩
          simp only [execOp, ho, resolve, h1, Deferred.ofValue, Sem.run_bind, Sem.run_pure, Result.andThen_ok, invoke]
          have := hp.1 (a.eval x) w
          simpa using this
        · simp at he
      · simp at he
    · simp at he
def xSliceData : Ext where
  f P o s := match o.op with
    | .call { callee := .builtin .unsafeSliceData, args := ⟨[x]⟩, argTypes := ts } => match s.eval x with
      | .own k => match s.obj k with
        | some (.row sz el es) => some ⟨[k], [], .ptr k 0 0, [], [es ≠ []]⟩
        | _ => none
      | _ => none
    | _ => none
  ok P o s e he hp := by
    split at he
    · rename_i x ts ho
      split at he
      · rename_i k hx
        split at he
        · rename_i sz el es hk
          obtain rfl := Option.some.inj he
          obtain ⟨hne, _⟩ := hp
          refine .quiet rfl fun Γ κ I s2 a w hP hrel hn => ?_
          have g := opd hrel hn x (by simp [ho, Op.operands, Call.operands]) hx
          have hO := hrel.inv.objs k _ ((needs_obj hn k (by simp)).trans hk)
          generalize ha : a.eval x = v at g
          cases g with
          | own0 base e => simp only [OAt, e] at hO; obtain ⟨_, _, e'⟩ := hO; simp at e'; exact absurd e'.2.2 hne
          | @own _ ki e =>
            simp only [OAt, e] at hO
            obtain ⟨h1, h2, h3, _⟩ := hO
            have hpos : 0 < es.length := by cases es with | nil => exact absurd rfl hne | cons => simp
            refine ⟨.pointer (some ⟨ki.b, 0, none⟩), ?_, by have := Rep.ptr (w := w) (I := I) (e := 0) (j := 0) e; show Rep w I κ (.ptr k 0 0) _; simpa using this⟩
            have hc : ki.cap ≠ 0 := by omega
            have hdef : ∀ ts ty, (Builtin.unsafeSliceData_ ts ty #[.slice (some ⟨ki.b, 0, none⟩) ki.len ki.cap]).run P w = .ok (.pointer (some ⟨ki.b, 0, none⟩)) w := fun ts ty => by
              show (do
                if ki.cap ≠ 0 then pure (.pointer (some ⟨ki.b, 0, none⟩))
                else if (← viewAt ki.b).isSome then pure (.pointer (some ⟨ki.b, 0, none⟩))
                else pure (.pointer (some ⟨← newObj (.view ⟨ki.b, 0, none⟩ (← elemOf ty)), 0, none⟩)) : Sem Value).run P w = _
              rw [if_pos hc]; rfl
            simp [execOp, ho, resolve, invoke, builtin, ha, hdef]
        · simp at he
      · simp at he
    · simp at he
def bytesOK (xs : List Int) : Prop := ∀ x ∈ xs, 0 ≤ x ∧ x < 256
instance (xs : List Int) : Decidable (bytesOK xs) := inferInstanceAs (Decidable (∀ x ∈ xs, 0 ≤ x ∧ x < 256))
def toB (xs : List Int) : List UInt8 := xs.map fun x => UInt8.ofNat x.toNat
theorem toB_get {xs : List Int} (h : bytesOK xs) {j : Nat} {x : UInt8} (hj : (toB xs)[j]? = some x) : xs[j]? = some (x.toNat : Int) := by
  unfold toB at hj
  rw [List.getElem?_map] at hj
  cases e : xs[j]? with
  | none => rw [e] at hj; simp at hj
  | some y =>
    rw [e] at hj
    simp at hj
    subst hj
    obtain ⟨h0, h1⟩ := h y (List.mem_of_getElem? e)
    congr 1
    simp
    omega
theorem strOf_eq (xs : List Int) : strOf xs = ⟨(toB xs).toArray⟩ := by
  have key : ∀ (xs : List Int) (r : ByteArray), xs.foldl (fun r n => r.push (UInt8.ofNat n.toNat)) r = ⟨(r.data.toList ++ toB xs).toArray⟩ := by
    intro xs
    induction xs with
    | nil => intro r; simp [toB]
    | cons x xs ih =>
      intro r
      rw [List.foldl_cons, ih]
      simp [toB, ByteArray.push]
  rw [strOf, key]
  rfl
theorem freeze_other {w : World} {b n : Nat} : (∀ c, c ≠ b → (w.freeze ⟨b, 0, none⟩ n).heap[c]? = w.heap[c]?) ∧ (w.freeze ⟨b, 0, none⟩ n).heap.size = w.heap.size ∧ (w.freeze ⟨b, 0, none⟩ n).os = w.os ∧ (w.freeze ⟨b, 0, none⟩ n).tape = w.tape ∧ (w.freeze ⟨b, 0, none⟩ n).output = w.output := by
  unfold World.freeze
  split
  · exact ⟨fun _ _ => rfl, rfl, rfl, rfl, rfl⟩
  · exact ⟨fun c hc => by simp [Array.getElem?_modify, Ne.symm hc], by simp, rfl, rfl, rfl⟩
theorem Inv.freezeBlock {Γ : Ctx} {κ : Nat → Option KI} {I : Nat → Prop} {s : AState} {w w' : World} {k : Nat} {o : MObj} {ki : KI} (h : Inv Γ κ I s w) (hk : s.obj k = some o) (hκ : κ k = some ki)
    (h1 : ∀ c, c ≠ ki.b → w'.heap[c]? = w.heap[c]?) (h2 : w'.heap.size = w.heap.size) (h3 : w'.os = w.os) (h4 : w'.tape = w.tape) (h5 : w'.output = w.output) :
    Inv Γ κ I (s.objput [(k, none)]) w' ∧ ∀ b, I b → w'.heap[b]? = w.heap[b]? := by
  have hI : ∀ b, I b → w'.heap[b]? = w.heap[b]? := fun b hb => h1 b (fun e => by subst e; exact h.disj k o ki hk hκ hb)
  have hold : ∀ k' q, (s.objput [(k, none)]).obj k' = some q → k' ≠ k ∧ s.obj k' = some q := by
    intro k' q hq
    change (look ((k, none) :: s.objs) k').getD none = _ at hq
    change _ ∧ (look s.objs k').getD none = _
    rw [look_cons] at hq
    by_cases e : k = k'
    · rw [if_pos e] at hq; simp at hq
    · rw [if_neg e] at hq; exact ⟨fun h => e h.symm, hq⟩
  refine ⟨⟨?_, ?_, ?_, ?_, ?_, h.ikeep, h.fromI, ?_, h.fix⟩, hI⟩
  · intro k' q hq
    obtain ⟨hne, hq⟩ := hold k' q hq
    have := h.objs k' q hq
    unfold OAt at this ⊢
    cases e : κ k' with
    | none => rw [e] at this; exact this
    | some ki' => rw [e] at this; exact this.mono (fun _ h => h) hI (h1 _ (fun hb => hne (h.inj k' k q o ki' ki hq hk e hκ hb))) (fun _ _ => rfl)
  · intro q1 q2 o1 o2 ki1 ki2 g1 g2 f1 f2 hb
    exact h.inj q1 q2 o1 o2 ki1 ki2 (hold q1 o1 g1).2 (hold q2 o2 g2).2 f1 f2 hb
  · intro q o' ki' hq f hIb
    exact h.disj q o' ki' (hold q o' hq).2 f hIb
  · intro b hb; rw [h2]; exact h.bound b hb
  · refine ⟨h3.trans h.keep.os, h4.trans h.keep.tape, h5.trans h.keep.output, by rw [h2]; exact h.keep.size, fun b hb hM => ?_⟩
    rw [h1 b (fun e => ?_)]
    · exact h.keep.block b hb hM
    · subst e
      rcases h.fromO k o ki hk hκ with g | g
      · exact hM g
      · omega
  · intro q o' ki' hq f
    exact h.fromO q o' ki' (hold q o' hq).2 f
def xUString (xs : List Int) : Ext where
  f P o s := match o.op with
    | .call { callee := .builtin .unsafeString, args := ⟨[x, y]⟩, argTypes := ⟨[pt, it]⟩ } => match P.underlying pt, s.eval x, s.eval y with
      | some (.pointer e), .ptr k 0 0, .im (.sc (.int .i64 n)) => match s.obj k with
        | some (.row sz el es) => match Nat.beq sz 1 && Nat.beq el e && Nat.beq (P.cellsOf e) 1 with
          | true => some ⟨[k], [], .im (.sc (.string (strOf xs))), [(k, none)], [es = xs.map (encInt .u8), n = (xs.length : Int), xs ≠ [] ∧ xs.length ≤ 9223372036854775807 ∧ bytesOK xs]⟩
          | false => none
        | _ => none
      | _, _, _ => none
    | _ => none
  ok P o s e he hp := by
    split at he
    · rename_i x y pt it ho
      split at he
      · rename_i e k n hpt hx hy
        split at he
        · rename_i sz el es hk
          split at he
          · rename_i hb
            simp only [Bool.and_eq_true] at hb
            obtain ⟨⟨b1, b2⟩, b3⟩ := hb
            obtain rfl := Nat.eq_of_beq_eq_true b1
            obtain rfl := Nat.eq_of_beq_eq_true b2
            have hc := Nat.eq_of_beq_eq_true b3
            obtain rfl := Option.some.inj he
            obtain ⟨rfl, rfl, ⟨hne, hlen, hbytes⟩, _⟩ := hp
            refine .of fun Γ κ I s2 a w hP hrel hn hf => ?_
            have g := opd hrel hn x (by simp [ho, Op.operands, Call.operands]) hx
            have g2 := (opd hrel hn y (by simp [ho, Op.operands, Call.operands]) hy).sc_inv
            have hk2 := (needs_obj hn k (by simp)).trans hk
            have hO := hrel.inv.objs k _ hk2
            generalize ha : a.eval x = v at g
            cases g with
            | @ptr _ _ _ ki e =>
              simp only [OAt, e] at hO
              obtain ⟨h1, h2, h3, arr, h4, h5, h6⟩ := hO
              simp only [List.length_map] at h2 h3 h6
              have hl : (toB xs).length = xs.length := by simp [toB]
              have hrun := Lib.run_unsafeString_row (P := P) w pt it o.type el hpt hc ki.b arr.size (by simp [World.shape?, h4]) (toB xs) (by simpa [toB] using hne) (by rw [hl, h5]; omega) (by rw [hl]; exact hlen) (fun j x hj => by
                have hx := toB_get hbytes hj
                obtain ⟨hjl, hxe⟩ := List.getElem?_eq_some_iff.1 hx
                obtain ⟨q1, q2⟩ := h6 j hjl
                obtain ⟨u, u1, u2⟩ := q2 0 (by simp)
                simp only [List.getElem_map, encInt, List.getElem_cons_zero] at u2
                rw [hxe] at u2
                cases u2
                rw [show (⟨ki.b, 0, none⟩ : Addr).add j = ⟨ki.b, j, none⟩ from by rw [addr_add, Nat.zero_add], cell_of h4]
                simpa using u1)
              obtain ⟨f1, f2, f3, f4, f5⟩ := freeze_other (w := w) (b := ki.b) (n := (toB xs).length)
              obtain ⟨i1, i2⟩ := hrel.inv.freezeBlock hk2 e f1 f2 f3 f4 f5
              refine ⟨.string (strOf xs), _, w.freeze ⟨ki.b, 0, none⟩ (toB xs).length, κ, I, .inl rfl, ?_, i1, fun _ h => h, i2, fun _ _ _ => rfl, .im (.sc _)⟩
              rw [hl] at hrun
              simp only [execOp, ho, resolve, invoke, builtin]
              simp [ha, g2, hrun, strOf_eq, hl]
          · simp at he
        · simp at he
      · simp at he
    · simp at he
end Go.Pv
set_option linter.unusedVariables false
set_option linter.unusedSimpArgs false
namespace Go.Pv
def xCapNil : Ext where
  f P o s := match o.op with
    | .call { callee := .builtin .cap, args := ⟨[x]⟩, argTypes := ts } => match ts[0]? with
      | some t => match P.underlying t, s.eval x with
        | some (.slice _), .none0 => some ⟨[], [], .im (.sc (.int .i64 0)), [], []⟩
        | _, _ => none
      | none => none
    | _ => none
  ok P o s e he hp := by
    split at he
    · rename_i x ts ho
      split at he
      · rename_i t hts
        split at he
        · rename_i el ht hx
          obtain rfl := Option.some.inj he
          refine .quiet rfl fun Γ κ I s2 a w hP hrel hn => ?_
          have g1 := opd hrel hn x (by simp [ho, Op.operands, Call.operands]) hx
          obtain ⟨base, e⟩ := none0_inv g1
          refine ⟨.int .i64 0, ?_, .im (.sc _)⟩
          simp [execOp, ho, resolve, invoke, builtin, e, Builtin.cap_, hts, run_underlying' ht, goInt]
        · simp at he
      · simp at he
    · simp at he
end Go.Pv
