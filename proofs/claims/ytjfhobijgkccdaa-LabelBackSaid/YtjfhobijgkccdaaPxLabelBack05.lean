import Derived.Lib.MakeNoZero
import Derived.Test.YtjfhobijgkccdaaPxLabelBack04
set_option linter.unusedVariables false
set_option linter.unusedSimpArgs false
namespace Go.Pv
theorem x_makeNoZero {P : Program} {g : FuncId} {fn : Func} (hf : P.funcs[g]? = some fn) (hname : (fn.name == "runtime.NumGoroutine") = false) (hb : fn.body.isNone = true) (hn : Extern.findNext fn = none) {ps : Array TypeId} {t e : TypeId}
    (he : Extern.find fn = some (Extern.BytealgMakeNoZero.makeNoZero ps #[t])) (ht : P.underlying t = some (.slice e)) (w : World) (n : Nat) (h : n ≤ 281474976710656) :
    ∃ cs : Array Value, (callFunc g #[.int .i64 (n : Int)]).run P w = .ok (.value (.slice (some ⟨w.heap.size, 0, none⟩) n cs.size)) (World.alloc' w.drew.drew (.cells cs e)) ∧ n ≤ cs.size := by
  obtain ⟨cs, h1, h2, _⟩ := Lib.run_makeNoZero (P := P) w ps t e ht n h
  refine ⟨cs, ?_, h2⟩
  rw [run_callFunc_extern hf hname hb hn he, h1]
  rfl
def xNoZero (g k el : Nat) : Ext where
  f P o s := match o.op with
    | .call { callee := .value fo, args := ⟨[x]⟩, argTypes := ts } => match s.eval fo, s.eval x with
      | .im (.sc (.func (.func g') ⟨[]⟩ ⟨[]⟩)), .im (.sc (.int .i64 n)) => match Nat.beq g g' with
        | true => some ⟨[], [k], .cut k 0 n.toNat, [(k, some (.row 1 el []))], [0 ≤ n, n ≤ 281474976710656, ∀ (w : World) (n : Nat), n ≤ 281474976710656 → ∃ cs : Array Value, (callFunc g #[.int .i64 (n : Int)]).run P w = .ok (.value (.slice (some ⟨w.heap.size, 0, none⟩) n cs.size)) (World.alloc' w.drew.drew (.cells cs el)) ∧ n ≤ cs.size]⟩
        | false => none
      | _, _ => none
    | _ => none
  ok P o s e he hp := by
    split at he
    · rename_i fo x ts ho
      split at he
      · rename_i g' n hfo hx
        split at he
        · rename_i hb
          obtain rfl := Nat.eq_of_beq_eq_true hb
          obtain rfl := Option.some.inj he
          obtain ⟨p1, p2, p3, _⟩ := hp
          refine .of fun Γ κ I s2 a w hP hr hn hf => ?_
          have hfk := hf k (by simp [mkSp])
          have h1 := (opd hr hn fo (by simp [ho, Op.operands, Call.operands]) hfo).sc_inv
          have h2 := (opd hr hn x (by simp [ho, Op.operands, Call.operands]) hx).sc_inv
          obtain ⟨m, rfl⟩ : ∃ m : Nat, n = (m : Int) := ⟨n.toNat, by omega⟩
          simp only [Int.toNat_natCast] at *
          obtain ⟨cs, hrun, hle⟩ := p3 w m (by omega)
          have hdrew1 : Inv Γ κ I s2 w.drew := by
            refine ⟨fun k o hk => ?_, hr.inv.inj, hr.inv.disj, hr.inv.bound, ⟨hr.inv.keep.os, hr.inv.keep.tape, hr.inv.keep.output, hr.inv.keep.size, hr.inv.keep.block⟩, hr.inv.ikeep, hr.inv.fromI, hr.inv.fromO, hr.inv.fix⟩
            have := hr.inv.objs k o hk
            unfold OAt at this ⊢
            split
            · rename_i e'; rw [e'] at this; exact this
            · rename_i ki' e'; rw [e'] at this; exact this.mono (fun _ h => h) (fun _ _ => rfl) rfl (fun _ _ => rfl)
          have hdrew : Inv Γ κ I s2 w.drew.drew := by
            refine ⟨fun k o hk => ?_, hdrew1.inj, hdrew1.disj, hdrew1.bound, ⟨hdrew1.keep.os, hdrew1.keep.tape, hdrew1.keep.output, hdrew1.keep.size, hdrew1.keep.block⟩, hdrew1.ikeep, hdrew1.fromI, hdrew1.fromO, hdrew1.fix⟩
            have := hdrew1.objs k o hk
            unfold OAt at this ⊢
            split
            · rename_i e'; rw [e'] at this; exact this
            · rename_i ki' e'; rw [e'] at this; exact this.mono (fun _ h => h) (fun _ _ => rfl) rfl (fun _ _ => rfl)
          let ki : KI := ⟨w.drew.drew.heap.size, cs.size, 1, 0⟩
          let ob : Obj := .cells cs el
          have hO : ORep (World.alloc' w.drew.drew ob) I (setK κ k (some ki)) ki (.row 1 el []) :=
            ⟨rfl, rfl, Nat.zero_le _, cs, alloc_new _ _, by simp [ki], fun i hi => by simp at hi⟩
          obtain ⟨f1, f2, f3⟩ := hdrew.alloc hfk (ki := ki) rfl hO
          refine ⟨.slice (some ⟨w.heap.size, 0, none⟩) m cs.size, _, _, _, I, .inl rfl, ?_, f1, fun _ h => h, f2, f3, ?_⟩
          · simp only [execOp, ho, resolve, h1, h2, Deferred.ofValue, Sem.run_bind, Sem.run_pure, Result.andThen_ok, invoke]
            have := hrun
            simp [this, h2]
            try rfl
          · have := Rep.cut (w := World.alloc' w.drew.drew ob) (I := I) (κ := setK κ k (some ki)) (k := k) (lo := 0) (n := m) (off := 0) (ki := ki) (setK_self ..) (.inl (by simp)) (by simp [ki]; exact hle)
            exact this
        · simp at he
      · simp at he
    · simp at he
def xCut0 : Ext where
  f P o s := match o.op with
    | .slice t x none hi none => match elemP P t, s.eval x with
      | some (e, sz), .cut k 0 n => match s.obj k with
        | some (.row sz' el []) => match optN s hi n with
          | some u => some ⟨[k], [], .own k, [], [u = 0, 0 < n]⟩
          | none => none
        | _ => none
      | _, _ => none
    | _ => none
  ok P o s e he hp := by
    split at he
    · rename_i t x hi ho
      split at he
      · rename_i e' sz k n hel hx
        split at he
        · rename_i sz' el hk
          split at he
          · rename_i u hu
            obtain rfl := Option.some.inj he
            obtain ⟨rfl, hn0, _⟩ := hp
            obtain ⟨hun, ag, hag⟩ := elemP_inv hel
            refine .quiet rfl fun Γ κ I s2 a w hP hrel hn => ?_
            obtain ⟨m1, m2, m3⟩ := cut_opds (s := s) ho
            have g1 := opd hrel hn x m1 hx
            have q1 : optV ((none : Option Operand).map a.eval) 0 0 := optA_rep hrel hn m2 (show optA s none 0 0 from rfl)
            have q2 := optA_rep hrel hn m3 (optN_A hu)
            have hk2 := (needs_obj hn k (by simp)).trans hk
            have hO := hrel.inv.objs k _ hk2
            generalize ha : a.eval x = v at g1
            cases g1 with
            | cut0 base eκ =>
              have hb := run_sliceBounds (P := P) (isSlice := true) (len := 0) (cap := 0) q1 q2 (Int.le_refl 0) (Int.le_refl 0) (by omega) w
              refine ⟨.slice base 0 0, ?_, .own0 base eκ⟩
              rw [Option.map_none] at hb
              simp only [Int.toNat_zero] at hb
              simp [execOp, ho, ha, Instr.sliceAt, run_underlying' hun, Instr.slice, hb, run_sizeOf' hag]
              try cases base <;> simp [Addr.add]
            | @cut _ _ _ off ki eκ h1 h2 =>
              simp only [OAt, eκ] at hO
              obtain ⟨o1, o2, o3, arr, o4, o5, o6⟩ := hO
              have hb := run_sliceBounds (P := P) (isSlice := true) (len := n) (cap := ki.cap - 0) q1 q2 (Int.le_refl 0) (Int.le_refl 0) (by omega) w
              have hlen : ki.len = 0 := by simpa using o2
              have hoff : off = 0 := by
                rcases h1 with h1 | h1
                · simpa using h1
                · omega
              subst hoff
              refine ⟨.slice (some ⟨ki.b, 0, none⟩) 0 ki.cap, ?_, by have := Rep.own (w := w) (I := I) eκ; rw [hlen] at this; exact this⟩
              rw [Option.map_none] at hb
              simp only [Int.toNat_zero, Nat.sub_zero] at hb ha
              simp [execOp, ho, ha, Instr.sliceAt, run_underlying' hun, Instr.slice, hb, run_sizeOf' hag]
              try simp [Addr.add]
          · simp at he
        · simp at he
      · simp at he
    · simp at he
def xCopy0 : Ext where
  f P o s := match o.op with
    | .call { callee := .builtin .copy, args := ⟨[x, y]⟩, argTypes := ts } => match ts[0]? with
      | some t => match elemP P t, s.eval x, s.eval y with
        | some _, .own k, .none0 => match s.obj k with
          | some (.row sz el []) => some ⟨[k], [], .im (.sc (.int .i64 0)), [], []⟩
          | _ => none
        | _, _, _ => none
      | none => none
    | _ => none
  ok P o s e he hp := by
    split at he
    · rename_i x y ts ho
      split at he
      · rename_i t hts
        split at he
        · rename_i p k hel hx hy
          split at he
          · rename_i sz el hk
            obtain rfl := Option.some.inj he
            obtain ⟨hun, ag, hag⟩ := elemP_inv hel
            refine .quiet rfl fun Γ κ I s2 a w hP hrel hn => ?_
            have g1 := opd hrel hn x (by simp [ho, Op.operands, Call.operands]) hx
            have g2 := opd hrel hn y (by simp [ho, Op.operands, Call.operands]) hy
            obtain ⟨base, e⟩ := none0_inv g2
            have hk2 := (needs_obj hn k (by simp)).trans hk
            have hO := hrel.inv.objs k _ hk2
            have hfc : ∀ (sz : Nat) (w : World), (Builtin.firstCells sz 0 (.slice base 0 0)).run P w = .ok #[] w := by
              intro sz w; cases base <;> simp [Builtin.firstCells, loadCells, loadCellsFrom]
            generalize ha : a.eval x = v at g1
            refine ⟨.int .i64 0, ?_, .im (.sc _)⟩
            cases g1 with
            | own0 base' eκ =>
              cases base' <;> simp [execOp, ho, resolve, invoke, builtin, ha, e, Builtin.copy_, hts, run_underlying' hun, Builtin.lenOf, run_sizeOf' hag, hfc, goInt, storeCells]
            | @own _ ki eκ =>
              simp [execOp, ho, resolve, invoke, builtin, ha, e, Builtin.copy_, hts, run_underlying' hun, Builtin.lenOf, run_sizeOf' hag, hfc, goInt, storeCells]
          · simp at he
        · simp at he
      · simp at he
    · simp at he
end Go.Pv
