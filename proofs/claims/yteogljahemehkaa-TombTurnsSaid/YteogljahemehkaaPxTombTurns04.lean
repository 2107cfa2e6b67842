import Derived.Test.YteogljahemehkaaPxTombTurns03
set_option linter.unusedVariables false
set_option linter.unusedSimpArgs false
namespace Go.Pv
def isInt (P : Program) (ts : Array TypeId) : Bool := match ts[1]? with
  | some t => match P.underlying t with
    | some (.int _) => true
    | _ => false
  | none => false
theorem run_append_zero {P : Program} {st e : TypeId} {ts : Array TypeId} {ty : TypeId} {sz by_ : Nat} {i : TypeInfo} {z : Value} (hts : ts[0]? = some st) (hts2 : isInt P ts = true)
    (hel : P.underlying st = some (.slice e)) (hi : P.info? e = some i) (hz : i.zero = some z) (hb0 : 0 < i.bytes) (hs0 : 0 < i.size) {base : Option Addr} {kx : IntKind} {m : Nat} {w : World} (hm : 0 < m)
    (hroom : m * i.bytes ≤ 140737488355328) :
    ∃ cap, m ≤ cap ∧ (Builtin.append_ ts ty #[.slice base 0 0, .int kx (m : Int)]).run P w = .ok (.slice (some ⟨w.heap.size, 0, none⟩) m cap) (World.alloc' w.drew (.cells (Builtin.zeroCells z.cells m ++ Builtin.zeroCells z.cells (cap - m)) e)) := by
  have hle : m ≤ m * i.bytes := Nat.le_mul_of_pos_right _ hb0
  have wl : IntKind.i64.wrap (m : Int) = (m : Int) := by simp only [IntKind.wrap, IntKind.signed, IntKind.bits]; simp; omega
  have h48' : ¬ (281474976710656 < Builtin.nextslicecap m 0 * i.bytes) := by
    have : Builtin.nextslicecap m 0 = m := by unfold Builtin.nextslicecap; rw [if_pos (by omega)]
    rw [this]; omega
  have h63 : ¬ (9223372036854775807 < (m : Int)) := by omega
  have hm0 : ¬ m = 0 := by omega
  have hms : ¬ m * i.size = 0 := by
    have := Nat.mul_pos hm hs0; omega
  have hl0 : ¬ ((m : Int) < 0) := by omega
  have hl1 : ¬ (281474976710656 < (m : Int) * (i.bytes : Int)) := by
    have : ((m * i.bytes : Nat) : Int) = (m : Int) * (i.bytes : Int) := by simp
    omega
  let cap := (Question.appendCap m 0 e).cut (w.tape w.drawn (.appendCap m 0 e))
  have hcap : m ≤ cap := by simp only [cap, Question.cut]; omega
  refine ⟨cap, hcap, ?_⟩
  have hask : ∀ (k : Nat) (w : World), (askRoom k).run P w = .ok () w := by
    intro k w; unfold askRoom; split <;> simp [mark, Sem.run]
  have hfc : ∀ w : World, (Builtin.firstCells i.size 0 (.slice base 0 0)).run P w = .ok #[] w := by
    intro w; cases base <;> simp [Builtin.firstCells, loadCells, loadCellsFrom]
  unfold isInt at hts2
  cases h1 : ts[1]? with
  | none => rw [h1] at hts2; simp at hts2
  | some t =>
    rw [h1] at hts2
    simp only at hts2
    cases hd : P.underlying t with
    | none => rw [hd] at hts2; simp at hts2
    | some d =>
      rw [hd] at hts2
      cases d <;> simp at hts2
      have hfin : ∀ l : Array Value, l = Builtin.zeroCells z.cells m ++ Builtin.zeroCells z.cells (cap - m) → w.drew.alloc (.cells l e) = World.alloc' w.drew (.cells (Builtin.zeroCells z.cells m ++ Builtin.zeroCells z.cells (cap - m)) e) := by
        intro l hl; subst hl; rfl
      rw [← hfin _ rfl]
      simp [Builtin.append_, hts, h1, run_underlying' hel, sizeOf, run_typeInfo' hi, asInt, asIntOf, wl, hl0, hl1, hm0, hms, h63, h48', choose, Sem.run, Question.forced, hask, hfc, zeroValue, hz, newRow, newObj, cap, run_underlying' hd]
def xAppZero (k : Nat) (es' : List (List Im)) : Ext where
  f P o s := match o.op with
    | .call { callee := .builtin .append, args := ⟨[x, y]⟩, argTypes := ts } => match ts[0]? with
      | some st => match elemP P st, s.eval x, s.eval y with
        | some (e, sz), .none0, .im (.sc (.int _ n)) => match bytesP P e, zeroA P e with
          | some (by_, sz2), some z => match toImL (valCells z) with
            | some zs => match Nat.beq sz2 sz && leaves (valCells z) && isInt P ts && Nat.blt 0 by_ && Nat.blt 0 sz with
              | true => some ⟨[], [k], .own k, [(k, some (.row sz e es'))], [es' = List.replicate n.toNat zs, 0 < n, n.toNat * by_ ≤ 140737488355328]⟩
              | false => none
            | none => none
          | _, _ => none
        | _, _, _ => none
      | none => none
    | _ => none
  ok P o s e he hp := by
    split at he
    · rename_i x y ts ho
      split at he
      · rename_i st hts
        split at he
        · rename_i el sz kx n hel hx hy
          split at he
          · rename_i by_ sz2 z hby hz
            split at he
            · rename_i zs hzs
              split at he
              · rename_i hb
                simp only [Bool.and_eq_true, Nat.blt_eq] at hb
                obtain ⟨⟨⟨⟨b1, b3⟩, b4⟩, b5⟩, b6⟩ := hb
                obtain rfl := Nat.eq_of_beq_eq_true b1
                obtain rfl := Option.some.inj he
                obtain ⟨rfl, p2, p3, _⟩ := hp
                obtain ⟨hun, ag, hag⟩ := elemP_inv hel
                obtain ⟨i0, zv, hinfo, hzero, hbytes, hsize, hzcs⟩ := bytesP_inv hby
                obtain rfl : constA zv = z := by
                  unfold zeroA at hz; rw [hinfo] at hz; simp [hzero] at hz; exact hz
                obtain ⟨t1, t2⟩ := toImL_get hzs
                refine .of fun Γ κ I s2 a w hP hr hn hf => ?_
                have hfk := hf k (by simp [mkSp])
                have g1 := opd hr hn x (by simp [ho, Op.operands, Call.operands]) hx
                have g2 := (opd hr hn y (by simp [ho, Op.operands, Call.operands]) hy).sc_inv
                obtain ⟨base, e⟩ := none0_inv g1
                obtain ⟨m, rfl⟩ : ∃ m : Nat, n = (m : Int) := ⟨n.toNat, by omega⟩
                simp only [Int.toNat_natCast] at *
                obtain ⟨cap, hcap, hrun⟩ := run_append_zero (P := P) (ty := o.type) (sz := sz2) (by_ := by_) (base := base) (kx := kx) (m := m) (w := w) hts b4 hun hinfo hzero (by omega) (by omega) (by omega) (by rw [hbytes]; exact p3)
                have hdrew : Inv Γ κ I s2 w.drew := by
                  refine ⟨fun k o hk => ?_, hr.inv.inj, hr.inv.disj, hr.inv.bound, ⟨hr.inv.keep.os, hr.inv.keep.tape, hr.inv.keep.output, hr.inv.keep.size, hr.inv.keep.block⟩, hr.inv.ikeep, hr.inv.fromI, hr.inv.fromO, hr.inv.fix⟩
                  have := hr.inv.objs k o hk
                  unfold OAt at this ⊢
                  split
                  · rename_i e'; rw [e'] at this; exact this
                  · rename_i ki' e'; rw [e'] at this; exact this.mono (fun _ h => h) (fun _ _ => rfl) rfl (fun _ _ => rfl)
                obtain ⟨v1, v2, v3⟩ := valCells_rep (constA_rep w.drew I κ zv) b3
                have hzl : zs.length = sz2 := by rw [t1, ← v1, hzcs]
                let ki : KI := ⟨w.drew.heap.size, cap, sz2, m⟩
                let ob : Obj := .cells (Builtin.zeroCells zv.cells m ++ Builtin.zeroCells zv.cells (cap - m)) el
                have hO : ORep (World.alloc' w.drew ob) I (setK κ k (some ki)) ki (.row sz2 el (List.replicate m zs)) := by
                  refine ⟨rfl, by simp [ki], by simp [ki]; omega, _, alloc_new _ _, by simp only [Array.size_append, zeroCells_size, hzcs, ki]; rw [← Nat.add_mul]; congr 1; omega, fun i hi => ?_⟩
                  simp only [List.length_replicate] at hi
                  rw [List.getElem_replicate]
                  refine ⟨hzl, fun j hj => ?_⟩
                  rw [hzl] at hj
                  obtain ⟨u, u1, u2⟩ := v2 j (by omega)
                  refine ⟨u, ?_, (toIm_rep u2 (t2 j (by omega) (by omega))).mono (fun _ h => h) (fun b hb => alloc_get _ _ _ (hdrew.bound b hb))⟩
                  have hlt := idx_lt hi hj
                  have hg := zeroCells_get (z := zv.cells) (n := m) (i := i) (j := j) hi (by omega)
                  rw [hzcs] at hg
                  rw [Array.getElem?_append_left (by rw [zeroCells_size, hzcs]; exact hlt), ← Array.getElem?_toList, hg, u1]
                obtain ⟨f1, f2, f3⟩ := hdrew.alloc hfk (ki := ki) rfl hO
                refine ⟨_, _, _, _, I, .inl rfl, ?_, f1, fun _ h => h, f2, f3, .own (ki := ki) (setK_self ..)⟩
                simp [execOp, ho, resolve, invoke, builtin, e, g2, hrun, ki, ob]
              · simp at he
            · simp at he
          · simp at he
        · simp at he
      · simp at he
    · simp at he
end Go.Pv
