import Derived.Test.YticdbkmekkbiiaaPvCall2
set_option linter.unusedVariables false
set_option linter.unusedSimpArgs false
/-! More operations. -/
namespace Go.Pv

theorem opd {Γ : Ctx} {κ : Nat → Option KI} {I : Nat → Prop} {s s2 : AState} {a : Act} {w : World} {o : Oper} {keys news : List Nat} {res : AVal} {post : List (Nat × Option MObj)} (hr : Rel Γ κ I s2 a w)
    (hn : (mkSp s o keys news res post).needs s2) (x : Operand) (hx : x ∈ o.op.operands.toList) {y : AVal} (hy : s.eval x = y) : Rep w I κ y (a.eval x) := by
  have := hr.eval x
  rwa [needs_eval hn x hx, hy] at this

def isPtr : AVal → Bool
  | .ptr .. => true
  | .ip _ => true
  | _ => false

theorem ok_nilCheck {P : Program} {o : Oper} {s : AState} {x : Operand} {y : AVal} (ho : o.op = .nilCheck x) (hx : s.eval x = y) (hy : isPtr y = true) :
    OpOK P o (mkSp s o [] [] y []) :=
  .quiet rfl fun Γ κ I s2 a w hP hr hn => by
    have h := opd hr hn x (by simp [ho, Op.operands]) hx
    refine ⟨a.eval x, ?_, h⟩
    generalize ha : a.eval x = v at h
    cases h <;> simp [isPtr] at hy <;> simp [execOp, ho, ha]

theorem ok_extract {P : Program} {o : Oper} {s : AState} {x : Operand} {i : Nat} {l : List AVal} {y : AVal} (ho : o.op = .extract x i) (hx : s.eval x = .tup l) (hy : l[i]? = some y) :
    OpOK P o (mkSp s o [] [] y []) :=
  .quiet rfl fun Γ κ I s2 a w hP hr hn => by
    have h := opd hr hn x (by simp [ho, Op.operands]) hx
    generalize ha : a.eval x = v at h
    obtain ⟨hi, rfl⟩ := List.getElem?_eq_some_iff.1 hy
    cases h with
    | @tup _ vs hl hreps =>
      refine ⟨vs[i]'(by omega), ?_, hreps i hi (by omega)⟩
      have : vs[i]? = some (vs[i]'(by omega)) := by simp
      simp [execOp, ho, ha, Instr.extract, this]

def fieldP (P : Program) (t : TypeId) (f : Nat) : Option (Nat × Bool × Nat) :=
  match P.underlying t with
  | some (.struct fs) => match fs[f]? with
    | some f => match aggP P f.type with
      | some (ag, sz) => some (f.offset, ag, sz)
      | none => none
    | none => none
  | _ => none

theorem fieldP_inv {P : Program} {t : TypeId} {f off sz : Nat} {ag : Bool} (h : fieldP P t f = some (off, ag, sz)) :
    ∃ fs fl, P.underlying t = some (.struct fs) ∧ fs[f]? = some fl ∧ fl.offset = off ∧ aggP P fl.type = some (ag, sz) := by
  unfold fieldP at h
  split at h
  · rename_i fs hu
    split at h
    · rename_i fl hf
      split at h
      · rename_i ag' sz' ha
        simp at h
        obtain ⟨rfl, rfl, rfl⟩ := h
        exact ⟨fs, fl, hu, hf, rfl, ha⟩
      · simp at h
    · simp at h
  · simp at h

theorem run_fieldAt {P : Program} {t : TypeId} {f off sz : Nat} {ag : Bool} (h : fieldP P t f = some (off, ag, sz)) (h0 : 0 < sz) (b o : Nat) (w : World) :
    (Instr.fieldAt t (.pointer (some ⟨b, o, none⟩)) f).run P w = .ok (.pointer (some ⟨b, o + off, none⟩)) w := by
  obtain ⟨fs, fl, h1, h2, rfl, h3⟩ := fieldP_inv h
  simp [Instr.fieldAt, run_underlying' h1, h2, Instr.sureAddr, fieldPlace, run_sizeOf' h3, addr_add]
  omega

theorem ok_fieldAddr_ptr {P : Program} {o : Oper} {s : AState} {t : TypeId} {x : Operand} {f k e j off sz : Nat} {ag : Bool} (ho : o.op = .fieldAddr t x f) (hx : s.eval x = .ptr k e j)
    (hf : fieldP P t f = some (off, ag, sz)) (h0 : 0 < sz) : OpOK P o (mkSp s o [] [] (.ptr k e (j + off)) []) :=
  .quiet rfl fun Γ κ I s2 a w hP hr hn => by
    have h := opd hr hn x (by simp [ho, Op.operands]) hx
    generalize ha : a.eval x = v at h
    cases h with
    | @ptr _ _ _ ki ek =>
      refine ⟨.pointer (some ⟨ki.b, e * ki.sz + j + off, none⟩), by simp [execOp, ho, ha, run_fieldAt hf h0], ?_⟩
      show Rep w I κ (.ptr k e (j + off)) _
      rw [Nat.add_assoc]; exact .ptr ek

theorem ok_fieldAddr_ip {P : Program} {o : Oper} {s : AState} {t : TypeId} {x : Operand} {f off sz : Nat} {cells : List Im} {ag : Bool} (ho : o.op = .fieldAddr t x f) (hx : s.eval x = .ip cells)
    (hf : fieldP P t f = some (off, ag, sz)) (h0 : 0 < sz) : OpOK P o (mkSp s o [] [] (.ip (cells.drop off)) []) :=
  .quiet rfl fun Γ κ I s2 a w hP hr hn => by
    have h := opd hr hn x (by simp [ho, Op.operands]) hx
    generalize ha : a.eval x = v at h
    cases h with
    | @ip _ b of u hI hc hreps =>
      refine ⟨.pointer (some ⟨b, of + off, none⟩), by simp [execOp, ho, ha, run_fieldAt hf h0], ?_⟩
      refine .ip (fun i => u (off + i)) hI (fun i hi => ?_) (fun i hi => ?_)
      · simp only [List.length_drop] at hi
        rw [Nat.add_assoc]; exact hc _ (by omega)
      · rw [List.getElem_drop]; exact hreps _ _

def fieldA (ag : Bool) (off sz : Nat) (cells : List AVal) : Option AVal :=
  match ag with
  | true => match Nat.ble (off + sz) cells.length with
    | true => some (.agg ((cells.drop off).take sz))
    | false => none
  | false => cells[off]?

theorem ok_field {P : Program} {o : Oper} {s : AState} {t : TypeId} {x : Operand} {f off sz : Nat} {cells : List AVal} {ag : Bool} {r : AVal} (ho : o.op = .field t x f) (hx : s.eval x = .agg cells)
    (hf : fieldP P t f = some (off, ag, sz)) (hr : fieldA ag off sz cells = some r) : OpOK P o (mkSp s o [] [] r []) :=
  .quiet rfl fun Γ κ I s2 a w hP hrel hn => by
    have h := opd hrel hn x (by simp [ho, Op.operands]) hx
    generalize ha : a.eval x = v at h
    obtain ⟨fs, fl, h1, h2, rfl, h3⟩ := fieldP_inv hf
    cases h with
    | @agg _ vs hl hreps =>
      cases ag with
      | true =>
        simp only [fieldA] at hr
        cases hb : Nat.ble (fl.offset + sz) cells.length with
        | false => rw [hb] at hr; simp at hr
        | true =>
          rw [hb] at hr
          have hle := Nat.le_of_ble_eq_true hb
          obtain rfl := Option.some.inj hr
          refine ⟨.agg ((vs.drop fl.offset).take sz).toArray, ?_, .agg (by simp [hl]) (fun j h h' => ?_)⟩
          · simp [execOp, ho, ha, Instr.field, run_underlying' h1, h2, asAgg, part, run_isAgg' h3, run_sizeOf' h3]
          · simp only [List.length_take, List.length_drop] at h
            rw [List.getElem_take, List.getElem_drop, List.getElem_take, List.getElem_drop]
            exact hreps _ _ _
      | false =>
        simp only [fieldA] at hr
        obtain ⟨hi, rfl⟩ := List.getElem?_eq_some_iff.1 hr
        refine ⟨vs[fl.offset]'(by omega), ?_, hreps _ _ _⟩
        have : vs[fl.offset]? = some (vs[fl.offset]'(by omega)) := by simp
        simp [execOp, ho, ha, Instr.field, run_underlying' h1, h2, asAgg, part, run_isAgg' h3, this]

/-! ### Strings -/
def bt (s : ByteArray) (i : Int) : Int := ((s.data[i.toNat]?).getD 0).toNat

theorem ok_index_string {P : Program} {o : Oper} {s : AState} {t : TypeId} {x i : Operand} {str : ByteArray} {k : IntKind} {n : Int} (ho : o.op = .index t x i) (ht : P.underlying t = some .string)
    (hx : s.eval x = .im (.sc (.string str))) (hi : s.eval i = .im (.sc (.int k n))) (h0 : 0 ≤ n) (h1 : n < (str.size : Int)) : OpOK P o (mkSp s o [] [] (.im (.sc (.int .u8 (bt str n)))) []) :=
  ok_pure (.int .u8 (bt str n)) [(x, .string str), (i, .int k n)] (by simp [ho, Op.operands, hx, hi]) (fun ρ hρ w => by
    have e1 := hρ (x, .string str) (by simp)
    have e2 := hρ (i, .int k n) (by simp)
    simp only at e1 e2
    have hlt : n.toNat < str.size := by omega
    have : (if 0 ≤ n then str[n.toNat]? else none) = some (str[n.toNat]) := by rw [if_pos h0]; simp [hlt]
    simp only [execOp, ho, e1, e2, Instr.index, asIntOf, pure_bind, Sem.run_bind, run_underlying' ht, Result.andThen_ok, this, Sem.run_pure]
    simp [bt, hlt, ByteArray.getElem_eq_getElem_data])

theorem ok_len_string {P : Program} {o : Oper} {s : AState} {x : Operand} {t : TypeId} {ts : Array TypeId} {str : ByteArray} (ho : o.op = .call { callee := .builtin .len, args := #[x], argTypes := ts })
    (hts : ts[0]? = some t) (ht : P.underlying t = some .string) (hx : s.eval x = .im (.sc (.string str))) : OpOK P o (mkSp s o [] [] (.im (.sc (.int .i64 str.size))) []) :=
  ok_pure (.int .i64 str.size) [(x, .string str)] (by simp [ho, Op.operands, Call.operands, hx]) (fun ρ hρ w => by
    have e1 := hρ (x, .string str) (by simp)
    simp only at e1
    simp [execOp, ho, resolve, invoke, builtin, Builtin.len_, hts, e1, run_underlying' ht, goInt])

/-- A bound of a cut, or what stands for it where it isn't typed. -/
def optV (y : Option Value) (n d : Int) : Prop := match y with
  | some v => ∃ k, v = .int k n
  | none => n = d
def optA (s : AState) (y : Option Operand) (n d : Int) : Prop := match y with
  | some x => ∃ k, s.eval x = .im (.sc (.int k n))
  | none => n = d

theorem run_sliceBound {P : Program} {k : IntKind} {i : Int} {y : Nat} (h0 : 0 ≤ i) (h1 : i ≤ y) (code : BoundsCode) (w : World) : (Instr.sliceBound (.int k i) y code).run P w = .ok i.toNat w := by
  simp only [Instr.sliceBound, asIntOf, pure_bind]
  rw [if_pos ⟨h0, h1⟩]; rfl

theorem run_sliceBounds {P : Program} {isSlice : Bool} {len cap : Nat} {lo hi : Option Value} {l h : Int} (hl : optV lo l 0) (hh : optV hi h len) (h0 : 0 ≤ l) (h1 : l ≤ h) (h2 : h ≤ (cap : Int)) (w : World) :
    (Instr.sliceBounds isSlice len cap lo hi none).run P w = .ok (l.toNat, h.toNat, cap) w := by
  unfold Instr.sliceBounds
  simp only [pure_bind]
  cases hi with
  | none =>
    simp only [optV] at hh
    subst hh
    cases lo with
    | none => simp only [optV] at hl; subst hl; rfl
    | some v =>
      obtain ⟨k, rfl⟩ := hl
      simp only [Sem.run_bind, run_sliceBound (P := P) (k := k) (i := l) (y := len) h0 h1, Result.andThen_ok, Sem.run_pure]; rfl
  | some v =>
    obtain ⟨k, rfl⟩ := hh
    cases lo with
    | none =>
      simp only [optV] at hl; subst hl
      simp only [Sem.run_bind, run_sliceBound (P := P) (k := k) (i := h) (y := cap) (by omega) h2, Result.andThen_ok, Sem.run_pure]; rfl
    | some v =>
      obtain ⟨k', rfl⟩ := hl
      simp only [Sem.run_bind, run_sliceBound (P := P) (k := k) (i := h) (y := cap) (by omega) h2, Result.andThen_ok, run_sliceBound (P := P) (k := k') (i := l) (y := h.toNat) h0 (by omega), Sem.run_pure]

/-- The operands of a cut. -/
theorem cut_opds {s : AState} {o : Oper} {t : TypeId} {x : Operand} {lo hi : Option Operand} (ho : o.op = .slice t x lo hi none) : x ∈ o.op.operands.toList ∧
    (∀ y, lo = some y → y ∈ o.op.operands.toList) ∧ ∀ y, hi = some y → y ∈ o.op.operands.toList := by
  refine ⟨by simp [ho, Op.operands], fun y e => by subst e; simp [ho, Op.operands], fun y e => by subst e; simp [ho, Op.operands]⟩

theorem optA_rep {Γ : Ctx} {κ : Nat → Option KI} {I : Nat → Prop} {s s2 : AState} {a : Act} {w : World} {o : Oper} {keys news : List Nat} {res : AVal} {post : List (Nat × Option MObj)} (hr : Rel Γ κ I s2 a w)
    (hn : (mkSp s o keys news res post).needs s2) {y : Option Operand} {n d : Int} (hy : ∀ z, y = some z → z ∈ o.op.operands.toList) (h : optA s y n d) : optV (y.map a.eval) n d := by
  cases y with
  | none => exact h
  | some z =>
    obtain ⟨k, hk⟩ := h
    exact ⟨k, (opd hr hn z (hy z rfl) hk).sc_inv⟩

theorem ok_slice_string {P : Program} {o : Oper} {s : AState} {t : TypeId} {x : Operand} {lo hi : Option Operand} {str : ByteArray} (l h : Int) (ho : o.op = .slice t x lo hi none) (ht : P.underlying t = some .string)
    (hx : s.eval x = .im (.sc (.string str))) (hlo : optA s lo l 0) (hhi : optA s hi h str.size)
    (h0 : 0 ≤ l) (h1 : l ≤ h) (h2 : h ≤ (str.size : Int)) : OpOK P o (mkSp s o [] [] (.im (.sc (.string (str.extract l.toNat h.toNat)))) []) :=
  .quiet rfl fun Γ κ I s2 a w hP hr hn => by
    obtain ⟨m1, m2, m3⟩ := cut_opds (s := s) ho
    have hv := (opd hr hn x m1 hx).sc_inv
    have hb := run_sliceBounds (P := P) (isSlice := false) (len := str.size) (cap := str.size) (optA_rep hr hn m2 hlo) (optA_rep hr hn m3 hhi) h0 h1 h2 w
    refine ⟨.string (str.extract l.toNat h.toNat), ?_, .im (.sc _)⟩
    simp [execOp, ho, hv, Instr.sliceAt, run_underlying' ht, Instr.slice, hb]

/-! ### Slices -/
def elemP (P : Program) (t : TypeId) : Option (TypeId × Nat) :=
  match P.underlying t with
  | some (.slice e) => match aggP P e with
    | some (_, sz) => some (e, sz)
    | none => none
  | _ => none
theorem elemP_inv {P : Program} {t e : TypeId} {sz : Nat} (h : elemP P t = some (e, sz)) : P.underlying t = some (.slice e) ∧ ∃ ag, aggP P e = some (ag, sz) := by
  unfold elemP at h
  split at h
  · rename_i e' hu
    split at h
    · rename_i ag sz' ha
      simp at h; obtain ⟨rfl, rfl⟩ := h
      exact ⟨hu, ag, ha⟩
    · simp at h
  · simp at h

theorem run_indexAt {P : Program} {t e : TypeId} {sz : Nat} (h : elemP P t = some (e, sz)) {k : IntKind} {i : Int} {b off len cap : Nat} (h0 : 0 ≤ i) (h1 : i < len) (w : World) :
    (Instr.indexAt t (.slice (some ⟨b, off, none⟩) len cap) (.int k i)).run P w = .ok (.pointer (some ⟨b, off + i.toNat * sz, none⟩)) w := by
  obtain ⟨hu, ag, ha⟩ := elemP_inv h
  simp only [Instr.indexAt, asIntOf, pure_bind, Sem.run_bind, run_underlying' hu, Result.andThen_ok, Sem.run_pure]
  rw [if_pos ⟨h0, h1⟩]
  simp [run_sizeOf' ha, addr_add]

theorem ok_indexAddr_im {P : Program} {o : Oper} {s : AState} {t e : TypeId} {sz : Nat} {x i : Operand} {es : List (List Im)} {k : IntKind} {n : Int} (c : List Im) (ho : o.op = .indexAddr t x i)
    (ht : elemP P t = some (e, sz)) (hx : s.eval x = .im (.row es)) (hi : s.eval i = .im (.sc (.int k n))) (h0 : 0 ≤ n) (hc : es[n.toNat]? = some c) (hsz : c.length = sz) :
    OpOK P o (mkSp s o [] [] (.ip c) []) :=
  .quiet rfl fun Γ κ I s2 a w hP hr hn => by
    have h1 := opd hr hn x (by simp [ho, Op.operands]) hx
    have h2 := (opd hr hn i (by simp [ho, Op.operands]) hi).sc_inv
    generalize ha : a.eval x = v at h1
    obtain ⟨hlt, rfl⟩ := List.getElem?_eq_some_iff.1 hc
    cases h1 with
    | im h1 =>
      cases h1 with
      | row0 base cap => simp at hlt
      | @row sz' _ b off nn cap u hnn hI hl hs hcells hreps =>
        have hss : sz' = sz := by rw [← hs _ hlt, hsz]
        subst hss
        have hrun := run_indexAt (P := P) ht (k := k) (i := n) (b := b) (off := off) (len := nn) (cap := cap) h0 (by omega) w
        refine ⟨.pointer (some ⟨b, off + n.toNat * sz', none⟩), by simp [execOp, ho, ha, h2, hrun], ?_⟩
        refine .ip (fun j => u n.toNat j) hI (fun j hj => ?_) (fun j hj => hreps _ hlt j hj)
        rw [Nat.add_assoc]; exact hcells _ j hlt (by omega)

theorem ok_indexAddr_own {P : Program} {o : Oper} {s : AState} {t e : TypeId} {sz : Nat} {x i : Operand} {es : List (List Im)} {key el : Nat} {k : IntKind} {n : Int} (ho : o.op = .indexAddr t x i)
    (ht : elemP P t = some (e, sz)) (hx : s.eval x = .own key) (hk : s.obj key = some (.row sz el es)) (hi : s.eval i = .im (.sc (.int k n))) (h0 : 0 ≤ n) (h1 : n < (es.length : Int)) :
    OpOK P o (mkSp s o [key] [] (.ptr key n.toNat 0) []) :=
  .quiet rfl fun Γ κ I s2 a w hP hr hn => by
    have g1 := opd hr hn x (by simp [ho, Op.operands]) hx
    have g2 := (opd hr hn i (by simp [ho, Op.operands]) hi).sc_inv
    have g3 := obj_at hr.inv ((needs_obj hn key (by simp)).trans hk)
    generalize ha : a.eval x = v at g1
    cases g1 with
    | own0 base eκ => simp only [OAt, eκ] at g3; obtain ⟨_, _, e'⟩ := g3; simp at e'; obtain ⟨_, _, rfl⟩ := e'; simp at h1; omega
    | @own _ ki eκ =>
      simp only [OAt, eκ, ORep] at g3
      obtain ⟨c1, c2, c3, _⟩ := g3
      have hrun := run_indexAt (P := P) ht (k := k) (i := n) (b := ki.b) (off := 0) (len := ki.len) (cap := ki.cap) h0 (by omega) w
      refine ⟨.pointer (some ⟨ki.b, 0 + n.toNat * sz, none⟩), by simp [execOp, ho, ha, g2, hrun], ?_⟩
      have := Rep.ptr (w := w) (I := I) (e := n.toNat) (j := 0) eκ
      rw [c1] at this
      simpa [mkSp] using this

theorem run_len_slice {P : Program} {t e : TypeId} (hu : P.underlying t = some (.slice e)) (ty : TypeId) (base : Option Addr) (n c : Nat) (w : World) (ts : Array TypeId) (hts : ts[0]? = some t) :
    (Builtin.len_ ts ty #[.slice base n c]).run P w = .ok (.int .i64 n) w := by
  simp [Builtin.len_, hts, run_underlying' hu, goInt]

theorem ok_len_slice {P : Program} {o : Oper} {s : AState} {x : Operand} {t e : TypeId} {ts : Array TypeId} {y : AVal} (n : Nat) (keys : List Nat) (ho : o.op = .call { callee := .builtin .len, args := #[x], argTypes := ts })
    (hts : ts[0]? = some t) (hu : P.underlying t = some (.slice e)) (hx : s.eval x = y)
    (hy : (∃ es, y = .im (.row es) ∧ n = es.length) ∨ (y = .none0 ∧ n = 0) ∨ (∃ k lo, y = .cut k lo n) ∨ ∃ k sz el es, y = .own k ∧ k ∈ keys ∧ s.obj k = some (.row sz el es) ∧ n = es.length) :
    OpOK P o (mkSp s o keys [] (.im (.sc (.int .i64 n))) []) :=
  .quiet rfl fun Γ κ I s2 a w hP hr hn => by
    have g1 := opd hr hn x (by simp [ho, Op.operands, Call.operands]) hx
    have : ∃ base c, a.eval x = .slice base n c := by
      rcases hy with ⟨es, rfl, rfl⟩ | ⟨rfl, rfl⟩ | ⟨k, lo, rfl⟩ | ⟨k, sz, el, es, rfl, hk, ho, rfl⟩
      · generalize a.eval x = v at g1
        cases g1 with
        | im h => cases h with
          | row0 base cap => exact ⟨_, _, rfl⟩
          | row u hnn => subst hnn; exact ⟨_, _, rfl⟩
      · obtain ⟨base, e⟩ := none0_inv g1; exact ⟨base, 0, e⟩
      · generalize a.eval x = v at g1
        cases g1 with
        | cut0 => exact ⟨_, _, rfl⟩
        | cut => exact ⟨_, _, rfl⟩
      · have g3 := obj_at hr.inv ((needs_obj hn k hk).trans ho)
        generalize a.eval x = v at g1
        cases g1 with
        | own0 base eκ => simp only [OAt, eκ] at g3; obtain ⟨_, _, e'⟩ := g3; simp at e'; obtain ⟨_, _, rfl⟩ := e'; exact ⟨_, _, rfl⟩
        | @own _ ki eκ =>
          simp only [OAt, eκ, ORep] at g3
          obtain ⟨c1, c2, c3, _⟩ := g3
          rw [← c2]; exact ⟨_, _, rfl⟩
    obtain ⟨base, c, e⟩ := this
    refine ⟨.int .i64 n, ?_, .im (.sc _)⟩
    simp [execOp, ho, resolve, invoke, builtin, e, run_len_slice hu _ _ _ _ _ ts hts]

theorem ok_slice_im {P : Program} {o : Oper} {s : AState} {t e : TypeId} {sz : Nat} {x : Operand} {lo hi : Option Operand} {es : List (List Im)} (l h : Int) (ho : o.op = .slice t x lo hi none) (ht : elemP P t = some (e, sz))
    (hx : s.eval x = .im (.row es)) (hlo : optA s lo l 0) (hhi : optA s hi h es.length) (h0 : 0 ≤ l) (h1 : l ≤ h) (h2 : h ≤ (es.length : Int)) (hsz : ∀ c ∈ es, c.length = sz) :
    OpOK P o (mkSp s o [] [] (.im (.row ((es.drop l.toNat).take (h.toNat - l.toNat)))) []) :=
  .quiet rfl fun Γ κ I s2 a w hP hr hn => by
    obtain ⟨m1, m2, m3⟩ := cut_opds (s := s) ho
    have g1 := opd hr hn x m1 hx
    obtain ⟨hu, ag, hag⟩ := elemP_inv ht
    have q1 := optA_rep hr hn m2 hlo
    have q2 := optA_rep hr hn m3 hhi
    generalize ha : a.eval x = v at g1
    cases g1 with
    | im g1 =>
      cases g1 with
      | row0 base cap =>
        simp only [List.length_nil] at h2
        have hb := run_sliceBounds (P := P) (isSlice := true) (len := 0) (cap := cap) q1 q2 h0 h1 (by omega) w
        have e1 : l.toNat = 0 := by omega
        have e2 : h.toNat = 0 := by omega
        refine ⟨.slice (if cap = 0 then base else base.map (·.add (0 * sz))) 0 cap, ?_, .im (by simpa using IRep.row0 _ _)⟩
        simp [execOp, ho, ha, Instr.sliceAt, run_underlying' hu, Instr.slice, hb, run_sizeOf' hag, e1, e2]
      | @row sz' _ b off nn cap u hnn hI hl hs hcells hreps =>
        have hb := run_sliceBounds (P := P) (isSlice := true) (len := nn) (cap := cap) q1 (by rw [hnn]; exact q2) h0 h1 (by omega) w
        refine ⟨.slice (some (if cap = l.toNat then ⟨b, off, none⟩ else ⟨b, off + l.toNat * sz, none⟩)) (h.toNat - l.toNat) (cap - l.toNat), ?_, .im ?_⟩
        · simp [execOp, ho, ha, Instr.sliceAt, run_underlying' hu, Instr.slice, hb, run_sizeOf' hag]
          split <;> simp [addr_add]
        · have hlen : ((es.drop l.toNat).take (h.toNat - l.toNat)).length = h.toNat - l.toNat := by simp; omega
          by_cases hne : h.toNat - l.toNat = 0
          · have : (es.drop l.toNat).take (h.toNat - l.toNat) = [] := by rw [hne]; simp
            rw [this, hne]; exact .row0 _ _
          · rw [if_neg (by omega)]
            have hss : sz' = sz := by rw [← hs 0 (by omega)]; exact hsz _ (List.getElem_mem _)
            subst hss
            refine .row (sz := sz') (fun i j => u (l.toNat + i) j) hlen.symm hI (by omega) (fun i hi => ?_) (fun i j hi hj => ?_) (fun i hi j hj => ?_)
            · rw [List.getElem_take, List.getElem_drop]; exact hs _ _
            · have := hcells (l.toNat + i) j (by omega) hj
              rw [Nat.add_mul] at this
              rwa [show off + l.toNat * sz' + (i * sz' + j) = off + (l.toNat * sz' + i * sz' + j) from by omega]
            · simp only [List.getElem_take, List.getElem_drop] at hj ⊢
              exact hreps _ _ _ hj

end Go.Pv
