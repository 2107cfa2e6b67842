import Derived.Test.YticdbkmekkbiiaaPvOps3
set_option linter.unusedVariables false
set_option linter.unusedSimpArgs false
/-! Structs that are built, stores into rows' elements, the other scalars. -/
namespace Go.Pv

/-- Cells as they are known, and as they are. -/
structure Cells (w : World) (I : Nat → Prop) (κ : Nat → Option KI) (cs : List AVal) (arr : Array Value) : Prop where
  len : arr.size = cs.length
  at_ : ∀ j (h : j < cs.length), ∃ v, arr[j]? = some v ∧ Rep w I κ (cs[j]) v

theorem Cells.set {w : World} {I : Nat → Prop} {κ : Nat → Option KI} {cs ds : List AVal} {arr : Array Value} {off : Nat} {v : Value} (h : Cells w I κ cs arr) (h1 : v.cells.size = ds.length)
    (h2 : ∀ j (h : j < ds.length), ∃ u, v.cells[j]? = some u ∧ Rep w I κ (ds[j]) u) (hf : off + ds.length ≤ cs.length) : Cells w I κ (splice cs off ds) (setMany arr off v.cells.toList) := by
  have hvl : v.cells.toList.length = ds.length := by simpa using h1
  have hsl := splice_length hf
  refine ⟨by rw [setMany_size, hsl, h.len], fun j hj => ?_⟩
  rw [hsl] at hj
  rw [setMany_get _ _ _ _ (by rw [hvl, h.len]; exact hf), splice_get hf]
  by_cases hin : off ≤ j ∧ j < off + ds.length
  · rw [if_pos (by rw [hvl]; exact hin), dif_pos hin]
    obtain ⟨u, e, r⟩ := h2 (j - off) (by omega)
    exact ⟨u, by simpa using e, r⟩
  · rw [if_neg (by rw [hvl]; exact hin), dif_neg hin]
    exact h.at_ j hj

def fillA (s : AState) (places : List (Nat × Nat)) : List AVal → List (Nat × Operand) → Option (List AVal)
  | cells, [] => some cells
  | cells, (i, x) :: r => match places[i]? with
    | some (off, size) => match Nat.beq (valCells (s.eval x)).length size && Nat.ble (off + size) cells.length && leaves (valCells (s.eval x)) with
      | true => fillA s places (splice cells off (valCells (s.eval x))) r
      | false => none
    | none => none

theorem fill_rep {w : World} {I : Nat → Prop} {κ : Nat → Option KI} {s : AState} {ρ : Operand → Value} {places : List (Nat × Nat)} {pl : Nat → Option (Nat × Nat)} (hpl : ∀ i p, places[i]? = some p → pl i = some p) : ∀ {parts : List (Nat × Operand)} {cells r : List AVal} {arr : Array Value},
    (∀ p ∈ parts, Rep w I κ (s.eval p.2) (ρ p.2)) → Cells w I κ cells arr → fillA s places cells parts = some r →
    ∃ arr', Instr.fill pl arr (parts.map fun p => (p.1, ρ p.2)) = some arr' ∧ Cells w I κ r arr' := by
  intro parts
  induction parts with
  | nil => intro cells r arr _ hc h; obtain rfl := Option.some.inj h; exact ⟨arr, rfl, hc⟩
  | cons p ps ih =>
    intro cells r arr hrep hc h
    obtain ⟨i, x⟩ := p
    simp only [fillA] at h
    split at h
    · rename_i off size hp
      split at h
      · rename_i hb
        simp only [Bool.and_eq_true] at hb
        have h1 := Nat.eq_of_beq_eq_true hb.1.1
        have h2 := Nat.le_of_ble_eq_true hb.1.2
        obtain ⟨v1, v2, _⟩ := valCells_rep (hrep (i, x) (by simp)) hb.2
        obtain ⟨arr', g1, g2⟩ := ih (fun p hp => hrep p (by simp [hp])) (hc.set v1 v2 (by rw [h1]; exact h2)) h
        refine ⟨arr', ?_, g2⟩
        rw [List.map_cons, fill_cons (hpl i _ hp) (by rw [v1, h1]) (by rw [hc.len]; exact h2)]
        exact g1
      · simp at h
    · simp at h

def placesL (P : Program) : List Field → Option (List (Nat × Nat))
  | [] => some []
  | f :: r => match aggP P f.type, placesL P r with
    | some (_, sz), some l => some ((f.offset, sz) :: l)
    | _, _ => none
def placesP (P : Program) (t : TypeId) : Option (List (Nat × Nat)) :=
  match P.underlying t with
  | some (.struct fs) => placesL P fs.toList
  | some (.array n e) => match aggP P e with
    | some (_, sz) => some ((List.range n).map fun i => (i * sz, sz))
    | none => none
  | _ => none

theorem run_places {P : Program} {w : World} : ∀ {l : List Field} {r : List (Nat × Nat)}, placesL P l = some r → (l.mapM fun f => do pure (f.offset, ← sizeOf f.type) : Sem (List (Nat × Nat))).run P w = .ok r w := by
  intro l
  induction l with
  | nil => intro r h; obtain rfl := Option.some.inj h; simp
  | cons f l ih =>
    intro r h
    simp only [placesL] at h
    split at h
    · rename_i ag sz l' h1 h2
      obtain rfl := Option.some.inj h
      rw [List.mapM_cons]
      simp only [Sem.run_bind, run_sizeOf' h1, Result.andThen_ok, Sem.run_pure, ih h2]
    · simp at h

theorem ok_build {P : Program} {o : Oper} {s : AState} {t : TypeId} {parts : Array (Nat × Operand)} {places : List (Nat × Nat)} {z r : List AVal} (ho : o.op = .build t parts) (hz : zeroA P t = some (.agg z)) (hp : placesP P t = some places)
    (hr : fillA s places z parts.toList = some r) : OpOK P o (mkSp s o [] [] (.agg r) []) :=
  .quiet rfl fun Γ κ I s2 a w hP hrel hn => by
    unfold zeroA at hz
    cases hi : P.info? t with
    | none => rw [hi] at hz; simp at hz
    | some i =>
      cases hzz : i.zero with
      | none => rw [hi] at hz; simp [hzz] at hz
      | some zv =>
        rw [hi] at hz
        simp [hzz] at hz
        have hzrep := constA_rep w I κ zv
        rw [hz] at hzrep
        have hzc : Cells w I κ z zv.cells := by
          cases hzrep with
          | @agg _ vs hl hreps => exact ⟨by simp [Value.cells, hl], fun j hj => ⟨vs[j]'(by omega), by simp [Value.cells], hreps j hj (by omega)⟩⟩
        have hreps : ∀ p ∈ parts.toList, Rep w I κ (s.eval p.2) (a.eval p.2) := by
          intro p hp
          refine opd hrel hn p.2 ?_ rfl
          simp only [ho, Op.operands, List.mem_map]
          exact ⟨p, hp, rfl⟩
        have hmap : (parts.map fun (x : Nat × Operand) => match x with | (i, x) => (i, a.eval x)).toList = parts.toList.map fun p => (p.1, a.eval p.2) := by simp
        unfold placesP at hp
        split at hp
        · rename_i fs hu
          obtain ⟨arr', g1, g2⟩ := fill_rep (pl := fun i => places.toArray[i]?) (fun i p h => by simpa using h) hreps hzc hr
          refine ⟨.agg arr', ?_, ?_⟩
          · simp only [execOp, ho, Instr.build, Sem.run_bind, zeroValue, run_typeInfo' hi, Result.andThen_ok, hzz, Sem.run_pure, run_underlying' hu]
            rw [Array.mapM_eq_mapM_toList, Sem.run_map, run_places hp]
            simp only [Result.andThen_ok, hmap, g1, Sem.run_pure]
          · have := Rep.agg (w := w) (I := I) (κ := κ) (cells := r) (vs := arr'.toList) (by simpa using g2.len) (fun j h h' => by obtain ⟨v, e, q⟩ := g2.at_ j h; rw [← Array.getElem?_toList] at e; rw [List.getElem?_eq_getElem h'] at e; rw [Option.some.inj e]; exact q)
            simpa [mkSp] using this
        · rename_i n e hu
          split at hp
          · rename_i ag sz ha
            obtain rfl := Option.some.inj hp
            obtain ⟨arr', g1, g2⟩ := fill_rep (pl := fun i => some (i * sz, sz)) (fun i p h => by
              rw [List.getElem?_map] at h
              cases h' : (List.range n)[i]? with
              | none => rw [h'] at h; simp at h
              | some j =>
                rw [h'] at h
                have : j = i := by rw [List.getElem?_eq_some_iff] at h'; obtain ⟨_, rfl⟩ := h'; simp
                subst this; simpa using h) hreps hzc hr
            refine ⟨.agg arr', ?_, ?_⟩
            · simp only [execOp, ho, Instr.build, Sem.run_bind, zeroValue, run_typeInfo' hi, Result.andThen_ok, hzz, Sem.run_pure, run_underlying' hu, run_sizeOf' ha, hmap, g1]
            · have := Rep.agg (w := w) (I := I) (κ := κ) (cells := r) (vs := arr'.toList) (by simpa using g2.len) (fun j h h' => by obtain ⟨v, e, q⟩ := g2.at_ j h; rw [← Array.getElem?_toList] at e; rw [List.getElem?_eq_getElem h'] at e; rw [Option.some.inj e]; exact q)
              simpa [mkSp] using this
          · simp at hp
        · simp at hp

/-! ### A store into an element of a row -/
theorem ok_store_row {P : Program} {o : Oper} {s : AState} {t : TypeId} {x y : Operand} {k e j sz' el : Nat} {es : List (List Im)} {ag : Bool} {sz : Nat} (c d : List Im) (ho : o.op = .store t x y)
    (hx : s.eval x = .ptr k e j) (hk : s.obj k = some (.row sz' el es)) (hc : es[e]? = some c) (ht : aggP P t = some (ag, sz)) (hl : leaves (valCells (s.eval y)) = true) (hd : toImL (valCells (s.eval y)) = some d)
    (hsz : d.length = sz) (h0 : 0 < sz) (hfit : j + sz ≤ c.length) :
    OpOK P o (mkSp s o [k] [] .top [(k, some (.row sz' el (es.set e (splice c j d))))]) :=
  .of fun Γ κ I s2 a w hP hrel hn hf => by
    have h1 := opd hrel hn x (by simp [ho, Op.operands]) hx
    have h2 := opd hrel hn y (by simp [ho, Op.operands]) rfl
    have hk2 := (needs_obj hn k (by simp)).trans hk
    have h3 := obj_at hrel.inv hk2
    obtain ⟨v1, v2, v3⟩ := valCells_rep h2 hl
    obtain ⟨t1, t2⟩ := toImL_get hd
    obtain ⟨he, rfl⟩ := List.getElem?_eq_some_iff.1 hc
    generalize hp : a.eval x = p at h1
    cases h1 with
    | @ptr _ _ _ ki eκ =>
      simp only [OAt, eκ, ORep] at h3
      obtain ⟨c1, c2, c3, arr, c4, c5, c6⟩ := h3
      obtain ⟨hel, hcells⟩ := c6 e he
      generalize hV : valCells (s.eval y) = V at *
      have hvl : (a.eval y).cells.toList.length = sz := by rw [← hsz, t1]; simpa using v1
      have hbound : e * sz' + j + sz ≤ arr.size := by
        have h4 : (e + 1) * sz' ≤ ki.cap * sz' := Nat.mul_le_mul_right _ (by omega)
        rw [Nat.add_mul] at h4
        rw [c5]; omega
      let ob : Obj := .cells (setMany arr (e * sz' + j) (a.eval y).cells.toList) el (0, 0)
      have hrun : (execOp a.eval o).run P w = .ok .skip (World.setBlock w ki.b ob) := by
        have hst := run_storeCells (P := P) (b := ki.b) (el := el) (a.eval y).cells.toList w arr (e * sz' + j) 0 c4 (by rw [hvl]; omega) v3 (by intro e; rw [e] at hvl; simp at hvl; omega)
        simp only [execOp, ho, hp, Instr.storeAt, Instr.sureAddr, pure_bind, storeVar, Sem.run_bind, run_sizeOf' ht, Result.andThen_ok]
        rw [if_neg (by simp at hvl; simp [hvl])]
        simp only [Nat.add_zero] at hst
        simp [c1, hst, ob]
      have hb : ki.b < w.heap.size := (Array.getElem?_eq_some_iff.1 c4).1
      have hne : ∀ b, I b → (World.setBlock w ki.b ob).heap[b]? = w.heap[b]? := fun b hb' => by
        rw [setBlock_get _ _ _ _ hb, if_neg]
        rintro rfl
        exact hrel.inv.disj k _ ki hk2 eκ hb'
      have hO : ORep (World.setBlock w ki.b ob) I κ ki (.row sz' el (es.set e (splice es[e] j d))) := by
        have hsl := splice_length (l := es[e]) (r := d) (j := j) (by omega)
        refine ⟨c1, by simpa using c2, by simpa using c3, setMany arr (e * sz' + j) (a.eval y).cells.toList, by rw [setBlock_get _ _ _ _ hb, if_pos rfl], by rw [setMany_size]; exact c5, fun i hi => ?_⟩
        simp only [List.length_set] at hi
        by_cases hie : e = i
        · subst hie
          simp only [List.getElem_set_self]
          refine ⟨by rw [hsl]; exact hel, fun m hm => ?_⟩
          rw [hsl] at hm
          rw [setMany_get _ _ _ _ (by rw [hvl]; exact hbound), splice_get (by omega)]
          by_cases hin : j ≤ m ∧ m < j + d.length
          · rw [if_pos (by rw [hvl]; omega), dif_pos hin]
            obtain ⟨u, q1, q2⟩ := v2 (m - j) (by omega)
            refine ⟨u, ?_, (toIm_rep q2 (t2 (m - j) (by omega) (by omega))).mono (fun _ h => h) hne⟩
            rw [show e * sz' + m - (e * sz' + j) = m - j from by omega]; simpa using q1
          · rw [if_neg (by rw [hvl]; omega), dif_neg hin]
            obtain ⟨u, q1, q2⟩ := hcells m hm
            exact ⟨u, q1, q2.mono (fun _ h => h) hne⟩
        · rw [List.getElem_set_ne hie]
          obtain ⟨g1, g2⟩ := c6 i hi
          refine ⟨g1, fun m hm => ?_⟩
          obtain ⟨u, q1, q2⟩ := g2 m hm
          refine ⟨u, ?_, q2.mono (fun _ h => h) hne⟩
          rw [setMany_get _ _ _ _ (by rw [hvl]; exact hbound), if_neg]
          · exact q1
          · intro hin
            rw [hvl] at hin
            have hm' : m < sz' := by rw [← g1]; exact hm
            rcases Nat.lt_or_gt_of_ne hie with hlt | hgt
            · have := Nat.mul_le_mul_right sz' (show e + 1 ≤ i from hlt)
              rw [Nat.add_mul] at this; omega
            · have := Nat.mul_le_mul_right sz' (show i + 1 ≤ e from hgt)
              rw [Nat.add_mul] at this; omega
      obtain ⟨g1, g2⟩ := hrel.inv.update hk2 eκ hO
      exact ⟨undef, .skip, _, κ, I, .inr ⟨rfl, rfl⟩, hrun, g1, fun _ h => h, g2, fun _ _ _ => rfl, .top _⟩

/-! ### Scalars -/
def binStr (op : BinOp) (a b : ByteArray) : Option Value :=
  match op with
  | .eql => some (.bool (a.toList == b.toList))
  | .neq => some (.bool !(a.toList == b.toList))
  | .lss => some (.bool (Op.bytesLess a.toList b.toList))
  | .leq => some (.bool (Op.bytesLess a.toList b.toList || a.toList == b.toList))
  | .gtr => some (.bool !(Op.bytesLess a.toList b.toList || a.toList == b.toList))
  | .geq => some (.bool !(Op.bytesLess a.toList b.toList))
  | _ => none

theorem ok_binStr {P : Program} {o : Oper} {s : AState} {op : BinOp} {t t2 : TypeId} {x y : Operand} {a b : ByteArray} {r : Value} (ho : o.op = .binOp op t x y t2)
    (hx : s.eval x = .im (.sc (.string a))) (hy : s.eval y = .im (.sc (.string b))) (h : binStr op a b = some r) : OpOK P o (mkSp s o [] [] (.im (.sc r)) []) :=
  ok_pure r [(x, .string a), (y, .string b)] (by simp [ho, Op.operands, hx, hy]) (fun ρ hρ w => by
    have h1 := hρ (x, .string a) (by simp)
    have h2 := hρ (y, .string b) (by simp)
    simp only [execOp, ho]
    rw [h1, h2]
    cases op <;> simp [binStr] at h <;> subst h <;> simp [eqGuard, binOp, Op.stringOp])

theorem ok_addStr {P : Program} {o : Oper} {s : AState} {t t2 : TypeId} {x y : Operand} {a b : ByteArray} (ho : o.op = .binOp .add t x y t2)
    (hx : s.eval x = .im (.sc (.string a))) (hy : s.eval y = .im (.sc (.string b))) (h : ((a.size + b.size : Nat) : Int) ≤ 9223372036854775807) : OpOK P o (mkSp s o [] [] (.im (.sc (.string (a ++ b)))) []) :=
  ok_pure _ [(x, .string a), (y, .string b)] (by simp [ho, Op.operands, hx, hy]) (fun ρ hρ w => by
    have h1 := hρ (x, .string a) (by simp)
    have h2 := hρ (y, .string b) (by simp)
    simp only [execOp, ho]
    rw [h1, h2]
    have : ¬ (((a.size + b.size : Nat) : Int) > IntKind.i64.max) := by
      have : IntKind.i64.max = 9223372036854775807 := by decide
      rw [this]; omega
    simp only [eqGuard, binOp, Op.stringOp]
    rw [Sem.run_bind]
    simp
    omega)

def binBool (op : BinOp) (a b : Bool) : Option Value :=
  match op with
  | .eql => some (.bool (a == b))
  | .neq => some (.bool !(a == b))
  | _ => none

theorem run_eqBool {P : Program} {t : TypeId} (ht : P.underlying t = some .bool) (a b : Bool) (w : World) : (binOp .eql t (.bool a) (.bool b)).run P w = .ok (.bool (a == b)) w ∧ (binOp .neq t (.bool a) (.bool b)).run P w = .ok (.bool !(a == b)) w := by
  have hd : ∀ d, (Op.equalIn (d + 1) t (.bool a) (.bool b)).run P w = .ok (a == b) w := by
    intro d
    rw [Op.equalIn]
    simp only [Sem.run_bind, run_underlying' ht, Result.andThen_ok, Sem.run_pure]
  have h : (Op.equal t (.bool a) (.bool b)).run P w = .ok (a == b) w := hd 9999
  constructor
  · show (do pure (.bool (← Op.equal t (.bool a) (.bool b))) : Sem Value).run P w = _
    rw [Sem.run_bind, h]; rfl
  · show (do pure (.bool (!(← Op.equal t (.bool a) (.bool b)))) : Sem Value).run P w = _
    rw [Sem.run_bind, h]; rfl

theorem ok_binBool {P : Program} {o : Oper} {s : AState} {op : BinOp} {t t2 : TypeId} {x y : Operand} {a b : Bool} {r : Value} (ho : o.op = .binOp op t x y t2) (ht : P.underlying t = some .bool)
    (hx : s.eval x = .im (.sc (.bool a))) (hy : s.eval y = .im (.sc (.bool b))) (h : binBool op a b = some r) : OpOK P o (mkSp s o [] [] (.im (.sc r)) []) :=
  ok_pure r [(x, .bool a), (y, .bool b)] (by simp [ho, Op.operands, hx, hy]) (fun ρ hρ w => by
    have h1 := hρ (x, .bool a) (by simp)
    have h2 := hρ (y, .bool b) (by simp)
    simp only [execOp, ho]
    rw [h1, h2]
    cases op <;> simp [binBool] at h <;> subst h <;> simp [eqGuard, run_eqBool ht])

theorem ok_not {P : Program} {o : Oper} {s : AState} {t : TypeId} {x : Operand} {a : Bool} (ho : o.op = .unOp .not t x) (hx : s.eval x = .im (.sc (.bool a))) : OpOK P o (mkSp s o [] [] (.im (.sc (.bool !a))) []) :=
  ok_pure _ [(x, .bool a)] (by simp [ho, Op.operands, hx]) (fun ρ hρ w => by
    have h1 := hρ (x, .bool a) (by simp)
    simp [execOp, ho, h1, Op.unary])

theorem ok_neg {P : Program} {o : Oper} {s : AState} {t : TypeId} {x : Operand} {k : IntKind} {a : Int} (ho : o.op = .unOp .neg t x) (hx : s.eval x = .im (.sc (.int k a))) : OpOK P o (mkSp s o [] [] (.im (.sc (.int k (k.wrap (0 - a))))) []) :=
  ok_pure _ [(x, .int k a)] (by simp [ho, Op.operands, hx]) (fun ρ hρ w => by
    have h1 := hρ (x, .int k a) (by simp)
    simp only [execOp, ho, h1]; rfl)

theorem ok_conv {P : Program} {o : Oper} {s : AState} {st t : TypeId} {x : Operand} {k k' : IntKind} {a : Int} {d : TypeDesc} (ho : o.op = .convert st t x) (hs : P.underlying st = some d) (ht : P.underlying t = some (.int k')) (hx : s.eval x = .im (.sc (.int k a))) :
    OpOK P o (mkSp s o [] [] (.im (.sc (.int k' (k'.wrap a)))) []) :=
  ok_pure _ [(x, .int k a)] (by simp [ho, Op.operands, hx]) (fun ρ hρ w => by
    have h1 := hρ (x, .int k a) (by simp)
    simp only at h1
    simp [execOp, ho, h1, convert, run_underlying' hs, run_underlying' ht, Conv.intToInt])

def binBits (op : BinOp) (k : IntKind) (a b : Int) : Option Value :=
  match op with
  | .and => some (.int k (k.wrap ((BitVec.ofInt k.bits a &&& BitVec.ofInt k.bits b).toNat : Int)))
  | .or => some (.int k (k.wrap ((BitVec.ofInt k.bits a ||| BitVec.ofInt k.bits b).toNat : Int)))
  | .xor => some (.int k (k.wrap ((BitVec.ofInt k.bits a ^^^ BitVec.ofInt k.bits b).toNat : Int)))
  | .andNot => some (.int k (k.wrap ((BitVec.ofInt k.bits a &&& ~~~ BitVec.ofInt k.bits b).toNat : Int)))
  | _ => none

theorem ok_binBits {P : Program} {o : Oper} {s : AState} {op : BinOp} {t t2 : TypeId} {x y : Operand} {k : IntKind} {a b : Int} {r : Value} (ho : o.op = .binOp op t x y t2)
    (hx : s.eval x = .im (.sc (.int k a))) (hy : s.eval y = .im (.sc (.int k b))) (h : binBits op k a b = some r) : OpOK P o (mkSp s o [] [] (.im (.sc r)) []) :=
  ok_pure r [(x, .int k a), (y, .int k b)] (by simp [ho, Op.operands, hx, hy]) (fun ρ hρ w => by
    have h1 := hρ (x, .int k a) (by simp)
    have h2 := hρ (y, .int k b) (by simp)
    simp only [execOp, ho]
    rw [h1, h2]
    cases op <;> simp [binBits] at h <;> subst h <;> simp [eqGuard, binOp, Op.intBits])

theorem ok_shl {P : Program} {o : Oper} {s : AState} {t t2 : TypeId} {x y : Operand} {k k' : IntKind} {a b : Int} (ho : o.op = .binOp .shl t x y t2)
    (hx : s.eval x = .im (.sc (.int k a))) (hy : s.eval y = .im (.sc (.int k' b))) (h : 0 ≤ b) : OpOK P o (mkSp s o [] [] (.im (.sc (.int k (k.wrap (a * 2 ^ (min b.toNat k.bits)))))) []) :=
  ok_pure _ [(x, .int k a), (y, .int k' b)] (by simp [ho, Op.operands, hx, hy]) (fun ρ hρ w => by
    have h1 := hρ (x, .int k a) (by simp)
    have h2 := hρ (y, .int k' b) (by simp)
    simp only [execOp, ho]
    rw [h1, h2]
    have hb : ¬ b < 0 := by omega
    simp [eqGuard, binOp, Op.shift, hb])
theorem ok_shr {P : Program} {o : Oper} {s : AState} {t t2 : TypeId} {x y : Operand} {k k' : IntKind} {a b : Int} (ho : o.op = .binOp .shr t x y t2)
    (hx : s.eval x = .im (.sc (.int k a))) (hy : s.eval y = .im (.sc (.int k' b))) (h : 0 ≤ b) : OpOK P o (mkSp s o [] [] (.im (.sc (.int k (a.fdiv (2 ^ (min b.toNat k.bits)))))) []) :=
  ok_pure _ [(x, .int k a), (y, .int k' b)] (by simp [ho, Op.operands, hx, hy]) (fun ρ hρ w => by
    have h1 := hρ (x, .int k a) (by simp)
    have h2 := hρ (y, .int k' b) (by simp)
    simp only [execOp, ho]
    rw [h1, h2]
    have hb : ¬ b < 0 := by omega
    simp [eqGuard, binOp, Op.shift, hb])

theorem ok_quo {P : Program} {o : Oper} {s : AState} {t t2 : TypeId} {x y : Operand} {k : IntKind} {a b : Int} (ho : o.op = .binOp .quo t x y t2)
    (hx : s.eval x = .im (.sc (.int k a))) (hy : s.eval y = .im (.sc (.int k b))) (h : b ≠ 0) : OpOK P o (mkSp s o [] [] (.im (.sc (.int k (k.wrap (a.tdiv b))))) []) :=
  ok_pure _ [(x, .int k a), (y, .int k b)] (by simp [ho, Op.operands, hx, hy]) (fun ρ hρ w => by
    have h1 := hρ (x, .int k a) (by simp)
    have h2 := hρ (y, .int k b) (by simp)
    simp only [execOp, ho]
    rw [h1, h2]
    simp [eqGuard, binOp, Op.intDiv, h])
theorem ok_rem {P : Program} {o : Oper} {s : AState} {t t2 : TypeId} {x y : Operand} {k : IntKind} {a b : Int} (ho : o.op = .binOp .rem t x y t2)
    (hx : s.eval x = .im (.sc (.int k a))) (hy : s.eval y = .im (.sc (.int k b))) (h : b ≠ 0) : OpOK P o (mkSp s o [] [] (.im (.sc (.int k (a.tmod b)))) []) :=
  ok_pure _ [(x, .int k a), (y, .int k b)] (by simp [ho, Op.operands, hx, hy]) (fun ρ hρ w => by
    have h1 := hρ (x, .int k a) (by simp)
    have h2 := hρ (y, .int k b) (by simp)
    simp only [execOp, ho]
    rw [h1, h2]
    simp [eqGuard, binOp, Op.intDiv, h])

end Go.Pv
