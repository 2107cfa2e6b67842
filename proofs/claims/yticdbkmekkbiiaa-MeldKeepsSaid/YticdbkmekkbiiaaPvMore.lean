import Derived.Test.YticdbkmekkbiiaaPvKit
import Derived.Laws.StructEq
import Derived.Laws.BytesString
import Derived.Laws.Externs
import Derived.Lib.Bytealg
import Derived.ChangeKeysEq
set_option linter.unusedVariables false
set_option linter.unusedSimpArgs false
/-! Further operations, by hooks. -/
namespace Go.Pv

def optB (b : Option Bool) (v : Bool) : Bool × List Prop :=
  match b with
  | some c => (c, [v = c])
  | none => (v, [])
theorem optB_eq {b : Option Bool} {v : Bool} (h : AllP (optB b v).2) : (optB b v).1 = v := by
  cases b with
  | none => rfl
  | some c => exact h.1.symm

/-! ### Structs that are compared -/
def eqScal (P : Program) (t : TypeId) (x y : Value) : Option Bool :=
  match P.underlying t, x, y with
  | some (.int _), .int k a, .int k' b => match eqK k k' with
    | true => some (a == b)
    | false => none
  | some .bool, .bool a, .bool b => some (a == b)
  | some .string, .string a, .string b => some (a.toList == b.toList)
  | _, _, _ => none

theorem eqScal_ok {P : Program} {t : TypeId} {x y : Value} {r : Bool} (h : eqScal P t x y = some r) (d : Nat) (w : World) : (Op.equalIn (d + 1) t x y).run P w = .ok r w ∧ P.plainKey t = true := by
  unfold eqScal at h
  split at h
  · rename_i hu
    split at h
    · rename_i hk
      obtain rfl := eqK_eq hk
      obtain rfl := Option.some.inj h
      exact ⟨run_equalIn_int w d t _ _ _ _ hu, by simp [Program.plainKey, hu]⟩
    · simp at h
  · rename_i hu; obtain rfl := Option.some.inj h; exact ⟨run_equalIn_bool' w d t _ _ hu, by simp [Program.plainKey, hu]⟩
  · rename_i hu; obtain rfl := Option.some.inj h; exact ⟨run_equalIn_string w d t _ _ hu, by simp [Program.plainKey, hu]⟩
  · simp at h

def eqFs (P : Program) : List Field → List Value → List Value → Option Bool
  | [], _, _ => some true
  | f :: fs, xs, ys => match f.name == "_" with
    | true => none
    | false => match xs[f.offset]?, ys[f.offset]? with
      | some a, some b => match eqScal P f.type a b, eqFs P fs xs ys with
        | some r, some q => some (r && q)
        | _, _ => none
      | _, _ => none

theorem eqFs_ok {P : Program} (d : Nat) (xs ys : List Value) (w : World) : ∀ {fs : List Field} {r : Bool}, eqFs P fs xs ys = some r → (Op.eqFields (d + 1) xs.toArray ys.toArray fs).run P w = .ok r w := by
  intro fs
  induction fs with
  | nil => intro r h; obtain rfl := Option.some.inj h; rfl
  | cons f fs ih =>
    intro r h
    unfold eqFs at h
    split at h
    · simp at h
    · rename_i hname
      have hname : f.name ≠ "_" := by simpa using hname
      split at h
      · rename_i a b ha hb
        split at h
        · rename_i r1 q hr hq
          obtain rfl := Option.some.inj h
          obtain ⟨g1, g2⟩ := eqScal_ok hr d w
          have ha' : (xs.toArray)[f.offset]? = some a := by simpa using ha
          have hb' : (ys.toArray)[f.offset]? = some b := by simpa using hb
          simp only [Op.eqFields]
          rw [if_pos hname]
          simp only [Sem.run_bind, run_part_plain w g2 ha', run_part_plain w g2 hb', Result.andThen_ok, g1]
          cases r1 with
          | false => simp
          | true => simpa using ih hq
        · simp at h
      · simp at h

theorem agg_sc {w : World} {I : Nat → Prop} {κ : Nat → Option KI} {cells : List AVal} {vs : List Value} {v : Value} (h : scVals cells = some vs) (hr : Rep w I κ (.agg cells) v) : v = .agg vs.toArray := by
  obtain rfl := scVals_eq h
  cases hr with
  | @agg _ us hl hreps =>
    congr 2
    apply List.ext_getElem (by simpa using hl)
    intro i h1 h2
    have := hreps i (by simpa using h2) h1
    rw [List.getElem_map] at this
    exact this.sc_inv

def xAgg (b : Option Bool) : Ext where
  f P o s := match o.op with
    | .binOp op t x y _ => match s.eval x, s.eval y with
      | .agg xs, .agg ys => match scVals xs, scVals ys, P.eqGuardType P.depth t, P.stoodInHeld t, P.underlying t with
        | some vx, some vy, false, false, some (.struct fs) => match eqFs P fs.toList vx vy with
          | some r => match op with
            | .eql => some ⟨[], [], .im (.sc (.bool (optB b r).1)), [], (optB b r).2⟩
            | .neq => some ⟨[], [], .im (.sc (.bool (optB b !r).1)), [], (optB b !r).2⟩
            | _ => none
          | none => none
        | _, _, _, _, _ => none
      | _, _ => none
    | _ => none
  ok P o s e he hp := by
    split at he
    · rename_i op t x y _ ho
      split at he
      · rename_i xs ys hx hy
        split at he
        · rename_i vx vy fs h1 h2 h3 h4 h5
          split at he
          · rename_i r hr
            have hf : P.fieldsOf t = fs := by simp [Program.fieldsOf, h5]
            have key : ∀ (Γ : Ctx) (κ : Nat → Option KI) (I : Nat → Prop) (s2 : AState) (a : Act) (w : World), Γ.P = P → Rel Γ κ I s2 a w → (mkSp s o [] [] (.im (.sc (.bool r))) []).needs s2 →
                a.eval x = .agg vx.toArray ∧ a.eval y = .agg vy.toArray := fun Γ κ I s2 a w hP hrel hn =>
              ⟨agg_sc h1 (opd hrel hn x (by simp [ho, Op.operands]) hx), agg_sc h2 (opd hrel hn y (by simp [ho, Op.operands]) hy)⟩
            have heq : ∀ w, (Op.equalIn 10000 t (.agg vx.toArray) (.agg vy.toArray)).run P w = .ok r w := fun w => by
              rw [run_equalIn_agg w 9999 t _ _ (by rw [hf]; exact h5) h4, hf]
              exact eqFs_ok 9998 vx vy w hr
            split at he
            · obtain rfl := Option.some.inj he
              simp only at hp ⊢
              rw [optB_eq hp]
              exact .quiet rfl fun Γ κ I s2 a w hP hrel hn => by
                obtain ⟨e1, e2⟩ := key Γ κ I s2 a w hP hrel hn
                refine ⟨.bool r, ?_, .im (.sc _)⟩
                simp only [execOp, ho, e1, e2, Sem.run_bind, run_eqGuard_agg w _ t x y _ _ h3, Result.andThen_ok, run_eql_struct, heq, Sem.run_pure]
            · obtain rfl := Option.some.inj he
              simp only at hp ⊢
              rw [optB_eq hp]
              exact .quiet rfl fun Γ κ I s2 a w hP hrel hn => by
                obtain ⟨e1, e2⟩ := key Γ κ I s2 a w hP hrel hn
                refine ⟨.bool !r, ?_, .im (.sc _)⟩
                simp only [execOp, ho, e1, e2, Sem.run_bind, run_eqGuard_agg w _ t x y _ _ h3, Result.andThen_ok, run_neq_struct, heq, Sem.run_pure]
            · simp at he
          · simp at he
        · simp at he
      · simp at he
    · simp at he

/-! ### An array's element -/
def xIdx (n : Nat) : Ext where
  f P o s := match o.op with
    | .index t x i => match P.underlying t, s.eval x, s.eval i with
      | some (.array len el), .agg cells, .im (.sc (.int k m)) => match aggP P el with
        | some (ag, sz) => match fieldA ag (n * sz) sz cells, Nat.blt n len with
          | some r, true => some ⟨[], [], r, [], [m = (n : Int)]⟩
          | _, _ => none
        | none => none
      | _, _, _ => none
    | _ => none
  ok P o s e he hp := by
    split at he
    · rename_i t x i ho
      split at he
      · rename_i len el cells k m ht hx hi
        split at he
        · rename_i ag sz hag
          split at he
          · rename_i r hr hlt
            obtain rfl := Option.some.inj he
            obtain ⟨rfl, _⟩ := hp
            have hlt : n < len := by simpa [Nat.blt_eq] using hlt
            refine .quiet rfl fun Γ κ I s2 a w hP hrel hn => ?_
            have h := opd hrel hn x (by simp [ho, Op.operands]) hx
            have h' := (opd hrel hn i (by simp [ho, Op.operands]) hi).sc_inv
            generalize ha : a.eval x = v at h
            cases h with
            | @agg _ vs hl hreps =>
              have hc : (0 ≤ (n : Int) ∧ (n : Int) < len) := by omega
              cases ag with
              | true =>
                simp only [fieldA] at hr
                cases hb : Nat.ble (n * sz + sz) cells.length with
                | false => rw [hb] at hr; simp at hr
                | true =>
                  rw [hb] at hr
                  have hle := Nat.le_of_ble_eq_true hb
                  obtain rfl := Option.some.inj hr
                  refine ⟨.agg ((vs.drop (n * sz)).take sz).toArray, ?_, .agg (by simp [hl]) (fun j h h' => ?_)⟩
                  · simp [execOp, ho, ha, h', Instr.index, asIntOf, run_underlying' ht, hlt, part, run_isAgg' hag, run_sizeOf' hag]
                  · simp only [List.length_take, List.length_drop] at h
                    rw [List.getElem_take, List.getElem_drop, List.getElem_take, List.getElem_drop]
                    exact hreps _ _ _
              | false =>
                simp only [fieldA] at hr
                obtain ⟨hi, rfl⟩ := List.getElem?_eq_some_iff.1 hr
                refine ⟨vs[n * sz]'(by omega), ?_, hreps _ _ _⟩
                have : vs[n * sz]? = some (vs[n * sz]'(by omega)) := by simp
                simp [execOp, ho, ha, h', Instr.index, asIntOf, run_underlying' ht, hlt, part, run_isAgg' hag, run_sizeOf' hag, this]
          · simp at he
        · simp at he
      · simp at he
    · simp at he

/-! ### Bytes and texts -/
def strOf (xs : List Int) : ByteArray := xs.foldl (fun r n => r.push (UInt8.ofNat n.toNat)) ByteArray.empty

def xStr (xs : List Int) : Ext where
  f P o s := match o.op with
    | .convert st t x => match elemP P st, P.underlying t with
      | some (e, sz), some .string => match P.underlying e, srcA s (s.eval x), Nat.beq sz 1 with
        | some (.int .u8), some (skeys, es, ksz), true => match (match ksz with | some z => Nat.beq z 1 | none => true) with
          | true => some ⟨skeys, [], .im (.sc (.string (strOf xs))), [], [es = xs.map (encInt .u8)]⟩
          | false => none
        | _, _, _ => none
      | _, _ => none
    | _ => none
  ok P o s e he hp := by
    split at he
    · rename_i st t x ho
      split at he
      · rename_i el sz hel ht
        obtain ⟨hu, _⟩ := elemP_inv hel
        split at he
        · rename_i skeys es ksz hu8 hsrc hsz1
          split at he
          · rename_i hks
            obtain rfl := Option.some.inj he
            obtain ⟨rfl, _⟩ := hp
            have hS : Src s skeys (s.eval x) (xs.map (encInt .u8)) ∧ ∀ k sz' el' es'', s.eval x = .own k → s.obj k = some (.row sz' el' es'') → sz' = 1 := by
              unfold srcA at hsrc
              split at hsrc
              · rename_i es hy; simp at hsrc; obtain ⟨rfl, rfl, rfl⟩ := hsrc; rw [hy]; exact ⟨.im _, fun k _ _ _ e => by simp at e⟩
              · rename_i hy; simp at hsrc; obtain ⟨rfl, e2, rfl⟩ := hsrc; rw [hy]; subst e2; exact ⟨.none0, fun k _ _ _ e => by simp at e⟩
              · rename_i k hy
                split at hsrc
                · rename_i sz3 el3 es hk
                  simp at hsrc; obtain ⟨rfl, rfl, rfl⟩ := hsrc
                  rw [hy]
                  refine ⟨.own k _ _ _ (by simp) hk, fun k' sz' el' es'' e1 e2 => ?_⟩
                  simp at e1; subst e1
                  rw [hk] at e2; simp at e2
                  obtain ⟨rfl, _⟩ := e2
                  exact Nat.eq_of_beq_eq_true hks
                · simp at hsrc
              · simp at hsrc
            refine .quiet rfl fun Γ κ I s2 a w hP hrel hn => ?_
            have g := opd hrel hn x (by simp [ho, Op.operands]) rfl
            obtain ⟨base, cap, vs, hv, hfl, hcells⟩ := src_cells (P := P) (sz := 1) hrel.inv (fun k hk => needs_obj hn k hk) hS.1 g (by intro c hc; obtain ⟨_, _, rfl⟩ := List.mem_map.1 hc; rfl) hS.2
            have hvs : vs = xs.map (Value.int .u8) := by
              apply List.ext_getElem (by simpa using hfl.len)
              intro i h1 h2
              simp only [List.length_map] at h2
              obtain ⟨v, e1, e2⟩ := hfl.at_ i (by simpa using h2) 0 (by simp)
              rw [Nat.mul_one, Nat.add_zero, List.getElem?_eq_getElem h1] at e1
              obtain rfl := Option.some.inj e1
              simp only [List.getElem_map, encInt, List.getElem_cons_zero] at e2
              rw [List.getElem_map]
              revert e2
              generalize vs[i] = q
              intro e2
              cases e2; rfl
            subst hvs
            refine ⟨.string (strOf xs), ?_, .im (.sc _)⟩
            have hrun := hcells w rfl
            rw [hv] at hrun
            simp only [execOp, ho, hv]
            simp only [Sem.run_bind, run_convert_bytes_string w st t el _ _ _ hu hu8 ht]
            cases base with
            | none =>
              simp only [Builtin.firstCells, Sem.run_pure, Result.ok.injEq, and_true] at hrun
              have : xs = [] := by cases xs with | nil => rfl | cons a l => simp at hrun
              subst this
              rfl
            | some a0 =>
              simp only [Builtin.firstCells, Nat.mul_one] at hrun
              rw [run_bytesToString w a0 _ _ xs (by simpa using hrun)]
              rfl
          · simp at he
        · simp at he
      · simp at he
    · simp at he

/-! ### A text behind bytes -/
def bytesL (b : ByteArray) : List Int := b.data.toList.map fun c => (c.toNat : Int)

def xAppStr (k2 : Nat) (es' : List (List Im)) : Ext where
  f P o s := match o.op with
    | .call { callee := .builtin .append, args := ⟨[x, y]⟩, argTypes := ts } => match ts[0]? with
      | some st => match elemP P st, s.eval y with
        | some (e, sz), .im (.sc (.string b)) => match bytesP P e, Nat.beq sz 1, P.underlying e, notInt P ts with
          | some (by_, sz2), true, some (.int .u8), true => match Nat.beq sz2 1 && Nat.blt 0 by_ with
            | true => match s.eval x with
              | .none0 => some ⟨[], [k2], .own k2, [(k2, some (.row 1 e es'))], [es' = (bytesL b).map (encInt .u8), (0 + b.size) * by_ ≤ 140737488355328]⟩
              | .own k => match s.obj k with
                | some (.row sz' e' old) => match Nat.beq sz' 1 && Nat.beq e' e with
                  | true => some ⟨[k], [k2], .own k2, [(k2, some (.row 1 e es')), (k, none)], [es' = old ++ (bytesL b).map (encInt .u8), (old.length + b.size) * by_ ≤ 140737488355328]⟩
                  | false => none
                | _ => none
              | _ => none
            | false => none
          | _, _, _, _ => none
        | _, _ => none
      | none => none
    | _ => none
  ok P o s e he hp := by
    split at he
    · rename_i x y ts ho
      split at he
      · rename_i st hts
        split at he
        · rename_i el sz b hel hy
          obtain ⟨hu, _⟩ := elemP_inv hel
          split at he
          · rename_i by_ sz2 hby hsz hu8 hni
            split at he
            · rename_i hb
              simp only [Bool.and_eq_true, Nat.blt_eq] at hb
              obtain ⟨hb1, hb0⟩ := hb
              obtain rfl := Nat.eq_of_beq_eq_true hb1
              have hlen : ((bytesL b).map (encInt .u8)).length = b.size := by rw [List.length_map]; simp only [bytesL, List.length_map, Array.length_toList]; rfl
              have hfl : ∀ (w : World) (I : Nat → Prop), Flat w I 1 ((bytesL b).map (encInt .u8)) ((bytesL b).map (Value.int .u8)) := fun w I =>
                ⟨by simp, fun i h => by simp, fun i h j h' => by
                  simp only [List.length_map] at h
                  simp only [List.getElem_map, encInt, List.length_cons, List.length_nil] at h'
                  obtain rfl : j = 0 := by omega
                  refine ⟨.int .u8 (bytesL b)[i], by simp [h], ?_⟩
                  simp only [List.getElem_map, encInt, List.getElem_cons_zero]
                  exact .sc _⟩
              have hleaf : ∀ v ∈ (bytesL b).map (Value.int .u8), leafV v = true := by
                intro v hv; obtain ⟨n, _, rfl⟩ := List.mem_map.1 hv; rfl
              have main : ∀ (old : List (List Im)) (kold : List Nat), ((s.eval x = .none0 ∧ old = [] ∧ kold = []) ∨ ∃ k, s.eval x = .own k ∧ kold = [k] ∧ s.obj k = some (.row 1 el old)) → (old.length + b.size) * by_ ≤ 140737488355328 →
                  OpOK P o (mkSp s o kold [k2] (.own k2) ((k2, some (.row 1 el (old ++ (bytesL b).map (encInt .u8)))) :: kold.map (·, none))) := by
                intro old kold hold hroom
                refine .of fun Γ κ I s2 a w hP hr hn hf => ?_
                have hfk := hf k2 (by simp [mkSp])
                have g1 := opd hr hn x (by simp [ho, Op.operands, Call.operands]) rfl
                have g2 := (opd hr hn y (by simp [ho, Op.operands, Call.operands]) hy).sc_inv
                obtain ⟨v, w', κ', h1, h2, h3, h4, h5⟩ := append_core (P := P) (ts := ts) (ty := o.type) (sv := a.eval x) (xv := a.eval y) (news := (bytesL b).map (Value.int .u8)) (kold := kold) (new := (bytesL b).map (encInt .u8)) (old := old) hr.inv hfk hts hni hu hby hb0 (by
                  rcases hold with ⟨e1, rfl, rfl⟩ | ⟨k, e1, rfl, hk⟩
                  · rw [e1] at g1; obtain ⟨base, e⟩ := none0_inv g1; exact .inl ⟨base, e, rfl, rfl⟩
                  · rw [e1] at g1; exact .inr ⟨k, rfl, (needs_obj hn k (by simp)).trans hk, g1⟩) (fun w2 _ => by rw [g2, hlen]; simp [Builtin.lenOf]) (fun w2 _ => by
                    rw [g2, hlen]
                    simp only [Builtin.firstCells, Sem.run_pure]
                    congr 1
                    have hx0 : (b.extract 0 b.size).data = b.data := by rw [ByteArray.data_extract]; exact Array.extract_size
                    rw [hx0, ← Array.toList_inj, Array.toList_map, List.toList_toArray]
                    simp only [bytesL, List.map_map]
                    rfl) (hfl w I) hleaf (by rw [hlen]; exact hroom)
                exact ⟨v, _, w', κ', I, .inl rfl, by simp [execOp, ho, resolve, invoke, builtin, h1], h2, fun _ h => h, h3, h4, h5⟩
              split at he
              · rename_i hx
                obtain rfl := Option.some.inj he
                obtain ⟨rfl, h2, _⟩ := hp
                exact main [] [] (.inl ⟨hx, rfl, rfl⟩) (by simpa using h2)
              · rename_i k hx
                split at he
                · rename_i sz' e' old hk
                  split at he
                  · rename_i hb2
                    simp only [Bool.and_eq_true] at hb2
                    obtain ⟨q1, q2⟩ := hb2
                    obtain rfl := Nat.eq_of_beq_eq_true q1
                    obtain rfl := Nat.eq_of_beq_eq_true q2
                    obtain rfl := Option.some.inj he
                    obtain ⟨rfl, h2, _⟩ := hp
                    exact main old [k] (.inr ⟨k, hx, rfl, hk⟩) h2
                  · simp at he
                · simp at he
              · simp at he
            · simp at he
          · simp at he
        · simp at he
      · simp at he
    · simp at he

/-! ### Functions without a body -/
theorem x_add64 {P : Program} {g : FuncId} {fn : Func} (hf : P.funcs[g]? = some fn) (hname : (fn.name == "runtime.NumGoroutine") = false) (hb : fn.body.isNone = true) (hn : Extern.findNext fn = none) (he : Extern.find fn = some add64Entry)
    {x y c : Int} (h : 0 ≤ x ∧ 0 ≤ y ∧ 0 ≤ c ∧ c ≤ 1) (w : World) :
    (callFunc g ([.int .u64 x, .int .u64 y, .int .u64 c] : List Value).toArray).run P w = .ok (.value (.tuple #[.int .u64 ((x + y + c) % 18446744073709551616), .int .u64 ((x + y + c) / 18446744073709551616)])) w := by
  rw [run_callFunc_extern hf hname hb hn he]
  have := run_add64 (P := P) x y c h.1 h.2.1 h.2.2.1 h.2.2.2 w
  simp only [this, Result.andThen_ok]

theorem x_indexByte {P : Program} {g : FuncId} {fn : Func} (hf : P.funcs[g]? = some fn) (hname : (fn.name == "runtime.NumGoroutine") = false) (hb : fn.body.isNone = true) (hn : Extern.findNext fn = none) (he : Extern.find fn = some Extern.BytealgIndexByte.indexByte)
    {s : ByteArray} {c : Int} (w : World) : (callFunc g ([.string s, .int .u8 c] : List Value).toArray).run P w = .ok (.value (.int .i64 (Lib.indexByte s.data.toList c.toNat.toUInt8))) w := by
  rw [run_callFunc_extern hf hname hb hn he]
  have := Lib.run_indexByteString (P := P) s c w
  simp only [this, Result.andThen_ok]

end Go.Pv
