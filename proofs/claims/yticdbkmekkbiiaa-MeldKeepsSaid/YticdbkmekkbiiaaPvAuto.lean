import Derived.Test.YticdbkmekkbiiaaPvOps4
set_option linter.unusedVariables false
set_option linter.unusedSimpArgs false
/-! Operations carried out by a function that the kernel runs: what it can't see for itself it asks for. -/
namespace Go.Pv

def AllP : List Prop → Prop
  | [] => True
  | p :: r => p ∧ AllP r

structure Eff where
  keys : List Nat
  news : List Nat
  res : AVal
  post : List (Nat × Option MObj)
  props : List Prop

/-- More operations, proved elsewhere. -/
structure Ext where
  f : Program → Oper → AState → Option Eff
  ok : ∀ (P : Program) (o : Oper) (s : AState) (e : Eff), f P o s = some e → AllP e.props → OpOK P o (mkSp s o e.keys e.news e.res e.post)

/-- What is told of an operation. -/
inductive Hint where
  | more (x : Ext)
  | none
  | b (r : Bool)                                  -- the bool that comes out
  | c (cells : List Im)                           -- an element's cells
  | k (key : Nat)                                 -- a new object's key
  | rows (es : List (List Im))                    -- what a cut holds
  | app (key : Nat) (es : List (List Im))         -- an append: the new key, the row
  | put (cells : List Im) (es : List (List Im))   -- a store into an element: its cells, the row behind it
  | call (inv out : List (Nat × Nat)) (vk : List Nat) (news : List Nat) (floor : Nat) (r : AVal) (objs : List (Nat × Option MObj))
  | ext (r : AVal)                                -- what a function without a body answers
  | any (r : AVal)                                -- the result in another spelling

def boolRes (h : Hint) (v : Value) : Value × List Prop :=
  match h, v with
  | .b r, .bool c => (.bool r, [c = r])
  | _, v => (v, [])

theorem boolRes_eq {h : Hint} {v : Value} (hp : AllP (boolRes h v).2) : (boolRes h v).1 = v := by
  unfold boolRes at hp ⊢
  split at hp
  · rw [hp.1]
  · rfl

def scal (v : Value × List Prop) : Eff := ⟨[], [], .im (.sc v.1), [], v.2⟩

def eqK : IntKind → IntKind → Bool
  | .i8, .i8 | .i16, .i16 | .i32, .i32 | .i64, .i64 | .u8, .u8 | .u16, .u16 | .u32, .u32 | .u64, .u64 => true
  | _, _ => false
theorem eqK_eq {a b : IntKind} (h : eqK a b = true) : a = b := by cases a <;> cases b <;> first | rfl | simp [eqK] at h

def autoBin (P : Program) (h : Hint) (s : AState) (op : BinOp) (t : TypeId) (x y : Operand) : Option Eff :=
  match op, s.eval x, s.eval y with
  | .shl, .im (.sc (.int k a)), .im (.sc (.int _ b)) => some ⟨[], [], .im (.sc (.int k (k.wrap (a * 2 ^ (min b.toNat k.bits))))), [], [0 ≤ b]⟩
  | .shr, .im (.sc (.int k a)), .im (.sc (.int _ b)) => some ⟨[], [], .im (.sc (.int k (a.fdiv (2 ^ (min b.toNat k.bits))))), [], [0 ≤ b]⟩
  | .quo, .im (.sc (.int k a)), .im (.sc (.int k' b)) => match eqK k k' with
    | true => some ⟨[], [], .im (.sc (.int k (k.wrap (a.tdiv b)))), [], [b ≠ 0]⟩
    | false => none
  | .rem, .im (.sc (.int k a)), .im (.sc (.int k' b)) => match eqK k k' with
    | true => some ⟨[], [], .im (.sc (.int k (a.tmod b))), [], [b ≠ 0]⟩
    | false => none
  | .add, .im (.sc (.string a)), .im (.sc (.string b)) => some ⟨[], [], .im (.sc (.string (a ++ b))), [], [((a.size + b.size : Nat) : Int) ≤ 9223372036854775807]⟩
  | op, .im (.sc (.int k a)), .im (.sc (.int k' b)) => match eqK k k' with
    | true => match binInt op k a b with
      | some v => some (scal (boolRes h v))
      | none => match binBits op k a b with
        | some v => some (scal (v, []))
        | none => none
    | false => none
  | op, .im (.sc (.string a)), .im (.sc (.string b)) => match binStr op a b with
    | some v => some (scal (boolRes h v))
    | none => none
  | op, .im (.sc (.bool a)), .im (.sc (.bool b)) => match P.underlying t with
    | some .bool => match binBool op a b with
      | some v => some (scal (boolRes h v))
      | none => none
    | _ => none
  | _, _, _ => none

theorem autoBin_ok {P : Program} {h : Hint} {o : Oper} {s : AState} {op : BinOp} {t t2 : TypeId} {x y : Operand} {e : Eff} (ho : o.op = .binOp op t x y t2) (he : autoBin P h s op t x y = some e) (hp : AllP e.props) :
    OpOK P o (mkSp s o e.keys e.news e.res e.post) := by
  unfold autoBin at he
  split at he
  · rename_i hx hy; obtain rfl := Option.some.inj he; exact ok_shl ho hx hy hp.1
  · rename_i hx hy; obtain rfl := Option.some.inj he; exact ok_shr ho hx hy hp.1
  · rename_i hx hy
    split at he
    · rename_i hk; obtain rfl := eqK_eq hk; obtain rfl := Option.some.inj he; exact ok_quo ho hx hy hp.1
    · simp at he
  · rename_i hx hy
    split at he
    · rename_i hk; obtain rfl := eqK_eq hk; obtain rfl := Option.some.inj he; exact ok_rem ho hx hy hp.1
    · simp at he
  · rename_i hx hy; obtain rfl := Option.some.inj he; exact ok_addStr ho hx hy hp.1
  · rename_i hx hy
    split at he
    · rename_i hk; obtain rfl := eqK_eq hk
      split at he
      · rename_i v hv; obtain rfl := Option.some.inj he
        have := ok_binInt (P := P) ho hx hy hv
        simp only [scal] at hp ⊢
        rw [boolRes_eq hp]; exact this
      · split at he
        · rename_i v hv; obtain rfl := Option.some.inj he
          exact ok_binBits (P := P) ho hx hy hv
        · simp at he
    · simp at he
  · rename_i hx hy
    split at he
    · rename_i v hv; obtain rfl := Option.some.inj he
      have := ok_binStr (P := P) ho hx hy hv
      simp only [scal] at hp ⊢
      rw [boolRes_eq hp]; exact this
    · simp at he
  · rename_i hx hy
    split at he
    · rename_i ht
      split at he
      · rename_i v hv; obtain rfl := Option.some.inj he
        have := ok_binBool (P := P) ho ht hx hy hv
        simp only [scal] at hp ⊢
        rw [boolRes_eq hp]; exact this
      · simp at he
    · simp at he
  · simp at he

def autoLoad (P : Program) (h : Hint) (s : AState) (t : TypeId) (x : Operand) : Option Eff :=
  match aggP P t with
  | some (ag, sz) => match s.eval x with
    | .ptr k e j => match s.obj k with
      | some (.box el cells) => match e with
        | 0 => match loadA ag sz (cells.drop j) with
          | some r => some ⟨[k], [], r, [], []⟩
          | none => none
        | _ => none
      | some (.row sz' el es) => match h with
        | .c c => match loadA ag sz ((c.drop j).map .im) with
          | some r => some ⟨[k], [], r, [], [es[e]? = some c]⟩
          | none => none
        | _ => none
      | none => none
    | .ip cells => match loadA ag sz (cells.map .im) with
      | some r => some ⟨[], [], r, [], []⟩
      | none => none
    | _ => none
  | none => none

theorem autoLoad_ok {P : Program} {h : Hint} {o : Oper} {s : AState} {t : TypeId} {x : Operand} {e : Eff} (ho : o.op = .load t x) (he : autoLoad P h s t x = some e) (hp : AllP e.props) :
    OpOK P o (mkSp s o e.keys e.news e.res e.post) := by
  unfold autoLoad at he
  split at he
  · rename_i ag sz ht
    split at he
    · rename_i k e' j hx
      split at he
      · rename_i el cells hk
        split at he
        · split at he
          · rename_i r hr; obtain rfl := Option.some.inj he; exact ok_load_box ho hx hk ht hr
          · simp at he
        · simp at he
      · rename_i sz' el es hk
        split at he
        · rename_i c
          split at he
          · rename_i r hr; obtain rfl := Option.some.inj he; exact ok_load_row c ho hx hk hp.1 ht hr
          · simp at he
        · simp at he
      · simp at he
    · rename_i cells hx
      split at he
      · rename_i r hr; obtain rfl := Option.some.inj he; exact ok_load_ip ho hx ht hr
      · simp at he
    · simp at he
  · simp at he

def autoStore (P : Program) (h : Hint) (s : AState) (t : TypeId) (x y : Operand) : Option Eff :=
  match aggP P t, s.eval x with
  | some (ag, sz), .ptr k e j => match leaves (valCells (s.eval y)) && Nat.blt 0 sz with
    | true => match s.obj k with
      | some (.box el cells) => match e, Nat.beq (valCells (s.eval y)).length sz && Nat.ble (j + sz) cells.length with
        | 0, true => some ⟨[k], [], .top, [(k, some (.box el (splice cells j (valCells (s.eval y)))))], []⟩
        | _, _ => none
      | some (.row sz' el es) => match h, toImL (valCells (s.eval y)) with
        | .put c es', some d => match Nat.beq d.length sz && Nat.ble (j + sz) c.length with
          | true => some ⟨[k], [], .top, [(k, some (.row sz' el es'))], [es[e]? = some c, es' = es.set e (splice c j d)]⟩
          | false => none
        | _, _ => none
      | none => none
    | false => none
  | _, _ => none

theorem autoStore_ok {P : Program} {h : Hint} {o : Oper} {s : AState} {t : TypeId} {x y : Operand} {e : Eff} (ho : o.op = .store t x y) (he : autoStore P h s t x y = some e) (hp : AllP e.props) :
    OpOK P o (mkSp s o e.keys e.news e.res e.post) := by
  unfold autoStore at he
  split at he
  · rename_i ag sz k e' j ht hx
    split at he
    · rename_i hb
      simp only [Bool.and_eq_true, Nat.blt_eq] at hb
      split at he
      · rename_i el cells hk
        split at he
        · rename_i hb2
          simp only [Bool.and_eq_true] at hb2
          obtain rfl := Option.some.inj he
          exact ok_store_box ho hx hk ht hb.1 (Nat.eq_of_beq_eq_true hb2.1) hb.2 (Nat.le_of_ble_eq_true hb2.2)
        · simp at he
      · rename_i sz' el es hk
        split at he
        · rename_i c es' d hd
          split at he
          · rename_i hb2
            simp only [Bool.and_eq_true] at hb2
            obtain rfl := Option.some.inj he
            simp only [AllP] at hp
            obtain ⟨p1, p2, _⟩ := hp
            subst p2
            exact ok_store_row c d ho hx hk p1 ht hb.1 hd (Nat.eq_of_beq_eq_true hb2.1) hb.2 (Nat.le_of_ble_eq_true hb2.2)
          · simp at he
        · simp at he
      · simp at he
    · simp at he
  · simp at he

def optN (s : AState) (y : Option Operand) (d : Int) : Option Int := match y with
  | some x => match s.eval x with
    | .im (.sc (.int _ n)) => some n
    | _ => none
  | none => some d
theorem optN_A {s : AState} {y : Option Operand} {d n : Int} (h : optN s y d = some n) : optA s y n d := by
  unfold optN at h
  cases y with
  | none => simp at h; exact h.symm
  | some x =>
    simp only at h
    split at h
    · rename_i k m hx; simp at h; subst h; exact ⟨k, hx⟩
    · simp at h

def autoSlice (P : Program) (h : Hint) (s : AState) (t : TypeId) (x : Operand) (lo hi : Option Operand) : Option Eff :=
  match P.underlying t, s.eval x with
  | some .string, .im (.sc (.string str)) => match optN s lo 0, optN s hi str.size with
    | some l, some u => some ⟨[], [], .im (.sc (.string (str.extract l.toNat u.toNat))), [], [0 ≤ l, l ≤ u, u ≤ (str.size : Int)]⟩
    | _, _ => none
  | some (.slice _), .im (.row es) => match elemP P t, h, optN s lo 0, optN s hi es.length with
    | some (_, sz), .rows es', some l, some u => some ⟨[], [], .im (.row es'), [], [0 ≤ l, l ≤ u, u ≤ (es.length : Int), ∀ c ∈ es, c.length = sz, es' = (es.drop l.toNat).take (u.toNat - l.toNat)]⟩
    | _, _, _, _ => none
  | _, _ => none

theorem autoSlice_ok {P : Program} {h : Hint} {o : Oper} {s : AState} {t : TypeId} {x : Operand} {lo hi : Option Operand} {e : Eff} (ho : o.op = .slice t x lo hi none) (he : autoSlice P h s t x lo hi = some e) (hp : AllP e.props) :
    OpOK P o (mkSp s o e.keys e.news e.res e.post) := by
  unfold autoSlice at he
  split at he
  · rename_i ht hx
    split at he
    · rename_i l u hl hu
      obtain rfl := Option.some.inj he
      exact ok_slice_string l u ho ht hx (optN_A hl) (optN_A hu) hp.1 hp.2.1 hp.2.2.1
    · simp at he
  · rename_i ht hx
    split at he
    · rename_i el sz es' l u hel hl hu
      obtain rfl := Option.some.inj he
      simp only [AllP] at hp
      obtain ⟨p1, p2, p3, p4, p5, _⟩ := hp
      subst p5
      exact ok_slice_im l u ho hel hx (optN_A hl) (optN_A hu) p1 p2 p3 p4
    · simp at he
  · simp at he

def autoIndexAddr (P : Program) (h : Hint) (s : AState) (t : TypeId) (x i : Operand) : Option Eff :=
  match elemP P t, s.eval x, s.eval i with
  | some (_, sz), .im (.row es), .im (.sc (.int _ n)) => match h with
    | .c c => match Nat.beq c.length sz with
      | true => some ⟨[], [], .ip c, [], [0 ≤ n, es[n.toNat]? = some c]⟩
      | false => none
    | _ => none
  | some (_, sz), .own key, .im (.sc (.int _ n)) => match s.obj key with
    | some (.row sz' el es) => match Nat.beq sz' sz with
      | true => some ⟨[key], [], .ptr key n.toNat 0, [], [0 ≤ n, n < (es.length : Int)]⟩
      | false => none
    | _ => none
  | _, _, _ => none

theorem autoIndexAddr_ok {P : Program} {h : Hint} {o : Oper} {s : AState} {t : TypeId} {x i : Operand} {e : Eff} (ho : o.op = .indexAddr t x i) (he : autoIndexAddr P h s t x i = some e) (hp : AllP e.props) :
    OpOK P o (mkSp s o e.keys e.news e.res e.post) := by
  unfold autoIndexAddr at he
  split at he
  · rename_i sz es k n ht hx hi
    split at he
    · rename_i c
      split at he
      · rename_i hb
        obtain rfl := Option.some.inj he
        exact ok_indexAddr_im c ho ht hx hi hp.1 hp.2.1 (Nat.eq_of_beq_eq_true hb)
      · simp at he
    · simp at he
  · rename_i sz key k n ht hx hi
    split at he
    · rename_i sz' el es hk
      split at he
      · rename_i hb
        obtain rfl := Nat.eq_of_beq_eq_true hb
        obtain rfl := Option.some.inj he
        exact ok_indexAddr_own ho ht hx hk hi hp.1 hp.2.1
      · simp at he
    · simp at he
  · simp at he

def lenRes (h : Hint) (n : Nat) : Int × List Prop :=
  match h with
  | .any (.im (.sc (.int .i64 m))) => (m, [(n : Int) = m])
  | _ => (n, [])
theorem lenRes_eq {h : Hint} {n : Nat} (hp : AllP (lenRes h n).2) : (lenRes h n).1 = n := by
  unfold lenRes at hp ⊢
  split at hp
  · exact hp.1.symm
  · rfl

def autoLen (P : Program) (h : Hint) (s : AState) (x : Operand) (ts : Array TypeId) : Option Eff :=
  match ts[0]? with
  | some t => match P.underlying t, s.eval x with
    | some .string, .im (.sc (.string str)) => some ⟨[], [], .im (.sc (.int .i64 str.size)), [], []⟩
    | some (.slice _), .im (.row es) => some ⟨[], [], .im (.sc (.int .i64 (lenRes h es.length).1)), [], (lenRes h es.length).2⟩
    | some (.slice _), .none0 => some ⟨[], [], .im (.sc (.int .i64 0)), [], []⟩
    | some (.slice _), .own k => match s.obj k with
      | some (.row _ _ es) => some ⟨[k], [], .im (.sc (.int .i64 (lenRes h es.length).1)), [], (lenRes h es.length).2⟩
      | _ => none
    | _, _ => none
  | none => none

theorem autoLen_ok {P : Program} {h : Hint} {o : Oper} {s : AState} {x : Operand} {ts : Array TypeId} {e : Eff} (ho : o.op = .call { callee := .builtin .len, args := #[x], argTypes := ts }) (he : autoLen P h s x ts = some e) (hp : AllP e.props) :
    OpOK P o (mkSp s o e.keys e.news e.res e.post) := by
  unfold autoLen at he
  split at he
  · rename_i t hts
    split at he
    · rename_i ht hx; obtain rfl := Option.some.inj he; exact ok_len_string ho hts ht hx
    · rename_i es ht hx; obtain rfl := Option.some.inj he
      simp only at hp ⊢
      rw [lenRes_eq hp]
      exact ok_len_slice _ [] ho hts ht hx (.inl ⟨es, rfl, rfl⟩)
    · rename_i ht hx; obtain rfl := Option.some.inj he; exact ok_len_slice 0 [] ho hts ht hx (.inr (.inl ⟨rfl, rfl⟩))
    · rename_i k ht hx
      split at he
      · rename_i sz el es hk; obtain rfl := Option.some.inj he
        simp only at hp ⊢
        rw [lenRes_eq hp]
        exact ok_len_slice _ [k] ho hts ht hx (.inr (.inr (.inr ⟨k, sz, el, es, rfl, by simp, hk, rfl⟩)))
      · simp at he
    · simp at he
  · simp at he

/-- Where an append's elements come from: keys, rows, cells an element. -/
def srcA (s : AState) (y : AVal) : Option (List Nat × List (List Im) × Option Nat) :=
  match y with
  | .im (.row es) => some ([], es, none)
  | .none0 => some ([], [], none)
  | .own k => match s.obj k with
    | some (.row sz _ es) => some ([k], es, some sz)
    | _ => none
  | _ => none

def autoAppend (P : Program) (h : Hint) (s : AState) (x y : Operand) (ts : Array TypeId) : Option Eff :=
  match ts[0]? with
  | some st => match elemP P st, h, srcA s (s.eval y) with
    | some (e, sz), .app k2 es', some (skeys, new, ksz) => match bytesP P e with
      | some (by_, sz2) => match Nat.beq sz2 sz && notInt P ts && Nat.blt 0 by_ && (match ksz with | some z => Nat.beq z sz | none => true) with
        | true => match s.eval x with
          | .none0 => some ⟨[] ++ skeys, [k2], .own k2, [(k2, some (.row sz e es'))], [es' = [] ++ new, ∀ c ∈ new, c.length = sz, ∀ c ∈ new, leaves (c.map .im) = true, (([] : List (List Im)).length + new.length) * by_ ≤ 140737488355328]⟩
          | .own k => match s.obj k with
            | some (.row sz' e' old) => match Nat.beq sz' sz && Nat.beq e' e with
              | true => some ⟨[k] ++ skeys, [k2], .own k2, [(k2, some (.row sz e es')), (k, none)], [es' = old ++ new, ∀ c ∈ new, c.length = sz, ∀ c ∈ new, leaves (c.map .im) = true, (old.length + new.length) * by_ ≤ 140737488355328]⟩
              | false => none
            | _ => none
          | _ => none
        | false => none
      | none => none
    | _, _, _ => none
  | none => none

theorem autoAppend_ok {P : Program} {h : Hint} {o : Oper} {s : AState} {x y : Operand} {ts : Array TypeId} {e : Eff} (ho : o.op = .call { callee := .builtin .append, args := #[x, y], argTypes := ts }) (he : autoAppend P h s x y ts = some e) (hp : AllP e.props) :
    OpOK P o (mkSp s o e.keys e.news e.res e.post) := by
  unfold autoAppend at he
  split at he
  · rename_i st hts
    split at he
    · rename_i el sz k2 es' skeys new ksz hel hsrc
      split at he
      · rename_i by_ sz2 hby
        split at he
        · rename_i hb
          simp only [Bool.and_eq_true, Nat.blt_eq] at hb
          obtain ⟨⟨⟨b1, b2⟩, b3⟩, b4⟩ := hb
          obtain rfl := Nat.eq_of_beq_eq_true b1
          obtain ⟨hu, _⟩ := elemP_inv hel
          have hS : Src s skeys (s.eval y) new ∧ ∀ k sz' el' es'', s.eval y = .own k → s.obj k = some (.row sz' el' es'') → sz' = sz2 := by
            unfold srcA at hsrc
            split at hsrc
            · rename_i es hy; simp at hsrc; obtain ⟨rfl, rfl, rfl⟩ := hsrc; rw [hy]; exact ⟨.im _, fun k _ _ _ e => by simp at e⟩
            · rename_i hy; simp at hsrc; obtain ⟨rfl, rfl, rfl⟩ := hsrc; rw [hy]; exact ⟨.none0, fun k _ _ _ e => by simp at e⟩
            · rename_i k hy
              split at hsrc
              · rename_i sz3 el3 es hk
                simp at hsrc; obtain ⟨rfl, rfl, rfl⟩ := hsrc
                rw [hy]
                refine ⟨.own k _ _ _ (by simp) hk, fun k' sz' el' es'' e1 e2 => ?_⟩
                simp at e1; subst e1
                rw [hk] at e2; simp at e2
                rw [← e2.1]; exact Nat.eq_of_beq_eq_true b4
              · simp at hsrc
            · simp at hsrc
          split at he
          · rename_i hx
            obtain rfl := Option.some.inj he
            simp only [AllP] at hp
            obtain ⟨p1, p2, p3, p4, _⟩ := hp
            subst p1
            exact ok_append k2 [] skeys ho hts b2 hu hby b3 hx rfl (.inl ⟨rfl, rfl, rfl⟩) hS.1 p2 hS.2 p3 p4
          · rename_i k hx
            split at he
            · rename_i sz' e' old hk
              split at he
              · rename_i hb2
                simp only [Bool.and_eq_true] at hb2
                obtain rfl := Nat.eq_of_beq_eq_true hb2.1
                obtain rfl := Nat.eq_of_beq_eq_true hb2.2
                obtain rfl := Option.some.inj he
                simp only [AllP] at hp
                obtain ⟨p1, p2, p3, p4, _⟩ := hp
                subst p1
                exact ok_append k2 [k] skeys ho hts b2 hu hby b3 hx rfl (.inr ⟨k, rfl, rfl, hk⟩) hS.1 p2 hS.2 p3 p4
              · simp at he
            · simp at he
          · simp at he
        · simp at he
      · simp at he
    · simp at he
  · simp at he

end Go.Pv
