import Derived.Test.YticdbkmekkbiiaaPvOps2
import Derived.Laws.Append
set_option linter.unusedVariables false
set_option linter.unusedSimpArgs false
/-! Rows that are made and grow. -/
namespace Go.Pv

/-- Cells that hold rows' elements, one behind the other. -/
structure Flat (w : World) (I : Nat → Prop) (sz : Nat) (es : List (List Im)) (vs : List Value) : Prop where
  len : vs.length = es.length * sz
  el : ∀ i (h : i < es.length), (es[i]).length = sz
  at_ : ∀ i (h : i < es.length) j (h' : j < (es[i]).length), ∃ v, vs[i * sz + j]? = some v ∧ IRep w I ((es[i])[j]) v

theorem idx_lt {i j n sz : Nat} (hi : i < n) (hj : j < sz) : i * sz + j < n * sz := by
  have : (i + 1) * sz ≤ n * sz := Nat.mul_le_mul_right _ hi
  rw [Nat.add_mul] at this; omega

theorem Flat.append {w : World} {I : Nat → Prop} {sz : Nat} {es fs : List (List Im)} {us vs : List Value} (h : Flat w I sz es us) (h' : Flat w I sz fs vs) : Flat w I sz (es ++ fs) (us ++ vs) := by
  refine ⟨by simp [h.len, h'.len, Nat.add_mul], fun i hi => ?_, fun i hi j hj => ?_⟩
  · by_cases hlt : i < es.length
    · rw [List.getElem_append_left hlt]; exact h.el i hlt
    · rw [List.getElem_append_right (by omega)]; exact h'.el _ _
  · by_cases hlt : i < es.length
    · simp only [List.getElem_append_left hlt] at hj ⊢
      obtain ⟨v, e, r⟩ := h.at_ i hlt j hj
      have hjs : j < sz := by rw [← h.el i hlt]; exact hj
      exact ⟨v, by rw [List.getElem?_append_left (by rw [h.len]; exact idx_lt hlt hjs)]; exact e, r⟩
    · simp only [List.getElem_append_right (Nat.le_of_not_lt hlt)] at hj ⊢
      simp only [List.length_append] at hi
      obtain ⟨v, e, r⟩ := h'.at_ (i - es.length) (by omega) j hj
      refine ⟨v, ?_, r⟩
      rw [List.getElem?_append_right (by rw [h.len]; have := Nat.mul_le_mul_right sz (Nat.le_of_not_lt hlt); omega), h.len]
      rw [show i * sz + j - es.length * sz = (i - es.length) * sz + j from by rw [Nat.sub_mul]; have := Nat.mul_le_mul_right sz (Nat.le_of_not_lt hlt); omega]
      exact e

theorem Flat.mono {w w' : World} {I I' : Nat → Prop} {sz : Nat} {es : List (List Im)} {vs : List Value} (h : Flat w I sz es vs) (hI : ∀ b, I b → I' b) (hw : ∀ b, I b → w'.heap[b]? = w.heap[b]?) :
    Flat w' I' sz es vs := ⟨h.len, h.el, fun i hi j hj => let ⟨v, e, r⟩ := h.at_ i hi j hj; ⟨v, e, r.mono hI hw⟩⟩

/-- What an append takes its elements from. -/
inductive Src (s : AState) (keys : List Nat) : AVal → List (List Im) → Prop
  | im (es : List (List Im)) : Src s keys (.im (.row es)) es
  | none0 : Src s keys .none0 []
  | own (k sz el : Nat) (es : List (List Im)) (hk : k ∈ keys) (ho : s.obj k = some (.row sz el es)) : Src s keys (.own k) es

def bytesIm (b : ByteArray) : List (List Im) := b.data.toList.map fun x => [.sc (.int .u8 x.toNat)]

theorem row_flat {w : World} {I : Nat → Prop} {κ : Nat → Option KI} {k sz el : Nat} {es : List (List Im)} {ki : KI} (ho : OAt w I κ k (.row sz el es)) (hκ : κ k = some ki) :
    ∃ arr : Array Value, w.heap[ki.b]? = some (.cells arr el (0, 0)) ∧ arr.size = ki.cap * sz ∧ ki.len = es.length ∧ ki.sz = sz ∧ es.length ≤ ki.cap ∧ Flat w I sz es (arr.toList.take (es.length * sz)) := by
  simp only [OAt, hκ, ORep] at ho
  obtain ⟨h1, h2, h3, arr, h4, h5, h6⟩ := ho
  have hle : es.length * sz ≤ arr.size := by rw [h5]; exact Nat.mul_le_mul_right _ h3
  refine ⟨arr, h4, h5, h2, h1, h3, by simp; omega, fun i hi => (h6 i hi).1, fun i hi j hj => ?_⟩
  obtain ⟨v, e, r⟩ := (h6 i hi).2 j hj
  have hjs : j < sz := by rw [← (h6 i hi).1]; exact hj
  refine ⟨v, ?_, r⟩
  rw [List.getElem?_take, if_pos (idx_lt hi hjs)]
  simpa using e

/-- The elements of a slice value, as 'firstCells' brings them. -/
theorem src_cells {P : Program} {Γ : Ctx} {κ : Nat → Option KI} {I : Nat → Prop} {s s2 : AState} {w : World} {keys : List Nat} {x : AVal} {v : Value} {es : List (List Im)} {sz : Nat}
    (hinv : Inv Γ κ I s2 w) (hobj : ∀ k ∈ keys, s2.obj k = s.obj k) (hs : Src s keys x es) (h : Rep w I κ x v) (hsz : ∀ c ∈ es, c.length = sz) (hksz : ∀ k sz' el es', x = .own k → s.obj k = some (.row sz' el es') → sz' = sz) :
    ∃ base cap vs, v = .slice base es.length cap ∧ Flat w I sz es vs ∧ ∀ w2 : World, w2.heap = w.heap → (Builtin.firstCells sz es.length v).run P w2 = .ok vs.toArray w2 := by
  have hcell2 : ∀ (w2 : World), w2.heap = w.heap → ∀ a, w2.cell? a = w.cell? a := fun w2 h a => by unfold World.cell?; rw [h]
  cases hs with
  | none0 =>
    obtain ⟨base, rfl⟩ := none0_inv h
    refine ⟨base, 0, [], rfl, ⟨by simp, fun i h => absurd h (Nat.not_lt_zero _), fun i h => absurd h (Nat.not_lt_zero _)⟩, fun w2 hw2 => ?_⟩
    cases base with
    | none => simp [Builtin.firstCells]
    | some a => simp [Builtin.firstCells, loadCells, loadCellsFrom]
  | im es =>
    cases h with
    | im h =>
      cases h with
      | row0 base cap =>
        refine ⟨base, cap, [], rfl, ⟨by simp, fun i h => absurd h (Nat.not_lt_zero _), fun i h => absurd h (Nat.not_lt_zero _)⟩, fun w2 hw2 => ?_⟩
        cases base with
        | none => simp [Builtin.firstCells]
        | some a => simp [Builtin.firstCells, loadCells, loadCellsFrom]
      | @row sz' _ b off nn cap u hnn hI hl hs hcells hreps =>
        subst hnn
        refine ⟨_, cap, (List.range (es.length * sz)).map fun m => (w.cell? ⟨b, off + m, none⟩).getD undef, rfl, ⟨by simp, fun i h => hsz _ (List.getElem_mem h), fun i hi j hj => ?_⟩, fun w2 hw2 => ?_⟩
        · have h1 : sz' = sz := by rw [← hs i hi]; exact hsz _ (List.getElem_mem hi)
          subst h1
          have hjs : j < sz' := by rw [← hs i hi]; exact hj
          refine ⟨u i j, ?_, hreps i hi j hj⟩
          rw [List.getElem?_map, List.getElem?_range (idx_lt hi hjs)]
          simp [hcells i j hi hjs]
        · simp only [Builtin.firstCells]
          refine run_loadCells (fun m hm => ?_)
          rw [hcell2 w2 hw2]
          have hsz0 : 0 < sz := by
            rcases Nat.eq_zero_or_pos sz with h0 | h0
            · rw [h0, Nat.mul_zero] at hm; omega
            · exact h0
          have hi : m / sz < es.length := by rw [Nat.div_lt_iff_lt_mul hsz0]; exact hm
          have hj : m % sz < sz := Nat.mod_lt _ hsz0
          have h1 : sz' = sz := by rw [← hs _ hi]; exact hsz _ (List.getElem_mem hi)
          subst h1
          have := hcells (m / sz') (m % sz') hi hj
          rw [show m / sz' * sz' + m % sz' = m from by rw [Nat.mul_comm]; exact Nat.div_add_mod m sz'] at this
          rw [this]; rfl
  | own k sz' el es hk ho =>
    have ho2 := hinv.objs k _ ((hobj k hk).trans ho)
    obtain rfl := hksz k sz' el es rfl ho
    cases h with
    | own0 base e =>
      simp only [OAt, e] at ho2
      obtain ⟨_, _, e'⟩ := ho2
      simp at e'
      obtain ⟨_, _, rfl⟩ := e'
      refine ⟨base, 0, [], rfl, ⟨by simp, fun i h => absurd h (Nat.not_lt_zero _), fun i h => absurd h (Nat.not_lt_zero _)⟩, fun w2 hw2 => ?_⟩
      cases base with
      | none => simp [Builtin.firstCells]
      | some a => simp [Builtin.firstCells, loadCells, loadCellsFrom]
    | @own _ ki e =>
      obtain ⟨arr, h1, h2, h3, h4, h5, hfl⟩ := row_flat ho2 e
      refine ⟨_, ki.cap, _, by rw [h3], hfl, fun w2 hw2 => ?_⟩
      simp only [Builtin.firstCells]
      have hle : es.length * sz' ≤ arr.size := by rw [h2]; exact Nat.mul_le_mul_right _ h5
      rw [run_loadCells (u := fun m => arr[m]?.getD undef) (fun m hm => by
        have : m < arr.size := by omega
        rw [hcell2 w2 hw2, cell_of h1, Nat.zero_add]; simp [this])]
      congr 2
      apply List.ext_getElem?
      intro m
      rw [List.getElem?_map, List.getElem?_take]
      by_cases hm : m < es.length * sz'
      · rw [List.getElem?_range hm, if_pos hm]
        have : m < arr.size := by omega
        simp [this]
      · rw [if_neg hm, List.getElem?_eq_none (by rw [List.length_range]; omega)]; rfl

theorem zeroCells_size (z : Array Value) (n : Nat) : (Builtin.zeroCells z n).size = n * z.size := by simp [Builtin.zeroCells]

/-- What a grown row is made of. -/
theorem ORep.ofFlat {w : World} {I : Nat → Prop} {κ : Nat → Option KI} {ki : KI} {sz el : Nat} {es : List (List Im)} {vs rest : List Value} (hb : w.heap[ki.b]? = some (.cells (vs ++ rest).toArray el (0, 0)))
    (h : Flat w I sz es vs) (hsz : ki.sz = sz) (hlen : ki.len = es.length) (hcap : es.length ≤ ki.cap) (hall : (vs ++ rest).length = ki.cap * sz) : ORep w I κ ki (.row sz el es) := by
  refine ⟨hsz, hlen, hcap, (vs ++ rest).toArray, hb, by simpa using hall, fun i hi => ⟨h.el i hi, fun j hj => ?_⟩⟩
  obtain ⟨v, e, r⟩ := h.at_ i hi j hj
  have hjs : j < sz := by rw [← h.el i hi]; exact hj
  refine ⟨v, ?_, r⟩
  simp only [List.getElem?_toArray]
  rw [List.getElem?_append_left (by rw [h.len]; exact idx_lt hi hjs)]; exact e

def bytesP (P : Program) (e : TypeId) : Option (Nat × Nat) :=
  match P.info? e with
  | some i => match i.zero with
    | some z => match Nat.beq z.cells.size i.size with
      | true => some (i.bytes, i.size)
      | false => none
    | none => none
  | none => none
theorem bytesP_inv {P : Program} {e : TypeId} {by_ sz : Nat} (h : bytesP P e = some (by_, sz)) : ∃ i z, P.info? e = some i ∧ i.zero = some z ∧ i.bytes = by_ ∧ i.size = sz ∧ z.cells.size = sz := by
  unfold bytesP at h
  split at h
  · rename_i i hi
    split at h
    · rename_i z hz
      split at h
      · rename_i hb
        simp at h; obtain ⟨rfl, rfl⟩ := h
        exact ⟨i, z, hi, hz, rfl, rfl, Nat.eq_of_beq_eq_true hb⟩
      · simp at h
    · simp at h
  · simp at h

def storeA (base : Option Addr) (off : Nat) (news : List Value) : Sem Unit := match base with
  | some a => storeCells (a.add off) news
  | none => pure ()

def notInt (P : Program) (ts : Array TypeId) : Bool := match ts[1]? with
  | none => true
  | some t => match P.underlying t with
    | some (.int _) => false
    | some _ => true
    | none => false

theorem run_append_fit {P : Program} {st e : TypeId} {ts : Array TypeId} {ty : TypeId} {sz by_ : Nat} (hts : ts[0]? = some st) (hts2 : notInt P ts = true)
    (hel : P.underlying st = some (.slice e)) (hby : bytesP P e = some (by_, sz)) {base : Option Addr} {n c m : Nat} {xv : Value} {news : List Value} {w w' : World}
    (hxlen : (Builtin.lenOf xv).run P w = .ok m w) (hx : (Builtin.firstCells sz m xv).run P w = .ok news.toArray w) (hfit : n + m ≤ c) (hst : (storeA base (n * sz) news).run P w = .ok () w') :
    (Builtin.append_ ts ty #[.slice base n c, xv]).run P w = .ok (.slice base (n + m) c) w' := by
  obtain ⟨i, z, hi, hz, rfl, rfl, _⟩ := bytesP_inv hby
  unfold notInt at hts2
  cases h1 : ts[1]? with
  | none =>
    cases base with
    | none =>
      simp only [storeA, Sem.run_pure, Result.ok.injEq, true_and] at hst
      subst hst
      simp [Builtin.append_, hts, h1, run_underlying' hel, sizeOf, run_typeInfo' hi, hxlen, hfit, hx]
    | some a =>
      simp only [storeA] at hst
      simp [Builtin.append_, hts, h1, run_underlying' hel, sizeOf, run_typeInfo' hi, hxlen, hfit, hx, hst]
  | some t =>
    rw [h1] at hts2
    simp only at hts2
    cases hd : P.underlying t with
    | none => rw [hd] at hts2; simp at hts2
    | some d =>
      have hm : (match d with | .int _ => true | _ => false) = false := by rw [hd] at hts2; cases d <;> simp_all
      cases base with
      | none =>
        simp only [storeA, Sem.run_pure, Result.ok.injEq, true_and] at hst
        subst hst
        simp [Builtin.append_, hts, h1, run_underlying' hel, sizeOf, run_typeInfo' hi, hxlen, hfit, hx, run_underlying' hd]
        cases d <;> simp_all
      | some a =>
        simp only [storeA] at hst
        simp [Builtin.append_, hts, h1, run_underlying' hel, sizeOf, run_typeInfo' hi, hxlen, hfit, hx, hst, run_underlying' hd]
        cases d <;> simp_all

set_option maxHeartbeats 2000000 in
theorem run_append_grow' {P : Program} {st e : TypeId} {ts : Array TypeId} {ty : TypeId} {sz by_ : Nat} (hts : ts[0]? = some st) (hts2 : notInt P ts = true)
    (hel : P.underlying st = some (.slice e)) (hby : bytesP P e = some (by_, sz)) (hb0 : 0 < by_) {base : Option Addr} {n c m : Nat} {xv : Value} {olds news : List Value} {w : World}
    (hxlen : (Builtin.lenOf xv).run P w = .ok m w) (hx : (Builtin.firstCells sz m xv).run P w.drew = .ok news.toArray w.drew) (ho : (Builtin.firstCells sz n (.slice base n c)).run P w.drew = .ok olds.toArray w.drew)
    (hgrow : c < n + m) (hroom : (n + m) * by_ ≤ 140737488355328) :
    ∃ cap rest, n + m ≤ cap ∧ rest.length = (cap - (n + m)) * sz ∧ (Builtin.append_ ts ty #[.slice base n c, xv]).run P w = .ok (.slice (some ⟨w.heap.size, 0, none⟩) (n + m) cap) (World.alloc' w.drew (.cells (olds ++ news ++ rest).toArray e)) := by
  obtain ⟨i, z, hi, hz, rfl, rfl, hzs⟩ := bytesP_inv hby
  have h48 := growslice_fits hgrow hroom
  have h48' : ¬ (281474976710656 < Builtin.nextslicecap (n + m) c * i.bytes) := by omega
  have hnf : ¬ (n + m ≤ c) := by omega
  have hb : i.bytes ≠ 0 := by omega
  have h63 : ¬ (9223372036854775807 < ((n : Int) + (m : Int))) := by
    have : n + m ≤ (n + m) * i.bytes := Nat.le_mul_of_pos_right _ (by omega)
    omega
  let cap := (Question.appendCap (n + m) c e).cut (w.tape w.drawn (.appendCap (n + m) c e))
  have hcap : n + m ≤ cap := by simp only [cap, Question.cut]; omega
  refine ⟨cap, (Builtin.zeroCells z.cells (cap - (n + m))).toList, hcap, by simp [zeroCells_size, hzs], ?_⟩
  have hask : ∀ (k : Nat) (w : World), (askRoom k).run P w = .ok () w := by
    intro k w; unfold askRoom; split <;> simp [mark, Sem.run]
  unfold notInt at hts2
  have hfin : ∀ l : Array Value, l = (olds ++ news ++ (Builtin.zeroCells z.cells (cap - (n + m))).toList).toArray → w.drew.alloc (.cells l e) = World.alloc' w.drew (.cells (olds ++ news ++ (Builtin.zeroCells z.cells (cap - (n + m))).toList).toArray e) := by
    intro l hl; subst hl; rfl
  cases h1 : ts[1]? with
  | none =>
    rw [← hfin _ rfl]
    simp [Builtin.append_, hts, h1, run_underlying' hel, sizeOf, run_typeInfo' hi, hxlen, hnf, hx, ho, hb, h63, h48', choose, Sem.run, Question.forced, hask, zeroValue, hz, newRow, newObj, cap]
    refine congrArg (fun l => w.drew.alloc (.cells l e)) ?_
    rw [← Array.toList_inj]; simp
  | some t =>
    rw [h1] at hts2
    simp only at hts2
    cases hd : P.underlying t with
    | none => rw [hd] at hts2; simp at hts2
    | some d =>
      rw [hd] at hts2
      rw [← hfin _ rfl]
      cases d <;> first
        | (simp at hts2; done)
        | (simp [Builtin.append_, hts, h1, run_underlying' hel, sizeOf, run_typeInfo' hi, hxlen, hnf, hx, ho, hb, h63, h48', choose, Sem.run, Question.forced, hask, zeroValue, hz, newRow, newObj, cap, run_underlying' hd]
           refine congrArg (fun l => w.drew.alloc (.cells l e)) ?_
           rw [← Array.toList_inj]; simp)


theorem setBlock_self {w : World} {b : Nat} {o : Obj} (h : w.heap[b]? = some o) : World.setBlock w b o = w := by
  obtain ⟨hb, he⟩ := Array.getElem?_eq_some_iff.1 h
  have : w.heap.setIfInBounds b o = w.heap := by
    apply Array.ext
    · simp
    · intro i h1 h2
      by_cases e : b = i
      · subst e; simp [he]
      · have : (w.heap.setIfInBounds b o)[i]? = w.heap[i]? := by rw [Array.getElem?_setIfInBounds, if_neg e]
        rw [Array.getElem?_eq_getElem h1, Array.getElem?_eq_getElem h2] at this
        exact Option.some.inj this
  unfold World.setBlock
  rw [this]

theorem run_storeCells0 {P : Program} {b : Nat} {el : TypeId} (vs : List Value) (w : World) (arr : Array Value) (off : Nat) (h : w.heap[b]? = some (.cells arr el (0, 0))) (hs : off + vs.length ≤ arr.size)
    (hl : ∀ v ∈ vs, leafV v = true) : (storeCells ⟨b, off, none⟩ vs 0).run P w = .ok () (World.setBlock w b (.cells (setMany arr off vs) el (0, 0))) := by
  cases vs with
  | nil => simp [storeCells, setMany, setBlock_self h]
  | cons v r => exact run_storeCells (v :: r) w arr off 0 h hs hl (by simp)

theorem keys_obj {s : AState} {k : Nat} {o : MObj} {l : List (Nat × Option MObj)} : s.objput ((k, some o) :: l) = (s.objput l).objput [(k, some o)] := rfl

theorem fresh_kill {s : AState} {k : Nat} {l : List (Nat × Option MObj)} (h : s.fresh k) (hl : ∀ p ∈ l, p.2 = none) : (s.objput l).fresh k := by
  have hobj : ∀ k', (s.objput l).obj k' = s.obj k' ∨ (s.objput l).obj k' = none := by
    intro k'
    rw [AState.obj_objput]
    cases e : look l k' with
    | none => exact .inl rfl
    | some v => have := hl _ (look_mem e); simp only at this; subst this; exact .inr rfl
  refine ⟨h.1, fun k' o ho => ?_, ?_, h.2.2.2⟩
  · rcases hobj k' with e | e <;> rw [e] at ho
    · exact h.2.1 k' o ho
    · simp at ho
  · rcases hobj k with e | e <;> rw [e]
    exact h.2.2.1

theorem flat_leaf {w : World} {I : Nat → Prop} {sz : Nat} {es : List (List Im)} {vs : List Value} (h : Flat w I sz es vs) (hl : ∀ c ∈ es, leaves (c.map .im) = true) : ∀ v ∈ vs, leafV v = true := by
  intro v hv
  obtain ⟨m, hm, rfl⟩ := List.mem_iff_getElem.1 hv
  have hlen := h.len
  have hsz0 : 0 < sz := by
    rcases Nat.eq_zero_or_pos sz with h0 | h0
    · rw [h0, Nat.mul_zero] at hlen; omega
    · exact h0
  have hi : m / sz < es.length := by rw [Nat.div_lt_iff_lt_mul hsz0]; omega
  have hj : m % sz < (es[m / sz]).length := by rw [h.el]; exact Nat.mod_lt _ hsz0
  obtain ⟨v, e, r⟩ := h.at_ _ hi _ hj
  rw [show m / sz * sz + m % sz = m from by rw [Nat.mul_comm]; exact Nat.div_add_mod m sz, List.getElem?_eq_getElem hm] at e
  rw [Option.some.inj e]
  have hc := hl _ (List.getElem_mem hi)
  have hlf := leaves_get hc (m % sz) (by simpa using hj)
  rw [List.getElem_map] at hlf
  exact leaf_rep (w := w) (I := I) (κ := fun _ => none) (.im r) hlf

/-- What comes of an append: a row of its own under a new key; the elder key is dead. -/
theorem append_core {P : Program} {Γ : Ctx} {κ : Nat → Option KI} {I : Nat → Prop} {s : AState} {w : World} {st e : TypeId} {ts : Array TypeId} {sz by_ : Nat} {old new : List (List Im)} {sv xv : Value} {news : List Value} {k2 : Nat} {kold : List Nat} {ty : TypeId}
    (hinv : Inv Γ κ I s w) (hf : s.fresh k2) (hts : ts[0]? = some st) (hts2 : notInt P ts = true) (hel : P.underlying st = some (.slice e)) (hby : bytesP P e = some (by_, sz)) (hb0 : 0 < by_)
    (hold : (∃ base, sv = .slice base 0 0 ∧ old = [] ∧ kold = []) ∨ ∃ k, kold = [k] ∧ s.obj k = some (.row sz e old) ∧ Rep w I κ (.own k) sv)
    (hxlen : ∀ w2 : World, w2.heap = w.heap → (Builtin.lenOf xv).run P w2 = .ok new.length w2) (hxcells : ∀ w2 : World, w2.heap = w.heap → (Builtin.firstCells sz new.length xv).run P w2 = .ok news.toArray w2)
    (hfl : Flat w I sz new news) (hleaf : ∀ v ∈ news, leafV v = true) (hroom : (old.length + new.length) * by_ ≤ 140737488355328) :
    ∃ v w' κ', (Builtin.append_ ts ty #[sv, xv]).run P w = .ok v w' ∧ Inv Γ κ' I (s.objput ((k2, some (.row sz e (old ++ new))) :: kold.map (·, none))) w' ∧ (∀ b, I b → w'.heap[b]? = w.heap[b]?) ∧
      (∀ x k, (s.get x).has k = true → κ' k = κ k) ∧ Rep w' I κ' (.own k2) v := by
  have hk0 : ∀ p ∈ kold.map (fun k => (k, (none : Option MObj))), p.2 = none := by
    intro p hp; obtain ⟨k, _, rfl⟩ := List.mem_map.1 hp; rfl
  have hinvk := hinv.kill _ hk0
  have hfk := fresh_kill hf hk0
  -- a new block
  have grown : ∀ (base : Option Addr) (n c : Nat) (olds : List Value), sv = .slice base n c → n = old.length → c < n + new.length → (∀ w2 : World, w2.heap = w.heap → (Builtin.firstCells sz n (.slice base n c)).run P w2 = .ok olds.toArray w2) →
      Flat w I sz old olds → ∃ v w' κ', (Builtin.append_ ts ty #[sv, xv]).run P w = .ok v w' ∧ Inv Γ κ' I (s.objput ((k2, some (.row sz e (old ++ new))) :: kold.map (·, none))) w' ∧ (∀ b, I b → w'.heap[b]? = w.heap[b]?) ∧
      (∀ x k, (s.get x).has k = true → κ' k = κ k) ∧ Rep w' I κ' (.own k2) v := by
    intro base n c olds hsv hn hgrow ho hfo
    subst hn
    obtain ⟨cap, rest, hcap, hrest, hrun⟩ := run_append_grow' (ty := ty) hts hts2 hel hby hb0 (hxlen w rfl) (hxcells w.drew rfl) (ho w.drew rfl) hgrow hroom
    let ki : KI := ⟨w.heap.size, cap, sz, old.length + new.length⟩
    have hdrew : Inv Γ κ I (s.objput (kold.map (·, none))) w.drew := by
      refine ⟨fun k o hk => ?_, hinvk.inj, hinvk.disj, hinvk.bound, ⟨hinvk.keep.os, hinvk.keep.tape, hinvk.keep.output, hinvk.keep.size, hinvk.keep.block⟩, hinvk.ikeep, hinvk.fromI, hinvk.fromO, hinvk.fix⟩
      have := hinvk.objs k o hk
      unfold OAt at this ⊢
      split
      · rename_i e'; rw [e'] at this; exact this
      · rename_i ki' e'; rw [e'] at this; exact this.mono (fun _ h => h) (fun _ _ => rfl) rfl (fun _ _ => rfl)
    have hfl2 : Flat (World.alloc' w.drew (.cells (olds ++ news ++ rest).toArray e)) I sz (old ++ new) (olds ++ news) :=
      (hfo.append hfl).mono (fun _ h => h) (fun b hb => alloc_get _ _ _ (hdrew.bound b hb))
    have hO : ORep (World.alloc' w.drew (.cells (olds ++ news ++ rest).toArray e)) I (setK κ k2 (some ki)) ki (.row sz e (old ++ new)) :=
      ORep.ofFlat (alloc_new w.drew _) hfl2 rfl (by simp [ki]) (by simpa [ki] using hcap) (by
        rw [List.length_append, hfl2.len, hrest, ← Nat.add_mul]; simp only [ki, List.length_append]; congr 1; omega)
    obtain ⟨g1, g2, g3⟩ := hdrew.alloc hfk (ki := ki) rfl hO
    refine ⟨_, _, setK κ k2 (some ki), by rw [hsv]; exact hrun, g1, g2, fun x k hx => g3 x k hx, ?_⟩
    exact Rep.own (k := k2) (ki := ki) (setK_self ..)
  rcases hold with ⟨base, rfl, rfl, rfl⟩ | ⟨k, rfl, hobj, hrep⟩
  · by_cases hnew : new = []
    · subst hnew
      have hn0 : news = [] := by have := hfl.len; simpa using this
      subst hn0
      obtain ⟨g1, g2⟩ := hinv.emptyRow (sz := sz) (el := e) hf
      refine ⟨.slice base 0 0, w, setK κ k2 none, ?_, g1, fun _ _ => rfl, g2, .own0 base (setK_self ..)⟩
      exact run_append_fit (n := 0) (c := 0) (m := 0) hts hts2 hel hby (hxlen w rfl) (hxcells w rfl) (Nat.le_refl _) (by cases base <;> simp [storeA, storeCells])
    · have hpos : 0 < new.length := by cases new with | nil => simp at hnew | cons => simp
      exact grown base 0 0 [] rfl rfl (by omega) (fun w2 _ => by cases base <;> simp [Builtin.firstCells, loadCells, loadCellsFrom]) ⟨by simp, fun i h => absurd h (Nat.not_lt_zero _), fun i h => absurd h (Nat.not_lt_zero _)⟩
  · have hO := hinv.objs k _ hobj
    cases hrep with
    | own0 base eκ =>
      simp only [OAt, eκ] at hO
      obtain ⟨_, _, e'⟩ := hO
      simp at e'
      obtain ⟨_, _, rfl⟩ := e'
      by_cases hnew : new = []
      · subst hnew
        have hn0 : news = [] := by have := hfl.len; simpa using this
        subst hn0
        obtain ⟨g1, g2⟩ := hinvk.emptyRow (sz := sz) (el := e) hfk
        refine ⟨.slice base 0 0, w, setK κ k2 none, ?_, g1, fun _ _ => rfl, fun x k hx => g2 x k hx, .own0 base (setK_self ..)⟩
        exact run_append_fit (n := 0) (c := 0) (m := 0) hts hts2 hel hby (hxlen w rfl) (hxcells w rfl) (Nat.le_refl _) (by cases base <;> simp [storeA, storeCells])
      · have hpos : 0 < new.length := by cases new with | nil => simp at hnew | cons => simp
        exact grown base 0 0 [] rfl rfl (by omega) (fun w2 _ => by cases base <;> simp [Builtin.firstCells, loadCells, loadCellsFrom]) ⟨by simp, fun i h => absurd h (Nat.not_lt_zero _), fun i h => absurd h (Nat.not_lt_zero _)⟩
    | @own _ ki eκ =>
      obtain ⟨arr, h1, h2, h3, h4, h5, hfo⟩ := row_flat hO eκ
      have hle : old.length * sz ≤ arr.size := by rw [h2]; exact Nat.mul_le_mul_right _ h5
      by_cases hfit : old.length + new.length ≤ ki.cap
      · let ki' : KI := ⟨ki.b, ki.cap, sz, old.length + new.length⟩
        have hsz2 : old.length * sz + news.length ≤ arr.size := by rw [h2, hfl.len, ← Nat.add_mul]; exact Nat.mul_le_mul_right _ hfit
        have hst := run_storeCells0 (P := P) news w arr (old.length * sz) h1 hsz2 hleaf
        have hbl : ki.b < w.heap.size := (Array.getElem?_eq_some_iff.1 h1).1
        have hne : ∀ b, I b → (World.setBlock w ki.b (.cells (setMany arr (old.length * sz) news) e (0, 0))).heap[b]? = w.heap[b]? := fun b hb' => by
          rw [setBlock_get _ _ _ _ hbl, if_neg]
          rintro rfl
          exact hinv.disj k _ ki hobj eκ hb'
        have hflall := (hfo.append hfl).mono (I' := I) (fun _ h => h) hne
        have hO' : ORep (World.setBlock w ki.b (.cells (setMany arr (old.length * sz) news) e (0, 0))) I (setK κ k2 (some ki')) ki' (.row sz e (old ++ new)) := by
          refine ⟨rfl, by simp [ki'], by simpa [ki'] using hfit, setMany arr (old.length * sz) news, by rw [setBlock_get _ _ _ _ hbl, if_pos rfl], by rw [setMany_size]; exact h2, fun i hi => ⟨hflall.el i hi, fun j hj => ?_⟩⟩
          obtain ⟨v, e', r⟩ := hflall.at_ i hi j hj
          have hjs : j < sz := by rw [← hflall.el i hi]; exact hj
          refine ⟨v, ?_, r⟩
          rw [setMany_get _ _ _ _ hsz2]
          have hlt := idx_lt hi hjs
          rw [List.length_append, Nat.add_mul] at hlt
          by_cases hin : old.length * sz ≤ i * sz + j
          · rw [if_pos ⟨hin, by rw [hfl.len]; exact hlt⟩]
            rw [List.getElem?_append_right (by simp; omega)] at e'
            rw [← e']; congr 1; simp; omega
          · rw [if_neg (by omega)]
            rw [List.getElem?_append_left (by simp; omega), List.getElem?_take, if_pos (by omega)] at e'
            simpa using e'
        obtain ⟨g1, g2, g3⟩ := hinv.move hobj eκ hf (ki' := ki') rfl hO'
        refine ⟨.slice (some ⟨ki.b, 0, none⟩) (ki.len + new.length) ki.cap, _, setK κ k2 (some ki'), ?_, g1, g2, g3, ?_⟩
        · exact run_append_fit hts hts2 hel hby (hxlen w rfl) (hxcells w rfl) (by omega) (by simp only [storeA, addr_add, Nat.zero_add, h3]; exact hst)
        · have := Rep.own (w := World.setBlock w ki.b (.cells (setMany arr (old.length * sz) news) e (0, 0))) (I := I) (κ := setK κ k2 (some ki')) (k := k2) (ki := ki') (setK_self ..)
          rw [h3]; exact this
      · refine grown (some ⟨ki.b, 0, none⟩) ki.len ki.cap (arr.toList.take (old.length * sz)) rfl h3 (by omega) (fun w2 hw2 => ?_) hfo
        simp only [Builtin.firstCells]
        rw [run_loadCells (u := fun m => arr[m]?.getD undef) (fun m hm => by
          have hm2 : m < arr.size := by rw [h3] at hm; omega
          have : w2.cell? ⟨ki.b, 0 + m, none⟩ = w.cell? ⟨ki.b, 0 + m, none⟩ := by unfold World.cell?; rw [hw2]
          rw [this, cell_of h1, Nat.zero_add]; simp [hm2])]
        congr 2
        apply List.ext_getElem?
        intro m
        rw [List.getElem?_map, List.getElem?_take, h3]
        by_cases hm : m < old.length * sz
        · rw [List.getElem?_range hm, if_pos hm]
          have : m < arr.size := by omega
          simp [this]
        · rw [if_neg hm, List.getElem?_eq_none (by rw [List.length_range]; omega)]; rfl

/-- append(x, y...): x empty or a row of the call's own, y a slice. -/
theorem ok_append {P : Program} {o : Oper} {s : AState} {x y : Operand} {ts : Array TypeId} {st e : TypeId} {sz by_ : Nat} {old new : List (List Im)} {xa ya : AVal} (k2 : Nat) (kold skeys : List Nat)
    (ho : o.op = .call { callee := .builtin .append, args := #[x, y], argTypes := ts }) (hts : ts[0]? = some st) (hts2 : notInt P ts = true) (hel : P.underlying st = some (.slice e)) (hby : bytesP P e = some (by_, sz)) (hb0 : 0 < by_)
    (hx : s.eval x = xa) (hy : s.eval y = ya) (hold : (xa = .none0 ∧ old = [] ∧ kold = []) ∨ ∃ k, xa = .own k ∧ kold = [k] ∧ s.obj k = some (.row sz e old))
    (hsrc : Src s skeys ya new) (hsz : ∀ c ∈ new, c.length = sz) (hksz : ∀ k sz' el es', ya = .own k → s.obj k = some (.row sz' el es') → sz' = sz) (hleaf : ∀ c ∈ new, leaves (c.map .im) = true)
    (hroom : (old.length + new.length) * by_ ≤ 140737488355328) :
    OpOK P o (mkSp s o (kold ++ skeys) [k2] (.own k2) ((k2, some (.row sz e (old ++ new))) :: kold.map (·, none))) :=
  .of fun Γ κ I s2 a w hP hr hn hf => by
    have hfk := hf k2 (by simp [mkSp])
    have g1 := opd hr hn x (by simp [ho, Op.operands, Call.operands]) hx
    have g2 := opd hr hn y (by simp [ho, Op.operands, Call.operands]) hy
    obtain ⟨base, cap, news, hyv, hfl, hcells⟩ := src_cells (P := P) hr.inv (fun k hk => needs_obj hn k (by simp [hk])) hsrc g2 hsz hksz
    obtain ⟨v, w', κ', h1, h2, h3, h4, h5⟩ := append_core (P := P) (ts := ts) (ty := o.type) (sv := a.eval x) (xv := a.eval y) (news := news) (kold := kold) hr.inv hfk hts hts2 hel hby hb0 (by
      rcases hold with ⟨rfl, rfl, rfl⟩ | ⟨k, rfl, rfl, hk⟩
      · obtain ⟨base, e⟩ := none0_inv g1; exact .inl ⟨base, e, rfl, rfl⟩
      · exact .inr ⟨k, rfl, (needs_obj hn k (by simp)).trans hk, g1⟩) (fun w2 _ => by rw [hyv]; simp [Builtin.lenOf]) hcells hfl (flat_leaf hfl hleaf) hroom
    exact ⟨v, _, w', κ', I, .inl rfl, by simp [execOp, ho, resolve, invoke, builtin, h1], h2, fun _ h => h, h3, h4, h5⟩

end Go.Pv
