import Derived.Laws.Append
import Derived.Test.YtppfbpckgfkhfaaGreatDoorPxReportNames01
set_option linter.unusedVariables false
set_option linter.unusedSimpArgs false
namespace Go.Pv
structure Flat (w : World) (I : Nat → Prop) (sz : Nat) (es : List (List Im)) (vs : List Value) : Prop where
  len : vs.length = es.length * sz
  el : ∀ i (h : i < es.length), (es[i]).length = sz
  at_ : ∀ i (h : i < es.length) j (h' : j < (es[i]).length), ∃ v, vs[i * sz + j]? = some v ∧ IRep w I ((es[i])[j]) v
theorem idx_lt {i j n sz : Nat} (hi : i < n) (hj : j < sz) : i * sz + j < n * sz := by
  have : (i + 1) * sz ≤ n * sz := Nat.mul_le_mul_right _ hi
  rw [Nat.add_mul] at this; omega
theorem Flat.append {w : World} {I : Nat → Prop} {sz : Nat} {es fs : List (List Im)} {us vs : List Value} (h : Flat w I sz es us) (h' : Flat w I sz fs vs) : Flat w I sz (es ++ fs) (us ++ vs) := by
  refine ⟨by simp [h.len, h'.len, Nat.add_mul], fun i hi => ?_, fun i hi j hj => ?_⟩
  · by_cases hlt : i < es.length
    · rw [List.getElem_append_left hlt]; exact h.el i hlt
    · rw [List.getElem_append_right (by omega)]; exact h'.el _ _
  · by_cases hlt : i < es.length
    · simp only [List.getElem_append_left hlt] at hj ⊢
      obtain ⟨v, e, r⟩ := h.at_ i hlt j hj
      have hjs : j < sz := by rw [← h.el i hlt]; exact hj
      exact ⟨v, by rw [List.getElem?_append_left (by rw [h.len]; exact idx_lt hlt hjs)]; exact e, r⟩
    · simp only [List.getElem_append_right (Nat.le_of_not_lt hlt)] at hj ⊢
      simp only [List.length_append] at hi
      obtain ⟨v, e, r⟩ := h'.at_ (i - es.length) (by omega) j hj
      refine ⟨v, ?_, r⟩
      rw [List.getElem?_append_right (by rw [h.len]; have := Nat.mul_le_mul_right sz (Nat.le_of_not_lt hlt); omega), h.len]
      rw [show i * sz + j - es.length * sz = (i - es.length) * sz + j from by rw [Nat.sub_mul]; have := Nat.mul_le_mul_right sz (Nat.le_of_not_lt hlt); omega]
      exact e
theorem Flat.mono {w w' : World} {I I' : Nat → Prop} {sz : Nat} {es : List (List Im)} {vs : List Value} (h : Flat w I sz es vs) (hI : ∀ b, I b → I' b) (hw : ∀ b, I b → w'.heap[b]? = w.heap[b]?) :
    Flat w' I' sz es vs := ⟨h.len, h.el, fun i hi j hj => let ⟨v, e, r⟩ := h.at_ i hi j hj; ⟨v, e, r.mono hI hw⟩⟩
inductive Src (s : AState) (keys : List Nat) : AVal → List (List Im) → Prop
  | im (es : List (List Im)) : Src s keys (.im (.row es)) es
  | none0 : Src s keys .none0 []
  | own (k sz el : Nat) (es : List (List Im)) (hk : k ∈ keys) (ho : s.obj k = some (.row sz el es)) : Src s keys (.own k) es
theorem row_flat {w : World} {I : Nat → Prop} {κ : Nat → Option KI} {k sz el : Nat} {es : List (List Im)} {ki : KI} (ho : OAt w I κ k (.row sz el es)) (hκ : κ k = some ki) :
    ∃ arr : Array Value, w.heap[ki.b]? = some (.cells arr el (0, 0)) ∧ arr.size = ki.cap * sz ∧ ki.len = es.length ∧ ki.sz = sz ∧ es.length ≤ ki.cap ∧ Flat w I sz es (arr.toList.take (es.length * sz)) := by
  simp only [OAt, hκ, ORep] at ho
  obtain ⟨h1, h2, h3, arr, h4, h5, h6⟩ := ho
  have hle : es.length * sz ≤ arr.size := by rw [h5]; exact Nat.mul_le_mul_right _ h3
  refine ⟨arr, h4, h5, h2, h1, h3, by simp; omega, fun i hi => (h6 i hi).1, fun i hi j hj => ?_⟩
  obtain ⟨v, e, r⟩ := (h6 i hi).2 j hj
  have hjs : j < sz := by rw [← (h6 i hi).1]; exact hj
  refine ⟨v, ?_, r⟩
  rw [List.getElem?_take, if_pos (idx_lt hi hjs)]
  simpa using e
theorem src_cells {P : Program} {Γ : Ctx} {κ : Nat → Option KI} {I : Nat → Prop} {s s2 : AState} {w : World} {keys : List Nat} {x : AVal} {v : Value} {es : List (List Im)} {sz : Nat}
    (hinv : Inv Γ κ I s2 w) (hobj : ∀ k ∈ keys, s2.obj k = s.obj k) (hs : Src s keys x es) (h : Rep w I κ x v) (hsz : ∀ c ∈ es, c.length = sz) (hksz : ∀ k sz' el es', x = .own k → s.obj k = some (.row sz' el es') → sz' = sz) :
    ∃ base cap vs, v = .slice base es.length cap ∧ Flat w I sz es vs ∧ ∀ w2 : World, w2.heap = w.heap → (Builtin.firstCells sz es.length v).run P w2 = .ok vs.toArray w2 := by
  have hcell2 : ∀ (w2 : World), w2.heap = w.heap → ∀ a, w2.cell? a = w.cell? a := fun w2 h a => by unfold World.cell?; rw [h]
  cases hs with
  | none0 =>
    obtain ⟨base, rfl⟩ := none0_inv h
    refine ⟨base, 0, [], rfl, ⟨by simp, fun i h => absurd h (Nat.not_lt_zero _), fun i h => absurd h (Nat.not_lt_zero _)⟩, fun w2 hw2 => ?_⟩
    cases base with
    | none => simp [Builtin.firstCells]
    | some a => simp [Builtin.firstCells, loadCells, loadCellsFrom]
  | im es =>
    cases h with
    | im h =>
      cases h with
      | row0 base cap =>
        refine ⟨base, cap, [], rfl, ⟨by simp, fun i h => absurd h (Nat.not_lt_zero _), fun i h => absurd h (Nat.not_lt_zero _)⟩, fun w2 hw2 => ?_⟩
        cases base with
        | none => simp [Builtin.firstCells]
        | some a => simp [Builtin.firstCells, loadCells, loadCellsFrom]
      | @row sz' _ b off nn cap u hnn hI hl hs hcells hreps =>
        subst hnn
        refine ⟨_, cap, (List.range (es.length * sz)).map fun m => (w.cell? ⟨b, off + m, none⟩).getD undef, rfl, ⟨by simp, fun i h => hsz _ (List.getElem_mem h), fun i hi j hj => ?_⟩, fun w2 hw2 => ?_⟩
        · have h1 : sz' = sz := by rw [← hs i hi]; exact hsz _ (List.getElem_mem hi)
          subst h1
          have hjs : j < sz' := by rw [← hs i hi]; exact hj
          refine ⟨u i j, ?_, hreps i hi j hj⟩
          rw [List.getElem?_map, List.getElem?_range (idx_lt hi hjs)]
          simp [hcells i j hi hjs]
        · simp only [Builtin.firstCells]
          refine run_loadCells (fun m hm => ?_)
          rw [hcell2 w2 hw2]
          have hsz0 : 0 < sz := by
            rcases Nat.eq_zero_or_pos sz with h0 | h0
            · rw [h0, Nat.mul_zero] at hm; omega
            · exact h0
          have hi : m / sz < es.length := by rw [Nat.div_lt_iff_lt_mul hsz0]; exact hm
          have hj : m % sz < sz := Nat.mod_lt _ hsz0
          have h1 : sz' = sz := by rw [← hs _ hi]; exact hsz _ (List.getElem_mem hi)
          subst h1
          have := hcells (m / sz') (m % sz') hi hj
          rw [show m / sz' * sz' + m % sz' = m from by rw [Nat.mul_comm]; exact Nat.div_add_mod m sz'] at this
          rw [this]; rfl
  | own k sz' el es hk ho =>
    have ho2 := hinv.objs k _ ((hobj k hk).trans ho)
    obtain rfl := hksz k sz' el es rfl ho
    cases h with
    | own0 base e =>
      simp only [OAt, e] at ho2
      obtain ⟨_, _, e'⟩ := ho2
      simp at e'
      obtain ⟨_, _, rfl⟩ := e'
      refine ⟨base, 0, [], rfl, ⟨by simp, fun i h => absurd h (Nat.not_lt_zero _), fun i h => absurd h (Nat.not_lt_zero _)⟩, fun w2 hw2 => ?_⟩
      cases base with
      | none => simp [Builtin.firstCells]
      | some a => simp [Builtin.firstCells, loadCells, loadCellsFrom]
    | @own _ ki e =>
      obtain ⟨arr, h1, h2, h3, h4, h5, hfl⟩ := row_flat ho2 e
      refine ⟨_, ki.cap, _, by rw [h3], hfl, fun w2 hw2 => ?_⟩
      simp only [Builtin.firstCells]
      have hle : es.length * sz' ≤ arr.size := by rw [h2]; exact Nat.mul_le_mul_right _ h5
      rw [run_loadCells (u := fun m => arr[m]?.getD undef) (fun m hm => by
        have : m < arr.size := by omega
        rw [hcell2 w2 hw2, cell_of h1, Nat.zero_add]; simp [this])]
      congr 2
      apply List.ext_getElem?
      intro m
      rw [List.getElem?_map, List.getElem?_take]
      by_cases hm : m < es.length * sz'
      · rw [List.getElem?_range hm, if_pos hm]
        have : m < arr.size := by omega
        simp [this]
      · rw [if_neg hm, List.getElem?_eq_none (by rw [List.length_range]; omega)]; rfl
theorem zeroCells_size (z : Array Value) (n : Nat) : (Builtin.zeroCells z n).size = n * z.size := by simp [Builtin.zeroCells]
theorem ORep.ofFlat {w : World} {I : Nat → Prop} {κ : Nat → Option KI} {ki : KI} {sz el : Nat} {es : List (List Im)} {vs rest : List Value} (hb : w.heap[ki.b]? = some (.cells (vs ++ rest).toArray el (0, 0)))
    (h : Flat w I sz es vs) (hsz : ki.sz = sz) (hlen : ki.len = es.length) (hcap : es.length ≤ ki.cap) (hall : (vs ++ rest).length = ki.cap * sz) : ORep w I κ ki (.row sz el es) := by
  refine ⟨hsz, hlen, hcap, (vs ++ rest).toArray, hb, by simpa using hall, fun i hi => ⟨h.el i hi, fun j hj => ?_⟩⟩
  obtain ⟨v, e, r⟩ := h.at_ i hi j hj
  have hjs : j < sz := by rw [← h.el i hi]; exact hj
  refine ⟨v, ?_, r⟩
  simp only [List.getElem?_toArray]
  rw [List.getElem?_append_left (by rw [h.len]; exact idx_lt hi hjs)]; exact e
def bytesP (P : Program) (e : TypeId) : Option (Nat × Nat) :=
  match P.info? e with
  | some i => match i.zero with
    | some z => match Nat.beq z.cells.size i.size with
      | true => some (i.bytes, i.size)
      | false => none
    | none => none
  | none => none
theorem bytesP_inv {P : Program} {e : TypeId} {by_ sz : Nat} (h : bytesP P e = some (by_, sz)) : ∃ i z, P.info? e = some i ∧ i.zero = some z ∧ i.bytes = by_ ∧ i.size = sz ∧ z.cells.size = sz := by
  unfold bytesP at h
  split at h
  · rename_i i hi
    split at h
    · rename_i z hz
      split at h
      · rename_i hb
        simp at h; obtain ⟨rfl, rfl⟩ := h
        exact ⟨i, z, hi, hz, rfl, rfl, Nat.eq_of_beq_eq_true hb⟩
      · simp at h
    · simp at h
  · simp at h
def storeA (base : Option Addr) (off : Nat) (news : List Value) : Sem Unit := match base with
  | some a => storeCells (a.add off) news
  | none => pure ()
def notInt (P : Program) (ts : Array TypeId) : Bool := match ts[1]? with
  | none => true
  | some t => match P.underlying t with
    | some (.int _) => false
    | some _ => true
    | none => false
theorem run_append_fit {P : Program} {st e : TypeId} {ts : Array TypeId} {ty : TypeId} {sz by_ : Nat} (hts : ts[0]? = some st) (hts2 : notInt P ts = true)
    (hel : P.underlying st = some (.slice e)) (hby : bytesP P e = some (by_, sz)) {base : Option Addr} {n c m : Nat} {xv : Value} {news : List Value} {w w' : World}
    (hxlen : (Builtin.lenOf xv).run P w = .ok m w) (hx : (Builtin.firstCells sz m xv).run P w = .ok news.toArray w) (hfit : n + m ≤ c) (hst : (storeA base (n * sz) news).run P w = .ok () w') :
    (Builtin.append_ ts ty #[.slice base n c, xv]).run P w = .ok (.slice base (n + m) c) w' := by
  obtain ⟨i, z, hi, hz, rfl, rfl, _⟩ := bytesP_inv hby
  unfold notInt at hts2
  cases h1 : ts[1]? with
  | none =>
    cases base with
    | none =>
      simp only [storeA, Sem.run_pure, Result.ok.injEq, true_and] at hst
      subst hst
      simp [Builtin.append_, hts, h1, run_underlying' hel, sizeOf, run_typeInfo' hi, hxlen, hfit, hx]
    | some a =>
      simp only [storeA] at hst
      simp [Builtin.append_, hts, h1, run_underlying' hel, sizeOf, run_typeInfo' hi, hxlen, hfit, hx, hst]
  | some t =>
    rw [h1] at hts2
    simp only at hts2
    cases hd : P.underlying t with
    | none => rw [hd] at hts2; simp at hts2
    | some d =>
      have hm : (match d with | .int _ => true | _ => false) = false := by rw [hd] at hts2; cases d <;> simp_all
      cases base with
      | none =>
        simp only [storeA, Sem.run_pure, Result.ok.injEq, true_and] at hst
        subst hst
        simp [Builtin.append_, hts, h1, run_underlying' hel, sizeOf, run_typeInfo' hi, hxlen, hfit, hx, run_underlying' hd]
        cases d <;> simp_all
      | some a =>
        simp only [storeA] at hst
        simp [Builtin.append_, hts, h1, run_underlying' hel, sizeOf, run_typeInfo' hi, hxlen, hfit, hx, hst, run_underlying' hd]
        cases d <;> simp_all
set_option maxHeartbeats 2000000 in
theorem run_append_grow' {P : Program} {st e : TypeId} {ts : Array TypeId} {ty : TypeId} {sz by_ : Nat} (hts : ts[0]? = some st) (hts2 : notInt P ts = true)
    (hel : P.underlying st = some (.slice e)) (hby : bytesP P e = some (by_, sz)) (hb0 : 0 < by_) {base : Option Addr} {n c m : Nat} {xv : Value} {olds news : List Value} {w : World}
    (hxlen : (Builtin.lenOf xv).run P w = .ok m w) (hx : (Builtin.firstCells sz m xv).run P w.drew = .ok news.toArray w.drew) (ho : (Builtin.firstCells sz n (.slice base n c)).run P w.drew = .ok olds.toArray w.drew)
    (hgrow : c < n + m) (hroom : (n + m) * by_ ≤ 140737488355328) :
    ∃ cap rest, n + m ≤ cap ∧ rest.length = (cap - (n + m)) * sz ∧ (Builtin.append_ ts ty #[.slice base n c, xv]).run P w = .ok (.slice (some ⟨w.heap.size, 0, none⟩) (n + m) cap) (World.alloc' w.drew (.cells (olds ++ news ++ rest).toArray e)) := by
  obtain ⟨i, z, hi, hz, rfl, rfl, hzs⟩ := bytesP_inv hby
  have h48 := growslice_fits hgrow hroom
  have h48' : ¬ (281474976710656 < Builtin.nextslicecap (n + m) c * i.bytes) := by omega
  have hnf : ¬ (n + m ≤ c) := by omega
  have hb : i.bytes ≠ 0 := by omega
  have h63 : ¬ (9223372036854775807 < ((n : Int) + (m : Int))) := by
    have : n + m ≤ (n + m) * i.bytes := Nat.le_mul_of_pos_right _ (by omega)
    omega
  let cap := (Question.appendCap (n + m) c e).cut (w.tape w.drawn (.appendCap (n + m) c e))
  have hcap : n + m ≤ cap := by simp only [cap, Question.cut]; omega
  refine ⟨cap, (Builtin.zeroCells z.cells (cap - (n + m))).toList, hcap, by simp [zeroCells_size, hzs], ?_⟩
  have hask : ∀ (k : Nat) (w : World), (askRoom k).run P w = .ok () w := by
    intro k w; unfold askRoom; split <;> simp [mark, Sem.run]
  unfold notInt at hts2
  have hfin : ∀ l : Array Value, l = (olds ++ news ++ (Builtin.zeroCells z.cells (cap - (n + m))).toList).toArray → w.drew.alloc (.cells l e) = World.alloc' w.drew (.cells (olds ++ news ++ (Builtin.zeroCells z.cells (cap - (n + m))).toList).toArray e) := by
    intro l hl; subst hl; rfl
  cases h1 : ts[1]? with
  | none =>
    rw [← hfin _ rfl]
    simp [Builtin.append_, hts, h1, run_underlying' hel, sizeOf, run_typeInfo' hi, hxlen, hnf, hx, ho, hb, h63, h48', choose, Sem.run, Question.forced, hask, zeroValue, hz, newRow, newObj, cap]
    refine congrArg (fun l => w.drew.alloc (.cells l e)) ?_
    rw [← Array.toList_inj]; simp
  | some t =>
    rw [h1] at hts2
    simp only at hts2
    cases hd : P.underlying t with
    | none => rw [hd] at hts2; simp at hts2
    | some d =>
      rw [hd] at hts2
      rw [← hfin _ rfl]
      cases d <;> first
        | (simp at hts2; done)
        | (simp [Builtin.append_, hts, h1, run_underlying' hel, sizeOf, run_typeInfo' hi, hxlen, hnf, hx, ho, hb, h63, h48', choose, Sem.run, Question.forced, hask, zeroValue, hz, newRow, newObj, cap, run_underlying' hd]
           refine congrArg (fun l => w.drew.alloc (.cells l e)) ?_
           rw [← Array.toList_inj]; simp)
theorem setBlock_self {w : World} {b : Nat} {o : Obj} (h : w.heap[b]? = some o) : World.setBlock w b o = w := by
  obtain ⟨hb, he⟩ := Array.getElem?_eq_some_iff.1 h
  have : w.heap.setIfInBounds b o = w.heap := by
    apply Array.ext
    · simp
    · intro i h1 h2
      by_cases e : b = i
      · subst e; simp [he]
      · have : (w.heap.setIfInBounds b o)[i]? = w.heap[i]? := by rw [Array.getElem?_setIfInBounds, if_neg e]
        rw [Array.getElem?_eq_getElem h1, Array.getElem?_eq_getElem h2] at this
        exact Option.some.inj this
  unfold World.setBlock
  rw [this]
theorem run_storeCells0 {P : Program} {b : Nat} {el : TypeId} (vs : List Value) (w : World) (arr : Array Value) (off : Nat) (h : w.heap[b]? = some (.cells arr el (0, 0))) (hs : off + vs.length ≤ arr.size)
    (hl : ∀ v ∈ vs, leafV v = true) : (storeCells ⟨b, off, none⟩ vs 0).run P w = .ok () (World.setBlock w b (.cells (setMany arr off vs) el (0, 0))) := by
  cases vs with
  | nil => simp [storeCells, setMany, setBlock_self h]
  | cons v r => exact run_storeCells (v :: r) w arr off 0 h hs hl (by simp)
theorem fresh_kill {s : AState} {k : Nat} {l : List (Nat × Option MObj)} (h : s.fresh k) (hl : ∀ p ∈ l, p.2 = none) : (s.objput l).fresh k := by
  have hobj : ∀ k', (s.objput l).obj k' = s.obj k' ∨ (s.objput l).obj k' = none := by
    intro k'
    rw [AState.obj_objput]
    cases e : look l k' with
    | none => exact .inl rfl
    | some v => have := hl _ (look_mem e); simp only at this; subst this; exact .inr rfl
  refine ⟨h.1, fun k' o ho => ?_, ?_, h.2.2.2⟩
  · rcases hobj k' with e | e <;> rw [e] at ho
    · exact h.2.1 k' o ho
    · simp at ho
  · rcases hobj k with e | e <;> rw [e]
    exact h.2.2.1
theorem flat_leaf {w : World} {I : Nat → Prop} {sz : Nat} {es : List (List Im)} {vs : List Value} (h : Flat w I sz es vs) (hl : ∀ c ∈ es, leaves (c.map .im) = true) : ∀ v ∈ vs, leafV v = true := by
  intro v hv
  obtain ⟨m, hm, rfl⟩ := List.mem_iff_getElem.1 hv
  have hlen := h.len
  have hsz0 : 0 < sz := by
    rcases Nat.eq_zero_or_pos sz with h0 | h0
    · rw [h0, Nat.mul_zero] at hlen; omega
    · exact h0
  have hi : m / sz < es.length := by rw [Nat.div_lt_iff_lt_mul hsz0]; omega
  have hj : m % sz < (es[m / sz]).length := by rw [h.el]; exact Nat.mod_lt _ hsz0
  obtain ⟨v, e, r⟩ := h.at_ _ hi _ hj
  rw [show m / sz * sz + m % sz = m from by rw [Nat.mul_comm]; exact Nat.div_add_mod m sz, List.getElem?_eq_getElem hm] at e
  rw [Option.some.inj e]
  have hc := hl _ (List.getElem_mem hi)
  have hlf := leaves_get hc (m % sz) (by simpa using hj)
  rw [List.getElem_map] at hlf
  exact leaf_rep (w := w) (I := I) (κ := fun _ => none) (.im r) hlf
theorem append_core {P : Program} {Γ : Ctx} {κ : Nat → Option KI} {I : Nat → Prop} {s : AState} {w : World} {st e : TypeId} {ts : Array TypeId} {sz by_ : Nat} {old new : List (List Im)} {sv xv : Value} {news : List Value} {k2 : Nat} {kold : List Nat} {ty : TypeId}
    (hinv : Inv Γ κ I s w) (hf : s.fresh k2) (hts : ts[0]? = some st) (hts2 : notInt P ts = true) (hel : P.underlying st = some (.slice e)) (hby : bytesP P e = some (by_, sz)) (hb0 : 0 < by_)
    (hold : (∃ base, sv = .slice base 0 0 ∧ old = [] ∧ kold = []) ∨ ∃ k, kold = [k] ∧ s.obj k = some (.row sz e old) ∧ Rep w I κ (.own k) sv)
    (hxlen : ∀ w2 : World, w2.heap = w.heap → (Builtin.lenOf xv).run P w2 = .ok new.length w2) (hxcells : ∀ w2 : World, w2.heap = w.heap → (Builtin.firstCells sz new.length xv).run P w2 = .ok news.toArray w2)
    (hfl : Flat w I sz new news) (hleaf : ∀ v ∈ news, leafV v = true) (hroom : (old.length + new.length) * by_ ≤ 140737488355328) :
    ∃ v w' κ', (Builtin.append_ ts ty #[sv, xv]).run P w = .ok v w' ∧ Inv Γ κ' I (s.objput ((k2, some (.row sz e (old ++ new))) :: kold.map (·, none))) w' ∧ (∀ b, I b → w'.heap[b]? = w.heap[b]?) ∧
      (∀ x k, (s.get x).has k = true → κ' k = κ k) ∧ Rep w' I κ' (.own k2) v := by
  have hk0 : ∀ p ∈ kold.map (fun k => (k, (none : Option MObj))), p.2 = none := by
    intro p hp; obtain ⟨k, _, rfl⟩ := List.mem_map.1 hp; rfl
  have hinvk := hinv.kill _ hk0
  have hfk := fresh_kill hf hk0
  have grown : ∀ (base : Option Addr) (n c : Nat) (olds : List Value), sv = .slice base n c → n = old.length → c < n + new.length → (∀ w2 : World, w2.heap = w.heap → (Builtin.firstCells sz n (.slice base n c)).run P w2 = .ok olds.toArray w2) →
      Flat w I sz old olds → ∃ v w' κ', (Builtin.append_ ts ty #[sv, xv]).run P w = .ok v w' ∧ Inv Γ κ' I (s.objput ((k2, some (.row sz e (old ++ new))) :: kold.map (·, none))) w' ∧ (∀ b, I b → w'.heap[b]? = w.heap[b]?) ∧
      (∀ x k, (s.get x).has k = true → κ' k = κ k) ∧ Rep w' I κ' (.own k2) v := by
    intro base n c olds hsv hn hgrow ho hfo
    subst hn
    obtain ⟨cap, rest, hcap, hrest, hrun⟩ := run_append_grow' (ty := ty) hts hts2 hel hby hb0 (hxlen w rfl) (hxcells w.drew rfl) (ho w.drew rfl) hgrow hroom
    let ki : KI := ⟨w.heap.size, cap, sz, old.length + new.length⟩
    have hdrew : Inv Γ κ I (s.objput (kold.map (·, none))) w.drew := by
      refine ⟨fun k o hk => ?_, hinvk.inj, hinvk.disj, hinvk.bound, ⟨hinvk.keep.os, hinvk.keep.tape, hinvk.keep.output, hinvk.keep.size, hinvk.keep.block⟩, hinvk.ikeep, hinvk.fromI, hinvk.fromO, hinvk.fix⟩
      have := hinvk.objs k o hk
      unfold OAt at this ⊢
      split
      · rename_i e'; rw [e'] at this; exact this
      · rename_i ki' e'; rw [e'] at this; exact this.mono (fun _ h => h) (fun _ _ => rfl) rfl (fun _ _ => rfl)
    have hfl2 : Flat (World.alloc' w.drew (.cells (olds ++ news ++ rest).toArray e)) I sz (old ++ new) (olds ++ news) :=
      (hfo.append hfl).mono (fun _ h => h) (fun b hb => alloc_get _ _ _ (hdrew.bound b hb))
    have hO : ORep (World.alloc' w.drew (.cells (olds ++ news ++ rest).toArray e)) I (setK κ k2 (some ki)) ki (.row sz e (old ++ new)) :=
      ORep.ofFlat (alloc_new w.drew _) hfl2 rfl (by simp [ki]) (by simpa [ki] using hcap) (by
        rw [List.length_append, hfl2.len, hrest, ← Nat.add_mul]; simp only [ki, List.length_append]; congr 1; omega)
    obtain ⟨g1, g2, g3⟩ := hdrew.alloc hfk (ki := ki) rfl hO
    refine ⟨_, _, setK κ k2 (some ki), by rw [hsv]; exact hrun, g1, g2, fun x k hx => g3 x k hx, ?_⟩
    exact Rep.own (k := k2) (ki := ki) (setK_self ..)
  rcases hold with ⟨base, rfl, rfl, rfl⟩ | ⟨k, rfl, hobj, hrep⟩
  · by_cases hnew : new = []
    · subst hnew
      have hn0 : news = [] := by have := hfl.len; simpa using this
      subst hn0
      obtain ⟨g1, g2⟩ := hinv.emptyRow (sz := sz) (el := e) hf
      refine ⟨.slice base 0 0, w, setK κ k2 none, ?_, g1, fun _ _ => rfl, g2, .own0 base (setK_self ..)⟩
      exact run_append_fit (n := 0) (c := 0) (m := 0) hts hts2 hel hby (hxlen w rfl) (hxcells w rfl) (Nat.le_refl _) (by cases base <;> simp [storeA, storeCells])
    · have hpos : 0 < new.length := by cases new with | nil => simp at hnew | cons => simp
      exact grown base 0 0 [] rfl rfl (by omega) (fun w2 _ => by cases base <;> simp [Builtin.firstCells, loadCells, loadCellsFrom]) ⟨by simp, fun i h => absurd h (Nat.not_lt_zero _), fun i h => absurd h (Nat.not_lt_zero _)⟩
  · have hO := hinv.objs k _ hobj
    cases hrep with
    | own0 base eκ =>
      simp only [OAt, eκ] at hO
      obtain ⟨_, _, e'⟩ := hO
      simp at e'
      obtain ⟨_, _, rfl⟩ := e'
      by_cases hnew : new = []
      · subst hnew
        have hn0 : news = [] := by have := hfl.len; simpa using this
        subst hn0
        obtain ⟨g1, g2⟩ := hinvk.emptyRow (sz := sz) (el := e) hfk
        refine ⟨.slice base 0 0, w, setK κ k2 none, ?_, g1, fun _ _ => rfl, fun x k hx => g2 x k hx, .own0 base (setK_self ..)⟩
        exact run_append_fit (n := 0) (c := 0) (m := 0) hts hts2 hel hby (hxlen w rfl) (hxcells w rfl) (Nat.le_refl _) (by cases base <;> simp [storeA, storeCells])
      · have hpos : 0 < new.length := by cases new with | nil => simp at hnew | cons => simp
        exact grown base 0 0 [] rfl rfl (by omega) (fun w2 _ => by cases base <;> simp [Builtin.firstCells, loadCells, loadCellsFrom]) ⟨by simp, fun i h => absurd h (Nat.not_lt_zero _), fun i h => absurd h (Nat.not_lt_zero _)⟩
    | @own _ ki eκ =>
      obtain ⟨arr, h1, h2, h3, h4, h5, hfo⟩ := row_flat hO eκ
      have hle : old.length * sz ≤ arr.size := by rw [h2]; exact Nat.mul_le_mul_right _ h5
      by_cases hfit : old.length + new.length ≤ ki.cap
      · let ki' : KI := ⟨ki.b, ki.cap, sz, old.length + new.length⟩
        have hsz2 : old.length * sz + news.length ≤ arr.size := by rw [h2, hfl.len, ← Nat.add_mul]; exact Nat.mul_le_mul_right _ hfit
        have hst := run_storeCells0 (P := P) news w arr (old.length * sz) h1 hsz2 hleaf
        have hbl : ki.b < w.heap.size := (Array.getElem?_eq_some_iff.1 h1).1
        have hne : ∀ b, I b → (World.setBlock w ki.b (.cells (setMany arr (old.length * sz) news) e (0, 0))).heap[b]? = w.heap[b]? := fun b hb' => by
          rw [setBlock_get _ _ _ _ hbl, if_neg]
          rintro rfl
          exact hinv.disj k _ ki hobj eκ hb'
        have hflall := (hfo.append hfl).mono (I' := I) (fun _ h => h) hne
        have hO' : ORep (World.setBlock w ki.b (.cells (setMany arr (old.length * sz) news) e (0, 0))) I (setK κ k2 (some ki')) ki' (.row sz e (old ++ new)) := by
          refine ⟨rfl, by simp [ki'], by simpa [ki'] using hfit, setMany arr (old.length * sz) news, by rw [setBlock_get _ _ _ _ hbl, if_pos rfl], by rw [setMany_size]; exact h2, fun i hi => ⟨hflall.el i hi, fun j hj => ?_⟩⟩
          obtain ⟨v, e', r⟩ := hflall.at_ i hi j hj
          have hjs : j < sz := by rw [← hflall.el i hi]; exact hj
          refine ⟨v, ?_, r⟩
          rw [setMany_get _ _ _ _ hsz2]
          have hlt := idx_lt hi hjs
          rw [List.length_append, Nat.add_mul] at hlt
          by_cases hin : old.length * sz ≤ i * sz + j
          · rw [if_pos ⟨hin, by rw [hfl.len]; exact hlt⟩]
            rw [List.getElem?_append_right (by simp; omega)] at e'
            rw [← e']; congr 1; simp; omega
          · rw [if_neg (by omega)]
            rw [List.getElem?_append_left (by simp; omega), List.getElem?_take, if_pos (by omega)] at e'
            simpa using e'
        obtain ⟨g1, g2, g3⟩ := hinv.move hobj eκ hf (ki' := ki') rfl hO'
        refine ⟨.slice (some ⟨ki.b, 0, none⟩) (ki.len + new.length) ki.cap, _, setK κ k2 (some ki'), ?_, g1, g2, g3, ?_⟩
        · exact run_append_fit hts hts2 hel hby (hxlen w rfl) (hxcells w rfl) (by omega) (by simp only [storeA, addr_add, Nat.zero_add, h3]; exact hst)
        · have := Rep.own (w := World.setBlock w ki.b (.cells (setMany arr (old.length * sz) news) e (0, 0))) (I := I) (κ := setK κ k2 (some ki')) (k := k2) (ki := ki') (setK_self ..)
          rw [h3]; exact this
      · refine grown (some ⟨ki.b, 0, none⟩) ki.len ki.cap (arr.toList.take (old.length * sz)) rfl h3 (by omega) (fun w2 hw2 => ?_) hfo
        simp only [Builtin.firstCells]
        rw [run_loadCells (u := fun m => arr[m]?.getD undef) (fun m hm => by
          have hm2 : m < arr.size := by rw [h3] at hm; omega
          have : w2.cell? ⟨ki.b, 0 + m, none⟩ = w.cell? ⟨ki.b, 0 + m, none⟩ := by unfold World.cell?; rw [hw2]
          rw [this, cell_of h1, Nat.zero_add]; simp [hm2])]
        congr 2
        apply List.ext_getElem?
        intro m
        rw [List.getElem?_map, List.getElem?_take, h3]
        by_cases hm : m < old.length * sz
        · rw [List.getElem?_range hm, if_pos hm]
          have : m < arr.size := by omega
          simp [this]
        · rw [if_neg hm, List.getElem?_eq_none (by rw [List.length_range]; omega)]; rfl
theorem ok_append {P : Program} {o : Oper} {s : AState} {x y : Operand} {ts : Array TypeId} {st e : TypeId} {sz by_ : Nat} {old new : List (List Im)} {xa ya : AVal} (k2 : Nat) (kold skeys : List Nat)
    (ho : o.op = .call { callee := .builtin .append, args := #[x, y], argTypes := ts }) (hts : ts[0]? = some st) (hts2 : notInt P ts = true) (hel : P.underlying st = some (.slice e)) (hby : bytesP P e = some (by_, sz)) (hb0 : 0 < by_)
    (hx : s.eval x = xa) (hy : s.eval y = ya) (hold : (xa = .none0 ∧ old = [] ∧ kold = []) ∨ ∃ k, xa = .own k ∧ kold = [k] ∧ s.obj k = some (.row sz e old))
    (hsrc : Src s skeys ya new) (hsz : ∀ c ∈ new, c.length = sz) (hksz : ∀ k sz' el es', ya = .own k → s.obj k = some (.row sz' el es') → sz' = sz) (hleaf : ∀ c ∈ new, leaves (c.map .im) = true)
    (hroom : (old.length + new.length) * by_ ≤ 140737488355328) :
    OpOK P o (mkSp s o (kold ++ skeys) [k2] (.own k2) ((k2, some (.row sz e (old ++ new))) :: kold.map (·, none))) :=
  .of fun Γ κ I s2 a w hP hr hn hf => by
    have hfk := hf k2 (by simp [mkSp])
    have g1 := opd hr hn x (by simp [ho, Op.operands, Call.operands]) hx
    have g2 := opd hr hn y (by simp [ho, Op.operands, Call.operands]) hy
    obtain ⟨base, cap, news, hyv, hfl, hcells⟩ := src_cells (P := P) hr.inv (fun k hk => needs_obj hn k (by simp [hk])) hsrc g2 hsz hksz
    obtain ⟨v, w', κ', h1, h2, h3, h4, h5⟩ := append_core (P := P) (ts := ts) (ty := o.type) (sv := a.eval x) (xv := a.eval y) (news := news) (kold := kold) hr.inv hfk hts hts2 hel hby hb0 (by
      rcases hold with ⟨rfl, rfl, rfl⟩ | ⟨k, rfl, rfl, hk⟩
      · obtain ⟨base, e⟩ := none0_inv g1; exact .inl ⟨base, e, rfl, rfl⟩
      · exact .inr ⟨k, rfl, (needs_obj hn k (by simp)).trans hk, g1⟩) (fun w2 _ => by rw [hyv]; simp [Builtin.lenOf]) hcells hfl (flat_leaf hfl hleaf) hroom
    exact ⟨v, _, w', κ', I, .inl rfl, by simp [execOp, ho, resolve, invoke, builtin, h1], h2, fun _ h => h, h3, h4, h5⟩
end Go.Pv
set_option linter.unusedVariables false
set_option linter.unusedSimpArgs false
namespace Go.Pv
def toIm : AVal → Option Im
  | .im x => some x
  | .none0 => some (.row [])
  | _ => none
def toImL : List AVal → Option (List Im)
  | [] => some []
  | x :: r => match toIm x, toImL r with
    | some y, some l => some (y :: l)
    | _, _ => none
theorem toIm_rep {w : World} {I : Nat → Prop} {κ : Nat → Option KI} {x : AVal} {v : Value} {y : Im} (h : Rep w I κ x v) (hy : toIm x = some y) : IRep w I y v := by
  cases h <;> simp [toIm] at hy
  · subst hy; assumption
  · subst hy; exact .row0 _ _
theorem toImL_get : ∀ {l : List AVal} {r : List Im}, toImL l = some r → r.length = l.length ∧ ∀ j (h : j < l.length) (h' : j < r.length), toIm (l[j]) = some (r[j]) := by
  intro l
  induction l with
  | nil => intro r h; obtain rfl := Option.some.inj h; exact ⟨rfl, fun j h => absurd h (Nat.not_lt_zero _)⟩
  | cons x l ih =>
    intro r h
    simp only [toImL] at h
    split at h
    · rename_i y l' h1 h2
      obtain rfl := Option.some.inj h
      obtain ⟨g1, g2⟩ := ih h2
      refine ⟨by simp [g1], fun j hj hj' => ?_⟩
      cases j with
      | zero => exact h1
      | succ j => exact g2 j (by simpa using hj) (by simpa using hj')
    · simp at h
theorem foldl_set (vs : List Value) : ∀ (cells : Array Value) (off j : Nat), (vs.zipIdx j).foldl (fun cs (p : Value × Nat) => cs.setIfInBounds (off + p.2) p.1) cells = setMany cells (off + j) vs := by
  induction vs with
  | nil => intro cells off j; rfl
  | cons v r ih => intro cells off j; rw [List.zipIdx_cons, List.foldl_cons, ih, setMany]; rfl
theorem fill_cons {place : Nat → Option (Nat × Nat)} {cells : Array Value} {i : Nat} {v : Value} {rest : List (Nat × Value)} {off size : Nat} (hp : place i = some (off, size)) (hs : v.cells.size = size) (hf : off + size ≤ cells.size) :
    Instr.fill place cells ((i, v) :: rest) = Instr.fill place (setMany cells off v.cells.toList) rest := by
  simp only [Instr.fill, hp]
  rw [if_neg (by simp [hs]; omega)]
  congr 1
  have := foldl_set v.cells.toList cells off 0
  simp only [Nat.add_zero] at this
  rw [← this, ← Array.foldl_toList]
  simp [Array.toList_zipIdx]
theorem setMany_list (vs : List Value) (arr : Array Value) (off : Nat) (h : off + vs.length ≤ arr.size) : (setMany arr off vs).toList = splice arr.toList off vs := by
  apply List.ext_getElem?
  intro i
  rw [splice_get? (by simpa using h)]
  have := setMany_get vs arr off i h
  rw [← Array.getElem?_toList] at this
  rw [this]
  simp only [Array.getElem?_toList]
def numbered {α : Type} : Nat → List α → List (Nat × α)
  | _, [] => []
  | m, x :: r => (m, x) :: numbered (m + 1) r
theorem numbered_map {α β : Type} (f : α → β) : ∀ (l : List α) (m : Nat), (numbered m l).map (fun p => (p.1, f p.2)) = numbered m (l.map f)
  | [], _ => rfl
  | x :: r, m => by simp [numbered, numbered_map f r]
theorem fill_all {sz : Nat} : ∀ (vs : List Value) (m : Nat) (cells : Array Value), (∀ v ∈ vs, v.cells.size = sz) → cells.size = (m + vs.length) * sz →
    ∃ arr, Instr.fill (fun i => some (i * sz, sz)) cells (numbered m vs) = some arr ∧ arr.toList = cells.toList.take (m * sz) ++ vs.flatMap (·.cells.toList) := by
  intro vs
  induction vs with
  | nil => intro m cells _ h; exact ⟨cells, rfl, by simp at h; rw [← h, List.take_of_length_le (by simp)]; simp⟩
  | cons v r ih =>
    intro m cells hs h
    have hv := hs v (by simp)
    simp only [List.length_cons, Nat.add_mul] at h
    have hfit : m * sz + sz ≤ cells.size := by omega
    have hfit' : m * sz + v.cells.toList.length ≤ cells.size := by simpa [hv] using hfit
    obtain ⟨arr, h1, h2⟩ := ih (m + 1) (setMany cells (m * sz) v.cells.toList) (fun x hx => hs x (by simp [hx])) (by rw [setMany_size, h, Nat.add_mul, Nat.add_mul]; omega)
    refine ⟨arr, by rw [numbered, fill_cons rfl hv hfit]; exact h1, ?_⟩
    rw [h2, setMany_list _ _ _ hfit', List.flatMap_cons, ← List.append_assoc]
    congr 1
    have hvl : v.cells.toList.length = sz := by simpa using hv
    have hcl : cells.toList.length = cells.size := by simp
    unfold splice
    rw [List.take_left' (by rw [List.length_append, List.length_take, hvl, hcl, Nat.add_mul]; omega)]
def partsIm (s : AState) : List Operand → Option (List (List Im))
  | [] => some []
  | x :: r => match toImL (valCells (s.eval x)), partsIm s r with
    | some c, some l => some (c :: l)
    | _, _ => none
def allLen (sz : Nat) : List (List Im) → Bool
  | [] => true
  | c :: r => Nat.beq c.length sz && allLen sz r
def allLeaves (s : AState) : List Operand → Bool
  | [] => true
  | x :: r => leaves (valCells (s.eval x)) && allLeaves s r
theorem parts_flat {w : World} {I : Nat → Prop} {κ : Nat → Option KI} {s : AState} {ρ : Operand → Value} {sz : Nat} : ∀ {xs : List Operand} {cs : List (List Im)}, (∀ x ∈ xs, Rep w I κ (s.eval x) (ρ x)) → partsIm s xs = some cs → allLen sz cs = true → allLeaves s xs = true →
    (∀ v ∈ xs.map ρ, v.cells.size = sz) ∧ Flat w I sz cs ((xs.map ρ).flatMap (·.cells.toList)) ∧ cs.length = xs.length := by
  intro xs
  induction xs with
  | nil => intro cs _ h _ _; obtain rfl := Option.some.inj h; exact ⟨fun v hv => by simp at hv, ⟨by simp, fun i h => absurd h (Nat.not_lt_zero _), fun i h => absurd h (Nat.not_lt_zero _)⟩, rfl⟩
  | cons x r ih =>
    intro cs hrep hp hl hv
    simp only [partsIm] at hp
    split at hp
    · rename_i c l h1 h2
      obtain rfl := Option.some.inj hp
      simp only [allLen, allLeaves, Bool.and_eq_true] at hl hv
      obtain ⟨g1, g2, g3⟩ := ih (fun y hy => hrep y (by simp [hy])) h2 hl.2 hv.2
      obtain ⟨v1, v2, _⟩ := valCells_rep (hrep x (by simp)) hv.1
      obtain ⟨t1, t2⟩ := toImL_get h1
      have hc : c.length = sz := Nat.eq_of_beq_eq_true hl.1
      have hxs : (ρ x).cells.size = sz := by rw [v1, ← t1, hc]
      refine ⟨fun v hv => ?_, ?_, by simp [g3]⟩
      · rw [List.map_cons] at hv
        rcases List.mem_cons.1 hv with rfl | h
        · exact hxs
        · exact g1 v h
      · rw [List.map_cons, List.flatMap_cons]
        have hone : Flat w I sz [c] (ρ x).cells.toList := by
          refine ⟨by simp [hxs], fun i hi => ?_, fun i hi j hj => ?_⟩
          · have : i = 0 := by simpa using hi
            subst this; exact hc
          · have : i = 0 := by simpa using hi
            subst this
            simp only [List.getElem_cons_zero] at hj ⊢
            obtain ⟨u, e, r⟩ := v2 j (by omega)
            exact ⟨u, by simpa using e, toIm_rep r (t2 j (by omega) hj)⟩
        exact hone.append g2
    · simp at hp
theorem ok_buildSlice {P : Program} {o : Oper} {s : AState} {t e : TypeId} {n sz by_ : Nat} {parts : Array (Nat × Operand)} (k : Nat) (xs : List Operand) (cs : List (List Im)) (ho : o.op = .buildSlice t n parts) (ht : elemP P t = some (e, sz))
    (hby : bytesP P e = some (by_, sz)) (hparts : parts = (numbered 0 xs).toArray) (hn : n = xs.length) (hcs : partsIm s xs = some cs) (hlen : allLen sz cs = true) (hlv : allLeaves s xs = true) (hsmall : Nat.ble (n * sz) (2 ^ 24) = true) :
    OpOK P o (mkSp s o [] [k] (.own k) [(k, some (.row sz e cs))]) :=
  .of fun Γ κ I s2 a w hP hr hneed hf => by
    have hfk := hf k (by simp [mkSp])
    have hmem : ∀ x ∈ xs, x ∈ o.op.operands.toList := by
      intro x hx
      have key : ∀ (l : List Operand) (m : Nat), x ∈ l → x ∈ (numbered m l).map (·.2) := by
        intro l
        induction l with
        | nil => intro m h; simp at h
        | cons y r ih =>
          intro m h
          rcases List.mem_cons.1 h with rfl | h
          · simp [numbered]
          · simp only [numbered, List.map_cons, List.mem_cons]; exact .inr (ih (m + 1) h)
      simpa [ho, Op.operands, hparts] using key xs 0 hx
    obtain ⟨g1, g2, g3⟩ := parts_flat (sz := sz) (ρ := a.eval) (fun x hx => opd hr hneed x (hmem x hx) rfl) hcs hlen hlv
    obtain ⟨hu, ag, hag⟩ := elemP_inv ht
    obtain ⟨i, z, hi, hz, hb1, hb2, hb3⟩ := bytesP_inv hby
    have hle := Nat.le_of_ble_eq_true hsmall
    obtain ⟨zeros, hz0, hz1⟩ : ∃ zeros : Array Value, (n * sz = 0 → zeros = #[]) ∧ (n * sz ≠ 0 → zeros = z.cells) := by
      by_cases h0 : n * sz = 0
      · exact ⟨#[], fun _ => rfl, fun h => absurd h0 h⟩
      · exact ⟨z.cells, fun h => absurd h h0, fun _ => rfl⟩
    have hzsize : ((Array.range (n * sz)).map (zeros[· % zeros.size]!)).size = n * sz := by simp
    obtain ⟨arr, ha1, ha2⟩ := fill_all (xs.map a.eval) 0 ((Array.range (n * sz)).map (zeros[· % zeros.size]!)) g1 (by rw [hzsize, hn]; simp)
    simp only [Nat.zero_mul, List.take_zero, List.nil_append] at ha2
    have hpm : parts.map (fun (p : Nat × Operand) => (p.1, a.eval p.2)) = (numbered 0 (xs.map a.eval)).toArray := by
      rw [hparts, List.map_toArray, numbered_map]
    have hrun : (execOp a.eval o).run P w = .ok (.value (.slice (some ⟨w.heap.size, 0, none⟩) n n)) (World.alloc' w (.cells arr e)) := by
      simp only [execOp, ho, Instr.buildSlice]
      have h24 : ¬ (n * sz > 2 ^ 24) := by omega
      have hpm' : (parts.map fun (x : Nat × Operand) => match x with | (i, x) => (i, a.eval x)) = (numbered 0 (xs.map a.eval)).toArray := hpm
      rw [hpm']
      simp only [Sem.run_bind, run_underlying' hu, Result.andThen_ok, run_sizeOf' hag]
      rw [if_neg h24]
      by_cases h0 : n * sz = 0
      · have hzz := hz0 h0
        subst hzz
        rw [if_pos h0]
        simp only [pure_bind, ha1]
        simp [newRow, newObj, Sem.run, World.alloc']
      · have hzz := hz1 h0
        subst hzz
        rw [if_neg h0]
        simp only [Sem.run_bind, zeroValue, run_typeInfo' hi, Result.andThen_ok, hz, pure_bind, Sem.run_pure, ha1]
        simp [newRow, newObj, Sem.run, World.alloc']
    let ki : KI := ⟨w.heap.size, n, sz, n⟩
    have hO : ORep (World.alloc' w (.cells arr e)) I (setK κ k (some ki)) ki (.row sz e cs) := by
      refine ORep.ofFlat (vs := (xs.map a.eval).flatMap (·.cells.toList)) (rest := []) ?_ (g2.mono (fun _ h => h) (fun b hb => alloc_get _ _ _ (hr.inv.bound b hb))) rfl (by simp [ki, g3, hn]) (by simp [ki, g3, hn]) ?_
      · rw [List.append_nil, ← ha2]; exact alloc_new _ _
      · rw [List.append_nil, g2.len, g3, ← hn]
    obtain ⟨q1, q2, q3⟩ := hr.inv.alloc hfk (ki := ki) rfl hO
    refine ⟨_, _, _, setK κ k (some ki), I, .inl rfl, hrun, q1, fun _ h => h, q2, q3, ?_⟩
    exact Rep.own (k := k) (ki := ki) (setK_self ..)
end Go.Pv
set_option linter.unusedVariables false
set_option linter.unusedSimpArgs false
namespace Go.Pv
structure Cells (w : World) (I : Nat → Prop) (κ : Nat → Option KI) (cs : List AVal) (arr : Array Value) : Prop where
  len : arr.size = cs.length
  at_ : ∀ j (h : j < cs.length), ∃ v, arr[j]? = some v ∧ Rep w I κ (cs[j]) v
theorem Cells.set {w : World} {I : Nat → Prop} {κ : Nat → Option KI} {cs ds : List AVal} {arr : Array Value} {off : Nat} {v : Value} (h : Cells w I κ cs arr) (h1 : v.cells.size = ds.length)
    (h2 : ∀ j (h : j < ds.length), ∃ u, v.cells[j]? = some u ∧ Rep w I κ (ds[j]) u) (hf : off + ds.length ≤ cs.length) : Cells w I κ (splice cs off ds) (setMany arr off v.cells.toList) := by
  have hvl : v.cells.toList.length = ds.length := by simpa using h1
  have hsl := splice_length hf
  refine ⟨by rw [setMany_size, hsl, h.len], fun j hj => ?_⟩
  rw [hsl] at hj
  rw [setMany_get _ _ _ _ (by rw [hvl, h.len]; exact hf), splice_get hf]
  by_cases hin : off ≤ j ∧ j < off + ds.length
  · rw [if_pos (by rw [hvl]; exact hin), dif_pos hin]
    obtain ⟨u, e, r⟩ := h2 (j - off) (by omega)
    exact ⟨u, by simpa using e, r⟩
  · rw [if_neg (by rw [hvl]; exact hin), dif_neg hin]
    exact h.at_ j hj
def fillA (s : AState) (places : List (Nat × Nat)) : List AVal → List (Nat × Operand) → Option (List AVal)
  | cells, [] => some cells
  | cells, (i, x) :: r => match places[i]? with
    | some (off, size) => match Nat.beq (valCells (s.eval x)).length size && Nat.ble (off + size) cells.length && leaves (valCells (s.eval x)) with
      | true => fillA s places (splice cells off (valCells (s.eval x))) r
      | false => none
    | none => none
theorem fill_rep {w : World} {I : Nat → Prop} {κ : Nat → Option KI} {s : AState} {ρ : Operand → Value} {places : List (Nat × Nat)} {pl : Nat → Option (Nat × Nat)} (hpl : ∀ i p, places[i]? = some p → pl i = some p) : ∀ {parts : List (Nat × Operand)} {cells r : List AVal} {arr : Array Value},
    (∀ p ∈ parts, Rep w I κ (s.eval p.2) (ρ p.2)) → Cells w I κ cells arr → fillA s places cells parts = some r →
    ∃ arr', Instr.fill pl arr (parts.map fun p => (p.1, ρ p.2)) = some arr' ∧ Cells w I κ r arr' := by
  intro parts
  induction parts with
  | nil => intro cells r arr _ hc h; obtain rfl := Option.some.inj h; exact ⟨arr, rfl, hc⟩
  | cons p ps ih =>
    intro cells r arr hrep hc h
    obtain ⟨i, x⟩ := p
    simp only [fillA] at h
    split at h
    · rename_i off size hp
      split at h
      · rename_i hb
        simp only [Bool.and_eq_true] at hb
        have h1 := Nat.eq_of_beq_eq_true hb.1.1
        have h2 := Nat.le_of_ble_eq_true hb.1.2
        obtain ⟨v1, v2, _⟩ := valCells_rep (hrep (i, x) (by simp)) hb.2
        obtain ⟨arr', g1, g2⟩ := ih (fun p hp => hrep p (by simp [hp])) (hc.set v1 v2 (by rw [h1]; exact h2)) h
        refine ⟨arr', ?_, g2⟩
        rw [List.map_cons, fill_cons (hpl i _ hp) (by rw [v1, h1]) (by rw [hc.len]; exact h2)]
        exact g1
      · simp at h
    · simp at h
def placesL (P : Program) : List Field → Option (List (Nat × Nat))
  | [] => some []
  | f :: r => match aggP P f.type, placesL P r with
    | some (_, sz), some l => some ((f.offset, sz) :: l)
    | _, _ => none
def placesP (P : Program) (t : TypeId) : Option (List (Nat × Nat)) :=
  match P.underlying t with
  | some (.struct fs) => placesL P fs.toList
  | some (.array n e) => match aggP P e with
    | some (_, sz) => some ((List.range n).map fun i => (i * sz, sz))
    | none => none
  | _ => none
theorem run_places {P : Program} {w : World} : ∀ {l : List Field} {r : List (Nat × Nat)}, placesL P l = some r → (l.mapM fun f => do pure (f.offset, ← sizeOf f.type) : Sem (List (Nat × Nat))).run P w = .ok r w := by
  intro l
  induction l with
  | nil => intro r h; obtain rfl := Option.some.inj h; simp
  | cons f l ih =>
    intro r h
    simp only [placesL] at h
    split at h
    · rename_i ag sz l' h1 h2
      obtain rfl := Option.some.inj h
      rw [List.mapM_cons]
      simp only [Sem.run_bind, run_sizeOf' h1, Result.andThen_ok, Sem.run_pure, ih h2]
    · simp at h
theorem ok_build {P : Program} {o : Oper} {s : AState} {t : TypeId} {parts : Array (Nat × Operand)} {places : List (Nat × Nat)} {z r : List AVal} (ho : o.op = .build t parts) (hz : zeroA P t = some (.agg z)) (hp : placesP P t = some places)
    (hr : fillA s places z parts.toList = some r) : OpOK P o (mkSp s o [] [] (.agg r) []) :=
  .quiet rfl fun Γ κ I s2 a w hP hrel hn => by
    unfold zeroA at hz
    cases hi : P.info? t with
    | none => rw [hi] at hz; simp at hz
    | some i =>
      cases hzz : i.zero with
      | none => rw [hi] at hz; simp [hzz] at hz
      | some zv =>
        rw [hi] at hz
        simp [hzz] at hz
        have hzrep := constA_rep w I κ zv
        rw [hz] at hzrep
        have hzc : Cells w I κ z zv.cells := by
          cases hzrep with
          | @agg _ vs hl hreps => exact ⟨by simp [Value.cells, hl], fun j hj => ⟨vs[j]'(by omega), by simp [Value.cells], hreps j hj (by omega)⟩⟩
        have hreps : ∀ p ∈ parts.toList, Rep w I κ (s.eval p.2) (a.eval p.2) := by
          intro p hp
          refine opd hrel hn p.2 ?_ rfl
          simp only [ho, Op.operands, List.mem_map]
          exact ⟨p, hp, rfl⟩
        have hmap : (parts.map fun (x : Nat × Operand) => match x with | (i, x) => (i, a.eval x)).toList = parts.toList.map fun p => (p.1, a.eval p.2) := by simp
        unfold placesP at hp
        split at hp
        · rename_i fs hu
          obtain ⟨arr', g1, g2⟩ := fill_rep (pl := fun i => places.toArray[i]?) (fun i p h => by simpa using h) hreps hzc hr
          refine ⟨.agg arr', ?_, ?_⟩
          · simp only [execOp, ho, Instr.build, Sem.run_bind, zeroValue, run_typeInfo' hi, Result.andThen_ok, hzz, Sem.run_pure, run_underlying' hu]
            rw [Array.mapM_eq_mapM_toList, Sem.run_map, run_places hp]
            simp only [Result.andThen_ok, hmap, g1, Sem.run_pure]
          · have := Rep.agg (w := w) (I := I) (κ := κ) (cells := r) (vs := arr'.toList) (by simpa using g2.len) (fun j h h' => by obtain ⟨v, e, q⟩ := g2.at_ j h; rw [← Array.getElem?_toList] at e; rw [List.getElem?_eq_getElem h'] at e; rw [Option.some.inj e]; exact q)
            simpa [mkSp] using this
        · rename_i n e hu
          split at hp
          · rename_i ag sz ha
            obtain rfl := Option.some.inj hp
            obtain ⟨arr', g1, g2⟩ := fill_rep (pl := fun i => some (i * sz, sz)) (fun i p h => by
              rw [List.getElem?_map] at h
              cases h' : (List.range n)[i]? with
              | none => rw [h'] at h; simp at h
              | some j =>
                rw [h'] at h
                have : j = i := by rw [List.getElem?_eq_some_iff] at h'; obtain ⟨_, rfl⟩ := h'; simp
                subst this; simpa using h) hreps hzc hr
            refine ⟨.agg arr', ?_, ?_⟩
            · simp only [execOp, ho, Instr.build, Sem.run_bind, zeroValue, run_typeInfo' hi, Result.andThen_ok, hzz, Sem.run_pure, run_underlying' hu, run_sizeOf' ha, hmap, g1]
            · have := Rep.agg (w := w) (I := I) (κ := κ) (cells := r) (vs := arr'.toList) (by simpa using g2.len) (fun j h h' => by obtain ⟨v, e, q⟩ := g2.at_ j h; rw [← Array.getElem?_toList] at e; rw [List.getElem?_eq_getElem h'] at e; rw [Option.some.inj e]; exact q)
              simpa [mkSp] using this
          · simp at hp
        · simp at hp
theorem ok_store_row {P : Program} {o : Oper} {s : AState} {t : TypeId} {x y : Operand} {k e j sz' el : Nat} {es : List (List Im)} {ag : Bool} {sz : Nat} (c d : List Im) (ho : o.op = .store t x y)
    (hx : s.eval x = .ptr k e j) (hk : s.obj k = some (.row sz' el es)) (hc : es[e]? = some c) (ht : aggP P t = some (ag, sz)) (hl : leaves (valCells (s.eval y)) = true) (hd : toImL (valCells (s.eval y)) = some d)
    (hsz : d.length = sz) (h0 : 0 < sz) (hfit : j + sz ≤ c.length) :
    OpOK P o (mkSp s o [k] [] .top [(k, some (.row sz' el (es.set e (splice c j d))))]) :=
  .of fun Γ κ I s2 a w hP hrel hn hf => by
    have h1 := opd hrel hn x (by simp [ho, Op.operands]) hx
    have h2 := opd hrel hn y (by simp [ho, Op.operands]) rfl
    have hk2 := (needs_obj hn k (by simp)).trans hk
    have h3 := obj_at hrel.inv hk2
    obtain ⟨v1, v2, v3⟩ := valCells_rep h2 hl
    obtain ⟨t1, t2⟩ := toImL_get hd
    obtain ⟨he, rfl⟩ := List.getElem?_eq_some_iff.1 hc
    generalize hp : a.eval x = p at h1
    cases h1 with
    | @ptr _ _ _ ki eκ =>
      simp only [OAt, eκ, ORep] at h3
      obtain ⟨c1, c2, c3, arr, c4, c5, c6⟩ := h3
      obtain ⟨hel, hcells⟩ := c6 e he
      generalize hV : valCells (s.eval y) = V at *
      have hvl : (a.eval y).cells.toList.length = sz := by rw [← hsz, t1]; simpa using v1
      have hbound : e * sz' + j + sz ≤ arr.size := by
        have h4 : (e + 1) * sz' ≤ ki.cap * sz' := Nat.mul_le_mul_right _ (by omega)
        rw [Nat.add_mul] at h4
        rw [c5]; omega
      let ob : Obj := .cells (setMany arr (e * sz' + j) (a.eval y).cells.toList) el (0, 0)
      have hrun : (execOp a.eval o).run P w = .ok .skip (World.setBlock w ki.b ob) := by
        have hst := run_storeCells (P := P) (b := ki.b) (el := el) (a.eval y).cells.toList w arr (e * sz' + j) 0 c4 (by rw [hvl]; omega) v3 (by intro e; rw [e] at hvl; simp at hvl; omega)
        simp only [execOp, ho, hp, Instr.storeAt, Instr.sureAddr, pure_bind, storeVar, Sem.run_bind, run_sizeOf' ht, Result.andThen_ok]
        rw [if_neg (by simp at hvl; simp [hvl])]
        simp only [Nat.add_zero] at hst
        simp [c1, hst, ob]
      have hb : ki.b < w.heap.size := (Array.getElem?_eq_some_iff.1 c4).1
      have hne : ∀ b, I b → (World.setBlock w ki.b ob).heap[b]? = w.heap[b]? := fun b hb' => by
        rw [setBlock_get _ _ _ _ hb, if_neg]
        rintro rfl
        exact hrel.inv.disj k _ ki hk2 eκ hb'
      have hO : ORep (World.setBlock w ki.b ob) I κ ki (.row sz' el (es.set e (splice es[e] j d))) := by
        have hsl := splice_length (l := es[e]) (r := d) (j := j) (by omega)
        refine ⟨c1, by simpa using c2, by simpa using c3, setMany arr (e * sz' + j) (a.eval y).cells.toList, by rw [setBlock_get _ _ _ _ hb, if_pos rfl], by rw [setMany_size]; exact c5, fun i hi => ?_⟩
        simp only [List.length_set] at hi
        by_cases hie : e = i
        · subst hie
          simp only [List.getElem_set_self]
          refine ⟨by rw [hsl]; exact hel, fun m hm => ?_⟩
          rw [hsl] at hm
          rw [setMany_get _ _ _ _ (by rw [hvl]; exact hbound), splice_get (by omega)]
          by_cases hin : j ≤ m ∧ m < j + d.length
          · rw [if_pos (by rw [hvl]; omega), dif_pos hin]
            obtain ⟨u, q1, q2⟩ := v2 (m - j) (by omega)
            refine ⟨u, ?_, (toIm_rep q2 (t2 (m - j) (by omega) (by omega))).mono (fun _ h => h) hne⟩
            rw [show e * sz' + m - (e * sz' + j) = m - j from by omega]; simpa using q1
          · rw [if_neg (by rw [hvl]; omega), dif_neg hin]
            obtain ⟨u, q1, q2⟩ := hcells m hm
            exact ⟨u, q1, q2.mono (fun _ h => h) hne⟩
        · rw [List.getElem_set_ne hie]
          obtain ⟨g1, g2⟩ := c6 i hi
          refine ⟨g1, fun m hm => ?_⟩
          obtain ⟨u, q1, q2⟩ := g2 m hm
          refine ⟨u, ?_, q2.mono (fun _ h => h) hne⟩
          rw [setMany_get _ _ _ _ (by rw [hvl]; exact hbound), if_neg]
          · exact q1
          · intro hin
            rw [hvl] at hin
            have hm' : m < sz' := by rw [← g1]; exact hm
            rcases Nat.lt_or_gt_of_ne hie with hlt | hgt
            · have := Nat.mul_le_mul_right sz' (show e + 1 ≤ i from hlt)
              rw [Nat.add_mul] at this; omega
            · have := Nat.mul_le_mul_right sz' (show i + 1 ≤ e from hgt)
              rw [Nat.add_mul] at this; omega
      obtain ⟨g1, g2⟩ := hrel.inv.update hk2 eκ hO
      exact ⟨undef, .skip, _, κ, I, .inr ⟨rfl, rfl⟩, hrun, g1, fun _ h => h, g2, fun _ _ _ => rfl, .top _⟩
def binStr (op : BinOp) (a b : ByteArray) : Option Value :=
  match op with
  | .eql => some (.bool (a.toList == b.toList))
  | .neq => some (.bool !(a.toList == b.toList))
  | .lss => some (.bool (Op.bytesLess a.toList b.toList))
  | .leq => some (.bool (Op.bytesLess a.toList b.toList || a.toList == b.toList))
  | .gtr => some (.bool !(Op.bytesLess a.toList b.toList || a.toList == b.toList))
  | .geq => some (.bool !(Op.bytesLess a.toList b.toList))
  | _ => none
theorem ok_binStr {P : Program} {o : Oper} {s : AState} {op : BinOp} {t t2 : TypeId} {x y : Operand} {a b : ByteArray} {r : Value} (ho : o.op = .binOp op t x y t2)
    (hx : s.eval x = .im (.sc (.string a))) (hy : s.eval y = .im (.sc (.string b))) (h : binStr op a b = some r) : OpOK P o (mkSp s o [] [] (.im (.sc r)) []) :=
  ok_pure r [(x, .string a), (y, .string b)] (by simp [ho, Op.operands, hx, hy]) (fun ρ hρ w => by
    have h1 := hρ (x, .string a) (by simp)
    have h2 := hρ (y, .string b) (by simp)
    simp only [execOp, ho]
    rw [h1, h2]
    cases op <;> simp [binStr] at h <;> subst h <;> simp [eqGuard, binOp, Op.stringOp])
theorem ok_addStr {P : Program} {o : Oper} {s : AState} {t t2 : TypeId} {x y : Operand} {a b : ByteArray} (ho : o.op = .binOp .add t x y t2)
    (hx : s.eval x = .im (.sc (.string a))) (hy : s.eval y = .im (.sc (.string b))) (h : ((a.size + b.size : Nat) : Int) ≤ 9223372036854775807) : OpOK P o (mkSp s o [] [] (.im (.sc (.string (a ++ b)))) []) :=
  ok_pure _ [(x, .string a), (y, .string b)] (by simp [ho, Op.operands, hx, hy]) (fun ρ hρ w => by
    have h1 := hρ (x, .string a) (by simp)
    have h2 := hρ (y, .string b) (by simp)
    simp only [execOp, ho]
    rw [h1, h2]
    have : ¬ (((a.size + b.size : Nat) : Int) > IntKind.i64.max) := by
      have : IntKind.i64.max = 9223372036854775807 := by decide
      rw [this]; omega
    simp only [eqGuard, binOp, Op.stringOp]
    rw [Sem.run_bind]
    simp
    omega)
def binBool (op : BinOp) (a b : Bool) : Option Value :=
  match op with
  | .eql => some (.bool (a == b))
  | .neq => some (.bool !(a == b))
  | _ => none
theorem run_eqBool {P : Program} {t : TypeId} (ht : P.underlying t = some .bool) (a b : Bool) (w : World) : (binOp .eql t (.bool a) (.bool b)).run P w = .ok (.bool (a == b)) w ∧ (binOp .neq t (.bool a) (.bool b)).run P w = .ok (.bool !(a == b)) w := by
  have hd : ∀ d, (Op.equalIn (d + 1) t (.bool a) (.bool b)).run P w = .ok (a == b) w := by
    intro d
    rw [Op.equalIn]
    simp only [Sem.run_bind, run_underlying' ht, Result.andThen_ok, Sem.run_pure]
  have h : (Op.equal t (.bool a) (.bool b)).run P w = .ok (a == b) w := hd 9999
  constructor
  · show (do pure (.bool (← Op.equal t (.bool a) (.bool b))) : Sem Value).run P w = _
    rw [Sem.run_bind, h]; rfl
  · show (do pure (.bool (!(← Op.equal t (.bool a) (.bool b)))) : Sem Value).run P w = _
    rw [Sem.run_bind, h]; rfl
theorem ok_binBool {P : Program} {o : Oper} {s : AState} {op : BinOp} {t t2 : TypeId} {x y : Operand} {a b : Bool} {r : Value} (ho : o.op = .binOp op t x y t2) (ht : P.underlying t = some .bool)
    (hx : s.eval x = .im (.sc (.bool a))) (hy : s.eval y = .im (.sc (.bool b))) (h : binBool op a b = some r) : OpOK P o (mkSp s o [] [] (.im (.sc r)) []) :=
  ok_pure r [(x, .bool a), (y, .bool b)] (by simp [ho, Op.operands, hx, hy]) (fun ρ hρ w => by
    have h1 := hρ (x, .bool a) (by simp)
    have h2 := hρ (y, .bool b) (by simp)
    simp only [execOp, ho]
    rw [h1, h2]
    cases op <;> simp [binBool] at h <;> subst h <;> simp [eqGuard, run_eqBool ht])
theorem ok_not {P : Program} {o : Oper} {s : AState} {t : TypeId} {x : Operand} {a : Bool} (ho : o.op = .unOp .not t x) (hx : s.eval x = .im (.sc (.bool a))) : OpOK P o (mkSp s o [] [] (.im (.sc (.bool !a))) []) :=
  ok_pure _ [(x, .bool a)] (by simp [ho, Op.operands, hx]) (fun ρ hρ w => by
    have h1 := hρ (x, .bool a) (by simp)
    simp [execOp, ho, h1, Op.unary])
theorem ok_neg {P : Program} {o : Oper} {s : AState} {t : TypeId} {x : Operand} {k : IntKind} {a : Int} (ho : o.op = .unOp .neg t x) (hx : s.eval x = .im (.sc (.int k a))) : OpOK P o (mkSp s o [] [] (.im (.sc (.int k (k.wrap (0 - a))))) []) :=
  ok_pure _ [(x, .int k a)] (by simp [ho, Op.operands, hx]) (fun ρ hρ w => by
    have h1 := hρ (x, .int k a) (by simp)
    simp only [execOp, ho, h1]; rfl)
theorem ok_conv {P : Program} {o : Oper} {s : AState} {st t : TypeId} {x : Operand} {k k' : IntKind} {a : Int} {d : TypeDesc} (ho : o.op = .convert st t x) (hs : P.underlying st = some d) (ht : P.underlying t = some (.int k')) (hx : s.eval x = .im (.sc (.int k a))) :
    OpOK P o (mkSp s o [] [] (.im (.sc (.int k' (k'.wrap a)))) []) :=
  ok_pure _ [(x, .int k a)] (by simp [ho, Op.operands, hx]) (fun ρ hρ w => by
    have h1 := hρ (x, .int k a) (by simp)
    simp only at h1
    simp [execOp, ho, h1, convert, run_underlying' hs, run_underlying' ht, Conv.intToInt])
def binBits (op : BinOp) (k : IntKind) (a b : Int) : Option Value :=
  match op with
  | .and => some (.int k (k.wrap ((BitVec.ofInt k.bits a &&& BitVec.ofInt k.bits b).toNat : Int)))
  | .or => some (.int k (k.wrap ((BitVec.ofInt k.bits a ||| BitVec.ofInt k.bits b).toNat : Int)))
  | .xor => some (.int k (k.wrap ((BitVec.ofInt k.bits a ^^^ BitVec.ofInt k.bits b).toNat : Int)))
  | .andNot => some (.int k (k.wrap ((BitVec.ofInt k.bits a &&& ~~~ BitVec.ofInt k.bits b).toNat : Int)))
  | _ => none
theorem ok_binBits {P : Program} {o : Oper} {s : AState} {op : BinOp} {t t2 : TypeId} {x y : Operand} {k : IntKind} {a b : Int} {r : Value} (ho : o.op = .binOp op t x y t2)
    (hx : s.eval x = .im (.sc (.int k a))) (hy : s.eval y = .im (.sc (.int k b))) (h : binBits op k a b = some r) : OpOK P o (mkSp s o [] [] (.im (.sc r)) []) :=
  ok_pure r [(x, .int k a), (y, .int k b)] (by simp [ho, Op.operands, hx, hy]) (fun ρ hρ w => by
    have h1 := hρ (x, .int k a) (by simp)
    have h2 := hρ (y, .int k b) (by simp)
    simp only [execOp, ho]
    rw [h1, h2]
    cases op <;> simp [binBits] at h <;> subst h <;> simp [eqGuard, binOp, Op.intBits])
theorem ok_shl {P : Program} {o : Oper} {s : AState} {t t2 : TypeId} {x y : Operand} {k k' : IntKind} {a b : Int} (ho : o.op = .binOp .shl t x y t2)
    (hx : s.eval x = .im (.sc (.int k a))) (hy : s.eval y = .im (.sc (.int k' b))) (h : 0 ≤ b) : OpOK P o (mkSp s o [] [] (.im (.sc (.int k (k.wrap (a * 2 ^ (min b.toNat k.bits)))))) []) :=
  ok_pure _ [(x, .int k a), (y, .int k' b)] (by simp [ho, Op.operands, hx, hy]) (fun ρ hρ w => by
    have h1 := hρ (x, .int k a) (by simp)
    have h2 := hρ (y, .int k' b) (by simp)
    simp only [execOp, ho]
    rw [h1, h2]
    have hb : ¬ b < 0 := by omega
    simp [eqGuard, binOp, Op.shift, hb])
theorem ok_shr {P : Program} {o : Oper} {s : AState} {t t2 : TypeId} {x y : Operand} {k k' : IntKind} {a b : Int} (ho : o.op = .binOp .shr t x y t2)
    (hx : s.eval x = .im (.sc (.int k a))) (hy : s.eval y = .im (.sc (.int k' b))) (h : 0 ≤ b) : OpOK P o (mkSp s o [] [] (.im (.sc (.int k (a.fdiv (2 ^ (min b.toNat k.bits)))))) []) :=
  ok_pure _ [(x, .int k a), (y, .int k' b)] (by simp [ho, Op.operands, hx, hy]) (fun ρ hρ w => by
    have h1 := hρ (x, .int k a) (by simp)
    have h2 := hρ (y, .int k' b) (by simp)
    simp only [execOp, ho]
    rw [h1, h2]
    have hb : ¬ b < 0 := by omega
    simp [eqGuard, binOp, Op.shift, hb])
theorem ok_quo {P : Program} {o : Oper} {s : AState} {t t2 : TypeId} {x y : Operand} {k : IntKind} {a b : Int} (ho : o.op = .binOp .quo t x y t2)
    (hx : s.eval x = .im (.sc (.int k a))) (hy : s.eval y = .im (.sc (.int k b))) (h : b ≠ 0) : OpOK P o (mkSp s o [] [] (.im (.sc (.int k (k.wrap (a.tdiv b))))) []) :=
  ok_pure _ [(x, .int k a), (y, .int k b)] (by simp [ho, Op.operands, hx, hy]) (fun ρ hρ w => by
    have h1 := hρ (x, .int k a) (by simp)
    have h2 := hρ (y, .int k b) (by simp)
    simp only [execOp, ho]
    rw [h1, h2]
    simp [eqGuard, binOp, Op.intDiv, h])
theorem ok_rem {P : Program} {o : Oper} {s : AState} {t t2 : TypeId} {x y : Operand} {k : IntKind} {a b : Int} (ho : o.op = .binOp .rem t x y t2)
    (hx : s.eval x = .im (.sc (.int k a))) (hy : s.eval y = .im (.sc (.int k b))) (h : b ≠ 0) : OpOK P o (mkSp s o [] [] (.im (.sc (.int k (a.tmod b)))) []) :=
  ok_pure _ [(x, .int k a), (y, .int k b)] (by simp [ho, Op.operands, hx, hy]) (fun ρ hρ w => by
    have h1 := hρ (x, .int k a) (by simp)
    have h2 := hρ (y, .int k b) (by simp)
    simp only [execOp, ho]
    rw [h1, h2]
    simp [eqGuard, binOp, Op.intDiv, h])
end Go.Pv
set_option linter.unusedVariables false
set_option linter.unusedSimpArgs false
namespace Go.Pv
def AllP : List Prop → Prop
  | [] => True
  | p :: r => p ∧ AllP r
structure Eff where
  keys : List Nat
  news : List Nat
  res : AVal
  post : List (Nat × Option MObj)
  props : List Prop
structure Ext where
  f : Program → Oper → AState → Option Eff
  ok : ∀ (P : Program) (o : Oper) (s : AState) (e : Eff), f P o s = some e → AllP e.props → OpOK P o (mkSp s o e.keys e.news e.res e.post)
inductive Hint where
  | more (x : Ext)
  | none
  | b (r : Bool)                                  
  | c (cells : List Im)                           
  | k (key : Nat)                                 
  | rows (es : List (List Im))                    
  | app (key : Nat) (es : List (List Im))         
  | put (cells : List Im) (es : List (List Im))   
  | callz (inv out : List (Nat × Nat)) (vk : List Nat) (news : List Nat) (floor : Nat) (r : AVal) (objs : List (Nat × Option MObj))
  | call (inv out : List (Nat × Nat)) (vk : List Nat) (news : List Nat) (floor : Nat) (r : AVal) (objs : List (Nat × Option MObj))
  | ext (r : AVal)                                
  | any (r : AVal)                                
def boolRes (h : Hint) (v : Value) : Value × List Prop :=
  match h, v with
  | .b r, .bool c => (.bool r, [c = r])
  | _, v => (v, [])
theorem boolRes_eq {h : Hint} {v : Value} (hp : AllP (boolRes h v).2) : (boolRes h v).1 = v := by
  unfold boolRes at hp ⊢
  split at hp
  · rw [hp.1]
  · rfl
def scal (v : Value × List Prop) : Eff := ⟨[], [], .im (.sc v.1), [], v.2⟩
def eqK : IntKind → IntKind → Bool
  | .i8, .i8 | .i16, .i16 | .i32, .i32 | .i64, .i64 | .u8, .u8 | .u16, .u16 | .u32, .u32 | .u64, .u64 => true
  | _, _ => false
theorem eqK_eq {a b : IntKind} (h : eqK a b = true) : a = b := by cases a <;> cases b <;> first | rfl | simp [eqK] at h
def autoBin (P : Program) (h : Hint) (s : AState) (op : BinOp) (t : TypeId) (x y : Operand) : Option Eff :=
  match op, s.eval x, s.eval y with
  | .shl, .im (.sc (.int k a)), .im (.sc (.int _ b)) => some ⟨[], [], .im (.sc (.int k (k.wrap (a * 2 ^ (min b.toNat k.bits))))), [], [0 ≤ b]⟩
  | .shr, .im (.sc (.int k a)), .im (.sc (.int _ b)) => some ⟨[], [], .im (.sc (.int k (a.fdiv (2 ^ (min b.toNat k.bits))))), [], [0 ≤ b]⟩
  | .quo, .im (.sc (.int k a)), .im (.sc (.int k' b)) => match eqK k k' with
    | true => some ⟨[], [], .im (.sc (.int k (k.wrap (a.tdiv b)))), [], [b ≠ 0]⟩
    | false => none
  | .rem, .im (.sc (.int k a)), .im (.sc (.int k' b)) => match eqK k k' with
    | true => some ⟨[], [], .im (.sc (.int k (a.tmod b))), [], [b ≠ 0]⟩
    | false => none
  | .add, .im (.sc (.string a)), .im (.sc (.string b)) => some ⟨[], [], .im (.sc (.string (a ++ b))), [], [((a.size + b.size : Nat) : Int) ≤ 9223372036854775807]⟩
  | op, .im (.sc (.int k a)), .im (.sc (.int k' b)) => match eqK k k' with
    | true => match binInt op k a b with
      | some v => some (scal (boolRes h v))
      | none => match binBits op k a b with
        | some v => some (scal (v, []))
        | none => none
    | false => none
  | op, .im (.sc (.string a)), .im (.sc (.string b)) => match binStr op a b with
    | some v => some (scal (boolRes h v))
    | none => none
  | op, .im (.sc (.bool a)), .im (.sc (.bool b)) => match P.underlying t with
    | some .bool => match binBool op a b with
      | some v => some (scal (boolRes h v))
      | none => none
    | _ => none
  | _, _, _ => none
theorem autoBin_ok {P : Program} {h : Hint} {o : Oper} {s : AState} {op : BinOp} {t t2 : TypeId} {x y : Operand} {e : Eff} (ho : o.op = .binOp op t x y t2) (he : autoBin P h s op t x y = some e) (hp : AllP e.props) :
    OpOK P o (mkSp s o e.keys e.news e.res e.post) := by
  unfold autoBin at he
  split at he
  · rename_i hx hy; obtain rfl := Option.some.inj he; exact ok_shl ho hx hy hp.1
  · rename_i hx hy; obtain rfl := Option.some.inj he; exact ok_shr ho hx hy hp.1
  · rename_i hx hy
    split at he
    · rename_i hk; obtain rfl := eqK_eq hk; obtain rfl := Option.some.inj he; exact ok_quo ho hx hy hp.1
    · simp at he
  · rename_i hx hy
    split at he
    · rename_i hk; obtain rfl := eqK_eq hk; obtain rfl := Option.some.inj he; exact ok_rem ho hx hy hp.1
    · simp at he
  · rename_i hx hy; obtain rfl := Option.some.inj he; exact ok_addStr ho hx hy hp.1
  · rename_i hx hy
    split at he
    · rename_i hk; obtain rfl := eqK_eq hk
      split at he
      · rename_i v hv; obtain rfl := Option.some.inj he
        have := ok_binInt (P := P) ho hx hy hv
        simp only [scal] at hp ⊢
        rw [boolRes_eq hp]; exact this
      · split at he
        · rename_i v hv; obtain rfl := Option.some.inj he
          exact ok_binBits (P := P) ho hx hy hv
        · simp at he
    · simp at he
  · rename_i hx hy
    split at he
    · rename_i v hv; obtain rfl := Option.some.inj he
      have := ok_binStr (P := P) ho hx hy hv
      simp only [scal] at hp ⊢
      rw [boolRes_eq hp]; exact this
    · simp at he
  · rename_i hx hy
    split at he
    · rename_i ht
      split at he
      · rename_i v hv; obtain rfl := Option.some.inj he
        have := ok_binBool (P := P) ho ht hx hy hv
        simp only [scal] at hp ⊢
        rw [boolRes_eq hp]; exact this
      · simp at he
    · simp at he
  · simp at he
def autoLoad (P : Program) (h : Hint) (s : AState) (t : TypeId) (x : Operand) : Option Eff :=
  match aggP P t with
  | some (ag, sz) => match s.eval x with
    | .ptr k e j => match s.obj k with
      | some (.box el cells) => match e with
        | 0 => match loadA ag sz (cells.drop j) with
          | some r => some ⟨[k], [], r, [], []⟩
          | none => none
        | _ => none
      | some (.row sz' el es) => match h with
        | .c c => match loadA ag sz ((c.drop j).map .im) with
          | some r => some ⟨[k], [], r, [], [es[e]? = some c]⟩
          | none => none
        | _ => none
      | _ => none
    | .ip cells => match loadA ag sz (cells.map .im) with
      | some r => some ⟨[], [], r, [], []⟩
      | none => none
    | _ => none
  | none => none
theorem autoLoad_ok {P : Program} {h : Hint} {o : Oper} {s : AState} {t : TypeId} {x : Operand} {e : Eff} (ho : o.op = .load t x) (he : autoLoad P h s t x = some e) (hp : AllP e.props) :
    OpOK P o (mkSp s o e.keys e.news e.res e.post) := by
  unfold autoLoad at he
  split at he
  · rename_i ag sz ht
    split at he
    · rename_i k e' j hx
      split at he
      · rename_i el cells hk
        split at he
        · split at he
          · rename_i r hr; obtain rfl := Option.some.inj he; exact ok_load_box ho hx hk ht hr
          · simp at he
        · simp at he
      · rename_i sz' el es hk
        split at he
        · rename_i c
          split at he
          · rename_i r hr; obtain rfl := Option.some.inj he; exact ok_load_row c ho hx hk hp.1 ht hr
          · simp at he
        · simp at he
      · simp at he
    · rename_i cells hx
      split at he
      · rename_i r hr; obtain rfl := Option.some.inj he; exact ok_load_ip ho hx ht hr
      · simp at he
    · simp at he
  · simp at he
def autoStore (P : Program) (h : Hint) (s : AState) (t : TypeId) (x y : Operand) : Option Eff :=
  match aggP P t, s.eval x with
  | some (ag, sz), .ptr k e j => match leaves (valCells (s.eval y)) && Nat.blt 0 sz with
    | true => match s.obj k with
      | some (.box el cells) => match e, Nat.beq (valCells (s.eval y)).length sz && Nat.ble (j + sz) cells.length with
        | 0, true => some ⟨[k], [], .top, [(k, some (.box el (splice cells j (valCells (s.eval y)))))], []⟩
        | _, _ => none
      | some (.row sz' el es) => match h, toImL (valCells (s.eval y)) with
        | .put c es', some d => match Nat.beq d.length sz && Nat.ble (j + sz) c.length with
          | true => some ⟨[k], [], .top, [(k, some (.row sz' el es'))], [es[e]? = some c, es' = es.set e (splice c j d)]⟩
          | false => none
        | _, _ => none
      | _ => none
    | false => none
  | _, _ => none
theorem autoStore_ok {P : Program} {h : Hint} {o : Oper} {s : AState} {t : TypeId} {x y : Operand} {e : Eff} (ho : o.op = .store t x y) (he : autoStore P h s t x y = some e) (hp : AllP e.props) :
    OpOK P o (mkSp s o e.keys e.news e.res e.post) := by
  unfold autoStore at he
  split at he
  · rename_i ag sz k e' j ht hx
    split at he
    · rename_i hb
      simp only [Bool.and_eq_true, Nat.blt_eq] at hb
      split at he
      · rename_i el cells hk
        split at he
        · rename_i hb2
          simp only [Bool.and_eq_true] at hb2
          obtain rfl := Option.some.inj he
          exact ok_store_box ho hx hk ht hb.1 (Nat.eq_of_beq_eq_true hb2.1) hb.2 (Nat.le_of_ble_eq_true hb2.2)
        · simp at he
      · rename_i sz' el es hk
        split at he
        · rename_i c es' d hd
          split at he
          · rename_i hb2
            simp only [Bool.and_eq_true] at hb2
            obtain rfl := Option.some.inj he
            simp only [AllP] at hp
            obtain ⟨p1, p2, _⟩ := hp
            subst p2
            exact ok_store_row c d ho hx hk p1 ht hb.1 hd (Nat.eq_of_beq_eq_true hb2.1) hb.2 (Nat.le_of_ble_eq_true hb2.2)
          · simp at he
        · simp at he
      · simp at he
    · simp at he
  · simp at he
def optN (s : AState) (y : Option Operand) (d : Int) : Option Int := match y with
  | some x => match s.eval x with
    | .im (.sc (.int _ n)) => some n
    | _ => none
  | none => some d
theorem optN_A {s : AState} {y : Option Operand} {d n : Int} (h : optN s y d = some n) : optA s y n d := by
  unfold optN at h
  cases y with
  | none => simp at h; exact h.symm
  | some x =>
    simp only at h
    split at h
    · rename_i k m hx; simp at h; subst h; exact ⟨k, hx⟩
    · simp at h
def autoSlice (P : Program) (h : Hint) (s : AState) (t : TypeId) (x : Operand) (lo hi : Option Operand) : Option Eff :=
  match P.underlying t, s.eval x with
  | some .string, .im (.sc (.string str)) => match optN s lo 0, optN s hi str.size with
    | some l, some u => some ⟨[], [], .im (.sc (.string (str.extract l.toNat u.toNat))), [], [0 ≤ l, l ≤ u, u ≤ (str.size : Int)]⟩
    | _, _ => none
  | some (.slice _), .im (.row es) => match elemP P t, h, optN s lo 0, optN s hi es.length with
    | some (_, sz), .rows es', some l, some u => some ⟨[], [], .im (.row es'), [], [0 ≤ l, l ≤ u, u ≤ (es.length : Int), ∀ c ∈ es, c.length = sz, es' = (es.drop l.toNat).take (u.toNat - l.toNat)]⟩
    | _, _, _, _ => none
  | _, _ => none
theorem autoSlice_ok {P : Program} {h : Hint} {o : Oper} {s : AState} {t : TypeId} {x : Operand} {lo hi : Option Operand} {e : Eff} (ho : o.op = .slice t x lo hi none) (he : autoSlice P h s t x lo hi = some e) (hp : AllP e.props) :
    OpOK P o (mkSp s o e.keys e.news e.res e.post) := by
  unfold autoSlice at he
  split at he
  · rename_i ht hx
    split at he
    · rename_i l u hl hu
      obtain rfl := Option.some.inj he
      exact ok_slice_string l u ho ht hx (optN_A hl) (optN_A hu) hp.1 hp.2.1 hp.2.2.1
    · simp at he
  · rename_i ht hx
    split at he
    · rename_i el sz es' l u hel hl hu
      obtain rfl := Option.some.inj he
      simp only [AllP] at hp
      obtain ⟨p1, p2, p3, p4, p5, _⟩ := hp
      subst p5
      exact ok_slice_im l u ho hel hx (optN_A hl) (optN_A hu) p1 p2 p3 p4
    · simp at he
  · simp at he
def autoIndexAddr (P : Program) (h : Hint) (s : AState) (t : TypeId) (x i : Operand) : Option Eff :=
  match elemP P t, s.eval x, s.eval i with
  | some (_, sz), .im (.row es), .im (.sc (.int _ n)) => match h with
    | .c c => match Nat.beq c.length sz with
      | true => some ⟨[], [], .ip c, [], [0 ≤ n, es[n.toNat]? = some c]⟩
      | false => none
    | _ => none
  | some (_, sz), .own key, .im (.sc (.int _ n)) => match s.obj key with
    | some (.row sz' el es) => match Nat.beq sz' sz with
      | true => some ⟨[key], [], .ptr key n.toNat 0, [], [0 ≤ n, n < (es.length : Int)]⟩
      | false => none
    | _ => none
  | _, _, _ => none
theorem autoIndexAddr_ok {P : Program} {h : Hint} {o : Oper} {s : AState} {t : TypeId} {x i : Operand} {e : Eff} (ho : o.op = .indexAddr t x i) (he : autoIndexAddr P h s t x i = some e) (hp : AllP e.props) :
    OpOK P o (mkSp s o e.keys e.news e.res e.post) := by
  unfold autoIndexAddr at he
  split at he
  · rename_i sz es k n ht hx hi
    split at he
    · rename_i c
      split at he
      · rename_i hb
        obtain rfl := Option.some.inj he
        exact ok_indexAddr_im c ho ht hx hi hp.1 hp.2.1 (Nat.eq_of_beq_eq_true hb)
      · simp at he
    · simp at he
  · rename_i sz key k n ht hx hi
    split at he
    · rename_i sz' el es hk
      split at he
      · rename_i hb
        obtain rfl := Nat.eq_of_beq_eq_true hb
        obtain rfl := Option.some.inj he
        exact ok_indexAddr_own ho ht hx hk hi hp.1 hp.2.1
      · simp at he
    · simp at he
  · simp at he
def lenRes (h : Hint) (n : Nat) : Int × List Prop :=
  match h with
  | .any (.im (.sc (.int .i64 m))) => (m, [(n : Int) = m])
  | _ => (n, [])
theorem lenRes_eq {h : Hint} {n : Nat} (hp : AllP (lenRes h n).2) : (lenRes h n).1 = n := by
  unfold lenRes at hp ⊢
  split at hp
  · exact hp.1.symm
  · rfl
def autoLen (P : Program) (h : Hint) (s : AState) (x : Operand) (ts : Array TypeId) : Option Eff :=
  match ts[0]? with
  | some t => match P.underlying t, s.eval x with
    | some .string, .im (.sc (.string str)) => some ⟨[], [], .im (.sc (.int .i64 str.size)), [], []⟩
    | some (.slice _), .im (.row es) => some ⟨[], [], .im (.sc (.int .i64 (lenRes h es.length).1)), [], (lenRes h es.length).2⟩
    | some (.slice _), .none0 => some ⟨[], [], .im (.sc (.int .i64 0)), [], []⟩
    | some (.slice _), .own k => match s.obj k with
      | some (.row _ _ es) => some ⟨[k], [], .im (.sc (.int .i64 (lenRes h es.length).1)), [], (lenRes h es.length).2⟩
      | _ => none
    | _, _ => none
  | none => none
theorem autoLen_ok {P : Program} {h : Hint} {o : Oper} {s : AState} {x : Operand} {ts : Array TypeId} {e : Eff} (ho : o.op = .call { callee := .builtin .len, args := #[x], argTypes := ts }) (he : autoLen P h s x ts = some e) (hp : AllP e.props) :
    OpOK P o (mkSp s o e.keys e.news e.res e.post) := by
  unfold autoLen at he
  split at he
  · rename_i t hts
    split at he
    · rename_i ht hx; obtain rfl := Option.some.inj he; exact ok_len_string ho hts ht hx
    · rename_i es ht hx; obtain rfl := Option.some.inj he
      simp only at hp ⊢
      rw [lenRes_eq hp]
      exact ok_len_slice _ [] ho hts ht hx (.inl ⟨es, rfl, rfl⟩)
    · rename_i ht hx; obtain rfl := Option.some.inj he; exact ok_len_slice 0 [] ho hts ht hx (.inr (.inl ⟨rfl, rfl⟩))
    · rename_i k ht hx
      split at he
      · rename_i sz el es hk; obtain rfl := Option.some.inj he
        simp only at hp ⊢
        rw [lenRes_eq hp]
        exact ok_len_slice _ [k] ho hts ht hx (.inr (.inr (.inr ⟨k, sz, el, es, rfl, by simp, hk, rfl⟩)))
      · simp at he
    · simp at he
  · simp at he
def srcA (s : AState) (y : AVal) : Option (List Nat × List (List Im) × Option Nat) :=
  match y with
  | .im (.row es) => some ([], es, none)
  | .none0 => some ([], [], none)
  | .own k => match s.obj k with
    | some (.row sz _ es) => some ([k], es, some sz)
    | _ => none
  | _ => none
def autoAppend (P : Program) (h : Hint) (s : AState) (x y : Operand) (ts : Array TypeId) : Option Eff :=
  match ts[0]? with
  | some st => match elemP P st, h, srcA s (s.eval y) with
    | some (e, sz), .app k2 es', some (skeys, new, ksz) => match bytesP P e with
      | some (by_, sz2) => match Nat.beq sz2 sz && notInt P ts && Nat.blt 0 by_ && (match ksz with | some z => Nat.beq z sz | none => true) with
        | true => match s.eval x with
          | .none0 => some ⟨[] ++ skeys, [k2], .own k2, [(k2, some (.row sz e es'))], [es' = [] ++ new, ∀ c ∈ new, c.length = sz, ∀ c ∈ new, leaves (c.map .im) = true, (([] : List (List Im)).length + new.length) * by_ ≤ 140737488355328]⟩
          | .own k => match s.obj k with
            | some (.row sz' e' old) => match Nat.beq sz' sz && Nat.beq e' e with
              | true => some ⟨[k] ++ skeys, [k2], .own k2, [(k2, some (.row sz e es')), (k, none)], [es' = old ++ new, ∀ c ∈ new, c.length = sz, ∀ c ∈ new, leaves (c.map .im) = true, (old.length + new.length) * by_ ≤ 140737488355328]⟩
              | false => none
            | _ => none
          | _ => none
        | false => none
      | none => none
    | _, _, _ => none
  | none => none
theorem autoAppend_ok {P : Program} {h : Hint} {o : Oper} {s : AState} {x y : Operand} {ts : Array TypeId} {e : Eff} (ho : o.op = .call { callee := .builtin .append, args := #[x, y], argTypes := ts }) (he : autoAppend P h s x y ts = some e) (hp : AllP e.props) :
    OpOK P o (mkSp s o e.keys e.news e.res e.post) := by
  unfold autoAppend at he
  split at he
  · rename_i st hts
    split at he
    · rename_i el sz k2 es' skeys new ksz hel hsrc
      split at he
      · rename_i by_ sz2 hby
        split at he
        · rename_i hb
          simp only [Bool.and_eq_true, Nat.blt_eq] at hb
          obtain ⟨⟨⟨b1, b2⟩, b3⟩, b4⟩ := hb
          obtain rfl := Nat.eq_of_beq_eq_true b1
          obtain ⟨hu, _⟩ := elemP_inv hel
          have hS : Src s skeys (s.eval y) new ∧ ∀ k sz' el' es'', s.eval y = .own k → s.obj k = some (.row sz' el' es'') → sz' = sz2 := by
            unfold srcA at hsrc
            split at hsrc
            · rename_i es hy; simp at hsrc; obtain ⟨rfl, rfl, rfl⟩ := hsrc; rw [hy]; exact ⟨.im _, fun k _ _ _ e => by simp at e⟩
            · rename_i hy; simp at hsrc; obtain ⟨rfl, rfl, rfl⟩ := hsrc; rw [hy]; exact ⟨.none0, fun k _ _ _ e => by simp at e⟩
            · rename_i k hy
              split at hsrc
              · rename_i sz3 el3 es hk
                simp at hsrc; obtain ⟨rfl, rfl, rfl⟩ := hsrc
                rw [hy]
                refine ⟨.own k _ _ _ (by simp) hk, fun k' sz' el' es'' e1 e2 => ?_⟩
                simp at e1; subst e1
                rw [hk] at e2; simp at e2
                rw [← e2.1]; exact Nat.eq_of_beq_eq_true b4
              · simp at hsrc
            · simp at hsrc
          split at he
          · rename_i hx
            obtain rfl := Option.some.inj he
            simp only [AllP] at hp
            obtain ⟨p1, p2, p3, p4, _⟩ := hp
            subst p1
            exact ok_append k2 [] skeys ho hts b2 hu hby b3 hx rfl (.inl ⟨rfl, rfl, rfl⟩) hS.1 p2 hS.2 p3 p4
          · rename_i k hx
            split at he
            · rename_i sz' e' old hk
              split at he
              · rename_i hb2
                simp only [Bool.and_eq_true] at hb2
                obtain rfl := Nat.eq_of_beq_eq_true hb2.1
                obtain rfl := Nat.eq_of_beq_eq_true hb2.2
                obtain rfl := Option.some.inj he
                simp only [AllP] at hp
                obtain ⟨p1, p2, p3, p4, _⟩ := hp
                subst p1
                exact ok_append k2 [k] skeys ho hts b2 hu hby b3 hx rfl (.inr ⟨k, rfl, rfl, hk⟩) hS.1 p2 hS.2 p3 p4
              · simp at he
            · simp at he
          · simp at he
        · simp at he
      · simp at he
    · simp at he
  · simp at he
end Go.Pv
set_option linter.unusedVariables false
set_option linter.unusedSimpArgs false
namespace Go.Pv
def Enters (P : Program) (g : Nat) : Prop := ∀ (args : Array Value) (w : World), (callFunc g args).run P w = .ok (.enter g args) w
def viewsOf (s : AState) : List Nat → Option (List (Nat × List (List Im)))
  | [] => some []
  | k :: r => match s.obj k, viewsOf s r with
    | some (.row _ _ es), some l => some ((k, es) :: l)
    | _, _ => none
theorem viewsOf_ok {s : AState} : ∀ {l : List Nat} {v : List (Nat × List (List Im))}, viewsOf s l = some v → ∀ p ∈ v, ∃ sz el, s.obj p.1 = some (.row sz el p.2) := by
  intro l
  induction l with
  | nil => intro v h; obtain rfl := Option.some.inj h; intro p hp; simp at hp
  | cons k r ih =>
    intro v h
    simp only [viewsOf] at h
    split at h
    · rename_i sz el es l' hk hl
      obtain rfl := Option.some.inj h
      intro p hp
      rcases List.mem_cons.1 hp with rfl | hp
      · exact ⟨sz, el, hk⟩
      · exact ih hl p hp
    · simp at h
def autoCallT (P : Program) (tr : AVal → AVal) (inv out : List (Nat × Nat)) (vk : List Nat) (news : List Nat) (floor : Nat) (r : AVal) (objs : List (Nat × Option MObj)) (s : AState) (fo : Operand) (as : Array Operand) : Option Eff :=
  match funOf (s.eval fo) with
  | some (g, caps) => match viewsOf s vk with
   | some views => match keysOK inv out views news floor && inv.all (fun p => (s.obj p.1).isSome) with
    | true => some ⟨inv.map (·.1) ++ views.map (·.1), news, pass out [] r, outObjs ⟨[], objs, 0⟩ out inv (views.map (·.1)) (callKeeps inv out r),
        [Enters P g, Fn P g ((as.toList.map s.eval ++ caps).map (fun x => tr (pass inv views x))) (inObjs s inv views) floor (fun r' o' => r' = r ∧ o' = objs)]⟩
    | false => none
   | none => none
  | _ => none
theorem autoCallT_ok {P : Program} {tr : AVal → AVal} (htr : ∀ (w : World) (I : Nat → Prop) (κ : Nat → Option KI) (x : AVal) (v : Value), Rep w I κ x v → Rep w I κ (tr x) v) {inv out : List (Nat × Nat)} {vk : List Nat} {news : List Nat} {floor : Nat} {r : AVal} {objs : List (Nat × Option MObj)} {o : Oper} {s : AState} {fo : Operand} {as : Array Operand} {ts : Array TypeId} {e : Eff} (ho : o.op = .call { callee := .value fo, args := as, argTypes := ts })
    (he : autoCallT P tr inv out vk news floor r objs s fo as = some e) (hp : AllP e.props) : OpOK P o (mkSp s o e.keys e.news e.res e.post) := by
  unfold autoCallT at he
  split at he
  · rename_i g caps hfo
    split at he
    · rename_i views hv
      split at he
      · rename_i hb
        simp only [Bool.and_eq_true] at hb
        obtain ⟨b1, b2⟩ := hb
        obtain rfl := Option.some.inj he
        simp only [AllP] at hp
        exact ok_call inv out views news floor tr htr ho hfo hp.1 rfl (viewsOf_ok hv) b2 b1 hp.2.1
      · simp at he
    · simp at he
  · simp at he
def autoCall (P : Program) (h : Hint) (s : AState) (fo : Operand) (as : Array Operand) : Option Eff :=
  match h with
  | .call inv out vk news floor r objs => autoCallT P rowed inv out vk news floor r objs s fo as
  | .callz inv out vk news floor r objs => autoCallT P (fun x => x) inv out vk news floor r objs s fo as
  | _ => none
theorem autoCall_ok {P : Program} {h : Hint} {o : Oper} {s : AState} {fo : Operand} {as : Array Operand} {ts : Array TypeId} {e : Eff} (ho : o.op = .call { callee := .value fo, args := as, argTypes := ts })
    (he : autoCall P h s fo as = some e) (hp : AllP e.props) : OpOK P o (mkSp s o e.keys e.news e.res e.post) := by
  unfold autoCall at he
  split at he
  · exact autoCallT_ok (fun _ _ _ _ _ h => rowed_rep h) ho he hp
  · exact autoCallT_ok (fun _ _ _ _ _ h => h) ho he hp
  · simp at he
theorem ok_extern {P : Program} {o : Oper} {s : AState} {fo : Operand} {as : Array Operand} {ts : Array TypeId} {g : Nat} {vs : List Value} (ra : AVal) (r : Value) (ho : o.op = .call { callee := .value fo, args := as, argTypes := ts })
    (hfo : s.eval fo = .im (.sc (.func (.func g) #[] #[]))) (hvs : as.toList.map s.eval = vs.map fun v => .im (.sc v)) (hr : ∀ w I κ, Rep w I κ ra r)
    (hrun : ∀ w, (callFunc g vs.toArray).run P w = .ok (.value r) w) : OpOK P o (mkSp s o [] [] ra []) :=
  .quiet rfl fun Γ κ I s2 a w hP hrel hn => by
    have h1 := (opd hrel hn fo (by simp [ho, Op.operands, Call.operands]) hfo).sc_inv
    have h2 : as.map a.eval = vs.toArray := by
      rw [← Array.toList_inj]
      simp only [Array.toList_map]
      apply List.ext_getElem
      · have := congrArg List.length hvs; simpa using this
      · intro i hi hi'
        have hlen := congrArg List.length hvs
        simp only [List.length_map, Array.length_toList] at hi hlen hi'
        have := List.getElem_of_eq hvs (i := i) (by simpa using hi)
        simp only [List.getElem_map, Array.getElem_toList] at this
        have h3 := opd hrel hn as[i] (by simp [ho, Op.operands, Call.operands]) this
        simp only [List.getElem_map, Array.getElem_toList]
        exact h3.sc_inv
    refine ⟨r, ?_, hr w I κ⟩
    simp only [execOp, ho, resolve, h1, Deferred.ofValue, Sem.run_bind, Sem.run_pure, Result.andThen_ok, invoke, h2]
    simpa using hrun w
def scVals : List AVal → Option (List Value)
  | [] => some []
  | .im (.sc v) :: r => match scVals r with
    | some l => some (v :: l)
    | none => none
  | _ => none
theorem scVals_eq : ∀ {l : List AVal} {r : List Value}, scVals l = some r → l = r.map fun v => .im (.sc v) := by
  intro l
  induction l with
  | nil => intro r h; obtain rfl := Option.some.inj h; rfl
  | cons x l ih =>
    intro r h
    unfold scVals at h
    split at h
    · simp at *
    · rename_i v r' heq
      simp only [List.cons.injEq] at heq
      obtain ⟨rfl, rfl⟩ := heq
      split at h
      · rename_i l' hl; obtain rfl := Option.some.inj h; rw [ih hl]; rfl
      · simp at h
    · simp at h
def scOf : AVal → Option Value
  | .im (.sc v) => some v
  | .tup l => match scVals l with
    | some vs => some (.tuple vs.toArray)
    | none => none
  | _ => none
theorem scOf_rep {x : AVal} {v : Value} (h : scOf x = some v) (w : World) (I : Nat → Prop) (κ : Nat → Option KI) : Rep w I κ x v := by
  unfold scOf at h
  split at h
  · simp at h; subst h; exact .im (.sc _)
  · rename_i l
    split at h
    · rename_i vs hvs
      simp at h; subst h
      rw [scVals_eq hvs]
      exact .tup (by simp) (fun j h h' => by rw [List.getElem_map]; exact .im (.sc _))
    · simp at h
  · simp at h
def autoExtern (P : Program) (s : AState) (fo : Operand) (as : Array Operand) (ra : AVal) : Option Eff :=
  match s.eval fo, scVals (as.toList.map s.eval), scOf ra with
  | .im (.sc (.func (.func g) ⟨[]⟩ ⟨[]⟩)), some vs, some r => some ⟨[], [], ra, [], [∀ w, (callFunc g vs.toArray).run P w = .ok (.value r) w]⟩
  | _, _, _ => none
theorem autoExtern_ok {P : Program} {o : Oper} {s : AState} {fo : Operand} {as : Array Operand} {ts : Array TypeId} {ra : AVal} {e : Eff} (ho : o.op = .call { callee := .value fo, args := as, argTypes := ts })
    (he : autoExtern P s fo as ra = some e) (hp : AllP e.props) : OpOK P o (mkSp s o e.keys e.news e.res e.post) := by
  unfold autoExtern at he
  split at he
  · rename_i g vs r hfo hvs hr
    obtain rfl := Option.some.inj he
    exact ok_extern ra r ho hfo (scVals_eq hvs) (scOf_rep hr) hp.1
  · simp at he
end Go.Pv
set_option linter.unusedVariables false
set_option linter.unusedSimpArgs false
namespace Go.Pv
def autoBox (h : Hint) (s : AState) (t : TypeId) (z : AVal) : Option Eff :=
  match h, leaves (valCells z) with
  | .k k, true => some ⟨[], [k], .ptr k 0 0, [(k, some (.box t (valCells z)))], []⟩
  | _, _ => none
def unnumber : Nat → List (Nat × Operand) → Option (List Operand)
  | _, [] => some []
  | m, (i, x) :: r => match Nat.beq i m, unnumber (m + 1) r with
    | true, some l => some (x :: l)
    | _, _ => none
theorem unnumber_eq : ∀ {l : List (Nat × Operand)} {m : Nat} {xs : List Operand}, unnumber m l = some xs → l = numbered m xs := by
  intro l
  induction l with
  | nil => intro m xs h; obtain rfl := Option.some.inj h; rfl
  | cons p l ih =>
    intro m xs h
    obtain ⟨i, x⟩ := p
    simp only [unnumber] at h
    split at h
    · rename_i l' h1 h2
      obtain rfl := Option.some.inj h
      rw [Nat.eq_of_beq_eq_true h1, ih h2]; rfl
    · simp at h
def autoBuildSlice (P : Program) (h : Hint) (s : AState) (t : TypeId) (n : Nat) (parts : Array (Nat × Operand)) : Option Eff :=
  match h, elemP P t, unnumber 0 parts.toList with
  | .k k, some (e, sz), some xs => match bytesP P e, partsIm s xs with
    | some (by_, sz2), some cs => match Nat.beq sz2 sz && Nat.beq n xs.length && allLen sz cs && allLeaves s xs && Nat.ble (n * sz) (2 ^ 24) with
      | true => some ⟨[], [k], .own k, [(k, some (.row sz e cs))], []⟩
      | false => none
    | _, _ => none
  | .app k es', some (e, sz), some xs => match bytesP P e, partsIm s xs with
    | some (by_, sz2), some cs => match Nat.beq sz2 sz && Nat.beq n xs.length && allLen sz cs && allLeaves s xs && Nat.ble (n * sz) (2 ^ 24) with
      | true => some ⟨[], [k], .own k, [(k, some (.row sz e es'))], [es' = cs]⟩
      | false => none
    | _, _ => none
  | _, _, _ => none
theorem autoBuildSlice_ok {P : Program} {h : Hint} {o : Oper} {s : AState} {t : TypeId} {n : Nat} {parts : Array (Nat × Operand)} {e : Eff} (ho : o.op = .buildSlice t n parts) (he : autoBuildSlice P h s t n parts = some e) (hp : AllP e.props) :
    OpOK P o (mkSp s o e.keys e.news e.res e.post) := by
  have hparts : ∀ xs, unnumber 0 parts.toList = some xs → parts = (numbered 0 xs).toArray := by
    intro xs hx; rw [← unnumber_eq hx]
  unfold autoBuildSlice at he
  split at he
  · rename_i k el sz xs hel hxs
    split at he
    · rename_i by_ sz2 cs hby hcs
      split at he
      · rename_i hb
        simp only [Bool.and_eq_true] at hb
        obtain ⟨⟨⟨⟨b1, b2⟩, b3⟩, b4⟩, b5⟩ := hb
        obtain rfl := Nat.eq_of_beq_eq_true b1
        obtain rfl := Option.some.inj he
        exact ok_buildSlice k xs cs ho hel hby (hparts xs hxs) (Nat.eq_of_beq_eq_true b2) hcs b3 b4 b5
      · simp at he
    · simp at he
  · rename_i k es' el sz xs hel hxs
    split at he
    · rename_i by_ sz2 cs hby hcs
      split at he
      · rename_i hb
        simp only [Bool.and_eq_true] at hb
        obtain ⟨⟨⟨⟨b1, b2⟩, b3⟩, b4⟩, b5⟩ := hb
        obtain rfl := Nat.eq_of_beq_eq_true b1
        obtain rfl := Option.some.inj he
        obtain ⟨rfl, _⟩ := hp
        exact ok_buildSlice k xs _ ho hel hby (hparts xs hxs) (Nat.eq_of_beq_eq_true b2) hcs b3 b4 b5
      · simp at he
    · simp at he
  · simp at he
def moveE (h : Hint) (v : AVal) : Eff :=
  match h, v with
  | .b r, .im (.sc (.bool c)) => ⟨[], [], .im (.sc (.bool r)), [], [c = r]⟩
  | _, v => ⟨[], [], v, [], []⟩
theorem moveE_ok {P : Program} {h : Hint} {o : Oper} {s : AState} {x : Operand} (ho : o.op = .move x ∨ o.op = .assign x) (hp : AllP (moveE h (s.eval x)).props) :
    OpOK P o (mkSp s o (moveE h (s.eval x)).keys (moveE h (s.eval x)).news (moveE h (s.eval x)).res (moveE h (s.eval x)).post) := by
  have key := ok_move (P := P) (s := s) ho
  generalize s.eval x = v at *
  unfold moveE at hp ⊢
  split
  · obtain ⟨rfl, _⟩ := hp; exact key
  · exact key
def autoOp1 (P : Program) (h : Hint) (o : Oper) (s : AState) : Option Eff :=
  match o.op with
  | .move x => some (moveE h (s.eval x))
  | .assign x => some (moveE h (s.eval x))
  | .pick c x y => match s.eval c with
    | .im (.sc (.bool b)) => some ⟨[], [], pickA b (s.eval x) (s.eval y), [], []⟩
    | _ => none
  | .binOp op t x y _ => autoBin P h s op t x y
  | .load t x => autoLoad P h s t x
  | .store t x y => autoStore P h s t x y
  | .box t x => autoBox h s t (s.eval x)
  | .alloc t => match zeroA P t with
    | some z => autoBox h s t z
    | none => none
  | .nilCheck x => match isPtr (s.eval x) with
    | true => some ⟨[], [], s.eval x, [], []⟩
    | false => none
  | .extract x i => match s.eval x with
    | .tup l => match l[i]? with
      | some y => some ⟨[], [], y, [], []⟩
      | none => none
    | _ => none
  | .fieldAddr t x f => match fieldP P t f with
    | some (off, _, sz) => match Nat.blt 0 sz with
      | true => match s.eval x with
        | .ptr k e j => some ⟨[], [], .ptr k e (j + off), [], []⟩
        | .ip cells => some ⟨[], [], .ip (cells.drop off), [], []⟩
        | _ => none
      | false => none
    | none => none
  | .field t x f => match fieldP P t f, s.eval x with
    | some (off, ag, sz), .agg cells => match fieldA ag off sz cells with
      | some r => some ⟨[], [], r, [], []⟩
      | none => none
    | _, _ => none
  | .index t x i => match P.underlying t, s.eval x, s.eval i with
    | some .string, .im (.sc (.string str)), .im (.sc (.int _ n)) => some ⟨[], [], .im (.sc (.int .u8 (bt str n))), [], [0 ≤ n, n < (str.size : Int)]⟩
    | _, _, _ => none
  | .indexAddr t x i => autoIndexAddr P h s t x i
  | .slice t x lo hi none => autoSlice P h s t x lo hi
  | .build t parts => match zeroA P t, placesP P t with
    | some (.agg z), some places => match fillA s places z parts.toList with
      | some r => some ⟨[], [], .agg r, [], []⟩
      | none => none
    | _, _ => none
  | .buildSlice t n parts => autoBuildSlice P h s t n parts
  | .unOp .not _ x => match s.eval x with
    | .im (.sc (.bool a)) => some (scal (boolRes h (.bool !a)))
    | _ => none
  | .unOp .neg _ x => match s.eval x with
    | .im (.sc (.int k a)) => some ⟨[], [], .im (.sc (.int k (k.wrap (0 - a)))), [], []⟩
    | _ => none
  | .convert st t x => match P.underlying st, P.underlying t, s.eval x with
    | some _, some (.int k'), .im (.sc (.int _ a)) => some ⟨[], [], .im (.sc (.int k' (k'.wrap a))), [], []⟩
    | _, _, _ => none
  | .call { callee := .builtin .len, args := ⟨[x]⟩, argTypes := ts } => autoLen P h s x ts
  | .call { callee := .builtin .append, args := ⟨[x, y]⟩, argTypes := ts } => autoAppend P h s x y ts
  | .call { callee := .value fo, args := as, argTypes := ts } => match h with
    | .ext ra => autoExtern P s fo as ra
    | _ => autoCall P h s fo as
  | _ => none
theorem autoOp1_ok {P : Program} {h : Hint} {o : Oper} {s : AState} {e : Eff} (he : autoOp1 P h o s = some e) (hp : AllP e.props) : OpOK P o (mkSp s o e.keys e.news e.res e.post) := by
  unfold autoOp1 at he
  split at he
  · rename_i x ho; obtain rfl := Option.some.inj he; exact moveE_ok (.inl ho) hp
  · rename_i x ho; obtain rfl := Option.some.inj he; exact moveE_ok (.inr ho) hp
  · rename_i c x y ho
    split at he
    · rename_i b hc; obtain rfl := Option.some.inj he; exact ok_pick ho hc
    · simp at he
  · rename_i ho; exact autoBin_ok ho he hp
  · rename_i ho; exact autoLoad_ok ho he hp
  · rename_i ho; exact autoStore_ok ho he hp
  · rename_i t x ho
    unfold autoBox at he
    split at he
    · rename_i k hl; obtain rfl := Option.some.inj he; exact ok_box k ho hl
    · simp at he
  · rename_i t ho
    split at he
    · rename_i z hz
      unfold autoBox at he
      split at he
      · rename_i k hl; obtain rfl := Option.some.inj he; exact ok_alloc k ho hz hl
      · simp at he
    · simp at he
  · rename_i x ho
    split at he
    · rename_i hy; obtain rfl := Option.some.inj he; exact ok_nilCheck ho rfl hy
    · simp at he
  · rename_i x i ho
    split at he
    · rename_i l hx
      split at he
      · rename_i y hy; obtain rfl := Option.some.inj he; exact ok_extract ho hx hy
      · simp at he
    · simp at he
  · rename_i t x f ho
    split at he
    · rename_i off ag sz hf
      split at he
      · rename_i hb
        have h0 : 0 < sz := by simpa [Nat.blt_eq] using hb
        split at he
        · rename_i k e' j hx; obtain rfl := Option.some.inj he; exact ok_fieldAddr_ptr ho hx hf h0
        · rename_i cells hx; obtain rfl := Option.some.inj he; exact ok_fieldAddr_ip ho hx hf h0
        · simp at he
      · simp at he
    · simp at he
  · rename_i t x f ho
    split at he
    · rename_i off ag sz cells hf hx
      split at he
      · rename_i r hr; obtain rfl := Option.some.inj he; exact ok_field ho hx hf hr
      · simp at he
    · simp at he
  · rename_i t x i ho
    split at he
    · rename_i ht hx hi; obtain rfl := Option.some.inj he; exact ok_index_string ho ht hx hi hp.1 hp.2.1
    · simp at he
  · rename_i ho; exact autoIndexAddr_ok ho he hp
  · rename_i ho; exact autoSlice_ok ho he hp
  · rename_i t parts ho
    split at he
    · rename_i z places hz hpl
      split at he
      · rename_i r hr; obtain rfl := Option.some.inj he; exact ok_build ho hz hpl hr
      · simp at he
    · simp at he
  · rename_i ho; exact autoBuildSlice_ok ho he hp
  · rename_i t x ho
    split at he
    · rename_i a hx; obtain rfl := Option.some.inj he
      have := ok_not (P := P) ho hx
      simp only [scal] at hp ⊢
      rw [boolRes_eq hp]; exact this
    · simp at he
  · rename_i t x ho
    split at he
    · rename_i k a hx; obtain rfl := Option.some.inj he; exact ok_neg ho hx
    · simp at he
  · rename_i st t x ho
    split at he
    · rename_i hs ht hx; obtain rfl := Option.some.inj he; exact ok_conv ho hs ht hx
    · simp at he
  · rename_i ho; exact autoLen_ok ho he hp
  · rename_i ho; exact autoAppend_ok ho he hp
  · rename_i ho
    split at he
    · exact autoExtern_ok ho he hp
    · exact autoCall_ok ho he hp
  · simp at he
def autoOp (P : Program) (h : Hint) (o : Oper) (s : AState) : Option Eff :=
  match h with
  | .more x => x.f P o s
  | h => autoOp1 P h o s
theorem autoOp_ok {P : Program} {h : Hint} {o : Oper} {s : AState} {e : Eff} (he : autoOp P h o s = some e) (hp : AllP e.props) : OpOK P o (mkSp s o e.keys e.news e.res e.post) := by
  unfold autoOp at he
  split at he
  · rename_i x; exact x.ok _ _ _ _ he hp
  · exact autoOp1_ok he hp
def goesA (ops : Array Oper) (o : Oper) (s : AState) : Option Bool :=
  match o.guard with
  | none => some true
  | some (j, want) => match (ops[j]?).bind (·.dst) with
    | some d => match s.get d with
      | .im (.sc (.bool b)) => match b, want with
        | true, true => some true
        | false, false => some true
        | true, false => some false
        | false, true => some false
      | .im (.sc (.tuple _)) => some false
      | _ => none
    | none => none
theorem goesA_ok {ops : Array Oper} {o : Oper} {s : AState} {g : Bool} (h : goesA ops o s = some g) : goes ops o s g := by
  unfold goesA at h
  unfold goes
  split at h
  · rename_i e; rw [e]; exact (Option.some.inj h).symm
  · rename_i j want e
    rw [e]
    split at h
    · rename_i d hd
      split at h
      · rename_i b hb
        refine ⟨d, _, hd, hb, ?_⟩
        split at h <;> simp at h <;> subst h <;> rfl
      · rename_i vs hb
        simp at h; subst h
        exact ⟨d, _, hd, hb, rfl⟩
      · simp at h
    · simp at h
def freshB (s : AState) (k : Nat) : Bool :=
  s.slots.all (fun p => !(p.2.has k)) && s.objs.all (fun p => match p.2 with | some o => !(o.has k) | none => true) && (s.obj k).isNone && Nat.ble s.floor k
theorem freshB_ok {s : AState} {k : Nat} (h : freshB s k = true) : s.fresh k := by
  simp only [freshB, Bool.and_eq_true] at h
  obtain ⟨⟨⟨h1, h2⟩, h3⟩, h4⟩ := h
  refine ⟨fun x => ?_, fun k' o ho => ?_, by simpa using h3, Nat.le_of_ble_eq_true h4⟩
  · unfold AState.get
    cases e : look s.slots x with
    | none => rfl
    | some v => have := List.all_eq_true.1 h1 _ (look_mem e); simpa using this
  · unfold AState.obj at ho
    cases e : look s.objs k' with
    | none => rw [e] at ho; simp at ho
    | some v =>
      rw [e] at ho
      have hv : v = some o := ho
      subst hv
      have := List.all_eq_true.1 h2 _ (look_mem e); simpa using this
def dstB (n : Nat) (o : Oper) : Bool := match o.dst with
  | some d => Nat.blt d n
  | none => true
def hintAt (hints : List (Nat × Hint)) (i : Nat) : Hint := (look hints i).getD .none
def runOps (P : Program) (n : Nat) (ops : Array Oper) (hints : List (Nat × Hint)) : List Oper → Nat → AState → Option (List Item × AState × List Prop)
  | [], _, s => some ([], s, [])
  | o :: r, i, s => match dstB n o with
    | false => none
    | true => match goesA ops o s with
      | some false => match runOps P n ops hints r (i + 1) (s.put o.dst (.im (.sc undef))) with
        | some (its, s', ps) => some ((o, .skip) :: its, s', ps)
        | none => none
      | some true => match autoOp P (hintAt hints i) o s with
        | some e => match e.news.all (freshB s) with
          | true => match runOps P n ops hints r (i + 1) ((s.objput e.post).put o.dst e.res) with
            | some (its, s', ps) => some ((o, .run (mkSp s o e.keys e.news e.res e.post)) :: its, s', e.props ++ ps)
            | none => none
          | false => none
        | none => none
      | none => none
theorem AllP_append {l r : List Prop} (h : AllP (l ++ r)) : AllP l ∧ AllP r := by
  induction l with
  | nil => exact ⟨trivial, h⟩
  | cons p l ih => exact ⟨⟨h.1, (ih h.2).1⟩, (ih h.2).2⟩
theorem runOps_ok {P : Program} {n : Nat} {ops : Array Oper} {hints : List (Nat × Hint)} : ∀ {l : List Oper} {i : Nat} {s s' : AState} {its : List Item} {ps : List Prop}, runOps P n ops hints l i s = some (its, s', ps) → AllP ps →
    its.map (·.1) = l ∧ validAll P ops its s ∧ stepAll its s = s' ∧ its.all (fun it => match it.1.dst with | some d => Nat.blt d n | none => true) = true := by
  intro l
  induction l with
  | nil =>
    intro i s s' its ps h _
    simp [runOps] at h
    obtain ⟨rfl, rfl, rfl⟩ := h
    exact ⟨rfl, trivial, rfl, rfl⟩
  | cons o r ih =>
    intro i s s' its ps h hp
    unfold runOps at h
    split at h
    · simp at h
    · rename_i hd
      split at h
      · rename_i hg
        split at h
        · rename_i its' s'' ps' hr
          simp at h
          obtain ⟨rfl, rfl, rfl⟩ := h
          obtain ⟨g1, g2, g3, g4⟩ := ih hr hp
          refine ⟨by simp [g1], ⟨goesA_ok hg, fun k hk => by simp [Item.news] at hk, g2⟩, g3, ?_⟩
          simp only [List.all_cons, Bool.and_eq_true]
          exact ⟨hd, g4⟩
        · simp at h
      · rename_i hg
        split at h
        · rename_i e he
          split at h
          · rename_i hf
            split at h
            · rename_i its' s'' ps' hr
              simp at h
              obtain ⟨rfl, rfl, rfl⟩ := h
              obtain ⟨p1, p2⟩ := AllP_append hp
              obtain ⟨g1, g2, g3, g4⟩ := ih hr p2
              refine ⟨by simp [g1], ⟨⟨goesA_ok hg, mkSp_needs .., autoOp_ok he p1⟩, fun k hk => freshB_ok (List.all_eq_true.1 hf k hk), g2⟩, g3, ?_⟩
              simp only [List.all_cons, Bool.and_eq_true]
              exact ⟨hd, g4⟩
            · simp at h
          · simp at h
        · simp at h
      · simp at h
def restrict (live keeps : List Nat) (s : AState) : AState := ⟨live.map fun i => (i, s.get i), keeps.map fun k => (k, s.obj k), s.floor⟩
theorem look_map {α : Type} (f : Nat → α) : ∀ (l : List Nat) (x : Nat) (v : α), look (l.map fun i => (i, f i)) x = some v → v = f x := by
  intro l x v h
  obtain ⟨i, _, e⟩ := List.mem_map.1 (look_mem h)
  simp at e; rw [← e.1]; exact e.2.symm
theorem restrict_sat {Γ : Ctx} {s : AState} {a : Act} {w : World} (h : Sat Γ s a w) (live keeps : List Nat) : Sat Γ (restrict live keeps s) a w := by
  refine h.weaken (fun x => ?_) (fun k o hk => ?_) rfl
  · simp only [AState.get, restrict]
    cases e : look (live.map fun i => (i, (look s.slots i).getD .top)) x with
    | none => left; rfl
    | some v => right; rw [look_map (fun i => (look s.slots i).getD .top) live x v e]; rfl
  · simp only [AState.obj, restrict] at hk
    cases e : look (keeps.map fun k => (k, (look s.objs k).getD none)) k with
    | none => rw [e] at hk; simp at hk
    | some v => rw [e] at hk; have := look_map (fun i => (look s.objs i).getD none) keeps k v e; subst this; exact hk
def newsAll (its : List Item) (s : AState) : Bool := its.all fun it => it.news.all (freshB s)
def regionRun (P : Program) (n : Nat) (draw : Bool) (ops : List Oper) (hints : List (Nat × Hint)) (live keeps : List Nat) (s : AState) : Option (AState × List Prop) :=
  match runOps P n ops.toArray hints ops 0 s with
  | some (its, s', ps) => match draw with
    | false => some (restrict live keeps s', ps)
    | true => match okFrom ops.toArray (masks ops []) [] its && newsAll its s with
      | true => some (restrict live keeps s', ps)
      | false => none
  | none => none
theorem AWp.weaken {Γ : Ctx} {c : Code} {Q : Exit → AState → Prop} {s s' : AState} (h : AWp Γ c Q s') (hs : ∀ a w, Sat Γ s a w → Sat Γ s' a w) : AWp Γ c Q s := fun a w h' => h a w (hs a w h')
theorem AWp.region {Γ : Ctx} {id : Nat} {draw : Bool} {Q : Exit → AState → Prop} {s : AState} {ops : List Oper} (hints : List (Nat × Hint)) (live keeps : List Nat) (s' : AState) (ps : List Prop)
    (hm : Γ.P.follows .mixedOrders = true) (h : regionRun Γ.P Γ.n draw ops hints live keeps s = some (s', ps)) (hp : AllP ps) (hq : Q .normal s') : AWp Γ (.region id ops.toArray draw) Q s := by
  unfold regionRun at h
  split at h
  · rename_i its s2 ps2 hr
    have key : ∀ ps', AllP ps' → ps' = ps2 → its.map (·.1) = ops ∧ validAll Γ.P ops.toArray its s ∧ stepAll its s = s2 ∧ its.all (fun it => match it.1.dst with | some d => Nat.blt d Γ.n | none => true) = true :=
      fun ps' hp' e => runOps_ok hr (e ▸ hp')
    have fin : s' = restrict live keeps s2 → ps = ps2 → (draw = true → okFrom ops.toArray (masks ops []) [] its = true ∧ newsAll its s = true) → AWp Γ (.region id ops.toArray draw) Q s := by
      intro e1 e2 hdraw
      obtain ⟨g1, g2, g3, g4⟩ := key ps hp e2
      have hq' : ∀ a w, Sat Γ s2 a w → ∃ s3, Sat Γ s3 a w ∧ Q .normal s3 := fun a w h => ⟨s', e1 ▸ restrict_sat h live keeps, hq⟩
      subst g1
      cases draw with
      | false =>
        intro a w hs
        exact Code.wp_mono (fun e a w ⟨s3, h1, h2⟩ => by
          cases e with
          | normal => simp only at h2; subst h2; exact hq' a w (g3 ▸ h1)
          | _ => exact h2.elim) (region_plain (Q := fun e s3 => match e with | .normal => s3 = stepAll its s | _ => False) its g4 g2 rfl a w hs)
      | true =>
        obtain ⟨d1, d2⟩ := hdraw rfl
        have hf : ∀ it ∈ its, ∀ k ∈ it.news, s.fresh k := fun it hit k hk => freshB_ok (List.all_eq_true.1 (List.all_eq_true.1 d2 it hit) k hk)
        intro a w hs
        exact Code.wp_mono (fun e a w ⟨s3, h1, h2⟩ => by
          cases e with
          | normal => simp only at h2; subst h2; exact hq' a w (g3 ▸ h1)
          | _ => exact h2.elim) (region_draw (Q := fun e s3 => match e with | .normal => s3 = stepAll its s | _ => False) hm its g4 d1 g2 hf rfl a w hs)
    split at h
    · simp at h; exact fin h.1.symm h.2.symm (fun e => by simp at e)
    · split at h
      · rename_i hb
        simp only [Bool.and_eq_true] at hb
        simp at h; exact fin h.1.symm h.2.symm (fun _ => hb)
      · simp at h
  · simp at h
end Go.Pv
