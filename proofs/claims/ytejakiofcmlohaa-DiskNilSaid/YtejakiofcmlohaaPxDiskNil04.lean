import Derived.Deep.Draws
import Derived.Lib.LaidTab
import Derived.Shelf.SlIter.Sorted
import Derived.Shelf.SlMaps.Clone
import Derived.Shelf.Strings.IndexAnyAll
import Derived.Sort.Grow
import Derived.Sort.OwnSorted
import Derived.Test.YtejakiofcmlohaaPxDiskNil03
set_option linter.unusedVariables false
set_option linter.unusedSimpArgs false
namespace Go.Pv
open Go.Instr
abbrev aM {K : Type} (vk : K → Value) (l : List (K × AVal)) : MObj := .amap (l.map fun p => vk p.1) (l.map (·.2))
theorem amap_at {w : World} {I : Nat → Prop} {κ : Nat → Option KI} {k : Nat} {ks : List Value} {xs : List AVal} (h : OAt w I κ k (.amap ks xs)) : ∃ ki arr, κ k = some ki ∧ xs.length = ks.length ∧ w.heap[ki.b]? = some (.map arr ks.length) ∧ arr.size = ks.length ∧
    ∀ i (h : i < ks.length), ∃ e, arr[i]? = some e ∧ e.born = i ∧ e.key = ks[i] ∧ ∀ (h' : i < xs.length), Rep w I κ (xs[i]) e.val := by
  unfold OAt at h
  cases e : κ k with
  | none => rw [e] at h; obtain ⟨_, _, h⟩ := h; simp at h
  | some ki => rw [e] at h; obtain ⟨h0, arr, h1, h2, h3⟩ := h; exact ⟨ki, arr, rfl, h0, h1, h2, h3⟩
theorem keys_aM {K : Type} {vk : K → Value} {l : List (K × AVal)} {arr : Array MapEntry} (hs : arr.size = l.length) (h : ∀ i (h : i < l.length), ∃ e, arr[i]? = some e ∧ e.key = vk (l[i]).1) : arr.toList.map (·.key) = (l.map (·.1)).map vk := by
  apply List.ext_getElem
  · simp [hs]
  · intro i h1 h2
    simp only [List.length_map, Array.length_toList] at h1
    obtain ⟨e, e1, e3⟩ := h i (by omega)
    rw [Array.getElem?_eq_getElem h1] at e1
    obtain rfl := Option.some.inj e1
    simp [e3]
def xMkA (k : Nat) : Ext where
  f P o s := match o.op with
    | .makeMap t none => some ⟨[], [k], .mown k, [(k, some (.amap [] []))], []⟩
    | _ => none
  ok P o s e he hp := by
    split at he
    · rename_i t ho
      obtain rfl := Option.some.inj he
      refine .of fun Γ κ I s2 a w hP hr hn hf => ?_
      have hfk := hf k (by simp [mkSp])
      let ki : KI := ⟨w.heap.size, 0, 0, 0⟩
      have hO : ORep (World.alloc' w (.map #[] 0)) I (setK κ k (some ki)) ki (.amap [] []) := ⟨rfl, #[], alloc_new _ _, rfl, fun i h => absurd h (Nat.not_lt_zero _)⟩
      obtain ⟨f1, f2, f3⟩ := hr.inv.alloc hfk (ki := ki) rfl hO
      refine ⟨_, _, _, _, I, .inl rfl, ?_, f1, fun _ h => h, f2, f3, .mown (ki := ki) (setK_self ..)⟩
      simp [execOp, ho, makeMap, newObj, Sem.run, World.alloc', ki]
    · simp at he
def xPutA {K : Type} [DecidableEq K] (vk : K → Value) (l : List (K × AVal)) (k : K) (v : AVal) : Ext where
  f P o s := match putOp o.op with
    | some (t, x, y, z) => match P.underlying t, s.eval x with
      | some (.map kt et), .mown m => match s.obj m with
        | some (.amap ks xs) => some ⟨[m], [], .top, [(m, some (aM vk (mput l k v)))], [KeyOK P kt vk, ks = l.map (fun p => vk p.1), xs = l.map (·.2), valA (s.eval y) = some (vk k), s.eval z = v]⟩
        | _ => none
      | _, _ => none
    | none => none
  ok P o s e he hp := by
    split at he
    · rename_i t x y z hop
      have hop := putOp_of hop
      split at he
      · rename_i kt et m ht hx
        split at he
        · rename_i ks xs hm
          obtain rfl := Option.some.inj he
          obtain ⟨hK, rfl, rfl, hy, hz, _⟩ := hp
          refine .of fun Γ κ I s2 a w hP hr hn hf => ?_
          have g1 := opd hr hn x (by rcases hop with ho | ho <;> simp [ho, Op.operands]) hx
          have g2 := valA_rep hy (opd hr hn y (by rcases hop with ho | ho <;> simp [ho, Op.operands]) rfl)
          have hv := opd hr hn z (by rcases hop with ho | ho <;> simp [ho, Op.operands]) hz
          have hm2 := (needs_obj hn m (by simp)).trans hm
          obtain ⟨ki, eκ, ex⟩ := mown_inv g1
          obtain ⟨ki', arr, eκ', h0, h1, h2, h3⟩ := amap_at (hr.inv.objs m _ hm2)
          rw [eκ] at eκ'; obtain rfl := Option.some.inj eκ'
          simp only [List.length_map] at h1 h2 h3
          have h3' : ∀ i (h : i < l.length), ∃ e, arr[i]? = some e ∧ e.born = i ∧ e.key = vk (l[i]).1 ∧ Rep w I κ (l[i]).2 e.val := fun i h => by
            obtain ⟨e, a1, a2, a3, a4⟩ := h3 i h
            exact ⟨e, a1, a2, by rw [a3]; simp, by have := a4 h; simpa using this⟩
          have hks := keys_aM h2 (fun i hi => let ⟨e, a1, a2, a3, _⟩ := h3' i hi; ⟨e, a1, a3⟩)
          obtain ⟨r1, r2⟩ := run_mput (v := a.eval z) (k := k) ht hK h1 hks
          have hb : ki.b < w.heap.size := (Array.getElem?_eq_some_iff.1 h1).1
          have hne : ∀ ob b, I b → (World.setBlock w ki.b ob).heap[b]? = w.heap[b]? := fun ob b hb' => by
            rw [setBlock_get _ _ _ _ hb, if_neg]
            rintro rfl
            exact hr.inv.disj m _ ki hm2 eκ hb'
          have fin : ∀ ob, (execOp a.eval o).run P w = .ok .skip (World.setBlock w ki.b ob) → ORep (World.setBlock w ki.b ob) I κ ki (aM vk (mput l k v)) →
              ∃ v' nx w' κ' I', Gives v' nx ∧ (execOp a.eval o).run P w = .ok nx w' ∧ Inv Γ κ' I' (s2.objput [(m, some (aM vk (mput l k v)))]) w' ∧ (∀ b, I b → I' b) ∧ (∀ b, I b → w'.heap[b]? = w.heap[b]?) ∧ (∀ x k, (s2.get x).has k = true → κ' k = κ k) ∧ Rep w' I' κ' .top v' := by
            intro ob hrun hO
            obtain ⟨f1, f2⟩ := hr.inv.update hm2 eκ hO
            exact ⟨_, _, _, κ, I, .inr ⟨rfl, rfl⟩, hrun, f1, fun _ h => h, f2, fun _ _ _ => rfl, .top _⟩
          rcases hit_ok k l arr.toList 0 (by simp [h2]) with ⟨q1, q2, q3⟩ | ⟨i, e, p, q1, q2, q3, q4, q5, q6⟩
          · refine fin (.map (arr.push ⟨vk k, a.eval z, l.length⟩) (l.length + 1)) (by rcases hop with ho | ho <;> simp only [execOp, ho, ex, g2, Sem.run_bind, r1 q1, Result.andThen_ok, Sem.run_pure]) ?_
            rw [q3]
            refine ⟨by simp, arr.push ⟨vk k, a.eval z, l.length⟩, by rw [setBlock_get _ _ _ _ hb, if_pos rfl]; simp, by simp [h2], fun i hi => ?_⟩
            simp only [List.length_map, List.length_append, List.length_cons, List.length_nil] at hi
            by_cases c : i < l.length
            · obtain ⟨e, a1, a2, a3, a4⟩ := h3' i c
              refine ⟨e, by rw [Array.getElem?_push, if_neg (by omega), a1], a2, ?_, fun h' => ?_⟩
              · rw [a3]; simp [List.getElem_append, c]
              · have : ((l ++ [(k, v)]).map (·.2))[i]'h' = (l[i]).2 := by simp [List.getElem_append, c]
                rw [this]; exact a4.mono (fun _ h => h) (hne _) (fun _ _ => rfl)
            · have hi' : i = l.length := by omega
              refine ⟨⟨vk k, a.eval z, l.length⟩, by rw [Array.getElem?_push, if_pos (by omega)], by simp [hi'], by simp [hi'], fun h' => ?_⟩
              have : ((l ++ [(k, v)]).map (·.2))[i]'h' = v := by simp [hi']
              rw [this]; exact hv.mono (fun _ h => h) (hne _) (fun _ _ => rfl)
          · have q1' : arr[i]? = some e := by simpa using q1
            have hil : i < l.length := (List.getElem?_eq_some_iff.1 q2).1
            obtain ⟨e', a1, a2, a3, a4⟩ := h3' i hil
            rw [q1'] at a1; obtain rfl := Option.some.inj a1
            have hkey : e.key = vk k := by
              rw [a3]
              have := (List.getElem?_eq_some_iff.1 q2).2
              simp [this, q3]
            have hrun := r2 i e.val e (by rw [q4]; simp) q1' hkey
            refine fin (.map (arr.modify i fun e => { e with key := vk k, val := a.eval z }) l.length) (by rcases hop with ho | ho <;> simp only [execOp, ho, ex, g2, Sem.run_bind, hrun, Result.andThen_ok, Sem.run_pure]) ?_
            rw [q6]
            refine ⟨by simp, arr.modify i fun e => { e with key := vk k, val := a.eval z }, by rw [setBlock_get _ _ _ _ hb, if_pos rfl]; simp, by simp [h2], fun j hj => ?_⟩
            simp only [List.length_map, List.length_set] at hj
            obtain ⟨e2, b1, b2, b3, b4⟩ := h3' j hj
            by_cases c : i = j
            · subst c
              refine ⟨{ e with key := vk k, val := a.eval z }, by simp [Array.getElem?_modify, q1'], a2, by simp, fun h' => ?_⟩
              have : ((l.set i (k, v)).map (·.2))[i]'h' = v := by simp
              rw [this]; exact hv.mono (fun _ h => h) (hne _) (fun _ _ => rfl)
            · refine ⟨e2, by simp [Array.getElem?_modify, c, b1], b2, ?_, fun h' => ?_⟩
              · rw [b3]; simp [List.getElem_set, c]
              · have : ((l.set i (k, v)).map (·.2))[j]'h' = (l[j]).2 := by simp [List.getElem_set, c]
                rw [this]; exact b4.mono (fun _ h => h) (hne _) (fun _ _ => rfl)
        · simp at he
      · simp at he
    · simp at he
def xLookA {K : Type} [DecidableEq K] (vk : K → Value) (l : List (K × AVal)) (k : K) (r : AVal) : Ext where
  f P o s := match o.op with
    | .lookup t x y false => match P.underlying t, s.eval x with
      | some (.map kt et), .mown m => match s.obj m, zeroA P et with
        | some (.amap ks xs), some z => some ⟨[m], [], r, [], [KeyOK P kt vk, ks = l.map (fun p => vk p.1), xs = l.map (·.2), valA (s.eval y) = some (vk k), (mget l k).getD z = r]⟩
        | _, _ => none
      | _, _ => none
    | _ => none
  ok P o s e he hp := by
    split at he
    · rename_i t x y ho
      split at he
      · rename_i kt et m ht hx
        split at he
        · rename_i ks xs z hm hz
          obtain rfl := Option.some.inj he
          obtain ⟨hK, rfl, rfl, hy, hr0, _⟩ := hp
          unfold zeroA at hz
          cases hi : P.info? et with
          | none => rw [hi] at hz; simp at hz
          | some i =>
            cases hzz : i.zero with
            | none => rw [hi] at hz; simp [hzz] at hz
            | some zv =>
              rw [hi] at hz
              simp [hzz] at hz
              refine .quiet rfl fun Γ κ I s2 a w hP hr hn => ?_
              have g1 := opd hr hn x (by simp [ho, Op.operands]) hx
              have g2 := valA_rep hy (opd hr hn y (by simp [ho, Op.operands]) rfl)
              have hm2 := (needs_obj hn m (by simp)).trans hm
              obtain ⟨ki, eκ, ex⟩ := mown_inv g1
              obtain ⟨ki', arr, eκ', h0, h1, h2, h3⟩ := amap_at (hr.inv.objs m _ hm2)
              rw [eκ] at eκ'; obtain rfl := Option.some.inj eκ'
              simp only [List.length_map] at h1 h2 h3
              have h3' : ∀ i (h : i < l.length), ∃ e, arr[i]? = some e ∧ e.born = i ∧ e.key = vk (l[i]).1 ∧ Rep w I κ (l[i]).2 e.val := fun i h => by
                obtain ⟨e, a1, a2, a3, a4⟩ := h3 i h
                exact ⟨e, a1, a2, by rw [a3]; simp, by have := a4 h; simpa using this⟩
              have hks := keys_aM h2 (fun i hi => let ⟨e, a1, a2, a3, _⟩ := h3' i hi; ⟨e, a1, a3⟩)
              have hz0 : (zeroValue et).run P w = .ok zv w := by simp [zeroValue, run_typeInfo' hi, hzz]
              have hrun := run_mlook (k := k) (c := false) ht hK h1 hks hz0
              have hrep : Rep w I κ r (((hit k (l.map (·.1)) arr.toList 0).map (·.2)).getD zv) := by
                rcases hit_ok k l arr.toList 0 (by simp [h2]) with ⟨q1, q2, q3⟩ | ⟨i, e, p, q1, q2, q3, q4, q5, q6⟩
                · rw [q1]
                  rw [q2] at hr0
                  have := constA_rep w I κ zv
                  rw [hz] at this; rw [← hr0]; exact this
                · rw [q4]
                  rw [q5] at hr0
                  have q1' : arr[i]? = some e := by simpa using q1
                  have hil : i < l.length := (List.getElem?_eq_some_iff.1 q2).1
                  obtain ⟨e', a1, a2, a3, a4⟩ := h3' i hil
                  rw [q1'] at a1; obtain rfl := Option.some.inj a1
                  have := (List.getElem?_eq_some_iff.1 q2).2
                  rw [this] at a4
                  rw [← hr0]; exact a4
              exact ⟨_, by simp [execOp, ho, ex, g2, hrun], hrep⟩
        · simp at he
      · simp at he
    · simp at he
end Go.Pv
set_option linter.unusedVariables false
set_option linter.unusedSimpArgs false
namespace Go.Pv
open Go.Instr
theorem ba_beq (a b : ByteArray) : (a == b) = decide (a = b) := by
  show (a.data == b.data) = _
  rw [Bool.eq_iff_iff, decide_eq_true_eq, beq_iff_eq]
  exact ⟨fun h => by cases a; cases b; simp at h; subst h; rfl, fun h => by rw [h]⟩
abbrev vkS (a : ByteArray) : Value := .string a
theorem key_str {P : Program} {t : TypeId} (ht : P.underlying t = some .string) : KeyOK P t vkS :=
  key_plain ht (fun b a w => by
    have : ∀ n, (checkKey b (n + 1) t (.string a)).run P w = .ok () w := fun n => by simp [checkKey, run_underlying' ht]
    exact this 9999) (fun a b => by
    simp only [sameNow]
    congr 1
    rw [ba_beq]
    by_cases c : b = a
    · subst c; simp
    · simp [c]; exact fun h => c (Eq.symm h)) (fun a => by simp [sameBits, ba_beq])
end Go.Pv
set_option linter.unusedVariables false
set_option linter.unusedSimpArgs false
namespace Go.Pv
theorem run_eql_ptr {P : Program} {t e : TypeId} (ht : P.underlying t = some (.pointer e)) (p : Option Addr) (w : World) : (binOp .eql t (.pointer p) (.pointer none)).run P w = .ok (.bool p.isNone) w := by
  have h : (Op.equal t (.pointer p) (.pointer none)).run P w = .ok p.isNone w := by
    unfold Op.equal Op.maxDepth
    rw [Op.equalIn]
    cases p <;> simp only [Sem.run_bind, run_underlying' ht, Result.andThen_ok, Sem.run_pure] <;> rfl
  show (do pure (.bool (← Op.equal t (.pointer p) (.pointer none))) : Sem Value).run P w = _
  rw [Sem.run_bind, h]; rfl
end Go.Pv
set_option linter.unusedVariables false
set_option linter.unusedSimpArgs false
namespace Go.Pv
structure Gh where
  B : List Nat
  G : World → (Nat → Prop) → Prop
  mono : ∀ (w w' : World) (I I' : Nat → Prop), (∀ b ∈ B, w'.heap[b]? = w.heap[b]?) → (∀ b, I b → I' b) → (∀ b, I b → w'.heap[b]? = w.heap[b]?) → G w I → G w' I'
structure GInv (Γ : Ctx) (κ : Nat → Option KI) (I : Nat → Prop) (s : AState) (g : Gh) (w : World) : Prop where
  holds : g.G w I
  size : ∀ b ∈ g.B, b < w.heap.size
  dis : ∀ b ∈ g.B, ¬ I b
  obj : ∀ b ∈ g.B, ∀ k o ki, s.obj k = some o → κ k = some ki → ki.b ≠ b
  new : ∀ b ∈ g.B, Γ.M0 b ∨ Γ.w0.heap.size ≤ b
def GSat (Γ : Ctx) (s : AState) (g : Gh) (a : Act) (w : World) : Prop := ∃ κ I, Rel Γ κ I s a w ∧ GInv Γ κ I s g w
def GWp (Γ : Ctx) (c : Code) (Q : Exit → AState → Gh → Prop) (s : AState) (g : Gh) : Prop :=
  ∀ a w, GSat Γ s g a w → c.wp Γ.P (fun e a' w' => ∃ s' g', GSat Γ s' g' a' w' ∧ Q e s' g') a w
theorem GWp.mono {Γ : Ctx} {c : Code} {Q Q' : Exit → AState → Gh → Prop} {s : AState} {g : Gh} (h : GWp Γ c Q s g) (hq : ∀ e s g, Q e s g → Q' e s g) : GWp Γ c Q' s g :=
  fun a w hs => Code.wp_mono (fun e a w ⟨s', g', h1, h2⟩ => ⟨s', g', h1, hq _ _ _ h2⟩) (h a w hs)
theorem GWp.ex {Γ : Ctx} {c : Code} {Q : Exit → AState → Gh → Prop} {s : AState} {g : Gh} {α : Type} {S : α → AState} {G : α → Gh} (hc : ∀ a w, GSat Γ s g a w → ∃ x, GSat Γ (S x) (G x) a w) (h : ∀ x, GWp Γ c Q (S x) (G x)) : GWp Γ c Q s g :=
  fun a w hs => let ⟨x, hx⟩ := hc a w hs; h x a w hx
theorem GWp.skip {Γ : Ctx} {Q : Exit → AState → Gh → Prop} {s : AState} {g : Gh} (h : Q .normal s g) : GWp Γ .skip Q s g := fun a w hs => wp_skip ⟨s, g, hs, h⟩
theorem GWp.exit {Γ : Ctx} {Q : Exit → AState → Gh → Prop} {s : AState} {g : Gh} {id : Nat} (h : Q (.exit id) s g) : GWp Γ (.exit id) Q s g := fun a w hs => wp_exit ⟨s, g, hs, h⟩
theorem GWp.ret {Γ : Ctx} {Q : Exit → AState → Gh → Prop} {s : AState} {g : Gh} (h : Q .ret s g) : GWp Γ .ret Q s g := fun a w hs => wp_ret ⟨s, g, hs, h⟩
def gseqQ (next : AState → Gh → Prop) (Q : Exit → AState → Gh → Prop) : Exit → AState → Gh → Prop
  | .normal, s, g => next s g
  | e, s, g => Q e s g
theorem GWp.seq {Γ : Ctx} {x y : Code} {Q : Exit → AState → Gh → Prop} {s : AState} {g : Gh} (h : GWp Γ x (gseqQ (GWp Γ y Q) Q) s g) : GWp Γ (.seq x y) Q s g := fun a w hs =>
  wp_seq (Code.wp_mono (fun e a w ⟨s', g', h1, h2⟩ => by
    cases e with
    | normal => exact h2 a w h1
    | _ => exact ⟨s', g', h1, h2⟩) (h a w hs))
def gblockQ (id : Nat) (Q : Exit → AState → Gh → Prop) : Exit → AState → Gh → Prop
  | .exit i, s, g => if i = id then Q .normal s g else Q (.exit i) s g
  | e, s, g => Q e s g
theorem GWp.block {Γ : Ctx} {id : Nat} {c : Code} {Q : Exit → AState → Gh → Prop} {s : AState} {g : Gh} (h : GWp Γ c (gblockQ id Q) s g) : GWp Γ (.block id c) Q s g := fun a w hs =>
  wp_block (Code.wp_mono (fun e a w ⟨s', g', h1, h2⟩ => by
    cases e with
    | exit i => simp only [Exit.inBlock]; simp only [gblockQ] at h2; split <;> simp_all <;> exact ⟨s', g', h1, h2⟩
    | _ => exact ⟨s', g', h1, h2⟩) (h a w hs))
theorem GWp.cond {Γ : Ctx} {c : Operand} {x y : Code} {Q : Exit → AState → Gh → Prop} {s : AState} {g : Gh} (b : Bool) (hb : s.eval c = .im (.sc (.bool b)))
    (ht : b = true → GWp Γ x Q s g) (hf : b = false → GWp Γ y Q s g) : GWp Γ (.cond c x y) Q s g := fun a w hs => by
  obtain ⟨κ, I, hr, hg⟩ := hs
  have hc : a.eval c = .bool b := (hb ▸ hr.eval c).sc_inv
  exact wp_cond_split hc (fun h => ht h a w ⟨κ, I, hr, hg⟩) (fun h => hf h a w ⟨κ, I, hr, hg⟩)
def GLWp (Γ : Ctx) (c : Code) (Q : Exit → AState → Gh → Prop) (s : AState) (g : Gh) : Prop :=
  ∀ a w, GSat Γ s g a w → ∀ (b : Frame) (k : List Go.Item) (cs : List Frame),
    ∃ e a' w', (∃ s' g', GSat Γ s' g' a' w' ∧ Q e s' g') ∧ Arrives Γ.P (lone (b.at a (.code c :: .inLoop c :: k)) cs w) b k cs e a' w'
theorem GLWp.round {Γ : Ctx} {c : Code} {Q : Exit → AState → Gh → Prop} {s : AState} {g : Gh} (h : GWp Γ c (gseqQ (GLWp Γ c Q) Q) s g) : GLWp Γ c Q s g := by
  intro a w hs b k cs
  obtain ⟨e, a₁, w₁, ⟨s', g', h1, h2⟩, harr⟩ := h a w hs b (.inLoop c :: k) cs
  cases e with
  | normal =>
    obtain ⟨e₂, a₂, w₂, hq₂, harr₂⟩ := h2 a₁ w₁ h1 b k cs
    exact ⟨e₂, a₂, w₂, hq₂, .of_steps (Steps.trans harr (.one step_inLoop)) harr₂⟩
  | exit id => exact ⟨_, a₁, w₁, ⟨s', g', h1, h2⟩, .pass (x := .inLoop c) rfl (fun _ _ => .inl (by simp)) harr⟩
  | goto l => exact ⟨_, a₁, w₁, ⟨s', g', h1, h2⟩, .pass (x := .inLoop c) rfl (fun _ _ => .inl (by simp)) harr⟩
  | ret => exact ⟨_, a₁, w₁, ⟨s', g', h1, h2⟩, .pass (x := .inLoop c) rfl (fun _ _ => .inl (by simp)) harr⟩
  | panic ch => exact ⟨_, a₁, w₁, ⟨s', g', h1, h2⟩, .pass (x := .inLoop c) rfl (fun _ _ => .inl (by simp)) harr⟩
  | outgrown => exact ⟨_, a₁, w₁, ⟨s', g', h1, h2⟩, .pass (x := .inLoop c) rfl (fun _ _ => .inl (by simp)) harr⟩
theorem GWp.loop {Γ : Ctx} {c : Code} {Q : Exit → AState → Gh → Prop} {s : AState} {g : Gh} (h : GLWp Γ c Q s g) : GWp Γ (.loop c) Q s g := fun a w hs b k cs =>
  let ⟨e, a', w', hq, harr⟩ := h a w hs b k cs
  ⟨e, a', w', hq, .of_steps (.one step_loop) harr⟩
theorem GLWp.ex {Γ : Ctx} {c : Code} {Q : Exit → AState → Gh → Prop} {s : AState} {g : Gh} {α : Type} {S : α → AState} {G : α → Gh} (hc : ∀ a w, GSat Γ s g a w → ∃ x, GSat Γ (S x) (G x) a w) (h : ∀ x, GLWp Γ c Q (S x) (G x)) : GLWp Γ c Q s g :=
  fun a w hs => let ⟨x, hx⟩ := hc a w hs; h x a w hx
theorem ORep.lt {w : World} {I : Nat → Prop} {κ : Nat → Option KI} {ki : KI} {o : MObj} (h : ORep w I κ ki o) : ki.b < w.heap.size := by
  have key : ∀ x, w.heap[ki.b]? = some x → ki.b < w.heap.size := fun x e => (Array.getElem?_eq_some_iff.1 e).1
  cases o with
  | row sz el es => obtain ⟨_, _, _, arr, h3, _⟩ := h; exact key _ h3
  | box el cells => obtain ⟨_, _, arr, h3, _⟩ := h; exact key _ h3
  | map es => obtain ⟨arr, h1, _⟩ := h; exact key _ h1
  | iter m n sn => obtain ⟨bm, h1, _⟩ := h; exact key _ h1
  | arow sz el es fs => obtain ⟨_, _, _, arr, h3, _⟩ := h; exact key _ h3
  | amap ks xs => obtain ⟨_, arr, h3, _⟩ := h; exact key _ h3
  | dmap es => obtain ⟨arr, h1, _⟩ := h; exact key _ h1
theorem GWp.frame {Γ : Ctx} {c : Code} {Q : Exit → AState → Gh → Prop} {s : AState} {g : Gh}
    (h : ∀ Γ' : Ctx, Γ'.P = Γ.P → Γ'.n = Γ.n → AWp Γ' c (fun e s' => s'.floor = s.floor ∧ Q e s' g) s) : GWp Γ c Q s g := by
  rintro a w ⟨κ, I, hr, hg⟩
  have hdis : ∀ b, I b → ¬ entryM κ s b := fun b hb ⟨k, o, ki, h1, h2, h3⟩ => hr.inv.disj k o ki h1 h2 (h3 ▸ hb)
  have glob : GlobOK Γ.P I (entryM κ s) w := fun x cs e => by
    obtain ⟨h1, h2, h3⟩ := hr.inv.tab e
    exact ⟨h1, hdis x h1, h2, h3⟩
  let Γ' : Ctx := { P := Γ.P, n := Γ.n, w0 := w, I0 := I, M0 := entryM κ s, κ0 := κ, glob := glob }
  have sat : Sat Γ' s a w := ⟨κ, I, hr.size, hr.defers, hr.slots, hr.inv.objs, hr.inv.inj, hr.inv.disj, hr.inv.bound, Keeps.refl _ _, fun _ h => h, fun b h => .inl h, fun k o ki h1 h2 => .inl ⟨k, o, ki, h1, h2, rfl⟩, fun k hk => rfl⟩
  refine Code.wp_mono (fun e a' w' ⟨s', h1, hfl, h2⟩ => ?_) (h Γ' rfl rfl a w sat)
  obtain ⟨κ', I', r'⟩ := h1
  have hsz : w.heap.size ≤ w'.heap.size := r'.inv.keep.size
  have fromM : ∀ b, entryM κ s b → Γ.M0 b ∨ Γ.w0.heap.size ≤ b := fun b ⟨k, o, ki, h1, h2, h3⟩ => h3 ▸ hr.inv.fromO k o ki h1 h2
  have old : ∀ b, b < w.heap.size → ¬ entryM κ s b → w'.heap[b]? = w.heap[b]? := fun b hb hn => r'.inv.keep.block b hb hn
  have gnot : ∀ b ∈ g.B, ¬ entryM κ s b := fun b hb ⟨k, o, ki, h1, h2, h3⟩ => hg.obj b hb k o ki h1 h2 h3
  refine ⟨s', g, ⟨κ', I', ⟨r'.size, r'.defers, r'.slots, r'.inv.objs, r'.inv.inj, r'.inv.disj, r'.inv.bound, ?_, ?_, ?_, ?_, ?_⟩, ?_, ?_, ?_, ?_, hg.new⟩, h2⟩
  · refine hr.inv.keep.trans r'.inv.keep (fun b hb hm => ?_)
    rcases fromM b hm with h | h
    · exact h
    · omega
  · exact fun b hb => r'.inv.ikeep b (hr.inv.ikeep b hb)
  · intro b hb
    rcases r'.inv.fromI b hb with h | h | h
    · exact hr.inv.fromI b h
    · exact .inr (fromM b h)
    · exact .inr (.inr (Nat.le_trans hr.inv.keep.size h))
  · intro k o ki h1 h2
    rcases r'.inv.fromO k o ki h1 h2 with h | h
    · exact fromM _ h
    · exact .inr (Nat.le_trans hr.inv.keep.size h)
  · intro k hk
    exact (r'.inv.fix k hk).trans (hr.inv.fix k (hfl ▸ hk))
  · exact g.mono w w' I I' (fun b hb => old b (hg.size b hb) (gnot b hb)) (fun b hb => r'.inv.ikeep b hb) (fun b hb => old b (hr.inv.bound b hb) (hdis b hb)) hg.holds
  · exact fun b hb => Nat.lt_of_lt_of_le (hg.size b hb) hsz
  · intro b hb hI
    rcases r'.inv.fromI b hI with h | h | h
    · exact hg.dis b hb h
    · exact gnot b hb h
    · exact absurd (hg.size b hb) (Nat.not_lt.2 h)
  · intro b hb k o ki h1 h2 e
    rcases r'.inv.fromO k o ki h1 h2 with h | h
    · exact gnot b hb (e ▸ h)
    · have := hg.size b hb; rw [e] at h; exact absurd this (Nat.not_lt.2 h)
end Go.Pv
set_option linter.unusedVariables false
set_option linter.unusedSimpArgs false
open Go.RowKit
namespace Go.Pv
def noTabs (P : Program) : Bool := P.globals.toList.all fun x => (tabNamed x.name).isNone
theorem noTabs_ok {P : Program} (h : noTabs P = true) (g : Nat) : globTab P g = none := by
  unfold globTab
  split
  · rename_i x hx
    have := List.all_eq_true.1 h x (by rw [← Array.getElem?_toList] at hx; exact List.mem_of_getElem? hx)
    simpa using this
  · rfl
def TabsAt (P : Program) (w : World) : Prop := ∀ g cs, globTab P g = some cs → g < w.heap.size ∧ ∃ t m, w.heap[g]? = some (.cells cs.toArray t m)
theorem Fn.lawG {P : Program} {f : FuncId} {args : List AVal} {vs : List Value} {w : World} (h : Fn P f args [] 0 (fun x o => x = bV true ∧ o = []))
    (hl : vs.length = args.length) (hreps : ∀ j (h : j < args.length) (h' : j < vs.length), Rep w (fun b => b < w.heap.size) (fun _ => none) (args[j]) (vs[j])) (ht : TabsAt P w) :
    Calls P f vs.toArray w fun e w' => e = .returned (.bool true) ∧ Below w.heap.size w w' := by
  have hg : GlobOK P (fun b => b < w.heap.size) (entryM (fun _ => none) ⟨[], [], 0⟩) w := fun g cs e => ⟨(ht g cs e).1, (fun ⟨k, o, ki, h1, _⟩ => by simp [AState.obj, look] at h1), ht g cs e⟩
  have hinv : Inv (entryCtx P 0 (fun _ => none) (fun b => b < w.heap.size) ⟨[], [], 0⟩ w hg) (fun _ => none) (fun b => b < w.heap.size) ⟨[], [], 0⟩ w := by
    refine ⟨?_, ?_, ?_, fun b h => h, Keeps.refl _ _, fun _ h => h, fun b h => .inl h, ?_, fun _ _ => rfl⟩
    · intro k o h; simp [AState.obj, look] at h
    · intro k k' o o' ki ki' h; simp [AState.obj, look] at h
    · intro k o ki h; simp [AState.obj, look] at h
    · intro k o ki h; simp [AState.obj, look] at h
  refine (h (fun _ => none) (fun b => b < w.heap.size) w vs hl hreps hg hinv).mono ?_
  rintro e w' ⟨v, r, o, κ', I', rfl, ⟨rfl, rfl⟩, hr, hi⟩
  refine ⟨by rw [hr.sc_inv], ?_⟩
  have hM : ∀ b, b < w.heap.size → w'.heap[b]? = w.heap[b]? := fun b hb => hi.keep.block b hb (fun hm => by
    obtain ⟨k, o, ki, h1, _⟩ := hm
    simp [AState.obj, look] at h1)
  exact ⟨hi.keep.os, hi.keep.tape, hi.keep.output, hi.keep.size, hM⟩
theorem Fn.law {P : Program} {f : FuncId} {args : List AVal} {vs : List Value} {w : World} (h : Fn P f args [] 0 (fun x o => x = bV true ∧ o = []))
    (hl : vs.length = args.length) (hreps : ∀ j (h : j < args.length) (h' : j < vs.length), Rep w (fun b => b < w.heap.size) (fun _ => none) (args[j]) (vs[j])) (hn : noTabs P = true := by kernel_rfl) :
    Calls P f vs.toArray w fun e w' => e = .returned (.bool true) ∧ Below w.heap.size w w' :=
  h.lawG hl hreps (fun g cs e => by rw [noTabs_ok hn g] at e; cases e)
end Go.Pv
set_option linter.unusedVariables false
set_option linter.unusedSimpArgs false
namespace Go.Pv
abbrev L (s : ByteArray) : List UInt8 := s.data.toList
end Go.Pv
set_option linter.unusedVariables false
set_option linter.unusedSimpArgs false
namespace Go.Pv
structure FlatA (w : World) (I : Nat → Prop) (κ : Nat → Option KI) (sz : Nat) (gs : List (List AVal)) (vs : List Value) : Prop where
  len : vs.length = gs.length * sz
  el : ∀ i (h : i < gs.length), (gs[i]).length = sz
  at_ : ∀ i (h : i < gs.length) j (h' : j < (gs[i]).length), ∃ v, vs[i * sz + j]? = some v ∧ Rep w I κ ((gs[i])[j]) v
theorem FlatA.nil (w : World) (I : Nat → Prop) (κ : Nat → Option KI) (sz : Nat) : FlatA w I κ sz [] [] := ⟨by simp, fun i h => absurd h (Nat.not_lt_zero _), fun i h => absurd h (Nat.not_lt_zero _)⟩
theorem FlatA.mono {w w' : World} {I I' : Nat → Prop} {κ κ' : Nat → Option KI} {sz : Nat} {gs : List (List AVal)} {vs : List Value} (h : FlatA w I κ sz gs vs) (hI : ∀ b, I b → I' b) (hw : ∀ b, I b → w'.heap[b]? = w.heap[b]?)
    (hk : ∀ k, hasLL k gs = true → κ' k = κ k) : FlatA w' I' κ' sz gs vs :=
  ⟨h.len, h.el, fun i hi j hj => let ⟨v, e, r⟩ := h.at_ i hi j hj; ⟨v, e, r.mono hI hw (fun k hkk => hk k (by
    cases e : hasLL k gs with
    | true => rfl
    | false => rw [hasL_get (hasLL_get e i hi) j hj] at hkk; cases hkk))⟩⟩
theorem Inv.drew {Γ : Ctx} {κ : Nat → Option KI} {I : Nat → Prop} {s : AState} {w : World} (h : Inv Γ κ I s w) : Inv Γ κ I s w.drew := by
  refine ⟨fun k o hk => ?_, h.inj, h.disj, h.bound, ⟨h.keep.os, h.keep.tape, h.keep.output, h.keep.size, h.keep.block⟩, h.ikeep, h.fromI, h.fromO, h.fix⟩
  have := h.objs k o hk
  unfold OAt at this ⊢
  split
  · rename_i e'; rw [e'] at this; exact this
  · rename_i ki' e'; rw [e'] at this; exact this.mono (fun _ h => h) (fun _ _ => rfl) rfl (fun _ _ => rfl)
end Go.Pv
set_option linter.unusedVariables false
set_option linter.unusedSimpArgs false
namespace Go.Pv
def NAt (w : World) (I : Nat → Prop) (sz el : Nat) (v : Value) (es : List (List Im)) (B : List Nat) : Prop :=
  (∃ base, v = .slice base 0 0 ∧ es = [] ∧ B = []) ∨ ∃ ki : KI, B = [ki.b] ∧ v = .slice (some ⟨ki.b, 0, none⟩) ki.len ki.cap ∧ ORep w I (fun _ => none) ki (.row sz el es)
theorem NAt.mono {w w' : World} {I I' : Nat → Prop} {sz el : Nat} {v : Value} {es : List (List Im)} {B : List Nat} (h : NAt w I sz el v es B) (hB : ∀ b ∈ B, w'.heap[b]? = w.heap[b]?) (hI : ∀ b, I b → I' b) (hw : ∀ b, I b → w'.heap[b]? = w.heap[b]?) : NAt w' I' sz el v es B := by
  rcases h with h | ⟨ki, rfl, h2, h3⟩
  · exact .inl h
  · exact .inr ⟨ki, rfl, h2, h3.mono hI hw (hB _ (by simp)) (fun _ _ => rfl)⟩
def nest (sz el : Nat) (u : List Value) (gs : List (List (List Im))) (Bs : List (List Nat)) : Gh where
  B := Bs.flatten
  G w I := u.length = gs.length ∧ Bs.length = gs.length ∧ Bs.flatten.Nodup ∧ ∀ i (h : i < gs.length) (h1 : i < u.length) (h2 : i < Bs.length), NAt w I sz el u[i] gs[i] Bs[i]
  mono w w' I I' hB hI hw h := ⟨h.1, h.2.1, h.2.2.1, fun i h0 h1 h2 => (h.2.2.2 i h0 h1 h2).mono (fun b hb => hB b (List.mem_flatten.2 ⟨_, List.getElem_mem h2, hb⟩)) hI hw⟩
theorem obj_objput (s : AState) (l : List (Nat × Option MObj)) (k : Nat) : (s.objput l).obj k = match look l k with | some o => o | none => s.obj k := by
  show (look (l ++ s.objs) k).getD none = _
  rw [look_append]
  cases look l k <;> rfl
def cellsI (u : List Value) : List (List Im) := u.map fun v => [.sc v]
theorem cellsI_get (u : List Value) (j : Nat) (h : j < (cellsI u).length) : (cellsI u)[j] = [.sc (u[j]'(by simpa [cellsI] using h))] := by simp [cellsI]
theorem ORep.data {w : World} {I : Nat → Prop} {κ : Nat → Option KI} {ki : KI} {sz el : Nat} {es : List (List Im)} (h : ORep w I κ ki (.row sz el es)) {I' : Nat → Prop} (hI : ∀ b, I b → I' b) (hb : I' ki.b) : IRep w I' (.row es) (.slice (some ⟨ki.b, 0, none⟩) ki.len ki.cap) := by
  obtain ⟨h1, h2, h3, arr, h4, h5, h6⟩ := h
  refine .row (sz := sz) (fun i j => (arr[i * sz + j]?).getD undef) h2 hb (by rw [h2]; exact h3) (fun i h => (h6 i h).1) (fun i j hi hj => ?_) (fun i hi j hj => ?_)
  · obtain ⟨e1, e2⟩ := h6 i hi
    obtain ⟨v, e3, _⟩ := e2 j (by rw [e1]; exact hj)
    unfold World.cell?
    simp only [h4, Nat.zero_add, e3]
    rfl
  · obtain ⟨e1, e2⟩ := h6 i hi
    obtain ⟨v, e3, e4⟩ := e2 j hj
    rw [e3]
    exact e4.mono hI (fun _ _ => rfl)
theorem freeze {Γ : Ctx} {s : AState} {u : List Value} {gs : List (List (List Im))} {Bs : List (List Nat)} {sz el k5 e5 x : Nat} (h5 : s.obj k5 = some (.row 1 e5 (cellsI u))) (hx : s.get x = .own k5)
    (a : Act) (w : World) (hs : GSat Γ s (nest sz el u gs Bs) a w) : Sat Γ ⟨[(x, .im (.row (gs.map fun es => [.row es])))], [], s.floor⟩ a w := by
  obtain ⟨κ, I, hr, hg⟩ := hs
  obtain ⟨hu, hB, hnd, hat⟩ := hg.holds
  let I' : Nat → Prop := fun b => I b ∨ (∃ ki, κ k5 = some ki ∧ b = ki.b) ∨ b ∈ Bs.flatten
  have hI : ∀ b, I b → I' b := fun b h => .inl h
  have no : ∀ k o, (⟨[(x, .im (.row (gs.map fun es => [.row es])))], [], s.floor⟩ : AState).obj k = some o → False := fun k o h => by simp [AState.obj, look] at h
  have h0 := hr.inv.objs _ _ h5
  refine ⟨κ, I', hr.size, hr.defers, fun y => ?_, fun k o h => (no k o h).elim, fun k k' o o' ki ki' h => (no k o h).elim, fun k o ki h => (no k o h).elim, ?_, hr.inv.keep, fun b h => .inl (hr.inv.ikeep b h), ?_, fun k o ki h => (no k o h).elim, hr.inv.fix⟩
  · show Rep w I' κ ((look [(x, AVal.im (.row (gs.map fun es => [.row es])))] y).getD .top) _
    rw [look_cons]
    by_cases e : x = y
    · subst e
      rw [if_pos rfl]
      have hv := hr.slots x
      rw [hx] at hv
      unfold OAt at h0
      refine .im ?_
      generalize a.tmps.getD x undef = val at hv ⊢
      cases hv with
      | own0 base e =>
        rw [e] at h0
        obtain ⟨_, _, h0⟩ := h0
        simp at h0
        have : u = [] := by simpa [cellsI] using h0.2.2
        have : gs = [] := List.length_eq_zero_iff.1 (by rw [← hu, this]; rfl)
        rw [this]; exact .row0 base 0
      | own e =>
        rename_i ki
        rw [e] at h0
        obtain ⟨g1, g2, g3, arr, g4, g5, g6⟩ := h0
        have hlen : (cellsI u).length = gs.length := by simp [cellsI, hu]
        have hcell : ∀ i (h : i < u.length), arr[i]? = some u[i] := fun i h => by
          obtain ⟨_, q⟩ := g6 i (by simpa [cellsI] using h)
          obtain ⟨v, e1, e2⟩ := q 0 (by rw [cellsI_get]; simp)
          have : (cellsI u)[i][0]'(by rw [cellsI_get]; simp) = .sc u[i] := by simp [cellsI]
          rw [this] at e2; cases e2
          simpa using e1
        refine .row (sz := 1) (fun i _ => (arr[i]?).getD undef) (by simp [g2, hlen]) (.inr (.inl ⟨ki, e, rfl⟩)) (by rw [g2]; exact g3) (fun i h => by simp) (fun i j hi hj => ?_) (fun i hi j hj => ?_)
        · obtain rfl : j = 0 := by omega
          have hi' : i < u.length := by simpa [hu] using hi
          unfold World.cell?
          simp only [g4, Nat.zero_add, Nat.mul_one, Nat.add_zero, hcell i hi']
          rfl
        · have hi' : i < gs.length := by simpa using hi
          obtain rfl : j = 0 := by simp at hj; exact hj
          rw [hcell i (by omega)]
          simp only [List.getElem_map, List.getElem_cons_zero, Option.getD_some]
          rcases hat i hi' (by omega) (by omega) with ⟨base, e1, e2, e3⟩ | ⟨kj, e1, e2, e3⟩
          · rw [e1, e2]; exact .row0 base 0
          · rw [e2]; exact e3.data hI (.inr (.inr (List.mem_flatten.2 ⟨Bs[i]'(by omega), List.getElem_mem _, by rw [e1]; simp⟩)))
    · rw [if_neg e]; exact .top _
  · intro b hb
    rcases hb with h | ⟨ki, e, rfl⟩ | h
    · exact hr.inv.bound b h
    · unfold OAt at h0; rw [e] at h0; exact h0.lt
    · exact hg.size b h
  · intro b hb
    rcases hb with h | ⟨ki, e, rfl⟩ | h
    · exact hr.inv.fromI b h
    · exact .inr (hr.inv.fromO k5 _ ki h5 e)
    · exact .inr (hg.new b h)
end Go.Pv
set_option linter.unusedVariables false
set_option linter.unusedSimpArgs false
namespace Go.Pv
open Go.Instr
theorem aM_at {K : Type} {vk : K → Value} {l : List (K × AVal)} {w : World} {I : Nat → Prop} {κ : Nat → Option KI} {k : Nat} (h : OAt w I κ k (aM vk l)) : ∃ ki arr, κ k = some ki ∧ w.heap[ki.b]? = some (.map arr l.length) ∧ arr.size = l.length ∧ arr.toList.map (·.key) = (l.map (·.1)).map vk ∧
    ∀ i (h : i < l.length), ∃ e, arr[i]? = some e ∧ e.born = i ∧ e.key = vk (l[i]).1 ∧ Rep w I κ (l[i]).2 e.val := by
  obtain ⟨ki, arr, eκ, h0, h1, h2, h3⟩ := amap_at h
  simp only [List.length_map] at h1 h2 h3
  have h3' : ∀ i (h : i < l.length), ∃ e, arr[i]? = some e ∧ e.born = i ∧ e.key = vk (l[i]).1 ∧ Rep w I κ (l[i]).2 e.val := fun i h => by
    obtain ⟨e, a1, a2, a3, a4⟩ := h3 i h
    exact ⟨e, a1, a2, by rw [a3]; simp, by have := a4 h; simpa using this⟩
  exact ⟨ki, arr, eκ, h1, h2, keys_aM h2 (fun i hi => let ⟨e, a1, a2, a3, _⟩ := h3' i hi; ⟨e, a1, a3⟩), h3'⟩
def xLookA2 {K : Type} [DecidableEq K] (vk : K → Value) (l : List (K × AVal)) (k : K) (r : AVal) (b : Bool) : Ext where
  f P o s := match o.op with
    | .lookup t x y true => match P.underlying t, s.eval x with
      | some (.map kt et), .mown m => match s.obj m, zeroA P et with
        | some (.amap ks xs), some z => some ⟨[m], [], .tup [r, .im (.sc (.bool b))], [], [KeyOK P kt vk, ks = l.map (fun p => vk p.1), xs = l.map (·.2), valA (s.eval y) = some (vk k), (mget l k).getD z = r, (mget l k).isSome = b]⟩
        | _, _ => none
      | _, _ => none
    | _ => none
  ok P o s e he hp := by
    split at he
    · rename_i t x y ho
      split at he
      · rename_i kt et m ht hx
        split at he
        · rename_i ks xs z hm hz
          obtain rfl := Option.some.inj he
          obtain ⟨hK, rfl, rfl, hy, hr0, hb0, _⟩ := hp
          unfold zeroA at hz
          cases hi : P.info? et with
          | none => rw [hi] at hz; simp at hz
          | some i =>
            cases hzz : i.zero with
            | none => rw [hi] at hz; simp [hzz] at hz
            | some zv =>
              rw [hi] at hz
              simp [hzz] at hz
              refine .quiet rfl fun Γ κ I s2 a w hP hr hn => ?_
              have g1 := opd hr hn x (by simp [ho, Op.operands]) hx
              have g2 := valA_rep hy (opd hr hn y (by simp [ho, Op.operands]) rfl)
              have hm2 := (needs_obj hn m (by simp)).trans hm
              obtain ⟨ki, eκ, ex⟩ := mown_inv g1
              obtain ⟨ki', arr, eκ', h1, h2, hks, h3'⟩ := aM_at (l := l) (hr.inv.objs m _ hm2)
              rw [eκ] at eκ'; obtain rfl := Option.some.inj eκ'
              have hz0 : (zeroValue et).run P w = .ok zv w := by simp [zeroValue, run_typeInfo' hi, hzz]
              have hrun := run_mlook (k := k) (c := true) ht hK h1 hks hz0
              have hrep : Rep w I κ r (((hit k (l.map (·.1)) arr.toList 0).map (·.2)).getD zv) ∧ (hit k (l.map (·.1)) arr.toList 0).isSome = b := by
                rcases hit_ok k l arr.toList 0 (by simp [h2]) with ⟨q1, q2, q3⟩ | ⟨i, e, p, q1, q2, q3, q4, q5, q6⟩
                · rw [q1]
                  rw [q2] at hr0 hb0
                  refine ⟨?_, hb0⟩
                  have := constA_rep w I κ zv
                  rw [hz] at this; rw [← hr0]; exact this
                · rw [q4]
                  rw [q5] at hr0 hb0
                  refine ⟨?_, hb0⟩
                  have q1' : arr[i]? = some e := by simpa using q1
                  have hil : i < l.length := (List.getElem?_eq_some_iff.1 q2).1
                  obtain ⟨e', a1, a2, a3, a4⟩ := h3' i hil
                  rw [q1'] at a1; obtain rfl := Option.some.inj a1
                  have := (List.getElem?_eq_some_iff.1 q2).2
                  rw [this] at a4
                  rw [← hr0]; exact a4
              refine ⟨.tuple #[((hit k (l.map (·.1)) arr.toList 0).map (·.2)).getD zv, .bool (hit k (l.map (·.1)) arr.toList 0).isSome], by simp [execOp, ho, ex, g2, hrun], ?_⟩
              refine Rep.tup (vs := [_, _]) rfl (fun j h h' => ?_)
              match j with
              | 0 => exact hrep.1
              | 1 => show Rep _ _ _ (.im (.sc (.bool b))) (.bool _); rw [hrep.2]; exact .im (.sc _)
              | j + 2 => exact absurd h (by simp)
        · simp at he
      · simp at he
    · simp at he
def xLenA (n : Int) : Ext where
  f P o s := match o.op with
    | .call { callee := .builtin .len, args := ⟨[x]⟩, argTypes := ts } => match ts[0]? with
      | some t => match P.underlying t, s.eval x with
        | some (.map _ _), .mown m => match s.obj m with
          | some (.amap ks xs) => some ⟨[m], [], .im (.sc (.int .i64 n)), [], [n = (ks.length : Int)]⟩
          | _ => none
        | _, _ => none
      | none => none
    | _ => none
  ok P o s e he hp := by
    split at he
    · rename_i x ts ho
      split at he
      · rename_i t hts
        split at he
        · rename_i kt et m ht hx
          split at he
          · rename_i ks xs hm
            obtain rfl := Option.some.inj he
            obtain ⟨rfl, _⟩ := hp
            refine .quiet rfl fun Γ κ I s2 a w hP hr hn => ?_
            have g1 := opd hr hn x (by simp [ho, Op.operands, Call.operands]) hx
            have hm2 := (needs_obj hn m (by simp)).trans hm
            obtain ⟨ki, eκ, ex⟩ := mown_inv g1
            obtain ⟨ki', arr, eκ', h0, h1, h2, h3⟩ := amap_at (hr.inv.objs m _ hm2)
            rw [eκ] at eκ'; obtain rfl := Option.some.inj eκ'
            refine ⟨.int .i64 (ks.length : Int), ?_, .im (.sc _)⟩
            simp [execOp, ho, resolve, invoke, builtin, ex, Builtin.len_, hts, run_underlying' ht, run_getMap h1, goInt, h2]
          · simp at he
        · simp at he
      · simp at he
    · simp at he
def xRngA (k n : Nat) : Ext where
  f P o s := match o.op with
    | .range t x => match P.underlying t, s.eval x with
      | some (.map _ _), .mown m => match s.obj m with
        | some (.amap ks xs) => some ⟨[m], [k], .ptr k 0 0, [(k, some (.iter (some m) n []))], [n = ks.length]⟩
        | _ => none
      | _, _ => none
    | _ => none
  ok P o s e he hp := by
    split at he
    · rename_i t x ho
      split at he
      · rename_i kt et m ht hx
        split at he
        · rename_i ks xs hm
          obtain rfl := Option.some.inj he
          obtain ⟨rfl, _⟩ := hp
          refine .of fun Γ κ I s2 a w hP hr hn hf => ?_
          have hfk := hf k (by simp [mkSp])
          have g1 := opd hr hn x (by simp [ho, Op.operands]) hx
          have hm2 := (needs_obj hn m (by simp)).trans hm
          obtain ⟨km, eκ, ex⟩ := mown_inv g1
          obtain ⟨ki', arr, eκ', h0, h1, h2, h3⟩ := amap_at (hr.inv.objs m _ hm2)
          rw [eκ] at eκ'; obtain rfl := Option.some.inj eκ'
          have hmk : m ≠ k := fun e => by rw [e, hfk.2.2.1] at hm2; simp at hm2
          let ki : KI := ⟨w.heap.size, 0, 0, 0⟩
          have hO : ORep (World.alloc' w (.mapIter (some km.b) ks.length #[] ks.length)) I (setK κ k (some ki)) ki (.iter (some m) ks.length []) :=
            ⟨km.b, alloc_new _ _, fun m' e => by obtain rfl := Option.some.inj e; exact ⟨km, (setK_ne _ _ _ hmk).trans eκ, rfl⟩⟩
          obtain ⟨f1, f2, f3⟩ := hr.inv.alloc hfk (ki := ki) rfl hO
          refine ⟨.pointer (some ⟨w.heap.size, 0, none⟩), _, World.alloc' w (.mapIter (some km.b) ks.length #[] ks.length), _, I, .inl rfl, ?_, f1, fun _ h => h, f2, f3, ?_⟩
          · simp [execOp, ho, ex, Instr.range, run_underlying' ht, run_getMap h1, newObj, Sem.run, World.alloc']
          · have := Rep.ptr (w := World.alloc' w (.mapIter (some km.b) ks.length #[] ks.length)) (I := I) (κ := setK κ k (some ki)) (k := k) (e := 0) (j := 0) (ki := ki) (setK_self ..)
            show Rep _ _ _ (.ptr k 0 0) _
            simpa [ki] using this
        · simp at he
      · simp at he
    · simp at he
def xEntA {K : Type} (vk : K → Value) (l : List (K × AVal)) (i : Nat) (p : K × AVal) (ka : AVal) : Ext where
  f P o s := match o.op with
    | .entry x => match s.eval x with
      | .ptr k 0 0 => match s.obj k with
        | some (.iter (some m) n sn) => match s.obj m with
          | some (.amap ks xs) => some ⟨[k, m], [], .tup [ka, p.2], [], [n = ks.length, sn.getLast? = some i, ks = l.map (fun p => vk p.1), xs = l.map (·.2), l[i]? = some p, valA ka = some (vk p.1)]⟩
          | _ => none
        | _ => none
      | _ => none
    | _ => none
  ok P o s e he hp := by
    split at he
    · rename_i x ho
      split at he
      · rename_i k hx
        split at he
        · rename_i m n sn hk
          split at he
          · rename_i ks xs hm
            obtain rfl := Option.some.inj he
            obtain ⟨rfl, hl, rfl, rfl, hp', hka, _⟩ := hp
            refine .quiet rfl fun Γ κ I s2 a w hP hr hn => ?_
            have g1 := opd hr hn x (by simp [ho, Op.operands]) hx
            have hm2 := (needs_obj hn m (by simp)).trans hm
            have hk2 := (needs_obj hn k (by simp)).trans hk
            obtain ⟨km, arr, eκ, h1, h2, hks, h3⟩ := aM_at (l := l) (hr.inv.objs m _ hm2)
            obtain ⟨ki, bm, eκ2, q1, q2⟩ := iter_at (hr.inv.objs k _ hk2)
            obtain ⟨km', e', rfl⟩ := q2 m rfl
            rw [eκ] at e'; obtain rfl := Option.some.inj e'
            have ex := ptr00 g1 eκ2
            obtain ⟨hi, rfl⟩ := List.getElem?_eq_some_iff.1 hp'
            obtain ⟨e, a1, a2, a3, a4⟩ := h3 i hi
            have hnd := born_nodup (arr := arr) (fun j e' he' => by
              have hj : j < arr.size := (Array.getElem?_eq_some_iff.1 he').1
              obtain ⟨e2, b1, b2, _⟩ := h3 j (by omega)
              rw [he'] at b1; obtain rfl := Option.some.inj b1; exact b2)
            have hsn : sn.toArray = sn.dropLast.toArray.push e.born := by
              rw [a2]
              obtain ⟨hne, hlast⟩ := List.getLast?_eq_some_iff.1 hl
              subst hlast
              simp
            rw [hsn] at q1
            have he : e ∈ arr.toList := by
              have := Array.mem_of_getElem? a1; simpa using this
            have hrun := run_entry_at (P := P) w ki.b km.b (l.map fun p => vk p.1).length sn.dropLast.toArray arr l.length e (by simpa using q1) h1 he hnd
            refine ⟨.tuple #[e.key, e.val], by simp [execOp, ho, ex, hrun], ?_⟩
            refine Rep.tup (vs := [_, _]) rfl (fun j h h' => ?_)
            match j with
            | 0 => show Rep _ _ _ ka e.key; rw [a3]; exact valA_mk hka
            | 1 => exact a4
            | j + 2 => exact absurd h (by simp)
          · simp at he
        · simp at he
      · simp at he
    · simp at he
theorem run_neq_ptr {P : Program} {t e : TypeId} (ht : P.underlying t = some (.pointer e)) (p : Option Addr) (w : World) : (binOp .neq t (.pointer p) (.pointer none)).run P w = .ok (.bool !p.isNone) w := by
  have h : (Op.equal t (.pointer p) (.pointer none)).run P w = .ok p.isNone w := by
    unfold Op.equal Op.maxDepth
    rw [Op.equalIn]
    cases p <;> simp only [Sem.run_bind, run_underlying' ht, Result.andThen_ok, Sem.run_pure] <;> rfl
  show (do pure (.bool (!(← Op.equal t (.pointer p) (.pointer none)))) : Sem Value).run P w = _
  rw [Sem.run_bind, h]; rfl
def isNilP : AVal → Option Bool
  | .ptr _ _ _ => some false
  | .im (.sc (.pointer p)) => some p.isNone
  | _ => none
theorem isNilP_rep {w : World} {I : Nat → Prop} {κ : Nat → Option KI} {a : AVal} {v : Value} {b : Bool} (h : Rep w I κ a v) (e : isNilP a = some b) : ∃ p, v = .pointer p ∧ p.isNone = b := by
  unfold isNilP at e
  split at e
  · cases h with | ptr _ => exact ⟨_, rfl, Option.some.inj e⟩
  · have := h.sc_inv; exact ⟨_, this, Option.some.inj e⟩
  · cases e
def xPtrNil (b : Bool) : Ext where
  f P o s := match o.op with
    | .binOp op t x (.const (.pointer none)) _ => match P.underlying t, isNilP (s.eval x), op with
      | some (.pointer _), some c, .eql => some ⟨[], [], .im (.sc (.bool b)), [], [b = c]⟩
      | some (.pointer _), some c, .neq => some ⟨[], [], .im (.sc (.bool b)), [], [b = !c]⟩
      | _, _, _ => none
    | _ => none
  ok P o s e he hp := by
    split at he
    · rename_i op t x t2 ho
      have hc : ∀ a : Act, a.eval (.const (.pointer none)) = .pointer none := fun a => rfl
      split at he
      · rename_i _ _ el c ht hx
        obtain rfl := Option.some.inj he
        obtain ⟨rfl, _⟩ := hp
        refine .quiet rfl fun Γ κ I s2 a w hP hrel hn => ?_
        have g := opd hrel hn x (by simp [ho, Op.operands]) rfl
        obtain ⟨p, ep, rfl⟩ := isNilP_rep g hx
        refine ⟨.bool p.isNone, ?_, .im (.sc _)⟩
        simp only [execOp, ho, ep, hc, eqGuard]
        simp [run_eql_ptr ht]
      · rename_i _ _ el c ht hx
        obtain rfl := Option.some.inj he
        obtain ⟨rfl, _⟩ := hp
        refine .quiet rfl fun Γ κ I s2 a w hP hrel hn => ?_
        have g := opd hrel hn x (by simp [ho, Op.operands]) rfl
        obtain ⟨p, ep, rfl⟩ := isNilP_rep g hx
        refine ⟨.bool !p.isNone, ?_, .im (.sc _)⟩
        simp only [execOp, ho, ep, hc, eqGuard]
        simp [run_neq_ptr ht]
      · simp at he
    · simp at he
theorem amap_at2 {w : World} {I : Nat → Prop} {κ : Nat → Option KI} {k : Nat} {ks : List Value} {xs : List AVal} (h : OAt w I κ k (.amap ks xs)) : ∃ ki arr, κ k = some ki ∧ w.heap[ki.b]? = some (.map arr ks.length) ∧ arr.size = ks.length ∧
    ∀ i (h : i < ks.length), ∃ e, arr[i]? = some e ∧ e.born = i ∧ e.key = ks[i] ∧ True := by
  obtain ⟨ki, arr, e, _, h1, h2, h3⟩ := amap_at h
  exact ⟨ki, arr, e, h1, h2, fun i hi => let ⟨e, a, b, c, _⟩ := h3 i hi; ⟨e, a, b, c, trivial⟩⟩
theorem AWp.nextA {Γ : Ctx} {P : Program} {id : Nat} {o1 o2 : Oper} {Q : Exit → AState → Prop} {s : AState} {x : Operand} (d1 d2 k m : Nat) {n : Nat} {sn : List Nat} {ks : List Value} {xs : List AVal} (hP : Γ.P = P)
    (h1 : o1.op = .next x false) (h2 : o2.op = .extract (.tmp d1) 0) (g1 : o1.guard = none) (g2 : o2.guard = none) (e1 : o1.dst = some d1) (e2 : o2.dst = some d2) (l1 : d1 < Γ.n) (l2 : d2 < Γ.n)
    (hx : s.eval x = .ptr k 0 0) (hk : s.obj k = some (.iter (some m) n sn)) (hm : s.obj m = some (.amap ks xs)) (hn : n = ks.length)
    (h0 : remI n sn = [] → Q .normal ((s.put (some d1) .top).put (some d2) (.im (.sc (.bool false)))))
    (hi : ∀ i A B, remI n sn = A ++ i :: B → remI n (sn ++ [i]) = A ++ B → i < n → Q .normal (((s.objput [(k, some (.iter (some m) n (sn ++ [i])))]).put (some d1) .top).put (some d2) (.im (.sc (.bool true))))) :
    AWp Γ (.region id #[o1, o2] false) Q s := by
  subst hP
  intro a w hs
  refine wp_region_lit ?_
  refine wpList_plain g1 fun K hK => ?_
  obtain ⟨κ, I, hr⟩ := hs
  obtain ⟨km, arr, eκ, q1, q2, q3⟩ := amap_at2 (hr.inv.objs m _ hm)
  obtain ⟨ki, bm, eκ2, r1, r2⟩ := iter_at (hr.inv.objs k _ hk)
  obtain ⟨km', e', rfl⟩ := r2 m rfl
  rw [eκ] at e'; obtain rfl := Option.some.inj e'
  have hrx := hr.eval x
  rw [hx] at hrx
  have ex := ptr00 hrx eκ2
  have hborn : ∀ e ∈ arr.toList, ∃ i, arr[i]? = some e ∧ e.born = i ∧ i < n := by
    intro e he
    obtain ⟨i, hi, rfl⟩ := List.mem_iff_getElem.1 he
    simp only [Array.length_toList] at hi
    obtain ⟨e2, b1, b2, _⟩ := q3 i (by omega)
    have : arr[i]? = some arr[i] := Array.getElem?_eq_getElem hi
    rw [this] at b1; obtain rfl := Option.some.inj b1
    exact ⟨i, by simp, by simpa using b2, by omega⟩
  have step2 : ∀ (s1 : AState) (a1 : Act) (w1 : World) (b : Bool) (vs : List Value), Sat Γ s1 (a1.put (some d1) (.tuple ((.bool b) :: vs).toArray)) w1 → d1 < a1.tmps.size → Q .normal (s1.put (some d2) (.im (.sc (.bool b)))) →
      wpList Γ.P #[o1, o2] (fun e a' w' => ∃ s', Sat Γ s' a' w' ∧ Q e s') [o2] (a1.put (some d1) (.tuple ((.bool b) :: vs).toArray)) w1 := by
    intro s1 a1 w1 b vs hs1 hsz hq
    refine wpList_plain g2 fun K hK => ?_
    have hval : (a1.put (some d1) (.tuple ((.bool b) :: vs).toArray)).eval (.tmp d1) = .tuple ((.bool b) :: vs).toArray := by simp [Act.put, Act.eval, hsz]
    have hgoal := hK ((a1.put (some d1) (.tuple ((.bool b) :: vs).toArray)).put o2.dst (.bool b)) w1 (by
      refine ⟨_, ?_, hq⟩
      rw [e2]
      obtain ⟨κ1, I1, hr1⟩ := hs1
      exact ⟨κ1, I1, Sat.putv hr1 d2 l2 (.im (.sc _))⟩)
    unfold Oper.wp
    simp [execOp, h2, hval, Instr.extract, Result.andThen]
    exact hgoal
  have hmemI : ∀ e, e ∈ (leftOf arr sn.toArray).toList ↔ ∃ i, arr[i]? = some e ∧ e.born = i ∧ i ∈ remI n sn := by
    intro e
    constructor
    · intro he
      have he' : e ∈ arr ∧ e.born ∉ sn := by simpa [leftOf] using he
      obtain ⟨i, b1, b2, b3⟩ := hborn e (by simpa using he'.1)
      refine ⟨i, b1, b2, List.mem_filter.2 ⟨by simpa using b3, ?_⟩⟩
      rw [b2] at he'; simpa using he'.2
    · rintro ⟨i, b1, b2, b3⟩
      obtain ⟨_, b4⟩ := List.mem_filter.1 b3
      have := Array.mem_of_getElem? b1
      have hb4 : i ∉ sn := by simpa using b4
      simp [leftOf, this, b2, hb4]
  have hsz1 : d1 < a.tmps.size := by rw [hr.size]; exact l1
  rcases run_next_at (P := Γ.P) w o1.type ki.b km.b n n sn.toArray arr ks.length r1 q1 (fun e he => by obtain ⟨i, _, b2, b3⟩ := hborn e he; omega) (by omega) with ⟨c0, hrun⟩ | ⟨e, he, w1, hw1, hrun⟩
  · have hrem : remI n sn = [] := by
      refine List.eq_nil_iff_forall_not_mem.2 fun i hi' => ?_
      have hin : i < n := by have := (List.mem_filter.1 hi').1; simpa using this
      obtain ⟨e, b1, b2, _⟩ := q3 i (by omega)
      have := (hmemI e).2 ⟨i, b1, b2, hi'⟩
      have h00 : (leftOf arr sn.toArray).toList = [] := by rw [← List.length_eq_zero_iff]; simpa using c0
      rw [h00] at this; simp at this
    have hg := hK (a.put o1.dst (.tuple #[.bool false])) w (by
      rw [e1]
      exact step2 (s.put (some d1) .top) a w false [] ⟨κ, I, Sat.putv hr d1 l1 (.top _)⟩ hsz1 (h0 hrem))
    unfold Oper.wp
    simp [execOp, h1, ex, hrun, Result.andThen]
    exact hg
  · obtain ⟨i, b1, b2, b3⟩ := (hmemI e).1 he
    obtain ⟨A, B, p1, p2⟩ := remI_push b3
    have hin : i < n := by have := (List.mem_filter.1 b3).1; simpa using this
    have hs1 : ∃ κ I, Rel Γ κ I s a w1 ∧ κ k = some ki ∧ κ m = some km ∧ w1.heap = w.heap := by
      rcases hw1 with rfl | rfl
      · exact ⟨κ, I, hr, eκ2, eκ, rfl⟩
      · have hk' : Keeps Γ.M0 Γ.w0 w.drew := ⟨hr.inv.keep.os, hr.inv.keep.tape, hr.inv.keep.output, hr.inv.keep.size, hr.inv.keep.block⟩
        refine ⟨κ, I, ⟨hr.size, hr.defers, fun x => (hr.slots x).mono (fun _ h => h) (fun _ _ => rfl) (fun _ _ => rfl), ⟨fun k o hko => ?_, hr.inv.inj, hr.inv.disj, hr.inv.bound, hk', hr.inv.ikeep, hr.inv.fromI, hr.inv.fromO, hr.inv.fix⟩⟩, eκ2, eκ, rfl⟩
        have := hr.inv.objs k o hko
        unfold OAt at this ⊢
        split
        · rename_i e; rw [e] at this; exact this
        · rename_i ki e; rw [e] at this; exact this.mono (fun _ h => h) (fun _ _ => rfl) rfl (fun _ _ => rfl)
    obtain ⟨κ1, I1, hr1, f1, f2, f3⟩ := hs1
    let ob : Obj := .mapIter (some km.b) n (sn ++ [e.born]).toArray ks.length
    have hb : ki.b < w1.heap.size := by rw [f3]; exact (Array.getElem?_eq_some_iff.1 r1).1
    have hO : ORep (World.setBlock w1 ki.b ob) I1 κ1 ki (.iter (some m) n (sn ++ [i])) := by
      refine ⟨km.b, by rw [setBlock_get _ _ _ _ hb, if_pos rfl]; simp [ob, b2, hn], fun m' e => by obtain rfl := Option.some.inj e; exact ⟨km, f2, rfl⟩⟩
    obtain ⟨u1, u2⟩ := hr1.inv.update hk f1 hO
    have hr2 : Rel Γ κ1 I1 (s.objput [(k, some (.iter (some m) n (sn ++ [i])))]) a (World.setBlock w1 ki.b ob) :=
      ⟨hr1.size, hr1.defers, fun y => (hr1.slots y).mono (fun _ h => h) u2 (fun _ _ => rfl), u1⟩
    have hg := hK (a.put o1.dst (.tuple #[.bool true, e.key, e.val])) (World.setBlock w1 ki.b ob) (by
      rw [e1]
      exact step2 _ a _ true [e.key, e.val] ⟨κ1, I1, Sat.putv hr2 d1 l1 (.top _)⟩ hsz1 (hi i A B p1 p2 hin))
    unfold Oper.wp
    simp [execOp, h1, ex, hrun, Result.andThen]
    exact hg
theorem AWp.nextA0 {Γ : Ctx} {P : Program} {id : Nat} {o1 o2 : Oper} {Q : Exit → AState → Prop} {s : AState} {x : Operand} (d1 d2 k m : Nat) {n : Nat} {sn : List Nat} {ks : List Value} {xs : List AVal} (hP : Γ.P = P)
    (h1 : o1.op = .next x false) (h2 : o2.op = .extract (.tmp d1) 0) (g1 : o1.guard = none) (g2 : o2.guard = none) (e1 : o1.dst = some d1) (e2 : o2.dst = some d2) (l1 : d1 < Γ.n) (l2 : d2 < Γ.n)
    (hx : s.eval x = .ptr k 0 0) (hk : s.obj k = some (.iter (some m) n sn)) (hm : s.obj m = some (.amap ks xs)) (hn : n = ks.length) (hr : remI n sn = [])
    (h0 : Q .normal ((s.put (some d1) .top).put (some d2) (.im (.sc (.bool false))))) : AWp Γ (.region id #[o1, o2] false) Q s :=
  AWp.nextA d1 d2 k m hP h1 h2 g1 g2 e1 e2 l1 l2 hx hk hm hn (fun _ => h0) (fun i A B hA => by rw [hr] at hA; cases A <;> cases hA)
theorem AWp.nextA1 (i : Nat) {Γ : Ctx} {P : Program} {id : Nat} {o1 o2 : Oper} {Q : Exit → AState → Prop} {s : AState} {x : Operand} (d1 d2 k m : Nat) {n : Nat} {sn : List Nat} {ks : List Value} {xs : List AVal} (hP : Γ.P = P)
    (h1 : o1.op = .next x false) (h2 : o2.op = .extract (.tmp d1) 0) (g1 : o1.guard = none) (g2 : o2.guard = none) (e1 : o1.dst = some d1) (e2 : o2.dst = some d2) (l1 : d1 < Γ.n) (l2 : d2 < Γ.n)
    (hx : s.eval x = .ptr k 0 0) (hk : s.obj k = some (.iter (some m) n sn)) (hm : s.obj m = some (.amap ks xs)) (hn : n = ks.length) (hr : remI n sn = [i])
    (hi : Q .normal (((s.objput [(k, some (.iter (some m) n (sn ++ [i])))]).put (some d1) .top).put (some d2) (.im (.sc (.bool true))))) : AWp Γ (.region id #[o1, o2] false) Q s :=
  AWp.nextA d1 d2 k m hP h1 h2 g1 g2 e1 e2 l1 l2 hx hk hm hn (fun h => by rw [hr] at h; cases h) (fun j A B hA _ _ => by
    rw [hr] at hA
    cases A with
    | nil => obtain ⟨rfl, _⟩ := List.cons.inj hA; exact hi
    | cons a A => obtain ⟨_, h⟩ := List.cons.inj hA; cases A <;> cases h)
theorem run_ptr_same {P : Program} {t e : TypeId} {ag : Bool} {sz : Nat} (ht : P.underlying t = some (.pointer e)) (hsz : aggP P e = some (ag, sz)) (a : Addr) (w : World) : (Op.equal t (.pointer (some a)) (.pointer (some a))).run P w = .ok true w := by
  unfold Op.equal Op.maxDepth
  rw [Op.equalIn]
  by_cases h0 : sz = 0
  · simp [run_underlying' ht, run_sizeOf' hsz, h0]
  · simp [run_underlying' ht, run_sizeOf' hsz, h0, sameAddr]
def xPtrSame : Ext where
  f P o s := match o.op with
    | .binOp op t x y _ => match P.underlying t, s.eval x, s.eval y, op with
      | some (.pointer e), .ptr k 0 0, .ptr k' 0 0, .neq => match Nat.beq k k', aggP P e with
        | true, some _ => some ⟨[], [], .im (.sc (.bool false)), [], []⟩
        | _, _ => none
      | _, _, _, _ => none
    | _ => none
  ok P o s e he hp := by
    split at he
    · rename_i op t x y t2 ho
      split at he
      · rename_i _ el k k' ht hx hy
        split at he
        · rename_i ags hb hsz
          obtain rfl := Nat.eq_of_beq_eq_true hb
          obtain rfl := Option.some.inj he
          refine .quiet rfl fun Γ κ I s2 a w hP hrel hn => ?_
          have g := opd hrel hn x (by simp [ho, Op.operands]) hx
          have g' := opd hrel hn y (by simp [ho, Op.operands]) hy
          have key : ∃ ki, κ k = some ki := by
            generalize a.eval x = v at g
            cases g with
            | ptr e => exact ⟨_, e⟩
          obtain ⟨ki, eκ⟩ := key
          have e1 := ptr00 g eκ
          have e2 := ptr00 g' eκ
          refine ⟨.bool false, ?_, .im (.sc _)⟩
          simp only [execOp, ho, e1, e2, eqGuard]
          simp [binOp, run_ptr_same (ag := ags.1) (sz := ags.2) ht hsz]
        · simp at he
      · simp at he
    · simp at he
theorem freeze_other' {w : World} {b off n : Nat} : (∀ c, c ≠ b → (w.freeze ⟨b, off, none⟩ n).heap[c]? = w.heap[c]?) ∧ (w.freeze ⟨b, off, none⟩ n).heap.size = w.heap.size ∧ (w.freeze ⟨b, off, none⟩ n).os = w.os ∧ (w.freeze ⟨b, off, none⟩ n).tape = w.tape ∧ (w.freeze ⟨b, off, none⟩ n).output = w.output := by
  unfold World.freeze
  split
  · exact ⟨fun _ _ => rfl, rfl, rfl, rfl, rfl⟩
  · exact ⟨fun c hc => by simp [Array.getElem?_modify, Ne.symm hc], by simp, rfl, rfl, rfl⟩
def xMark : Ext where
  f P o s := match o.op with
    | .convert st t x => match P.underlying st, P.underlying t, s.eval x, Nat.beq st t with
      | some (.slice _), some (.slice e), .own k, true => match P.underlying e, s.obj k with
        | some (.int .u8), some (.row sz el (c :: es)) => some ⟨[k], [], .im (.row (c :: es)), [(k, none)], []⟩
        | _, _ => none
      | _, _, _, _ => none
    | _ => none
  ok P o s e he hp := by
    split at he
    · rename_i st t x ho
      split at he
      · rename_i e0 e1 k hst ht hx hb
        obtain rfl := Nat.eq_of_beq_eq_true hb
        split at he
        · rename_i sz el c es hu hk
          obtain rfl := Option.some.inj he
          rw [hst] at ht; cases ht
          refine .of fun Γ κ I s2 a w hP hrel hn hf => ?_
          have g := opd hrel hn x (by simp [ho, Op.operands]) hx
          have hk2 := (needs_obj hn k (by simp)).trans hk
          have hO := hrel.inv.objs k _ hk2
          generalize ha : a.eval x = v at g
          cases g with
          | own0 base e => simp [OAt, e] at hO
          | @own _ ki e =>
            simp only [OAt, e] at hO
            obtain ⟨h1, h2, h3, arr, h4, h5, h6⟩ := hO
            have hrun : (convert st st (.slice (some ⟨ki.b, 0, none⟩) ki.len ki.cap)).run P w = .ok (.slice (some ⟨ki.b, 0, none⟩) ki.len ki.cap) (w.freeze ⟨ki.b, arr.size, none⟩ 1) := by
              unfold convert
              simp only [Sem.run_bind, run_underlying' hst, run_underlying' hu, Result.andThen_ok, beq_self_eq_true]
              simp [markStringish, run_underlying' hu, World.shape?, h4]
            obtain ⟨f1, f2, f3, f4, f5⟩ := freeze_other' (w := w) (b := ki.b) (off := arr.size) (n := 1)
            obtain ⟨i1, i2⟩ := hrel.inv.freezeBlock hk2 e f1 f2 f3 f4 f5
            have hcell : ∀ j, (w.freeze ⟨ki.b, arr.size, none⟩ 1).cell? ⟨ki.b, j, none⟩ = arr[j]? := fun j => by
              have : ∃ m, (w.freeze ⟨ki.b, arr.size, none⟩ 1).heap[ki.b]? = some (.cells arr el m) := by
                unfold World.freeze
                rw [if_neg (by decide)]
                simp only [Array.getElem?_modify, if_pos rfl, h4]
                exact ⟨_, rfl⟩
              obtain ⟨m, hm⟩ := this
              unfold World.cell?
              simp [hm]
            have hlt : ki.b < w.heap.size := (Array.getElem?_eq_some_iff.1 h4).1
            refine ⟨.slice (some ⟨ki.b, 0, none⟩) ki.len ki.cap, _, w.freeze ⟨ki.b, arr.size, none⟩ 1, κ, fun b => I b ∨ b = ki.b, .inl rfl, by simp only [execOp, ho, ha, Sem.run_bind, hrun, Result.andThen_ok, Sem.run_pure], ⟨fun q o hq => ?_, i1.inj, fun q o kq hq f hb => ?_, fun b hb => ?_, i1.keep, fun b hb => .inl (i1.ikeep b hb), fun b hb => ?_, i1.fromO, i1.fix⟩, fun b hb => .inl hb, i2, fun _ _ _ => rfl, .im ?_⟩
            · have := i1.objs q o hq
              unfold OAt at this ⊢
              cases e' : κ q with
              | none => rw [e'] at this; exact this
              | some kq => rw [e'] at this; exact this.mono (fun b h => .inl h) (fun _ _ => rfl) rfl (fun _ _ => rfl)
            · rcases hb with hb | hb
              · exact i1.disj q o kq hq f hb
              · have hq' : s2.obj q = some o ∧ q ≠ k := by
                  change (look ((k, none) :: s2.objs) q).getD none = _ at hq
                  rw [look_cons] at hq
                  by_cases e' : k = q
                  · rw [if_pos e'] at hq; simp at hq
                  · rw [if_neg e'] at hq; exact ⟨hq, fun h => e' h.symm⟩
                exact hq'.2 (hrel.inv.inj q k o _ kq ki hq'.1 hk2 f e hb)
            · rcases hb with hb | hb
              · exact i1.bound b hb
              · subst hb; rw [f2]; exact hlt
            · rcases hb with hb | hb
              · exact i1.fromI b hb
              · subst hb
                rcases hrel.inv.fromO k _ ki hk2 e with h | h
                · exact .inr (.inl h)
                · exact .inr (.inr h)
            · refine IRep.row (sz := sz) (off := 0) (fun i j => arr.getD (i * sz + j) undef) (by rw [h2]) (.inr rfl) (by rw [h2]; exact h3) (fun i hi => (h6 i hi).1) (fun i j hi hj => ?_) (fun i hi j hj => ?_)
              · obtain ⟨v, q1, q2⟩ := (h6 i hi).2 j (by rw [(h6 i hi).1]; exact hj)
                rw [hcell, Nat.zero_add, q1]
                simp [Array.getD_eq_getD_getElem?, q1]
              · obtain ⟨v, q1, q2⟩ := (h6 i hi).2 j hj
                have : arr.getD (i * sz + j) undef = v := by simp [Array.getD_eq_getD_getElem?, q1]
                rw [this]
                exact q2.mono (fun b h => .inl h) i2
        · simp at he
      · simp at he
    · simp at he
theorem look_same (f : Nat → Option MObj) : ∀ (l : List (Nat × Nat)) (k : Nat), look (l.map fun p => (p.1, f p.1)) k = if k ∈ l.map (·.1) then some (f k) else none := by
  intro l k
  induction l with
  | nil => rfl
  | cons p l ih =>
    rw [List.map_cons, look_cons, ih]
    by_cases e : p.1 = k
    · subst e; simp
    · have : ¬ k = p.1 := fun h => e h.symm
      rw [if_neg e, List.map_cons]
      simp only [List.mem_cons, this, false_or]
theorem look_same0 : ∀ (l : List (Nat × Nat)) (k : Nat), k ∉ l.map (·.1) → look (l.map fun p => (p.1, (none : Option MObj))) k = none := by
  intro l k h
  induction l with
  | nil => rfl
  | cons p l ih =>
    simp only [List.map_cons, List.mem_cons, not_or] at h
    rw [List.map_cons, look_cons, if_neg (fun e => h.1 e.symm), ih h.2]
theorem OpOK.still {P : Program} {o : Oper} {s : AState} {keys news : List Nat} {res : AVal} (inv : List (Nat × Nat)) {post : List (Nat × Option MObj)} (hp : post = (inv.map fun p => (p.1, s.obj p.1)) ++ inv.map fun p => (p.1, none)) (hk : ∀ p ∈ inv, p.1 ∈ keys)
    (h : OpOK P o (mkSp s o keys news res post)) : OpOK P o (mkSp s o keys news res []) := by
  intro Γ hP hd s2 a w hs hn hf K Q hK
  refine h Γ hP hd s2 a w hs hn hf K Q (fun a' w' h' => hK a' w' (h'.eqv ⟨fun x => ?_, fun k => ?_, ?_⟩))
  · simp only [Sp.act, mkSp]
    cases o.dst with
    | none => rfl
    | some d => rw [AState.get_put, AState.get_put]; rfl
  · have e1 : ∀ (s : AState) (d : Option Nat) (v : AVal) (k : Nat), (s.put d v).obj k = s.obj k := fun s d v k => by cases d <;> rfl
    simp only [Sp.act, mkSp, e1, obj_objput, hp, look_append, look_same]
    by_cases c : k ∈ inv.map (·.1)
    · obtain ⟨p, hp', rfl⟩ := List.mem_map.1 c
      have h2 : s2.obj p.1 = s.obj p.1 := hn.2 (p.1, s.obj p.1) (List.mem_map.2 ⟨p.1, hk p hp', rfl⟩)
      rw [if_pos c]
      show s.obj p.1 = _
      rw [h2]; rfl
    · rw [if_neg c, look_same0 _ _ c]; rfl
  · simp only [Sp.act, mkSp]
    cases o.dst <;> rfl
def xCallQ (inv : List (Nat × Nat)) (floor : Nat) (r : AVal) (objs : List (Nat × Option MObj)) : Ext where
  f P o s := match o.op with
    | .call { callee := .value fo, args := ags, argTypes := ts } => match autoCallT P (fun x => x) inv (swapL inv) [] [] floor r objs s fo ags with
      | some e => some ⟨e.keys, e.news, e.res, [], (e.post = (inv.map fun p => (p.1, s.obj p.1)) ++ inv.map fun p => (p.1, none)) :: e.props⟩
      | none => none
    | _ => none
  ok P o s e he hp := by
    split at he
    · rename_i fo ags ts ho
      split at he
      · rename_i e' he'
        obtain rfl := Option.some.inj he
        obtain ⟨h1, h2⟩ := hp
        refine OpOK.still inv h1 ?_ (autoCallT_ok (fun _ _ _ _ _ h => h) ho he' h2)
        unfold autoCallT at he'
        split at he'
        · split at he'
          · split at he'
            · obtain rfl := Option.some.inj he'
              exact fun p hp => List.mem_append_left _ (List.mem_map.2 ⟨p, hp, rfl⟩)
            · simp at he'
          · simp at he'
        · simp at he'
      · simp at he
    · simp at he
end Go.Pv
set_option linter.unusedVariables false
set_option linter.unusedSimpArgs false
namespace Go.Pv
open Go.Instr Go.RowKit Go.Maps Go.Proofs Go.ChangeShapes Go.WideShapes Go.MapKept Go.ChangeMaps
open Go.WideElems (rd rg Fit)
theorem Fn.below {P : Program} {f : FuncId} {vs : List Value} {r : Value} {floor : Nat}
    (h : ∀ (w : World), Calls P f vs.toArray w fun e w' => e = .returned r ∧ Below w.heap.size w w') :
    Fn P f (vs.map fun v => .im (.sc v)) [] floor (fun x o => x = .im (.sc r) ∧ o = []) := by
  intro κ I w vs' hl hreps hg hinv
  have hvs : vs' = vs := by
    apply List.ext_getElem (by simpa using hl)
    intro j h1 h2
    have := hreps j (by simpa using h2) h1
    rw [List.getElem_map] at this
    exact this.sc_inv
  subst hvs
  refine (h w).mono ?_
  rintro e w' ⟨rfl, hb⟩
  refine ⟨r, .im (.sc r), [], κ, I, rfl, ⟨rfl, rfl⟩, .im (.sc _), ?_⟩
  have ho : ∀ k, (⟨[], [], floor⟩ : AState).obj k = none := fun k => by simp [AState.obj, look]
  refine ⟨?_, ?_, ?_, fun b hI => Nat.lt_of_lt_of_le (hinv.bound b hI) hb.size, ⟨hb.os, hb.tape, hb.output, hb.size, fun b hlt _ => hb.block b hlt⟩, fun _ h => h, fun b h => .inl h, ?_, hinv.fix⟩
  · intro k o h; rw [ho] at h; cases h
  · intro k k' o o' ki ki' h; rw [ho] at h; cases h
  · intro k o ki h; rw [ho] at h; cases h
  · intro k o ki h; rw [ho] at h; cases h
theorem ascii_of {l : List UInt8} (h : (l.all fun b => decide (b.toNat < 128)) = true) : ∀ (j : Nat) b, l[j]? = some b → b.toNat < 128 := fun j b e => by
  have := List.all_eq_true.1 h b (List.mem_of_getElem? e)
  simpa using this
theorem Inv.grown1 {P : Program} {κ : Nat → Option KI} {I : Nat → Prop} {objs : List (Nat × Option MObj)} {floor : Nat} {w w' : World} (hg : GlobOK P I (entryM κ ⟨[], objs, floor⟩) w) (h : Inv (entryCtx P 0 κ I ⟨[], objs, floor⟩ w hg) κ I ⟨[], objs, floor⟩ w)
    (hB : Below w.heap.size w w') (k : Nat) (ki : KI) (o : MObj) (hk : floor ≤ k) (hno : look objs k = none) (hfr : ∀ q o', (⟨[], objs, floor⟩ : AState).obj q = some o' → o'.has k = false) (hb : w.heap.size ≤ ki.b) (hlt : ki.b < w'.heap.size) (hO : ORep w' I (setK κ k (some ki)) ki o) :
    Inv (entryCtx P 0 κ I ⟨[], objs, floor⟩ w hg) (setK κ k (some ki)) I ⟨[], objs ++ [(k, some o)], floor⟩ w' ∧ ∀ b, I b → w'.heap[b]? = w.heap[b]? := by
  have hI : ∀ b, I b → w'.heap[b]? = w.heap[b]? := fun b hb => hB.block b (h.bound b hb)
  have hob : ∀ q o', (⟨[], objs ++ [(k, some o)], floor⟩ : AState).obj q = some o' → (q = k ∧ o' = o) ∨ (q ≠ k ∧ (⟨[], objs, floor⟩ : AState).obj q = some o') := fun q o' e => by
    change (look (objs ++ [(k, some o)]) q).getD none = some o' at e
    rw [look_append] at e
    by_cases c : q = k
    · subst c
      rw [hno, look_cons, if_pos rfl] at e
      exact .inl ⟨rfl, (Option.some.inj e).symm⟩
    · right
      refine ⟨c, ?_⟩
      rw [look_cons, if_neg (fun h => c h.symm)] at e
      show (look objs q).getD none = some o'
      cases h1 : look objs q with
      | none => rw [h1] at e; simp [look] at e
      | some v => rw [h1] at e; exact e
  have old : ∀ q o' kq, (⟨[], objs, floor⟩ : AState).obj q = some o' → κ q = some kq → kq.b < w.heap.size := fun q o' kq e f => by
    have := h.objs q o' e
    unfold OAt at this; rw [f] at this
    exact ORep.lt this
  refine ⟨⟨fun q o' e => ?_, fun q q' o1 o2 k1 k2 e1 e2 f1 f2 hbb => ?_, fun q o' kq e f => ?_, fun b hb' => Nat.lt_of_lt_of_le (h.bound b hb') hB.size, ⟨hB.os, hB.tape, hB.output, hB.size, fun b hb' _ => hB.block b hb'⟩, fun _ h => h, fun b h => .inl h, fun q o' kq e f => ?_, fun q hq => ?_⟩, hI⟩
  · rcases hob q o' e with ⟨rfl, rfl⟩ | ⟨c, e⟩
    · unfold OAt; rw [setK_self]; exact hO
    · have h0 := h.objs q o' e
      unfold OAt at h0 ⊢
      rw [setK_ne _ _ _ c]
      cases hk' : κ q with
      | none => rw [hk'] at h0; exact h0
      | some kq => rw [hk'] at h0; exact h0.mono (fun _ h => h) hI (hB.block _ (old q o' kq e hk')) (fun z hz => setK_ne _ _ _ (fun e' => by rw [e', hfr q o' e] at hz; cases hz))
  · rcases hob q o1 e1 with ⟨rfl, rfl⟩ | ⟨c1, e1'⟩ <;> rcases hob q' o2 e2 with ⟨rfl, rfl⟩ | ⟨c2, e2'⟩
    · rfl
    · rw [setK_self] at f1; rw [setK_ne _ _ _ c2] at f2
      cases f1
      have := old q' o2 k2 e2' f2; omega
    · rw [setK_self] at f2; rw [setK_ne _ _ _ c1] at f1
      cases f2
      have := old q o1 k1 e1' f1; omega
    · rw [setK_ne _ _ _ c1] at f1; rw [setK_ne _ _ _ c2] at f2
      exact h.inj q q' o1 o2 k1 k2 e1' e2' f1 f2 hbb
  · rcases hob q o' e with ⟨rfl, rfl⟩ | ⟨c, e⟩
    · rw [setK_self] at f; cases f
      intro hIb; have := h.bound _ hIb; omega
    · rw [setK_ne _ _ _ c] at f; exact h.disj q o' kq e f
  · rcases hob q o' e with ⟨rfl, rfl⟩ | ⟨c, e⟩
    · rw [setK_self] at f; cases f; exact .inr hb
    · rw [setK_ne _ _ _ c] at f; exact h.fromO q o' kq e f
  · rw [setK_ne _ _ _ (by have : q < floor := hq; omega)]; exact h.fix q hq
theorem Fn.mclone {P : Program} {f : FuncId} (h : ∀ (b : Nat) (es : Array MapEntry) (clock : Nat) (w : World), w.heap[b]? = some (.map es clock) → Calls P f #[.map (some b)] w fun e w' => e = .returned (.map (some w.heap.size)) ∧ w' = w.alloc (.map es clock))
    (ks : List Value) (xs : List AVal) (more : List (Nat × Option MObj)) (floor : Nat) (hf : 0 < floor) (hno : look more floor = none) (h0 : look more 0 = none) (hfr : ∀ q o', look more q = some (some o') → o'.has floor = false) (hx : hasL floor xs = false) :
    Fn P f [.mown 0] ((0, some (.amap ks xs)) :: more) floor (fun x o => x = .mown floor ∧ o = ((0, some (.amap ks xs)) :: more) ++ [(floor, some (.amap ks xs))]) := by
  intro κ I w vs hvl hreps hg hinv
  obtain ⟨v, rfl⟩ : ∃ v, vs = [v] := by
    match vs, hvl with
    | [v], _ => exact ⟨v, rfl⟩
  have h0r : Rep w I κ (.mown 0) v := hreps 0 (by simp) (by simp)
  obtain ⟨ki, eκ, rfl⟩ := mown_inv h0r
  have hm := hinv.objs 0 (.amap ks xs) rfl
  obtain ⟨ki', arr, eκ', g0, g1, g2, g3⟩ := amap_at hm
  rw [eκ] at eκ'; obtain rfl := Option.some.inj eκ'
  refine (h ki.b arr ks.length w g1).mono ?_
  rintro e w' ⟨rfl, rfl⟩
  have hB : Below w.heap.size w (w.alloc (.map arr ks.length)) := (Below.refl _ w).alloc (Nat.le_refl _) _
  have hnew : (w.alloc (.map arr ks.length)).heap[w.heap.size]? = some (.map arr ks.length) := by
    show (w.heap.push _)[w.heap.size]? = _
    rw [Array.getElem?_push, if_pos rfl]
  let kn : KI := ⟨w.heap.size, 0, 0, 0⟩
  have hhas : ∀ q o', (⟨[], (0, some (.amap ks xs)) :: more, floor⟩ : AState).obj q = some o' → o'.has floor = false := fun q o' e => by
    change (look ((0, some (.amap ks xs)) :: more) q).getD none = some o' at e
    rw [look_cons] at e
    by_cases c : 0 = q
    · rw [if_pos c] at e; obtain rfl := Option.some.inj e; exact hx
    · rw [if_neg c] at e
      cases h1 : look more q with
      | none => rw [h1] at e; cases e
      | some v => rw [h1] at e; exact hfr q o' (by rw [h1]; exact congrArg some e)
  obtain ⟨i1, i2⟩ := Inv.grown1 hg hinv hB floor kn (.amap ks xs) (Nat.le_refl _) (by rw [look_cons, if_neg (by omega)]; exact hno) hhas (Nat.le_refl _) (by show w.heap.size < (w.heap.push _).size; simp) (by
    refine ⟨g0, arr, hnew, g2, fun i hi => ?_⟩
    obtain ⟨e, a1, a2, a3, a4⟩ := g3 i hi
    refine ⟨e, a1, a2, a3, fun h' => (a4 h').mono (fun _ h => h) (fun b hb => hB.block b (hinv.bound b hb)) (fun z hz => setK_ne _ _ _ (fun e' => by subst e'; rw [hasL_get hx i h'] at hz; cases hz))⟩)
  exact ⟨_, _, _, _, I, rfl, ⟨rfl, rfl⟩, .mown (ki := kn) (setK_self ..), i1⟩
theorem Fn.sorted1 {P : Program} {f g : FuncId} {kt el T : TypeId} (hk : P.underlying kt = some .string)
    (h : ∀ (Bm b : Nat) (D0 : DataW Unit) (R : Value → Option (DataW Unit × List MemPlace)) (w : World), Bm < w.heap.size → w.cell? ⟨Bm, 0, none⟩ = some (.map (some b)) → w.ownsMap P kt R b 1 D0 → Maps.size D0 ≤ 1 →
      Calls P f #[.func (.func g) #[] #[.pointer (some ⟨Bm, 0, none⟩)]] w fun e w' => ∃ (v : Value) (ss : List (List UInt8)), e = .returned v ∧ ss.Perm (strKeys D0) ∧ w'.ownsRow w.heap.size el 1 v ss.length ((ss.mergeSort (fun x y => decide (x ≤ y))).map Proofs.encStr) ∧ Below w.heap.size w w')
    (key : ByteArray) (hs : key.size ≤ 281474976710656) (x : AVal) (more : List (Nat × Option MObj)) (floor : Nat) (hf : 1 < floor) (hno : look more floor = none) (hfr : ∀ q o', look more q = some (some o') → o'.has floor = false) (hx : x.has floor = false) :
    Fn P f [.fn g [.ptr 0 0 0]] ((0, some (.box T [.mown 1])) :: (1, some (.amap [.string key] [x])) :: more) floor (fun r o => r = .own floor ∧ o = ((0, some (.box T [.mown 1])) :: (1, some (.amap [.string key] [x])) :: more) ++ [(floor, some (.row 1 el [[.sc (.string key)]]))]) := by
  intro κ I w vs hvl hreps hg hinv
  obtain ⟨v, rfl⟩ : ∃ v, vs = [v] := by
    match vs, hvl with
    | [v], _ => exact ⟨v, rfl⟩
  have h0r : Rep w I κ (.fn g [.ptr 0 0 0]) v := hreps 0 (by simp) (by simp)
  have hbox := hinv.objs 0 (.box T [.mown 1]) rfl
  have hmap := hinv.objs 1 (.amap [.string key] [x]) rfl
  obtain ⟨k1, arr1, e1, g0, g1, g2, g3⟩ := amap_at hmap
  simp only [List.length_cons, List.length_nil] at g1 g2
  obtain ⟨en, n1, n2, n3, _⟩ := g3 0 (by simp)
  replace n3 : en.key = .string key := n3
  have harr : arr1 = #[en] := by
    apply Array.ext
    · simpa using g2
    · intro j h1 h2
      have hj : j = 0 := by omega
      subst hj
      have := (Array.getElem?_eq_some_iff.1 n1).2
      simpa using this
  obtain ⟨u, k0, e0, rfl, hu⟩ : ∃ u k0, κ 0 = some k0 ∧ v = .func (.func g) #[] #[u] ∧ u = .pointer (some ⟨k0.b, 0, none⟩) := by
    cases h0r with
    | @fn _ _ us hl hr =>
      match us, hl with
      | [u], _ =>
        have hr0 : Rep w I κ (.ptr 0 0 0) u := hr 0 (by simp) (by simp)
        cases hr0 with
        | @ptr _ _ _ ki e => exact ⟨_, ki, e, rfl, by simp⟩
  subst hu
  unfold OAt at hbox
  rw [e0] at hbox
  obtain ⟨b1, b2, arr0, b3, b4, b5⟩ := hbox
  obtain ⟨c0, c1, c2⟩ := b5 0 (by simp)
  replace c2 : Rep w I κ (.mown 1) c0 := c2
  obtain ⟨k1', e1', rfl⟩ := mown_inv c2
  rw [e1] at e1'; obtain rfl := Option.some.inj e1'
  have hlt0 : k0.b < w.heap.size := (Array.getElem?_eq_some_iff.1 b3).1
  have hcell : w.cell? ⟨k0.b, 0, none⟩ = some (.map (some k1.b)) := by unfold World.cell?; simp [b3, c1]
  have hkey : keyOf P kt (.string key) = some (.string key.data.toList) := by
    unfold keyOf mapKey
    rw [hk]
    simp only
    rw [if_pos (by unfold maxLen; omega)]
  have hrd : rd (H := Unit) P kt (fun _ => some (.map [], [])) en = some (.string key.data.toList, .map []) := by
    unfold WideElems.rd; rw [n3, hkey]; rfl
  have hown : w.ownsMap P kt (fun _ => some ((.map [] : DataW Unit), [])) k1.b 1 (.map [(.string key.data.toList, .map [])]) := by
    refine ⟨#[en], 1, by rw [← harr]; exact g1, ⟨by unfold maxLen; simp, ⟨by simp [n2], by simp, by simp⟩, fun y hy => ?_⟩, by simp, ?_⟩
    · obtain rfl : y = en := by simpa using hy
      exact ⟨_, hrd⟩
    · have : WideElems.rg P kt (fun _ => some ((.map [] : DataW Unit), [])) en = (.string key.data.toList, .map []) := by unfold WideElems.rg; rw [hrd]; rfl
      simp [this, DataW.insert]
  refine (h k0.b k1.b _ _ w hlt0 hcell hown (by simp [Maps.size])).mono ?_
  rintro e w' ⟨v, ss, rfl, hperm, hrow, hB⟩
  have hss : ss = [key.data.toList] := by
    have : ss.Perm [key.data.toList] := hperm
    exact List.perm_singleton.1 this
  subst hss
  have hms : ([key.data.toList].mergeSort fun x y => decide (x ≤ y)) = [key.data.toList] := by simp
  rw [hms] at hrow
  obtain ⟨_, ⟨_, hz⟩ | ⟨gb, cap, cur, rfl, r1, r2, r3, r4, r5, r6⟩⟩ := hrow
  · simp at hz
  have hcur : cur[0]? = some (.string key) := by
    have : cur.toList.take 1 = [.string key] := by simpa [Proofs.encStr] using r6
    have h2 := congrArg (fun l => l[0]?) this
    simpa using h2
  have hhas : ∀ q o', (⟨[], (0, some (.box T [.mown 1])) :: (1, some (.amap [.string key] [x])) :: more, floor⟩ : AState).obj q = some o' → o'.has floor = false := fun q o' e => by
    change (look ((0, some (MObj.box T [.mown 1])) :: (1, some (.amap [.string key] [x])) :: more) q).getD none = some o' at e
    rw [look_cons, look_cons] at e
    by_cases c : 0 = q
    · rw [if_pos c] at e; obtain rfl := Option.some.inj e
      have : Nat.beq 1 floor = false := by
        cases e' : Nat.beq 1 floor with
        | false => rfl
        | true => have := Nat.eq_of_beq_eq_true e'; omega
      simp [MObj.has, hasL, AVal.has, this]
    · rw [if_neg c] at e
      by_cases c' : 1 = q
      · rw [if_pos c'] at e; obtain rfl := Option.some.inj e
        simp [MObj.has, hasL, hx]
      · rw [if_neg c'] at e
        cases h1 : look more q with
        | none => rw [h1] at e; cases e
        | some v => rw [h1] at e; exact hfr q o' (by rw [h1]; exact congrArg some e)
  let kn : KI := ⟨gb, cap, 1, 1⟩
  obtain ⟨i1, i2⟩ := Inv.grown1 hg hinv hB floor kn (.row 1 el [[.sc (.string key)]]) (Nat.le_refl _) (by rw [look_cons, look_cons, if_neg (by omega), if_neg (by omega)]; exact hno) hhas r1 (Array.getElem?_eq_some_iff.1 r2).1 (by
    refine ⟨rfl, rfl, r3, cur, r2, r5, fun i hi => ?_⟩
    have hi0 : i = 0 := by simpa using hi
    subst hi0
    refine ⟨rfl, fun j hj => ?_⟩
    have hj0 : j = 0 := by simpa using hj
    subst hj0
    exact ⟨_, hcur, .sc _⟩)
  refine ⟨_, _, _, _, I, rfl, ⟨rfl, rfl⟩, ?_, i1⟩
  exact Rep.own (k := floor) (ki := kn) (setK_self ..)
end Go.Pv
set_option linter.unusedVariables false
set_option linter.unusedSimpArgs false
namespace Go.Pv.GS
section Defs
variable {α : Type} (cmp : α → α → Option Int)
def insertionSort.l1 (a1 : Int) (a2 : Int) (x0 : Int) (x1 : List α) (x2 : Int) : Option (List α) := ((if (decide (x2 > a1)) = true then ((at? x1 x2) >>= fun b3 => (at? x1 (IntKind.i64.wrap (x2 - (1 : Int)))) >>= fun b4 => (cmp b3 b4) >>= fun t5 => some (decide (t5 < (0 : Int)))) else (some false)) : Option (Bool)) >>= fun x6 => if x6 = true then ((at? x1 (IntKind.i64.wrap (x2 - (1 : Int)))) >>= fun b7 => (at? x1 x2) >>= fun b8 => (at? (x1.set (Int.toNat (x2)) b7) (IntKind.i64.wrap (x2 - (1 : Int)))) >>= fun b9 => insertionSort.l1 a1 a2 x0 ((x1.set (Int.toNat (x2)) b7).set (Int.toNat (IntKind.i64.wrap (x2 - (1 : Int)))) b8) (IntKind.i64.wrap (x2 - (1 : Int)))) else (some x1)
partial_fixpoint
def insertionSort.l0 (a1 : Int) (a2 : Int) (x0 : List α) (x1 : Int) : Option (List α) := if (decide (x1 < a2)) = true then ((insertionSort.l1 cmp a1 a2 x1 x0 x1) >>= fun x2 => insertionSort.l0 a1 a2 x2 (IntKind.i64.wrap (x1 + (1 : Int)))) else (some x0)
partial_fixpoint
def insertionSort.f (a0 : List α) (a1 : Int) (a2 : Int) : Option (List α) := (insertionSort.l0 cmp a1 a2 a0 (IntKind.i64.wrap (a1 + (1 : Int)))) >>= fun x0 => some x0
def swapRange.l0 (a1 : Int) (a2 : Int) (a3 : Int) (x0 : List α) (x1 : Int) : Option (List α) := if (decide (x1 < a3)) = true then ((at? x0 (IntKind.i64.wrap (a2 + x1))) >>= fun b2 => (at? x0 (IntKind.i64.wrap (a1 + x1))) >>= fun b3 => (at? (x0.set (Int.toNat (IntKind.i64.wrap (a1 + x1))) b2) (IntKind.i64.wrap (a2 + x1))) >>= fun b4 => swapRange.l0 a1 a2 a3 ((x0.set (Int.toNat (IntKind.i64.wrap (a1 + x1))) b2).set (Int.toNat (IntKind.i64.wrap (a2 + x1))) b3) (IntKind.i64.wrap (x1 + (1 : Int)))) else (some x0)
partial_fixpoint
def swapRange.f (a0 : List α) (a1 : Int) (a2 : Int) (a3 : Int) : Option (List α) := (swapRange.l0 a1 a2 a3 a0 0) >>= fun x0 => some x0
def rotate.l0 (a2 : Int) (x0 : List α) (x1 : Int) (x2 : Int) : Option ((List α) × Int) := if (x1 != x2) = true then (((if (decide (x1 > x2)) = true then ((swapRange.f x0 (IntKind.i64.wrap (a2 - x1)) a2 x2) >>= fun t3 => some (t3, IntKind.i64.wrap (x1 - x2), x2)) else ((swapRange.f x0 (IntKind.i64.wrap (a2 - x1)) (IntKind.i64.wrap ((IntKind.i64.wrap (a2 + x2)) - x1)) x1) >>= fun t4 => some (t4, x1, IntKind.i64.wrap (x2 - x1)))) : Option ((List α) × Int × Int)) >>= fun oo => match oo with | (x5, x6, x7) => (rotate.l0 a2 x5 x6 x7)) else (some (x0, x1))
partial_fixpoint
def rotate.f (a0 : List α) (a1 : Int) (a2 : Int) (a3 : Int) : Option (List α) := (rotate.l0 a2 a0 (IntKind.i64.wrap (a2 - a1)) (IntKind.i64.wrap (a3 - a2))) >>= fun oo => match oo with | (x0, x1) => ((swapRange.f x0 (IntKind.i64.wrap (a2 - x1)) a2 x1) >>= fun t2 => some t2)
def symMerge.l0 (a0 : List α) (a1 : Int) (x0 : Int) (x1 : Int) : Option (Int) := if (decide (x0 < x1)) = true then ((at? a0 (IntKind.i64.wrap (Int.fdiv (IntKind.u64.wrap (IntKind.i64.wrap (x0 + x1))) 2))) >>= fun b2 => (at? a0 a1) >>= fun b3 => (cmp b2 b3) >>= fun t4 => ((if (decide (t4 < (0 : Int))) = true then (some (IntKind.i64.wrap ((IntKind.i64.wrap (Int.fdiv (IntKind.u64.wrap (IntKind.i64.wrap (x0 + x1))) 2)) + (1 : Int)), x1)) else (some (x0, IntKind.i64.wrap (Int.fdiv (IntKind.u64.wrap (IntKind.i64.wrap (x0 + x1))) 2)))) : Option (Int × Int)) >>= fun oo => match oo with | (x5, x6) => (symMerge.l0 a0 a1 x5 x6)) else (some x0)
partial_fixpoint
def symMerge.l1 (x0 : Int) (x1 : List α) (x2 : Int) : Option (List α) := if (decide (x2 < (IntKind.i64.wrap (x0 - (1 : Int))))) = true then ((at? x1 (IntKind.i64.wrap (x2 + (1 : Int)))) >>= fun b3 => (at? x1 x2) >>= fun b4 => (at? (x1.set (Int.toNat (x2)) b3) (IntKind.i64.wrap (x2 + (1 : Int)))) >>= fun b5 => symMerge.l1 x0 ((x1.set (Int.toNat (x2)) b3).set (Int.toNat (IntKind.i64.wrap (x2 + (1 : Int)))) b4) (IntKind.i64.wrap (x2 + (1 : Int)))) else (some x1)
partial_fixpoint
def symMerge.l2 (a0 : List α) (a2 : Int) (x0 : Int) (x1 : Int) : Option (Int) := if (decide (x0 < x1)) = true then ((at? a0 a2) >>= fun b2 => (at? a0 (IntKind.i64.wrap (Int.fdiv (IntKind.u64.wrap (IntKind.i64.wrap (x0 + x1))) 2))) >>= fun b3 => (cmp b2 b3) >>= fun t4 => ((if (!(decide (t4 < (0 : Int)))) = true then (some (IntKind.i64.wrap ((IntKind.i64.wrap (Int.fdiv (IntKind.u64.wrap (IntKind.i64.wrap (x0 + x1))) 2)) + (1 : Int)), x1)) else (some (x0, IntKind.i64.wrap (Int.fdiv (IntKind.u64.wrap (IntKind.i64.wrap (x0 + x1))) 2)))) : Option (Int × Int)) >>= fun oo => match oo with | (x5, x6) => (symMerge.l2 a0 a2 x5 x6)) else (some x0)
partial_fixpoint
def symMerge.l3 (x0 : Int) (x1 : List α) (x2 : Int) : Option (List α) := if (decide (x2 > x0)) = true then ((at? x1 (IntKind.i64.wrap (x2 - (1 : Int)))) >>= fun b3 => (at? x1 x2) >>= fun b4 => (at? (x1.set (Int.toNat (x2)) b3) (IntKind.i64.wrap (x2 - (1 : Int)))) >>= fun b5 => symMerge.l3 x0 ((x1.set (Int.toNat (x2)) b3).set (Int.toNat (IntKind.i64.wrap (x2 - (1 : Int)))) b4) (IntKind.i64.wrap (x2 - (1 : Int)))) else (some x1)
partial_fixpoint
def symMerge.l4 (a0 : List α) (a1 : Int) (a2 : Int) (a3 : Int) (x0 : Int) (x1 : Int) : Option (Int) := if (decide (x0 < x1)) = true then ((at? a0 (IntKind.i64.wrap ((IntKind.i64.wrap ((IntKind.i64.wrap ((IntKind.i64.wrap (Int.fdiv (IntKind.u64.wrap (IntKind.i64.wrap (a1 + a3))) 2)) + a2)) - (1 : Int))) - (IntKind.i64.wrap (Int.fdiv (IntKind.u64.wrap (IntKind.i64.wrap (x0 + x1))) 2))))) >>= fun b2 => (at? a0 (IntKind.i64.wrap (Int.fdiv (IntKind.u64.wrap (IntKind.i64.wrap (x0 + x1))) 2))) >>= fun b3 => (cmp b2 b3) >>= fun t4 => ((if (!(decide (t4 < (0 : Int)))) = true then (some (IntKind.i64.wrap ((IntKind.i64.wrap (Int.fdiv (IntKind.u64.wrap (IntKind.i64.wrap (x0 + x1))) 2)) + (1 : Int)), x1)) else (some (x0, IntKind.i64.wrap (Int.fdiv (IntKind.u64.wrap (IntKind.i64.wrap (x0 + x1))) 2)))) : Option (Int × Int)) >>= fun oo => match oo with | (x5, x6) => (symMerge.l4 a0 a1 a2 a3 x5 x6)) else (some x0)
partial_fixpoint
def symMerge.f (a0 : List α) (a1 : Int) (a2 : Int) (a3 : Int) : Option (List α) := if ((IntKind.i64.wrap (a2 - a1)) == (1 : Int)) = true then ((symMerge.l0 cmp a0 a1 a2 a3) >>= fun x0 => (symMerge.l1 x0 a0 a1) >>= fun x1 => some x1) else (if ((IntKind.i64.wrap (a3 - a2)) == (1 : Int)) = true then ((symMerge.l2 cmp a0 a2 a1 a2) >>= fun x2 => (symMerge.l3 x2 a0 a2) >>= fun x3 => some x3) else (((if (decide (a2 > (IntKind.i64.wrap (Int.fdiv (IntKind.u64.wrap (IntKind.i64.wrap (a1 + a3))) 2)))) = true then (some (IntKind.i64.wrap ((IntKind.i64.wrap ((IntKind.i64.wrap (Int.fdiv (IntKind.u64.wrap (IntKind.i64.wrap (a1 + a3))) 2)) + a2)) - a3), IntKind.i64.wrap (Int.fdiv (IntKind.u64.wrap (IntKind.i64.wrap (a1 + a3))) 2))) else (some (a1, a2))) : Option (Int × Int)) >>= fun oo => match oo with | (x4, x5) => ((symMerge.l4 cmp a0 a1 a2 a3 x4 x5) >>= fun x6 => ((if (decide (x6 < a2)) = true then (some (decide (a2 < (IntKind.i64.wrap ((IntKind.i64.wrap ((IntKind.i64.wrap (Int.fdiv (IntKind.u64.wrap (IntKind.i64.wrap (a1 + a3))) 2)) + a2)) - x6))))) else (some false)) : Option (Bool)) >>= fun x7 => ((if x7 = true then ((rotate.f a0 x6 a2 (IntKind.i64.wrap ((IntKind.i64.wrap ((IntKind.i64.wrap (Int.fdiv (IntKind.u64.wrap (IntKind.i64.wrap (a1 + a3))) 2)) + a2)) - x6))) >>= fun t8 => some t8) else (some a0)) : Option (List α)) >>= fun x9 => ((if (decide (a1 < x6)) = true then (some (decide (x6 < (IntKind.i64.wrap (Int.fdiv (IntKind.u64.wrap (IntKind.i64.wrap (a1 + a3))) 2))))) else (some false)) : Option (Bool)) >>= fun x10 => ((if x10 = true then ((symMerge.f x9 a1 x6 (IntKind.i64.wrap (Int.fdiv (IntKind.u64.wrap (IntKind.i64.wrap (a1 + a3))) 2))) >>= fun t11 => some t11) else (some x9)) : Option (List α)) >>= fun x12 => ((if (decide ((IntKind.i64.wrap (Int.fdiv (IntKind.u64.wrap (IntKind.i64.wrap (a1 + a3))) 2)) < (IntKind.i64.wrap ((IntKind.i64.wrap ((IntKind.i64.wrap (Int.fdiv (IntKind.u64.wrap (IntKind.i64.wrap (a1 + a3))) 2)) + a2)) - x6)))) = true then (some (decide ((IntKind.i64.wrap ((IntKind.i64.wrap ((IntKind.i64.wrap (Int.fdiv (IntKind.u64.wrap (IntKind.i64.wrap (a1 + a3))) 2)) + a2)) - x6)) < a3))) else (some false)) : Option (Bool)) >>= fun x13 => ((if x13 = true then ((symMerge.f x12 (IntKind.i64.wrap (Int.fdiv (IntKind.u64.wrap (IntKind.i64.wrap (a1 + a3))) 2)) (IntKind.i64.wrap ((IntKind.i64.wrap ((IntKind.i64.wrap (Int.fdiv (IntKind.u64.wrap (IntKind.i64.wrap (a1 + a3))) 2)) + a2)) - x6)) a3) >>= fun t14 => some t14) else (some x12)) : Option (List α)) >>= fun x15 => some x15)))
partial_fixpoint
def stable.l0 (a1 : Int) (x0 : List α) (x1 : Int) (x2 : Int) : Option ((List α) × Int) := if (decide (x2 ≤ a1)) = true then ((insertionSort.f cmp x0 x1 x2) >>= fun t3 => stable.l0 a1 t3 x2 (IntKind.i64.wrap (x2 + (20 : Int)))) else (some (x0, x1))
partial_fixpoint
def stable.l2 (a1 : Int) (x0 : Int) (x1 : List α) (x2 : Int) (x3 : Int) : Option ((List α) × Int) := if (decide (x3 ≤ a1)) = true then ((symMerge.f cmp x1 x2 (IntKind.i64.wrap (x2 + x0)) x3) >>= fun t4 => stable.l2 a1 x0 t4 x3 (IntKind.i64.wrap (x3 + (IntKind.i64.wrap ((2 : Int) * x0))))) else (some (x1, x2))
partial_fixpoint
def stable.l1 (a1 : Int) (x0 : List α) (x1 : Int) : Option (List α) := if (decide (x1 < a1)) = true then ((stable.l2 cmp a1 x1 x0 0 (IntKind.i64.wrap ((2 : Int) * x1))) >>= fun oo => match oo with | (x2, x3) => (((if (decide ((IntKind.i64.wrap (x3 + x1)) < a1)) = true then ((symMerge.f cmp x2 x3 (IntKind.i64.wrap (x3 + x1)) a1) >>= fun t4 => some t4) else (some x2)) : Option (List α)) >>= fun x5 => stable.l1 a1 x5 (IntKind.i64.wrap (x1 * (2 : Int))))) else (some x0)
partial_fixpoint
def stable.f (a0 : List α) (a1 : Int) : Option (List α) := (stable.l0 cmp a1 a0 0 20) >>= fun oo => match oo with | (x0, x1) => ((insertionSort.f cmp x0 x1 a1) >>= fun t2 => (stable.l1 cmp a1 t2 20) >>= fun x3 => some x3)
def SortStable.f (a0 : List α) : Option (List α) := (stable.f cmp a0 (a0.length : Int)) >>= fun t0 => some t0
end Defs
section Merge
variable {α : Type} (lt : α → α → Bool)
def mrg : List α → List α → List α
  | [], ys => ys
  | x :: xs, [] => x :: xs
  | x :: xs, y :: ys => if lt y x = true then y :: mrg (x :: xs) ys else x :: mrg xs (y :: ys)
termination_by xs ys => xs.length + ys.length
structure SWO (lt : α → α → Bool) : Prop where
  asymm : ∀ a b, lt a b = true → lt b a = false
  trans : ∀ a b c, lt b a = false → lt c b = false → lt c a = false
variable {lt}
def S (lt : α → α → Bool) (l : List α) : List α := l.foldl (fun acc x => mrg lt acc [x]) []
end Merge
section Run
variable {α : Type} {cmp : α → α → Option Int} {lt : α → α → Bool}
end Run
end Go.Pv.GS
set_option linter.unusedVariables false
set_option linter.unusedSimpArgs false
namespace Go.Pv
open Go
def sortB (l : List ByteArray) : List ByteArray := ((l.map L).mergeSort fun x y => decide (x ≤ y)).map fun x => ⟨x.toArray⟩
theorem mk_L (x : ByteArray) : (⟨(L x).toArray⟩ : ByteArray) = x := by obtain ⟨⟨l⟩⟩ := x; rfl
theorem sortB_len (l : List ByteArray) : (sortB l).length = l.length := by simp [sortB]
theorem Fn.sortStr {P : Program} {f : FuncId} {el : TypeId}
    (h : ∀ (blk off cap : Nat) (ss : List (List UInt8)) (w : World), Sort.Holds Proofs.encStr w blk off ss.toArray → blk < w.heap.size → ss.length < 4611686018427387904 → Calls P f #[.slice (some ⟨blk, off, none⟩) ss.length cap] w fun e w' =>
      e = .returned (.tuple #[]) ∧ ∃ n os, w' = Sort.grow (Sort.putRow Proofs.encStr (Sort.ahead w n) blk off (ss.mergeSort fun x y => decide (x ≤ y)).toArray) os)
    (h0 : ∀ (p : Option Addr) (cap : Nat) (w : World), Calls P f #[.slice p 0 cap] w fun e w' => e = .returned (.tuple #[]) ∧ w' = w)
    (a0 : List ByteArray) (hl : a0.length < 4611686018427387904) :
    Fn P f [.own 0] [(0, some (.row 1 el (a0.map encStr)))] 1 (fun x o => x = .tup [] ∧ o = [(0, some (.row 1 el ((sortB a0).map encStr)))]) := by
  intro κ I w vs hvl hreps hg hinv
  have hob : ∀ l k, (⟨[], [(0, some (.row 1 el l))], 1⟩ : AState).obj k = if 0 = k then some (.row 1 el l) else none := fun l k => by
    show (look [(0, some (MObj.row 1 el l))] k).getD none = _
    rw [look_cons]
    by_cases e : 0 = k
    · rw [if_pos e, if_pos e]; rfl
    · rw [if_neg e, if_neg e]; rfl
  have h0r := hreps 0 (by simp) (by rw [hvl]; simp)
  obtain ⟨v, rfl⟩ : ∃ v, vs = [v] := by
    match vs, hvl with
    | [v], _ => exact ⟨v, rfl⟩
  replace h0r : Rep w I κ (.own 0) v := h0r
  have hrow := hinv.objs 0 _ (by rw [hob]; rfl)
  have same : ∀ (s : Value), a0 = [] → Calls P f #[.slice (match s with | .slice p _ _ => p | _ => none) 0 (match s with | .slice _ _ c => c | _ => 0)] w fun e w' => ∃ v r objs' κ' I', e = .returned v ∧ (r = .tup [] ∧ objs' = [(0, some (.row 1 el ((sortB a0).map encStr)))]) ∧ Rep w' I' κ' r v ∧ Inv (entryCtx P 0 κ I ⟨[], [(0, some (.row 1 el (a0.map encStr)))], 1⟩ w hg) κ' I' ⟨[], objs', 1⟩ w' := fun s he => by
    refine (h0 _ _ w).mono ?_
    rintro e w' ⟨rfl, rfl⟩
    subst he
    rw [show sortB [] = [] by simp [sortB]]
    exact ⟨_, _, _, κ, I, rfl, ⟨rfl, rfl⟩, .tup (vs := []) rfl (fun j h => absurd h (Nat.not_lt_zero _)), hinv⟩
  unfold OAt at hrow
  cases hk : κ 0 with
  | none =>
    rw [hk] at hrow
    obtain ⟨sz, el', he⟩ := hrow
    have hz : a0 = [] := by
      simp only [MObj.row.injEq] at he
      exact List.map_eq_nil_iff.1 he.2.2
    cases h0r with
    | own0 base e => exact same (.slice base 0 0) hz
    | own e => rw [hk] at e; cases e
  | some ki =>
    rw [hk] at hrow
    cases h0r with
    | own0 base e => rw [hk] at e; cases e
    | own e =>
      rw [hk] at e
      obtain rfl := Option.some.inj e
      obtain ⟨q1, q2, q3, arr, q4, q5, q6⟩ := hrow
      have hn : ki.len = a0.length := by rw [q2]; simp
      have hgt : ∀ j (hj : j < a0.length), arr[j]? = some (.string (a0[j])) := fun j hj => by
        obtain ⟨r1, r2⟩ := q6 j (by simpa using hj)
        obtain ⟨v, g1, g2⟩ := r2 0 (by simp)
        rw [Nat.mul_one, Nat.add_zero] at g1
        rw [g1]
        have : ((a0.map encStr)[j]'(by simpa using hj))[0]'(by simp) = .sc (.string (a0[j])) := by simp
        rw [this] at g2
        cases g2; rfl
      have hb : ki.b < w.heap.size := (Array.getElem?_eq_some_iff.1 q4).1
      have hH : Sort.Holds Proofs.encStr w ki.b 0 (a0.map L).toArray := fun j hj => by
        have hj' : j < a0.length := by simpa using hj
        refine ⟨?_, by simp [World.frozen?, q4]⟩
        simp only [World.cell?, q4, Nat.zero_add, Option.isSome_none, Bool.false_eq_true, if_false]
        rw [hgt j hj']
        simp [Proofs.encStr, hj', mk_L]
      have hc := h ki.b 0 ki.cap (a0.map L) w hH hb (by simpa using hl)
      rw [List.length_map, ← hn] at hc
      refine hc.mono ?_
      rintro e w' ⟨rfl, n, os, rfl⟩
      have hself : (Sort.grow (Sort.putRow Proofs.encStr (Sort.ahead w n) ki.b 0 ((a0.map L).mergeSort fun x y => decide (x ≤ y)).toArray) os).heap[ki.b]? = some (.cells (Sort.putCells Proofs.encStr 0 ((a0.map L).mergeSort fun x y => decide (x ≤ y)).toArray arr) el (0, 0)) := heap_sorted _ q4
      have hgb := grownBy_sorted (w := w) (g := ki.b) (n := n) (os := os) (((a0.map L).mergeSort fun x y => decide (x ≤ y)).toArray)
      generalize hw' : Sort.grow (Sort.putRow Proofs.encStr (Sort.ahead w n) ki.b 0 ((a0.map L).mergeSort fun x y => decide (x ≤ y)).toArray) os = w' at *
      obtain ⟨g1, g2, g3, g4, g5⟩ := hgb
      have hnI : ¬ I ki.b := hinv.disj 0 _ ki (by rw [hob]; rfl) hk
      have hI : ∀ b, I b → w'.heap[b]? = w.heap[b]? := fun b hb' => g5 b (hinv.bound b hb') (fun e => hnI (by cases e; exact hb'))
      refine ⟨_, _, _, κ, I, rfl, ⟨rfl, rfl⟩, .tup (vs := []) rfl (fun j h => absurd h (Nat.not_lt_zero _)), ?_⟩
      refine ⟨fun k o hko => ?_, fun k k' o o' ki1 ki2 h1 h2 => ?_, fun k o ki1 h1 h2 => ?_, fun b hb' => Nat.lt_of_lt_of_le (hinv.bound b hb') g4, ⟨g1, g2, g3, g4, fun b hb' hM => g5 b hb' (fun e => hM ?_)⟩, fun _ h => h, fun b h => .inl h, fun k o ki1 h1 h2 => ?_, hinv.fix⟩
      · rw [hob] at hko
        by_cases e0 : 0 = k
        · rw [if_pos e0] at hko
          subst e0
          obtain rfl := Option.some.inj hko
          unfold OAt; rw [hk]
          refine ⟨q1, by rw [q2]; simp [sortB_len], by simpa [sortB_len] using q3, _, hself, by simpa [Sort.putCells] using q5, fun i hi => ⟨by simp [q1], fun j hj => ?_⟩⟩
          have hi' : i < a0.length := by simpa [sortB_len] using hi
          have hj0 : j = 0 := by simpa using hj
          subst hj0
          refine ⟨.string ((sortB a0)[i]'(by rw [sortB_len]; exact hi')), ?_, ?_⟩
          · have hsz : i < arr.size := by
              have := hgt i hi'
              exact (Array.getElem?_eq_some_iff.1 this).1
            rw [Nat.mul_one, Nat.add_zero]
            simp only [Sort.putCells, Array.getElem?_mapIdx, hgt i hi', Option.map_some, Nat.zero_add, Nat.sub_zero, Nat.zero_le, true_and, List.size_toArray, List.length_mergeSort, List.length_map, hi', if_true]
            congr 1
            simp [Proofs.encStr, hi', sortB]
          · have : (((sortB a0).map encStr)[i]'hi)[0]'(by simp) = .sc (.string ((sortB a0)[i]'(by rw [sortB_len]; exact hi'))) := by simp
            rw [this]; exact .sc _
        · rw [if_neg e0] at hko; cases hko
      · rw [hob] at h1 h2
        by_cases e1 : 0 = k
        · by_cases e2 : 0 = k'
          · intro _ _ _; omega
          · rw [if_neg e2] at h2; cases h2
        · rw [if_neg e1] at h1; cases h1
      · rw [hob] at h1
        by_cases e1 : 0 = k
        · subst e1; rw [hk] at h2; cases h2; exact hnI
        · rw [if_neg e1] at h1; cases h1
      · cases e; exact ⟨0, _, ki, by rw [hob]; rfl, hk, rfl⟩
      · rw [hob] at h1
        by_cases e1 : 0 = k
        · subst e1; rw [hk] at h2; cases h2
          exact .inl ⟨0, _, ki, by rw [hob]; rfl, hk, rfl⟩
        · rw [if_neg e1] at h1; cases h1
end Go.Pv
