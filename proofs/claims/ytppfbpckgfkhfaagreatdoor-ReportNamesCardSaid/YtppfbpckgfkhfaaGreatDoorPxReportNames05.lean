import Derived.Lib.ConvBytes
import Derived.Shelf.SlIter.Sorted
import Derived.Shelf.SlMaps.Clone
import Derived.Shelf.Strings.IndexAnyAll
import Derived.Test.YtppfbpckgfkhfaaGreatDoorPxReportNames04
set_option linter.unusedVariables false
set_option linter.unusedSimpArgs false
namespace Go.Pv
open Go.Instr Go.RowKit Go.Maps Go.Proofs Go.ChangeShapes Go.WideShapes Go.MapKept Go.ChangeMaps
open Go.WideElems (rd rg Fit)
theorem Fn.below {P : Program} {f : FuncId} {vs : List Value} {r : Value} {floor : Nat}
    (h : ∀ (w : World), Calls P f vs.toArray w fun e w' => e = .returned r ∧ Below w.heap.size w w') :
    Fn P f (vs.map fun v => .im (.sc v)) [] floor (fun x o => x = .im (.sc r) ∧ o = []) := by
  intro κ I w vs' hl hreps hg hinv
  have hvs : vs' = vs := by
    apply List.ext_getElem (by simpa using hl)
    intro j h1 h2
    have := hreps j (by simpa using h2) h1
    rw [List.getElem_map] at this
    exact this.sc_inv
  subst hvs
  refine (h w).mono ?_
  rintro e w' ⟨rfl, hb⟩
  refine ⟨r, .im (.sc r), [], κ, I, rfl, ⟨rfl, rfl⟩, .im (.sc _), ?_⟩
  have ho : ∀ k, (⟨[], [], floor⟩ : AState).obj k = none := fun k => by simp [AState.obj, look]
  refine ⟨?_, ?_, ?_, fun b hI => Nat.lt_of_lt_of_le (hinv.bound b hI) hb.size, ⟨hb.os, hb.tape, hb.output, hb.size, fun b hlt _ => hb.block b hlt⟩, fun _ h => h, fun b h => .inl h, ?_, hinv.fix⟩
  · intro k o h; rw [ho] at h; cases h
  · intro k k' o o' ki ki' h; rw [ho] at h; cases h
  · intro k o ki h; rw [ho] at h; cases h
  · intro k o ki h; rw [ho] at h; cases h
theorem ascii_of {l : List UInt8} (h : (l.all fun b => decide (b.toNat < 128)) = true) : ∀ (j : Nat) b, l[j]? = some b → b.toNat < 128 := fun j b e => by
  have := List.all_eq_true.1 h b (List.mem_of_getElem? e)
  simpa using this
theorem Inv.grown1 {P : Program} {κ : Nat → Option KI} {I : Nat → Prop} {objs : List (Nat × Option MObj)} {floor : Nat} {w w' : World} (hg : GlobOK P I (entryM κ ⟨[], objs, floor⟩) w) (h : Inv (entryCtx P 0 κ I ⟨[], objs, floor⟩ w hg) κ I ⟨[], objs, floor⟩ w)
    (hB : Below w.heap.size w w') (k : Nat) (oki : Option KI) (o : MObj) (hk : floor ≤ k) (hno : look objs k = none) (hfr : ∀ q o', (⟨[], objs, floor⟩ : AState).obj q = some o' → o'.has k = false) (hb : ∀ ki, oki = some ki → w.heap.size ≤ ki.b ∧ ki.b < w'.heap.size) (hO : OAt w' I (setK κ k oki) k o) :
    Inv (entryCtx P 0 κ I ⟨[], objs, floor⟩ w hg) (setK κ k oki) I ⟨[], objs ++ [(k, some o)], floor⟩ w' ∧ ∀ b, I b → w'.heap[b]? = w.heap[b]? := by
  have hI : ∀ b, I b → w'.heap[b]? = w.heap[b]? := fun b hb => hB.block b (h.bound b hb)
  have hob : ∀ q o', (⟨[], objs ++ [(k, some o)], floor⟩ : AState).obj q = some o' → (q = k ∧ o' = o) ∨ (q ≠ k ∧ (⟨[], objs, floor⟩ : AState).obj q = some o') := fun q o' e => by
    change (look (objs ++ [(k, some o)]) q).getD none = some o' at e
    rw [look_append] at e
    by_cases c : q = k
    · subst c
      rw [hno, look_cons, if_pos rfl] at e
      exact .inl ⟨rfl, (Option.some.inj e).symm⟩
    · right
      refine ⟨c, ?_⟩
      rw [look_cons, if_neg (fun h => c h.symm)] at e
      show (look objs q).getD none = some o'
      cases h1 : look objs q with
      | none => rw [h1] at e; simp [look] at e
      | some v => rw [h1] at e; exact e
  have old : ∀ q o' kq, (⟨[], objs, floor⟩ : AState).obj q = some o' → κ q = some kq → kq.b < w.heap.size := fun q o' kq e f => by
    have := h.objs q o' e
    unfold OAt at this; rw [f] at this
    exact ORep.lt this
  refine ⟨⟨fun q o' e => ?_, fun q q' o1 o2 k1 k2 e1 e2 f1 f2 hbb => ?_, fun q o' kq e f => ?_, fun b hb' => Nat.lt_of_lt_of_le (h.bound b hb') hB.size, ⟨hB.os, hB.tape, hB.output, hB.size, fun b hb' _ => hB.block b hb'⟩, fun _ h => h, fun b h => .inl h, fun q o' kq e f => ?_, fun q hq => ?_⟩, hI⟩
  · rcases hob q o' e with ⟨rfl, rfl⟩ | ⟨c, e⟩
    · exact hO
    · have h0 := h.objs q o' e
      unfold OAt at h0 ⊢
      rw [setK_ne _ _ _ c]
      cases hk' : κ q with
      | none => rw [hk'] at h0; exact h0
      | some kq => rw [hk'] at h0; exact h0.mono (fun _ h => h) hI (hB.block _ (old q o' kq e hk')) (fun z hz => setK_ne _ _ _ (fun e' => by rw [e', hfr q o' e] at hz; cases hz))
  · rcases hob q o1 e1 with ⟨rfl, rfl⟩ | ⟨c1, e1'⟩ <;> rcases hob q' o2 e2 with ⟨rfl, rfl⟩ | ⟨c2, e2'⟩
    · rfl
    · rw [setK_self] at f1; rw [setK_ne _ _ _ c2] at f2
      have := old q' o2 k2 e2' f2; have := (hb _ f1).1; omega
    · rw [setK_self] at f2; rw [setK_ne _ _ _ c1] at f1
      have := old q o1 k1 e1' f1; have := (hb _ f2).1; omega
    · rw [setK_ne _ _ _ c1] at f1; rw [setK_ne _ _ _ c2] at f2
      exact h.inj q q' o1 o2 k1 k2 e1' e2' f1 f2 hbb
  · rcases hob q o' e with ⟨rfl, rfl⟩ | ⟨c, e⟩
    · rw [setK_self] at f
      intro hIb; have := h.bound _ hIb; have := (hb _ f).1; omega
    · rw [setK_ne _ _ _ c] at f; exact h.disj q o' kq e f
  · rcases hob q o' e with ⟨rfl, rfl⟩ | ⟨c, e⟩
    · rw [setK_self] at f; exact .inr (hb _ f).1
    · rw [setK_ne _ _ _ c] at f; exact h.fromO q o' kq e f
  · rw [setK_ne _ _ _ (by have : q < floor := hq; omega)]; exact h.fix q hq
end Go.Pv
set_option linter.unusedVariables false
set_option linter.unusedSimpArgs false
namespace Go.Pv
open Go.Instr Go.RowKit Go.Maps Go.Proofs Go.ChangeShapes Go.WideShapes Go.MapKept Go.ChangeMaps
open Go.WideElems (rd rg Fit)
theorem Fn.mcloneG {P : Program} {f : FuncId} (h : ∀ (b : Nat) (es : Array MapEntry) (clock : Nat) (w : World), w.heap[b]? = some (.map es clock) → Calls P f #[.map (some b)] w fun e w' => e = .returned (.map (some w.heap.size)) ∧ w' = w.alloc (.map es clock))
    (ks : List Value) (xs : List AVal) (bs : List Nat) (c : Nat) (more : List (Nat × Option MObj)) (floor : Nat) (hf : 0 < floor) (hno : look more floor = none) (h0 : look more 0 = none) (hfr : ∀ q o', look more q = some (some o') → o'.has floor = false) (hx : hasL floor xs = false) :
    Fn P f [.mown 0] ((0, some (.gmap ks xs bs c)) :: more) floor (fun x o => x = .mown floor ∧ o = ((0, some (.gmap ks xs bs c)) :: more) ++ [(floor, some (.gmap ks xs bs c))]) := by
  intro κ I w vs hvl hreps hg hinv
  obtain ⟨v, rfl⟩ : ∃ v, vs = [v] := by
    match vs, hvl with
    | [v], _ => exact ⟨v, rfl⟩
  have h0r : Rep w I κ (.mown 0) v := hreps 0 (by simp) (by simp)
  obtain ⟨ki, eκ, rfl⟩ := mown_inv h0r
  have hm := hinv.objs 0 (.gmap ks xs bs c) rfl
  obtain ⟨ki', arr, eκ', g0, p1, p2, p3, p4, g1, g2, g3⟩ := gmap_at hm
  rw [eκ] at eκ'; obtain rfl := Option.some.inj eκ'
  refine (h ki.b arr c w g1).mono ?_
  rintro e w' ⟨rfl, rfl⟩
  have hB : Below w.heap.size w (w.alloc (.map arr c)) := (Below.refl _ w).alloc (Nat.le_refl _) _
  have hnew : (w.alloc (.map arr c)).heap[w.heap.size]? = some (.map arr c) := by
    show (w.heap.push _)[w.heap.size]? = _
    rw [Array.getElem?_push, if_pos rfl]
  let kn : KI := ⟨w.heap.size, 0, 0, 0⟩
  have hhas : ∀ q o', (⟨[], (0, some (.gmap ks xs bs c)) :: more, floor⟩ : AState).obj q = some o' → o'.has floor = false := fun q o' e => by
    change (look ((0, some (.gmap ks xs bs c)) :: more) q).getD none = some o' at e
    rw [look_cons] at e
    by_cases c0 : 0 = q
    · rw [if_pos c0] at e; obtain rfl := Option.some.inj e; exact hx
    · rw [if_neg c0] at e
      cases h1 : look more q with
      | none => rw [h1] at e; cases e
      | some v => rw [h1] at e; exact hfr q o' (by rw [h1]; exact congrArg some e)
  obtain ⟨i1, i2⟩ := Inv.grown1 hg hinv hB floor (some kn) (.gmap ks xs bs c) (Nat.le_refl _) (by rw [look_cons, if_neg (by omega)]; exact hno) hhas (fun ki e => by cases e; exact ⟨Nat.le_refl _, by show w.heap.size < (w.heap.push _).size; simp⟩) (by
    unfold OAt; rw [setK_self]
    refine ⟨g0, p1, p2, p3, p4, arr, hnew, g2, fun i hi => ?_⟩
    obtain ⟨e, a1, a2, a3, a4⟩ := g3 i hi
    refine ⟨e, a1, a2, a3, fun h' => (a4 h').mono (fun _ h => h) (fun b hb => hB.block b (hinv.bound b hb)) (fun z hz => setK_ne _ _ _ (fun e' => by subst e'; rw [hasL_get hx i h'] at hz; cases hz))⟩)
  exact ⟨_, _, _, _, I, rfl, ⟨rfl, rfl⟩, .mown (ki := kn) (setK_self ..), i1⟩
theorem Fn.sortedG {P : Program} {f g : FuncId} {kt el T : TypeId} (hk : P.underlying kt = some .string)
    (h : ∀ (Bm b n : Nat) (D0 : DataW Unit) (R : Value → Option (DataW Unit × List MemPlace)) (w : World), Bm < w.heap.size → w.cell? ⟨Bm, 0, none⟩ = some (.map (some b)) → w.ownsMap P kt R b n D0 → Maps.size D0 ≤ maxLen → Maps.size D0 * 16 ≤ 140737488355328 →
      Calls P f #[.func (.func g) #[] #[.pointer (some ⟨Bm, 0, none⟩)]] w fun e w' => ∃ (v : Value) (ss : List (List UInt8)), e = .returned v ∧ ss.Perm (strKeys D0) ∧ w'.ownsRow w.heap.size el 1 v ss.length ((ss.mergeSort (fun x y => decide (x ≤ y))).map Proofs.encStr) ∧ Below w.heap.size w w')
    (l : List (ByteArray × AVal)) (hl1 : l.length ≤ maxLen) (hl2 : l.length * 16 ≤ 140737488355328) (hs : ∀ p ∈ l, p.1.size ≤ maxLen) (r : List ByteArray) (hr : sortB (l.map (·.1)) = r) (ks : List Value) (xs : List AVal) (bs : List Nat) (c : Nat) (eks : ks = l.map fun p => vkS p.1) (exs : xs = l.map (·.2))
    (more : List (Nat × Option MObj)) (floor : Nat) (hf : 1 < floor) (hno : look more floor = none) (hfr : ∀ q o', look more q = some (some o') → o'.has floor = false) (hx : hasL floor xs = false) (rv : List (List Im)) (hrv : rv = r.map encStr) :
    Fn P f [.fn g [.ptr 0 0 0]] ((0, some (.box T [.mown 1])) :: (1, some (.gmap ks xs bs c)) :: more) floor (fun x o => x = .own floor ∧ o = ((0, some (.box T [.mown 1])) :: (1, some (.gmap ks xs bs c)) :: more) ++ [(floor, some (.row 1 el rv))]) := by
  intro κ I w vs hvl hreps hg hinv
  obtain ⟨v, rfl⟩ : ∃ v, vs = [v] := by
    match vs, hvl with
    | [v], _ => exact ⟨v, rfl⟩
  have h0r : Rep w I κ (.fn g [.ptr 0 0 0]) v := hreps 0 (by simp) (by simp)
  have hbox := hinv.objs 0 (.box T [.mown 1]) rfl
  have hmap := hinv.objs 1 (.gmap ks xs bs c) rfl
  have hmap' : OAt w I κ 1 (gM vkS l bs c) := by rw [eks, exs] at hmap; exact hmap
  obtain ⟨k1, arr1, e1, p1, p2, p3, p4, g1, g2, g3, g4⟩ := gM_at hmap'
  obtain ⟨u, k0, e0, rfl, hu⟩ : ∃ u k0, κ 0 = some k0 ∧ v = .func (.func g) #[] #[u] ∧ u = .pointer (some ⟨k0.b, 0, none⟩) := by
    cases h0r with
    | @fn _ _ us hl hr =>
      match us, hl with
      | [u], _ =>
        have hr0 : Rep w I κ (.ptr 0 0 0) u := hr 0 (by simp) (by simp)
        cases hr0 with
        | @ptr _ _ _ ki e => exact ⟨_, ki, e, rfl, by simp⟩
  subst hu
  unfold OAt at hbox
  rw [e0] at hbox
  obtain ⟨b1, b2, arr0, b3, b4, b5⟩ := hbox
  obtain ⟨c0, c1, c2⟩ := b5 0 (by simp)
  replace c2 : Rep w I κ (.mown 1) c0 := c2
  obtain ⟨k1', e1', rfl⟩ := mown_inv c2
  rw [e1] at e1'; obtain rfl := Option.some.inj e1'
  have hlt0 : k0.b < w.heap.size := (Array.getElem?_eq_some_iff.1 b3).1
  have hcell : w.cell? ⟨k0.b, 0, none⟩ = some (.map (some k1.b)) := by unfold World.cell?; simp [b3, c1]
  have hkey : ∀ (key : ByteArray), key.size ≤ maxLen → keyOf P kt (.string key) = some (.string key.data.toList) := fun key hs => by
    unfold keyOf mapKey
    rw [hk]
    simp only
    rw [if_pos hs]
  have hrd : ∀ i (hi : i < l.length) (e : MapEntry), arr1[i]? = some e → WideElems.rd (H := Unit) P kt (fun _ => some (.map [], [])) e = some (.string (l[i]).1.data.toList, .map []) := fun i hi e he => by
    obtain ⟨e', a1, a2, a3, _⟩ := g4 i hi
    rw [he] at a1; obtain rfl := Option.some.inj a1
    unfold WideElems.rd; rw [a3]
    show (keyOf P kt (.string (l[i]).1)).bind _ = _
    rw [hkey _ (hs _ (List.getElem_mem hi))]; rfl
  have hall : arr1.toList.map (WideElems.rg P kt (fun _ => some ((.map [] : DataW Unit), []))) = l.map fun p => (Lit.string p.1.data.toList, (.map [] : DataW Unit)) := by
    apply List.ext_getElem (by simp [g2])
    intro i h1 h2
    simp only [List.length_map, Array.length_toList] at h1 h2
    simp only [List.getElem_map, Array.getElem_toList]
    unfold WideElems.rg
    rw [hrd i h2 _ (Array.getElem?_eq_getElem h1)]; rfl
  have hown : w.ownsMap P kt (fun _ => some ((.map [] : DataW Unit), [])) k1.b l.length (.map ((l.map fun p => (Lit.string p.1.data.toList, (.map [] : DataW Unit))).foldr DataW.insert [])) := by
    refine ⟨arr1, c, g1, ⟨by rw [g2]; exact hl1, ?_, fun y hy => ?_⟩, by rw [g2]; exact Nat.le_refl _, by rw [hall]⟩
    · have hb : arr1.toList.map (·.born) = bs := borns_eq (by rw [p1, g2]) (fun j hj => let ⟨e2, b1, b2, _⟩ := g4 j (by omega); ⟨e2, b1, b2⟩)
      refine ⟨fun x hx => p3 _ (by rw [← hb]; exact List.mem_map.2 ⟨x, hx, rfl⟩), by rw [hb]; exact p2, by rw [g3, List.map_map]; exact p4⟩
    · obtain ⟨i, hi, rfl⟩ := List.mem_iff_getElem.1 hy
      simp only [Array.length_toList] at hi
      exact ⟨_, hrd i (by omega) _ (by simp [hi])⟩
  have hsz : Maps.size (DataW.map ((l.map fun p => (Lit.string p.1.data.toList, (.map [] : DataW Unit))).foldr DataW.insert [])) = l.length := by
    show List.length _ = _
    rw [(sorted_perm _).length_eq]; simp
  refine (h k0.b k1.b _ _ _ w hlt0 hcell hown (by rw [hsz]; exact hl1) (by rw [hsz]; exact hl2)).mono ?_
  rintro e w' ⟨v, ss, rfl, hperm, hrow, hB⟩
  have hsk : (strKeys (DataW.map ((l.map fun p => (Lit.string p.1.data.toList, (.map [] : DataW Unit))).foldr DataW.insert []))).Perm ((l.map (·.1)).map L) := by
    show (List.map (fun p : Lit × DataW Unit => Go.strOf p.1) _).Perm _
    refine ((sorted_perm _).map _).trans (List.Perm.of_eq ?_)
    rw [List.map_map, List.map_map]; rfl
  have hms : (ss.mergeSort fun x y => decide (x ≤ y)) = r.map L := by
    rw [← hr, sortB_L]; exact mergeSort_of_perm (hperm.trans hsk)
  have hlen : ss.length = r.length := by
    have := congrArg List.length hms
    rw [List.length_mergeSort, List.length_map] at this; exact this
  rw [hms] at hrow
  have hrow2 : w'.ownsRow w.heap.size el 1 v r.length (r.map fun s => Value.string s) := by
    rw [hlen, List.map_map] at hrow
    have : (Proofs.encStr ∘ L) = fun s : ByteArray => Value.string s := by funext s; show Value.string ⟨(L s).toArray⟩ = _; rw [mk_L]
    rwa [this] at hrow
  have hhas : ∀ q o', (⟨[], (0, some (.box T [.mown 1])) :: (1, some (.gmap ks xs bs c)) :: more, floor⟩ : AState).obj q = some o' → o'.has floor = false := fun q o' e => by
    change (look ((0, some (MObj.box T [.mown 1])) :: (1, some (.gmap ks xs bs c)) :: more) q).getD none = some o' at e
    rw [look_cons, look_cons] at e
    by_cases c0 : 0 = q
    · rw [if_pos c0] at e; obtain rfl := Option.some.inj e
      have : Nat.beq 1 floor = false := by
        cases e' : Nat.beq 1 floor with
        | false => rfl
        | true => have := Nat.eq_of_beq_eq_true e'; omega
      simp [MObj.has, hasL, AVal.has, this]
    · rw [if_neg c0] at e
      by_cases c' : 1 = q
      · rw [if_pos c'] at e; obtain rfl := Option.some.inj e
        exact hx
      · rw [if_neg c'] at e
        cases h1 : look more q with
        | none => rw [h1] at e; cases e
        | some v => rw [h1] at e; exact hfr q o' (by rw [h1]; exact congrArg some e)
  have hno' : look ((0, some (MObj.box T [.mown 1])) :: (1, some (MObj.gmap ks xs bs c)) :: more) floor = none := by rw [look_cons, look_cons, if_neg (by omega), if_neg (by omega)]; exact hno
  obtain ⟨_, ⟨rfl, hz⟩ | ⟨gb, cap, cur, rfl, r1, r2, r3, r4, r5, r6⟩⟩ := hrow2
  · have hr0 : r = [] := List.eq_nil_of_length_eq_zero hz
    subst hr0
    obtain rfl : rv = [] := hrv
    obtain ⟨i1, i2⟩ := Inv.grown1 hg hinv hB floor none (.row 1 el []) (Nat.le_refl _) hno' hhas (fun ki e => by cases e) (by unfold OAt; rw [setK_self]; exact ⟨1, el, rfl⟩)
    exact ⟨_, _, _, _, I, rfl, ⟨rfl, rfl⟩, Rep.own0 none (setK_self ..), i1⟩
  · let kn : KI := { b := gb, cap := cap, len := r.length, sz := 1 }
    obtain ⟨i1, i2⟩ := Inv.grown1 hg hinv hB floor (some kn) (.row 1 el rv) (Nat.le_refl _) hno' hhas (fun ki e => by cases e; exact ⟨r1, (Array.getElem?_eq_some_iff.1 r2).1⟩) (by
      unfold OAt; rw [setK_self]
      subst hrv
      refine ⟨rfl, by simp [kn], by simpa using r3, cur, r2, r5, fun i hi => ?_⟩
      simp only [List.length_map] at hi
      refine ⟨by simp [encStr], fun j hj => ?_⟩
      have hj0 : j = 0 := by simpa [encStr] using hj
      subst hj0
      have h6 := congrArg (fun l => l[i]?) r6
      simp only [Nat.mul_one, List.getElem?_take, List.getElem?_map, List.getElem?_eq_getElem hi, Option.map_some] at h6
      rw [if_pos hi] at h6
      refine ⟨.string r[i], by simpa using h6, ?_⟩
      simp only [List.getElem_map, encStr, List.getElem_cons_zero]
      exact .sc _)
    exact ⟨_, _, _, _, I, rfl, ⟨rfl, rfl⟩, Rep.own (k := floor) (ki := kn) (setK_self ..), i1⟩
theorem Fn.sortedNil {P : Program} {f g : FuncId} {el T : TypeId}
    (h : ∀ (Bm : Nat) (w : World), Bm < w.heap.size → w.cell? ⟨Bm, 0, none⟩ = some (.map none) →
      Calls P f #[.func (.func g) #[] #[.pointer (some ⟨Bm, 0, none⟩)]] w fun e w' => e = .returned (.slice none 0 0) ∧ Below w.heap.size w w') :
    Fn P f [.fn g [.ptr 0 0 0]] [(0, some (.box T [.im (.sc (.map none))]))] 1 (fun x o => x = .own 1 ∧ o = [(0, some (.box T [.im (.sc (.map none))])), (1, some (.row 1 el []))]) := by
  intro κ I w vs hvl hreps hg hinv
  obtain ⟨v, rfl⟩ : ∃ v, vs = [v] := by
    match vs, hvl with
    | [v], _ => exact ⟨v, rfl⟩
  have h0r : Rep w I κ (.fn g [.ptr 0 0 0]) v := hreps 0 (by simp) (by simp)
  have hbox := hinv.objs 0 (.box T [.im (.sc (.map none))]) rfl
  obtain ⟨u, k0, e0, rfl, hu⟩ : ∃ u k0, κ 0 = some k0 ∧ v = .func (.func g) #[] #[u] ∧ u = .pointer (some ⟨k0.b, 0, none⟩) := by
    cases h0r with
    | @fn _ _ us hl hr =>
      match us, hl with
      | [u], _ =>
        have hr0 : Rep w I κ (.ptr 0 0 0) u := hr 0 (by simp) (by simp)
        cases hr0 with
        | @ptr _ _ _ ki e => exact ⟨_, ki, e, rfl, by simp⟩
  subst hu
  unfold OAt at hbox
  rw [e0] at hbox
  obtain ⟨b1, b2, arr0, b3, b4, b5⟩ := hbox
  obtain ⟨c0, c1, c2⟩ := b5 0 (by simp)
  replace c2 : Rep w I κ (.im (.sc (.map none))) c0 := c2
  have hc0 := c2.sc_inv
  subst hc0
  have hlt0 : k0.b < w.heap.size := (Array.getElem?_eq_some_iff.1 b3).1
  have hcell : w.cell? ⟨k0.b, 0, none⟩ = some (.map none) := by unfold World.cell?; simp [b3, c1]
  refine (h k0.b w hlt0 hcell).mono ?_
  rintro e w' ⟨rfl, hB⟩
  have hhas : ∀ q o', (⟨[], [(0, some (.box T [.im (.sc (.map none))]))], 1⟩ : AState).obj q = some o' → o'.has 1 = false := fun q o' e => by
    change (look [(0, some (MObj.box T [.im (.sc (.map none))]))] q).getD none = some o' at e
    rw [look_cons] at e
    by_cases c : 0 = q
    · rw [if_pos c] at e; obtain rfl := Option.some.inj e; rfl
    · rw [if_neg c] at e; cases e
  obtain ⟨i1, i2⟩ := Inv.grown1 hg hinv hB 1 none (.row 1 el []) (Nat.le_refl _) rfl hhas (fun ki e => by cases e) (by unfold OAt; rw [setK_self]; exact ⟨1, el, rfl⟩)
  exact ⟨_, _, _, _, I, rfl, ⟨rfl, rfl⟩, Rep.own0 none (setK_self ..), i1⟩
theorem Fn.belowTop2 {P : Program} {f : FuncId} {vs : List Value} {floor : Nat}
    (h : ∀ (w : World) (I M : Nat → Prop), GlobOK P I M w → Calls P f vs.toArray w fun e w' => ∃ v1 v2, e = .returned (.tuple #[v1, v2]) ∧ Below w.heap.size w w') :
    Fn P f (vs.map fun v => .im (.sc v)) [] floor (fun x o => x = .tup [.top, .top] ∧ o = []) := by
  intro κ I w vs' hl hreps hg hinv
  have hvs : vs' = vs := by
    apply List.ext_getElem (by simpa using hl)
    intro j h1 h2
    have := hreps j (by simpa using h2) h1
    rw [List.getElem_map] at this
    exact this.sc_inv
  subst hvs
  refine (h w _ _ hg).mono ?_
  rintro e w' ⟨v1, v2, rfl, hb⟩
  refine ⟨.tuple #[v1, v2], .tup [.top, .top], [], κ, I, rfl, ⟨rfl, rfl⟩, Rep.tup (vs := [_, _]) rfl (fun j h h' => ?_), ?_⟩
  · match j with
    | 0 => exact .top _
    | 1 => exact .top _
    | j + 2 => exact absurd h (by simp)
  have ho : ∀ k, (⟨[], [], floor⟩ : AState).obj k = none := fun k => by simp [AState.obj, look]
  refine ⟨?_, ?_, ?_, fun b hI => Nat.lt_of_lt_of_le (hinv.bound b hI) hb.size, ⟨hb.os, hb.tape, hb.output, hb.size, fun b hlt _ => hb.block b hlt⟩, fun _ h => h, fun b h => .inl h, ?_, hinv.fix⟩
  · intro k o h; rw [ho] at h; cases h
  · intro k k' o o' ki ki' h; rw [ho] at h; cases h
  · intro k o ki h; rw [ho] at h; cases h
  · intro k o ki h; rw [ho] at h; cases h
theorem cell_if {P : Program} {I M : Nat → Prop} {w : World} (h : GlobOK P I M w) {g : Nat} (e : globIf P g = true) : ∃ tp p, w.cell? ⟨g, 0, none⟩ = some (.iface tp p) := by
  obtain ⟨_, _, _, tp, p, t, m, e⟩ := h.2 g e
  exact ⟨tp, p, by unfold World.cell?; simp [e]⟩
end Go.Pv
set_option linter.unusedVariables false
set_option linter.unusedSimpArgs false
namespace Go.Pv
open Go.Instr
def notIf : TypeDesc → Bool
  | .interface _ => false
  | _ => true
def xMkIf : Ext where
  f P o s := match o.op with
    | .makeInterface t x => match P.underlying t, s.eval x with
      | some d, .im (.sc v) => match notIf d with
        | true => some ⟨[], [], .im (.sc (.iface t v)), [], []⟩
        | false => none
      | _, _ => none
    | _ => none
  ok P o s e he hp := by
    split at he
    · rename_i t x ho
      split at he
      · rename_i d v ht hx
        split at he
        · rename_i hd
          obtain rfl := Option.some.inj he
          refine .quiet rfl fun Γ κ I s2 a w hP hr hn => ?_
          have ex := (opd hr hn x (by simp [ho, Op.operands]) hx).sc_inv
          refine ⟨.iface t v, ?_, .im (.sc _)⟩
          have : (makeInterface t v).run P w = .ok (.iface t v) w := by
            unfold makeInterface
            rw [Sem.run_bind, run_underlying' ht, Result.andThen_ok]
            cases d <;> first | rfl | (simp [notIf] at hd; done)
          simp [execOp, ho, ex, this]
        · simp at he
      · simp at he
    · simp at he
def xAssert (b : Bool) : Ext where
  f P o s := match o.op, b with
    | .typeAssert x st t true, true => match P.underlying t, s.eval x with
      | some d, .im (.sc (.iface t' v)) => match notIf d, Nat.beq t' t with
        | true, true => some ⟨[], [], .tup [.im (.sc v), .im (.sc (.bool true))], [], []⟩
        | _, _ => none
      | _, _ => none
    | .typeAssert x st t true, false => match P.underlying t, s.eval x, zeroA P t with
      | some d, .im (.sc (.iface t' v)), some z => match notIf d, Nat.beq t' t with
        | true, false => some ⟨[], [], .tup [z, .im (.sc (.bool false))], [], []⟩
        | _, _ => none
      | _, _, _ => none
    | _, _ => none
  ok P o s e he hp := by
    split at he
    · rename_i x st t ho
      split at he
      · rename_i d t' v ht hx
        split at he
        · rename_i hd htt
          obtain rfl := Nat.eq_of_beq_eq_true htt
          obtain rfl := Option.some.inj he
          refine .quiet rfl fun Γ κ I s2 a w hP hr hn => ?_
          have ex := (opd hr hn x (by simp [ho, Op.operands]) hx).sc_inv
          have hrun : (typeAssert (.iface t' v) st t' true).run P w = .ok (.tuple #[v, .bool true]) w := by
            unfold typeAssert
            rw [Sem.run_bind, run_underlying' ht, Result.andThen_ok]
            cases d <;> first | (simp [notIf] at hd; done) | simp
          refine ⟨.tuple #[v, .bool true], by simp [execOp, ho, ex, hrun], Rep.tup (vs := [_, _]) rfl (fun j h h' => ?_)⟩
          match j with
          | 0 => exact .im (.sc _)
          | 1 => exact .im (.sc _)
          | j + 2 => exact absurd h (by simp)
        · simp at he
      · simp at he
    · rename_i x st t ho
      split at he
      · rename_i d t' v z ht hx hz
        split at he
        · rename_i hd htt
          obtain rfl := Option.some.inj he
          unfold zeroA at hz
          cases hi : P.info? t with
          | none => rw [hi] at hz; simp at hz
          | some i =>
            cases hzz : i.zero with
            | none => rw [hi] at hz; simp [hzz] at hz
            | some zv =>
              rw [hi] at hz
              simp [hzz] at hz
              refine .quiet rfl fun Γ κ I s2 a w hP hr hn => ?_
              have ex := (opd hr hn x (by simp [ho, Op.operands]) hx).sc_inv
              have hz0 : (zeroValue t).run P w = .ok zv w := by simp [zeroValue, run_typeInfo' hi, hzz]
              have hne : ¬ t' = t := fun e => by subst e; simp at htt
              have hrun : (typeAssert (.iface t' v) st t true).run P w = .ok (.tuple #[zv, .bool false]) w := by
                unfold typeAssert
                rw [Sem.run_bind, run_underlying' ht, Result.andThen_ok]
                cases d <;> first | (simp [notIf] at hd; done) | simp [hne, hz0]
              refine ⟨.tuple #[zv, .bool false], by simp [execOp, ho, ex, hrun], Rep.tup (vs := [_, _]) rfl (fun j h h' => ?_)⟩
              match j with
              | 0 => have := constA_rep w I κ zv; rw [hz] at this; exact this
              | 1 => exact .im (.sc _)
              | j + 2 => exact absurd h (by simp)
        · simp at he
      · simp at he
    · simp at he
end Go.Pv
set_option linter.unusedVariables false
set_option linter.unusedSimpArgs false
namespace Go.Pv
open Go
theorem run_ifNil {P : Program} {t : TypeId} {ms : Array (String × TypeId)} (ht : P.underlying t = some (.interface ms)) (w : World) : (Op.equal t .nilIface .nilIface).run P w = .ok true w := by
  unfold Op.equal Op.maxDepth
  rw [Op.equalIn]
  simp only [Sem.run_bind, run_underlying' ht, Result.andThen_ok, Sem.run_pure]
theorem run_ifNil2 {P : Program} {t : TypeId} {r : Bool} {w : World} (h : (Op.equal t .nilIface .nilIface).run P w = .ok r w) : (binOp .eql t .nilIface .nilIface).run P w = .ok (.bool r) w ∧ (binOp .neq t .nilIface .nilIface).run P w = .ok (.bool !r) w := by
  constructor
  · show (do pure (.bool (← Op.equal t .nilIface .nilIface)) : Sem Value).run P w = _
    rw [Sem.run_bind, h]; rfl
  · show (do pure (.bool (!(← Op.equal t .nilIface .nilIface))) : Sem Value).run P w = _
    rw [Sem.run_bind, h]; rfl
def xIfNil : Ext where
  f P o s := match o.op with
    | .binOp .eql t x (.const .nilIface) _ => match P.underlying t, s.eval x with
      | some (.interface _), .im (.sc .nilIface) => some ⟨[], [], .im (.sc (.bool true)), [], []⟩
      | _, _ => none
    | .binOp .neq t x (.const .nilIface) _ => match P.underlying t, s.eval x with
      | some (.interface _), .im (.sc .nilIface) => some ⟨[], [], .im (.sc (.bool false)), [], []⟩
      | _, _ => none
    | _ => none
  ok P o s e he hp := by
    split at he
    · rename_i t x _ ho
      split at he
      · rename_i ms ht hx
        obtain rfl := Option.some.inj he
        exact .quiet rfl fun Γ κ I s2 a w hP hrel hn => by
          have g := opd hrel hn x (by simp [ho, Op.operands]) rfl
          rw [hx] at g
          have e := g.sc_inv
          have hc : a.eval (.const .nilIface) = .nilIface := rfl
          exact ⟨.bool true, by simp only [execOp, ho, e, hc, Sem.run_bind, eqGuard_nil_constR, Sem.run_pure, Result.andThen_ok, (run_ifNil2 (run_ifNil (P := P) ht w)).1], .im (.sc _)⟩
      · simp at he
    · rename_i t x _ ho
      split at he
      · rename_i ms ht hx
        obtain rfl := Option.some.inj he
        exact .quiet rfl fun Γ κ I s2 a w hP hrel hn => by
          have g := opd hrel hn x (by simp [ho, Op.operands]) rfl
          rw [hx] at g
          have e := g.sc_inv
          have hc : a.eval (.const .nilIface) = .nilIface := rfl
          exact ⟨.bool false, by simp only [execOp, ho, e, hc, Sem.run_bind, eqGuard_nil_constR, Sem.run_pure, Result.andThen_ok, (run_ifNil2 (run_ifNil (P := P) ht w)).2]; rfl, .im (.sc _)⟩
      · simp at he
    · simp at he
end Go.Pv
set_option linter.unusedVariables false
set_option linter.unusedSimpArgs false
namespace Go.Pv
theorem Inv.data {Γ : Ctx} {κ : Nat → Option KI} {I : Nat → Prop} {s : AState} {w w' : World} (h : Inv Γ κ I s w) (h1 : ∀ b, b < w.heap.size → w'.heap[b]? = w.heap[b]?) (h2 : w'.heap.size = w.heap.size + 1)
    (h3 : w'.os = w.os) (h4 : w'.tape = w.tape) (h5 : w'.output = w.output) : Inv Γ κ (fun b => I b ∨ b = w.heap.size) s w' ∧ ∀ b, I b → w'.heap[b]? = w.heap[b]? := by
  have hI : ∀ b, I b → w'.heap[b]? = w.heap[b]? := fun b hb => h1 b (h.bound b hb)
  have hlt : ∀ k o ki, s.obj k = some o → κ k = some ki → ki.b < w.heap.size := by
    intro k o ki e eκ
    have := h.objs k o e
    simp only [OAt, eκ] at this
    cases o with
    | row => obtain ⟨_, _, _, arr, h3, _⟩ := this; exact (Array.getElem?_eq_some_iff.1 h3).1
    | box => obtain ⟨_, _, arr, h3, _⟩ := this; exact (Array.getElem?_eq_some_iff.1 h3).1
    | map => obtain ⟨arr, h3, _⟩ := this; exact (Array.getElem?_eq_some_iff.1 h3).1
    | iter => obtain ⟨bm, h3, _⟩ := this; exact (Array.getElem?_eq_some_iff.1 h3).1
    | arow => obtain ⟨_, _, _, arr, h3, _⟩ := this; exact (Array.getElem?_eq_some_iff.1 h3).1
    | amap => obtain ⟨_, arr, h3, _⟩ := this; exact (Array.getElem?_eq_some_iff.1 h3).1
    | dmap => obtain ⟨arr, h3, _⟩ := this; exact (Array.getElem?_eq_some_iff.1 h3).1
    | gmap => obtain ⟨_, _, _, _, _, arr, h3, _⟩ := this; exact (Array.getElem?_eq_some_iff.1 h3).1
    | niter => exact (Array.getElem?_eq_some_iff.1 this).1
  refine ⟨⟨fun k o hk => ?_, h.inj, fun k o ki hk e hb => ?_, fun b hb => ?_, ?_, fun b hb => .inl (h.ikeep b hb), fun b hb => ?_, h.fromO, h.fix⟩, hI⟩
  · have := h.objs k o hk
    unfold OAt at this ⊢
    cases e : κ k with
    | none => rw [e] at this; exact this
    | some ki => rw [e] at this; exact this.mono (fun b h => .inl h) hI (h1 _ (hlt k o ki hk e)) (fun _ _ => rfl)
  · rcases hb with hb | hb
    · exact h.disj k o ki hk e hb
    · have := hlt k o ki hk e; omega
  · rcases hb with hb | hb
    · have := h.bound b hb; omega
    · omega
  · exact ⟨h3.trans h.keep.os, h4.trans h.keep.tape, h5.trans h.keep.output, by have := h.keep.size; omega, fun b hb hn => (h1 b (Nat.lt_of_lt_of_le hb h.keep.size)).trans (h.keep.block b hb hn)⟩
  · rcases hb with hb | hb
    · exact h.fromI b hb
    · exact .inr (.inr (by have := h.keep.size; omega))
def xBytes : Ext where
  f P o s := match o.op with
    | .convert st t x => match P.underlying st, P.underlying t, s.eval x with
      | some .string, some (.slice e), .im (.sc (.string b)) => match P.underlying e with
        | some (.int .u8) => some ⟨[], [], .im (.row ((bytesL b).map (encInt .u8))), [], []⟩
        | _ => none
      | _, _, _ => none
    | _ => none
  ok P o s e he hp := by
    split at he
    · rename_i st t x ho
      split at he
      · rename_i el b hs ht hx
        split at he
        · rename_i hu
          obtain rfl := Option.some.inj he
          refine .of fun Γ κ I s2 a w hP hr hn hf => ?_
          have g := (opd hr hn x (by simp [ho, Op.operands]) hx).sc_inv
          have hrun := Lib.run_convert_string_bytes (P := P) w st t el b hs ht hu
          obtain ⟨i1, i2⟩ := hr.inv.data (w' := Lib.bytesWorld w el b) (fun j hj => Lib.bytesWorld_at_old w el b j hj) (Lib.bytesWorld_size w el b) (by
            unfold Lib.bytesWorld; unfold World.freeze; split <;> rfl) (by unfold Lib.bytesWorld; unfold World.freeze; split <;> rfl) (by unfold Lib.bytesWorld; unfold World.freeze; split <;> rfl)
          refine ⟨.slice (some ⟨w.heap.size, 0, none⟩) b.size (grownCap w b.size 0 el), _, Lib.bytesWorld w el b, κ, fun c => I c ∨ c = w.heap.size, .inl rfl, by simp only [execOp, ho, g, Sem.run_bind, hrun, Result.andThen_ok, Sem.run_pure], i1, fun c hc => .inl hc, i2, fun _ _ _ => rfl, .im ?_⟩
          have hlen : b.size = ((bytesL b).map (encInt .u8)).length := by rw [List.length_map]; simp only [bytesL, List.length_map, Array.length_toList]; rfl
          refine IRep.row (sz := 1) (off := 0) (fun i _ => .int .u8 ((b.data.toList.getD i 0).toNat)) hlen (.inr rfl) ?_ (fun i h => ?_) (fun i j hi hj => ?_) (fun i h j h' => ?_)
          · show b.size ≤ grownCap w b.size 0 el
            unfold grownCap Question.cut; exact Nat.le_add_right ..
          · simp
          · have : j = 0 := by omega
            subst this
            rw [show 0 + (i * 1 + 0) = i from by omega]
            exact Lib.bytesWorld_cell w el b i (by omega)
          · simp only [List.getElem_map, encInt, List.length_cons, List.length_nil] at h'
            have : j = 0 := by omega
            subst this
            simp only [List.length_map] at h
            have hl2 : i < b.data.toList.length := by simpa [bytesL] using h
            have e1 : ((bytesL b).map (encInt .u8))[i]'(by simpa using h) = [.sc (.int .u8 ((b.data.toList.getD i 0).toNat))] := by
              rw [List.getElem_map]
              have : (bytesL b)[i] = ((b.data.toList.getD i 0).toNat : Int) := by
                simp only [bytesL, List.getElem_map]
                rw [List.getD_eq_getElem?_getD, List.getElem?_eq_getElem hl2]; rfl
              rw [this]
            simp only [e1, List.getElem_cons_zero]
            exact .sc _
        · simp at he
      · simp at he
    · simp at he
end Go.Pv
set_option linter.unusedVariables false
set_option linter.unusedSimpArgs false
namespace Go.Pv
open Go
theorem ok_uxor {P : Program} {o : Oper} {s : AState} {t : TypeId} {x : Operand} {k : IntKind} {a : Int} (ho : o.op = .unOp .xor t x) (hx : s.eval x = .im (.sc (.int k a))) : OpOK P o (mkSp s o [] [] (.im (.sc (.int k (k.wrap ((BitVec.ofInt k.bits (if k.signed then -1 else k.max) ^^^ BitVec.ofInt k.bits a).toNat : Int))))) []) :=
  ok_pure _ [(x, .int k a)] (by simp [ho, Op.operands, hx]) (fun ρ hρ w => by
    have h1 := hρ (x, .int k a) (by simp)
    simp only [execOp, ho, h1]; rfl)
def xUXor : Ext where
  f P o s := match o.op with
    | .unOp .xor _ x => match s.eval x with
      | .im (.sc (.int k a)) => some ⟨[], [], .im (.sc (.int k (k.wrap ((BitVec.ofInt k.bits (if k.signed then -1 else k.max) ^^^ BitVec.ofInt k.bits a).toNat : Int)))), [], []⟩
      | _ => none
    | _ => none
  ok P o s e he hp := by
    split at he
    · rename_i t x ho
      split at he
      · rename_i k a hx
        obtain rfl := Option.some.inj he
        exact ok_uxor ho hx
      · simp at he
    · simp at he
end Go.Pv
set_option linter.unusedVariables false
set_option linter.unusedSimpArgs false
namespace Go.Pv
open Go
def xIdxS (n : Nat) : Ext where
  f P o s := match o.op with
    | .indexAddr t x i => match P.underlying t, s.eval x, s.eval i with
      | some (.array len el), .ptr k e j, .im (.sc (.int kk m)) => match aggP P el with
        | some (ag, sz) => some ⟨[], [], .ptr k e (j + n * sz), [], [m = (n : Int), n < len]⟩
        | _ => none
      | _, _, _ => none
    | _ => none
  ok P o s ef he hp := by
    split at he
    · rename_i t x i ho
      split at he
      · rename_i len el k e j kk m ht hx hi
        split at he
        · rename_i ag sz hag
          obtain rfl := Option.some.inj he
          obtain ⟨rfl, hlt, _⟩ := hp
          refine .quiet rfl fun Γ κ I s2 a w hP hr hn => ?_
          have h := opd hr hn x (by simp [ho, Op.operands]) hx
          have h' := (opd hr hn i (by simp [ho, Op.operands]) hi).sc_inv
          generalize ha : a.eval x = v at h
          cases h with
          | @ptr _ _ _ ki ek =>
            refine ⟨.pointer (some ⟨ki.b, e * ki.sz + j + n * sz, none⟩), ?_, ?_⟩
            · simp [execOp, ho, ha, h', Instr.indexAt, asIntOf, run_underlying' ht, hlt, Instr.sureAddr, run_sizeOf' hag, addr_add]
            · show Rep w I κ (.ptr k e (j + n * sz)) _
              rw [Nat.add_assoc]; exact .ptr ek
        · simp at he
      · simp at he
    · simp at he
def xLoadS (r : AVal) : Ext where
  f P o s := match o.op with
    | .load t x => match aggP P t, s.eval x with
      | some (ag, sz), .ptr k 0 j => match s.obj k with
        | some (.box el cells) => some ⟨[k], [], r, [], [loadA ag sz (cells.drop j) = some r]⟩
        | _ => none
      | _, _ => none
    | _ => none
  ok P o s e he hp := by
    split at he
    · rename_i t x ho
      split at he
      · rename_i ag sz k j ht hx
        split at he
        · rename_i el cells hk
          obtain rfl := Option.some.inj he
          exact ok_load_box ho hx hk ht hp.1
        · simp at he
      · simp at he
    · simp at he
def xStoreS (cells' : List AVal) : Ext where
  f P o s := match o.op with
    | .store t x y => match aggP P t, s.eval x with
      | some (ag, sz), .ptr k 0 j => match s.obj k with
        | some (.box el cells) => some ⟨[k], [], .top, [(k, some (.box el cells'))], [leaves (valCells (s.eval y)) = true, (valCells (s.eval y)).length = sz, 0 < sz, j + sz ≤ cells.length, splice cells j (valCells (s.eval y)) = cells']⟩
        | _ => none
      | _, _ => none
    | _ => none
  ok P o s e he hp := by
    split at he
    · rename_i t x y ho
      split at he
      · rename_i ag sz k j ht hx
        split at he
        · rename_i el cells hk
          obtain rfl := Option.some.inj he
          obtain ⟨p1, p2, p3, p4, p5, _⟩ := hp
          subst p5
          exact ok_store_box ho hx hk ht p1 p2 p3 p4
        · simp at he
      · simp at he
    · simp at he
theorem loadA_elem {cells : List AVal} {j : Nat} {c : AVal} (h : cells[j]? = some c) : loadA false 1 (cells.drop j) = some c := by
  unfold loadA; rw [List.head?_drop]; exact h
theorem loadA_all {cells : List AVal} {n : Nat} (h : cells.length = n) : loadA true n (cells.drop 0) = some (.agg cells) := by
  subst h; unfold loadA; simp only [List.drop_zero]; rw [show Nat.ble cells.length cells.length = true by simp]; simp
theorem splice_one {cells : List AVal} {j : Nat} {c : AVal} (h : j < cells.length) : splice cells j [c] = cells.set j c := by
  unfold splice
  apply List.ext_getElem?
  intro i
  rw [List.append_assoc, List.getElem?_append, List.length_take]
  simp only [List.length_cons, List.length_nil, Nat.zero_add]
  by_cases h1 : i < min j cells.length
  · rw [if_pos h1, List.getElem?_take, if_pos (by omega), List.getElem?_set_ne (by omega)]
  · rw [if_neg h1, show min j cells.length = j by omega]
    by_cases h2 : i = j
    · subst h2; simp [h]
    · rw [List.getElem?_set_ne (by omega), List.singleton_append, show i - j = (i - j - 1) + 1 by omega, List.getElem?_cons_succ, List.getElem?_drop]
      congr 1; omega
theorem splice_all {cells cs : List AVal} (h : cs.length = cells.length) : splice cells 0 cs = cs := by
  unfold splice; simp [h]
theorem leaves_map {α : Type} (f : α → AVal) (h : ∀ x, (f x).leaf = true) : ∀ l : List α, leaves (l.map f) = true
  | [] => rfl
  | x :: l => by simp [leaves, h, leaves_map f h l]
def crcS (c : Int) : Int := if (IntKind.u32.wrap (((BitVec.ofInt 32 c &&& BitVec.ofInt 32 1).toNat : Nat) : Int) == (1 : Int)) = true then IntKind.u32.wrap (((BitVec.ofInt 32 (Int.fdiv c 2) ^^^ BitVec.ofInt 32 3988292384).toNat : Nat) : Int) else Int.fdiv c 2
def crcN : Nat → Int → Int
  | 0, c => c
  | n + 1, c => crcN n (crcS c)
def crcE (i : Nat) : Int := crcN 8 (IntKind.u32.wrap (i : Int))
def crcT : List Int := (List.range 256).map crcE
def crcP (n : Nat) : List Int := (List.range n).map crcE ++ List.replicate (256 - n) 0
theorem crcP_len {n : Nat} (h : n ≤ 256) : (crcP n).length = 256 := by simp [crcP]; omega
theorem crcP_all : crcP 256 = crcT := by simp [crcP, crcT]
theorem crcP_set {n : Nat} (h : n < 256) : (crcP n).set n (crcE n) = crcP (n + 1) := by
  unfold crcP
  rw [List.set_append_right _ _ (by simp)]
  rw [show 256 - n = (256 - (n + 1)) + 1 by omega, List.replicate_succ]
  simp [List.range_succ]
def crcI (c x : Int) : Nat := (IntKind.u8.wrap (((BitVec.ofInt 8 (IntKind.u8.wrap c) ^^^ BitVec.ofInt 8 x).toNat : Nat) : Int)).toNat
def crcU (c x : Int) : Int := IntKind.u32.wrap (((BitVec.ofInt 32 (crcT.getD (crcI c x) 0) ^^^ BitVec.ofInt 32 (Int.fdiv c 256)).toNat : Nat) : Int)
def crcF : Int → List Int → Int
  | c, [] => c
  | c, x :: l => crcF (crcU c x) l
def crcFF : Int → List (List Int) → Int
  | c, [] => c
  | c, x :: l => crcFF (crcF c x) l
def crcO (l : List (List Int)) : Int := IntKind.u32.wrap (((BitVec.ofInt 32 4294967295 ^^^ BitVec.ofInt 32 (crcFF 4294967295 l)).toNat : Nat) : Int)
theorem wrap8_lt (n : Int) : 0 ≤ IntKind.u8.wrap n ∧ IntKind.u8.wrap n < 256 := by
  have e : IntKind.u8.wrap n = n % 256 := by simp [IntKind.wrap, IntKind.signed, IntKind.bits]
  rw [e]; omega
theorem crcI_eq (c x : Int) : IntKind.u8.wrap (((BitVec.ofInt 8 (IntKind.u8.wrap c) ^^^ BitVec.ofInt 8 x).toNat : Nat) : Int) = (crcI c x : Int) := by
  have := wrap8_lt ((BitVec.ofInt 8 (IntKind.u8.wrap c) ^^^ BitVec.ofInt 8 x).toNat : Nat)
  unfold crcI; omega
theorem crcI_lt (c x : Int) : crcI c x < 256 := by
  have := wrap8_lt ((BitVec.ofInt 8 (IntKind.u8.wrap c) ^^^ BitVec.ofInt 8 x).toNat : Nat)
  unfold crcI; omega
theorem crcT_len : crcT.length = 256 := by simp [crcT]
theorem crcT_get {n : Nat} (h : n < 256) : crcT[n]? = some (crcT.getD n 0) := by
  rw [List.getD_eq_getElem?_getD, List.getElem?_eq_getElem (by rw [crcT_len]; exact h)]; rfl
end Go.Pv
