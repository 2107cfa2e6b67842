import Derived.Test.YtjfhobijgkccdaaPxHistSame11
set_option linter.unusedVariables false
set_option linter.unusedSimpArgs false
namespace Go.Proofs.Ytjfhobijgkccdaa.PvGA3
open Go Go.Pv Go.Pv.GS
theorem awake05c : f_pluviallaw05_awake.f = some true := by cbv
theorem mput_new {K V : Type} [DecidableEq K] : ∀ (l : List (K × V)) (k : K) (v : V), (∀ p ∈ l, p.1 ≠ k) → mput l k v = l ++ [(k, v)]
  | [], k, v, _ => rfl
  | p :: l, k, v, h => by rw [mput, if_neg (h p (by simp)), mput_new l k v (fun q hq => h q (by simp [hq]))]; rfl
theorem mget_of {K V : Type} [DecidableEq K] : ∀ (l : List (K × V)), l.Pairwise (fun p q => p.1 ≠ q.1) → ∀ p ∈ l, mget l p.1 = some p.2
  | [], _, p, hp => by simp at hp
  | q :: l, h, p, hp => by
    rw [mget]
    rcases List.mem_cons.1 hp with rfl | hp
    · rw [if_pos rfl]
    · rw [if_neg ((List.pairwise_cons.1 h).1 p hp), mget_of l (List.pairwise_cons.1 h).2 p hp]
theorem mget_some {K V : Type} [DecidableEq K] : ∀ (l : List (K × V)) (k : K) (v : V), mget l k = some v → (k, v) ∈ l
  | [], k, v, h => by simp [mget] at h
  | q :: l, k, v, h => by
    rw [mget] at h
    by_cases c : q.1 = k
    · rw [if_pos c] at h; simp at h; subst h; subst c; simp
    · rw [if_neg c] at h; exact List.mem_cons_of_mem _ (mget_some l k v h)
def sideL (s sc : Int) (l : List TBucket) : List (Tbound_Key × Int) := l.map fun b => ((⟨s, sc, b.f0⟩ : Tbound_Key), b.f1)
def zeroL (z : Int) : List (Tbound_Key × Int) := if 0 < z then [((⟨0, 0, 0⟩ : Tbound_Key), z)] else []
def cellsL (h : THist) : List (Tbound_Key × Int) := zeroL h.f3 ++ sideL 1 h.f1 h.f6 ++ sideL (-1) h.f1 h.f7
theorem sideL_keys {s sc : Int} {l : List TBucket} {p : Tbound_Key × Int} (h : p ∈ sideL s sc l) : ∃ b ∈ l, p = ((⟨s, sc, b.f0⟩ : Tbound_Key), b.f1) := by
  obtain ⟨b, hb, rfl⟩ := List.mem_map.1 h; exact ⟨b, hb, rfl⟩
theorem zeroL_keys {z : Int} {p : Tbound_Key × Int} (h : p ∈ zeroL z) : p = ((⟨0, 0, 0⟩ : Tbound_Key), z) ∧ 0 < z := by
  unfold zeroL at h; split at h
  · simp at h; exact ⟨h, by assumption⟩
  · simp at h
theorem cells_l0 (h : THist) (hl : h.f6.length ≤ 512) (hup : h.f6.Pairwise (fun a b => a.f0 < b.f0)) : ∀ (suf pre : List TBucket) (i : Int), h.f6 = pre ++ suf → i = (pre.length : Int) → f_hist_Cells.l0 h (zeroL h.f3 ++ sideL 1 h.f1 pre) i = some (zeroL h.f3 ++ sideL 1 h.f1 h.f6) := by
  intro suf
  induction suf with
  | nil => intro pre i h1 hi; rw [List.append_nil] at h1; rw [f_hist_Cells.l0, if_neg (by simp [hi, h1]), h1]
  | cons b suf ih =>
    intro pre i h1 hi
    have hlen : h.f6.length = pre.length + (suf.length + 1) := by rw [h1]; simp
    rw [f_hist_Cells.l0, if_pos (by simp; omega), at_mid h1 hi, sb, wrap64 (n := i + 1) (by omega) (by omega), mput_new _ _ _ (fun p hp => by
      rcases List.mem_append.1 hp with hp | hp
      · obtain ⟨rfl, _⟩ := zeroL_keys hp; simp
      · obtain ⟨c, hc, rfl⟩ := sideL_keys hp
        rw [h1] at hup
        have := (List.pairwise_append.1 hup).2.2 c hc b (by simp)
        simp; omega)]
    have := ih (pre ++ [b]) (i + 1) (by simp [h1]) (by simp; omega)
    rw [← this]
    simp [sideL]
theorem cells_l1 (h : THist) (hl : h.f7.length ≤ 512) (hup : h.f7.Pairwise (fun a b => a.f0 < b.f0)) : ∀ (suf pre : List TBucket) (i : Int), h.f7 = pre ++ suf → i = (pre.length : Int) → f_hist_Cells.l1 h (zeroL h.f3 ++ sideL 1 h.f1 h.f6 ++ sideL (-1) h.f1 pre) i = some (cellsL h) := by
  intro suf
  induction suf with
  | nil => intro pre i h1 hi; rw [List.append_nil] at h1; rw [f_hist_Cells.l1, if_neg (by simp [hi, h1]), ← h1]; rfl
  | cons b suf ih =>
    intro pre i h1 hi
    have hlen : h.f7.length = pre.length + (suf.length + 1) := by rw [h1]; simp
    rw [f_hist_Cells.l1, if_pos (by simp; omega), at_mid h1 hi, sb, wrap64 (n := i + 1) (by omega) (by omega), mput_new _ _ _ (fun p hp => by
      rcases List.mem_append.1 hp with hp | hp
      · rcases List.mem_append.1 hp with hp | hp
        · obtain ⟨rfl, _⟩ := zeroL_keys hp; simp
        · obtain ⟨c, hc, rfl⟩ := sideL_keys hp; simp
      · obtain ⟨c, hc, rfl⟩ := sideL_keys hp
        rw [h1] at hup
        have := (List.pairwise_append.1 hup).2.2 c hc b (by simp)
        simp; omega)]
    have := ih (pre ++ [b]) (i + 1) (by simp [h1]) (by simp; omega)
    rw [← this]
    simp [sideL]
theorem cells_eq (h : THist) (hv : Valid h) : f_hist_Cells.f h = some (cellsL h) := by
  unfold f_hist_Cells.f
  have hz : ((if (decide (h.f3 > (0 : Int))) = true then (some (mput ([] : List (Tbound_Key × Int)) (⟨0, 0, 0⟩ : Tbound_Key) h.f3)) else (some ([] : List (Tbound_Key × Int)))) : Option (List (Tbound_Key × Int))) = some (zeroL h.f3) := by
    unfold zeroL
    by_cases c : 0 < h.f3
    · rw [if_pos (by simpa using c), if_pos c]; rfl
    · rw [if_neg (by simpa using c), if_neg c]
  have e0 := cells_l0 h hv.pos.len hv.pos.up h.f6 [] 0 rfl rfl
  have e1 := cells_l1 h hv.neg.len hv.neg.up h.f7 [] 0 rfl rfl
  simp only [sideL, List.map_nil, List.append_nil] at e0 e1
  rw [hz, sb, e0, sb]
  try simp only [sideL]
  rw [e1, sb]
theorem cells_nodup (h : THist) (hv : Valid h) : (cellsL h).Pairwise (fun p q => p.1 ≠ q.1) := by
  have hs : ∀ s (l : List TBucket), l.Pairwise (fun a b => a.f0 < b.f0) → (sideL s h.f1 l).Pairwise (fun p q => p.1 ≠ q.1) := fun s l hl => by
    refine List.pairwise_map.2 (hl.imp (fun {a b} hab => ?_))
    simp; omega
  unfold cellsL
  refine List.pairwise_append.2 ⟨List.pairwise_append.2 ⟨by unfold zeroL; split <;> simp, hs 1 _ hv.pos.up, fun p hp q hq => ?_⟩, hs (-1) _ hv.neg.up, fun p hp q hq => ?_⟩
  · obtain ⟨rfl, _⟩ := zeroL_keys hp
    obtain ⟨c, _, rfl⟩ := sideL_keys hq; simp
  · obtain ⟨c, _, rfl⟩ := sideL_keys hq
    rcases List.mem_append.1 hp with hp | hp
    · obtain ⟨rfl, _⟩ := zeroL_keys hp; simp
    · obtain ⟨d, _, rfl⟩ := sideL_keys hp; simp
theorem light05 (h : THist) : f_pluviallaw05_Light.f h = some (decide (h.f6.length ≤ 600 ∧ h.f7.length ≤ 600)) := by
  unfold f_pluviallaw05_Light.f
  by_cases c : h.f6.length ≤ 600
  · rw [if_pos (by simp; omega), sb]
    by_cases d : h.f7.length ≤ 600
    · simp [c, d]; omega
    · simp [c, d]; omega
  · rw [if_neg (by simp; omega), sb]; simp [c]
end Go.Proofs.Ytjfhobijgkccdaa.PvGA3
set_option linter.unusedVariables false
set_option linter.unusedSimpArgs false
namespace Go.Proofs.Ytjfhobijgkccdaa.PvGA3
open Go Go.Pv Go.Pv.GS
theorem eqB_l0 (a b : List TBucket) (hl : a.length = b.length) (ha : a.length < 1000000000) : ∀ (sa pa sb' pb : List TBucket) (i : Int), a = pa ++ sa → b = pb ++ sb' → pa.length = pb.length → i = (pa.length : Int) →
    f_slices_Equal_api_Bucket.l0 a b i = some (if sa = sb' then .inr () else .inl false) := by
  intro sa
  induction sa with
  | nil =>
    intro pa sb' pb i h1 h2 hp hi
    rw [List.append_nil] at h1; subst h1
    have : sb' = [] := by
      have : b.length = pb.length + sb'.length := by rw [h2]; simp
      exact List.length_eq_zero_iff.1 (by omega)
    subst this
    rw [f_slices_Equal_api_Bucket.l0, if_neg (by simp [hi]), if_pos rfl]
  | cons x sa ih =>
    intro pa sb' pb i h1 h2 hp hi
    have hlen : (a.length : Int) = pa.length + (sa.length + 1) := by rw [h1]; simp
    cases sb' with
    | nil =>
      have : b.length = pb.length := by rw [h2]; simp
      omega
    | cons y sb' =>
      rw [f_slices_Equal_api_Bucket.l0, if_pos (by simp; omega), at_mid h1 hi, sb, at_mid h2 (by omega), sb]
      by_cases c : x = y
      · subst c
        rw [if_neg (by simp), wrap64 (by omega) (by omega), ih (pa ++ [x]) sb' (pb ++ [x]) (i + 1) (by simp [h1]) (by simp [h2]) (by simp [hp]) (by simp; omega)]
        by_cases d : sa = sb'
        · rw [if_pos d, if_pos (by rw [d])]
        · rw [if_neg d, if_neg (fun e => d (List.cons.inj e).2)]
      · have : ((x.f0 == y.f0) && ((x.f1 == y.f1) && true)) = false := by
          cases x; cases y
          simp at c ⊢
          exact c
        rw [this, if_pos (by simp), if_neg (fun e => c (List.cons.inj e).1)]
theorem eqB (a b : List TBucket) (ha : a.length < 1000000000) : f_slices_Equal_api_Bucket.f a b = some (decide (a = b)) := by
  unfold f_slices_Equal_api_Bucket.f
  by_cases h : (a.length : Int) = b.length
  · rw [if_neg (by simpa using h), eqB_l0 a b (by omega) ha a [] b [] 0 rfl rfl rfl rfl, sb]
    by_cases c : a = b
    · rw [if_pos c]; simp [c]
    · rw [if_neg c]; simp [c]
  · rw [if_pos (by simpa using h), decide_eq_false (fun e => h (by rw [e]))]
theorem sameB (a b : THist) (h6 : a.f6.length < 1000000000) (h7 : a.f7.length < 1000000000) : f_hist_Same.f a b = some (decide (a = b)) := by
  unfold f_hist_Same.f
  rw [eqB _ _ h6, eqB _ _ h7]
  obtain ⟨a0, a1, a2, a3, a4, a5, a6, a7⟩ := a
  obtain ⟨b0, b1, b2, b3, b4, b5, b6, b7⟩ := b
  dsimp only
  by_cases c0 : a0 = b0
  case neg => simp [c0]
  by_cases c1 : a1 = b1
  case neg => simp [c1]
  by_cases c2 : a2 = b2
  case neg => simp [c2]
  by_cases c3 : a3 = b3
  case neg => simp [c3]
  by_cases c4 : a4 = b4
  case neg => simp [c4]
  by_cases c5 : a5 = b5
  case neg => simp [c5]
  by_cases c6 : a6 = b6
  case neg => simp [c0, c1, c2, c3, c4, c5, c6, sb]
  by_cases c7 : a7 = b7 <;> simp [c0, c1, c2, c3, c4, c5, c6, c7, sb]
theorem same_ref5 : f_pluvialref05_Same.f = f_hist_Same.f := by kernel_rfl
theorem sub_back {α : Type} : ∀ (a b : List α), a.Nodup → (∀ x ∈ a, x ∈ b) → b.length ≤ a.length → ∀ x ∈ b, x ∈ a
  | [], b, _, _, hl, x, hx => by
    have : b = [] := List.length_eq_zero_iff.1 (by simpa using hl)
    rw [this] at hx; exact hx
  | y :: a, b, hn, hs, hl, x, hx => by
    obtain ⟨A, B, rfl⟩ := List.append_of_mem (hs y (by simp))
    have hn' := List.nodup_cons.1 hn
    have := sub_back a (A ++ B) hn'.2 (fun z hz => by
      have hzb := hs z (by simp [hz])
      have hzy : z ≠ y := fun e => hn'.1 (e ▸ hz)
      simp only [List.mem_append, List.mem_cons] at hzb ⊢
      rcases hzb with h | h | h
      · exact .inl h
      · exact absurd h hzy
      · exact .inr h) (by simp only [List.length_append, List.length_cons] at hl ⊢; omega)
    by_cases c : x = y
    · simp [c]
    · refine List.mem_cons_of_mem _ (this x ?_)
      simp only [List.mem_append, List.mem_cons] at hx ⊢
      rcases hx with h | h | h
      · exact .inl h
      · exact absurd h c
      · exact .inr h
theorem canon_mem {a b : List TBucket} (ha : Canon a) (hb : Canon b) (h1 : ∀ x ∈ a, x ∈ b) (h2 : ∀ x ∈ b, x ∈ a) : a = b := by
  refine canon_unique ha hb (fun i => ?_)
  by_cases c : ∃ x ∈ a, x.f0 = i
  · obtain ⟨x, hx, rfl⟩ := c
    rw [ha.tot_of hx, hb.tot_of (h1 x hx)]
  · rw [tot_zero (fun x hx e => c ⟨x, hx, e⟩), tot_zero (fun x hx e => c ⟨x, h2 x hx, e⟩)]
theorem one_of_cells {a b : THist} (va : Valid a) (vb : Valid b) (fa : Fits a) (fb : Fits b) (h0 : a.f0 = b.f0) (h1 : a.f1 = b.f1) (h2 : a.f2 = b.f2) (h5 : a.f5 = b.f5) (hs : ∀ p ∈ cellsL a, p ∈ cellsL b) (hl : (cellsL b).length ≤ (cellsL a).length) : a = b := by
  have hnd : (cellsL a).Nodup := (cells_nodup a va).imp (fun {p q} h e => h (by rw [e]))
  have hb := sub_back _ _ hnd hs hl
  have side : ∀ (x y : THist), x.f1 = y.f1 → (∀ p ∈ cellsL x, p ∈ cellsL y) → (∀ c ∈ x.f6, c ∈ y.f6) ∧ (∀ c ∈ x.f7, c ∈ y.f7) ∧ (0 < x.f3 → x.f3 = y.f3) := by
    intro x y hxy h
    refine ⟨fun c hc => ?_, fun c hc => ?_, fun hz => ?_⟩
    · have := h ((⟨1, x.f1, c.f0⟩ : Tbound_Key), c.f1) (by simp only [cellsL, List.mem_append]; exact .inl (.inr (List.mem_map.2 ⟨c, hc, rfl⟩)))
      simp only [cellsL, List.mem_append] at this
      rcases this with (h | h) | h
      · have := (zeroL_keys h).1; simp at this
      · obtain ⟨d, hd, e⟩ := sideL_keys h
        simp at e
        have : c = d := by cases c; cases d; simp at e ⊢; exact ⟨e.1.2, e.2⟩
        rw [this]; exact hd
      · obtain ⟨d, hd, e⟩ := sideL_keys h
        simp at e
    · have := h ((⟨-1, x.f1, c.f0⟩ : Tbound_Key), c.f1) (by simp only [cellsL, List.mem_append]; exact .inr (List.mem_map.2 ⟨c, hc, rfl⟩))
      simp only [cellsL, List.mem_append] at this
      rcases this with (h | h) | h
      · have := (zeroL_keys h).1; simp at this
      · obtain ⟨d, hd, e⟩ := sideL_keys h
        simp at e
      · obtain ⟨d, hd, e⟩ := sideL_keys h
        simp at e
        have : c = d := by cases c; cases d; simp at e ⊢; exact ⟨e.1.2, e.2⟩
        rw [this]; exact hd
    · have := h ((⟨0, 0, 0⟩ : Tbound_Key), x.f3) (by simp [cellsL, zeroL, hz])
      simp only [cellsL, List.mem_append] at this
      rcases this with (h | h) | h
      · have := (zeroL_keys h).1; simp at this; exact this
      · obtain ⟨d, hd, e⟩ := sideL_keys h; simp at e
      · obtain ⟨d, hd, e⟩ := sideL_keys h; simp at e
  obtain ⟨p1, p2, p3⟩ := side a b h1 hs
  obtain ⟨q1, q2, q3⟩ := side b a h1.symm hb
  have e6 := canon_mem va.pos.canon vb.pos.canon p1 q1
  have e7 := canon_mem va.neg.canon vb.neg.canon p2 q2
  have z1 := fa.zero.1
  have z2 := fb.zero.1
  have e3 : a.f3 = b.f3 := by
    by_cases c : 0 < a.f3
    · exact p3 c
    · by_cases d : 0 < b.f3
      · exact (q3 d).symm
      · omega
  have e4 : a.f4 = b.f4 := by rw [va.count, vb.count, e6, e7, e3]
  cases a; cases b
  simp at *
  exact ⟨h0, h1, h2, e3, e4, h5, e6, e7⟩
def okP (c : List (Tbound_Key × Int)) (p : Tbound_Key × Int) : Bool := (mget c p.1).isSome && ((mget c p.1).getD 0 == p.2)
theorem same_loop (a b : THist) (x y : List (Tbound_Key × Int)) : ∀ (q : List (Tbound_Key × Int)) (v : Bool), f_pluviallaw05_HistSame.l0 a b x y q v = some (v && q.all (okP y))
  | [], v => by
    show rloop _ _ _ _ = _
    rw [rloop]
    unfold f_pluviallaw05_HistSame.d0
    simp
  | p :: q, v => by
    have ih := same_loop a b x y q (v && okP y p)
    show rloop _ _ _ _ = _
    rw [rloop]
    unfold f_pluviallaw05_HistSame.s0
    have hb : ((if v = true then (if (mget y p.1).isSome = true then (some (((mget y p.1).getD 0) == p.2)) else (some false)) else (some false)) : Option (Bool)) = some (v && okP y p) := by
      cases v with
      | false => simp
      | true =>
        cases h : mget y p.1 <;> simp [okP, h]
    dsimp only
    rw [hb, sb, sb]
    dsimp only
    rw [List.all_cons, ← Bool.and_assoc]
    exact ih
theorem histSame_R (a b : THist) (ha : RHist a) (hb : RHist b) : f_pluviallaw05_HistSame.f a b = some true := by
  unfold f_pluviallaw05_HistSame.f
  have fa := fits_of ha
  have fb := fits_of hb
  rw [light05, light05, sb]
  by_cases hA : a.f6.length ≤ 600 ∧ a.f7.length ≤ 600
  case neg => rw [if_pos (by simp [hA]), sb, if_pos rfl, awake05c, sb]
  rw [if_neg (by simp [hA]), sb, sb]
  by_cases hB : b.f6.length ≤ 600 ∧ b.f7.length ≤ 600
  case neg => rw [if_pos (by simp [hB]), awake05c, sb]
  rw [if_neg (by simp [hB]), awake05c]
  have hS := sameB a b (by omega) (by omega)
  rw [show f_pluvialref05_Same.f a b = some (decide (a = b)) by rw [same_ref5, hS], hS, sb, sb, if_neg (by simp), sameB a a (by omega) (by omega), sb, sb, if_neg (by simp)]
  have hcl : f_hist_Clone.f a = some a := by
    unfold f_hist_Clone.f
    rw [clone_inst _ (by omega), clone_inst _ (by omega)]
    simp [sb]
  rw [hcl, sb]
  have hcnt : ((if (decide (((a.f6).length : Int) > (0 : Int))) = true then ((at? a.f6 0) >>= fun b1146 => (at? (a.f6) 0) >>= fun b1152 => ((if (!((b1146.f0 == b1146.f0) && ((b1146.f1 == b1146.f1) && true))) = true then (some true) else ((f_hist_Same.f a (⟨a.f0, a.f1, a.f2, a.f3, a.f4, a.f5, (a.f6).set (Int.toNat (0 : Int)) (⟨b1152.f0, IntKind.u64.wrap (b1152.f1 + (1 : Int))⟩ : TBucket), a.f7⟩ : THist)) >>= fun t1159 => some t1159)) : Option (Bool)) >>= fun x1161 => if x1161 = true then (some (.inl false)) else (some (.inr ()))) else (some (.inr ()))) : Option (Bool ⊕ Unit)) = some (.inr ()) := by
    cases hl : a.f6 with
    | nil => rw [if_neg (by simp)]
    | cons x l =>
      have hU := (fa.pos x (by rw [hl]; simp)).2
      rw [if_pos (by simp), show at? (x :: l) 0 = some x from rfl, sb, sb, if_neg (by simp), sameB a _ (by omega) (by omega), sb, sb, if_neg]
      simp only [decide_eq_true_eq]
      intro e
      have e6 := congrArg THist.f6 e
      rw [hl] at e6
      simp only [Int.toNat_zero, List.set_cons_zero, List.cons.injEq, and_true] at e6
      have e7 := congrArg TBucket.f1 e6
      simp only at e7
      rw [wrapU_eq] at e7
      have := hU.1
      have := hU.2
      omega
  rw [hcnt, sb]
  dsimp only
  obtain ⟨r, er, hr⟩ := ref_check_iff a fa (by omega) (by omega)
  obtain ⟨r', er', hr'⟩ := ref_check_iff b fb (by omega) (by omega)
  rw [er, sb]
  by_cases h0 : r = 0
  case neg => rw [if_pos (by simpa using h0), sb, if_pos rfl, sb]
  rw [if_neg (by simpa using h0), er', sb, sb]
  by_cases h1 : r' = 0
  case neg => rw [if_pos (by simpa using h1), sb]
  rw [if_neg (by simpa using h1)]
  have va := hr.1 h0
  have vb := hr'.1 h1
  rw [cells_eq a va, cells_eq b vb, sb, sb]
  have hx : ((if (((cellsL a).length : Int) == ((cellsL b).length : Int)) = true then (if (a.f0 == b.f0) = true then (if (a.f1 == b.f1) = true then (if (a.f2 == b.f2) = true then (some (a.f5 == b.f5)) else (some false)) else (some false)) else (some false)) else (some false)) : Option (Bool)) = some (decide ((cellsL a).length = (cellsL b).length ∧ a.f0 = b.f0 ∧ a.f1 = b.f1 ∧ a.f2 = b.f2 ∧ a.f5 = b.f5)) := by
    by_cases c : (cellsL a).length = (cellsL b).length
    case neg => rw [if_neg (by simp; omega)]; simp [c]
    rw [if_pos (by simp; omega)]
    by_cases c0 : a.f0 = b.f0
    case neg => simp [c0]
    by_cases c1 : a.f1 = b.f1
    case neg => simp [c1]
    by_cases c2 : a.f2 = b.f2
    case neg => simp [c2]
    by_cases c5 : a.f5 = b.f5 <;> simp [c, c0, c1, c2, c5]
  rw [hx, sb]
  have hfin : (decide ((cellsL a).length = (cellsL b).length ∧ a.f0 = b.f0 ∧ a.f1 = b.f1 ∧ a.f2 = b.f2 ∧ a.f5 = b.f5) && (cellsL a).all (okP (cellsL b))) = decide (a = b) := by
    rw [Bool.eq_iff_iff]
    simp only [Bool.and_eq_true, decide_eq_true_eq, List.all_eq_true]
    constructor
    · rintro ⟨⟨hl, c0, c1, c2, c5⟩, hall⟩
      refine one_of_cells va vb fa fb c0 c1 c2 c5 (fun p hp => ?_) (by omega)
      have := hall p hp
      unfold okP at this
      simp only [Bool.and_eq_true, beq_iff_eq] at this
      obtain ⟨o1, o2⟩ := this
      obtain ⟨v, hv⟩ := Option.isSome_iff_exists.1 o1
      rw [hv] at o2
      simp at o2
      have := mget_some _ _ _ hv
      rw [o2] at this; exact this
    · rintro rfl
      refine ⟨⟨rfl, rfl, rfl, rfl, rfl⟩, fun p hp => ?_⟩
      have := mget_of _ (cells_nodup a va) p hp
      simp [okP, this]
  rw [rchk_eq (o := decide (a = b)) (fun q hq => by rw [same_loop, hq.all_eq, hfin]), sb, show f_hist_Empty.f a.f0 a.f1 = some (⟨a.f0, a.f1, -524288, 0, 0, 0, [], []⟩ : THist) from rfl, sb, sb, if_pos rfl, sb, if_pos (by simp)]
  have ve : Valid (⟨a.f0, a.f1, -524288, 0, 0, 0, [], []⟩ : THist) := ⟨va.kind, va.schema, .inl rfl, ⟨by simp, by simp, by simp⟩, ⟨by simp, by simp, by simp⟩, by simp [cnt], by simp [cnt]⟩
  have fe : Fits (⟨a.f0, a.f1, -524288, 0, 0, 0, [], []⟩ : THist) := ⟨fa.kind, fa.schema, by constructor <;> simp, by constructor <;> simp, by constructor <;> simp, by constructor <;> simp, by simp, by simp⟩
  try dsimp only
  rw [check_T _ fe ve, sb, if_pos (by simp), cells_eq _ ve, sb, sb]
  simp [cellsL, zeroL, sideL]
end Go.Proofs.Ytjfhobijgkccdaa.PvGA3
