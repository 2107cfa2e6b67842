import Derived.Test.YtjfhobijgkccdaaPlHistA
set_option linter.unusedVariables false
set_option linter.unusedSimpArgs false
namespace Go.Proofs.Ytjfhobijgkccdaa.PvGA
open Go Go.Pv Go.Pv.GS

theorem awake05 : f_pluviallaw05_awake.f = some true := by cbv

theorem makes_l0 (h : THist) (l n : List TBucket) (by_ : Int) (q : THist × Int) (hb : 0 ≤ by_ ∧ by_ < 256) (hl : l.length ≤ 100) : ∀ (m : Nat) (x : List TBucket) (i : Int), m + x.length = l.length → i = (x.length : Int) →
    ∃ r, f_pluviallaw05_HistMakes.l0 h l n by_ q x i = some r ∧ r.length = l.length ∧ (∀ k, k < x.length → r[k]? = x[k]?) ∧ ∀ k, x.length ≤ k → k < l.length → r[k]? = l[(k + by_.toNat) % l.length]? := by
  intro m
  induction m with
  | zero =>
    intro x i hm hi
    rw [f_pluviallaw05_HistMakes.l0, if_neg (by simp; omega)]
    exact ⟨x, rfl, by omega, fun _ _ => rfl, fun k h1 h2 => by omega⟩
  | succ m ih =>
    intro x i hm hi
    have hpos : 0 < l.length := by omega
    have hidx : (x.length + by_.toNat) % l.length < l.length := Nat.mod_lt _ hpos
    have ht : Int.tmod (i + by_) (l.length : Int) = (((x.length + by_.toNat) % l.length : Nat) : Int) := by
      rw [show i + by_ = ((x.length + by_.toNat : Nat) : Int) by omega, Int.tmod_eq_emod_of_nonneg (by omega)]
      rfl
    rw [f_pluviallaw05_HistMakes.l0, if_pos (by simp; omega), chkB (by omega), wrap64 (n := by_) (by omega) (by omega), wrap64 (n := i + by_) (by omega) (by omega), ht,
      at_nat rfl (List.getElem?_eq_getElem hidx), sb, chkB (by simp; omega), wrap64 (n := i + 1) (by omega) (by omega)]
    obtain ⟨r, e, h1, h2, h3⟩ := ih (x ++ [l[(x.length + by_.toNat) % l.length]]) (i + 1) (by simp; omega) (by simp; omega)
    refine ⟨r, e, h1, fun k hk => ?_, fun k hk hk2 => ?_⟩
    · rw [h2 k (by simp; omega), List.getElem?_append_left hk]
    · by_cases e2 : k = x.length
      · subst e2
        rw [h2 x.length (by simp), List.getElem?_append_right (Nat.le_refl _)]
        simp
      · exact h3 k (by simp; omega) hk2

theorem turned_perm (l r : List TBucket) (b : Nat) (hl : r.length = l.length) (h : ∀ k, k < l.length → r[k]? = l[(k + b) % l.length]?) : r.Perm l := by
  by_cases h0 : l.length = 0
  · rw [List.length_eq_zero_iff.1 h0, List.length_eq_zero_iff.1 (hl.trans h0)]
  have hc : b % l.length < l.length := Nat.mod_lt _ (by omega)
  have : r = l.drop (b % l.length) ++ l.take (b % l.length) := by
    apply List.ext_getElem?
    intro k
    by_cases hk : k < l.length
    · rw [h k hk]
      have e : (k + b) % l.length = (k + b % l.length) % l.length := by rw [Nat.add_mod_mod]
      by_cases h1 : k < l.length - b % l.length
      · rw [List.getElem?_append_left (by simp; omega), List.getElem?_drop, e, Nat.mod_eq_of_lt (by omega)]
        congr 1; omega
      · rw [List.getElem?_append_right (by simp; omega), List.getElem?_take, if_pos (by simp; omega), e, Nat.mod_eq_sub_mod (by omega), Nat.mod_eq_of_lt (by omega)]
        congr 1; simp; omega
    · rw [List.getElem?_eq_none (by omega), List.getElem?_eq_none (by simp; omega)]
  rw [this]
  refine List.perm_append_comm.trans ?_
  rw [List.take_append_drop]

theorem histMakes_true (h : THist) (p n : List TBucket) (b : Int) (hf : Fits h) (hpU : ∀ b ∈ p, I64 b.f0 ∧ U64 b.f1) (hnU : ∀ b ∈ n, I64 b.f0 ∧ U64 b.f1) (hb : 0 ≤ b ∧ b < 256) :
    f_pluviallaw05_HistMakes.f h p n b = some true := by
  unfold f_pluviallaw05_HistMakes.f f_pluviallaw05_Light.f
  rw [ifand, awake05]
  simp only [sb]
  by_cases hg : h.f6.length ≤ 600 ∧ h.f7.length ≤ 600 ∧ p.length ≤ 100 ∧ n.length ≤ 100
  case neg =>
    have : ((if (!(decide ((h.f6.length : Int) ≤ (600 : Int)) && decide ((h.f7.length : Int) ≤ (600 : Int)))) = true then (some true) else (if (decide ((p.length : Int) > (100 : Int))) = true then (some true) else (some (decide ((n.length : Int) > (100 : Int)))))) : Option Bool) = some true := by
      split
      · rfl
      · rename_i h1
        split
        · rfl
        · rename_i h2
          simp at h1 h2 ⊢; omega
    rw [this, sb, if_pos rfl]
  obtain ⟨g1, g2, g3, g4⟩ := hg
  rw [if_neg (by simp; omega), if_neg (by simp; omega), sb, if_neg (by simp; omega)]
  obtain ⟨r, e, hmk, hr6, hr7, hbad, hok⟩ := make_spec h p n hf (by omega) (by omega) hpU hnU
  rw [hmk, sb]
  obtain ⟨t, ht, htl, _, htk⟩ := makes_l0 h p n b (r, e) hb g3 p.length [] 0 (by simp) rfl
  have hperm := turned_perm p t b.toNat htl (fun k hk => htk k (Nat.zero_le _) hk)
  rw [ht, sb, chkB (by simp; omega)]
  have htidy : f_hist_tidy.f (t ++ [(⟨1, 0⟩ : TBucket)]) = f_hist_tidy.f p := by
    refine tidy_same _ _ (by simp; omega) (by omega) (fun x hx => ?_) (fun x hx => (hpU x hx).2) (fun i => ?_)
    · rcases List.mem_append.1 hx with hx | hx
      · exact (hpU x (hperm.mem_iff.1 hx)).2
      · simp at hx; subst hx; exact ⟨by simp, by simp⟩
    · rw [tot_append, tot_one, tot_perm hperm]; simp
  have hmk2 : f_hist_Make.f h (t ++ [(⟨1, 0⟩ : TBucket)]) n = some (r, e) := by
    rw [← hmk]; unfold f_hist_Make.f; rw [htidy]
  rw [hmk2]
  simp only [sb]
  rw [same_self r (by omega) (by omega), if_neg (by simp)]
  simp only [sb]
  rw [if_neg (by simp)]
  by_cases he : e = 0
  · subst he
    obtain ⟨_, hck, hagain, _⟩ := hok rfl
    rw [if_neg (by simp), hagain, hck]
    simp only [sb]
    rw [same_self r (by omega) (by omega)]
    rfl
  · rw [if_pos (by simpa using he)]

theorem histMakes_R (h : THist) (p n : List TBucket) (b : Int) (hf : RHist h) (hp : p.length ≤ maxLen ∧ ∀ y ∈ p, RBucket y) (hn : n.length ≤ maxLen ∧ ∀ y ∈ n, RBucket y) (hb : Rng 0 256 b) :
    f_pluviallaw05_HistMakes.f h p n b = some true :=
  histMakes_true h p n b (fits_of hf) (fun b hb => ⟨(hp.2 b hb).r0, (hp.2 b hb).r1⟩) (fun b hb => ⟨(hn.2 b hb).r0, (hn.2 b hb).r1⟩) hb
end Go.Proofs.Ytjfhobijgkccdaa.PvGA
