/- Sorting by runs that grow. No condition. -/
import Derived.Test.YtjfajpoknnifcaaGreatMrg
namespace Go.Proofs.YtjfajpoknnifcaaGreat
open Go
theorem done_keep {ys zs : List TR} {a b lo hi : Nat} (d : Done ys a b zs) (h1 : a ≤ b) (h2 : b ≤ ys.length) (h : hi ≤ a ∨ b ≤ lo) : seg zs lo hi = seg ys lo hi := by
  have hl := d.len h1 h2
  obtain ⟨M, rfl, hp, _⟩ := d
  have lM : M.length = b - a := by rw [hp.length_eq, seg_len h2]
  have hs := seg_all ys h1
  rcases h with h | h
  · have key : ∀ B : List TR, seg (ys.take a ++ B) lo hi = seg (ys.take a) lo hi := by
      intro B
      simp only [seg]
      rcases Nat.lt_or_ge lo a with q | q
      · have l0 : (ys.take a).length = a := by rw [List.length_take]; omega
        rw [List.drop_append_of_le_length (by omega), List.take_append_of_le_length (by rw [List.length_drop]; omega)]
      · have : hi - lo = 0 := by omega
        rw [this]; simp
    rw [List.append_assoc, key]
    conv => rhs; rw [hs, List.append_assoc, key]
  · have e1 : (ys.take a ++ M ++ ys.drop b).drop lo = ys.drop lo := by
      have l1 : (ys.take a ++ M).length = b := by rw [List.length_append, List.length_take, lM]; omega
      have q : lo = b + (lo - b) := by omega
      rw [q, ← List.drop_drop, List.drop_left' l1, List.drop_drop]
    simp only [seg, e1]
/-- A part of it is the given one's, sorted. -/
def Sd (xs ys : List TR) (lo hi : Nat) : Prop := (seg ys lo hi).Perm (seg xs lo hi) ∧ (seg ys lo hi).Pairwise Lt
inductive Pre (xs ys : List TR) (bs : Nat) : Nat → Prop
  | zero : Pre xs ys bs 0
  | step {a : Nat} : Pre xs ys bs a → Sd xs ys a (a + bs) → Pre xs ys bs (a + bs)
inductive Runs (xs ys : List TR) (bs : Nat) : Nat → Prop
  | done {lo : Nat} : xs.length ≤ lo → Runs xs ys bs lo
  | step {lo : Nat} : lo < xs.length → Sd xs ys lo (min (lo + bs) xs.length) → Runs xs ys bs (lo + bs) → Runs xs ys bs lo
theorem Pre.keep {xs ys zs : List TR} {bs a : Nat} (h : Pre xs ys bs a) (k : ∀ lo hi, hi ≤ a → seg zs lo hi = seg ys lo hi) : Pre xs zs bs a := by
  induction h with
  | zero => exact .zero
  | @step a _ s ih =>
    refine .step (ih fun lo hi q => k lo hi (by omega)) ?_
    unfold Sd
    rw [k _ _ (Nat.le_refl _)]
    exact s
theorem Runs.keep {xs ys zs : List TR} {bs a : Nat} (h : Runs xs ys bs a) (k : ∀ lo hi, a ≤ lo → seg zs lo hi = seg ys lo hi) : Runs xs zs bs a := by
  induction h with
  | done q => exact .done q
  | @step lo q s _ ih =>
    refine .step q ?_ (ih fun lo hi q => k lo hi (by omega))
    unfold Sd
    rw [k _ _ (Nat.le_refl _)]
    exact s
theorem Runs.join {xs ys : List TR} {bs a : Nat} (p : Pre xs ys bs a) (h : Runs xs ys bs a) (ha : a ≤ xs.length) : Runs xs ys bs 0 := by
  induction p with
  | zero => exact h
  | @step a p s ih =>
    rcases Nat.eq_zero_or_pos bs with rfl | hb
    · exact ih (by simpa using h) (by omega)
    · refine ih (.step (by omega) ?_ h) (by omega)
      rw [Nat.min_eq_left ha]; exact s
theorem Sd.of_done {xs ys zs : List TR} {lo hi : Nat} (d : Done ys lo hi zs) (h1 : lo ≤ hi) (h2 : hi ≤ ys.length) (hp : (seg ys lo hi).Perm (seg xs lo hi)) : Sd xs zs lo hi := by
  obtain ⟨M, rfl, p, s⟩ := d
  have : seg (ys.take lo ++ M ++ ys.drop hi) lo hi = M := seg_of rfl (by rw [List.length_take]; omega) (by rw [p.length_eq, seg_len h2]; omega)
  unfold Sd
  rw [this]
  exact ⟨p.trans hp, s⟩
theorem tags_of {xs : List TR} (ht : xs.Pairwise fun p q => p.1 < q.1) (lo hi : Nat) : (seg xs lo hi).Pairwise fun p q => p.1 < q.1 := by
  simp only [seg]
  exact (ht.sublist (List.drop_sublist _ _)).sublist (List.take_sublist _ _)
theorem mpre_of {xs ys : List TR} {lo mid hi : Nat} (ht : xs.Pairwise fun p q => p.1 < q.1) (h1 : lo ≤ mid) (h2 : mid ≤ hi) (s1 : Sd xs ys lo mid) (s2 : Sd xs ys mid hi) : MPre ys lo mid hi := by
  refine ⟨s1.2, s2.2, fun p hp q hq => ?_⟩
  have hp' := s1.1.mem_iff.1 hp
  have hq' := s2.1.mem_iff.1 hq
  have := tags_of ht lo hi
  rw [seg_split (xs := xs) (mid := mid) h1 h2, List.pairwise_append] at this
  exact this.2.2 p hp' q hq'

/-! ### The first pass -/
def St1 (xs : List TR) (a : Nat) (ys : List TR) : Prop := a ≤ xs.length ∧ ys.length = xs.length ∧ Pre xs ys 20 a ∧ ys.drop a = xs.drop a
theorem St1.start (xs : List TR) : St1 xs 0 xs := ⟨Nat.zero_le _, rfl, .zero, rfl⟩
theorem seg_drop {xs ys : List TR} {a lo hi : Nat} (h : ys.drop a = xs.drop a) (hl : a ≤ lo) : seg ys lo hi = seg xs lo hi := by
  simp only [seg]
  have q : lo = a + (lo - a) := by omega
  rw [q, ← List.drop_drop, ← List.drop_drop, h]
theorem St1.tags {xs ys : List TR} {a : Nat} (h : St1 xs a ys) (ht : xs.Pairwise fun p q => p.1 < q.1) (hi : Nat) : (seg ys a hi).Pairwise fun p q => p.1 < q.1 := by
  rw [seg_drop h.2.2.2 (Nat.le_refl _)]; exact tags_of ht _ _
theorem St1.step {xs ys zs : List TR} {a : Nat} (h : St1 xs a ys) (h2 : a + 20 ≤ xs.length) (d : Done ys a (a + 20) zs) : St1 xs (a + 20) zs := by
  obtain ⟨h1, hl, p, e⟩ := h
  have hz := d.len (by omega) (by omega)
  refine ⟨h2, by omega, .step (p.keep fun lo hi q => done_keep d (by omega) (by omega) (.inl q)) (Sd.of_done d (by omega) (by omega) ?_), ?_⟩
  · rw [seg_drop e (Nat.le_refl _)]
  · obtain ⟨M, rfl, pm, _⟩ := d
    have l1 : (ys.take a ++ M).length = a + 20 := by
      have := pm.length_eq
      rw [seg_len (by omega)] at this
      rw [List.length_append, List.length_take]; omega
    rw [List.drop_left' l1, ← List.drop_drop, e, List.drop_drop]
theorem St1.done {xs ys zs : List TR} {a : Nat} (h : St1 xs a ys) (h2 : ¬ a + 20 ≤ xs.length) (d : Done ys a xs.length zs) : zs.length = xs.length ∧ Runs xs zs 20 0 := by
  obtain ⟨h1, hl, p, e⟩ := h
  have hz := d.len (by omega) (by omega)
  refine ⟨by omega, Runs.join (p.keep fun lo hi q => done_keep d (by omega) (by omega) (.inl q)) ?_ h1⟩
  rcases Nat.lt_or_eq_of_le h1 with q | q
  · refine .step q ?_ (.done (by omega))
    rw [Nat.min_eq_right (by omega)]
    refine Sd.of_done d (by omega) (by omega) ?_
    rw [seg_drop e (Nat.le_refl _)]
  · exact .done (by omega)

/-! ### The later passes -/
def St2 (xs : List TR) (bs a : Nat) (ys : List TR) : Prop := a ≤ xs.length ∧ ys.length = xs.length ∧ Pre xs ys (2 * bs) a ∧ Runs xs ys bs a
theorem St2.start {xs ys : List TR} {bs : Nat} (h : ys.length = xs.length) (r : Runs xs ys bs 0) : St2 xs bs 0 ys := ⟨Nat.zero_le _, h, .zero, r⟩
theorem Runs.first {xs ys : List TR} {bs a : Nat} (h : Runs xs ys bs a) (ha : a < xs.length) : Sd xs ys a (min (a + bs) xs.length) ∧ Runs xs ys bs (a + bs) := by
  cases h with
  | done q => omega
  | step _ s r => exact ⟨s, r⟩
theorem St2.mpre {xs ys : List TR} {bs a : Nat} (h : St2 xs bs a ys) (ht : xs.Pairwise fun p q => p.1 < q.1) (h0 : 0 < bs) (h2 : a + 2 * bs ≤ xs.length) : MPre ys a (a + bs) (a + 2 * bs) := by
  obtain ⟨h1, hl, p, r⟩ := h
  obtain ⟨s1, r1⟩ := r.first (by omega)
  obtain ⟨s2, _⟩ := r1.first (by omega)
  rw [Nat.min_eq_left (by omega)] at s1 s2
  have e : a + bs + bs = a + 2 * bs := by omega
  rw [e] at s2
  exact mpre_of ht (by omega) (by omega) s1 s2
theorem St2.step {xs ys zs : List TR} {bs a : Nat} (h : St2 xs bs a ys) (h0 : 0 < bs) (h2 : a + 2 * bs ≤ xs.length) (d : Done ys a (a + 2 * bs) zs) : St2 xs bs (a + 2 * bs) zs := by
  obtain ⟨h1, hl, p, r⟩ := h
  have hz := d.len (by omega) (by omega)
  obtain ⟨s1, r1⟩ := r.first (by omega)
  obtain ⟨s2, r2⟩ := r1.first (by omega)
  rw [Nat.min_eq_left (by omega)] at s1 s2
  have e : a + bs + bs = a + 2 * bs := by omega
  rw [e] at s2 r2
  refine ⟨h2, by omega, .step (p.keep fun lo hi q => done_keep d (by omega) (by omega) (.inl q)) (Sd.of_done d (by omega) (by omega) ?_), r2.keep fun lo hi q => done_keep d (by omega) (by omega) (.inr q)⟩
  rw [seg_split (xs := ys) (mid := a + bs) (by omega) (by omega), seg_split (xs := xs) (mid := a + bs) (by omega) (by omega)]
  exact s1.1.append s2.1
theorem St2.mpre' {xs ys : List TR} {bs a : Nat} (h : St2 xs bs a ys) (ht : xs.Pairwise fun p q => p.1 < q.1) (h2 : ¬ a + 2 * bs ≤ xs.length) (h3 : a + bs < xs.length) : MPre ys a (a + bs) xs.length := by
  obtain ⟨h1, hl, p, r⟩ := h
  obtain ⟨s1, r1⟩ := r.first (by omega)
  obtain ⟨s2, _⟩ := r1.first h3
  rw [Nat.min_eq_left (by omega)] at s1
  rw [Nat.min_eq_right (by omega)] at s2
  exact mpre_of ht (by omega) (by omega) s1 s2
theorem St2.done {xs ys zs : List TR} {bs a : Nat} (h : St2 xs bs a ys) (h0 : 0 < bs) (h2 : ¬ a + 2 * bs ≤ xs.length) (h3 : a + bs < xs.length) (d : Done ys a xs.length zs) : zs.length = xs.length ∧ Runs xs zs (2 * bs) 0 := by
  obtain ⟨h1, hl, p, r⟩ := h
  have hz := d.len (by omega) (by omega)
  obtain ⟨s1, r1⟩ := r.first (by omega)
  obtain ⟨s2, _⟩ := r1.first h3
  rw [Nat.min_eq_left (by omega)] at s1
  rw [Nat.min_eq_right (by omega)] at s2
  refine ⟨by omega, Runs.join (p.keep fun lo hi q => done_keep d (by omega) (by omega) (.inl q)) (.step (by omega) ?_ (.done (by omega))) h1⟩
  rw [Nat.min_eq_right (by omega)]
  refine Sd.of_done d (by omega) (by omega) ?_
  rw [seg_split (xs := ys) (mid := a + bs) (by omega) (by omega), seg_split (xs := xs) (mid := a + bs) (by omega) (by omega)]
  exact s1.1.append s2.1
theorem St2.rest {xs ys : List TR} {bs a : Nat} (h : St2 xs bs a ys) (h2 : ¬ a + 2 * bs ≤ xs.length) (h3 : ¬ a + bs < xs.length) : ys.length = xs.length ∧ Runs xs ys (2 * bs) 0 := by
  obtain ⟨h1, hl, p, r⟩ := h
  refine ⟨hl, Runs.join p ?_ h1⟩
  rcases Nat.lt_or_eq_of_le h1 with q | q
  · obtain ⟨s1, _⟩ := r.first q
    refine .step q ?_ (.done (by omega))
    rw [Nat.min_eq_right (by omega)] at s1 ⊢
    exact s1
  · exact .done (by omega)
theorem runs_all {xs ys : List TR} {bs : Nat} (hl : ys.length = xs.length) (r : Runs xs ys bs 0) (h : ¬ bs < xs.length) : Done xs 0 xs.length ys := by
  rcases Nat.eq_zero_or_pos xs.length with q | q
  · have : ys = [] := List.eq_nil_of_length_eq_zero (by omega)
    subst this
    have : xs = [] := List.eq_nil_of_length_eq_zero q
    subst this
    exact ⟨[], by simp, by simp [seg], by simp⟩
  · obtain ⟨s, _⟩ := r.first q
    rw [Nat.min_eq_right (by omega)] at s
    have e : seg ys 0 xs.length = ys := by simp [seg, ← hl]
    refine ⟨ys, by simp, ?_, ?_⟩
    · rw [← e]; exact s.1
    · have := s.2
      rw [e] at this
      exact this
end Go.Proofs.YtjfajpoknnifcaaGreat
