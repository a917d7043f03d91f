/- Records with tags: what sorting that keeps the order of equals does. No condition. -/
import Derived.Test.YtjfajpoknnifcaaGreatRec
namespace Go.Proofs.YtjfajpoknnifcaaGreat
open Go
/-- A record, and where it stood. -/
abbrev TR := Nat × RecV
def encT (p : TR) : List Value := encR p.2
theorem encT_len (p : TR) : (encT p).length = 17 := encR_len p.2
theorem encT_one (p : TR) : ((encT p).all fun u => u.oneCell') = true := encR_one p.2
/-- The order: by points; equal ones as they stood. -/
def Lt (p q : TR) : Prop := p.2.pt < q.2.pt ∨ (p.2.pt = q.2.pt ∧ p.1 < q.1)
theorem Lt.trans {p q r : TR} (h : Lt p q) (h' : Lt q r) : Lt p r := by unfold Lt at *; omega
def seg (xs : List TR) (lo hi : Nat) : List TR := (xs.drop lo).take (hi - lo)
/-- A part is sorted, the rest stays. -/
def Done (xs : List TR) (lo hi : Nat) (ys : List TR) : Prop := ∃ M, ys = xs.take lo ++ M ++ xs.drop hi ∧ M.Perm (seg xs lo hi) ∧ M.Pairwise Lt
theorem seg_len {xs : List TR} {lo hi : Nat} (h : hi ≤ xs.length) : (seg xs lo hi).length = hi - lo := by simp [seg]; omega
theorem seg_split {xs : List TR} {lo mid hi : Nat} (h1 : lo ≤ mid) (h2 : mid ≤ hi) : seg xs lo hi = seg xs lo mid ++ seg xs mid hi := by
  have e : hi - lo = (mid - lo) + (hi - mid) := by omega
  simp only [seg, e, List.take_add, List.drop_drop]
  congr 3; omega
theorem seg_all (xs : List TR) {lo hi : Nat} (h1 : lo ≤ hi) : xs = xs.take lo ++ seg xs lo hi ++ xs.drop hi := by
  have : xs.drop lo = seg xs lo hi ++ xs.drop hi := by
    have := (List.take_append_drop (hi - lo) (xs.drop lo)).symm
    rw [List.drop_drop] at this
    have e : lo + (hi - lo) = hi := by omega
    rw [e] at this; exact this
  rw [List.append_assoc, ← this, List.take_append_drop]
theorem Done.len {xs ys : List TR} {lo hi : Nat} (h : Done xs lo hi ys) (h1 : lo ≤ hi) (h2 : hi ≤ xs.length) : ys.length = xs.length := by
  obtain ⟨M, rfl, hp, _⟩ := h
  have := hp.length_eq
  rw [seg_len h2] at this
  simp; omega
theorem Done.perm {xs ys : List TR} {lo hi : Nat} (h : Done xs lo hi ys) (h1 : lo ≤ hi) : ys.Perm xs := by
  obtain ⟨M, rfl, hp, _⟩ := h
  have := seg_all xs h1
  conv => rhs; rw [this]
  exact (hp.append_left _).append_right _

/-! ### Insertion -/
/-- Ahead of a round: the first ones sorted. -/
def InsOut (xs : List TR) (lo hi i : Nat) (ys : List TR) : Prop := lo ≤ i ∧ i ≤ hi ∧ ∃ S, ys = xs.take lo ++ S ++ xs.drop i ∧ S.Perm (seg xs lo i) ∧ S.Pairwise Lt
/-- Within a round: one of them goes down. -/
def InsIn (xs : List TR) (lo hi i j : Nat) (ys : List TR) : Prop := lo ≤ j ∧ j ≤ i ∧ i < hi ∧ ∃ S1 x S2, ys = xs.take lo ++ (S1 ++ x :: S2) ++ xs.drop (i + 1) ∧ lo + S1.length = j ∧ (S1 ++ x :: S2).Perm (seg xs lo (i + 1)) ∧ (S1 ++ S2).Pairwise Lt ∧ (∀ s ∈ S1, s.1 < x.1) ∧ ∀ s ∈ S2, Lt x s
theorem InsOut.start {xs : List TR} {lo hi : Nat} (h : lo < hi) (h2 : hi ≤ xs.length) : InsOut xs lo hi (lo + 1) xs := by
  refine ⟨by omega, by omega, seg xs lo (lo + 1), seg_all xs (by omega), List.Perm.refl _, ?_⟩
  have : (seg xs lo (lo + 1)).length = 1 := by rw [seg_len (by omega)]; omega
  match h3 : seg xs lo (lo + 1), this with
  | [x], _ => simp
theorem InsOut.enter {xs ys : List TR} {lo hi i : Nat} (h : InsOut xs lo hi i ys) (hi' : i < hi) (h2 : hi ≤ xs.length) (ht : (seg xs lo hi).Pairwise fun p q => p.1 < q.1) : InsIn xs lo hi i i ys := by
  obtain ⟨h1, _, S, rfl, hp, hs⟩ := h
  have hx : i < xs.length := by omega
  have hl : S.length = i - lo := by rw [hp.length_eq, seg_len (by omega)]
  have e1 : seg xs i (i + 1) = [xs[i]] := by
    simp only [seg]
    rw [List.drop_eq_getElem_cons hx]
    have : i + 1 - i = 1 := by omega
    rw [this]; rfl
  refine ⟨by omega, Nat.le_refl _, hi', S, xs[i], [], ?_, by omega, ?_, by simpa using hs, ?_, by simp⟩
  · rw [List.drop_eq_getElem_cons hx]; simp
  · rw [seg_split (xs := xs) (lo := lo) (mid := i) (hi := i + 1) h1 (by omega), e1]
    exact hp.append_right _
  · intro s hs'
    have hm : s ∈ seg xs lo i := hp.mem_iff.1 hs'
    rw [seg_split (xs := xs) (lo := lo) (mid := i) (hi := hi) h1 (by omega), List.pairwise_append] at ht
    refine ht.2.2 s hm xs[i] ?_
    rw [seg_split (xs := xs) (lo := i) (mid := i + 1) (hi := hi) (by omega) (by omega), e1]
    simp
theorem InsIn.leave {xs ys : List TR} {lo hi i j : Nat} (h : InsIn xs lo hi i j ys) (hstop : ∀ y x, ys[j - 1]? = some y → ys[j]? = some x → lo < j → ¬ x.2.pt < y.2.pt) (h2 : hi ≤ xs.length) : InsOut xs lo hi (i + 1) ys := by
  obtain ⟨h1, h3, h4, S1, x, S2, rfl, hj, hp, hs, ht, hlt⟩ := h
  refine ⟨by omega, by omega, S1 ++ x :: S2, rfl, hp, ?_⟩
  rw [List.pairwise_append] at hs ⊢
  refine ⟨hs.1, List.pairwise_cons.2 ⟨hlt, hs.2.1⟩, fun a ha b hb => ?_⟩
  rcases List.mem_cons.1 hb with rfl | hb
  · -- the one that stopped it
    have hne : S1 ≠ [] := fun e => by subst e; cases ha
    obtain ⟨T, y, rfl⟩ : ∃ T y, S1 = T ++ [y] := ⟨S1.dropLast, S1.getLast hne, (List.dropLast_concat_getLast hne).symm⟩
    have hlen : (xs.take lo).length = lo := by simp; omega
    have e1 : (xs.take lo ++ (T ++ [y] ++ b :: S2) ++ xs.drop (i + 1))[j - 1]? = some y := by
      have : j - 1 = (xs.take lo).length + T.length := by simp at hj ⊢; omega
      rw [this]; simp
    have e2 : (xs.take lo ++ (T ++ [y] ++ b :: S2) ++ xs.drop (i + 1))[j]? = some b := by
      have : j = (xs.take lo).length + (T ++ [y]).length := by rw [hlen]; omega
      rw [this]; simp
    have hno := hstop y b e1 e2 (by simp at hj; omega)
    have hyb : Lt y b := by
      have := ht y (by simp)
      unfold Lt; omega
    rcases List.mem_append.1 ha with ha | ha
    · have := hs.1
      rw [List.pairwise_append] at this
      exact (this.2.2 a ha y (by simp)).trans hyb
    · have : a = y := by simpa using ha
      rw [this]; exact hyb
  · exact hs.2.2 a ha b hb
theorem InsIn.step {xs ys : List TR} {lo hi i j : Nat} {x y : TR} (h : InsIn xs lo hi i j ys) (hj : lo < j) (hx : ys[j]? = some x) (hy : ys[j - 1]? = some y) (hlt : x.2.pt < y.2.pt) (h2 : hi ≤ xs.length) : InsIn xs lo hi i (j - 1) ((ys.set j y).set (j - 1) x) := by
  obtain ⟨h1, h3, h4, S1, x', S2, rfl, hjl, hp, hs, ht, hl⟩ := h
  have hne : S1 ≠ [] := fun e => by subst e; simp at hjl; omega
  obtain ⟨T, y', rfl⟩ : ∃ T y, S1 = T ++ [y] := ⟨S1.dropLast, S1.getLast hne, (List.dropLast_concat_getLast hne).symm⟩
  have hlen : (xs.take lo).length = lo := by simp; omega
  have e1 : (xs.take lo ++ (T ++ [y'] ++ x' :: S2) ++ xs.drop (i + 1))[j - 1]? = some y' := by
    have : j - 1 = (xs.take lo).length + T.length := by simp at hjl ⊢; omega
    rw [this]; simp
  have e2 : (xs.take lo ++ (T ++ [y'] ++ x' :: S2) ++ xs.drop (i + 1))[j]? = some x' := by
    have : j = (xs.take lo).length + (T ++ [y']).length := by rw [hlen]; omega
    rw [this]; simp
  rw [e1] at hy; rw [e2] at hx
  cases hy; cases hx
  have e3 : ((xs.take lo ++ (T ++ [y] ++ x :: S2) ++ xs.drop (i + 1)).set j y).set (j - 1) x = xs.take lo ++ (T ++ x :: y :: S2) ++ xs.drop (i + 1) := by
    have q1 : j = (xs.take lo).length + (T.length + 1) := by simp at hjl; rw [hlen]; omega
    have q2 : j - 1 = (xs.take lo).length + T.length := by omega
    rw [q2, q1]
    simp
  rw [e3]
  refine ⟨by omega, by omega, h4, T, x, y :: S2, rfl, by simp at hjl; omega, ?_, ?_, fun s q => ht s (by simp [q]), ?_⟩
  · refine List.Perm.trans ?_ hp
    rw [List.append_assoc]
    exact List.Perm.append_left _ (List.Perm.swap _ _ _)
  · have : T ++ y :: S2 = T ++ [y] ++ S2 := by simp
    rw [this]; exact hs
  · intro s q
    rcases List.mem_cons.1 q with rfl | q
    · exact .inl hlt
    · exact hl s q
theorem InsOut.done {xs ys : List TR} {lo hi : Nat} (h : InsOut xs lo hi hi ys) : Done xs lo hi ys := h.2.2
/-- Ahead of a round, where there may be nothing at all. -/
def InsL (xs : List TR) (lo hi i : Nat) (ys : List TR) : Prop := (lo < hi ∧ InsOut xs lo hi i ys) ∨ (lo = hi ∧ i = lo + 1 ∧ ys = xs)
theorem InsL.start {xs : List TR} {lo hi : Nat} (h1 : lo ≤ hi) (h2 : hi ≤ xs.length) : InsL xs lo hi (lo + 1) xs := by
  rcases Nat.lt_or_eq_of_le h1 with h | h
  · exact .inl ⟨h, InsOut.start h h2⟩
  · exact .inr ⟨h, rfl, rfl⟩
theorem InsL.done {xs ys : List TR} {lo hi i : Nat} (h : InsL xs lo hi i ys) (hh : ¬ i < hi) : Done xs lo hi ys := by
  rcases h with ⟨_, h⟩ | ⟨rfl, _, rfl⟩
  · have : i = hi := by have := h.2.1; omega
    subst this; exact h.done
  · exact ⟨[], by simp, by simp [seg], by simp⟩
theorem InsL.enter {xs ys : List TR} {lo hi i : Nat} (h : InsL xs lo hi i ys) (hi' : i < hi) (h2 : hi ≤ xs.length) (ht : (seg xs lo hi).Pairwise fun p q => p.1 < q.1) : InsIn xs lo hi i i ys := by
  rcases h with ⟨_, h⟩ | ⟨rfl, h, _⟩
  · exact h.enter hi' h2 ht
  · omega
theorem InsIn.back {xs ys : List TR} {lo hi i j : Nat} (h : InsIn xs lo hi i j ys) (hstop : ∀ y x, ys[j - 1]? = some y → ys[j]? = some x → lo < j → ¬ x.2.pt < y.2.pt) (h2 : hi ≤ xs.length) : InsL xs lo hi (i + 1) ys :=
  .inl ⟨by have := h.1; have := h.2.1; have := h.2.2.1; omega, h.leave hstop h2⟩
theorem InsIn.len {xs ys : List TR} {lo hi i j : Nat} (h : InsIn xs lo hi i j ys) (h2 : hi ≤ xs.length) : ys.length = xs.length := by
  obtain ⟨h1, h3, h4, S1, x, S2, rfl, hj, hp, _⟩ := h
  have := hp.length_eq
  rw [seg_len (by omega)] at this
  simp at this ⊢; omega
theorem InsOut.len {xs ys : List TR} {lo hi i : Nat} (h : InsOut xs lo hi i ys) (h2 : hi ≤ xs.length) : ys.length = xs.length := by
  obtain ⟨h1, h3, S, rfl, hp, _⟩ := h
  have := hp.length_eq
  rw [seg_len (by omega)] at this
  simp at this ⊢; omega
end Go.Proofs.YtjfajpoknnifcaaGreat
