/- Merging two sorted runs in place. No condition. -/
import Derived.Test.YtjfajpoknnifcaaGreatRot
namespace Go.Proofs.YtjfajpoknnifcaaGreat
open Go
structure MPre (xs : List TR) (lo mid hi : Nat) : Prop where
  left : (seg xs lo mid).Pairwise Lt
  right : (seg xs mid hi).Pairwise Lt
  tags : ∀ p ∈ seg xs lo mid, ∀ q ∈ seg xs mid hi, p.1 < q.1
theorem mem_seg {xs : List TR} {lo hi : Nat} {p : TR} (_ : hi ≤ xs.length) : p ∈ seg xs lo hi ↔ ∃ i, lo ≤ i ∧ i < hi ∧ xs[i]? = some p := by
  simp only [seg, List.mem_iff_getElem?]
  constructor
  · rintro ⟨i, hi'⟩
    have hlt : i < hi - lo := by
      have := (List.getElem?_eq_some_iff.1 hi').1
      simp at this; omega
    rw [List.getElem?_take_of_lt hlt, List.getElem?_drop] at hi'
    exact ⟨lo + i, by omega, by omega, hi'⟩
  · rintro ⟨i, h1, h3, e⟩
    refine ⟨i - lo, ?_⟩
    rw [List.getElem?_take_of_lt (by omega), List.getElem?_drop]
    have : lo + (i - lo) = i := by omega
    rw [this]; exact e
theorem sorted_at {xs : List TR} {lo hi i j : Nat} {x y : TR} (h : (seg xs lo hi).Pairwise Lt) (h1 : lo ≤ i) (h2 : i < j) (h3 : j < hi) (hx : xs[i]? = some x) (hy : xs[j]? = some y) : Lt x y := by
  have ex : (seg xs lo hi)[i - lo]? = some x := by
    simp only [seg]
    rw [List.getElem?_take_of_lt (by omega), List.getElem?_drop]
    have : lo + (i - lo) = i := by omega
    rw [this]; exact hx
  have ey : (seg xs lo hi)[j - lo]? = some y := by
    simp only [seg]
    rw [List.getElem?_take_of_lt (by omega), List.getElem?_drop]
    have : lo + (j - lo) = j := by omega
    rw [this]; exact hy
  obtain ⟨a1, a2⟩ := List.getElem?_eq_some_iff.1 ex
  obtain ⟨b1, b2⟩ := List.getElem?_eq_some_iff.1 ey
  have := List.pairwise_iff_getElem.1 h (i - lo) (j - lo) a1 b1 (by omega)
  rw [a2, b2] at this
  exact this
theorem sorted_le {xs : List TR} {lo hi i j : Nat} {x y : TR} (h : (seg xs lo hi).Pairwise Lt) (h1 : lo ≤ i) (h2 : i ≤ j) (h3 : j < hi) (hx : xs[i]? = some x) (hy : xs[j]? = some y) : x.2.pt ≤ y.2.pt := by
  rcases Nat.lt_or_eq_of_le h2 with h | rfl
  · have := sorted_at ‹_› h1 h h3 hx hy
    unfold Lt at this; omega
  · rw [hx] at hy; cases hy; exact Int.le_refl _
theorem done_refl {xs : List TR} {lo hi : Nat} (h1 : lo ≤ hi) (h : (seg xs lo hi).Pairwise Lt) : Done xs lo hi xs := ⟨seg xs lo hi, seg_all xs h1, List.Perm.refl _, h⟩
/-- Where the runs are cut: what stands ahead goes ahead. -/
structure Cut (xs : List TR) (lo mid hi s e : Nat) : Prop where
  h1 : lo ≤ s
  h2 : s ≤ mid
  h3 : mid ≤ e
  h4 : e ≤ hi
  low : ∀ c q x y, lo ≤ c → c < s → e ≤ q → q < hi → xs[c]? = some x → xs[q]? = some y → x.2.pt ≤ y.2.pt
  high : ∀ c q x y, s ≤ c → c < mid → mid ≤ q → q < e → xs[c]? = some x → xs[q]? = some y → y.2.pt < x.2.pt
theorem rot_parts {xs : List TR} {lo mid hi s e : Nat} (k : Cut xs lo mid hi s e) : Rot xs s mid e = xs.take lo ++ (seg xs lo s ++ seg xs mid e) ++ (seg xs s mid ++ seg xs e hi) ++ xs.drop hi := by
  simp only [Rot]
  have e1 : xs.take s = xs.take lo ++ seg xs lo s := by
    have := List.take_add (l := xs) (i := lo) (j := s - lo)
    have q : lo + (s - lo) = s := by have := k.h1; omega
    rw [q] at this; exact this
  have e2 : xs.drop e = seg xs e hi ++ xs.drop hi := by
    have := (List.take_append_drop (hi - e) (xs.drop e)).symm
    rw [List.drop_drop] at this
    have q : e + (hi - e) = hi := by have := k.h4; omega
    rw [q] at this; exact this
  rw [e1, e2]; simp
theorem seg_app (A B D : List TR) : seg (A ++ B ++ D) A.length (A.length + B.length) = B := by simp [seg]
theorem seg_of {ys A B D : List TR} {lo hi : Nat} (h : ys = A ++ B ++ D) (hA : A.length = lo) (hB : lo + B.length = hi) : seg ys lo hi = B := by subst h; subst hA; subst hB; exact seg_app A B D
section
variable {xs : List TR} {lo mid hi s e c : Nat} (k : Cut xs lo mid hi s e) (h : hi ≤ xs.length) (hc : s + (e - mid) = c)
include k h hc
theorem rot_segs : seg (Rot xs s mid e) lo s = seg xs lo s ∧ seg (Rot xs s mid e) s c = seg xs mid e ∧ seg (Rot xs s mid e) c e = seg xs s mid ∧ seg (Rot xs s mid e) e hi = seg xs e hi ∧ seg (Rot xs s mid e) lo c = seg xs lo s ++ seg xs mid e := by
  have h1 := k.h1
  have h2 := k.h2
  have h3 := k.h3
  have h4 := k.h4
  have l0 : (xs.take lo).length = lo := by simp; omega
  have l1 := seg_len (xs := xs) (lo := lo) (hi := s) (by omega)
  have l2 := seg_len (xs := xs) (lo := mid) (hi := e) (by omega)
  have l3 := seg_len (xs := xs) (lo := s) (hi := mid) (by omega)
  have l4 := seg_len (xs := xs) (lo := e) (hi := hi) (by omega)
  have r := rot_parts k
  refine ⟨seg_of (A := xs.take lo) (D := seg xs mid e ++ (seg xs s mid ++ seg xs e hi) ++ xs.drop hi) (by rw [r]; simp) l0 (by omega),
    seg_of (A := xs.take lo ++ seg xs lo s) (D := (seg xs s mid ++ seg xs e hi) ++ xs.drop hi) (by rw [r]; simp) (by simp; omega) (by omega),
    seg_of (A := xs.take lo ++ seg xs lo s ++ seg xs mid e) (D := seg xs e hi ++ xs.drop hi) (by rw [r]; simp) (by simp; omega) (by omega),
    seg_of (A := xs.take lo ++ seg xs lo s ++ seg xs mid e ++ seg xs s mid) (D := xs.drop hi) (by rw [r]; simp) (by simp; omega) (by omega),
    seg_of (A := xs.take lo) (D := (seg xs s mid ++ seg xs e hi) ++ xs.drop hi) (by rw [r]; simp) l0 (by simp; omega)⟩
theorem pre_left (p : MPre xs lo mid hi) : MPre (Rot xs s mid e) lo s c := by
  obtain ⟨q1, q2, q3, q4, _⟩ := rot_segs k h hc
  have h1 := k.h1
  have h2 := k.h2
  have h3 := k.h3
  have h4 := k.h4
  have pl := p.left
  rw [seg_split (mid := s) (by omega) (by omega), List.pairwise_append] at pl
  have pr := p.right
  rw [seg_split (mid := e) (by omega) (by omega), List.pairwise_append] at pr
  refine ⟨by rw [q1]; exact pl.1, by rw [q2]; exact pr.1, ?_⟩
  rw [q1, q2]
  intro a ha b hb
  refine p.tags a ?_ b ?_
  · rw [seg_split (mid := s) (by omega) (by omega)]; exact List.mem_append_left _ ha
  · rw [seg_split (mid := e) (by omega) (by omega)]; exact List.mem_append_left _ hb
theorem pre_right (p : MPre xs lo mid hi) : MPre (Rot xs s mid e) c e hi := by
  obtain ⟨q1, q2, q3, q4, _⟩ := rot_segs k h hc
  have h1 := k.h1
  have h2 := k.h2
  have h3 := k.h3
  have h4 := k.h4
  have pl := p.left
  rw [seg_split (mid := s) (by omega) (by omega), List.pairwise_append] at pl
  have pr := p.right
  rw [seg_split (mid := e) (by omega) (by omega), List.pairwise_append] at pr
  refine ⟨by rw [q3]; exact pl.2.1, by rw [q4]; exact pr.2.1, ?_⟩
  rw [q3, q4]
  intro a ha b hb
  refine p.tags a ?_ b ?_
  · rw [seg_split (mid := s) (by omega) (by omega)]; exact List.mem_append_right _ ha
  · rw [seg_split (mid := e) (by omega) (by omega)]; exact List.mem_append_right _ hb
/-- Both halves sorted: all is. -/
theorem merge_end (p : MPre xs lo mid hi) {ys zs : List TR} (d1 : Done (Rot xs s mid e) lo c ys) (d2 : Done ys c hi zs) : Done xs lo hi zs := by
  have h1 := k.h1
  have h2 := k.h2
  have h3 := k.h3
  have h4 := k.h4
  have l0 : (xs.take lo).length = lo := by simp; omega
  have l1 := seg_len (xs := xs) (lo := lo) (hi := s) (by omega)
  have l2 := seg_len (xs := xs) (lo := mid) (hi := e) (by omega)
  have l3 := seg_len (xs := xs) (lo := s) (hi := mid) (by omega)
  have l4 := seg_len (xs := xs) (lo := e) (hi := hi) (by omega)
  have r := rot_parts k
  obtain ⟨M1, rfl, p1, s1⟩ := d1
  rw [(rot_segs k h hc).2.2.2.2] at p1
  have lM1 : M1.length = c - lo := by rw [p1.length_eq, List.length_append, l1, l2]; omega
  have e1 : (Rot xs s mid e).take lo = xs.take lo := by
    rw [r, List.append_assoc, List.append_assoc, List.take_left' l0]
  have e2 : (Rot xs s mid e).drop c = (seg xs s mid ++ seg xs e hi) ++ xs.drop hi := by
    rw [r, List.append_assoc]
    exact List.drop_left' (by simp; omega)
  rw [e1, e2] at d2
  obtain ⟨M2, rfl, p2, s2⟩ := d2
  have e3 : seg (xs.take lo ++ M1 ++ (seg xs s mid ++ seg xs e hi ++ xs.drop hi)) c hi = seg xs s mid ++ seg xs e hi :=
    seg_of (A := xs.take lo ++ M1) (D := xs.drop hi) (by simp) (by simp; omega) (by simp; omega)
  rw [e3] at p2
  have e4 : (xs.take lo ++ M1 ++ (seg xs s mid ++ seg xs e hi ++ xs.drop hi)).take c = xs.take lo ++ M1 := List.take_left' (by simp; omega)
  have e5 : (xs.take lo ++ M1 ++ (seg xs s mid ++ seg xs e hi ++ xs.drop hi)).drop hi = xs.drop hi := by
    have : xs.take lo ++ M1 ++ (seg xs s mid ++ seg xs e hi ++ xs.drop hi) = (xs.take lo ++ M1 ++ (seg xs s mid ++ seg xs e hi)) ++ xs.drop hi := by simp
    rw [this]
    exact List.drop_left' (by simp; omega)
  rw [e4, e5]
  refine ⟨M1 ++ M2, by simp, ?_, ?_⟩
  · refine (p1.append p2).trans ?_
    rw [seg_split (xs := xs) (lo := lo) (mid := mid) (hi := hi) (by omega) (by omega), seg_split (xs := xs) (lo := lo) (mid := s) (hi := mid) (by omega) (by omega), seg_split (xs := xs) (lo := mid) (mid := e) (hi := hi) (by omega) (by omega)]
    simp only [List.append_assoc]
    refine List.Perm.append_left _ ?_
    simp only [← List.append_assoc]
    exact List.Perm.append_right _ List.perm_append_comm
  · rw [List.pairwise_append]
    refine ⟨s1, s2, fun a ha b hb => ?_⟩
    have ha' := p1.mem_iff.1 ha
    have hb' := p2.mem_iff.1 hb
    rcases List.mem_append.1 ha' with ha' | ha' <;> rcases List.mem_append.1 hb' with hb' | hb'
    · have pl := p.left
      rw [seg_split (mid := s) (by omega) (by omega), List.pairwise_append] at pl
      exact pl.2.2 a ha' b hb'
    · have ht := p.tags a (by rw [seg_split (mid := s) (by omega) (by omega)]; exact List.mem_append_left _ ha') b (by rw [seg_split (mid := e) (by omega) (by omega)]; exact List.mem_append_right _ hb')
      obtain ⟨i, i1, i2, i3⟩ := (mem_seg (by omega)).1 ha'
      obtain ⟨j, j1, j2, j3⟩ := (mem_seg (by omega)).1 hb'
      have := k.low i j a b i1 i2 j1 j2 i3 j3
      unfold Lt; omega
    · obtain ⟨i, i1, i2, i3⟩ := (mem_seg (by omega)).1 hb'
      obtain ⟨j, j1, j2, j3⟩ := (mem_seg (by omega)).1 ha'
      exact .inl (k.high i j b a i1 i2 j1 j2 i3 j3)
    · have pr := p.right
      rw [seg_split (mid := e) (by omega) (by omega), List.pairwise_append] at pr
      exact pr.2.2 a ha' b hb'
end
theorem rot_none {xs : List TR} {s mid e : Nat} (h : s = mid ∨ e = mid) (h1 : s ≤ mid) (h2 : mid ≤ e) : Rot xs s mid e = xs := by
  rcases h with rfl | rfl
  · simp only [Rot, seg_none, List.append_nil]
    exact (seg_all xs h2).symm
  · simp only [Rot, seg_none, List.append_nil]
    exact (seg_all xs h1).symm

/-! ### One against a run -/
/-- The left run is one: it goes up to i. -/
theorem merge_up {xs : List TR} {lo hi i : Nat} {x : TR} (p : MPre xs lo (lo + 1) hi) (h : hi ≤ xs.length) (h1 : lo + 1 ≤ i) (h2 : i ≤ hi) (hx : xs[lo]? = some x) (hl : i = lo + 1 ∨ ∀ y, xs[i - 1]? = some y → y.2.pt < x.2.pt)
    (hr : i = hi ∨ ∀ y, xs[i]? = some y → ¬ y.2.pt < x.2.pt) : Done xs lo hi (Rot xs lo (lo + 1) i) := by
  have k : Cut xs lo (lo + 1) hi lo i := ⟨Nat.le_refl _, by omega, h1, h2, fun c q u v a b => by omega, fun c q u v c1 c2 q1 q2 eu ev => by
    have : c = lo := by omega
    subst this
    rw [hx] at eu; cases eu
    rcases hl with rfl | hl
    · omega
    · obtain ⟨w, hw⟩ : ∃ w, xs[i - 1]? = some w := ⟨_, List.getElem?_eq_getElem (by omega)⟩
      have := hl w hw
      have := sorted_le p.right q1 (by omega) (by omega) ev hw
      omega⟩
  have hc : lo + (i - (lo + 1)) = i - 1 := by omega
  obtain ⟨q1, q2, q3, q4, q5⟩ := rot_segs k h hc
  refine merge_end k h hc p (done_refl (by omega) ?_) (done_refl (by omega) ?_)
  · rw [q5, seg_none, List.nil_append]
    have := p.right
    rw [seg_split (mid := i) (by omega) (by omega), List.pairwise_append] at this
    exact this.1
  · rw [seg_split (mid := i) (by omega) (by omega), q3, q4, List.pairwise_append]
    have pr := p.right
    rw [seg_split (mid := i) (by omega) (by omega), List.pairwise_append] at pr
    refine ⟨p.left, pr.2.1, fun a ha b hb => ?_⟩
    have ht := p.tags a ha b (by rw [seg_split (mid := i) (by omega) (by omega)]; exact List.mem_append_right _ hb)
    obtain ⟨u, u1, u2, u3⟩ := (mem_seg (by omega)).1 ha
    obtain ⟨v, v1, v2, v3⟩ := (mem_seg (by omega)).1 hb
    have : u = lo := by omega
    subst this
    rw [hx] at u3; cases u3
    rcases hr with rfl | hr
    · omega
    · obtain ⟨w, hw⟩ : ∃ w, xs[i]? = some w := ⟨_, List.getElem?_eq_getElem (by omega)⟩
      have := hr w hw
      have := sorted_le p.right (by omega) v1 v2 hw v3
      unfold Lt; omega
/-- The right run is one: it goes down to i. -/
theorem merge_down {xs : List TR} {lo mid i : Nat} {x : TR} (p : MPre xs lo mid (mid + 1)) (h : mid + 1 ≤ xs.length) (h1 : lo ≤ i) (h2 : i ≤ mid) (hx : xs[mid]? = some x) (hl : i = lo ∨ ∀ y, xs[i - 1]? = some y → ¬ x.2.pt < y.2.pt)
    (hr : i = mid ∨ ∀ y, xs[i]? = some y → x.2.pt < y.2.pt) : Done xs lo (mid + 1) (Rot xs i mid (mid + 1)) := by
  have k : Cut xs lo mid (mid + 1) i (mid + 1) := ⟨h1, h2, by omega, Nat.le_refl _, fun c q u v c1 c2 q1 q2 eu ev => by omega, fun c q u v c1 c2 q1 q2 eu ev => by
    have : q = mid := by omega
    subst this
    rw [hx] at ev; cases ev
    rcases hr with rfl | hr
    · omega
    · obtain ⟨w, hw⟩ : ∃ w, xs[i]? = some w := ⟨_, List.getElem?_eq_getElem (by omega)⟩
      have := hr w hw
      have := sorted_le p.left h1 c1 c2 hw eu
      omega⟩
  have hc : i + (mid + 1 - mid) = i + 1 := by omega
  obtain ⟨q1, q2, q3, q4, q5⟩ := rot_segs k h hc
  refine merge_end k h hc p (done_refl (by omega) ?_) (done_refl (by omega) ?_)
  · rw [q5, List.pairwise_append]
    have pl := p.left
    rw [seg_split (mid := i) (by omega) (by omega), List.pairwise_append] at pl
    refine ⟨pl.1, p.right, fun a ha b hb => ?_⟩
    have ht := p.tags a (by rw [seg_split (mid := i) (by omega) (by omega)]; exact List.mem_append_left _ ha) b hb
    obtain ⟨u, u1, u2, u3⟩ := (mem_seg (by omega)).1 ha
    obtain ⟨v, v1, v2, v3⟩ := (mem_seg (by omega)).1 hb
    have : v = mid := by omega
    subst this
    rw [hx] at v3; cases v3
    rcases hl with rfl | hl
    · omega
    · obtain ⟨w, hw⟩ : ∃ w, xs[i - 1]? = some w := ⟨_, List.getElem?_eq_getElem (by omega)⟩
      have := hl w hw
      have := sorted_le p.left u1 (by omega) (by omega) u3 hw
      unfold Lt; omega
  · rw [seg_split (mid := mid + 1) (by omega) (by omega), q3, seg_none, List.append_nil]
    have pl := p.left
    rw [seg_split (mid := i) (by omega) (by omega), List.pairwise_append] at pl
    exact pl.2.1

/-! ### Where to cut two runs -/
theorem cut_of {xs : List TR} {lo mid hi c0 s0 r0 s e : Nat} (p : MPre xs lo mid hi) (h : hi ≤ xs.length) (h1 : lo < mid) (h2 : mid < hi) (hc : c0 = (lo + hi) / 2) (hs0 : c0 < mid ∧ s0 = c0 + mid - hi ∧ r0 = c0 ∨ mid ≤ c0 ∧ s0 = lo ∧ r0 = mid) (g1 : s0 ≤ s) (g2 : s ≤ r0) (he : e = c0 + mid - s)
    (hl : s = s0 ∨ ∀ x y, xs[s - 1]? = some x → xs[c0 + mid - 1 - (s - 1)]? = some y → ¬ y.2.pt < x.2.pt) (hr : s = r0 ∨ ∀ x y, xs[s]? = some x → xs[c0 + mid - 1 - s]? = some y → y.2.pt < x.2.pt) : Cut xs lo mid hi s e := by
  subst hc
  refine ⟨by omega, by omega, by omega, by omega, fun c q x y c1 c2 q1 q2 ex ey => ?_, fun c q x y c1 c2 q1 q2 ex ey => ?_⟩
  · rcases hl with rfl | hl
    · omega
    · obtain ⟨u, hu⟩ : ∃ u, xs[s - 1]? = some u := ⟨_, List.getElem?_eq_getElem (by omega)⟩
      have e1 : (lo + hi) / 2 + mid - 1 - (s - 1) = e := by omega
      obtain ⟨v, hv⟩ : ∃ v, xs[e]? = some v := ⟨_, List.getElem?_eq_getElem (by omega)⟩
      rw [e1] at hl
      have a := hl u v hu hv
      have b := sorted_le p.left c1 (show c ≤ s - 1 by omega) (by omega) ex hu
      have d := sorted_le p.right (show mid ≤ e by omega) q1 q2 hv ey
      omega
  · rcases hr with rfl | hr
    · omega
    · obtain ⟨u, hu⟩ : ∃ u, xs[s]? = some u := ⟨_, List.getElem?_eq_getElem (by omega)⟩
      have e1 : (lo + hi) / 2 + mid - 1 - s = e - 1 := by omega
      obtain ⟨v, hv⟩ : ∃ v, xs[e - 1]? = some v := ⟨_, List.getElem?_eq_getElem (by omega)⟩
      rw [e1] at hr
      have a := hr u v hu hv
      have b := sorted_le p.left (show lo ≤ s by omega) c1 c2 hu ex
      have d := sorted_le p.right q1 (show q ≤ e - 1 by omega) (by omega) ey hv
      omega
/-! ### Searching by halves -/
def Bs (Q : Nat → Prop) (lo hi i j : Nat) : Prop := lo ≤ i ∧ i ≤ j ∧ j ≤ hi ∧ (i = lo ∨ Q (i - 1)) ∧ (j = hi ∨ ¬ Q j)
theorem Bs.start {Q : Nat → Prop} {lo hi : Nat} (h : lo ≤ hi) : Bs Q lo hi lo hi := ⟨Nat.le_refl _, h, Nat.le_refl _, .inl rfl, .inl rfl⟩
theorem Bs.up {Q : Nat → Prop} {lo hi i j c : Nat} (h : Bs Q lo hi i j) (h1 : i ≤ c) (h2 : c < j) (q : Q c) : Bs Q lo hi (c + 1) j := by
  obtain ⟨a, b, d, _, f⟩ := h
  exact ⟨by omega, by omega, d, .inr q, f⟩
theorem Bs.down {Q : Nat → Prop} {lo hi i j c : Nat} (h : Bs Q lo hi i j) (h1 : i ≤ c) (h2 : c < j) (q : ¬ Q c) : Bs Q lo hi i c := by
  obtain ⟨a, b, d, e, f⟩ := h
  exact ⟨a, h1, by omega, e, .inr q⟩
theorem shr_one (x : Nat) : ((x : Nat) : Int).fdiv (2 ^ (min (1 : Int).toNat IntKind.u64.bits)) = ((x / 2 : Nat) : Int) := by
  show ((x : Nat) : Int).fdiv 2 = _
  rw [Int.fdiv_eq_ediv_of_nonneg _ (by decide)]
  omega
theorem set_two (A D : List TR) (p q : TR) {i : Nat} (h : A.length = i) : (A ++ p :: q :: D)[i]? = some p ∧ (A ++ p :: q :: D)[i + 1]? = some q ∧ ∀ u v, ((A ++ p :: q :: D).set i u).set (i + 1) v = A ++ u :: v :: D := by
  subst h
  refine ⟨by simp, by simp, fun u v => by simp⟩
theorem rot_up {xs : List TR} {lo k : Nat} {x y : TR} (h : lo ≤ k) (h2 : k + 1 < xs.length) (hx : (Rot xs lo (lo + 1) (k + 1))[k]? = some x) (hy : (Rot xs lo (lo + 1) (k + 1))[k + 1]? = some y) :
    ((Rot xs lo (lo + 1) (k + 1)).set k y).set (k + 1) x = Rot xs lo (lo + 1) (k + 1 + 1) := by
  have e : Rot xs lo (lo + 1) (k + 1) = (xs.take lo ++ seg xs (lo + 1) (k + 1)) ++ xs[lo] :: xs[k + 1] :: xs.drop (k + 1 + 1) := by
    simp only [Rot]
    rw [seg_cons (lo := lo) (hi := lo + 1) (by omega) (by omega), seg_none, List.drop_eq_getElem_cons (i := k + 1) (by omega)]
    simp
  obtain ⟨q1, q2, q3⟩ := set_two (xs.take lo ++ seg xs (lo + 1) (k + 1)) (xs.drop (k + 1 + 1)) xs[lo] xs[k + 1] (i := k) (by rw [List.length_append, seg_len (by omega), List.length_take]; omega)
  rw [← e] at q1 q2 q3
  rw [q1] at hx
  rw [q2] at hy
  cases hx
  cases hy
  rw [q3]
  simp only [Rot]
  rw [seg_cons (lo := lo) (hi := lo + 1) (by omega) (by omega), seg_none, seg_snoc (lo := lo + 1) (hi := k + 1) (by omega) (by omega)]
  simp
theorem rot_down {xs : List TR} {k mid : Nat} {x y : TR} (h : 0 < k) (h1 : k ≤ mid) (h2 : mid < xs.length) (hx : (Rot xs k mid (mid + 1))[k]? = some x) (hy : (Rot xs k mid (mid + 1))[k - 1]? = some y) :
    ((Rot xs k mid (mid + 1)).set k y).set (k - 1) x = Rot xs (k - 1) mid (mid + 1) := by
  obtain ⟨k, rfl⟩ : ∃ j, k = j + 1 := ⟨k - 1, by omega⟩
  rw [Nat.add_sub_cancel] at hy ⊢
  have e : Rot xs (k + 1) mid (mid + 1) = xs.take k ++ xs[k] :: xs[mid] :: (seg xs (k + 1) mid ++ xs.drop (mid + 1)) := by
    simp only [Rot]
    rw [seg_cons (lo := mid) (hi := mid + 1) (by omega) (by omega), seg_none, List.take_succ_eq_append_getElem (by omega)]
    simp only [List.append_assoc, List.cons_append, List.nil_append]
  obtain ⟨q1, q2, q3⟩ := set_two (xs.take k) (seg xs (k + 1) mid ++ xs.drop (mid + 1)) xs[k] xs[mid] (i := k) (by rw [List.length_take]; omega)
  rw [← e] at q1 q2 q3
  rw [q1] at hy
  rw [q2] at hx
  cases hx
  cases hy
  rw [List.set_comm _ _ (by omega), q3]
  simp only [Rot]
  rw [seg_cons (lo := mid) (hi := mid + 1) (by omega) (by omega), seg_none, seg_cons (lo := k) (hi := mid) (by omega) (by omega)]
  simp
theorem mpre_none {xs : List TR} {lo mid hi : Nat} (p : MPre xs lo mid hi) (h : lo = mid ∨ mid = hi) (h1 : lo ≤ mid) (h2 : mid ≤ hi) : Done xs lo hi xs := by
  refine done_refl (by omega) ?_
  rcases h with rfl | rfl
  · exact p.right
  · exact p.left
theorem mpre_after {xs ys : List TR} {lo c e hi : Nat} (d : Done xs lo c ys) (p : MPre xs c e hi) (h1 : lo ≤ c) (h2 : c ≤ e) (h3 : e ≤ hi) (h4 : hi ≤ xs.length) : MPre ys c e hi := by
  obtain ⟨M, rfl, hp, _⟩ := d
  have l1 : (xs.take lo ++ M).length = c := by
    have := hp.length_eq
    rw [seg_len (by omega)] at this
    rw [List.length_append, List.length_take]; omega
  have e1 : ∀ a b, c ≤ a → seg (xs.take lo ++ M ++ xs.drop c) a b = seg xs a b := by
    intro a b ha
    simp only [seg]
    have : (xs.take lo ++ M ++ xs.drop c).drop a = xs.drop a := by
      have q : a = c + (a - c) := by omega
      rw [q, ← List.drop_drop, List.drop_left' l1, List.drop_drop]
    rw [this]
  exact ⟨by rw [e1 _ _ (Nat.le_refl _)]; exact p.left, by rw [e1 _ _ h2]; exact p.right, by rw [e1 _ _ (Nat.le_refl _), e1 _ _ h2]; exact p.tags⟩
/-- What is asked at each place: the three searches. -/
def Q1 (xs : List TR) (x : TR) (c : Nat) : Prop := ∃ y, xs[c]? = some y ∧ y.2.pt < x.2.pt
def Q2 (xs : List TR) (x : TR) (c : Nat) : Prop := ∃ y, xs[c]? = some y ∧ ¬ x.2.pt < y.2.pt
def Q3 (xs : List TR) (p c : Nat) : Prop := ∃ x y, xs[c]? = some x ∧ xs[p - c]? = some y ∧ ¬ y.2.pt < x.2.pt
theorem up_end {xs : List TR} {lo mid hi i j : Nat} {x : TR} (hm : mid = lo + 1) (p : MPre xs lo mid hi) (h : hi ≤ xs.length) (hx : xs[lo]? = some x) (b : Bs (Q1 xs x) mid hi i j) (hij : ¬ i < j) : Done xs lo hi (Rot xs lo (lo + 1) i) := by
  subst hm
  obtain ⟨b1, b2, b3, b4, b5⟩ := b
  have : i = j := by omega
  subst this
  refine merge_up p h b1 b3 hx ?_ ?_
  · rcases b4 with b4 | ⟨y, e, q⟩
    · exact .inl b4
    · exact .inr fun z hz => by rw [e] at hz; cases hz; exact q
  · rcases b5 with b5 | b5
    · exact .inl b5
    · exact .inr fun z hz q => b5 ⟨z, hz, q⟩
theorem down_end {xs : List TR} {lo mid hi i j : Nat} {x : TR} (hm : hi = mid + 1) (p : MPre xs lo mid hi) (h : hi ≤ xs.length) (hx : xs[mid]? = some x) (b : Bs (Q2 xs x) lo mid i j) (hij : ¬ i < j) : Done xs lo hi (Rot xs i mid (mid + 1)) := by
  subst hm
  obtain ⟨b1, b2, b3, b4, b5⟩ := b
  have : i = j := by omega
  subst this
  refine merge_down p h b1 b3 hx ?_ ?_
  · rcases b4 with b4 | ⟨y, e, q⟩
    · exact .inl b4
    · exact .inr fun z hz => by rw [e] at hz; cases hz; exact q
  · rcases b5 with b5 | b5
    · exact .inl b5
    · exact .inr fun z hz => Decidable.not_not.1 fun q => b5 ⟨z, hz, q⟩
theorem cut_end {xs : List TR} {lo mid hi c0 s0 r0 s r : Nat} (p : MPre xs lo mid hi) (h : hi ≤ xs.length) (h1 : lo < mid) (h2 : mid < hi) (hc : c0 = (lo + hi) / 2) (hs0 : c0 < mid ∧ s0 = c0 + mid - hi ∧ r0 = c0 ∨ mid ≤ c0 ∧ s0 = lo ∧ r0 = mid)
    (b : Bs (Q3 xs (c0 + mid - 1)) s0 r0 s r) (hij : ¬ s < r) : Cut xs lo mid hi s (c0 + mid - s) := by
  obtain ⟨b1, b2, b3, b4, b5⟩ := b
  have : s = r := by omega
  subst this
  refine cut_of p h h1 h2 hc hs0 b1 b3 rfl ?_ ?_
  · rcases b4 with b4 | ⟨x, y, e1, e2, q⟩
    · exact .inl b4
    · exact .inr fun u v hu hv => by rw [e1] at hu; rw [e2] at hv; cases hu; cases hv; exact q
  · rcases b5 with b5 | b5
    · exact .inl b5
    · exact .inr fun u v hu hv => Decidable.not_not.1 fun q => b5 ⟨u, v, hu, hv, q⟩
end Go.Proofs.YtjfajpoknnifcaaGreat
