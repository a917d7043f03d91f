/- HistoryTimes and HistoryOrders as plain laws: their models answer true. No condition. -/
import Derived.Test.YtjfajpoknnifcaaGreatLwa
import Derived.Test.YtjfajpoknnifcaaGreatPure
namespace Go.Proofs.YtjfajpoknnifcaaGreat
open Go
/-! ### What is sorted -/
def leT (p q : TR) : Bool := decide (p.2.pt < q.2.pt ∨ (p.2.pt = q.2.pt ∧ p.1 ≤ q.1))
theorem ord_there (xs : List RecV) : ∃ z, OrdOf xs z := by
  have hp := List.mergeSort_perm (tagged xs) leT
  have hs : ((tagged xs).mergeSort leT).Pairwise fun a b => leT a b = true := List.pairwise_mergeSort (fun a b c h1 h2 => by
    simp only [leT, decide_eq_true_eq] at *; omega) (fun a b => by
    simp only [leT, Bool.or_eq_true, decide_eq_true_eq]; omega) _
  have hn : ((tagged xs).mergeSort leT).Pairwise fun a b => a.1 ≠ b.1 := by
    have h1 : (tagged xs).Pairwise fun a b => a.1 ≠ b.1 := (tagged_tags xs).imp fun h => Nat.ne_of_lt h
    exact hp.symm.pairwise h1 fun {a b} h => h.symm
  refine ⟨_, (tagged xs).mergeSort leT, ⟨(tagged xs).mergeSort leT, by simp, ?_, ?_⟩, rfl⟩
  · have hq : seg (tagged xs) 0 (tagged xs).length = tagged xs := by simp [seg]
    rw [hq]; exact hp
  · refine (hs.and hn).imp fun {a b} h => ?_
    obtain ⟨h1, h2⟩ := h
    simp only [leT, decide_eq_true_eq] at h1
    unfold Lt; omega
theorem ordM_ord (xs : List RecV) : OrdOf xs (ordM xs) := let ⟨_, h⟩ := ord_there xs; ordM_of h
/-- What stands at a place of what is sorted. -/
theorem ordM_spec (xs : List RecV) : ∃ ys : List TR, ys.Perm (tagged xs) ∧ ys.Pairwise Lt ∧ ordM xs = ys.map (·.2) := (ordM_ord xs).get
theorem tagged_get {xs : List RecV} {p : TR} (h : p ∈ tagged xs) : xs[p.1]? = some p.2 := by
  obtain ⟨i, hi⟩ := List.mem_iff_getElem?.1 h
  simp only [tagged, List.getElem?_map, List.getElem?_zipIdx, Option.map_map] at hi
  cases e : xs[i]? with
  | none => rw [e] at hi; cases hi
  | some x =>
    rw [e] at hi
    simp at hi
    rw [← hi]
    exact e
/-! ### Times -/
theorem recsOf_get (xs : List TmV) (i : Nat) : (recsOf xs)[i]? = (xs[i]?).map (recOf i) := by
  simp only [recsOf, List.getElem?_map, List.getElem?_zipIdx, Option.map_map]
  cases xs[i]? <;> simp
theorem real_same (xs : List TmV) : realB (recsOf xs) = refRealB xs := by
  unfold realB refRealB
  congr 1
  apply propext
  constructor
  · intro h c k x y h1 hx hy
    have hl := (List.getElem?_eq_some_iff.1 hy).1
    exact h k c (recOf k y) (recOf c x) h1 (by rw [recsOf_len]; exact hl) (by rw [recsOf_get, hy]; rfl) (by rw [recsOf_get, hx]; rfl)
  · intro h c k x y h1 h2 hx hy
    rw [recsOf_get] at hx hy
    cases e : xs[c]? with
    | none => rw [e] at hx; cases hx
    | some u =>
      cases e' : xs[k]? with
      | none => rw [e'] at hy; cases hy
      | some v =>
        rw [e] at hx
        rw [e'] at hy
        cases hx; cases hy
        exact h k c v u h1 e' e
theorem cnt_same (xs : List TmV) (i : Nat) (x : TmV) : cnt (recsOf xs) (recOf i x) = cntM xs x := by
  have key : ∀ n, n ≤ xs.length → cnt ((recsOf xs).take n) (recOf i x) = cntM (xs.take n) x := by
    intro n
    induction n with
    | zero => intro _; rfl
    | succ n ih =>
      intro hn
      have hy : xs[n]? = some xs[n] := List.getElem?_eq_getElem (by omega)
      have hr : (recsOf xs)[n]? = some (recOf n xs[n]) := by rw [recsOf_get, hy]; rfl
      rw [cnt_step hr, cntM_step hy, ih (by omega)]; rfl
  have := key xs.length (Nat.le_refl _)
  rwa [List.take_of_length_le (by rw [recsOf_len]; omega), List.take_of_length_le (Nat.le_refl _)] at this
theorem ovl_same (xs : List TmV) : ovl (recsOf xs) (recsOf xs) = ovlM xs xs := by
  have key : ∀ n, n ≤ xs.length → ovl (recsOf xs) ((recsOf xs).take n) = ovlM xs (xs.take n) := by
    intro n
    induction n with
    | zero => intro _; rfl
    | succ n ih =>
      intro hn
      have hy : xs[n]? = some xs[n] := List.getElem?_eq_getElem (by omega)
      have hr : (recsOf xs)[n]? = some (recOf n xs[n]) := by rw [recsOf_get, hy]; rfl
      rw [ovl_step _ hr, ovlM_step _ hy, ih (by omega), cnt_same]
  have := key xs.length (Nat.le_refl _)
  rwa [List.take_of_length_le (by rw [recsOf_len]; omega), List.take_of_length_le (Nat.le_refl _)] at this
/-- The loop over what is sorted goes through. -/
theorem times_loop (xs : List TmV) (hx : xs.length ≤ 60) (ys : List TR) (hp : ys.Perm (tagged (recsOf xs))) (hs : ys.Pairwise Lt) :
    ∀ (d i k : Nat) (seen : List (Int × Bool)), i + d = ys.length → d < k → (∀ t : Nat, (∀ j : Nat, j < i → ∀ p : TR, ys[j]? = some p → p.1 ≠ t) → mget seen (t : Int) = none) →
      M_crossbucklaw23_HistoryTimes.l1 (ys.map (·.2)) xs k seen (i : Int) = some (.inr (.inr (.inr (.inr (.inr (.inr ())))))) := by
  have hlen : ys.length = xs.length := by rw [hp.length_eq, tagged_len, recsOf_len]
  have hat : ∀ (i : Nat) (p : TR), ys[i]? = some p → ∃ x, xs[p.1]? = some x ∧ p.2 = recOf p.1 x ∧ p.1 < xs.length := by
    intro i p h
    have h1 := tagged_get (hp.mem_iff.1 (List.mem_of_getElem? h))
    rw [recsOf_get] at h1
    cases e : xs[p.1]? with
    | none => rw [e] at h1; cases h1
    | some x =>
      rw [e] at h1
      exact ⟨x, rfl, (Option.some.inj h1).symm, (List.getElem?_eq_some_iff.1 e).1⟩
  intro d
  induction d with
  | zero =>
    intro i k seen hi hk _
    obtain ⟨k, rfl⟩ : ∃ m, k = m + 1 := ⟨k - 1, by omega⟩
    rw [M_crossbucklaw23_HistoryTimes.l1.eq_2, if_neg (by rw [List.length_map]; omega)]
  | succ d ih =>
    intro i k seen hi hk hseen
    obtain ⟨k, rfl⟩ : ∃ m, k = m + 1 := ⟨k - 1, by omega⟩
    have hil : i < ys.length := by omega
    obtain ⟨p, hp1⟩ : ∃ p, ys[i]? = some p := ⟨_, List.getElem?_eq_getElem hil⟩
    obtain ⟨x, hx1, hx2, hx3⟩ := hat i p hp1
    have hn1 : nth (ys.map (·.2)) (i : Int) = some p.2 := nth_of (by rw [List.getElem?_map, hp1]; rfl)
    have hix : p.2.ix = ((p.1 : Nat) : Int) := by rw [hx2]; rfl
    have hpt : p.2.pt = x.pt := by rw [hx2]; rfl
    have hfit : fits .i64 ((p.1 : Nat) : Int) := fits_i64 (by omega) (by omega)
    have hnone : mget seen ((p.1 : Nat) : Int) = none := hseen p.1 fun j hj q hq e => by
      have h1 := (List.getElem?_eq_some_iff.1 hq)
      have h2 := (List.getElem?_eq_some_iff.1 hp1)
      have := List.pairwise_iff_getElem.1 hs j i h1.1 h2.1 hj
      rw [h1.2, h2.2] at this
      have hpw : (tagged (recsOf xs)).Pairwise fun a b => a.1 ≠ b.1 := (tagged_tags (recsOf xs)).imp fun h => Nat.ne_of_lt h
      have hpw' := hp.symm.pairwise hpw fun {a b} h => h.symm
      have := List.pairwise_iff_getElem.1 hpw' j i h1.1 h2.1 hj
      rw [h1.2, h2.2] at this
      exact this e
    have hnx : nth xs ((p.1 : Nat) : Int) = some x := nth_of hx1
    have hstep : w64 ((i : Int) + 1) = ((i + 1 : Nat) : Int) := by rw [w64_id (by omega) (by omega)]; omega
    have hrec := ih (i + 1) k (mput seen ((p.1 : Nat) : Int) true) (by omega) (by omega) fun t ht => by
      rw [mget_mput, if_neg ?_]
      · exact hseen t fun j hj q hq => ht j (by omega) q hq
      · have := ht i (by omega) p hp1
        omega
    rw [M_crossbucklaw23_HistoryTimes.l1.eq_2, if_pos (by rw [List.length_map]; omega), hn1]
    simp only [Option.bind_some]
    rw [hix, if_neg (by omega), if_neg (by omega), if_pos hfit, hnone]
    simp only [Option.getD_none, Bool.false_eq_true, if_false]
    rw [hnx]
    simp only [Option.bind_some]
    rw [if_neg (by rw [hpt]; simp), hstep]
    by_cases h0 : (0 : Int) < (i : Int)
    · rw [if_pos h0]
      obtain ⟨q, hq⟩ : ∃ q, ys[i - 1]? = some q := ⟨_, List.getElem?_eq_getElem (by omega)⟩
      have hw : w64 ((i : Int) - 1) = ((i - 1 : Nat) : Int) := by rw [w64_id (by omega) (by omega)]; omega
      have hn2 : nth (ys.map (·.2)) (w64 ((i : Int) - 1)) = some q.2 := by rw [hw]; exact nth_of (by rw [List.getElem?_map, hq]; rfl)
      have hlt : Lt q p := by
        have h1 := (List.getElem?_eq_some_iff.1 hq)
        have h2 := (List.getElem?_eq_some_iff.1 hp1)
        have := List.pairwise_iff_getElem.1 hs (i - 1) i h1.1 h2.1 (by omega)
        rw [h1.2, h2.2] at this
        exact this
      obtain ⟨_, _, hq2, _⟩ := hat (i - 1) q hq
      have hqx : q.2.ix = ((q.1 : Nat) : Int) := by rw [hq2]; rfl
      unfold Lt at hlt
      rw [hn2]
      simp only [Option.bind_some]
      rw [if_neg (by omega)]
      by_cases he : q.2.pt = p.2.pt
      · rw [if_pos he, hqx, if_neg (by omega)]; exact hrec
      · rw [if_neg he]; exact hrec
    · rw [if_neg h0]; exact hrec
theorem history_times (xs : List TmV) : M_crossbucklaw23_HistoryTimes xs = some true := by
  unfold M_crossbucklaw23_HistoryTimes
  by_cases h : (60 : Int) < ((xs.length : Nat) : Int)
  · rw [if_pos h]; rfl
  · rw [if_neg h]
    have hx : xs.length ≤ 60 := by omega
    obtain ⟨ys, hp, hs, he⟩ := ordM_spec (recsOf xs)
    have hl : (ordM (recsOf xs)).length = xs.length := by rw [he, List.length_map, hp.length_eq, tagged_len, recsOf_len]
    have h1 : M_to xs = some (recsOf xs) := if_pos (by omega)
    have h2 : M_order (recsOf xs) = some (ordM (recsOf xs)) := if_pos (by rw [recsOf_len]; omega)
    have h3 : M_real (recsOf xs) = some (realB (recsOf xs)) := if_pos (by rw [recsOf_len]; omega)
    have h4 : M_refReal xs = some (refRealB xs) := if_pos (by omega)
    have h5 : M_overlap (recsOf xs) = some ((ovl (recsOf xs) (recsOf xs) : Nat) : Int) := if_pos (by rw [recsOf_len]; omega)
    have h6 : M_refOverlap xs = some ((ovlM xs xs : Nat) : Int) := if_pos (by omega)
    have h7 := times_loop xs hx ys hp hs ys.length 0 fuel [] (by omega) (by have := fuel_big; have := hp.length_eq; rw [tagged_len, recsOf_len] at this; omega) (fun t _ => rfl)
    rw [← he] at h7
    simp only [h1, h2, h3, h4, h5, h6, Option.bind_some, hl, real_same, ovl_same, not_true, if_false]
    rw [show (0 : Int) = ((0 : Nat) : Int) from rfl, h7]
    rfl
/-! ### Gaps -/
theorem orders_l1 (gs : List Nat) (hg : gs.length ≤ 40) (hb : ∀ g ∈ gs, g ≤ 255) : ∀ (d i k : Nat), i + d = gs.length → d < k →
    M_crossbucklaw23_HistoryOrders.l1 (gs.map fun g : Nat => (g : Int)) k ((lsOf gs).take i) (atOf (gs.take i) : Int) (i : Int) = some (lsOf gs) := by
  intro d
  induction d with
  | zero =>
    intro i k hi hk
    obtain ⟨k, rfl⟩ : ∃ m, k = m + 1 := ⟨k - 1, by omega⟩
    rw [M_crossbucklaw23_HistoryOrders.l1.eq_2, if_neg (by rw [List.length_map]; omega), List.take_of_length_le (by rw [lsOf_len]; omega)]
  | succ d ih =>
    intro i k hi hk
    obtain ⟨k, rfl⟩ : ∃ m, k = m + 1 := ⟨k - 1, by omega⟩
    have hil : i < gs.length := by omega
    obtain ⟨g, hgi⟩ : ∃ g, gs[i]? = some g := ⟨_, List.getElem?_eq_getElem hil⟩
    have hg255 := hb g (List.mem_of_getElem? hgi)
    have hn : nth (gs.map fun g : Nat => (g : Int)) (i : Int) = some (g : Int) := nth_of (by rw [List.getElem?_map, hgi]; rfl)
    have ha := atOf_le (gs.take i)
    rw [List.length_take] at ha
    have hm3 := Nat.mod_lt g (show 0 < 3 by decide)
    have hm4 := Nat.mod_lt g (show 0 < 4 by decide)
    have e3 : (g : Int).tmod 3 = ((g % 3 : Nat) : Int) := by rw [Int.tmod_eq_emod_of_nonneg (by omega)]; omega
    have e4 : (g : Int).tmod 4 = ((g % 4 : Nat) : Int) := by rw [Int.tmod_eq_emod_of_nonneg (by omega)]; omega
    have w1 : w64 ((g % 3 : Nat) : Int) = ((g % 3 : Nat) : Int) := w64_id (by omega) (by omega)
    have w2 : w64 ((g % 4 : Nat) : Int) = ((g % 4 : Nat) : Int) := w64_id (by omega) (by omega)
    have w3 : w64 ((atOf (gs.take i) : Int) + ((g % 3 : Nat) : Int)) = ((atOf (gs.take i) + g % 3 : Nat) : Int) := by rw [w64_id (by omega) (by omega)]; omega
    have w4 : w64 ((atOf (gs.take i) : Int) + 2) = ((atOf (gs.take i) + 2 : Nat) : Int) := by rw [w64_id (by omega) (by omega)]; omega
    have w5 : w64 ((3 : Int) + ((g % 4 : Nat) : Int)) = ((3 + g % 4 : Nat) : Int) := by rw [w64_id (by omega) (by omega)]; omega
    have w6 : w64 ((atOf (gs.take i) : Int) + ((3 + g % 4 : Nat) : Int)) = ((atOf (gs.take (i + 1)) : Nat) : Int) := by rw [w64_id (by omega) (by omega), atOf_step hgi]; omega
    have w7 : w64 ((i : Int) + 1) = ((i + 1 : Nat) : Int) := by rw [w64_id (by omega) (by omega)]; omega
    have hl := lsOf_len gs
    rw [M_crossbucklaw23_HistoryOrders.l1.eq_2, if_pos (by rw [List.length_map]; omega), hn]
    simp only [Option.bind_some]
    rw [if_pos (by rw [List.length_take, hl]; unfold appMax; omega)]
    simp only [e3, e4, w1, w2, w3, w4, w5, w6, w7]
    have := ih (i + 1) k (by omega) (by omega)
    rw [lsOf_step hgi] at this
    exact this
theorem rev_take {α : Type} {l : List α} {i : Nat} {x : α} (hi : i < l.length) (h : l[l.length - 1 - i]? = some x) : l.reverse.take (i + 1) = l.reverse.take i ++ [x] := take_one (by
  rw [List.getElem?_reverse (by omega)]; exact h)
theorem orders_l2 (l : List RecV) (hl : l.length ≤ 40) : ∀ (d i k : Nat), i + d = l.length → d < k → M_crossbucklaw23_HistoryOrders.l2 l k (l.reverse.take i) (i : Int) = some l.reverse := by
  intro d
  induction d with
  | zero =>
    intro i k hi hk
    obtain ⟨k, rfl⟩ : ∃ m, k = m + 1 := ⟨k - 1, by omega⟩
    rw [M_crossbucklaw23_HistoryOrders.l2.eq_2, if_neg (by omega), List.take_of_length_le (by rw [List.length_reverse]; omega)]
  | succ d ih =>
    intro i k hi hk
    obtain ⟨k, rfl⟩ : ∃ m, k = m + 1 := ⟨k - 1, by omega⟩
    obtain ⟨x, hx⟩ : ∃ x, l[l.length - 1 - i]? = some x := ⟨_, List.getElem?_eq_getElem (by omega)⟩
    have w1 : w64 ((w64 (((l.length : Nat) : Int) - 1)) - (i : Int)) = ((l.length - 1 - i : Nat) : Int) := by
      rw [w64_id (z := ((l.length : Nat) : Int) - 1) (by omega) (by omega), w64_id (by omega) (by omega)]; omega
    have w7 : w64 ((i : Int) + 1) = ((i + 1 : Nat) : Int) := by rw [w64_id (by omega) (by omega)]; omega
    rw [M_crossbucklaw23_HistoryOrders.l2.eq_2, if_pos (by omega), w1, nth_of hx]
    simp only [Option.bind_some]
    rw [if_pos (by rw [List.length_take, List.length_reverse]; unfold appMax; omega), w7]
    have := ih (i + 1) k (by omega) (by omega)
    rw [rev_take (by omega) hx] at this
    exact this
theorem orders_l3 (gs : List Nat) (hg : gs.length ≤ 40) : ∀ (d i k : Nat), i + d = gs.length → d < k → M_crossbucklaw23_HistoryOrders.l3 (lsOf gs) (lsOf gs) (lsOf gs) k (i : Int) = some (.inr (.inr ())) := by
  intro d
  induction d with
  | zero =>
    intro i k hi hk
    obtain ⟨k, rfl⟩ : ∃ m, k = m + 1 := ⟨k - 1, by omega⟩
    rw [M_crossbucklaw23_HistoryOrders.l3.eq_2, if_neg (by rw [lsOf_len]; omega)]
  | succ d ih =>
    intro i k hi hk
    obtain ⟨k, rfl⟩ : ∃ m, k = m + 1 := ⟨k - 1, by omega⟩
    obtain ⟨g, hgi⟩ : ∃ g, gs[i]? = some g := ⟨_, List.getElem?_eq_getElem (by omega)⟩
    have w7 : w64 ((i : Int) + 1) = ((i + 1 : Nat) : Int) := by rw [w64_id (by omega) (by omega)]; omega
    rw [M_crossbucklaw23_HistoryOrders.l3.eq_2, if_pos (by rw [lsOf_len]; omega), nth_of (lsOf_get hgi)]
    simp only [Option.bind_some]
    rw [if_neg (by simp [gRec]), if_neg (by simp [gRec]), w7]
    exact ih (i + 1) k (by omega) (by omega)
theorem history_orders (gs : List Nat) (hb : ∀ g ∈ gs, g ≤ 255) : M_crossbucklaw23_HistoryOrders (gs.map fun g : Nat => (g : Int)) = some true := by
  unfold M_crossbucklaw23_HistoryOrders
  rw [List.length_map]
  by_cases h : (40 : Int) < ((gs.length : Nat) : Int)
  · rw [if_pos h]; rfl
  · rw [if_neg h]
    have hg : gs.length ≤ 40 := by omega
    have hl := lsOf_len gs
    have hF := fuel_big
    have h1 := orders_l1 gs hg hb gs.length 0 fuel (by omega) (by omega)
    have h2 := orders_l2 (lsOf gs) (by omega) gs.length 0 fuel (by omega) (by omega)
    have h3 := orders_l3 gs hg gs.length 0 fuel (by omega) (by omega)
    have o1 : ordM (lsOf gs).reverse = lsOf gs := (ordM_ord _).eq (List.reverse_perm _) (lsOf_pts gs)
    have o2 : ordM (lsOf gs) = lsOf gs := (ordM_ord _).eq (List.Perm.refl _) (lsOf_pts gs)
    have m1 : M_order (lsOf gs).reverse = some (lsOf gs) := by unfold M_order; rw [if_pos (by rw [List.length_reverse]; omega), o1]
    have m2 : M_order (lsOf gs) = some (lsOf gs) := by unfold M_order; rw [if_pos (by omega), o2]
    have r1 : M_real (lsOf gs) = some true := by
      unfold M_real
      rw [if_pos (by omega)]
      congr 1
      unfold realB
      simp [lsOf_real]
    have r2 : M_real (lsOf gs).reverse = some (decide (((gs.length : Nat) : Int) < 2)) := by
      unfold M_real
      rw [if_pos (by rw [List.length_reverse]; omega)]
      congr 1
      unfold realB
      exact decide_eq_decide.2 ((lsOf_turned gs).trans ⟨fun h => by omega, fun h => by omega⟩)
    have v1 : M_overlap (lsOf gs) = some (iMin ((gs.length : Nat) : Int) 1) := by
      unfold M_overlap
      rw [if_pos (by omega), lsOf_ovl]
      congr 1
      unfold iMin
      split <;> omega
    simp only [List.take_zero, show atOf [] = 0 from rfl] at h1 h2
    rw [show (0 : Int) = ((0 : Nat) : Int) from rfl, h1]
    simp only [Option.bind_some]
    rw [h2]
    simp only [Option.bind_some, m1, m2, not_true, if_false]
    rw [h3]
    simp only [Sum.elim_inr, show M_awake = some true from rfl, Option.bind_some, if_true, r1, r2, hl, v1, decide_true]
end Go.Proofs.YtjfajpoknnifcaaGreat
