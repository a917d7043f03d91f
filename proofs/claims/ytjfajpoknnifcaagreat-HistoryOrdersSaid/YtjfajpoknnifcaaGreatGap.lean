/- Calls that follow each other, by their gaps. No condition. -/
import Derived.Test.YtjfajpoknnifcaaGreatTime
namespace Go.Proofs.YtjfajpoknnifcaaGreat
open Go
def encU (g : Nat) : List Value := [.int .u8 ((g : Nat) : Int)]
theorem encU_len (g : Nat) : (encU g).length = 1 := rfl
theorem encU_one (g : Nat) : ((encU g).all fun u => u.oneCell') = true := rfl
/-- Where the next one begins. -/
def atOf (gs : List Nat) : Nat := (gs.map fun g => 3 + g % 4).sum
def gRec (i g at_ : Nat) : RecV := ⟨0, i, at_, ((at_ + g % 3 : Nat) : Int), ((at_ + 2 : Nat) : Int), .int .i64 0, .int .u64 0, .int .u64 0, .int .u32 0, .int .u32 0, .int .u8 0, .int .u16 0, .int .u16 0, .bool false, .slice none 0 0, .int .i64 0, .int .i64 0, rfl⟩
def lsOf (gs : List Nat) : List RecV := gs.zipIdx.map fun p => gRec p.2 p.1 (atOf (gs.take p.2))
theorem atOf_step {gs : List Nat} {i g : Nat} (h : gs[i]? = some g) : atOf (gs.take (i + 1)) = atOf (gs.take i) + (3 + g % 4) := by
  rw [take_one h]; simp [atOf]
theorem atOf_le (gs : List Nat) : atOf gs ≤ gs.length * 6 := by
  induction gs with
  | nil => simp [atOf]
  | cons g gs ih =>
    have e : atOf (g :: gs) = 3 + g % 4 + atOf gs := by simp [atOf]
    rw [e, List.length_cons]
    have := Nat.mod_lt g (show 0 < 4 by decide)
    omega
theorem lsOf_len (gs : List Nat) : (lsOf gs).length = gs.length := by simp [lsOf]
theorem lsOf_get {gs : List Nat} {i g : Nat} (h : gs[i]? = some g) : (lsOf gs)[i]? = some (gRec i g (atOf (gs.take i))) := by
  simp [lsOf, List.getElem?_map, List.getElem?_zipIdx, h]
theorem lsOf_step {gs : List Nat} {i g : Nat} (h : gs[i]? = some g) : (lsOf gs).take (i + 1) = (lsOf gs).take i ++ [gRec i g (atOf (gs.take i))] := take_one (lsOf_get h)
theorem pt_inj {ls : List RecV} (hs : ls.Pairwise fun x y => x.pt < y.pt) {a b : RecV} (ha : a ∈ ls) (hb : b ∈ ls) (h : a.pt = b.pt) : a = b := by
  obtain ⟨i, hi⟩ := List.mem_iff_getElem?.1 ha
  obtain ⟨j, hj⟩ := List.mem_iff_getElem?.1 hb
  obtain ⟨a1, a2⟩ := List.getElem?_eq_some_iff.1 hi
  obtain ⟨b1, b2⟩ := List.getElem?_eq_some_iff.1 hj
  rcases Nat.lt_trichotomy i j with q | q | q
  · have := List.pairwise_iff_getElem.1 hs i j a1 b1 q
    rw [a2, b2] at this; omega
  · subst q; rw [hi] at hj; exact Option.some.inj hj
  · have := List.pairwise_iff_getElem.1 hs j i b1 a1 q
    rw [a2, b2] at this; omega
theorem OrdOf.perm {xs zs : List RecV} (h : OrdOf xs zs) : zs.Perm xs := by
  obtain ⟨ys, d, rfl⟩ := h
  have := (d.perm (Nat.zero_le _)).map (·.2)
  rwa [tagged_snd] at this
theorem OrdOf.sorted {xs zs : List RecV} (h : OrdOf xs zs) : zs.Pairwise fun x y => x.pt ≤ y.pt := by
  obtain ⟨ys, ⟨M, e, _, hs⟩, rfl⟩ := h
  have e' : ys = M := by simpa using e
  subst e'
  rw [List.pairwise_map]
  exact hs.imp fun {a b} q => by unfold Lt at q; omega
theorem OrdOf.eq {xs zs ls : List RecV} (h : OrdOf xs zs) (hp : xs.Perm ls) (hs : ls.Pairwise fun x y => x.pt < y.pt) : zs = ls := by
  have p := h.perm.trans hp
  refine List.Perm.eq_of_pairwise (le := fun x y => x.pt ≤ y.pt) ?_ h.sorted (hs.imp fun {a b} q => Int.le_of_lt q) p
  intro a b ha hb h1 h2
  exact pt_inj hs (p.mem_iff.1 ha) hb (Int.le_antisymm h1 h2)
theorem atOf_lt {gs : List Nat} {i : Nat} : ∀ {j : Nat}, i < j → j ≤ gs.length → atOf (gs.take i) + 3 ≤ atOf (gs.take j)
  | 0, h, _ => absurd h (Nat.not_lt_zero _)
  | j + 1, h, hj => by
    rw [atOf_step (List.getElem?_eq_getElem (show j < gs.length by omega))]
    rcases Nat.lt_or_eq_of_le (Nat.le_of_lt_succ h) with q | rfl
    · have := atOf_lt q (show j ≤ gs.length by omega); omega
    · omega
theorem lsOf_at {gs : List Nat} {i : Nat} {x : RecV} (h : (lsOf gs)[i]? = some x) : ∃ g, gs[i]? = some g ∧ x = gRec i g (atOf (gs.take i)) := by
  have hl : i < gs.length := by have := (List.getElem?_eq_some_iff.1 h).1; rw [lsOf_len] at this; exact this
  refine ⟨gs[i], List.getElem?_eq_getElem hl, ?_⟩
  rw [lsOf_get (List.getElem?_eq_getElem hl)] at h
  exact (Option.some.inj h).symm
theorem lsOf_two {gs : List Nat} {i j : Nat} {x y : RecV} (h : i < j) (hx : (lsOf gs)[i]? = some x) (hy : (lsOf gs)[j]? = some y) : x.pt < y.pt ∧ x.en < y.bg ∧ x.bg ≤ x.en ∧ y.bg ≤ y.en := by
  obtain ⟨g, hg, rfl⟩ := lsOf_at hx
  obtain ⟨g', hg', rfl⟩ := lsOf_at hy
  have hl := (List.getElem?_eq_some_iff.1 hg').1
  have := atOf_lt (gs := gs) h (by omega)
  have := Nat.mod_lt g (show 0 < 3 by decide)
  simp only [gRec]
  omega
theorem lsOf_pts (gs : List Nat) : (lsOf gs).Pairwise fun x y => x.pt < y.pt := by
  rw [List.pairwise_iff_getElem]
  intro i j hi hj hij
  exact (lsOf_two hij (List.getElem?_eq_getElem hi) (List.getElem?_eq_getElem hj)).1
theorem lsOf_real (gs : List Nat) (n : Nat) : RealUp (lsOf gs) n := by
  intro c k x y h1 _ hx hy
  have := lsOf_two h1 hy hx
  omega
theorem lsOf_turned (gs : List Nat) : RealUp (lsOf gs).reverse (lsOf gs).reverse.length ↔ gs.length < 2 := by
  constructor
  · intro h
    rcases Nat.lt_or_ge gs.length 2 with q | q
    · exact q
    · exfalso
      have hl := lsOf_len gs
      obtain ⟨x, hx⟩ : ∃ x, (lsOf gs)[gs.length - 2]? = some x := ⟨_, List.getElem?_eq_getElem (by omega)⟩
      obtain ⟨y, hy⟩ : ∃ y, (lsOf gs)[gs.length - 1]? = some y := ⟨_, List.getElem?_eq_getElem (by omega)⟩
      have e1 : (lsOf gs).reverse[1]? = some x := by rw [List.getElem?_reverse (by omega), hl]; exact hx
      have e0 : (lsOf gs).reverse[0]? = some y := by rw [List.getElem?_reverse (by omega), hl]; exact hy
      have := h 1 0 x y (by omega) (by rw [List.length_reverse, hl]; omega) e1 e0
      have := lsOf_two (by omega) hx hy
      omega
  · intro h c k x y h1 h2 _ _
    rw [List.length_reverse, lsOf_len] at h2
    omega
theorem lsOf_cnt {gs : List Nat} {i : Nat} {x : RecV} (h : (lsOf gs)[i]? = some x) : cnt (lsOf gs) x = 1 := by
  have hxx : x.bg ≤ x.en := by
    obtain ⟨g, _, rfl⟩ := lsOf_at h
    simp only [gRec]; omega
  have key : ∀ n, n ≤ gs.length → cnt ((lsOf gs).take n) x = if i < n then 1 else 0 := by
    intro n
    induction n with
    | zero => intro _; simp [cnt]
    | succ n ih =>
      intro hn
      obtain ⟨y, hy⟩ : ∃ y, (lsOf gs)[n]? = some y := ⟨_, List.getElem?_eq_getElem (by rw [lsOf_len]; omega)⟩
      rw [cnt_step hy, ih (by omega)]
      rcases Nat.lt_trichotomy i n with q | q | q
      · have := lsOf_two q h hy
        repeat' split
        all_goals omega
      · subst q
        rw [h] at hy
        cases hy
        repeat' split
        all_goals omega
      · have := lsOf_two q hy h
        repeat' split
        all_goals omega
  have hl : i < gs.length := by have := (List.getElem?_eq_some_iff.1 h).1; rw [lsOf_len] at this; exact this
  have := key gs.length (Nat.le_refl _)
  rw [if_pos hl, List.take_of_length_le (by rw [lsOf_len]; omega)] at this
  exact this
theorem lsOf_ovl (gs : List Nat) : ovl (lsOf gs) (lsOf gs) = min gs.length 1 := by
  have key : ∀ n, n ≤ gs.length → ovl (lsOf gs) ((lsOf gs).take n) = min n 1 := by
    intro n
    induction n with
    | zero => intro _; simp [ovl]
    | succ n ih =>
      intro hn
      obtain ⟨y, hy⟩ : ∃ y, (lsOf gs)[n]? = some y := ⟨_, List.getElem?_eq_getElem (by rw [lsOf_len]; omega)⟩
      rw [ovl_step _ hy, ih (by omega), lsOf_cnt hy]
      omega
  have := key gs.length (Nat.le_refl _)
  rwa [List.take_of_length_le (by rw [lsOf_len]; omega)] at this
end Go.Proofs.YtjfajpoknnifcaaGreat
