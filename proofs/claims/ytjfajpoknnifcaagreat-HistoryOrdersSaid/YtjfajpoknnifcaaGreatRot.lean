/- Exchanging and turning parts of a list. No condition. -/
import Derived.Test.YtjfajpoknnifcaaGreatTag
namespace Go.Proofs.YtjfajpoknnifcaaGreat
open Go
/-- The first i of two runs exchanged. -/
def Swp (xs : List TR) (a b i : Nat) : List TR := xs.take a ++ seg xs b (b + i) ++ seg xs (a + i) b ++ seg xs a (a + i) ++ xs.drop (b + i)
theorem seg_cons {xs : List TR} {lo hi : Nat} (h : lo < hi) (h2 : hi ≤ xs.length) : seg xs lo hi = xs[lo] :: seg xs (lo + 1) hi := by
  simp only [seg]
  rw [List.drop_eq_getElem_cons (by omega)]
  have : hi - lo = (hi - (lo + 1)) + 1 := by omega
  rw [this]; rfl
theorem seg_snoc {xs : List TR} {lo hi : Nat} (h : lo ≤ hi) (h2 : hi < xs.length) : seg xs lo (hi + 1) = seg xs lo hi ++ [xs[hi]] := by
  rw [seg_split (xs := xs) (lo := lo) (mid := hi) (hi := hi + 1) h (by omega), seg_cons (lo := hi) (hi := hi + 1) (by omega) (by omega)]
  simp [seg]
theorem seg_none (xs : List TR) (lo : Nat) : seg xs lo lo = [] := by simp [seg]
theorem swp_zero {xs : List TR} {a b : Nat} (h : a ≤ b) : Swp xs a b 0 = xs := by
  simp only [Swp, Nat.add_zero, seg_none, List.append_nil]
  exact (seg_all xs h).symm
theorem swp_len {xs : List TR} {a b i n : Nat} (h : a + n ≤ b) (hi : i ≤ n) (hb : b + n ≤ xs.length) : (Swp xs a b i).length = xs.length := by
  simp only [Swp, List.length_append, List.length_take, List.length_drop]
  rw [seg_len (by omega), seg_len (by omega), seg_len (by omega)]
  omega
theorem swp_step {xs : List TR} {a b i n : Nat} {x y : TR} (h : a + n ≤ b) (hi : i < n) (hb : b + n ≤ xs.length) (hx : (Swp xs a b i)[a + i]? = some x) (hy : (Swp xs a b i)[b + i]? = some y) :
    ((Swp xs a b i).set (a + i) y).set (b + i) x = Swp xs a b (i + 1) := by
  have e : Swp xs a b i = (xs.take a ++ seg xs b (b + i)) ++ xs[a + i] :: (seg xs (a + i + 1) b ++ seg xs a (a + i) ++ xs[b + i] :: xs.drop (b + i + 1)) := by
    simp only [Swp]
    rw [seg_cons (lo := a + i) (hi := b) (by omega) (by omega), List.drop_eq_getElem_cons (i := b + i) (by omega)]
    simp
  have l1 : (xs.take a ++ seg xs b (b + i)).length = a + i := by
    rw [List.length_append, seg_len (by omega), List.length_take]; omega
  have l2 : (seg xs (a + i + 1) b ++ seg xs a (a + i)).length = b - a - 1 := by
    rw [List.length_append, seg_len (by omega), seg_len (by omega)]; omega
  have l3 : b + i = (xs.take a ++ seg xs b (b + i)).length + ((seg xs (a + i + 1) b ++ seg xs a (a + i)).length + 1) := by rw [l1, l2]; omega
  obtain ⟨p, hp⟩ : ∃ p, xs[a + i] = p := ⟨_, rfl⟩
  obtain ⟨q, hq⟩ : ∃ q, xs[b + i] = q := ⟨_, rfl⟩
  rw [hp, hq] at e
  have r0 : ∀ (A B D : List TR) (p q : TR), (A ++ p :: (B ++ q :: D))[A.length]? = some p ∧ (A ++ p :: (B ++ q :: D))[A.length + (B.length + 1)]? = some q := by
    intro A B D p q
    constructor <;> simp
  have r2 : ∀ (A B D : List TR) (p q r s : TR), ((A ++ p :: (B ++ q :: D)).set A.length r).set (A.length + (B.length + 1)) s = A ++ r :: (B ++ s :: D) := by
    intro A B D p q r s
    simp
  have q0 := r0 (xs.take a ++ seg xs b (b + i)) (seg xs (a + i + 1) b ++ seg xs a (a + i)) (xs.drop (b + i + 1)) p q
  have q2 := r2 (xs.take a ++ seg xs b (b + i)) (seg xs (a + i + 1) b ++ seg xs a (a + i)) (xs.drop (b + i + 1)) p q y x
  rw [← l3, ← e, l1] at q0 q2
  rw [q0.1] at hx
  rw [q0.2] at hy
  cases hx
  cases hy
  rw [q2]
  simp only [Swp, ← Nat.add_assoc]
  rw [seg_snoc (lo := b) (hi := b + i) (by omega) (by omega), seg_snoc (lo := a) (hi := a + i) (by omega) (by omega), hp, hq]
  simp
theorem swp_app (A B C D E : List TR) (h : B.length = D.length) : Swp (A ++ B ++ C ++ D ++ E) A.length (A.length + B.length + C.length) B.length = A ++ D ++ C ++ B ++ E := by
  simp only [Swp, seg]
  have e1 : (A ++ B ++ C ++ D ++ E).take A.length = A := by simp
  have e2 : (A ++ B ++ C ++ D ++ E).drop (A.length + B.length + C.length) = D ++ E := by
    have : A ++ B ++ C ++ D ++ E = (A ++ B ++ C) ++ (D ++ E) := by simp
    rw [this]
    exact List.drop_left' (by simp; omega)
  have e3 : (A ++ B ++ C ++ D ++ E).drop (A.length + B.length) = C ++ (D ++ E) := by
    have : A ++ B ++ C ++ D ++ E = (A ++ B) ++ (C ++ (D ++ E)) := by simp
    rw [this]
    exact List.drop_left' (by simp)
  have e4 : (A ++ B ++ C ++ D ++ E).drop A.length = B ++ (C ++ (D ++ E)) := by
    have : A ++ B ++ C ++ D ++ E = A ++ (B ++ (C ++ (D ++ E))) := by simp
    rw [this]
    exact List.drop_left' rfl
  have e5 : (A ++ B ++ C ++ D ++ E).drop (A.length + B.length + C.length + B.length) = E := by
    have : A ++ B ++ C ++ D ++ E = (A ++ B ++ C ++ D) ++ E := by simp
    rw [this]
    exact List.drop_left' (by simp; omega)
  rw [e1, e2, e3, e4, e5]
  have n1 : A.length + B.length + C.length + B.length - (A.length + B.length + C.length) = D.length := by omega
  have n2 : A.length + B.length + C.length - (A.length + B.length) = C.length := by omega
  have n3 : A.length + B.length - A.length = B.length := by omega
  rw [n1, n2, n3]
  simp

/-! ### Turning -/
def Rot (xs : List TR) (a m b : Nat) : List TR := xs.take a ++ seg xs m b ++ seg xs a m ++ xs.drop b
def RotI (xs : List TR) (a m b i j : Nat) (ys : List TR) : Prop := 0 < i ∧ 0 < j ∧ a + i ≤ m ∧ m + j ≤ b ∧ ys.length = xs.length ∧ ∃ A X Y D, ys = A ++ X ++ Y ++ D ∧ A.length + i = m ∧ X.length = i ∧ Y.length = j ∧ Rot xs a m b = A ++ Y ++ X ++ D
theorem RotI.start {xs : List TR} {a m b : Nat} (h1 : a < m) (h2 : m < b) (h3 : b ≤ xs.length) : RotI xs a m b (m - a) (b - m) xs := by
  refine ⟨by omega, by omega, by omega, by omega, rfl, xs.take a, seg xs a m, seg xs m b, xs.drop b, ?_, ?_, seg_len (by omega), seg_len (by omega), rfl⟩
  · have := seg_all xs (lo := a) (hi := b) (by omega)
    rw [seg_split (mid := m) (by omega) (by omega)] at this
    simpa using this
  · simp; omega
theorem RotI.left {xs ys : List TR} {a m b i j : Nat} (h : RotI xs a m b i j ys) (hij : j < i) : RotI xs a m b (i - j) j (Swp ys (m - i) m j) := by
  obtain ⟨h1, h2, h3, h4, h5, A, X, Y, D, rfl, hA, hX, hY, hR⟩ := h
  obtain ⟨X1, X2, rfl, hX1⟩ : ∃ X1 X2, X = X1 ++ X2 ∧ X1.length = j := ⟨X.take j, X.drop j, (List.take_append_drop _ _).symm, by simp; omega⟩
  have hX2 : X2.length = i - j := by simp at hX; omega
  have e : Swp (A ++ (X1 ++ X2) ++ Y ++ D) (m - i) m j = A ++ Y ++ X2 ++ X1 ++ D := by
    have := swp_app A X1 X2 Y D (by omega)
    have q1 : A.length = m - i := by omega
    have q2 : A.length + X1.length + X2.length = m := by omega
    rw [q2, hX1, q1] at this
    rw [← this]; simp
  rw [e]
  refine ⟨by omega, h2, by omega, h4, by rw [← h5]; simp; omega, A ++ Y, X2, X1, D, by simp, by simp; omega, hX2, hX1, by rw [hR]; simp⟩
theorem RotI.right {xs ys : List TR} {a m b i j : Nat} (h : RotI xs a m b i j ys) (hij : i < j) : RotI xs a m b i (j - i) (Swp ys (m - i) (m + j - i) i) := by
  obtain ⟨h1, h2, h3, h4, h5, A, X, Y, D, rfl, hA, hX, hY, hR⟩ := h
  obtain ⟨Y1, Y2, rfl, hY1⟩ : ∃ Y1 Y2, Y = Y1 ++ Y2 ∧ Y1.length = j - i := ⟨Y.take (j - i), Y.drop (j - i), (List.take_append_drop _ _).symm, by simp; omega⟩
  have hY2 : Y2.length = i := by simp at hY; omega
  have e : Swp (A ++ X ++ (Y1 ++ Y2) ++ D) (m - i) (m + j - i) i = A ++ Y2 ++ Y1 ++ X ++ D := by
    have := swp_app A X Y1 Y2 D (by omega)
    have q1 : A.length = m - i := by omega
    have q2 : A.length + X.length + Y1.length = m + j - i := by omega
    rw [q2, hX, q1] at this
    rw [← this]; simp
  rw [e]
  refine ⟨h1, by omega, h3, by omega, by rw [← h5]; simp; omega, A, Y2, Y1, X ++ D, by simp, by omega, hY2, hY1, by rw [hR]; simp⟩
theorem RotI.done {xs ys : List TR} {a m b i : Nat} (h : RotI xs a m b i i ys) : Swp ys (m - i) m i = Rot xs a m b := by
  obtain ⟨h1, h2, h3, h4, h5, A, X, Y, D, rfl, hA, hX, hY, hR⟩ := h
  have := swp_app A X [] Y D (by omega)
  have q1 : A.length = m - i := by omega
  have q2 : A.length + X.length + ([] : List TR).length = m := by simp; omega
  rw [q2, hX, q1] at this
  rw [hR]
  simpa using this
theorem rot_len {xs : List TR} {a m b : Nat} (h1 : a ≤ m) (h2 : m ≤ b) (h3 : b ≤ xs.length) : (Rot xs a m b).length = xs.length := by
  simp only [Rot, List.length_append, List.length_take, List.length_drop]
  rw [seg_len (by omega), seg_len (by omega)]
  omega
end Go.Proofs.YtjfajpoknnifcaaGreat
