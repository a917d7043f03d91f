/- Times of calls: what is real, how many at once. No condition. -/
import Derived.Test.YtjfajpoknnifcaaGreatClone
namespace Go.Proofs.YtjfajpoknnifcaaGreat
open Go
/-- None of the first i stands behind one that began when it had returned. -/
def RealUp (xs : List RecV) (i : Nat) : Prop := ∀ c k x y, k < c → c < i → xs[c]? = some x → xs[k]? = some y → ¬ x.en < y.bg
theorem take_one {α : Type} {xs : List α} {k : Nat} {x : α} (h : xs[k]? = some x) : xs.take (k + 1) = xs.take k ++ [x] := by
  obtain ⟨h1, h2⟩ := List.getElem?_eq_some_iff.1 h
  rw [List.take_succ_eq_append_getElem h1, h2]
theorem RealUp.step {xs : List RecV} {i : Nat} {x : RecV} (h : RealUp xs i) (hx : xs[i]? = some x) (h2 : ∀ k y, k < i → xs[k]? = some y → ¬ x.en < y.bg) : RealUp xs (i + 1) := by
  intro c k u v h1 h3 hu hv
  by_cases e : c = i
  · subst e
    rw [hx] at hu; cases hu
    exact h2 k v h1 hv
  · exact h c k u v h1 (by omega) hu hv
/-- How many ran when one began. -/
def cnt (xs : List RecV) (x : RecV) : Nat := xs.countP fun y => decide (y.bg ≤ x.bg) && decide (x.bg ≤ y.en)
def ovl (xs zs : List RecV) : Nat := zs.foldl (fun m x => max m (cnt xs x)) 0
theorem cnt_step {xs : List RecV} {k : Nat} {x y : RecV} (h : xs[k]? = some y) : cnt (xs.take (k + 1)) x = cnt (xs.take k) x + if y.bg ≤ x.bg ∧ x.bg ≤ y.en then 1 else 0 := by
  rw [take_one h]
  simp only [cnt, List.countP_append, List.countP_singleton]
  by_cases h1 : y.bg ≤ x.bg <;> by_cases h2 : x.bg ≤ y.en <;> simp [h1, h2]
theorem cnt_le (xs : List RecV) (x : RecV) : cnt xs x ≤ xs.length := List.countP_le_length
theorem ovl_step {xs : List RecV} {i : Nat} {x : RecV} (zs : List RecV) (h : zs[i]? = some x) : ovl xs (zs.take (i + 1)) = max (ovl xs (zs.take i)) (cnt xs x) := by
  rw [take_one h]
  simp [ovl, List.foldl_append]
theorem ovl_le (xs zs : List RecV) : ovl xs zs ≤ xs.length := by
  unfold ovl
  suffices ∀ (l : List RecV) (m : Nat), m ≤ xs.length → l.foldl (fun m x => max m (cnt xs x)) m ≤ xs.length from this zs 0 (Nat.zero_le _)
  intro l
  induction l with
  | nil => exact fun m h => h
  | cons y l ih => exact fun m h => ih _ (Nat.max_le.2 ⟨h, cnt_le xs y⟩)
/-! ### Times alone -/
structure TmV where
  bg : Int
  pt : Int
  en : Int
def encM (x : TmV) : List Value := [.int .i64 x.bg, .int .i64 x.pt, .int .i64 x.en]
theorem encM_len (x : TmV) : (encM x).length = 3 := rfl
theorem encM_one (x : TmV) : ((encM x).all fun u => u.oneCell') = true := rfl
def RefReal (xs : List TmV) : Prop := ∀ (c k : Nat) (x y : TmV), c < k → xs[c]? = some x → xs[k]? = some y → ¬ y.en < x.bg
def RefUp (xs : List TmV) (i : Nat) : Prop := ∀ (c k : Nat) (x y : TmV), c < i → c < k → xs[c]? = some x → xs[k]? = some y → ¬ y.en < x.bg
theorem RefUp.step {xs : List TmV} {i : Nat} {x : TmV} (h : RefUp xs i) (hx : xs[i]? = some x) (h2 : ∀ k y, i < k → xs[k]? = some y → ¬ y.en < x.bg) : RefUp xs (i + 1) := by
  intro c k u v h1 h3 hu hv
  by_cases e : c = i
  · subst e
    rw [hx] at hu; cases hu
    exact h2 k v h3 hv
  · exact h c k u v (by omega) h3 hu hv
theorem RefUp.all {xs : List TmV} {i : Nat} (h : RefUp xs i) (hi : xs.length ≤ i) : RefReal xs := fun c k x y h1 hx hy => h c k x y (by have := (List.getElem?_eq_some_iff.1 hx).1; omega) h1 hx hy
def cntM (xs : List TmV) (x : TmV) : Nat := xs.countP fun y => decide (y.bg ≤ x.bg) && decide (x.bg ≤ y.en)
def ovlM (xs zs : List TmV) : Nat := zs.foldl (fun m x => max m (cntM xs x)) 0
theorem cntM_step {xs : List TmV} {k : Nat} {x y : TmV} (h : xs[k]? = some y) : cntM (xs.take (k + 1)) x = cntM (xs.take k) x + if y.bg ≤ x.bg ∧ x.bg ≤ y.en then 1 else 0 := by
  rw [take_one h]
  simp only [cntM, List.countP_append, List.countP_singleton]
  by_cases h1 : y.bg ≤ x.bg <;> by_cases h2 : x.bg ≤ y.en <;> simp [h1, h2]
theorem cntM_le (xs : List TmV) (x : TmV) : cntM xs x ≤ xs.length := List.countP_le_length
theorem ovlM_step {xs : List TmV} {i : Nat} {x : TmV} (zs : List TmV) (h : zs[i]? = some x) : ovlM xs (zs.take (i + 1)) = max (ovlM xs (zs.take i)) (cntM xs x) := by
  rw [take_one h]
  simp [ovlM, List.foldl_append]
theorem ovlM_le (xs zs : List TmV) : ovlM xs zs ≤ xs.length := by
  unfold ovlM
  suffices ∀ (l : List TmV) (m : Nat), m ≤ xs.length → l.foldl (fun m x => max m (cntM xs x)) m ≤ xs.length from this zs 0 (Nat.zero_le _)
  intro l
  induction l with
  | nil => exact fun m h => h
  | cons y l ih => exact fun m h => ih _ (Nat.max_le.2 ⟨h, cntM_le xs y⟩)
/-- No answer. -/
def recOf (i : Nat) (x : TmV) : RecV := ⟨0, i, x.bg, x.pt, x.en, .int .i64 0, .int .u64 0, .int .u64 0, .int .u32 0, .int .u32 0, .int .u8 0, .int .u16 0, .int .u16 0, .bool false, .slice none 0 0, .int .i64 0, .int .i64 0, rfl⟩
def recsOf (xs : List TmV) : List RecV := xs.zipIdx.map fun p => recOf p.2 p.1
theorem recsOf_step {xs : List TmV} {i : Nat} {x : TmV} (h : xs[i]? = some x) : recsOf (xs.take (i + 1)) = recsOf (xs.take i) ++ [recOf i x] := by
  rw [take_one h]
  have hl : (xs.take i).length = i := by
    have := (List.getElem?_eq_some_iff.1 h).1
    rw [List.length_take]; omega
  simp [recsOf, List.zipIdx_append, hl]
theorem recsOf_len (xs : List TmV) : (recsOf xs).length = xs.length := by simp [recsOf]
end Go.Proofs.YtjfajpoknnifcaaGreat
