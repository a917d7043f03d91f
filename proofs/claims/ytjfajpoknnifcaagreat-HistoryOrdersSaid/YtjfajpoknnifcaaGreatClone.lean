/- Records with their places as tags; a slice's being none. No condition. -/
import Derived.Test.YtjfajpoknnifcaaGreatStab
namespace Go.Proofs.YtjfajpoknnifcaaGreat
open Go
/-- Each with its place. -/
def tagged (xs : List RecV) : List TR := xs.zipIdx.map fun p => (p.2, p.1)
theorem tagged_len (xs : List RecV) : (tagged xs).length = xs.length := by simp [tagged]
theorem flat_snd (ys : List TR) : flat encT ys = flat encR (ys.map (·.2)) := by
  simp only [flat, List.map_map]
  rfl
theorem tagged_snd (xs : List RecV) : (tagged xs).map (·.2) = xs := by simp [tagged, Function.comp_def]
theorem flat_tagged (xs : List RecV) : flat encR xs = flat encT (tagged xs) := by rw [flat_snd, tagged_snd]
theorem tagged_tags (xs : List RecV) : (tagged xs).Pairwise fun p q => p.1 < q.1 := by
  simp only [tagged, List.pairwise_map]
  rw [List.pairwise_iff_getElem]
  intro i j hi hj hij
  simpa using hij
theorem Holds.ownNone {w : World} {e : TypeId} {sz n cap : Nat} {cs : List Value} {Ps : List HP} (H : Holds w (OwnS e sz none n cap cs :: Ps)) : n = 0 ∧ cap = 0 ∧ cs = [] := by
  obtain ⟨r, h, x, y, z, h1, h2, s, ⟨h0, h3⟩, d⟩ := H
  rcases h3 with ⟨_, rfl, rfl, _⟩ | ⟨b, sp, h4, _⟩
  · exact ⟨rfl, rfl, List.eq_nil_of_length_eq_zero (by simpa using h0)⟩
  · cases h4
theorem flat_ones (xs : List RecV) : ∀ u ∈ flat encR xs, u.oneCell' = true := by
  intro u hu
  obtain ⟨l, hl, hu⟩ := List.mem_flatten.1 hu
  obtain ⟨r, _, rfl⟩ := List.mem_map.1 hl
  exact List.all_eq_true.1 (encR_one r) u hu
theorem flat_none {α : Type} {enc : α → List Value} {sz : Nat} (hsz : ∀ x, (enc x).length = sz) (h0 : 0 < sz) {xs : List α} (h : flat enc xs = []) : xs = [] := by
  have := flat_len hsz xs
  rw [h] at this
  have h1 : xs.length * sz = 0 := this.symm
  rcases Nat.mul_eq_zero.1 h1 with h | h
  · exact List.eq_nil_of_length_eq_zero h
  · omega
/-- As they count: by points, equal ones as they stood. -/
def OrdOf (xs zs : List RecV) : Prop := ∃ ys : List TR, Done (tagged xs) 0 (tagged xs).length ys ∧ zs = ys.map (·.2)
theorem OrdOf.len {xs zs : List RecV} (h : OrdOf xs zs) : zs.length = xs.length := by
  obtain ⟨ys, d, rfl⟩ := h
  rw [List.length_map, d.len (Nat.zero_le _) (Nat.le_refl _), tagged_len]
theorem tri_none {P : Program} {f : Nat} {vs : Array Value} {e : TypeId} {sz : Nat} {α : Type} {enc : α → List Value} (h : Tri P f vs [] (X := Unit) (fun _ => .slice none 0 0) (fun _ => True) (fun _ => [])) :
    Tri P f vs [OwnS e sz none 0 0 (flat enc [])] (X := Option Addr × Nat) (fun p => .slice p.1 0 p.2) (fun _ => True) (fun p => [OwnS e sz none 0 0 (flat enc []), OwnS e sz p.1 0 p.2 (flat enc [])]) := fun R w H => by
  have H1 : Holds w ([] ++ [R]) := H.drop
  refine (h R w H1).mono fun e' w' ⟨_, he, _, hs, hh⟩ => ⟨(none, 0), he, trivial, hs, ?_⟩
  exact (hh.ownNil e sz).ownNil e sz
end Go.Proofs.YtjfajpoknnifcaaGreat
