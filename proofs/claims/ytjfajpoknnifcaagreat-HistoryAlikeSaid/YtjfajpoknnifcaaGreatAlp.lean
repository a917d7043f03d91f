/- HistoryAlike as a plain law: its model answers true. No condition. -/
import Derived.Test.YtjfajpoknnifcaaGreatTop
namespace Go.Proofs.YtjfajpoknnifcaaGreat
open Go
set_option linter.unusedSimpArgs false
theorem new_loop (ps : List Int) (hp : ps.length ≤ 40) : ∀ (d i k : Nat) (n : MStepNet), i + d = ps.length → d < k → n.Tables.length = i → ∃ r, M_step_New.l1 ps k n (i : Int) = some r
  | 0, i, k, n, hi, hk, _ => by
    obtain ⟨k, rfl⟩ : ∃ m, k = m + 1 := ⟨k - 1, by omega⟩
    rw [M_step_New.l1.eq_2, if_neg (by omega)]; exact ⟨_, rfl⟩
  | d + 1, i, k, n, hi, hk, hn => by
    obtain ⟨k, rfl⟩ : ∃ m, k = m + 1 := ⟨k - 1, by omega⟩
    have hw : w64 ((i : Int) + 1) = ((i + 1 : Nat) : Int) := by rw [w64_id (by omega) (by omega)]; omega
    rw [M_step_New.l1.eq_2, if_pos (by omega)]
    simp only [M_tableNew, Option.bind_some]
    rw [if_pos (by rw [hn]; unfold appMax; omega), hw]
    exact new_loop ps hp d (i + 1) k _ (by omega) (by omega) (by simp [hn])
theorem linear_wrong (ps : List Int) (ls : List MApiLink) (as_ : List MApiACE) (hp : ps.length ≤ 40) (h : M_topo_Check ps ls as_ = some 0) : M_history_Linear ps ls as_ 9 100 = some (false, 1) := by
  obtain ⟨r, hr⟩ := new_loop ps hp ps.length 0 fuel (⟨(⟨ps, ls, as_⟩ : MApiTopo), ([] : List MTable)⟩ : MStepNet) (by omega) (by have := fuel_big; omega) rfl
  have h1 : M_step_New ps ls as_ = some (.inr (r, 0)) := by
    unfold M_step_New
    rw [h]
    simp only [Option.bind_some]
    rw [if_neg (by simp), show (0 : Int) = ((0 : Nat) : Int) from rfl, hr]
    rfl
  have h2 : M_region_Right 9 = some false := by unfold M_region_Right; decide
  unfold M_history_Linear M_engine_New
  rw [h1]
  simp only [Option.bind_some, Sum.elim_inr]
  rw [if_neg (by simp), h2]
  simp
theorem light_some (ps : List Int) (ls : List MApiLink) (as_ : List MApiACE) (hf : ∀ a ∈ as_, fitF a.F) : ∃ b, M_crossbucklaw21_Light ps ls as_ 1 = some b ∧ (b = true → M_topo_Check ps ls as_ = some 0 ∧ ps.length ≤ 40) := by
  unfold M_crossbucklaw21_Light M_crossbucklaw20_Light M_crossbucklaw05_Light
  by_cases h1 : ((ps.length : Nat) : Int) ≤ 40
  · rw [if_pos h1]
    by_cases h2 : ((ls.length : Nat) : Int) ≤ 100
    · rw [if_pos h2]
      by_cases h3 : ((as_.length : Nat) : Int) ≤ 60
      · obtain ⟨⟨e, he⟩, hq⟩ := check_ref ps ls as_ ⟨by omega, by omega, by omega⟩ hf
        simp only [Option.bind_some, h3, decide_true, not_true, if_false, he]
        by_cases e0 : e = 0
        · subst e0
          simp only [not_true, if_false]
          by_cases h4 : (3 : Int) < ((as_.length : Nat) : Int)
          · rw [if_pos h4]; exact ⟨false, rfl, fun h => by cases h⟩
          · rw [if_neg h4, if_neg (by decide)]; exact ⟨true, rfl, fun _ => ⟨hq he, by omega⟩⟩
        · rw [if_pos e0]; exact ⟨false, rfl, fun h => by cases h⟩
      · simp only [Option.bind_some, h3, decide_false, Bool.false_eq_true, not_false_iff, if_true]
        exact ⟨false, rfl, fun h => by cases h⟩
    · rw [if_neg h2]
      simp only [Option.bind_some, Bool.false_eq_true, not_false_iff, if_true]
      exact ⟨false, rfl, fun h => by cases h⟩
  · rw [if_neg h1]
    simp only [Option.bind_some, Bool.false_eq_true, not_false_iff, if_true]
    exact ⟨false, rfl, fun h => by cases h⟩
theorem history_alike (a b e f : Int) (ps : List Int) (ls : List MApiLink) (as_ : List MApiACE) (hf : ∀ x ∈ as_, fitF x.F) : M_crossbucklaw23_HistoryAlike a b e f ps ls as_ = some true := by
  obtain ⟨l, hl, hq⟩ := light_some ps ls as_ hf
  have fin : ((M_crossbucklaw21_Light ps ls as_ 1).bind fun y112 => if ¬ (y112 = true) then ((M_awake ).bind fun y114 => some y114) else ((M_history_Linear ps ls as_ 9 100).bind fun y115 => (M_awake ).bind fun y116 => if y116 = true then (if y115.2 = 1 then ((M_history_Overlap ).bind fun y119 => some (decide (y119 = 0))) else (some false)) else (some false))) = some true := by
    rw [hl]
    simp only [Option.bind_some]
    cases l with
    | false => simp [M_awake]
    | true =>
      obtain ⟨h1, h2⟩ := hq rfl
      rw [linear_wrong ps ls as_ h2 h1]
      simp [M_awake, M_history_Overlap]
  unfold M_crossbucklaw23_HistoryAlike M_history_Alike
  by_cases h1 : a = b
  · by_cases h2 : e = f
    · simp only [h1, h2, if_true, decide_true, Option.bind_some, not_true, if_false]
      simp only [show ((0 : Int) = 22) = False by simp, if_false, Option.bind_some, Bool.false_eq_true, not_true]
      exact fin
    · simp only [h1, h2, if_true, if_false, decide_false, decide_true, Option.bind_some, not_true]
      simp only [show ((0 : Int) = 22) = False by simp, if_false, Option.bind_some, Bool.false_eq_true, not_true]
      exact fin
  · simp only [h1, if_true, if_false, decide_true, Option.bind_some, not_true]
    simp only [show ((0 : Int) = 22) = False by simp, if_false, Option.bind_some, Bool.false_eq_true, not_true]
    exact fin
end Go.Proofs.YtjfajpoknnifcaaGreat
