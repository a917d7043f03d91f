/- Plain facts on maps as lists, places in lists, and wrapping. No condition. -/
import Derived.Test.YtjfajpoknnifcaaGreatDec
import Derived.Test.YtjfajpoknnifcaaGreatMap
namespace Go.Proofs.YtjfajpoknnifcaaGreat
open Go
set_option linter.unusedSectionVars false
set_option linter.unusedVariables false
set_option linter.unusedSimpArgs false
section
variable {κ ν : Type} [DecidableEq κ]
theorem mget_nil (k : κ) : mget ([] : List (κ × ν)) k = none := rfl
theorem mget_cons (p : κ × ν) (L : List (κ × ν)) (k : κ) : mget (p :: L) k = if p.1 = k then some p.2 else mget L k := by
  unfold mget
  rw [List.find?_cons]
  by_cases h : p.1 = k <;> simp [h]
theorem mput_nil (k : κ) (v : ν) : mput [] k v = [(k, v)] := rfl
theorem mput_cons (p : κ × ν) (L : List (κ × ν)) (k : κ) (v : ν) : mput (p :: L) k v = if p.1 = k then (k, v) :: L else p :: mput L k v := by
  unfold mput
  rw [List.findIdx?_cons]
  by_cases h : p.1 = k
  · simp [h]
  · simp only [h, decide_false, Bool.false_eq_true, if_false]
    cases List.findIdx? (fun p => decide (p.1 = k)) L <;> simp
theorem mget_mput (L : List (κ × ν)) (k k' : κ) (v : ν) : mget (mput L k v) k' = if k = k' then some v else mget L k' := by
  induction L with
  | nil => rw [mput_nil, mget_cons, mget_nil]
  | cons p L ih =>
    rw [mput_cons]
    by_cases h : p.1 = k
    · rw [if_pos h, mget_cons, mget_cons]
      by_cases h' : k = k' <;> simp_all
    · rw [if_neg h, mget_cons, ih, mget_cons]
      by_cases h' : k = k'
      · subst h'; simp [h]
      · simp [h']
theorem mdel_nil (k : κ) : mdel ([] : List (κ × ν)) k = [] := rfl
theorem mdel_cons (p : κ × ν) (L : List (κ × ν)) (k : κ) : mdel (p :: L) k = if p.1 = k then L else p :: mdel L k := by
  unfold mdel
  rw [List.findIdx?_cons]
  by_cases h : p.1 = k
  · simp [h]
  · simp only [h, decide_false, Bool.false_eq_true, if_false]
    cases List.findIdx? (fun p => decide (p.1 = k)) L <;> simp
theorem mget_mdel_ne (L : List (κ × ν)) {k k' : κ} (h : k ≠ k') : mget (mdel L k) k' = mget L k' := by
  induction L with
  | nil => rfl
  | cons p L ih =>
    rw [mdel_cons]
    by_cases h1 : p.1 = k
    · rw [if_pos h1, mget_cons, if_neg (by rw [h1]; exact h)]
    · rw [if_neg h1, mget_cons, mget_cons, ih]
theorem mem_keys_of_mget {L : List (κ × ν)} {k : κ} {v : ν} (h : mget L k = some v) : (k, v) ∈ L := by
  induction L with
  | nil => cases h
  | cons p L ih =>
    rw [mget_cons] at h
    by_cases h1 : p.1 = k
    · rw [if_pos h1] at h
      cases h
      subst h1
      exact List.mem_cons_self ..
    · rw [if_neg h1] at h
      exact List.mem_cons_of_mem _ (ih h)
theorem mget_isSome {L : List (κ × ν)} {k : κ} : (mget L k).isSome = true ↔ k ∈ L.map (·.1) := by
  induction L with
  | nil => simp [mget_nil]
  | cons p L ih =>
    rw [mget_cons]
    by_cases h1 : p.1 = k
    · simp [h1]
    · rw [if_neg h1, ih]
      simp [Ne.symm h1]
end
theorem fits_i64 {z : Int} (h : -9223372036854775808 ≤ z) (h' : z ≤ 9223372036854775807) : fits .i64 z := by
  simp only [fits, Lit.wf, decide_eq_true_eq, Bool.and_eq_true]
  simp [IntKind.min, IntKind.max, IntKind.signed, IntKind.bits]
  omega
theorem nth_of {α : Type} {xs : List α} {i : Nat} {x : α} (h : xs[i]? = some x) : nth xs (i : Int) = some x := by rw [nth_nat, h]
theorem nth_eq {α : Type} {xs : List α} {i : Int} {n : Nat} (hi : i = n) : nth xs i = xs[n]? := by rw [hi, nth_nat]
theorem fuel_big : 1000000000000 ≤ fuel := by unfold fuel; omega
end Go.Proofs.YtjfajpoknnifcaaGreat
