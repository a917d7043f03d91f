/- Arguments as they are read: numbers, structs, slices of these. No condition. -/
import Derived.Test.YtjfajpoknnifcaaGreatDec
import Derived.Deep.Slices
import Derived.Deep.Strs
import Derived.ChangeArms
import Derived.Below
namespace Go.Proofs.YtjfajpoknnifcaaGreat
open Go Go.RowKit
set_option linter.unusedSectionVars false
set_option linter.unusedVariables false
set_option linter.unusedSimpArgs false

/-- What is read at a type: a thing x and what is physical p, the cells, what x is bound to, and parts that are only read. -/
structure Reads (P : Program) (t : TypeId) {α π : Type} (enc : α → π → List Value) (ok : α → Prop) (pts : α → π → List HP) : Prop where
  rd : ∀ {H : Type} (e : TypeId × Value → H) (W : World) (sp : Nat → Bool) (hd : Bool) (fuel : Nat) (cs : List Value) (X : DataW H × List MemPlace), DataW.trod e P W 0 sp hd fuel t cs = some X →
    ∃ x p, cs = enc x p ∧ ok x ∧ ∀ w Ps, Holds w (Old W :: Ps) → Holds w (pts x p ++ (Old W :: Ps))
theorem reads_int {P : Program} {t : TypeId} {k : IntKind} (ht : P.underlying t = some (.int k)) : Reads P t (fun x (_ : Unit) => [.int k x]) (fun x => fits k x) (fun _ _ => []) :=
  ⟨fun e W sp hd fuel cs X h => by obtain ⟨n, rfl, _, hw⟩ := DataW.trod_int ht h; exact ⟨n, (), rfl, hw, fun w Ps H => H⟩⟩
theorem reads_bool {P : Program} {t : TypeId} (ht : P.underlying t = some .bool) : Reads P t (fun x (_ : Unit) => [.bool x]) (fun _ => True) (fun _ _ => []) :=
  ⟨fun e W sp hd fuel cs X h => by obtain ⟨n, rfl, _⟩ := DataW.trod_bool ht h; exact ⟨n, (), rfl, trivial, fun w Ps H => H⟩⟩
theorem cell_block {W : World} {a : Addr} {v : Value} (h : W.cell? a = some v) : ∃ arr ty fr, a.spot = none ∧ W.heap[a.block]? = some (.cells arr ty fr) ∧ arr[a.off]? = some v := by
  have hs := World.cell?_spot h
  unfold World.cell? at h
  split at h
  · rename_i c ty fr e
    rw [hs] at h
    exact ⟨c, ty, fr, hs, e, by simpa using h⟩
  · cases h
theorem Holds.oldRoS {W w : World} {a : Option Addr} {cs : List Value} {Ps : List HP} (H : Holds w (Old W :: Ps)) (hc : ∀ j v, cs[j]? = some v → ∃ b o, a = some ⟨b, o, none⟩ ∧ W.cell? ⟨b, o + j, none⟩ = some v) : Holds w (RoS a cs :: Old W :: Ps) := by
  refine H.imp fun r h ⟨h1, h2, s, ⟨e, q⟩, d⟩ => ⟨Frag.nil, h, Split.nil_left _, ⟨rfl, fun j v hj => ?_⟩, h1, h2, s, ⟨e, q⟩, d⟩
  obtain ⟨b, o, ha, hv⟩ := hc j v hj
  obtain ⟨arr, ty, fr, _, h3, h4⟩ := cell_block hv
  exact ⟨b, o, arr, ty, fr, ha, q _ _ h3, h4⟩
/-- A slice of flat things. -/
theorem reads_slice {P : Program} {t e : TypeId} {α : Type} {enc : α → List Value} {ok : α → Prop} {sz : Nat} (ht : P.underlying t = some (.slice e)) (hc : P.cellsOf e = sz) (h0 : Nat.blt 0 sz = true) (hsz : ∀ x, (enc x).length = sz)
    (R : Reads P e (fun x (_ : Unit) => enc x) ok (fun _ _ => [])) :
    Reads P t (fun (xs : List α) (p : Option Addr × Nat × Nat) => [.slice p.1 p.2.1 p.2.2]) (fun xs => ∀ x ∈ xs, ok x) (fun xs p => [RoL enc p.1 p.2.1 xs]) :=
  ⟨fun en W sp hd fuel cs X h => by
    rcases Deep.open_slice ht h with ⟨rfl, _⟩ | ⟨a, len, cap, m, n, D, Pl, rfl, _, hl, hm, hmm, rfl, hx⟩
    · refine ⟨[], (none, 0, 0), rfl, fun x hx => by simp at hx, fun w Ps H => ?_⟩
      exact Holds.mkRoL (H.oldRoS (a := none) (cs := flat enc ([] : List α)) (fun j v hj => by simp [flat] at hj)) rfl
    · have hlm : len ≤ m := by rw [hmm]; split <;> omega
      have each : ∀ i, ∃ x : Option α, i < len → ∃ y, x = some y ∧ ok y ∧ W.cells? 0 (a.add (i * sz)) sz = some (enc y) := fun i => by
        by_cases hi : i < len
        · obtain ⟨cs', h1, h2⟩ := hx i (by omega)
          obtain ⟨y, _, rfl, hy, _⟩ := R.rd en W sp hd n cs' _ h2
          rw [hc] at h1
          exact ⟨some y, fun _ => ⟨y, rfl, hy, h1⟩⟩
        · exact ⟨none, fun h => absurd h hi⟩
      let F : Nat → Option α := fun i => Classical.choose (each i)
      have hF : ∀ i, i < len → ∃ y, F i = some y ∧ ok y ∧ W.cells? 0 (a.add (i * sz)) sz = some (enc y) := fun i hi => Classical.choose_spec (each i) hi
      let xs : List α := (List.range len).filterMap F
      have hxs : ∀ k, k ≤ len → ((List.range k).filterMap F).length = k ∧ ∀ i, i < k → ((List.range k).filterMap F)[i]? = F i := by
        intro k
        induction k with
        | zero => intro _; exact ⟨rfl, fun i hi => absurd hi (Nat.not_lt_zero _)⟩
        | succ k ih =>
          intro hk
          obtain ⟨h1, h2⟩ := ih (by omega)
          obtain ⟨y, hy, _⟩ := hF k (by omega)
          rw [List.range_succ, List.filterMap_append]
          have e1 : [k].filterMap F = [y] := by simp [hy]
          rw [e1]
          refine ⟨by simp [h1], fun i hi => ?_⟩
          by_cases he : i = k
          · subst he
            rw [List.getElem?_append_right (by omega), h1, hy]; simp
          · rw [List.getElem?_append_left (by omega)]; exact h2 i (by omega)
      have hlen : xs.length = len := (hxs len (Nat.le_refl _)).1
      have hget : ∀ i, i < len → xs[i]? = F i := (hxs len (Nat.le_refl _)).2
      refine ⟨xs, (some a, len, cap), rfl, fun x hx => ?_, fun w Ps H => ?_⟩
      · obtain ⟨i, hi⟩ := List.mem_iff_getElem?.1 hx
        have hil : i < len := by have := (List.getElem?_eq_some_iff.1 hi).1; omega
        obtain ⟨y, hy, hok, _⟩ := hF i hil
        rw [hget i hil, hy] at hi
        cases hi; exact hok
      · refine Holds.mkRoL (H.oldRoS (a := some a) (cs := flat enc xs) (fun j v hj => ?_)) hlen
        have h0' : 0 < sz := Nat.le_of_ble_eq_true h0
        have hjl : j < len * sz := by
          have := (List.getElem?_eq_some_iff.1 hj).1
          rwa [flat_len hsz, hlen] at this
        have hi : j / sz < len := Nat.div_lt_of_lt_mul (by rw [Nat.mul_comm]; exact hjl)
        obtain ⟨y, hy, _, hcells⟩ := hF (j / sz) hi
        obtain ⟨_, _, hcell⟩ := World.cells?_some hcells
        have hr : j % sz < sz := Nat.mod_lt _ h0'
        have hpart := flat_part hsz (show xs[j / sz]? = some y by rw [hget _ hi, hy])
        have hv : (enc y)[j % sz]? = some v := by
          rw [← hpart, List.getElem?_take_of_lt hr, List.getElem?_drop, ← hj]
          congr 1
          rw [Nat.mul_comm]; exact Nat.div_add_mod j sz
        have hc1 := hcell (j % sz) hr
        rw [hv, Deep.add_add] at hc1
        have hjj : j / sz * sz + j % sz = j := by rw [Nat.mul_comm]; exact Nat.div_add_mod j sz
        rw [hjj] at hc1
        obtain ⟨bl, of, spot⟩ := a
        obtain ⟨y0, _, _, hcells0⟩ := hF 0 (Nat.lt_of_le_of_lt (Nat.zero_le _) hi)
        have hc0 := (World.cells?_some hcells0).2.2 0 h0'
        rw [List.getElem?_eq_getElem (by rw [hsz]; exact h0')] at hc0
        simp only [Nat.zero_mul, Addr.add, if_true] at hc0
        obtain ⟨_, _, _, hsp, _⟩ := cell_block hc0
        have : spot = none := hsp
        subst this
        exact ⟨bl, of, rfl, by rw [add_none] at hc1; exact hc1⟩⟩
/-- Whatever there was stays. -/
theorem below_of {W w' : World} {Ps : List HP} (hs : SameEnv W w') (H : Holds w' (Old W :: Ps)) : Below W.heap.size W w' := by
  have hb : ∀ k, k < W.heap.size → w'.heap[k]? = W.heap[k]? := fun k hk => by
    have h1 : W.heap[k]? = some W.heap[k] := Array.getElem?_eq_getElem hk
    rw [h1]; exact H.old h1
  refine ⟨hs.1, hs.2.2, hs.2.1, ?_, hb⟩
  rcases Nat.lt_or_ge w'.heap.size W.heap.size with q | q
  · have := hb w'.heap.size q
    rw [Array.getElem?_eq_none (Nat.le_refl _), Array.getElem?_eq_getElem q] at this
    cases this
  · exact q
/-! ### Arguments' own values -/
theorem val_of {v u : Value} (hn : ∀ cs, v ≠ .agg cs) (e : v.cells.toList = [u]) : v = u := by
  cases v <;> first | exact absurd rfl (hn _) | (simp [Value.cells] at e; exact e)
section
variable {P : Program} {W : World} {base : Nat} {t : TypeId} {v u : Value}
theorem val_slice {e : TypeId} (h : Value.okWide P W .any base t v) (ht : P.underlying t = some (.slice e)) (q : v.cells.toList = [u]) : v = u :=
  val_of (fun cs hc => by subst hc; simp [Value.okWide, ht, Cell.okWide, Cell.ok] at h) q
theorem val_int {k : IntKind} (h : Value.okWide P W .any base t v) (ht : P.underlying t = some (.int k)) (q : v.cells.toList = [u]) : v = u :=
  val_of (fun cs hc => by subst hc; simp [Value.okWide, ht, Cell.okWide, Cell.ok] at h) q
theorem val_bool (h : Value.okWide P W .any base t v) (ht : P.underlying t = some .bool) (q : v.cells.toList = [u]) : v = u :=
  val_of (fun cs hc => by subst hc; simp [Value.okWide, ht, Cell.okWide, Cell.ok] at h) q
theorem val_agg {fs : Array Field} {l : List Value} (h : Value.okWide P W .any base t v) (ht : P.underlying t = some (.struct fs)) (q : v.cells.toList = l) : v = .agg l.toArray := by
  simp only [Value.okWide, ht] at h
  obtain ⟨cs, rfl, _⟩ := h
  simp only [Value.cells] at q
  rw [← q]
end
theorem perm_old {A B : HP} {Ps : List HP} (L : List HP) : (L ++ (A :: Ps)).Perm (A :: (L ++ Ps)) := List.perm_middle
end Go.Proofs.YtjfajpoknnifcaaGreat
