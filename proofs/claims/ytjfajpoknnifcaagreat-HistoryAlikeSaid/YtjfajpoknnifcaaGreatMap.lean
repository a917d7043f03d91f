/- Maps of one's own, as lists of keys and values. No condition. -/
import Derived.Test.YtjfajpoknnifcaaGreatApp
import Derived.Maps.Keyed
namespace Go.Proofs.YtjfajpoknnifcaaGreat
open Go Go.Maps
set_option linter.unusedSectionVars false
set_option linter.unusedVariables false
set_option linter.unusedSimpArgs false

/-- What is asked of a key's type. -/
structure KeyOK (P : Program) (kt : TypeId) {κ : Type} (ek : κ → Value) (ok : κ → Prop) : Prop where
  keyed : Keyed P kt
  reads : ∀ k, ok k → ∃ l, keyOf P kt (ek k) = some l
  inj : ∀ a b, ek a = ek b → a = b

section
variable {κ ν : Type} [DecidableEq κ]
def mget (L : List (κ × ν)) (k : κ) : Option ν := (L.find? fun p => decide (p.1 = k)).map (·.2)
def mput (L : List (κ × ν)) (k : κ) (v : ν) : List (κ × ν) := match L.findIdx? fun p => decide (p.1 = k) with
  | some i => L.set i (k, v)
  | none => L ++ [(k, v)]
def mdel (L : List (κ × ν)) (k : κ) : List (κ × ν) := match L.findIdx? fun p => decide (p.1 = k) with
  | some i => L.eraseIdx i
  | none => L
theorem mget_of {L : List (κ × ν)} {k : κ} {i : Nat} {v : ν} (hn : (L.map (·.1)).Nodup) (h : L[i]? = some (k, v)) : L.findIdx? (fun p => decide (p.1 = k)) = some i ∧ mget L k = some v := by
  have hlt : i < L.length := (List.getElem?_eq_some_iff.1 h).1
  have he : L[i] = (k, v) := (List.getElem?_eq_some_iff.1 h).2
  have uniq : ∀ j (hj : j < L.length), L[j].1 = k → j = i := fun j hj e => by
    have h1 : (L.map (·.1))[j]'(by simpa using hj) = k := by simp [e]
    have h2 : (L.map (·.1))[i]'(by simpa using hlt) = k := by simp [he]
    exact (List.getElem_inj hn).1 (h1.trans h2.symm)
  have h3 : L.findIdx? (fun p => decide (p.1 = k)) = some i := by
    rw [List.findIdx?_eq_some_iff_getElem]
    refine ⟨hlt, by simp [he], fun j hj => ?_⟩
    have hjl : j < L.length := by omega
    simp only [decide_eq_true_eq]
    intro e
    have := uniq j hjl e
    omega
  refine ⟨h3, ?_⟩
  unfold mget
  have : L.find? (fun p => decide (p.1 = k)) = some (k, v) := by
    rw [List.find?_eq_some_iff_getElem]
    refine ⟨by simp, i, hlt, he, fun j hj => ?_⟩
    have hjl : j < L.length := by omega
    simp only [Bool.not_eq_true', decide_eq_false_iff_not]
    intro e
    have := uniq j hjl e
    omega
  rw [this]; rfl
theorem mget_none {L : List (κ × ν)} {k : κ} (h : ∀ p ∈ L, p.1 ≠ k) : L.findIdx? (fun p => decide (p.1 = k)) = none ∧ mget L k = none := by
  refine ⟨?_, ?_⟩
  · rw [List.findIdx?_eq_none_iff]
    exact fun p hp => by simpa using h p hp
  · unfold mget
    have : L.find? (fun p => decide (p.1 = k)) = none := by
      rw [List.find?_eq_none]
      exact fun p hp => by simpa using h p hp
    rw [this]; rfl
end
section
variable {κ ν : Type}
/-- A map's entries. -/
def mes (ek : κ → Value) (ev : ν → Value) (L : List (κ × ν)) (bs : List Nat) : List MapEntry := List.zipWith (fun p b => { key := ek p.1, val := ev p.2, born := b }) L bs
/-- The inner facts of a map's memory. -/
structure MapIn (ok : κ → Prop) (L : List (κ × ν)) (bs : List Nat) (clock : Nat) : Prop where
  len : bs.length = L.length
  keys : (L.map (·.1)).Nodup
  oks : ∀ p ∈ L, ok p.1
  born : bs.Nodup
  old : ∀ b ∈ bs, b < clock
/-- A map of one's own, that reads as a list. -/
def MapS (ok : κ → Prop) (ek : κ → Value) (ev : ν → Value) (b : Nat) (L : List (κ × ν)) : HP :=
  ⟨fun _ h => ∃ bs clock, MapIn ok L bs clock ∧ h = fun c => if c = b then some (.map (mes ek ev L bs).toArray clock) else none, fun _ h => h⟩
variable {w : World} {ok : κ → Prop} {ek : κ → Value} {ev : ν → Value} {b : Nat} {L : List (κ × ν)} {Ps : List HP}
theorem Holds.mapOpen (H : Holds w (MapS ok ek ev b L :: Ps)) : ∃ bs clock, MapIn ok L bs clock ∧ Holds w (Blk b (.map (mes ek ev L bs).toArray clock) :: Ps) := by
  obtain ⟨r, h, x, y, z, h1, h2, s, ⟨bs, cl, m, rfl⟩, d⟩ := H
  exact ⟨bs, cl, m, r, h, x, y, z, _, h2, s, rfl, d⟩
theorem Holds.mapShut {bs : List Nat} {clock : Nat} (m : MapIn ok L bs clock) (H : Holds w (Blk b (.map (mes ek ev L bs).toArray clock) :: Ps)) : Holds w (MapS ok ek ev b L :: Ps) :=
  H.imp fun _ _ ⟨h1, h2, s, q, d⟩ => ⟨h1, h2, s, ⟨bs, clock, m, q⟩, d⟩
theorem Holds.mapNew (ok : κ → Prop) (ek : κ → Value) (ev : ν → Value) (H : Holds w (Blk b (.map #[] 0) :: Ps)) : Holds w (MapS ok ek ev b ([] : List (κ × ν)) :: Ps) :=
  Holds.mapShut (bs := []) (clock := 0) ⟨rfl, by simp, by simp, by simp, by simp⟩ H
theorem mapNew (ok : κ → Prop) (ek : κ → Value) (ev : ν → Value) : (w : World) → Holds w (Blk b (.map #[] 0) :: Ps) → Holds w (MapS ok ek ev b ([] : List (κ × ν)) :: Ps) := fun _ H => H.mapNew ok ek ev

theorem mes_get {bs : List Nat} (hl : bs.length = L.length) {i : Nat} {e : MapEntry} (h : (mes ek ev L bs)[i]? = some e) : ∃ p b, L[i]? = some p ∧ bs[i]? = some b ∧ e = { key := ek p.1, val := ev p.2, born := b } := by
  have hlt : i < (mes ek ev L bs).length := (List.getElem?_eq_some_iff.1 h).1
  have hl' : (mes ek ev L bs).length = L.length := by simp [mes, hl]
  have h1 : i < L.length := by omega
  have h2 : i < bs.length := by omega
  refine ⟨L[i], bs[i], List.getElem?_eq_getElem h1, List.getElem?_eq_getElem h2, ?_⟩
  have := (List.getElem?_eq_some_iff.1 h).2
  rw [← this]
  simp [mes]
theorem mes_mem {bs : List Nat} (hl : bs.length = L.length) {e : MapEntry} (h : e ∈ mes ek ev L bs) : ∃ p ∈ L, e.key = ek p.1 ∧ e.val = ev p.2 := by
  obtain ⟨i, hi⟩ := List.mem_iff_getElem?.1 h
  obtain ⟨p, b, h1, _, rfl⟩ := mes_get hl hi
  exact ⟨p, List.mem_of_getElem? h1, rfl, rfl⟩

variable [DecidableEq κ]
variable {P : Program} {kt : TypeId}
/-- What looking for a key comes to. -/
theorem run_find (K : KeyOK P kt ek ok) {bs : List Nat} {clock : Nat} (m : MapIn ok L bs clock) {k : κ} (hk : ok k) (w : World) :
    (mget L k = none ∧ L.findIdx? (fun p => decide (p.1 = k)) = none ∧ (Instr.findKey kt (ek k) (mes ek ev L bs)).run P w = .ok none w) ∨
    ∃ i v, mget L k = some v ∧ L.findIdx? (fun p => decide (p.1 = k)) = some i ∧ L[i]? = some (k, v) ∧ (Instr.findKey kt (ek k) (mes ek ev L bs)).run P w = .ok (some (i, ev v)) w := by
  obtain ⟨l, hl⟩ := K.reads k hk
  have hall : ∀ e ∈ mes ek ev L bs, ∃ l, keyOf P kt e.key = some l := fun e he => by
    obtain ⟨p, hp, h1, _⟩ := mes_mem m.len he
    rw [h1]; exact K.reads p.1 (m.oks p hp)
  rcases K.keyed.find w hl _ hall with ⟨h1, h2⟩ | ⟨i, e, h1, h2, h3⟩
  · have hne : ∀ p ∈ L, p.1 ≠ k := fun p hp he => by
      obtain ⟨i, hi⟩ := List.mem_iff_getElem?.1 hp
      have hlt : i < L.length := (List.getElem?_eq_some_iff.1 hi).1
      have hlt2 : i < (mes ek ev L bs).length := by simp [mes, m.len, hlt]
      have hmem := List.getElem_mem hlt2
      refine h2 _ hmem ?_
      have hp' : L[i] = p := (List.getElem?_eq_some_iff.1 hi).2
      simp [mes, hp', he]
    obtain ⟨a, b⟩ := mget_none hne
    exact .inl ⟨b, a, h1⟩
  · obtain ⟨⟨k', v⟩, bo, h4, _, rfl⟩ := mes_get m.len h2
    have : k' = k := K.inj _ _ h3
    subst this
    obtain ⟨a, b⟩ := mget_of m.keys h4
    exact .inr ⟨i, v, b, a, h4, h1⟩
theorem run_lookupM (K : KeyOK P kt ek ok) {t et : TypeId} (ht : mapB P t = some (kt, et)) {z : Value} (hz : zeroB P et = some z) (H : Holds w (MapS ok ek ev b L :: Ps)) {k : κ} (hk : ok k) (c : Bool) :
    (Instr.lookup t (.map (some b)) (ek k) c).run P w = .ok (if c then .tuple #[((mget L k).map ev).getD z, .bool (mget L k).isSome] else ((mget L k).map ev).getD z) w := by
  obtain ⟨bs, clock, m, hb⟩ := H.mapOpen
  obtain ⟨l, hl⟩ := K.reads k hk
  have h1 := run_underlying (und_map ht) w
  have h2 := K.keyed.check w (mes ek ev L bs).toArray.isEmpty hl
  have h3 := run_zeroValue (P := P) w hz
  have h4 : (getObj b).run P w = .ok (.map (mes ek ev L bs).toArray clock) w := by simp [getObj, Sem.run, hb.blk]
  rcases run_find (ev := ev) K m hk w with ⟨e, _, hf⟩ | ⟨i, v, e, _, _, hf⟩
  · simp only [Instr.lookup, Sem.run_bind, h1, Result.andThen_ok, h4, Sem.run_pure, h2, hf, h3, e, Option.map_none, Option.getD_none, Option.isSome_none]
    
  · simp only [Instr.lookup, Sem.run_bind, h1, Result.andThen_ok, h4, Sem.run_pure, h2, hf, e, Option.map_some, Option.getD_some, Option.isSome_some]
    
theorem run_updateM (K : KeyOK P kt ek ok) {t et : TypeId} (ht : mapB P t = some (kt, et)) (H : Holds w (MapS ok ek ev b L :: Ps)) {k : κ} (hk : ok k) (v : ν) :
    ∃ w', (Instr.mapUpdate t (.map (some b)) (ek k) (ev v)).run P w = .ok () w' ∧ SameEnv w w' ∧ Holds w' (MapS ok ek ev b (mput L k v) :: Ps) := by
  obtain ⟨bs, clock, m, hb⟩ := H.mapOpen
  obtain ⟨l, hl⟩ := K.reads k hk
  have h1 := run_underlying (und_map ht) w
  have h2 := K.keyed.check w false hl
  have h4 : (getObj b).run P w = .ok (.map (mes ek ev L bs).toArray clock) w := by simp [getObj, Sem.run, hb.blk]
  rcases run_find (ev := ev) K m hk w with ⟨e, hi, hf⟩ | ⟨i, v0, e, hi, hLi, hf⟩
  · have hm : (mes ek ev L bs).toArray.push { key := ek k, val := ev v, born := clock } = (mes ek ev (L ++ [(k, v)]) (bs ++ [clock])).toArray := by
      simp only [mes]
      rw [List.zipWith_append m.len.symm]
      simp
    obtain ⟨q1, q2⟩ := MapKept.heap_set (o' := .map (mes ek ev (L ++ [(k, v)]) (bs ++ [clock])).toArray (clock + 1)) hb.blk
    refine ⟨{ w with heap := w.heap.setIfInBounds b (.map (mes ek ev (L ++ [(k, v)]) (bs ++ [clock])).toArray (clock + 1)) }, ?_, ⟨rfl, rfl, rfl⟩, ?_⟩
    · simp only [Instr.mapUpdate, Sem.run_bind, h1, Result.andThen_ok, h4, h2, hf]
      rw [hm]
      exact MapKept.run_setObj_map _ hb.blk
    · have h5 := hb.set (w' := { w with heap := w.heap.setIfInBounds b (.map (mes ek ev (L ++ [(k, v)]) (bs ++ [clock])).toArray (clock + 1)) }) q1 q2
      have hp : mput L k v = L ++ [(k, v)] := by simp [mput, hi]
      rw [hp]
      refine h5.mapShut ⟨by simp [m.len], ?_, ?_, ?_, ?_⟩
      · have hnot : ∀ p ∈ L, p.1 ≠ k := fun p hp' he => by
          have := List.findIdx?_eq_none_iff.1 hi p hp'
          simp [he] at this
        rw [List.map_append, List.nodup_append]
        refine ⟨m.keys, by simp, fun x hx y hy => ?_⟩
        simp at hy
        subst hy
        obtain ⟨p, hp', rfl⟩ := List.mem_map.1 hx
        exact hnot p hp'
      · intro p hp'
        rcases List.mem_append.1 hp' with h | h
        · exact m.oks p h
        · simp at h; subst h; exact hk
      · rw [List.nodup_append]
        refine ⟨m.born, by simp, fun x hx y hy => ?_⟩
        simp at hy
        subst hy
        have := m.old x hx
        omega
      · intro x hx
        rcases List.mem_append.1 hx with h | h
        · have := m.old x h; omega
        · simp at h; omega
  · have hlt : i < L.length := (List.getElem?_eq_some_iff.1 hLi).1
    have hlb : i < bs.length := by rw [m.len]; exact hlt
    have hge : (mes ek ev L bs)[i]? = some { key := ek k, val := ev v0, born := bs[i] } := by
      have hl2 : i < (mes ek ev L bs).length := by simp [mes, m.len, hlt]
      rw [List.getElem?_eq_getElem hl2]
      have he : L[i] = (k, v0) := (List.getElem?_eq_some_iff.1 hLi).2
      simp [mes, he]
    have hst := K.keyed.stays w hl
    have hm : (mes ek ev L bs).toArray.modify i (fun e => { e with key := ek k, val := ev v }) = (mes ek ev (L.set i (k, v)) bs).toArray := by
      rw [← Array.toList_inj]
      refine List.ext_getElem? fun j => ?_
      rw [Array.toList_modify]
      simp only [mes]
      rw [List.getElem?_modify]
      by_cases hj : i = j
      · subst hj
        simp [List.getElem?_zipWith, hlt, hlb]
      · simp [List.getElem?_zipWith, hj]
    obtain ⟨q1, q2⟩ := MapKept.heap_set (o' := .map (mes ek ev (L.set i (k, v)) bs).toArray clock) hb.blk
    refine ⟨{ w with heap := w.heap.setIfInBounds b (.map (mes ek ev (L.set i (k, v)) bs).toArray clock) }, ?_, ⟨rfl, rfl, rfl⟩, ?_⟩
    · have hkey : (((mes ek ev L bs).toArray[i]?).map (·.key)).getD (ek k) = ek k := by simp [hge]
      simp only [Instr.mapUpdate, Sem.run_bind, h1, Result.andThen_ok, h4, h2, hf, hkey, hst]
      rw [hm]
      exact MapKept.run_setObj_map _ hb.blk
    · have h5 := hb.set (w' := { w with heap := w.heap.setIfInBounds b (.map (mes ek ev (L.set i (k, v)) bs).toArray clock) }) q1 q2
      have hp : mput L k v = L.set i (k, v) := by simp [mput, hi]
      rw [hp]
      refine h5.mapShut ⟨by simp [m.len], ?_, ?_, m.born, m.old⟩
      · have he : L[i] = (k, v0) := (List.getElem?_eq_some_iff.1 hLi).2
        have : (L.set i (k, v)).map (·.1) = L.map (·.1) := by
          rw [List.map_set]
          refine List.ext_getElem? fun j => ?_
          by_cases hj : i = j
          · subst hj; simp [hlt, he]
          · rw [List.getElem?_set_ne hj]
        rw [this]; exact m.keys
      · intro p hp'
        rcases List.mem_or_eq_of_mem_set hp' with h | h
        · exact m.oks p h
        · rw [h]; exact hk
theorem run_deleteM (K : KeyOK P kt ek ok) {t et ty : TypeId} (ht : mapB P t = some (kt, et)) (H : Holds w (MapS ok ek ev b L :: Ps)) {k : κ} (hk : ok k) :
    ∃ w', (Builtin.delete_ #[t, kt] ty #[.map (some b), ek k]).run P w = .ok (.tuple #[]) w' ∧ SameEnv w w' ∧ Holds w' (MapS ok ek ev b (mdel L k) :: Ps) := by
  obtain ⟨bs, clock, m, hb⟩ := H.mapOpen
  obtain ⟨l, hl⟩ := K.reads k hk
  have h1 := run_underlying (und_map ht) w
  have h2 := K.keyed.check w (mes ek ev L bs).toArray.isEmpty hl
  have h4 : (getObj b).run P w = .ok (.map (mes ek ev L bs).toArray clock) w := by simp [getObj, Sem.run, hb.blk]
  rcases run_find (ev := ev) K m hk w with ⟨e, hi, hf⟩ | ⟨i, v0, e, hi, hLi, hf⟩
  · obtain ⟨q1, q2⟩ := MapKept.heap_set (o' := .map (mes ek ev L bs).toArray clock) hb.blk
    refine ⟨{ w with heap := w.heap.setIfInBounds b (.map (mes ek ev L bs).toArray clock) }, ?_, ⟨rfl, rfl, rfl⟩, ?_⟩
    · have h5 := MapKept.run_setObj_map (P := P) (.map (mes ek ev L bs).toArray clock) hb.blk
      show (Builtin.delete_ #[t, kt] ty #[.map (some b), ek k]).run P w = _
      simp only [Builtin.delete_, Sem.run_bind, List.getElem?_toArray, List.getElem?_cons_zero, List.getElem?_cons_succ, h1, Result.andThen_ok, h4, h2, hf, h5, Sem.run_pure]
    · have h5 := hb.set (w' := { w with heap := w.heap.setIfInBounds b (.map (mes ek ev L bs).toArray clock) }) q1 q2
      have hp : mdel L k = L := by simp [mdel, hi]
      rw [hp]
      exact h5.mapShut m
  · have hlt : i < L.length := (List.getElem?_eq_some_iff.1 hLi).1
    have hlb : i < bs.length := by rw [m.len]; exact hlt
    have hm : (mes ek ev L bs).toArray.eraseIdxIfInBounds i = (mes ek ev (L.eraseIdx i) (bs.eraseIdx i)).toArray := by
      rw [← Array.toList_inj]
      have hl2 : i < (mes ek ev L bs).length := by simp [mes, m.len, hlt]
      rw [Array.eraseIdxIfInBounds, dif_pos (by simpa using hl2)]
      refine List.ext_getElem? fun j => ?_
      simp only [mes, Array.toList_eraseIdx, List.getElem?_eraseIdx, List.getElem?_zipWith]
      split <;> rfl
    obtain ⟨q1, q2⟩ := MapKept.heap_set (o' := .map (mes ek ev (L.eraseIdx i) (bs.eraseIdx i)).toArray clock) hb.blk
    refine ⟨{ w with heap := w.heap.setIfInBounds b (.map (mes ek ev (L.eraseIdx i) (bs.eraseIdx i)).toArray clock) }, ?_, ⟨rfl, rfl, rfl⟩, ?_⟩
    · have h5 := MapKept.run_setObj_map (P := P) (.map (mes ek ev (L.eraseIdx i) (bs.eraseIdx i)).toArray clock) hb.blk
      simp only [Builtin.delete_, Sem.run_bind, List.getElem?_toArray, List.getElem?_cons_zero, List.getElem?_cons_succ, h1, Result.andThen_ok, h4, h2, hf, hm, h5, Sem.run_pure]
    · have h5 := hb.set (w' := { w with heap := w.heap.setIfInBounds b (.map (mes ek ev (L.eraseIdx i) (bs.eraseIdx i)).toArray clock) }) q1 q2
      have hp : mdel L k = L.eraseIdx i := by simp [mdel, hi]
      rw [hp]
      refine h5.mapShut ⟨?_, ?_, fun p q => m.oks p (List.mem_of_mem_eraseIdx q), ?_, fun x q => m.old x (List.mem_of_mem_eraseIdx q)⟩
      · rw [List.length_eraseIdx_of_lt hlt, List.length_eraseIdx_of_lt hlb, m.len]
      · exact m.keys.sublist ((List.eraseIdx_sublist _ _).map _)
      · exact m.born.sublist (List.eraseIdx_sublist _ _)
/-! ### The operations -/
variable {E : World} {n : Nat} {D : List Deferred} {φ : Fr} {Qs : List HP} {d : Nat} {ty : TypeId} {pos : String} {aft : Array Edge} {g : Option (Nat × Bool)} {x y z' : Operand}
/-- Looked up: there is one; there is none. -/
theorem op_lookup1 {dst : Option Tmp} {t et : TypeId} {z : Value} (K : KeyOK P kt ek ok) (ht : mapB P t = some (kt, et)) (hz : zeroB P et = some z) {k : κ} {v : ν} (hx : YtjfajpoknnifcaaGreat.ev φ x = some (.map (some b))) (hy : YtjfajpoknnifcaaGreat.ev φ y = some (ek k)) (hk : ok k) (hv : mget L k = some v) :
    OpR P ⟨dst, .lookup t x y true, ty, pos, aft, g⟩ φ [MapS ok ek ev b L] (.tuple #[ev v, .bool true]) := fun a w s H => by
  simp only [execOp, s.ev hx, s.ev hy]
  simp [run_lookupM K ht hz H hk, hv]
theorem op_lookup0 {dst : Option Tmp} {t et : TypeId} {z : Value} (K : KeyOK P kt ek ok) (ht : mapB P t = some (kt, et)) (hz : zeroB P et = some z) {k : κ} (hx : YtjfajpoknnifcaaGreat.ev φ x = some (.map (some b))) (hy : YtjfajpoknnifcaaGreat.ev φ y = some (ek k)) (hk : ok k) (hv : mget L k = none) :
    OpR P ⟨dst, .lookup t x y true, ty, pos, aft, g⟩ φ [MapS ok ek ev b L] (.tuple #[z, .bool false]) := fun a w s H => by
  simp only [execOp, s.ev hx, s.ev hy]
  simp [run_lookupM K ht hz H hk, hv]
/-- Looked up, the bare value. -/
theorem op_lookupv {dst : Option Tmp} {t et : TypeId} {z u : Value} (K : KeyOK P kt ek ok) (ht : mapB P t = some (kt, et)) (hz : zeroB P et = some z) {k : κ} (hx : YtjfajpoknnifcaaGreat.ev φ x = some (.map (some b))) (hy : YtjfajpoknnifcaaGreat.ev φ y = some (ek k)) (hk : ok k) (hv : ((mget L k).map ev).getD z = u) :
    OpR P ⟨dst, .lookup t x y false, ty, pos, aft, g⟩ φ [MapS ok ek ev b L] u := fun a w s H => by
  simp only [execOp, s.ev hx, s.ev hy]
  simp [run_lookupM K ht hz H hk, hv]
theorem op_mapUpdate {t et : TypeId} {u : Value} (K : KeyOK P kt ek ok) (ht : mapB P t = some (kt, et)) (ks : List Nat) (hp : pick Ps ks = MapS ok ek ev b L :: Qs) {k : κ} {v : ν} (hx : YtjfajpoknnifcaaGreat.ev φ x = some (.map (some b))) (hy : YtjfajpoknnifcaaGreat.ev φ y = some (ek k)) (hz : YtjfajpoknnifcaaGreat.ev φ z' = some u) (hu : u = ev v) (hk : ok k) :
    OpX P E n D ⟨none, .mapUpdate t x y z', ty, pos, aft, g⟩ φ Ps (Sat E n D φ (MapS ok ek ev b (mput L k v) :: Qs)) := fun a w KK Q s kk => by
  have H := s.hp.pick ks
  rw [hp] at H
  obtain ⟨w', hr, he, hh⟩ := run_updateM K ht H hk v
  unfold Oper.wp
  have : (execOp a.eval ⟨none, .mapUpdate t x y z', ty, pos, aft, g⟩).run P w = .ok .skip w' := by
    simp only [execOp, s.ev hx, s.ev hy, s.ev hz, hu]
    simp [hr]
  rw [this]
  exact kk _ _ (s.world he hh)
theorem op_insert {t et : TypeId} {u : Value} (K : KeyOK P kt ek ok) (ht : mapB P t = some (kt, et)) (ks : List Nat) (hp : pick Ps ks = MapS ok ek ev b L :: Qs) {k : κ} {v : ν} (hx : YtjfajpoknnifcaaGreat.ev φ x = some (.map (some b))) (hy : YtjfajpoknnifcaaGreat.ev φ y = some (ek k)) (hz : YtjfajpoknnifcaaGreat.ev φ z' = some u) (hu : u = ev v) (hk : ok k) :
    OpX P E n D ⟨none, .insert t x y z', ty, pos, aft, g⟩ φ Ps (Sat E n D φ (MapS ok ek ev b (mput L k v) :: Qs)) := fun a w KK Q s kk => by
  have H := s.hp.pick ks
  rw [hp] at H
  obtain ⟨w', hr, he, hh⟩ := run_updateM K ht H hk v
  unfold Oper.wp
  have : (execOp a.eval ⟨none, .insert t x y z', ty, pos, aft, g⟩).run P w = .ok .skip w' := by
    simp only [execOp, s.ev hx, s.ev hy, s.ev hz, hu]
    simp [hr]
  rw [this]
  exact kk _ _ (s.world he hh)
theorem op_delete {t et : TypeId} (K : KeyOK P kt ek ok) (ht : mapB P t = some (kt, et)) (ks : List Nat) (hp : pick Ps ks = MapS ok ek ev b L :: Qs) {k : κ} (hx : YtjfajpoknnifcaaGreat.ev φ x = some (.map (some b))) (hy : YtjfajpoknnifcaaGreat.ev φ y = some (ek k)) (hk : ok k) (hn : Nat.blt d n = true) :
    OpX P E n D ⟨some d, .call ⟨.builtin .delete, #[x, y], #[t, kt]⟩, ty, pos, aft, g⟩ φ Ps (Sat E n D ((d, .tuple #[]) :: φ) (MapS ok ek ev b (mdel L k) :: Qs)) := fun a w KK Q s kk => by
  have H := s.hp.pick ks
  rw [hp] at H
  obtain ⟨w', hr, he, hh⟩ := run_deleteM (ty := ty) K ht H hk
  unfold Oper.wp
  have : (execOp a.eval ⟨some d, .call ⟨.builtin .delete, #[x, y], #[t, kt]⟩, ty, pos, aft, g⟩).run P w = .ok (.value (.tuple #[])) w' := by
    show ((do let d ← resolve a.eval ⟨.builtin .delete, #[x, y], #[t, kt]⟩ ty; invoke d.target d.args) : Sem Next).run P w = _
    simp [resolve, invoke, builtin, s.ev hx, s.ev hy, hr]
  rw [this]
  exact kk _ _ ((s.world he hh).put _ (Nat.le_of_ble_eq_true hn))
theorem op_lenMap {dst : Option Tmp} {t kt' et : TypeId} (ht : mapB P t = some (kt', et)) (hx : YtjfajpoknnifcaaGreat.ev φ x = some (.map (some b))) : OpR P ⟨dst, .call ⟨.builtin .len, #[x], #[t]⟩, ty, pos, aft, g⟩ φ [MapS ok ek ev b L] (.int .i64 L.length) := fun a w s H => by
  obtain ⟨bs, clock, m, hb⟩ := H.mapOpen
  have h1 := run_underlying (und_map ht) w
  have h4 : (getObj b).run P w = .ok (.map (mes ek ev L bs).toArray clock) w := by simp [getObj, Sem.run, hb.blk]
  have hl : (mes ek ev L bs).length = L.length := by simp [mes, m.len]
  show ((do let d ← resolve a.eval ⟨.builtin .len, #[x], #[t]⟩ ty; invoke d.target d.args) : Sem Next).run P w = _
  simp [resolve, invoke, builtin, Builtin.len_, s.ev hx, h1, h4, goInt, hl]
end
end Go.Proofs.YtjfajpoknnifcaaGreat
