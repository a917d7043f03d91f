/- Single operations under assertions. No condition. -/
import Derived.Test.YtjfajpoknnifcaaGreatStep
import Derived.Laws.Slices
import Derived.Laws.Pointers
import Derived.Laws.IdiomCopy
import Derived.Laws.CopyRow
namespace Go.Proofs.YtjfajpoknnifcaaGreat
open Go

/-! ### What is asked of the program's tables: closed facts -/
def sizeB (P : Program) (t : TypeId) : Option Nat := (P.info? t).map (·.size)
def bytesB (P : Program) (t : TypeId) : Option Nat := (P.info? t).map (·.bytes)
def zeroB (P : Program) (t : TypeId) : Option Value := (P.info? t).bind (·.zero)
def aggB (P : Program) (t : TypeId) : Option Bool := match P.underlying t with | some (.struct _) => some true | some (.array _ _) => some true | some _ => some false | none => none
def elemB (P : Program) (t : TypeId) : Option TypeId := match P.underlying t with | some (.slice e) => some e | _ => none
def arrB (P : Program) (t : TypeId) : Option (Nat × TypeId) := match P.underlying t with | some (.array n e) => some (n, e) | _ => none
def mapB (P : Program) (t : TypeId) : Option (TypeId × TypeId) := match P.underlying t with | some (.map k e) => some (k, e) | _ => none
def intB (P : Program) (t : TypeId) : Option IntKind := match P.underlying t with | some (.int k) => some k | _ => none
/-- Where a field begins, and how many cells it has. -/
def fieldB (P : Program) (s : TypeId) (f : Nat) : Option (Nat × Nat) := match P.underlying s with
  | some (.struct fs) => match fs[f]? with
    | some x => match P.info? x.type with
      | some i => if i.size = 0 then none else some (x.offset, i.size)
      | none => none
    | none => none
  | _ => none

section
variable {P : Program} (w : World)
theorem run_sizeOf {t : TypeId} {k : Nat} (h : sizeB P t = some k) : (sizeOf t).run P w = .ok k w := by
  unfold sizeB at h
  cases e : P.info? t with
  | none => rw [e] at h; cases h
  | some i => rw [e] at h; simp at h; simp [sizeOf, typeInfo, e, h]
theorem run_zeroValue {t : TypeId} {v : Value} (h : zeroB P t = some v) : (zeroValue t).run P w = .ok v w := by
  unfold zeroB at h
  cases e : P.info? t with
  | none => rw [e] at h; cases h
  | some i => rw [e] at h; simp at h; simp [zeroValue, typeInfo, e, h]
theorem run_isAgg {t : TypeId} {b : Bool} (h : aggB P t = some b) : (isAgg t).run P w = .ok b w := by
  unfold aggB at h
  unfold isAgg
  split at h <;> rename_i e
  · simp [underlying, e] at *; exact h
  · simp [underlying, e] at *; exact h
  · rename_i d h1 h2
    simp [underlying, e] at *
    subst h
    cases d <;> first | rfl | exact absurd rfl (h1 _) | exact absurd rfl (h2 _ _)
  · cases h
theorem und_elem {t e : TypeId} (h : elemB P t = some e) : P.underlying t = some (.slice e) := by
  unfold elemB at h
  split at h
  · rename_i x; cases h; exact x
  · cases h
theorem und_arr {t e : TypeId} {n : Nat} (h : arrB P t = some (n, e)) : P.underlying t = some (.array n e) := by
  unfold arrB at h
  split at h
  · rename_i x; cases h; exact x
  · cases h
theorem und_map {t k e : TypeId} (h : mapB P t = some (k, e)) : P.underlying t = some (.map k e) := by
  unfold mapB at h
  split at h
  · rename_i x; cases h; exact x
  · cases h
theorem und_int {t : TypeId} {k : IntKind} (h : intB P t = some k) : P.underlying t = some (.int k) := by
  unfold intB at h
  split at h
  · rename_i x; cases h; exact x
  · cases h
theorem run_fieldAt {s : TypeId} {f off sz b o o' : Nat} (h : fieldB P s f = some (off, sz)) (ho : o + off = o') :
    (Instr.fieldAt s (.pointer (some ⟨b, o, none⟩)) f).run P w = .ok (.pointer (some ⟨b, o', none⟩)) w := by
  unfold fieldB at h
  split at h
  · rename_i fs e
    split at h
    · rename_i x hx
      split at h
      · rename_i i hi
        split at h
        · cases h
        · rename_i hz
          cases h
          have hsz : (sizeOf x.type).run P w = .ok i.size w := run_sizeOf w (by simp [sizeB, hi])
          simp only [Instr.fieldAt, fieldPlace, Instr.sureAddr]
          simp [underlying, e, hx, hsz, hz, Addr.add]
          split
          · rename_i h0; simp [← ho, h0]
          · simp [ho]
      · cases h
    · cases h
  · cases h
end

/-! ### Reading -/
section
variable {P : Program} {w : World}
theorem cell_of {b o : Nat} {l : List Value} {ty : TypeId} {fr : Nat × Nat} {v : Value} (h : w.heap[b]? = some (.cells l.toArray ty fr)) (e : l[o]? = some v) : w.cell? ⟨b, o, none⟩ = some v := by
  simp [World.cell?, h, e]
theorem run_load1 {t : TypeId} {b o : Nat} {l : List Value} {ty : TypeId} {fr : Nat × Nat} {v : Value} (ha : aggB P t = some false) (h : w.heap[b]? = some (.cells l.toArray ty fr)) (e : l[o]? = some v) :
    (Instr.loadAt t (.pointer (some ⟨b, o, none⟩))).run P w = .ok v w := by
  have := run_isAgg (P := P) w ha
  simp [Instr.loadAt, Instr.sureAddr, loadVar, this, cell_of h e]
theorem run_loadN {t : TypeId} {k b o : Nat} {l : List Value} {ty : TypeId} {fr : Nat × Nat} {vs : List Value} (ha : aggB P t = some true) (hk : sizeB P t = some k) (h : w.heap[b]? = some (.cells l.toArray ty fr))
    (e : (l.drop o).take k = vs) (hl : vs.length = k) : (Instr.loadAt t (.pointer (some ⟨b, o, none⟩))).run P w = .ok (.agg vs.toArray) w := by
  have h1 := run_isAgg (P := P) w ha
  have h2 := run_sizeOf (P := P) w hk
  have h3 : (loadCells ⟨b, o, none⟩ vs.length).run P w = .ok vs.toArray w := run_loadCells_list w _ _ fun j v hj => by
    have hjl : j < k := by rw [← hl]; exact (List.getElem?_eq_some_iff.1 hj).1
    have : l[o + j]? = some v := by
      rw [← e, List.getElem?_take_of_lt hjl, List.getElem?_drop] at hj
      exact hj
    have := cell_of h this
    simp only [Addr.add]
    split
    · rename_i h0; subst h0; exact this
    · exact this
  rw [hl] at h3
  simp [Instr.loadAt, Instr.sureAddr, loadVar, h1, h2, h3]
end

/-! ### Writing -/
/-- Values laid over a list from a place on. -/
def lay (l : List Value) (o : Nat) (vs : List Value) : List Value := l.take o ++ vs ++ l.drop (o + vs.length)
theorem lay_length {l : List Value} {o : Nat} {vs : List Value} (h : o + vs.length ≤ l.length) : (lay l o vs).length = l.length := by simp [lay]; omega
theorem lay_cons {l : List Value} {o : Nat} {v : Value} {vs : List Value} (h : o < l.length) : lay (l.set o v) (o + 1) vs = lay l o (v :: vs) := by
  simp only [lay, List.length_cons]
  rw [List.take_set, List.drop_set]
  have e1 : (l.take (o + 1)).set o v = l.take o ++ [v] := by
    rw [List.take_succ_eq_append_getElem h, List.set_append_right _ _ (by simp; omega)]
    simp [Nat.min_eq_left (Nat.le_of_lt h)]
  rw [e1, if_pos (by omega)]
  simp only [List.append_assoc, List.singleton_append]
  congr 3
  omega
theorem lay_nil (l : List Value) (o : Nat) : lay l o [] = l := by simp [lay]

section
variable {P : Program}
theorem setCell_block {w : World} {b o : Nat} {l : List Value} {ty : TypeId} {fr : Nat × Nat} (h : w.heap[b]? = some (.cells l.toArray ty fr)) (v : Value) :
    (w.setCell ⟨b, o, none⟩ v).heap[b]? = some (.cells (l.set o v).toArray ty fr) ∧ ∀ c, c ≠ b → (w.setCell ⟨b, o, none⟩ v).heap[c]? = w.heap[c]? := by
  refine ⟨?_, fun c hc => ?_⟩
  · simp only [World.setCell, Array.getElem?_modify, if_true, h]
    simp
  · simp only [World.setCell, Array.getElem?_modify, if_neg (Ne.symm hc)]
theorem run_storeCells_block : ∀ (vs : List Value) (w : World) (b o i : Nat) (l : List Value) (ty : TypeId), w.heap[b]? = some (.cells l.toArray ty (0, 0)) → (∀ v ∈ vs, v.oneCell' = true) → o + i + vs.length ≤ l.length →
    ∃ w', (storeCells ⟨b, o, none⟩ vs i).run P w = .ok () w' ∧ w'.heap[b]? = some (.cells (lay l (o + i) vs).toArray ty (0, 0)) ∧ (∀ c, c ≠ b → w'.heap[c]? = w.heap[c]?) ∧ SameEnv w w'
  | [], w, b, o, i, l, ty, h, _, _ => ⟨w, rfl, by rw [lay_nil]; exact h, fun _ _ => rfl, SameEnv.refl w⟩
  | v :: vs, w, b, o, i, l, ty, h, h1, hl => by
    have hlen : o + i < l.length := by simp at hl; omega
    have hc : w.cell? ⟨b, o + i, none⟩ = some (l[o + i]) := cell_of h (List.getElem?_eq_getElem hlen)
    have hf : w.frozen? ⟨b, o + i, none⟩ = false := by simp [World.frozen?, h]
    have ha : (⟨b, o, none⟩ : Addr).add i = ⟨b, o + i, none⟩ := by simp only [Addr.add]; split <;> simp_all
    obtain ⟨hb, hk⟩ := setCell_block h (o := o + i) v
    obtain ⟨w', hr, hb', hk', he⟩ := run_storeCells_block vs (w.setCell ⟨b, o + i, none⟩ v) b o (i + 1) (l.set (o + i) v) ty hb (fun u hu => h1 u (List.mem_cons_of_mem _ hu)) (by simp at hl ⊢; omega)
    refine ⟨w', ?_, ?_, fun c hc' => (hk' c hc').trans (hk c hc'), he⟩
    · have hs := run_store P w ⟨b, o + i, none⟩ v .plain (h1 v (List.mem_cons_self ..))
      simp only [hc, hf] at hs
      simp only [storeCells, ha]
      simp [hs, hr]
    · rw [hb']
      have := lay_cons (l := l) (o := o + i) (v := v) (vs := vs) hlen
      rw [← this]; rfl
theorem run_storeAt {w : World} {t : TypeId} {k b o : Nat} {l : List Value} {ty : TypeId} {v : Value} {vs : List Value} (hk : sizeB P t = some k) (h : w.heap[b]? = some (.cells l.toArray ty (0, 0))) (hv : v.cells = vs.toArray)
    (hl : vs.length = k) (h1 : ∀ v ∈ vs, v.oneCell' = true) (hr : o + k ≤ l.length) :
    ∃ w', (Instr.storeAt t (.pointer (some ⟨b, o, none⟩)) v).run P w = .ok () w' ∧ w'.heap[b]? = some (.cells (lay l o vs).toArray ty (0, 0)) ∧ (∀ c, c ≠ b → w'.heap[c]? = w.heap[c]?) ∧ SameEnv w w' := by
  obtain ⟨w', a, b', c, d⟩ := run_storeCells_block (P := P) vs w b o 0 l ty h h1 (by omega)
  refine ⟨w', ?_, b', c, d⟩
  have := run_sizeOf (P := P) w hk
  simp [Instr.storeAt, Instr.sureAddr, storeVar, this, hv, hl, a]
end
end Go.Proofs.YtjfajpoknnifcaaGreat
