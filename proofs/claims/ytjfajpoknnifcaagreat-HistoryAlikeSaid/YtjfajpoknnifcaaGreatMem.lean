/- Operations that make or write memory, calls, a function's begin and end. No condition. -/
import Derived.Test.YtjfajpoknnifcaaGreatOp
import Derived.Laws.AppendOwn
import Derived.Laws.MakeOwn
namespace Go.Proofs.YtjfajpoknnifcaaGreat
open Go

/-! ### What is asked of the program's tables, for what is built -/
def placesB (P : Program) (fs : Array Field) : Option (List (Nat × Nat)) := fs.toList.mapM fun f => (sizeB P f.type).map fun k => (f.offset, k)
/-- A struct or an array out of parts: its cells. -/
def buildB (P : Program) (t : TypeId) (ps : List (Nat × Value)) : Option (List Value) :=
  match zeroB P t with
  | none => none
  | some z => match P.underlying t with
    | some (.struct fs) => match placesB P fs with
      | some l => (Instr.fill (l[·]?) z.cells ps).map (·.toList)
      | none => none
    | some (.array _ e) => match sizeB P e with
      | some k => (Instr.fill (fun i => some (i * k, k)) z.cells ps).map (·.toList)
      | none => none
    | _ => none
/-- A slice out of parts: its cells. -/
def sliceB (P : Program) (t : TypeId) (len : Nat) (ps : List (Nat × Value)) : Option (TypeId × List Value) :=
  match elemB P t with
  | none => none
  | some e => match sizeB P e with
    | none => none
    | some k => if len * k > 2 ^ 24 ∨ len * k = 0 then none else match zeroB P e with
      | none => none
      | some z => (Instr.fill (fun i => some (i * k, k)) ((Array.range (len * k)).map (z.cells[· % z.cells.size]!)) ps).map fun c => (e, c.toList)
/-- A function that has a body. -/
def callB (P : Program) (f : Nat) : Bool := match P.funcs[f]? with
  | some fn => !(fn.name == "runtime.NumGoroutine") && fn.body.isSome
  | none => false

section
variable {P : Program} (w : World)
theorem run_places {fs : List Field} : ∀ {l : List (Nat × Nat)}, (fs.mapM fun f => (sizeB P f.type).map fun k => (f.offset, k)) = some l →
    (fs.mapM fun f => do pure (f.offset, ← sizeOf f.type) : Sem (List (Nat × Nat))).run P w = .ok l w := by
  induction fs with
  | nil => intro l h; simp at h; subst h; rfl
  | cons f fs ih =>
    intro l h
    rw [List.mapM_cons] at h
    cases h1 : sizeB P f.type with
    | none => rw [h1] at h; cases h
    | some k =>
      cases h2 : (fs.mapM fun f => (sizeB P f.type).map fun k => (f.offset, k)) with
      | none => rw [h1, h2] at h; cases h
      | some l' =>
        rw [h1, h2] at h
        simp at h
        subst h
        have := run_sizeOf (P := P) w h1
        rw [List.mapM_cons]
        simp only [Sem.run_bind, this, ih h2, Result.andThen_ok, Sem.run_pure]
theorem run_build {t : TypeId} {ps : Array (Nat × Value)} {vs : List Value} (h : buildB P t ps.toList = some vs) : (Instr.build t ps).run P w = .ok (.agg vs.toArray) w := by
  unfold buildB at h
  split at h
  · cases h
  · rename_i z hz
    have h0 := run_zeroValue (P := P) w hz
    split at h
    · rename_i fs hu
      split at h
      · rename_i l hl
        cases hf : Instr.fill (l[·]?) z.cells ps.toList with
        | none => rw [hf] at h; cases h
        | some c =>
          rw [hf] at h
          simp at h
          subst h
          have h1 := run_underlying hu w
          have h2 : (fs.mapM fun f => do pure (f.offset, ← sizeOf f.type) : Sem (Array (Nat × Nat))).run P w = .ok l.toArray w := by
            rw [Array.mapM_eq_mapM_toList]
            have := run_places (P := P) w (fs := fs.toList) hl
            simp only [Sem.run_map, this, Result.andThen_ok]
          have hf' : Instr.fill (l.toArray[·]?) z.cells ps.toList = some c := by simpa using hf
          simp only [Instr.build, Sem.run_bind, h0, h1, h2, hf', Result.andThen_ok, Sem.run_pure]
      · cases h
    · rename_i e hu
      split at h
      · rename_i k hk
        cases hf : Instr.fill (fun i => some (i * k, k)) z.cells ps.toList with
        | none => rw [hf] at h; cases h
        | some c =>
          rw [hf] at h
          simp at h
          subst h
          have h1 := run_underlying hu w
          have h2 := run_sizeOf (P := P) w hk
          simp [Instr.build, h0, h1, h2, hf]
      · cases h
    · cases h
theorem run_buildSlice {t e : TypeId} {len : Nat} {ps : Array (Nat × Value)} {vs : List Value} (h : sliceB P t len ps.toList = some (e, vs)) :
    (Instr.buildSlice t len ps).run P w = .ok (.slice (some ⟨w.heap.size, 0, none⟩) len len) (w.alloc (.cells vs.toArray e (0, 0))) := by
  unfold sliceB at h
  split at h
  · cases h
  · rename_i e' he
    split at h
    · cases h
    · rename_i k hk
      split at h
      · cases h
      · rename_i hb
        split at h
        · cases h
        · rename_i z hz
          cases hf : Instr.fill (fun i => some (i * k, k)) ((Array.range (len * k)).map (z.cells[· % z.cells.size]!)) ps.toList with
          | none => rw [hf] at h; cases h
          | some c =>
            rw [hf] at h
            simp at h
            obtain ⟨rfl, rfl⟩ := h
            have h1 := run_underlying (und_elem he) w
            have h2 := run_sizeOf (P := P) w hk
            have h3 := run_zeroValue (P := P) w hz
            have hb1 : ¬ (len * k > 2 ^ 24) := fun q => hb (.inl q)
            have hb2 : ¬ (len * k = 0) := fun q => hb (.inr q)
            simp only [Instr.buildSlice, Sem.run_bind, h1, h2, Result.andThen_ok, if_neg hb1, if_neg hb2, h3, Sem.run_pure, hf]
            simp [newRow]
end

section
variable {P : Program} {E : World} {n : Nat} {D : List Deferred} {φ : Fr} {Ps : List HP} {d : Nat} {v : Value}
variable {ty : TypeId} {pos : String} {aft : Array Edge} {g : Option (Nat × Bool)} {Cs : List HP} {x y : Operand}

theorem ev_list {a : Act} (s : Agrees φ a.tmps) : ∀ {l : List Operand} {ws : List Value}, l.map (ev φ) = ws.map some → l.map a.eval = ws
  | [], ws, h => by cases ws <;> simp_all
  | o :: l, [], h => by simp at h
  | o :: l, u :: ws, h => by simp at h; simp [s.ev h.1, ev_list s h.2]
theorem ev_parts {a : Act} (s : Agrees φ a.tmps) : ∀ {l : List (Nat × Operand)} {ws : List (Nat × Value)}, (l.map fun p => (ev φ p.2).map fun v => (p.1, v)) = ws.map some → (l.map fun p => (p.1, a.eval p.2)) = ws
  | [], ws, h => by cases ws <;> simp_all
  | o :: l, [], h => by simp at h
  | (i, o) :: l, u :: ws, h => by
    simp at h
    obtain ⟨⟨v, hv, rfl⟩, h2⟩ := h
    simp [s.ev hv]
    have := ev_parts s (l := l) (ws := ws) (by simpa using h2)
    simpa using this
theorem op_build {dst : Option Tmp} {t : TypeId} {ps : Array (Nat × Operand)} {qs : List (Nat × Value)} {vs : List Value} (hp : (ps.toList.map fun p => (ev φ p.2).map fun v => (p.1, v)) = qs.map some) (hb : buildB P t qs = some vs) :
    OpR P ⟨dst, .build t ps, ty, pos, aft, g⟩ φ Cs (.agg vs.toArray) := fun a w s H => by
  have e : (ps.map fun (i, x) => (i, a.eval x)) = qs.toArray := by
    have := ev_parts s hp
    rw [← this]
    rw [← Array.toList_inj]
    simp
  simp only [execOp]
  rw [e]
  simp [run_build (P := P) w (ps := qs.toArray) hb]

/-! ### New memory -/
theorem put_new {a : Act} {w : World} (s : Sat E n D φ Ps a w) (o : Obj) (u : Value) (hn : Nat.blt d n = true) : Sat E n D ((d, u) :: φ) (Blk w.heap.size o :: Ps) (a.put (some d) u) (w.alloc o) :=
  (s.world (w' := w.alloc o) ⟨rfl, rfl, rfl⟩ (s.hp.alloc o)).put u (Nat.le_of_ble_eq_true hn)
theorem op_alloc {t : TypeId} {z : Value} {vs : List Value} (hz : zeroB P t = some z) (hv : z.cells = vs.toArray) (hn : Nat.blt d n = true) :
    OpX P E n D ⟨some d, .alloc t, ty, pos, aft, g⟩ φ Ps fun a w => ∃ b : Nat, True ∧ Sat E n D ((d, .pointer (some ⟨b, 0, none⟩)) :: φ) (Blk b (.cells vs.toArray t (0, 0)) :: Ps) a w := fun a w K Q s k => by
  unfold Oper.wp
  have h0 := run_zeroValue (P := P) w hz
  have : (execOp a.eval ⟨some d, .alloc t, ty, pos, aft, g⟩).run P w = .ok (.value (.pointer (some ⟨w.heap.size, 0, none⟩))) (w.alloc (.cells vs.toArray t (0, 0))) := by
    simp [execOp, Instr.alloc, h0, newVar, newRow, hv]
  rw [this]
  exact k _ _ ⟨_, trivial, put_new s _ _ hn⟩
theorem op_box {t : TypeId} {vs : List Value} (hx : ev φ x = some v) (hv : v.cells = vs.toArray) (hn : Nat.blt d n = true) :
    OpX P E n D ⟨some d, .box t x, ty, pos, aft, g⟩ φ Ps fun a w => ∃ b : Nat, True ∧ Sat E n D ((d, .pointer (some ⟨b, 0, none⟩)) :: φ) (Blk b (.cells vs.toArray t (0, 0)) :: Ps) a w := fun a w K Q s k => by
  unfold Oper.wp
  have : (execOp a.eval ⟨some d, .box t x, ty, pos, aft, g⟩).run P w = .ok (.value (.pointer (some ⟨w.heap.size, 0, none⟩))) (w.alloc (.cells vs.toArray t (0, 0))) := by
    simp [execOp, s.ev hx, Instr.box, newVar, newRow, hv]
  rw [this]
  exact k _ _ ⟨_, trivial, put_new s _ _ hn⟩
theorem op_makeMap {t : TypeId} (hn : Nat.blt d n = true) :
    OpX P E n D ⟨some d, .makeMap t none, ty, pos, aft, g⟩ φ Ps fun a w => ∃ b : Nat, True ∧ Sat E n D ((d, .map (some b)) :: φ) (Blk b (.map #[] 0) :: Ps) a w := fun a w K Q s k => by
  unfold Oper.wp
  have : (execOp a.eval ⟨some d, .makeMap t none, ty, pos, aft, g⟩).run P w = .ok (.value (.map (some w.heap.size))) (w.alloc (.map #[] 0)) := by
    simp [execOp, Instr.makeMap]
  rw [this]
  exact k _ _ ⟨_, trivial, put_new s _ _ hn⟩
theorem op_buildSlice {t e : TypeId} {len : Nat} {ps : Array (Nat × Operand)} {qs : List (Nat × Value)} {vs : List Value} (hp : (ps.toList.map fun p => (ev φ p.2).map fun v => (p.1, v)) = qs.map some) (hb : sliceB P t len qs = some (e, vs))
    (hn : Nat.blt d n = true) :
    OpX P E n D ⟨some d, .buildSlice t len ps, ty, pos, aft, g⟩ φ Ps fun a w => ∃ b : Nat, True ∧ Sat E n D ((d, .slice (some ⟨b, 0, none⟩) len len) :: φ) (Blk b (.cells vs.toArray e (0, 0)) :: Ps) a w := fun a w K Q s k => by
  have e1 : (ps.map fun (i, x) => (i, a.eval x)) = qs.toArray := by
    have := ev_parts s.ag hp
    rw [← this, ← Array.toList_inj]
    simp
  unfold Oper.wp
  have : (execOp a.eval ⟨some d, .buildSlice t len ps, ty, pos, aft, g⟩).run P w = .ok (.value (.slice (some ⟨w.heap.size, 0, none⟩) len len)) (w.alloc (.cells vs.toArray e (0, 0))) := by
    simp only [execOp]
    rw [e1]
    simp [run_buildSlice (P := P) w (ps := qs.toArray) hb]
  rw [this]
  exact k _ _ ⟨_, trivial, put_new s _ _ hn⟩

/-! ### Stores -/
theorem op_store {t : TypeId} {k b i : Nat} {l vs l' : List Value} {bt : TypeId} (j : Nat) (hj : Ps[j]? = some (Blk b (.cells l.toArray bt (0, 0)))) (hx : ev φ x = some (.pointer (some ⟨b, i, none⟩))) (hy : ev φ y = some v)
    (hk : sizeB P t = some k) (hv : v.cells = vs.toArray) (hl : vs.length = k) (h1 : (vs.all fun u => u.oneCell') = true) (hr : Nat.ble (i + k) l.length = true) (he : lay l i vs = l') :
    OpX P E n D ⟨none, .store t x y, ty, pos, aft, g⟩ φ Ps (Sat E n D φ (Blk b (.cells l'.toArray bt (0, 0)) :: Ps.eraseIdx j)) := fun a w K Q s kk => by
  subst he
  have H := s.hp.get j hj
  obtain ⟨w', r, hb, ho, hs⟩ := run_storeAt (P := P) hk H.blk hv hl (fun u hu => List.all_eq_true.1 h1 u hu) (Nat.le_of_ble_eq_true hr)
  unfold Oper.wp
  have : (execOp a.eval ⟨none, .store t x y, ty, pos, aft, g⟩).run P w = .ok .skip w' := by
    simp only [execOp, s.ev hx, s.ev hy]
    simp [r]
  rw [this]
  exact kk _ _ (s.world hs (H.set hb ho))

/-! ### Places -/
theorem op_indexAddr {dst : Option Tmp} {t e : TypeId} {sz b o o' len cap : Nat} {k : IntKind} {i : Int} (hx : ev φ x = some (.slice (some ⟨b, o, none⟩) len cap)) (hy : ev φ y = some (.int k i)) (ht : elemB P t = some e)
    (hs : sizeB P e = some sz) (h0 : 0 ≤ i) (h1 : i < len) (ho : o + i.toNat * sz = o') : OpR P ⟨dst, .indexAddr t x y, ty, pos, aft, g⟩ φ Cs (.pointer (some ⟨b, o', none⟩)) := fun a w s H => by
  have hu := run_underlying (und_elem ht) w
  have hz := run_sizeOf (P := P) w hs
  simp only [execOp, s.ev hx, s.ev hy]
  simp [Instr.indexAt, asIntOf, hu, hz, h0, h1, Addr.add]
  split
  · rename_i q; rw [← ho, q]; simp
  · rw [← ho]
theorem op_indexArr {dst : Option Tmp} {t e : TypeId} {sz b o o' len : Nat} {k : IntKind} {i : Int} (hx : ev φ x = some (.pointer (some ⟨b, o, none⟩))) (hy : ev φ y = some (.int k i)) (ht : arrB P t = some (len, e))
    (hs : sizeB P e = some sz) (h0 : 0 ≤ i) (h1 : i < len) (ho : o + i.toNat * sz = o') : OpR P ⟨dst, .indexAddr t x y, ty, pos, aft, g⟩ φ Cs (.pointer (some ⟨b, o', none⟩)) := fun a w s H => by
  have hu := run_underlying (und_arr ht) w
  have hz := run_sizeOf (P := P) w hs
  simp only [execOp, s.ev hx, s.ev hy]
  simp [Instr.indexAt, asIntOf, hu, hz, h0, h1, Addr.add, Instr.sureAddr]
  split
  · rename_i q; rw [← ho, q]; simp
  · rw [← ho]

/-! ### Calls -/
theorem run_callFunc {f : Nat} {args : Array Value} (w : World) (h : callB P f = true) : (callFunc f args).run P w = .ok (.enter f args) w := by
  unfold callB at h
  split at h
  · rename_i fn hf
    rw [Bool.and_eq_true] at h
    have hn : fn.body.isNone = false := by cases hb : fn.body <;> simp_all
    have hm : (fn.name == "runtime.NumGoroutine") = false := by simpa using h.1
    simp only [callFunc, Sem.run_bind, run_program, Result.andThen_ok, hf, hm, hn, Bool.false_eq_true, if_false, Sem.run_pure]
  · cases h
theorem calls_op {f : Nat} {o : Oper} {vs : List Value} {pre : List HP} {X : Type} {r : X → Value} {pr : X → Prop} {ch : X → List HP} {Rs : List HP} (T : Tri P f vs.toArray pre r pr ch) (ks : List Nat) (hp : pick Ps ks = pre ++ Rs)
    (hd : o.dst = some d) (hn : Nat.blt d n = true) (he : ∀ a w, Sat E n D φ Ps a w → (execOp a.eval o).run P w = .ok (.enter f vs.toArray) w) :
    OpX P E n D o φ Ps fun a w => ∃ x, pr x ∧ Sat E n D ((d, r x) :: φ) (ch x ++ Rs) a w := fun a w K Q s k => by
  unfold Oper.wp
  rw [he a w s]
  have H := s.hp.pick ks
  rw [hp] at H
  have H' : Holds w (pre ++ [Star Rs]) := by
    refine (Holds.mkStar (Qs := Rs) (Ps := pre) (H.perm ?_)).perm ?_
    · exact List.perm_append_comm
    · exact (List.perm_append_comm (l₁ := [Star Rs]) (l₂ := pre))
  refine (T (Star Rs) w H').mono ?_
  rintro e w' ⟨x, rfl, hx, hs, hh⟩
  show K (a.put o.dst (r x)) w'
  rw [hd]
  refine k _ _ ⟨x, hx, (s.world hs ?_).put _ (Nat.le_of_ble_eq_true hn)⟩
  have : Holds w' (Star Rs :: ch x) := hh.perm List.perm_append_comm
  exact this.star.perm List.perm_append_comm
theorem op_call {f : Nat} {xs : Array Operand} {ts : Array TypeId} {vs : List Value} {pre : List HP} {X : Type} {r : X → Value} {pr : X → Prop} {ch : X → List HP} {Rs : List HP} (hc : callB P f = true)
    (T : Tri P f vs.toArray pre r pr ch) (hv : xs.toList.map (ev φ) = vs.map some) (ks : List Nat) (hp : pick Ps ks = pre ++ Rs) (hn : Nat.blt d n = true) :
    OpX P E n D ⟨some d, .call ⟨.value (.func f), xs, ts⟩, ty, pos, aft, g⟩ φ Ps fun a w => ∃ x, pr x ∧ Sat E n D ((d, r x) :: φ) (ch x ++ Rs) a w :=
  calls_op T ks hp rfl hn fun a w s => by
    have e : xs.map a.eval = vs.toArray := by
      rw [← Array.toList_inj, Array.toList_map, ev_list s.ag hv]
    simp only [execOp, resolve, Act.eval, Deferred.ofValue]
    simp [invoke, e, run_callFunc w hc]
theorem op_callv {f : Nat} {cv : Operand} {first capt : List Value} {xs : Array Operand} {ts : Array TypeId} {us vs : List Value} {pre : List HP} {X : Type} {r : X → Value} {pr : X → Prop} {ch : X → List HP} {Rs : List HP} (hc : callB P f = true)
    (hf : ev φ cv = some (.func (.func f) first.toArray capt.toArray)) (hv : xs.toList.map (ev φ) = us.map some) (hvs : first ++ us ++ capt = vs) (T : Tri P f vs.toArray pre r pr ch) (ks : List Nat) (hp : pick Ps ks = pre ++ Rs) (hn : Nat.blt d n = true) :
    OpX P E n D ⟨some d, .call ⟨.value cv, xs, ts⟩, ty, pos, aft, g⟩ φ Ps fun a w => ∃ x, pr x ∧ Sat E n D ((d, r x) :: φ) (ch x ++ Rs) a w :=
  calls_op T ks hp rfl hn fun a w s => by
    have e : xs.map a.eval = us.toArray := by
      rw [← Array.toList_inj, Array.toList_map, ev_list s.ag hv]
    subst hvs
    simp only [execOp, resolve, s.ev hf, Deferred.ofValue]
    have := run_callFunc (P := P) (f := f) (args := (first ++ us ++ capt).toArray) w hc
    simp [invoke, e] at this ⊢
    exact this

/-! ### A function's begin and end -/
def ofArgs : Nat → List Value → Fr
  | _, [] => []
  | i, v :: vs => (i, v) :: ofArgs (i + 1) vs
theorem ofArgs_lookup : ∀ (l : List Value) (i j : Nat) (v : Value), List.lookup j (ofArgs i l) = some v → ∃ k, j = i + k ∧ l[k]? = some v
  | [], _, _, _, h => by cases h
  | u :: l, i, j, v, h => by
    by_cases hj : j = i
    · subst hj
      have : v = u := by simpa [ofArgs, List.lookup] using h.symm
      subst this
      exact ⟨0, rfl, rfl⟩
    · have hb : (j == i) = false := by simpa using hj
      obtain ⟨k, hk, e⟩ := ofArgs_lookup l (i + 1) j v (by simpa [ofArgs, List.lookup, hb] using h)
      exact ⟨k + 1, by omega, by simpa using e⟩
/-- What a body owes at its end. -/
def Post (P : Program) (fn : Func) (E : World) {X : Type} (r : X → Value) (pr : X → Prop) (ch : X → List HP) (R : HP) : Exit → Act → World → Prop :=
  bodyPost P fn fun e w' => ∃ x, e = .returned (r x) ∧ pr x ∧ SameEnv E w' ∧ Holds w' (ch x ++ [R])
theorem tri_intro {f : Nat} {fn : Func} {c : Code} {vs : List Value} {n : Nat} {pre : List HP} {X : Type} {r : X → Value} {pr : X → Prop} {ch : X → List HP} (hf : P.funcs[f]? = some fn) (hb : fn.body = some c) (hn : fn.ntmps = n)
    (hs : Nat.ble vs.length n = true) (h : ∀ (R : HP) (E : World), Dn E n [] (c.wp P (Post P fn E r pr ch R)) (ofArgs 0 vs) (pre ++ [R])) : Tri P f vs.toArray pre r pr ch := fun R w H => by
  refine calls_of_wp hf hb (h R w _ _ ⟨?_, ?_, rfl, SameEnv.refl w, H⟩)
  · have := Nat.le_of_ble_eq_true hs
    simp [hn]; omega
  · intro i v e
    obtain ⟨k, rfl, e'⟩ := ofArgs_lookup vs 0 i v e
    have hk : k < vs.length := (List.getElem?_eq_some_iff.1 e').1
    simp only [Nat.zero_add]
    rw [Array.getElem?_append_left (by simpa using hk)]
    simpa using e'
/-- The values of results. -/
def resOf (φ : Fr) : List ResultVar → Option (List Value)
  | [] => some []
  | .tmp t :: l => match List.lookup t φ, resOf φ l with
    | some v, some vs => some (v :: vs)
    | _, _ => none
  | _ => none
/-- One result's value, as the model has it. -/
def resF (tmps : Array Value) (x : ResultVar) : Sem Value := match x with
  | .tmp t => pure (tmps.getD t undef)
  | .cell a t => do loadVar t (← asAddr (tmps.getD a undef))
theorem run_results {a : Act} {w : World} (s : Sat E n D φ Ps a w) : ∀ {l : List ResultVar} {vs : List Value}, resOf φ l = some vs → (l.mapM (resF a.tmps)).run P w = .ok vs w
  | [], vs, h => by cases h; rfl
  | .tmp t :: l, vs, h => by
    unfold resOf at h
    split at h
    · rename_i v us h1 h2
      cases h
      have e : a.tmps.getD t undef = v := s.ev (x := .tmp t) h1
      have e' : (resF a.tmps (.tmp t)).run P w = .ok v w := by show (pure (a.tmps.getD t undef) : Sem Value).run P w = _; rw [e]; rfl
      rw [List.mapM_cons]
      simp only [Sem.run_bind, e', run_results s h2, Result.andThen_ok, Sem.run_pure]
    · cases h
  | .cell _ _ :: _, _, h => by cases h
def retOf : List Value → Value
  | [v] => v
  | vs => .tuple vs.toArray
/-- The end: the results, what is owed of them, and which parts are handed back. -/
theorem dn_end {e : Exit} {fn : Func} {E : World} {X : Type} {r : X → Value} {pr : X → Prop} {ch : X → List HP} {R : HP} {l : List ResultVar} {vs : List Value} (x : X) (hl : fn.results.toList = l) (hr : resOf φ l = some vs)
    (hv : retOf vs = r x) (hp : pr x) (ks : List Nat) {Rs : List HP} (hk : pick Ps ks = ch x ++ [R] ++ Rs) (he : e = .ret ∨ e = .normal) :
    Dn E n [] (Post P fn E r pr ch R e) φ Ps := fun a w s => by
  have H := s.hp.pick ks
  rw [hk] at H
  have hres : (results fn a.tmps).run P w = .ok (r x) w := by
    have h1 := run_results (P := P) s (l := fn.results.toList) (by rw [hl]; exact hr)
    have h2 : (fn.results.mapM (resF a.tmps)).run P w = .ok vs.toArray w := by
      rw [Array.mapM_eq_mapM_toList]
      simp only [Sem.run_map, h1, Result.andThen_ok]
    show (do let vs ← fn.results.mapM (resF a.tmps); pure (if h : vs.size = 1 then vs[0] else .tuple vs) : Sem Value).run P w = _
    simp only [Sem.run_bind, h2, Result.andThen_ok, Sem.run_pure, ← hv]
    congr 1
    match vs with
    | [] => rfl
    | [v] => rfl
    | _ :: _ :: _ => rfl
  have key : a.defers = [] ∧ ∃ v, (results fn a.tmps).run P w = .ok v w ∧ ∃ x, Ending.returned v = .returned (r x) ∧ pr x ∧ SameEnv E w ∧ Holds w (ch x ++ [R]) :=
    ⟨s.df, _, hres, x, rfl, hp, s.env, H.front⟩
  rcases he with rfl | rfl <;> exact key
end
end Go.Proofs.YtjfajpoknnifcaaGreat
