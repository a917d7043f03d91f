/- Slices whose address is a name: read-only ones, one's own; their elements in place. No condition. -/
import Derived.Test.YtjfajpoknnifcaaGreatRest
namespace Go.Proofs.YtjfajpoknnifcaaGreat
open Go

/-- A pointer into what a slice leads to. -/
abbrev pAt (a : Option Addr) (k : Nat) : Value := .pointer (a.map (·.add k))
/-- It leads somewhere. -/
def SomeA (a : Option Addr) : Prop := ∃ b o, a = some ⟨b, o, none⟩
theorem add_none (b o k : Nat) : (⟨b, o, none⟩ : Addr).add k = ⟨b, o + k, none⟩ := by
  simp only [Addr.add]
  split
  · rename_i h; subst h; rfl
  · rfl
/-- A slice that is only read: its cells. -/
def RoS (a : Option Addr) (cs : List Value) : HP :=
  ⟨fun r h => h = Frag.nil ∧ ∀ j v, cs[j]? = some v → ∃ b o arr ty fr, a = some ⟨b, o, none⟩ ∧ r b = some (.cells arr ty fr) ∧ arr[o + j]? = some v,
    fun hr ⟨h1, h2⟩ => ⟨h1, fun j v e => by obtain ⟨b, o, arr, ty, fr, p, q, s⟩ := h2 j v e; exact ⟨b, o, arr, ty, fr, p, hr _ _ q, s⟩⟩⟩

section
variable {w : World} {a : Option Addr} {cs : List Value} {Ps : List HP} {e : TypeId} {sz n cap : Nat}
theorem Holds.roS (H : Holds w (RoS a cs :: Ps)) {j : Nat} {v : Value} (h : cs[j]? = some v) : ∃ b o, a = some ⟨b, o, none⟩ ∧ w.cell? ⟨b, o + j, none⟩ = some v := by
  obtain ⟨r, h', x, _, _, h1, h2, s, ⟨_, q⟩, _⟩ := H
  obtain ⟨b, o, arr, ty, fr, p, hb, hj⟩ := q j v h
  exact ⟨b, o, p, by simp [World.cell?, x b _ hb, hj]⟩
theorem Holds.roSome (H : Holds w (RoS a cs :: Ps)) (h : 0 < cs.length) : SomeA a := by
  obtain ⟨b, o, e, _⟩ := H.roS (j := 0) (List.getElem?_eq_getElem h)
  exact ⟨b, o, e⟩
theorem Holds.roDup (H : Holds w (RoS a cs :: Ps)) : Holds w (RoS a cs :: RoS a cs :: Ps) := by
  refine H.imp fun r h ⟨h1, h2, s, ⟨e, e'⟩, d⟩ => ?_
  subst e
  exact ⟨Frag.nil, h, Split.nil_left h, ⟨rfl, e'⟩, Frag.nil, h2, s, ⟨rfl, e'⟩, d⟩
theorem Holds.ownSome (H : Holds w (OwnS e sz a n cap cs :: Ps)) (h : 0 < n) : SomeA a := by
  obtain ⟨b, sp, ha, _⟩ := H.ownOpen' h
  exact ⟨b, 0, ha⟩
theorem Holds.ownBlk (H : Holds w (OwnS e sz a n cap cs :: Ps)) (h : 0 < n) : ∃ b sp, a = some ⟨b, 0, none⟩ ∧ w.heap[b]? = some (.cells (cs ++ sp).toArray e (0, 0)) := by
  obtain ⟨b, sp, ha, _, _, _, q⟩ := H.ownOpen' h
  exact ⟨b, sp, ha, q.blk⟩
end

section
variable {P : Program} {E : World} {n : Nat} {D : List Deferred} {φ : Fr} {Ps Qs : List HP} {d : Nat} {v : Value}
variable {dst : Option Tmp} {ty : TypeId} {pos : String} {aft : Array Edge} {g : Option (Nat × Bool)} {Cs : List HP} {x y : Operand} {t t' : TypeId}
theorem op_indexS {e : TypeId} {a : Option Addr} {len cap sz k : Nat} {kk : IntKind} {i : Int} (ha : SomeA a) (hx : ev φ x = some (.slice a len cap)) (hy : ev φ y = some (.int kk i)) (ht : elemB P t = some e)
    (hs : sizeB P e = some sz) (h0 : 0 ≤ i) (h1 : i < len) (ho : i.toNat * sz = k) : OpR P ⟨dst, .indexAddr t x y, ty, pos, aft, g⟩ φ Cs (pAt a k) := fun ac w s H => by
  obtain ⟨b, o, rfl⟩ := ha
  subst ho
  have hu := run_underlying (und_elem ht) w
  have hz := run_sizeOf (P := P) w hs
  simp only [execOp, s.ev hx, s.ev hy]
  simp [Instr.indexAt, asIntOf, hu, hz, h0, h1]
theorem op_fieldS {a : Option Addr} {f off sz k k' : Nat} (ha : SomeA a) (hx : ev φ x = some (pAt a k)) (hf : fieldB P t f = some (off, sz)) (hk : k + off = k') : OpR P ⟨dst, .fieldAddr t x f, ty, pos, aft, g⟩ φ Cs (pAt a k') := fun ac w s H => by
  obtain ⟨b, o, rfl⟩ := ha
  subst hk
  have hx' : ev φ x = some (.pointer (some ⟨b, o + k, none⟩)) := by rw [hx]; simp [add_none]
  have := op_fieldAddr (P := P) (dst := dst) (ty := ty) (pos := pos) (aft := aft) (g := g) (Cs := Cs) hx' hf (i' := o + (k + off)) (by omega) ac w s H
  simpa [pAt, add_none] using this
theorem op_nilCheckS {a : Option Addr} {k : Nat} (ha : SomeA a) (hx : ev φ x = some (pAt a k)) : OpR P ⟨dst, .nilCheck x, ty, pos, aft, g⟩ φ Cs (pAt a k) := fun ac w s H => by
  obtain ⟨b, o, rfl⟩ := ha
  simp only [execOp, s.ev hx]
  rfl
theorem load_at {w : World} {b o : Nat} (ha : aggB P t = some false) (h : w.cell? ⟨b, o, none⟩ = some v) : (Instr.loadAt t (.pointer (some ⟨b, o, none⟩))).run P w = .ok v w := by
  have := run_isAgg (P := P) w ha
  simp [Instr.loadAt, Instr.sureAddr, loadVar, this, h]
theorem load_atN {w : World} {b o k : Nat} {vs : List Value} (ha : aggB P t = some true) (hk : sizeB P t = some k) (hl : vs.length = k) (h : ∀ j u, vs[j]? = some u → w.cell? ⟨b, o + j, none⟩ = some u) :
    (Instr.loadAt t (.pointer (some ⟨b, o, none⟩))).run P w = .ok (.agg vs.toArray) w := by
  have h1 := run_isAgg (P := P) w ha
  have h2 := run_sizeOf (P := P) w hk
  have h3 : (loadCells ⟨b, o, none⟩ vs.length).run P w = .ok vs.toArray w := run_loadCells_list w _ _ fun j u hj => by rw [add_none]; exact h j u hj
  rw [hl] at h3
  simp [Instr.loadAt, Instr.sureAddr, loadVar, h1, h2, h3]
theorem take_get {cs vs : List Value} {i k : Nat} (hv : (cs.drop i).take k = vs) {j : Nat} {u : Value} (h : vs[j]? = some u) : cs[i + j]? = some u := by
  subst hv
  have hj : j < k := by
    have := (List.getElem?_eq_some_iff.1 h).1
    simp at this; omega
  rw [List.getElem?_take_of_lt hj, List.getElem?_drop] at h
  exact h
/-! Reading a slice that is only read. -/
theorem op_loadS {a : Option Addr} {cs : List Value} {k : Nat} (hx : ev φ x = some (pAt a k)) (ha : aggB P t = some false) (hv : cs[k]? = some v) : OpR P ⟨dst, .load t x, ty, pos, aft, g⟩ φ [RoS a cs] v := fun ac w s H => by
  obtain ⟨b, o, rfl, hc⟩ := H.roS hv
  simp only [execOp, s.ev hx]
  simp [pAt, add_none, load_at (P := P) ha hc]
theorem op_loadSN {a : Option Addr} {cs vs : List Value} {k m : Nat} (hx : ev φ x = some (pAt a k)) (ha : aggB P t = some true) (hk : sizeB P t = some m) (hv : (cs.drop k).take m = vs) (hl : vs.length = m) (hm : Nat.blt 0 m = true) :
    OpR P ⟨dst, .load t x, ty, pos, aft, g⟩ φ [RoS a cs] (.agg vs.toArray) := fun ac w s H => by
  have h0 : 0 < vs.length := by rw [hl]; exact Nat.le_of_ble_eq_true hm
  obtain ⟨b, o, rfl, _⟩ := H.roS (take_get hv (List.getElem?_eq_getElem h0))
  have := load_atN (P := P) (w := w) (b := b) (o := o + k) ha hk hl fun j u hj => by
    obtain ⟨b', o', e, hc⟩ := H.roS (take_get hv hj)
    cases e
    rw [Nat.add_assoc]; exact hc
  simp only [execOp, s.ev hx]
  simp [pAt, add_none, this]
/-! One's own slice, in place. -/
theorem op_loadO {a : Option Addr} {cs : List Value} {e : TypeId} {sz m cap k : Nat} (hx : ev φ x = some (pAt a k)) (ha : aggB P t = some false) (hm : 0 < m) (hv : cs[k]? = some v) : OpR P ⟨dst, .load t x, ty, pos, aft, g⟩ φ [OwnS e sz a m cap cs] v := fun ac w s H => by
  obtain ⟨b, sp, rfl, hb⟩ := H.ownBlk hm
  have hlt : k < cs.length := (List.getElem?_eq_some_iff.1 hv).1
  have hc : w.cell? ⟨b, k, none⟩ = some v := cell_of hb (by rw [List.getElem?_append_left hlt]; exact hv)
  simp only [execOp, s.ev hx]
  simp [pAt, add_none, load_at (P := P) ha hc]
theorem op_loadON {a : Option Addr} {cs vs : List Value} {e : TypeId} {sz m cap k q : Nat} (hx : ev φ x = some (pAt a k)) (ha : aggB P t = some true) (hk : sizeB P t = some q) (hm : 0 < m) (hv : (cs.drop k).take q = vs) (hl : vs.length = q) :
    OpR P ⟨dst, .load t x, ty, pos, aft, g⟩ φ [OwnS e sz a m cap cs] (.agg vs.toArray) := fun ac w s H => by
  obtain ⟨b, sp, rfl, hb⟩ := H.ownBlk hm
  have := load_atN (P := P) (w := w) (b := b) (o := k) ha hk hl fun j u hj => by
    have h2 := take_get hv hj
    have hlt : k + j < cs.length := (List.getElem?_eq_some_iff.1 h2).1
    exact cell_of hb (by rw [List.getElem?_append_left hlt]; exact h2)
  simp only [execOp, s.ev hx]
  simp [pAt, add_none, this]
theorem lay_app {l sp vs : List Value} {k : Nat} (h : k + vs.length ≤ l.length) : lay (l ++ sp) k vs = lay l k vs ++ sp := by
  simp only [lay]
  rw [List.take_append_of_le_length (by omega), List.drop_append_of_le_length h]
  simp
theorem op_storeO {a : Option Addr} {cs vs cs' : List Value} {e : TypeId} {sz m cap k q : Nat} (j : Nat) (hj : Ps[j]? = some (OwnS e sz a m cap cs)) (hx : ev φ x = some (pAt a k)) (hy : ev φ y = some v) (hk : sizeB P t = some q) (hv : v.cells = vs.toArray)
    (hl : vs.length = q) (h1 : (vs.all fun u => u.oneCell') = true) (hm : 0 < m) (hr : k + q ≤ m * sz) (he : lay cs k vs = cs') :
    OpX P E n D ⟨none, .store t x y, ty, pos, aft, g⟩ φ Ps (Sat E n D φ (OwnS e sz a m cap cs' :: Ps.eraseIdx j)) := fun ac w K Q s kk => by
  subst he
  have H := s.hp.get j hj
  have hlen := H.ownLen
  obtain ⟨b, sp, rfl, h2, h3, h4, hB⟩ := H.ownOpen' hm
  have hr' : k + q ≤ (cs ++ sp).length := by rw [List.length_append]; omega
  obtain ⟨w', r, hb, ho, hs⟩ := run_storeAt (P := P) (o := k) hk hB.blk hv hl (fun u hu => List.all_eq_true.1 h1 u hu) hr'
  unfold Oper.wp
  have hrun : (execOp ac.eval ⟨none, .store t x y, ty, pos, aft, g⟩).run P w = .ok .skip w' := by
    simp only [execOp, s.ev hx, s.ev hy]
    simp [pAt, add_none, r]
  rw [hrun]
  have h5 := hB.set hb ho
  have hll : k + vs.length ≤ cs.length := by rw [hl, hlen]; exact hr
  rw [lay_app hll] at h5
  have h6 : (lay cs k vs ++ sp).length = cap * sz := by rw [← h4, List.length_append, List.length_append, lay_length hll]
  have h7 := h5.ownShut h6 h2 h3
  have h8 : (lay cs k vs ++ sp).take (m * sz) = lay cs k vs := takeAll _ _ (by rw [lay_length hll]; exact hlen)
  rw [h8] at h7
  exact kk _ _ (s.world hs h7)

/-- A slot's value, said otherwise. -/
theorem dn_slot {G : Act → World → Prop} {u : Value} (i : Nat) (hv : List.lookup i φ = some v) (e : v = u) (k : Dn E n D G ((i, u) :: φ) Ps) : Dn E n D G φ Ps := fun ac w s => k ac w ⟨s.size, fun j w' q => by
  subst e
  by_cases hj : j = i
  · subst hj
    have : w' = v := by simpa [List.lookup] using q.symm
    subst this
    exact s.ag _ _ hv
  · have hb : (j == i) = false := by simpa using hj
    exact s.ag j w' (by simpa [List.lookup, hb] using q), s.df, s.env, s.hp⟩

/-! ### Facts that parts tell -/
theorem dn_roSome {G : Act → World → Prop} {a : Option Addr} {cs : List Value} (i : Nat) (hi : Ps[i]? = some (RoS a cs)) (h : 0 < cs.length) (k : SomeA a → Dn E n D G φ Ps) : Dn E n D G φ Ps := dn_fact (fun _ H => (holds_one hi H).roSome h) k
theorem dn_ownSome {G : Act → World → Prop} {a : Option Addr} {cs : List Value} {e : TypeId} {sz m cap : Nat} (i : Nat) (hi : Ps[i]? = some (OwnS e sz a m cap cs)) (h : 0 < m) (k : SomeA a → Dn E n D G φ Ps) : Dn E n D G φ Ps := dn_fact (fun _ H => (holds_one hi H).ownSome h) k
theorem dn_ownLen {G : Act → World → Prop} {a : Option Addr} {cs : List Value} {e : TypeId} {sz m cap : Nat} (i : Nat) (hi : Ps[i]? = some (OwnS e sz a m cap cs)) (k : cs.length = m * sz → m ≤ cap → cap ≤ maxLen → Dn E n D G φ Ps) : Dn E n D G φ Ps :=
  dn_fact (q := cs.length = m * sz ∧ m ≤ cap ∧ cap ≤ maxLen) (fun _ H => ⟨(holds_one hi H).ownLen, (holds_one hi H).ownCap⟩) fun ⟨h1, h2, h3⟩ => k h1 h2 h3
theorem dn_ownNil {G : Act → World → Prop} (e : TypeId) (sz : Nat) (k : Dn E n D G φ (OwnS e sz none 0 0 [] :: Ps)) : Dn E n D G φ Ps := dn_hold (fun _ H => H.ownNil e sz) k
theorem dn_ownOf {G : Act → World → Prop} {e : TypeId} {sz m b : Nat} {l : List Value} (hl : l.length = m * sz) (hm : m ≤ maxLen) (k : Dn E n D G φ (OwnS e sz (some ⟨b, 0, none⟩) m m l :: Ps)) : Dn E n D G φ (Blk b (.cells l.toArray e (0, 0)) :: Ps) := fun ac w s => by
  have := s.hp.ownShut hl (Nat.le_refl m) hm
  rw [← hl, List.take_length] at this
  exact k ac w ⟨s.size, s.ag, s.df, s.env, this⟩
end

/-! ### Cells of a list of things -/
section
variable {α : Type}
def flat (enc : α → List Value) (xs : List α) : List Value := (xs.map enc).flatten
variable {enc : α → List Value} {sz : Nat} (hsz : ∀ x, (enc x).length = sz)
theorem flat_nil : flat enc [] = [] := rfl
theorem flat_cons (x : α) (xs : List α) : flat enc (x :: xs) = enc x ++ flat enc xs := rfl
theorem flat_app (xs ys : List α) : flat enc (xs ++ ys) = flat enc xs ++ flat enc ys := by simp [flat]
theorem flat_one (x : α) : flat enc [x] = enc x := by simp [flat]
include hsz
theorem flat_len (xs : List α) : (flat enc xs).length = xs.length * sz := by
  induction xs with
  | nil => simp [flat]
  | cons x xs ih => rw [flat_cons, List.length_append, ih, hsz, List.length_cons, Nat.add_mul]; omega
theorem flat_part {xs : List α} {i : Nat} {x : α} (h : xs[i]? = some x) : ((flat enc xs).drop (i * sz)).take sz = enc x := by
  induction xs generalizing i with
  | nil => simp at h
  | cons y ys ih =>
    cases i with
    | zero =>
      simp at h
      subst h
      rw [flat_cons, Nat.zero_mul, List.drop_zero, ← hsz y, List.take_left' rfl]
    | succ i =>
      rw [flat_cons, Nat.add_mul, Nat.one_mul, Nat.add_comm (i * sz) sz]
      have : (enc y ++ flat enc ys).drop (sz + i * sz) = (flat enc ys).drop (i * sz) := by
        rw [← hsz y, List.drop_append]; simp
      rw [this]
      exact ih (by simpa using h)
theorem flat_cell {xs : List α} {i j k : Nat} {x : α} {v : Value} (h : xs[i]? = some x) (hj : (enc x)[j]? = some v) (hk : i * sz + j = k) : (flat enc xs)[k]? = some v := by
  subst hk
  exact take_get (flat_part hsz h) hj
theorem flat_set {xs : List α} {i : Nat} (y : α) (h : i < xs.length) : lay (flat enc xs) (i * sz) (enc y) = flat enc (xs.set i y) := by
  induction xs generalizing i with
  | nil => simp at h
  | cons z zs ih =>
    cases i with
    | zero =>
      simp only [lay, flat_cons, List.set_cons_zero, Nat.zero_mul, List.take_zero, List.nil_append, Nat.zero_add]
      rw [hsz y, ← hsz z, List.drop_left' rfl]
    | succ i =>
      simp only [List.set_cons_succ, flat_cons]
      rw [← ih (by simpa using h)]
      simp only [lay]
      have e1 : (i + 1) * sz = (enc z).length + i * sz := by rw [hsz, Nat.add_mul]; omega
      rw [e1, List.take_length_add_append, Nat.add_assoc, List.drop_length_add_append]
      simp
end
/-! ### More on appending -/
section
variable {P : Program} {E : World} {n : Nat} {D : List Deferred} {φ : Fr} {Ps Qs : List HP} {d : Nat} {v : Value}
variable {dst : Option Tmp} {ty : TypeId} {pos : String} {aft : Array Edge} {g : Option (Nat × Bool)} {Cs : List HP} {x y : Operand} {t t' : TypeId}
theorem op_buildSlice0 {e : TypeId} {sz : Nat} (ht : elemB P t = some e) (hs : sizeB P e = some sz) (hn : Nat.blt d n = true) :
    OpX P E n D ⟨some d, .buildSlice t 0 #[], ty, pos, aft, g⟩ φ Ps fun a w => ∃ b : Nat, True ∧ Sat E n D ((d, .slice (some ⟨b, 0, none⟩) 0 0) :: φ) (Blk b (.cells ([] : List Value).toArray e (0, 0)) :: Ps) a w := fun a w K Q s k => by
  unfold Oper.wp
  have h1 := run_underlying (und_elem ht) w
  have h2 := run_sizeOf (P := P) w hs
  have : (execOp a.eval ⟨some d, .buildSlice t 0 #[], ty, pos, aft, g⟩).run P w = .ok (.value (.slice (some ⟨w.heap.size, 0, none⟩) 0 0)) (w.alloc (.cells ([] : List Value).toArray e (0, 0))) := by
    have e0 : Array.map (fun _ => (default : Value)) (Array.range 0) = #[] := Array.eq_empty_of_size_eq_zero (by simp)
    simp [execOp, Instr.buildSlice, h1, h2, Instr.fill, newRow, e0]
  rw [this]
  exact k _ _ ⟨_, trivial, put_new s _ _ hn⟩
theorem fill_all : ∀ (l pre cs : List Value), cs.length = l.length → (l.zipIdx pre.length).foldl (fun (cs : Array Value) (p : Value × Nat) => cs.setIfInBounds p.2 p.1) (pre ++ cs).toArray = (pre ++ l).toArray
  | [], pre, cs, h => by
    have : cs = [] := List.eq_nil_of_length_eq_zero h
    subst this; rfl
  | v :: l, pre, [], h => by cases h
  | v :: l, pre, c :: cs, h => by
    rw [List.zipIdx_cons, List.foldl_cons]
    have e : (pre ++ c :: cs).toArray.setIfInBounds pre.length v = ((pre ++ [v]) ++ cs).toArray := by simp
    show List.foldl _ ((pre ++ c :: cs).toArray.setIfInBounds pre.length v) _ = _
    rw [e]
    have := fill_all l (pre ++ [v]) cs (by simpa using h)
    rw [List.length_append] at this
    simpa using this
/-- A slice of one element that is a whole. -/
theorem op_buildSlice1 {e : TypeId} {sz : Nat} {z : Value} {l : List Value} (ht : elemB P t = some e) (hs : sizeB P e = some sz) (hz : zeroB P e = some z) (hx : ev φ x = some (.agg l.toArray)) (hl : l.length = sz) (h0 : Nat.blt 0 sz = true) (hb : Nat.ble sz (2 ^ 24) = true) (hn : Nat.blt d n = true) :
    OpX P E n D ⟨some d, .buildSlice t 1 #[(0, x)], ty, pos, aft, g⟩ φ Ps fun a w => ∃ b : Nat, True ∧ Sat E n D ((d, .slice (some ⟨b, 0, none⟩) 1 1) :: φ) (Blk b (.cells l.toArray e (0, 0)) :: Ps) a w := by
  have hf : Instr.fill (fun i => some (i * sz, sz)) ((Array.range (1 * sz)).map (z.cells[· % z.cells.size]!)) [(0, .agg l.toArray)] = some l.toArray := by
    simp only [Instr.fill, Value.cells, List.size_toArray, hl]
    rw [if_neg (by simp)]
    have := fill_all l [] (((Array.range (1 * sz)).map (z.cells[· % z.cells.size]!)).toList) (by simp [hl])
    simp only [List.nil_append, List.length_nil, Array.toArray_toList] at this
    simp only [Nat.zero_mul, Nat.zero_add]
    refine congrArg some (Eq.trans ?_ this)
    rw [← Array.foldl_toList]
    simp
    rfl
  refine op_buildSlice (vs := l) (qs := [(0, .agg l.toArray)]) (by simp [hx]) ?_ hn
  have h1 : ¬ (1 * sz > 2 ^ 24 ∨ 1 * sz = 0) := by
    have := Nat.le_of_ble_eq_true hb
    have := Nat.le_of_ble_eq_true h0
    omega
  simp only [sliceB, ht, hs, if_neg h1, hz]
  rw [hf]
  rfl
theorem op_append00 {e : TypeId} {sz : Nat} {a a' : Option Addr} {k cap c' : Nat} (hx : ev φ x = some (.slice a k cap)) (hy : ev φ y = some (.slice a' 0 c')) (ht : elemB P t = some e) (hs : sizeB P e = some sz) (hc : k ≤ cap) {Cs : List HP} :
    OpR P ⟨dst, .call ⟨.builtin .append, #[x, y], #[t, t]⟩, ty, pos, aft, g⟩ φ Cs (.slice a k cap) := fun a0 w s H => by
  have hu := run_underlying (und_elem ht) w
  have hz := run_sizeOf (P := P) w hs
  have hst : ∀ x : Addr, (storeCells x [] 0).run P w = .ok () w := fun _ => rfl
  show ((do let d ← resolve a0.eval ⟨.builtin .append, #[x, y], #[t, t]⟩ ty; invoke d.target d.args) : Sem Next).run P w = _
  cases a with
  | none => cases a' <;> simp [resolve, invoke, builtin, s.ev hx, s.ev hy, Builtin.append_, hu, hz, Builtin.lenOf, Builtin.firstCells, hc, loadCells, loadCellsFrom]
  | some x => cases a' <;> simp [resolve, invoke, builtin, s.ev hx, s.ev hy, Builtin.append_, hu, hz, Builtin.lenOf, Builtin.firstCells, hc, storeCells, loadCells, loadCellsFrom]
/-- append of whatever slice, to one of one's own. -/
theorem op_appendG {e : TypeId} {sz bytes : Nat} {z : Value} {a a' : Option Addr} {k cap m c : Nat} {cs news : List Value} (ks : List Nat) (hp : pick Ps ks = OwnS e sz a k cap cs :: Qs) (hx : ev φ x = some (.slice a k cap)) (hy : ev φ y = some (.slice a' m c))
    (ht : elemB P t = some e) (hs : sizeB P e = some sz) (hz : zeroB P e = some z) (hby : bytesB P e = some bytes) (hzs : z.cells.size = sz) (hsz : Nat.blt 0 sz = true) (hl : news.length = m * sz)
    (hnews : ∀ w, Holds w Ps → ∀ j u, news[j]? = some u → ∃ b o, a' = some ⟨b, o, none⟩ ∧ w.cell? ⟨b, o + j, none⟩ = some u) (h1 : ∀ u ∈ news, u.oneCell' = true) (h63 : k + m ≤ maxLen) (hb : (k + m) * bytes ≤ 140737488355328) {k' : Nat} (hk' : k + m = k') (hn : Nat.blt d n = true) :
    OpX P E n D ⟨some d, .call ⟨.builtin .append, #[x, y], #[t, t]⟩, ty, pos, aft, g⟩ φ Ps fun a w => ∃ p : Option Addr × Nat, True ∧ Sat E n D ((d, .slice p.1 k' p.2) :: φ) (OwnS e sz p.1 k' p.2 (cs ++ news) :: Qs) a w := fun a0 w K Q s kk => by
  have hsz' : 0 < sz := Nat.le_of_ble_eq_true hsz
  by_cases hm : m = 0
  · subst hm
    have hnl : news = [] := List.eq_nil_of_length_eq_zero (by simpa using hl)
    subst hnl
    have H := s.hp.pick ks
    rw [hp] at H
    have hc := H.ownCap.1
    refine (op_append00 (P := P) (dst := some d) (ty := ty) (pos := pos) (aft := aft) (g := g) hx hy ht hs hc (Cs := [])).x rfl hn (fun _ H => Holds.front (Ps := []) H) a0 w K Q s fun a1 w1 st => kk a1 w1 ⟨(a, cap), trivial, ?_⟩
    have hq : Holds w1 (pick Ps ks) := st.hp.pick ks
    rw [hp] at hq
    rw [← hk']
    exact ⟨st.size, st.ag, st.df, st.env, by simpa using hq⟩
  · have h0 : 0 < news.length := by rw [hl]; exact Nat.mul_pos (Nat.pos_of_ne_zero hm) hsz'
    obtain ⟨b, o, rfl, _⟩ := hnews w s.hp 0 _ (List.getElem?_eq_getElem h0)
    exact op_append (P := P) ks hp hx hy ht hs hz hby hzs hsz hl (fun w H j u q => by obtain ⟨b', o', e, h⟩ := hnews w H j u q; cases e; exact h) h1 h63 hb hk' hn a0 w K Q s kk
theorem news_ro {Ps : List HP} (i : Nat) {a : Option Addr} {cs : List Value} (hi : Ps[i]? = some (RoS a cs)) (w : World) (H : Holds w Ps) (j : Nat) (u : Value) (q : cs[j]? = some u) : ∃ b o, a = some ⟨b, o, none⟩ ∧ w.cell? ⟨b, o + j, none⟩ = some u := (holds_one hi H).roS q
theorem news_own {Ps : List HP} (i : Nat) {e : TypeId} {sz m cap : Nat} {a : Option Addr} {cs : List Value} (hi : Ps[i]? = some (OwnS e sz a m cap cs)) (w : World) (H : Holds w Ps) (j : Nat) (u : Value) (q : cs[j]? = some u) : ∃ b o, a = some ⟨b, o, none⟩ ∧ w.cell? ⟨b, o + j, none⟩ = some u := by
  have H1 := holds_one hi H
  have hlt : j < cs.length := (List.getElem?_eq_some_iff.1 q).1
  have hm : 0 < m := by
    have := H1.ownLen
    rcases Nat.eq_zero_or_pos m with h | h
    · rw [h] at this; omega
    · exact h
  obtain ⟨b, sp, ha, hb⟩ := H1.ownBlk hm
  refine ⟨b, 0, ha, ?_⟩
  rw [Nat.zero_add]
  exact cell_of hb (by rw [List.getElem?_append_left hlt]; exact q)
theorem news_blk {Ps : List HP} (i : Nat) {b : Nat} {l : List Value} {bt : TypeId} {fr : Nat × Nat} (hi : Ps[i]? = some (Blk b (.cells l.toArray bt fr))) (o : Nat) {news : List Value} (hn : (l.drop o).take news.length = news) (w : World) (H : Holds w Ps) (j : Nat) (u : Value) (q : news[j]? = some u) :
    ∃ b' o', some (⟨b, o, none⟩ : Addr) = some ⟨b', o', none⟩ ∧ w.cell? ⟨b', o' + j, none⟩ = some u := ⟨b, o, rfl, cellsAt (holds_one hi H).blk o news hn j u q⟩

/-! ### An element in place -/
theorem dn_roElem {G : Act → World → Prop} {α : Type} {enc : α → List Value} {sz : Nat} (hsz : ∀ x, (enc x).length = sz) (h0 : Nat.blt 0 sz = true) {a : Option Addr} {xs : List α} (j : Nat) (hj : Ps[j]? = some (RoS a (flat enc xs))) {i : Nat} {x : α} (hx : xs[i]? = some x)
    (k : SomeA a → Dn E n D G φ Ps) : Dn E n D G φ Ps := by
  refine dn_roSome j hj ?_ k
  have : 0 < xs.length := by have := (List.getElem?_eq_some_iff.1 hx).1; omega
  rw [flat_len hsz]
  exact Nat.mul_pos this (Nat.le_of_ble_eq_true h0)
end
end Go.Proofs.YtjfajpoknnifcaaGreat
