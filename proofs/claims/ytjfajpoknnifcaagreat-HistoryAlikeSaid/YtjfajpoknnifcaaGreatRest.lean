/- The rest of the rules: slices that are made, parts of values, results that lie in cells. No condition. -/
import Derived.Test.YtjfajpoknnifcaaGreatMore
import Derived.Laws.Cover3
namespace Go.Proofs.YtjfajpoknnifcaaGreat
open Go

/-- A field's type, and where it begins. -/
def fieldTB (P : Program) (s : TypeId) (f : Nat) : Option (TypeId × Nat) := match P.underlying s with
  | some (.struct fs) => (fs[f]?).map fun x => (x.type, x.offset)
  | _ => none
/-- The cells of a row that is made. -/
def madeL (z : List Value) (n : Nat) : List Value := (List.range n).map fun i => (z[i % z.length]?).getD undef

section
variable {P : Program} {E : World} {n : Nat} {D : List Deferred} {φ : Fr} {Ps Qs : List HP} {d : Nat} {v : Value}
variable {dst : Option Tmp} {ty : TypeId} {pos : String} {aft : Array Edge} {g : Option (Nat × Bool)} {Cs : List HP} {x y : Operand} {t t' : TypeId}
theorem madeL_eq {z : Value} {zs : List Value} (hz : z.cells = zs.toArray) (h0 : 0 < zs.length) (k : Nat) : madeCells z.cells k = (madeL zs k).toArray := by
  rw [← Array.toList_inj, hz]
  simp only [madeCells, madeL, Array.toList_map, Array.toList_range, List.size_toArray]
  apply List.map_congr_left
  intro i _
  have : i % zs.length < zs.length := Nat.mod_lt _ h0
  simp [this]
theorem madeL_one (v : Value) (k : Nat) : madeL [v] k = List.replicate k v := by
  apply List.ext_getElem
  · simp [madeL]
  · intro i h1 h2
    simp [madeL, Nat.mod_one]
theorem op_makeSlice {e : TypeId} {sz bytes len cap : Nat} {z : Value} {zs vs : List Value} {k k' : IntKind} (hx : ev φ x = some (.int k len)) (hy : ev φ y = some (.int k' cap)) (ht : elemB P t = some e) (hs : sizeB P e = some sz) (hz : zeroB P e = some z)
    (hby : bytesB P e = some bytes) (hzs : z.cells = zs.toArray) (h0 : Nat.blt 0 zs.length = true) (hl : len ≤ cap) (hb : bytes * cap ≤ 281474976710656) (h63 : cap ≤ maxLen) (hv : madeL zs (cap * sz) = vs) (hn : Nat.blt d n = true) :
    OpX P E n D ⟨some d, .makeSlice t x y, ty, pos, aft, g⟩ φ Ps fun a w => ∃ b : Nat, True ∧ Sat E n D ((d, .slice (some ⟨b, 0, none⟩) len cap) :: φ) (Blk b (.cells vs.toArray e (0, 0)) :: Ps) a w := fun a w K Q s kk => by
  subst hv
  unfold sizeB at hs
  unfold zeroB at hz
  unfold bytesB at hby
  cases hi : P.info? e with
  | none => rw [hi] at hs; cases hs
  | some i =>
    rw [hi] at hs hz hby
    simp at hs hz hby
    subst hs
    subst hby
    have h63' : (cap : Int) ≤ 9223372036854775807 := by simp only [maxLen] at h63; omega
    have hb' : (i.bytes : Int) * (cap : Int) ≤ 281474976710656 := by
      have h : ((i.bytes * cap : Nat) : Int) ≤ 281474976710656 := by omega
      rwa [Int.natCast_mul] at h
    have hr := run_make (P := P) w t e i z (und_elem ht) hi hz k k' len cap (by omega) (by omega) hb' h63'
    rw [madeL_eq hzs (Nat.le_of_ble_eq_true h0)] at hr
    simp only [Int.toNat_natCast] at hr
    unfold Oper.wp
    have : (execOp a.eval ⟨some d, .makeSlice t x y, ty, pos, aft, g⟩).run P w = .ok (.value (.slice (some ⟨w.heap.size, 0, none⟩) len cap)) (w.alloc (.cells (madeL zs (cap * i.size)).toArray e (0, 0))) := by
      simp only [execOp, s.ev hx, s.ev hy]
      simp [hr]
    rw [this]
    exact kk _ _ ⟨_, trivial, put_new s _ _ hn⟩

/-! ### Parts of values -/
theorem und_field {s : TypeId} {f : Nat} {ft : TypeId} {off : Nat} (h : fieldTB P s f = some (ft, off)) : ∃ fs x, P.underlying s = some (.struct fs) ∧ fs[f]? = some x ∧ x.type = ft ∧ x.offset = off := by
  unfold fieldTB at h
  split at h
  · rename_i fs e
    cases hx : fs[f]? with
    | none => rw [hx] at h; cases h
    | some x => rw [hx] at h; simp at h; exact ⟨fs, x, e, hx, h.1, h.2⟩
  · cases h
theorem run_part1 (w : World) {t : TypeId} {l : List Value} {o : Nat} (ha : aggB P t = some false) (hv : l[o]? = some v) : (part t l.toArray o).run P w = .ok v w := by
  have := run_isAgg (P := P) w ha
  simp [part, this, hv]
theorem run_partN (w : World) {t : TypeId} {l vs : List Value} {o k : Nat} (ha : aggB P t = some true) (hk : sizeB P t = some k) (hv : (l.drop o).take k = vs) : (part t l.toArray o).run P w = .ok (.agg vs.toArray) w := by
  have h1 := run_isAgg (P := P) w ha
  have h2 := run_sizeOf (P := P) w hk
  subst hv
  simp [part, h1, h2]
theorem op_field1 {s ft : TypeId} {f off : Nat} {l : List Value} (hx : ev φ x = some (.agg l.toArray)) (hf : fieldTB P s f = some (ft, off)) (ha : aggB P ft = some false) (hv : l[off]? = some v) : OpR P ⟨dst, .field s x f, ty, pos, aft, g⟩ φ Cs v := fun a w st H => by
  obtain ⟨fs, z, hu, hz, rfl, rfl⟩ := und_field hf
  have h1 := run_underlying hu w
  have h2 := run_part1 (P := P) w ha hv
  simp only [execOp, st.ev hx]
  simp [Instr.field, h1, hz, asAgg, h2]
theorem op_fieldN {s ft : TypeId} {f off k : Nat} {l vs : List Value} (hx : ev φ x = some (.agg l.toArray)) (hf : fieldTB P s f = some (ft, off)) (ha : aggB P ft = some true) (hk : sizeB P ft = some k) (hv : (l.drop off).take k = vs) :
    OpR P ⟨dst, .field s x f, ty, pos, aft, g⟩ φ Cs (.agg vs.toArray) := fun a w st H => by
  obtain ⟨fs, z, hu, hz, rfl, rfl⟩ := und_field hf
  have h1 := run_underlying hu w
  have h2 := run_partN (P := P) w ha hk hv
  simp only [execOp, st.ev hx]
  simp [Instr.field, h1, hz, asAgg, h2]
theorem op_index1 {e : TypeId} {len sz o : Nat} {l : List Value} {k : IntKind} {i : Int} (hx : ev φ x = some (.agg l.toArray)) (hy : ev φ y = some (.int k i)) (ht : arrB P t = some (len, e)) (hs : sizeB P e = some sz) (ha : aggB P e = some false) (h0 : 0 ≤ i) (h1 : i < len)
    (ho : i.toNat * sz = o) (hv : l[o]? = some v) : OpR P ⟨dst, .index t x y, ty, pos, aft, g⟩ φ Cs v := fun a w st H => by
  subst ho
  have hu := run_underlying (und_arr ht) w
  have hz := run_sizeOf (P := P) w hs
  have h2 := run_part1 (P := P) w ha hv
  simp only [execOp, st.ev hx, st.ev hy]
  simp [Instr.index, asIntOf, hu, hz, h0, h1, h2]
theorem op_indexN {e : TypeId} {len sz o : Nat} {l vs : List Value} {k : IntKind} {i : Int} (hx : ev φ x = some (.agg l.toArray)) (hy : ev φ y = some (.int k i)) (ht : arrB P t = some (len, e)) (hs : sizeB P e = some sz) (ha : aggB P e = some true) (h0 : 0 ≤ i) (h1 : i < len)
    (ho : i.toNat * sz = o) (hv : (l.drop o).take sz = vs) : OpR P ⟨dst, .index t x y, ty, pos, aft, g⟩ φ Cs (.agg vs.toArray) := fun a w st H => by
  subst ho
  have hu := run_underlying (und_arr ht) w
  have hz := run_sizeOf (P := P) w hs
  have h2 := run_partN (P := P) w ha hs hv
  simp only [execOp, st.ev hx, st.ev hy]
  simp [Instr.index, asIntOf, hu, hz, h0, h1, h2]
def strB (P : Program) (t : TypeId) : Bool := match P.underlying t with | some .string => true | _ => false
theorem op_indexStr {s : ByteArray} {k : IntKind} {i : Int} {c : Nat} {b : UInt8} (hx : ev φ x = some (.string s)) (hy : ev φ y = some (.int k i)) (ht : strB P t = true) (h0 : 0 ≤ i) (hb : s[i.toNat]? = some b) (hc : b.toNat = c) : OpR P ⟨dst, .index t x y, ty, pos, aft, g⟩ φ Cs (.int .u8 c) := fun a w st H => by
  subst hc
  unfold strB at ht
  split at ht
  · rename_i hu
    have h1 := run_underlying hu w
    simp only [execOp, st.ev hx, st.ev hy]
    simp [Instr.index, asIntOf, h1, h0, hb]
  · cases ht

/-! ### Slices and maps that are none -/
theorem op_slieql {a : Option Addr} {l c : Nat} {e : TypeId} {b : Bool} (hx : ev φ x = some (.slice a l c)) (hy : ev φ y = some (.slice none 0 0)) (ht : elemB P t = some e) (hb : a.isNone = b) : OpR P ⟨dst, .binOp .eql t x y t', ty, pos, aft, g⟩ φ Cs (.bool b) :=
  op_binv hx hy (fun _ => rfl) fun w => by have := run_equal_slice_nil (P := P) w t e a l c (und_elem ht); simp [binOp, this, hb]
theorem op_slineq {a : Option Addr} {l c : Nat} {e : TypeId} {b : Bool} (hx : ev φ x = some (.slice a l c)) (hy : ev φ y = some (.slice none 0 0)) (ht : elemB P t = some e) (hb : (!a.isNone) = b) : OpR P ⟨dst, .binOp .neq t x y t', ty, pos, aft, g⟩ φ Cs (.bool b) :=
  op_binv hx hy (fun _ => rfl) fun w => by have := run_equal_slice_nil (P := P) w t e a l c (und_elem ht); simp [binOp, this] at hb ⊢; exact hb
theorem op_mapeql {m : Option Nat} {kt e : TypeId} {b : Bool} (hx : ev φ x = some (.map m)) (hy : ev φ y = some (.map none)) (ht : mapB P t = some (kt, e)) (hb : m.isNone = b) : OpR P ⟨dst, .binOp .eql t x y t', ty, pos, aft, g⟩ φ Cs (.bool b) :=
  op_binv hx hy (fun _ => rfl) fun w => by have := run_equal_map_nil (P := P) w t kt e m (und_map ht); simp [binOp, this, hb]
theorem op_mapneq {m : Option Nat} {kt e : TypeId} {b : Bool} (hx : ev φ x = some (.map m)) (hy : ev φ y = some (.map none)) (ht : mapB P t = some (kt, e)) (hb : (!m.isNone) = b) : OpR P ⟨dst, .binOp .neq t x y t', ty, pos, aft, g⟩ φ Cs (.bool b) :=
  op_binv hx hy (fun _ => rfl) fun w => by have := run_equal_map_nil (P := P) w t kt e m (und_map ht); simp [binOp, this] at hb ⊢; exact hb

/-! ### Results in cells -/
/-- What a function's results are, where some lie in cells. -/
def ResW (P : Program) (l : List ResultVar) (φ : Fr) (Ps : List HP) (vs : List Value) : Prop := ∀ (a : Act) (w : World), Agrees φ a.tmps → Holds w Ps → (l.mapM (resF a.tmps)).run P w = .ok vs w
theorem res_nil : ResW P [] φ Ps [] := fun _ _ _ _ => rfl
theorem res_tmp {l : List ResultVar} {vs : List Value} {i : Nat} (hv : List.lookup i φ = some v) (h : ResW P l φ Ps vs) : ResW P (.tmp i :: l) φ Ps (v :: vs) := fun a w s H => by
  have e : a.tmps.getD i undef = v := s.ev (x := .tmp i) hv
  have e' : (resF a.tmps (.tmp i)).run P w = .ok v w := by show (pure (a.tmps.getD i undef) : Sem Value).run P w = _; rw [e]; rfl
  rw [List.mapM_cons]
  simp only [Sem.run_bind, e', h a w s H, Result.andThen_ok, Sem.run_pure]
theorem loadVar_of {w : World} {b o : Nat} (h : (Instr.loadAt t (.pointer (some ⟨b, o, none⟩))).run P w = .ok v w) : (loadVar t ⟨b, o, none⟩).run P w = .ok v w := by
  simpa [Instr.loadAt, Instr.sureAddr] using h
theorem res_cell1 {l : List ResultVar} {vs cs : List Value} {i b o j : Nat} {bt : TypeId} {fr : Nat × Nat} (hp : List.lookup i φ = some (.pointer (some ⟨b, o, none⟩))) (hj : Ps[j]? = some (Blk b (.cells cs.toArray bt fr))) (ha : aggB P t = some false) (hv : cs[o]? = some v)
    (h : ResW P l φ Ps vs) : ResW P (.cell i t :: l) φ Ps (v :: vs) := fun a w s H => by
  have e : a.tmps.getD i undef = .pointer (some ⟨b, o, none⟩) := s.ev (x := .tmp i) hp
  have e2 := loadVar_of (run_load1 (P := P) ha (H.get j hj).blk hv)
  have e' : (resF a.tmps (.cell i t)).run P w = .ok v w := by
    show (do loadVar t (← asAddr (a.tmps.getD i undef)) : Sem Value).run P w = _
    rw [e]
    simp [asAddr, e2]
  rw [List.mapM_cons]
  simp only [Sem.run_bind, e', h a w s H, Result.andThen_ok, Sem.run_pure]
theorem res_cellN {l : List ResultVar} {vs cs us : List Value} {i b o j k : Nat} {bt : TypeId} {fr : Nat × Nat} (hp : List.lookup i φ = some (.pointer (some ⟨b, o, none⟩))) (hj : Ps[j]? = some (Blk b (.cells cs.toArray bt fr))) (ha : aggB P t = some true) (hk : sizeB P t = some k)
    (hv : (cs.drop o).take k = us) (hl : us.length = k) (h : ResW P l φ Ps vs) : ResW P (.cell i t :: l) φ Ps (.agg us.toArray :: vs) := fun a w s H => by
  have e : a.tmps.getD i undef = .pointer (some ⟨b, o, none⟩) := s.ev (x := .tmp i) hp
  have e2 := loadVar_of (run_loadN (P := P) ha hk (H.get j hj).blk hv hl)
  have e' : (resF a.tmps (.cell i t)).run P w = .ok (.agg us.toArray) w := by
    show (do loadVar t (← asAddr (a.tmps.getD i undef)) : Sem Value).run P w = _
    rw [e]
    simp [asAddr, e2]
  rw [List.mapM_cons]
  simp only [Sem.run_bind, e', h a w s H, Result.andThen_ok, Sem.run_pure]
theorem dn_endc {e : Exit} {fn : Func} {E : World} {X : Type} {r : X → Value} {pr : X → Prop} {ch : X → List HP} {R : HP} {l : List ResultVar} {vs : List Value} (x : X) (hl : fn.results.toList = l) (hr : ResW P l φ Ps vs)
    (hv : retOf vs = r x) (hp : pr x) (ks : List Nat) {Rs : List HP} (hk : pick Ps ks = ch x ++ [R] ++ Rs) (he : e = .ret ∨ e = .normal) :
    Dn E n [] (Post P fn E r pr ch R e) φ Ps := fun a w s => by
  have h1 := hr a w s.ag s.hp
  have H := s.hp.pick ks
  rw [hk] at H
  have hres : (results fn a.tmps).run P w = .ok (r x) w := by
    have h2 : (fn.results.mapM (resF a.tmps)).run P w = .ok vs.toArray w := by
      rw [Array.mapM_eq_mapM_toList, hl]
      simp only [Sem.run_map, h1, Result.andThen_ok]
    show (do let vs ← fn.results.mapM (resF a.tmps); pure (if h : vs.size = 1 then vs[0] else .tuple vs) : Sem Value).run P w = _
    simp only [Sem.run_bind, h2, Result.andThen_ok, Sem.run_pure, ← hv]
    congr 1
    match vs with
    | [] => rfl
    | [v] => rfl
    | _ :: _ :: _ => rfl
  have key : a.defers = [] ∧ ∃ v, (results fn a.tmps).run P w = .ok v w ∧ ∃ x, Ending.returned v = .returned (r x) ∧ pr x ∧ SameEnv E w ∧ Holds w (ch x ++ [R]) :=
    ⟨s.df, _, hres, x, rfl, hp, s.env, H.front⟩
  rcases he with rfl | rfl <;> exact key

/-! ### Several that may come now -/
section
variable {ops : Array Oper} {bar : Nat → Bool} {CS : Nat → List HP} {G : Act → World → Prop} {f s s' : Nat} {listed listed' : Array Bool} {o : Oper}
/-- What is owed if this one is picked now. -/
def DsAt (P : Program) (E : World) (n : Nat) (D : List Deferred) (ops : Array Oper) (bar : Nat → Bool) (CS : Nat → List HP) (G : Act → World → Prop) (f s : Nat) (listed : Array Bool) (φ : Fr) (Ps : List HP) (i : Nat) : Prop :=
  ∀ a w, Sat E n D φ Ps a w → wpOp P ops NQ i (fun a' w' => Keeps CS (if bar i then s + 1 else s) w' ∧ anyS P ops bar (Keeps CS) G f (if bar i then s + 1 else s) (listed.setIfInBounds i true) a' w') a w
/-- The same as a goal. -/
def AG (P : Program) (ops : Array Oper) (bar : Nat → Bool) (CS : Nat → List HP) (G : Act → World → Prop) (f s : Nat) (listed : Array Bool) (i : Nat) (a : Act) (w : World) : Prop :=
  wpOp P ops NQ i (fun a' w' => Keeps CS (if bar i then s + 1 else s) w' ∧ anyS P ops bar (Keeps CS) G f (if bar i then s + 1 else s) (listed.setIfInBounds i true) a' w') a w
theorem at_of {i : Nat} (h : Dn E n D (AG P ops bar CS G f s listed i) φ Ps) : DsAt P E n D ops bar CS G f s listed φ Ps i := fun a w st => h a w st
theorem of_at {i : Nat} (h : DsAt P E n D ops bar CS G f s listed φ Ps i) : Dn E n D (AG P ops bar CS G f s listed i) φ Ps := fun a w st => h a w st
theorem ds_two {i j : Nat} (hr : Region.ready .any ops listed = [i, j]) (h1 : DsAt P E n D ops bar CS G f s listed φ Ps i) (h2 : DsAt P E n D ops bar CS G f s listed φ Ps j) : Ds P E n D ops bar CS G (f + 1) s listed φ Ps := fun a w st _ => by
  refine ⟨fun h0 => (by rw [hr] at h0; cases h0), fun k hk => ?_⟩
  rw [hr] at hk
  rcases List.mem_cons.1 hk with rfl | hk
  · exact h1 a w st
  · obtain rfl : k = j := by simpa using hk
    exact h2 a w st
theorem at_x {i : Nat} (hi : ops[i]? = some o) (hl : listed.setIfInBounds i true = listed') (hs : (if bar i then s + 1 else s) = s') (hg : o.guard = none) {α : Type} {pr : α → Prop} {ψ : α → Fr} {Qs : α → List HP}
    (h : OpX P E n D o φ Ps fun a w => ∃ g, pr g ∧ Sat E n D (ψ g) (Qs g) a w) (ks : List Nat) (hk : ∀ g, ∃ Rs, pick (Qs g) ks = CS s' ++ Rs) (k : ∀ g, pr g → Ds P E n D ops bar CS G f s' listed' (ψ g) (Qs g)) :
    DsAt P E n D ops bar CS G f s listed φ Ps i := fun a w st => by
  subst hl
  subst hs
  unfold wpOp
  simp only [hi]
  rw [if_pos (by simp [Region.wanted, hg])]
  refine .inl (h a w _ NQ st fun a' w' ⟨g, hg, st'⟩ => ?_)
  have hh : Holds w' (CS (if bar i then s + 1 else s)) := by
    obtain ⟨Rs, e⟩ := hk g
    have := st'.hp.pick ks
    rw [e] at this
    exact this.front
  exact ⟨hh, k g hg a' w' st' hh⟩
theorem at_s {i : Nat} (hi : ops[i]? = some o) (hl : listed.setIfInBounds i true = listed') (hs : (if bar i then s + 1 else s) = s') (hg : o.guard = none) {ψ : Fr} {Qs : List HP}
    (h : OpX P E n D o φ Ps (Sat E n D ψ Qs)) (ks : List Nat) {Rs : List HP} (hk : pick Qs ks = CS s' ++ Rs) (k : Ds P E n D ops bar CS G f s' listed' ψ Qs) : DsAt P E n D ops bar CS G f s listed φ Ps i :=
  at_x (α := Unit) (pr := fun _ => True) (ψ := fun _ => ψ) (Qs := fun _ => Qs) hi hl hs hg (fun a w K Q st hK => h a w K Q st fun a' w' q => hK a' w' ⟨(), trivial, q⟩) ks (fun _ => ⟨Rs, hk⟩) fun _ _ => k
end
/-! ### A writing operation that isn't wanted -/
theorem ds_nox {ops : Array Oper} {bar : Nat → Bool} {CS : Nat → List HP} {G : Act → World → Prop} {f s s' : Nat} {listed listed' : Array Bool} {o : Oper} (i : Nat) (hr : Region.ready .any ops listed = [i]) (hi : ops[i]? = some o) (hl : listed.setIfInBounds i true = listed') (hs : (if bar i then s + 1 else s) = s')
    {j : Nat} {b c : Bool} {oj : Oper} {dj : Nat} (hg : o.guard = some (j, b)) (hj : ops[j]? = some oj) (hdj : oj.dst = some dj) (hv : List.lookup dj φ = some (.bool c)) (hne : c ≠ b) (hd : o.dst = some d) (hn : Nat.blt d n = true) (ks : List Nat) {Rs : List HP} (hk : pick Ps ks = CS s' ++ Rs)
    (k : Ds P E n D ops bar CS G f s' listed' ((d, undef) :: φ) Ps) : Ds P E n D ops bar CS G (f + 1) s listed φ Ps := fun a w st _ => by
  subst hl
  subst hs
  refine ⟨fun h0 => (by rw [hr] at h0; cases h0), fun j' hj' => ?_⟩
  rw [hr] at hj'
  obtain rfl : j' = i := by simpa using hj'
  unfold wpOp
  simp only [hi]
  rw [if_neg (by simp [Region.wanted, hg, yielded, hj, hdj, st.ag _ _ hv, hne]), hd]
  have st' := st.put undef (Nat.le_of_ble_eq_true hn)
  have hh : Holds w (CS (if bar j' then s + 1 else s)) := by
    have := st.hp.pick ks
    rw [hk] at this
    exact this.front
  exact ⟨hh, k _ _ st' hh⟩

/-! ### Slices of one's own, opened and shut -/
theorem dn_own {G : Act → World → Prop} {e : TypeId} {sz m cap : Nat} {a : Option Addr} {cs : List Value} (hm : 0 < m) (k : ∀ b sp, a = some ⟨b, 0, none⟩ → (m ≤ cap ∧ cap ≤ maxLen ∧ (cs ++ sp).length = cap * sz) → Dn E n D G φ (Blk b (.cells (cs ++ sp).toArray e (0, 0)) :: Ps)) :
    Dn E n D G φ (OwnS e sz a m cap cs :: Ps) := fun ac w s => by
  obtain ⟨b, sp, ha, h1, h2, h3, H⟩ := s.hp.ownOpen' hm
  exact k b sp ha ⟨h1, h2, h3⟩ ac w ⟨s.size, s.ag, s.df, s.env, H⟩
theorem dn_shut {G : Act → World → Prop} {e : TypeId} {sz m cap b : Nat} {l sp : List Value} (hl : (l ++ sp).length = cap * sz) (h1 : m ≤ cap) (h2 : cap ≤ maxLen) {l' : List Value} (hc : l'.length = l.length ∧ l'.length = m * sz)
    (k : Dn E n D G φ (OwnS e sz (some ⟨b, 0, none⟩) m cap l' :: Ps)) : Dn E n D G φ (Blk b (.cells (l' ++ sp).toArray e (0, 0)) :: Ps) := fun ac w s => by
  have := s.hp.ownShut (sz := sz) (n := m) (cap := cap) (by rw [← hl, List.length_append, List.length_append, hc.1]) h1 h2
  rw [← hc.2] at this
  simp only [List.take_left'] at this
  exact k ac w ⟨s.size, s.ag, s.df, s.env, this⟩
theorem cellsAt {w : World} {b : Nat} {l : List Value} {ty : TypeId} {fr : Nat × Nat} (h : w.heap[b]? = some (.cells l.toArray ty fr)) (o : Nat) (news : List Value) (hn : (l.drop o).take news.length = news) (j : Nat) (u : Value) (q : news[j]? = some u) : w.cell? ⟨b, o + j, none⟩ = some u := by
  refine cell_of h ?_
  have hj : j < news.length := (List.getElem?_eq_some_iff.1 q).1
  rw [← hn, List.getElem?_take_of_lt hj, List.getElem?_drop] at q
  exact q
end
end Go.Proofs.YtjfajpoknnifcaaGreat
