/- The operations' rules. No condition. -/
import Derived.Test.YtjfajpoknnifcaaGreatOps
import Derived.Laws.Unary
namespace Go.Proofs.YtjfajpoknnifcaaGreat
open Go

/-- An operation that only looks: in every state of which this is known it yields 'v'. -/
def OpR (P : Program) (o : Oper) (φ : Fr) (Cs : List HP) (v : Value) : Prop :=
  ∀ (a : Act) (w : World), Agrees φ a.tmps → Holds w Cs → (execOp a.eval o).run P w = .ok (.value v) w
/-- Any operation: what is known behind it. -/
def OpX (P : Program) (E : World) (n : Nat) (D : List Deferred) (o : Oper) (φ : Fr) (Ps : List HP) (T : Act → World → Prop) : Prop :=
  ∀ (a : Act) (w : World) (K : Act → World → Prop) (Q : Exit → Act → World → Prop), Sat E n D φ Ps a w → (∀ a' w', T a' w' → K a' w') → o.wp P a w K Q

section
variable {P : Program} {E : World} {n : Nat} {D : List Deferred} {φ : Fr} {Ps : List HP} {Q : Exit → Act → World → Prop} {ops : Array Oper} {rest : List Oper} {o : Oper} {T : Act → World → Prop} {d : Nat} {v : Value}

theorem holds_one {w : World} {Ps : List HP} {i : Nat} {C : HP} (hC : Ps[i]? = some C) (H : Holds w Ps) : Holds w [C] := (H.get i hC).front (Qs := Ps.eraseIdx i) (Ps := [C])

theorem OpR.x {Cs : List HP} (h : OpR P o φ Cs v) (hd : o.dst = some d) (hn : Nat.blt d n = true) (f : ∀ w, Holds w Ps → Holds w Cs) : OpX P E n D o φ Ps (Sat E n D ((d, v) :: φ) Ps) := fun a w K Q s k => by
  unfold Oper.wp
  rw [h a w s.ag (f w s.hp)]
  show K (a.put o.dst v) w
  rw [hd]
  exact k _ _ (s.put v (Nat.le_of_ble_eq_true hn))

/-! ### One behind the other -/
theorem dl_x (hg : o.guard = none) (h : OpX P E n D o φ Ps T) (k : ∀ a w, T a w → wpList P ops Q rest a w) : Dn E n D (wpList P ops Q (o :: rest)) φ Ps := fun a w s => by
  unfold wpList
  rw [if_pos (by simp [Region.wanted, hg])]
  exact .inl (h a w _ Q s k)
theorem dl_t (hg : o.guard = none) (hd : o.dst = some d) (hn : Nat.blt d n = true) (h : OpR P o φ [] v) (k : Dn E n D (wpList P ops Q rest) ((d, v) :: φ) Ps) : Dn E n D (wpList P ops Q (o :: rest)) φ Ps :=
  dl_x hg (h.x hd hn fun _ H => Holds.front (Ps := []) H) k
theorem dl_r (i : Nat) {C : HP} (hC : Ps[i]? = some C) (hg : o.guard = none) (hd : o.dst = some d) (hn : Nat.blt d n = true) (h : OpR P o φ [C] v) (k : Dn E n D (wpList P ops Q rest) ((d, v) :: φ) Ps) :
    Dn E n D (wpList P ops Q (o :: rest)) φ Ps :=
  dl_x hg (h.x hd hn fun _ H => holds_one hC H) k
theorem dl_e {α : Type} {pr : α → Prop} {ψ : α → Fr} {Qs : α → List HP} (hg : o.guard = none) (h : OpX P E n D o φ Ps fun a w => ∃ g, pr g ∧ Sat E n D (ψ g) (Qs g) a w)
    (k : ∀ g, pr g → Dn E n D (wpList P ops Q rest) (ψ g) (Qs g)) : Dn E n D (wpList P ops Q (o :: rest)) φ Ps :=
  dl_x hg h fun a w ⟨g, hg, s⟩ => k g hg a w s
theorem dl_s {ψ : Fr} {Qs : List HP} (hg : o.guard = none) (h : OpX P E n D o φ Ps (Sat E n D ψ Qs)) (k : Dn E n D (wpList P ops Q rest) ψ Qs) : Dn E n D (wpList P ops Q (o :: rest)) φ Ps := dl_x hg h k
/-- A guard that says yes, or no. -/
theorem dl_want {j : Nat} {b : Bool} {oj : Oper} {dj : Nat} (hg : o.guard = some (j, b)) (hj : ops[j]? = some oj) (hdj : oj.dst = some dj) (hv : List.lookup dj φ = some (.bool b))
    (h : OpX P E n D o φ Ps T) (k : ∀ a w, T a w → wpList P ops Q rest a w) : Dn E n D (wpList P ops Q (o :: rest)) φ Ps := fun a w s => by
  unfold wpList
  rw [if_pos (by simp [Region.wanted, hg, yielded, hj, hdj, s.ag _ _ hv])]
  exact .inl (h a w _ Q s k)
theorem dl_wt {j : Nat} {b : Bool} {oj : Oper} {dj : Nat} (hg : o.guard = some (j, b)) (hj : ops[j]? = some oj) (hdj : oj.dst = some dj) (hv : List.lookup dj φ = some (.bool b))
    (hd : o.dst = some d) (hn : Nat.blt d n = true) (h : OpR P o φ [] v) (k : Dn E n D (wpList P ops Q rest) ((d, v) :: φ) Ps) : Dn E n D (wpList P ops Q (o :: rest)) φ Ps :=
  dl_want hg hj hdj hv (h.x hd hn fun _ H => Holds.front (Ps := []) H) k
theorem dl_wr (i : Nat) {C : HP} (hC : Ps[i]? = some C) {j : Nat} {b : Bool} {oj : Oper} {dj : Nat} (hg : o.guard = some (j, b)) (hj : ops[j]? = some oj) (hdj : oj.dst = some dj) (hv : List.lookup dj φ = some (.bool b))
    (hd : o.dst = some d) (hn : Nat.blt d n = true) (h : OpR P o φ [C] v) (k : Dn E n D (wpList P ops Q rest) ((d, v) :: φ) Ps) : Dn E n D (wpList P ops Q (o :: rest)) φ Ps :=
  dl_want hg hj hdj hv (h.x hd hn fun _ H => holds_one hC H) k
theorem dl_we {α : Type} {pr : α → Prop} {ψ : α → Fr} {Qs : α → List HP} {j : Nat} {b : Bool} {oj : Oper} {dj : Nat} (hg : o.guard = some (j, b)) (hj : ops[j]? = some oj) (hdj : oj.dst = some dj) (hv : List.lookup dj φ = some (.bool b))
    (h : OpX P E n D o φ Ps fun a w => ∃ g, pr g ∧ Sat E n D (ψ g) (Qs g) a w) (k : ∀ g, pr g → Dn E n D (wpList P ops Q rest) (ψ g) (Qs g)) : Dn E n D (wpList P ops Q (o :: rest)) φ Ps :=
  dl_want hg hj hdj hv h fun a w ⟨g, hg, s⟩ => k g hg a w s
theorem dl_ws {ψ : Fr} {Qs : List HP} {j : Nat} {b : Bool} {oj : Oper} {dj : Nat} (hg : o.guard = some (j, b)) (hj : ops[j]? = some oj) (hdj : oj.dst = some dj) (hv : List.lookup dj φ = some (.bool b))
    (h : OpX P E n D o φ Ps (Sat E n D ψ Qs)) (k : Dn E n D (wpList P ops Q rest) ψ Qs) : Dn E n D (wpList P ops Q (o :: rest)) φ Ps := dl_want hg hj hdj hv h k
theorem dl_no {j : Nat} {b c : Bool} {oj : Oper} {dj : Nat} (hg : o.guard = some (j, b)) (hj : ops[j]? = some oj) (hdj : oj.dst = some dj) (hv : List.lookup dj φ = some (.bool c)) (hne : c ≠ b)
    (hd : o.dst = some d) (hn : Nat.blt d n = true) (k : Dn E n D (wpList P ops Q rest) ((d, undef) :: φ) Ps) : Dn E n D (wpList P ops Q (o :: rest)) φ Ps := fun a w s => by
  unfold wpList
  rw [if_neg (by simp [Region.wanted, hg, yielded, hj, hdj, s.ag _ _ hv, hne]), hd]
  exact k _ _ (s.put undef (Nat.le_of_ble_eq_true hn))
/-- A test's outcome, for a guard: the slot is written out. -/
theorem dn_test {G : Act → World → Prop} {p : Prop} [Decidable p] (i : Nat) (hv : List.lookup i φ = some (.bool (decide p))) (ht : p → Dn E n D G ((i, .bool true) :: φ) Ps) (hf : ¬ p → Dn E n D G ((i, .bool false) :: φ) Ps) :
    Dn E n D G φ Ps := fun a w s => by
  have put : ∀ c : Bool, decide p = c → Sat E n D ((i, .bool c) :: φ) Ps a w := fun c hc => ⟨s.size, fun j u q => by
    by_cases hj : j = i
    · subst hj
      have : u = .bool c := by simpa [List.lookup] using q.symm
      subst this
      rw [← hc]; exact s.ag _ _ hv
    · have hb : (j == i) = false := by simpa using hj
      exact s.ag j u (by simpa [List.lookup, hb] using q), s.df, s.env, s.hp⟩
  by_cases hp : p
  · exact ht hp a w (put true (decide_eq_true hp))
  · exact hf hp a w (put false (decide_eq_false hp))

/-! ### Operations that only reckon -/
variable {dst : Option Tmp} {ty : TypeId} {pos : String} {aft : Array Edge} {g : Option (Nat × Bool)} {Cs : List HP} {x y : Operand}

theorem op_move (hx : ev φ x = some v) : OpR P ⟨dst, .move x, ty, pos, aft, g⟩ φ Cs v := fun a w s H => by
  show (pure (Next.value (a.eval x)) : Sem Next).run P w = _
  rw [s.ev hx]; rfl
theorem op_assign (hx : ev φ x = some v) : OpR P ⟨dst, .assign x, ty, pos, aft, g⟩ φ Cs v := fun a w s H => by
  show (pure (Next.value (a.eval x)) : Sem Next).run P w = _
  rw [s.ev hx]; rfl
theorem op_pick {c : Operand} {b : Bool} {u : Value} (hc : ev φ c = some (.bool b)) (hx : (if b then ev φ x else ev φ y) = some u) : OpR P ⟨dst, .pick c x y, ty, pos, aft, g⟩ φ Cs u := fun a w s H => by
  simp only [execOp, s.ev hc]
  cases b
  · rw [if_neg (by simp)] at hx; rw [s.ev hx]; simp [asBool]
  · rw [if_pos rfl] at hx; rw [s.ev hx]; simp [asBool]
theorem op_and {c : Operand} {p q : Prop} [Decidable p] [Decidable q] (hc : ev φ c = some (.bool (decide p))) (hx : ev φ x = some (.bool (decide q))) (hy : ev φ y = some (.bool false)) :
    OpR P ⟨dst, .pick c x y, ty, pos, aft, g⟩ φ Cs (.bool (decide (p ∧ q))) := fun a w s H => by
  simp only [execOp, s.ev hc, s.ev hx, s.ev hy]
  by_cases hp : p <;> by_cases hq : q <;> simp [asBool, hp, hq]
theorem op_or {c : Operand} {p q : Prop} [Decidable p] [Decidable q] (hc : ev φ c = some (.bool (decide p))) (hx : ev φ x = some (.bool true)) (hy : ev φ y = some (.bool (decide q))) :
    OpR P ⟨dst, .pick c x y, ty, pos, aft, g⟩ φ Cs (.bool (decide (p ∨ q))) := fun a w s H => by
  simp only [execOp, s.ev hc, s.ev hx, s.ev hy]
  by_cases hp : p <;> by_cases hq : q <;> simp [asBool, hp, hq]
theorem op_not {t : TypeId} {p : Prop} [Decidable p] (hx : ev φ x = some (.bool (decide p))) : OpR P ⟨dst, .unOp .not t x, ty, pos, aft, g⟩ φ Cs (.bool (decide (¬ p))) := fun a w s H => by
  simp only [execOp, s.ev hx]
  by_cases hp : p <;> simp [Op.unary, hp]
theorem op_notc {t : TypeId} {b c : Bool} (hx : ev φ x = some (.bool b)) (hc : (!b) = c) : OpR P ⟨dst, .unOp .not t x, ty, pos, aft, g⟩ φ Cs (.bool c) := fun a w s H => by
  simp only [execOp, s.ev hx]
  simp [Op.unary, ← hc]
theorem op_extract {i : Nat} {vs : Array Value} (hx : ev φ x = some (.tuple vs)) (hv : vs[i]? = some v) : OpR P ⟨dst, .extract x i, ty, pos, aft, g⟩ φ Cs v := fun a w s H => by
  simp only [execOp, s.ev hx]
  simp [Instr.extract, hv]
theorem op_nilCheck {ad : Addr} (hx : ev φ x = some (.pointer (some ad))) : OpR P ⟨dst, .nilCheck x, ty, pos, aft, g⟩ φ Cs (.pointer (some ad)) := fun a w s H => by
  simp only [execOp, s.ev hx]
  rfl
theorem op_fieldAddr {t : TypeId} {f b off sz i i' : Nat} (hx : ev φ x = some (.pointer (some ⟨b, i, none⟩))) (hf : fieldB P t f = some (off, sz)) (hi : i + off = i') :
    OpR P ⟨dst, .fieldAddr t x f, ty, pos, aft, g⟩ φ Cs (.pointer (some ⟨b, i', none⟩)) := fun a w s H => by
  simp only [execOp, s.ev hx]
  simp [run_fieldAt w hf hi]
theorem op_makeFunc {fn : Fn} {first capt : Array Operand} {vs us : List Value} (hf : (first.toList.map (ev φ)) = vs.map some) (hc : (capt.toList.map (ev φ)) = us.map some) :
    OpR P ⟨dst, .makeFunc fn first capt, ty, pos, aft, g⟩ φ Cs (.func fn vs.toArray us.toArray) := fun a w s H => by
  have key : ∀ (l : List Operand) (ws : List Value), l.map (ev φ) = ws.map some → l.map a.eval = ws := by
    intro l
    induction l with
    | nil => intro ws h; cases ws <;> simp_all
    | cons o l ih =>
      intro ws h
      cases ws with
      | nil => simp at h
      | cons u ws => simp at h; simp [s.ev h.1, ih ws h.2]
  have e1 : first.map a.eval = vs.toArray := by rw [← key _ _ hf, ← Array.toList_map, Array.toArray_toList]
  have e2 : capt.map a.eval = us.toArray := by rw [← key _ _ hc, ← Array.toList_map, Array.toArray_toList]
  simp only [execOp, e1, e2]
  rfl
theorem op_makeInterface {t : TypeId} {dsc : TypeDesc} (hx : ev φ x = some v) (ht : P.underlying t = some dsc) (hd : (∀ m, dsc ≠ .interface m)) :
    OpR P ⟨dst, .makeInterface t x, ty, pos, aft, g⟩ φ Cs (.iface t v) := fun a w s H => by
  simp only [execOp, s.ev hx]
  have := run_underlying ht w
  cases dsc <;> first | exact absurd rfl (hd _) | simp [Instr.makeInterface, this]
theorem beqD (i j : Int) : (i == j) = decide (i = j) := by by_cases h : i = j <;> simp [h]
/-- Integers: what is reckoned of them. -/
theorem op_bin {op : BinOp} {t t' : TypeId} {k : IntKind} {i j : Int} (hx : ev φ x = some (.int k i)) (hy : ev φ y = some (.int k j)) (hr : ∀ w, (binOp op t (.int k i) (.int k j)).run P w = .ok v w) :
    OpR P ⟨dst, .binOp op t x y t', ty, pos, aft, g⟩ φ Cs v := fun a w s H => by
  have he : (eqGuard op t x y (.int k i) (.int k j)).run P w = .ok () w := by
    unfold eqGuard
    split <;> first | rfl | simp
  simp only [execOp, s.ev hx, s.ev hy]
  simp [he, hr w]
theorem op_add {t t' : TypeId} {k : IntKind} {i j z : Int} (hx : ev φ x = some (.int k i)) (hy : ev φ y = some (.int k j)) (hz : k.wrap (i + j) = z) :
    OpR P ⟨dst, .binOp .add t x y t', ty, pos, aft, g⟩ φ Cs (.int k z) := op_bin hx hy fun w => by simp [binOp, Op.intArith, hz]
theorem op_sub {t t' : TypeId} {k : IntKind} {i j z : Int} (hx : ev φ x = some (.int k i)) (hy : ev φ y = some (.int k j)) (hz : k.wrap (i - j) = z) :
    OpR P ⟨dst, .binOp .sub t x y t', ty, pos, aft, g⟩ φ Cs (.int k z) := op_bin hx hy fun w => by simp [binOp, Op.intArith, hz]
theorem op_mul {t t' : TypeId} {k : IntKind} {i j z : Int} (hx : ev φ x = some (.int k i)) (hy : ev φ y = some (.int k j)) (hz : k.wrap (i * j) = z) :
    OpR P ⟨dst, .binOp .mul t x y t', ty, pos, aft, g⟩ φ Cs (.int k z) := op_bin hx hy fun w => by simp [binOp, Op.intArith, hz]
theorem op_lss {t t' : TypeId} {k : IntKind} {i j : Int} (hx : ev φ x = some (.int k i)) (hy : ev φ y = some (.int k j)) : OpR P ⟨dst, .binOp .lss t x y t', ty, pos, aft, g⟩ φ Cs (.bool (decide (i < j))) := op_bin hx hy fun w => by simp [binOp, Op.intCmp]
theorem op_leq {t t' : TypeId} {k : IntKind} {i j : Int} (hx : ev φ x = some (.int k i)) (hy : ev φ y = some (.int k j)) : OpR P ⟨dst, .binOp .leq t x y t', ty, pos, aft, g⟩ φ Cs (.bool (decide (i ≤ j))) := op_bin hx hy fun w => by simp [binOp, Op.intCmp]
theorem op_gtr {t t' : TypeId} {k : IntKind} {i j : Int} (hx : ev φ x = some (.int k i)) (hy : ev φ y = some (.int k j)) : OpR P ⟨dst, .binOp .gtr t x y t', ty, pos, aft, g⟩ φ Cs (.bool (decide (j < i))) := op_bin hx hy fun w => by simp [binOp, Op.intCmp]
theorem op_geq {t t' : TypeId} {k : IntKind} {i j : Int} (hx : ev φ x = some (.int k i)) (hy : ev φ y = some (.int k j)) : OpR P ⟨dst, .binOp .geq t x y t', ty, pos, aft, g⟩ φ Cs (.bool (decide (j ≤ i))) := op_bin hx hy fun w => by simp [binOp, Op.intCmp]
theorem op_eql {t t' : TypeId} {k : IntKind} {i j : Int} (hx : ev φ x = some (.int k i)) (hy : ev φ y = some (.int k j)) : OpR P ⟨dst, .binOp .eql t x y t', ty, pos, aft, g⟩ φ Cs (.bool (decide (i = j))) := op_bin hx hy fun w => by simp [binOp, Op.intCmp, beqD]
theorem op_neq {t t' : TypeId} {k : IntKind} {i j : Int} (hx : ev φ x = some (.int k i)) (hy : ev φ y = some (.int k j)) : OpR P ⟨dst, .binOp .neq t x y t', ty, pos, aft, g⟩ φ Cs (.bool (decide (¬ i = j))) := op_bin hx hy fun w => by simp [binOp, Op.intCmp, bne, beqD]
theorem op_conv {s t : TypeId} {k k' : IntKind} {i z : Int} {sd : TypeDesc} (hx : ev φ x = some (.int k i)) (hs : P.underlying s = some sd) (ht : intB P t = some k') (hz : k'.wrap i = z) : OpR P ⟨dst, .convert s t x, ty, pos, aft, g⟩ φ Cs (.int k' z) := fun a w st H => by
  simp only [execOp, st.ev hx]
  have h1 := run_underlying hs w
  have h2 := run_underlying (und_int ht) w
  have h3 : (convert s t (.int k i)).run P w = .ok (.int k' z) w := by
    unfold convert
    simp only [Sem.run_bind, h1, h2, Result.andThen_ok]
    cases sd <;> simp [Conv.intToInt, hz]
  simp [h3]
theorem op_len {t : TypeId} {e : TypeId} {b : Option Addr} {l c : Nat} (hx : ev φ x = some (.slice b l c)) (ht : elemB P t = some e) :
    OpR P ⟨dst, .call ⟨.builtin .len, #[x], #[t]⟩, ty, pos, aft, g⟩ φ Cs (.int .i64 l) := fun a w st H => by
  have hu := run_underlying (und_elem ht) w
  show ((do let d ← resolve a.eval ⟨.builtin .len, #[x], #[t]⟩ ty; invoke d.target d.args) : Sem Next).run P w = _
  simp [resolve, invoke, builtin, Builtin.len_, st.ev hx, hu, goInt]

/-! ### Operations that read -/
theorem op_load {t : TypeId} {b i : Nat} {l : List Value} {bt : TypeId} {fr : Nat × Nat} (hx : ev φ x = some (.pointer (some ⟨b, i, none⟩))) (ha : aggB P t = some false) (hv : l[i]? = some v) :
    OpR P ⟨dst, .load t x, ty, pos, aft, g⟩ φ [Blk b (.cells l.toArray bt fr)] v := fun a w s H => by
  simp only [execOp, s.ev hx]
  simp [run_load1 (P := P) ha H.blk hv]
theorem op_loadN {t : TypeId} {k b i : Nat} {l vs : List Value} {bt : TypeId} {fr : Nat × Nat} (hx : ev φ x = some (.pointer (some ⟨b, i, none⟩))) (ha : aggB P t = some true) (hk : sizeB P t = some k) (hv : (l.drop i).take k = vs) (hl : vs.length = k) :
    OpR P ⟨dst, .load t x, ty, pos, aft, g⟩ φ [Blk b (.cells l.toArray bt fr)] (.agg vs.toArray) := fun a w s H => by
  simp only [execOp, s.ev hx]
  simp [run_loadN (P := P) ha hk H.blk hv hl]
theorem op_loadRo {t : TypeId} {b i : Nat} {l : List Value} {bt : TypeId} {fr : Nat × Nat} (hx : ev φ x = some (.pointer (some ⟨b, i, none⟩))) (ha : aggB P t = some false) (hv : l[i]? = some v) :
    OpR P ⟨dst, .load t x, ty, pos, aft, g⟩ φ [Ro b (.cells l.toArray bt fr)] v := fun a w s H => by
  simp only [execOp, s.ev hx]
  simp [run_load1 (P := P) ha H.ro hv]
theorem op_loadNRo {t : TypeId} {k b i : Nat} {l vs : List Value} {bt : TypeId} {fr : Nat × Nat} (hx : ev φ x = some (.pointer (some ⟨b, i, none⟩))) (ha : aggB P t = some true) (hk : sizeB P t = some k) (hv : (l.drop i).take k = vs) (hl : vs.length = k) :
    OpR P ⟨dst, .load t x, ty, pos, aft, g⟩ φ [Ro b (.cells l.toArray bt fr)] (.agg vs.toArray) := fun a w s H => by
  simp only [execOp, s.ev hx]
  simp [run_loadN (P := P) ha hk H.ro hv hl]
end
end Go.Proofs.YtjfajpoknnifcaaGreat
