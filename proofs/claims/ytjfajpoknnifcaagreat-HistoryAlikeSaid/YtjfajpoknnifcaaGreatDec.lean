/- What printed models and their proofs lean on. No condition. -/
import Derived.Test.YtjfajpoknnifcaaGreatRest
import Derived.Test.YtjfajpoknnifcaaGreatSlice
import Derived.Test.YtjfajpoknnifcaaGreatRec
import Derived.DeepKeys4
import Derived.Laws.Small
import Derived.Laws.StructEq
namespace Go.Proofs.YtjfajpoknnifcaaGreat
open Go
set_option linter.unusedSectionVars false
set_option linter.unusedVariables false
set_option linter.unusedSimpArgs false

/-! ### Partial answers -/
section
variable {α β γ : Type} {r : α}
theorem pos_some {p : Prop} [Decidable p] {a b : Option α} (hp : p) (h : (if p then a else b) = some r) : a = some r := by rwa [if_pos hp] at h
theorem neg_some {p : Prop} [Decidable p] {a b : Option α} (hp : ¬ p) (h : (if p then a else b) = some r) : b = some r := by rwa [if_neg hp] at h
theorem guard_some {p : Prop} [Decidable p] {a : Option α} (h : (if p then a else none) = some r) : p ∧ a = some r := by
  by_cases hp : p
  · rw [if_pos hp] at h; exact ⟨hp, h⟩
  · rw [if_neg hp] at h; cases h
theorem bind_some {x : Option β} {f : β → Option α} (h : x.bind f = some r) : ∃ y, x = some y ∧ f y = some r := Option.bind_eq_some_iff.1 h
/-- By cases of what there may be. -/
def opt (x : Option β) (a : Option α) (f : β → Option α) : Option α := match x with | none => a | some y => f y
@[simp] theorem opt_n (a : Option α) (f : β → Option α) : opt none a f = a := rfl
@[simp] theorem opt_s (y : β) (a : Option α) (f : β → Option α) : opt (some y) a f = f y := rfl
theorem opt_none {x : Option β} {a : Option α} {f : β → Option α} (hx : x = none) (h : opt x a f = some r) : a = some r := by rw [hx] at h; exact h
theorem opt_some {x : Option β} {a : Option α} {f : β → Option α} {y : β} (hx : x = some y) (h : opt x a f = some r) : f y = some r := by rw [hx] at h; exact h
theorem elim_l {f : β → Option α} {g : γ → Option α} {b : β} (h : Sum.elim f g (.inl b) = some r) : f b = some r := h
theorem elim_r {f : β → Option α} {g : γ → Option α} {c : γ} (h : Sum.elim f g (.inr c) = some r) : g c = some r := h
/-- The i-th element. -/
def nth (xs : List α) (i : Int) : Option α := if 0 ≤ i then xs[i.toNat]? else none
theorem nth_some {xs : List α} {i : Int} (h : nth xs i = some r) : 0 ≤ i ∧ i.toNat < xs.length ∧ xs[i.toNat]? = some r := by
  unfold nth at h
  by_cases h0 : 0 ≤ i
  · rw [if_pos h0] at h
    exact ⟨h0, (List.getElem?_eq_some_iff.1 h).1, h⟩
  · rw [if_neg h0] at h; cases h
theorem nth_nat {xs : List α} {i : Nat} : nth xs (i : Int) = xs[i]? := by simp [nth]
end
/-- How many rounds a loop may have, and how deep a call may go. -/
def fuel : Nat := 2 ^ 60
/-- How long a slice may grow. -/
def appMax : Nat := 1000000000
abbrev w64 (z : Int) : Int := IntKind.i64.wrap z
theorem w64_id {z : Int} (h : -9223372036854775808 ≤ z) (h' : z ≤ 9223372036854775807) : w64 z = z := w_i64 h h'
theorem bdec (b : Bool) : Value.bool b = .bool (decide (b = true)) := by cases b <;> rfl
def encI (k : IntKind) (x : Int) : List Value := [.int k x]
theorem encI_len (k : IntKind) (x : Int) : (encI k x).length = 1 := rfl
theorem encI_one (k : IntKind) (x : Int) : ((encI k x).all fun u => u.oneCell') = true := rfl
def encB (x : Bool) : List Value := [.bool x]
theorem encB_len (x : Bool) : (encB x).length = 1 := rfl
theorem encB_one (x : Bool) : ((encB x).all fun u => u.oneCell') = true := rfl
/-- What fits a kind. -/
abbrev fits (k : IntKind) (x : Int) : Prop := (Lit.int k x).wf = true

section
variable {P : Program} {E : World} {n : Nat} {D : List Deferred} {φ : Fr} {Ps Qs : List HP} {G : Act → World → Prop}
/-! ### Records: opened, and shut -/
theorem dn_open {Q : HP} {X : Type} {F : X → List HP} (j : Nat) (hj : Ps[j]? = some Q) (e : Q = Ex fun p => Star (F p)) (k : ∀ p, Dn E n D G φ (F p ++ Ps.eraseIdx j)) : Dn E n D G φ Ps := fun a w s => by
  have H := s.hp.get j hj
  rw [e] at H
  obtain ⟨p, H⟩ := H.ex
  exact k p a w ⟨s.size, s.ag, s.df, s.env, H.star⟩
theorem dn_shutR {Q : HP} {X : Type} {F : X → List HP} (e : Q = Ex fun p => Star (F p)) (ph : X) (ks : List Nat) {Rs : List HP} (hp : pick Ps ks = F ph ++ Rs) (k : Dn E n D G φ (Q :: Rs)) : Dn E n D G φ Ps := fun a w s => by
  have H := s.hp.pick ks
  rw [hp] at H
  refine k a w ⟨s.size, s.ag, s.df, s.env, ?_⟩
  rw [e]
  exact Holds.mkEx ph H.mkStar
/-! ### Lists -/
variable {α : Type} {enc : α → List Value} {sz : Nat}
theorem dn_ownN (hsz : ∀ x, (enc x).length = sz) (h0 : Nat.blt 0 sz = true) {a : Option Addr} {xs : List α} {e : TypeId} {m cap : Nat} (i : Nat) (hi : Ps[i]? = some (OwnS e sz a m cap (flat enc xs))) (k : xs.length = m → Dn E n D G φ Ps) : Dn E n D G φ Ps :=
  dn_ownLen i hi fun h _ _ => k (by
    rw [flat_len hsz] at h
    exact Nat.eq_of_mul_eq_mul_right (Nat.le_of_ble_eq_true h0) h)
/-- A read-only list of things. -/
def RoL (enc : α → List Value) (a : Option Addr) (m : Nat) (xs : List α) : HP :=
  ⟨fun r h => (RoS a (flat enc xs)).p r h ∧ xs.length = m, fun hr h => ⟨(RoS a (flat enc xs)).mono hr h.1, h.2⟩⟩
variable {w : World}
theorem Holds.roL {a : Option Addr} {m : Nat} {xs : List α} (H : Holds w (RoL enc a m xs :: Ps)) : xs.length = m ∧ Holds w (RoS a (flat enc xs) :: Ps) := by
  obtain ⟨r, h, x, y, z, h1, h2, s, ⟨q, e⟩, d⟩ := H
  exact ⟨e, r, h, x, y, z, h1, h2, s, q, d⟩
theorem Holds.mkRoL {a : Option Addr} {m : Nat} {xs : List α} (H : Holds w (RoS a (flat enc xs) :: Ps)) (e : xs.length = m) : Holds w (RoL enc a m xs :: Ps) :=
  H.imp fun _ _ ⟨h1, h2, s, q, d⟩ => ⟨h1, h2, s, ⟨q, e⟩, d⟩
theorem dn_roN {a : Option Addr} {m : Nat} {xs : List α} (i : Nat) (hi : Ps[i]? = some (RoL enc a m xs)) (k : xs.length = m → Dn E n D G φ Ps) : Dn E n D G φ Ps := dn_fact (fun _ H => (holds_one hi H).roL.1) k
theorem dn_roLSome (hsz : ∀ x, (enc x).length = sz) (h0 : Nat.blt 0 sz = true) {a : Option Addr} {m : Nat} {xs : List α} (i : Nat) (hi : Ps[i]? = some (RoL enc a m xs)) (h : 0 < xs.length) (k : SomeA a → Dn E n D G φ Ps) : Dn E n D G φ Ps :=
  dn_fact (fun _ H => (holds_one hi H).roL.2.roSome (by rw [flat_len hsz]; exact Nat.mul_pos h (Nat.le_of_ble_eq_true h0))) k
theorem dn_ownLSome {a : Option Addr} {xs : List α} {e : TypeId} {m cap : Nat} (i : Nat) (hi : Ps[i]? = some (OwnS e sz a m cap (flat enc xs))) (h : 0 < m) (k : SomeA a → Dn E n D G φ Ps) : Dn E n D G φ Ps := dn_ownSome i hi h k
variable {dst : Option Tmp} {ty t : TypeId} {pos : String} {aft : Array Edge} {g : Option (Nat × Bool)} {x : Operand} {v : Value}
theorem op_loadL {a : Option Addr} {m k : Nat} {xs : List α} (hx : ev φ x = some (pAt a k)) (ha : aggB P t = some false) (hv : (flat enc xs)[k]? = some v) : OpR P ⟨dst, .load t x, ty, pos, aft, g⟩ φ [RoL enc a m xs] v :=
  fun ac w s H => op_loadS hx ha hv ac w s H.roL.2
theorem op_loadLN {a : Option Addr} {m k q : Nat} {xs : List α} {vs : List Value} (hx : ev φ x = some (pAt a k)) (ha : aggB P t = some true) (hk : sizeB P t = some q) (hv : ((flat enc xs).drop k).take q = vs) (hl : vs.length = q) (hm : Nat.blt 0 q = true) :
    OpR P ⟨dst, .load t x, ty, pos, aft, g⟩ φ [RoL enc a m xs] (.agg vs.toArray) := fun ac w s H => op_loadSN hx ha hk hv hl hm ac w s H.roL.2
/-- A part of an element. -/
theorem flat_sub (hsz : ∀ x, (enc x).length = sz) {xs : List α} {i off q k : Nat} {y : α} {vs : List Value} (h : xs[i]? = some y) (hv : ((enc y).drop off).take q = vs) (hq : Nat.ble (off + q) sz = true) (hk : i * sz + off = k) :
    ((flat enc xs).drop k).take q = vs := by
  have hp := flat_part hsz h
  subst hk
  rw [← hv, ← hp, List.drop_take, List.take_take, List.drop_drop]
  rw [Nat.min_eq_left (by have := Nat.le_of_ble_eq_true hq; omega)]
/-- An element of which a part is laid anew. -/
theorem flat_lay (hsz : ∀ x, (enc x).length = sz) {xs : List α} {i off k : Nat} {y y' : α} {vs : List Value} (h : xs[i]? = some y) (hy : lay (enc y) off vs = enc y') (hq : Nat.ble (off + vs.length) sz = true) (hk : i * sz + off = k) :
    lay (flat enc xs) k vs = flat enc (xs.set i y') := by
  have hq' := Nat.le_of_ble_eq_true hq
  have hi : i < xs.length := (List.getElem?_eq_some_iff.1 h).1
  rw [← flat_set hsz y' hi, ← hy]
  subst hk
  have hp := flat_part hsz h
  have hlen := flat_len hsz xs
  have hle : i * sz + sz ≤ (flat enc xs).length := by
    rw [hlen]
    have := Nat.mul_le_mul_right sz (show i + 1 ≤ xs.length from hi)
    rw [Nat.succ_mul] at this
    exact this
  have hyl : (enc y).length = sz := hsz y
  generalize flat enc xs = L at *
  simp only [lay]
  have e1 : (List.take off (enc y) ++ vs ++ List.drop (off + vs.length) (enc y)).length = sz := by simp [hyl]; omega
  rw [e1]
  have e2 : List.take off (enc y) = (L.drop (i * sz)).take off := by rw [← hp, List.take_take, Nat.min_eq_left (by omega)]
  have e3 : List.drop (off + vs.length) (enc y) = ((L.drop (i * sz + (off + vs.length))).take (sz - (off + vs.length))) := by
    rw [← hp, List.drop_take, List.drop_drop]
  rw [e2, e3]
  have e4 : L.take (i * sz + off) = L.take (i * sz) ++ (L.drop (i * sz)).take off := by
    rw [List.take_add]
  have e5 : L.drop (i * sz + off + vs.length) = (L.drop (i * sz + (off + vs.length))).take (sz - (off + vs.length)) ++ L.drop (i * sz + sz) := by
    have : L.drop (i * sz + sz) = (L.drop (i * sz + (off + vs.length))).drop (sz - (off + vs.length)) := by
      rw [List.drop_drop]; congr 1; omega
    rw [this, List.take_append_drop]; congr 1; omega
  rw [e4, e5]
  simp [List.append_assoc]
theorem Holds.ownTake {a : Option Addr} {xs : List α} {e : TypeId} {m cap k : Nat} (hsz : ∀ x, (enc x).length = sz) (H : Holds w (OwnS e sz a m cap (flat enc xs) :: Ps)) (hk : k ≤ m) (h0 : 0 < sz) : Holds w (OwnS e sz a k cap (flat enc (xs.take k)) :: Ps) := by
  have hl := H.ownLen
  rw [flat_len hsz] at hl
  have hm : xs.length = m := Nat.eq_of_mul_eq_mul_right h0 hl
  have hc := H.ownCap
  by_cases hz : 0 < cap
  · obtain ⟨b, sp, rfl, h2, h3, h4, hB⟩ := H.ownOpen hz
    have := hB.ownShut (n := k) h4 (by omega) h3
    have e1 : (flat enc xs ++ sp).take (k * sz) = flat enc (xs.take k) := by
      have e2 : flat enc xs = flat enc (xs.take k) ++ flat enc (xs.drop k) := by rw [← flat_app, List.take_append_drop]
      rw [e2, List.append_assoc]
      exact takeAll _ _ (by rw [flat_len hsz, List.length_take]; congr 1; omega)
    rw [e1] at this
    exact this
  · have hm0 : m = 0 := by omega
    have hk0 : k = 0 := by omega
    have hx : xs = [] := List.eq_nil_of_length_eq_zero (by omega)
    subst hx
    subst hm0
    subst hk0
    exact H
theorem dn_ownTake (hsz : ∀ x, (enc x).length = sz) (h0 : Nat.blt 0 sz = true) {a : Option Addr} {xs : List α} {e : TypeId} {m cap : Nat} (k : Nat) (j : Nat) (hj : Ps[j]? = some (OwnS e sz a m cap (flat enc xs))) (hk : k ≤ m)
    (K : Dn E n D G φ (OwnS e sz a k cap (flat enc (xs.take k)) :: Ps.eraseIdx j)) : Dn E n D G φ Ps := fun ac w s => K ac w ⟨s.size, s.ag, s.df, s.env, (s.hp.get j hj).ownTake hsz hk (Nat.le_of_ble_eq_true h0)⟩
theorem dn_mapNew {κ ν : Type} [DecidableEq κ] (ok : κ → Prop) (ek : κ → Value) (ev : ν → Value) {b : Nat} (j : Nat) (hj : Ps[j]? = some (Blk b (.map #[] 0))) (K : Dn E n D G φ (MapS ok ek ev b ([] : List (κ × ν)) :: Ps.eraseIdx j)) : Dn E n D G φ Ps :=
  fun ac w s => K ac w ⟨s.size, s.ag, s.df, s.env, (s.hp.get j hj).mapNew ok ek ev⟩
theorem dn_ownBlk {e : TypeId} {m b : Nat} {l : List Value} (j : Nat) (hj : Ps[j]? = some (Blk b (.cells l.toArray e (0, 0)))) (hl : l.length = m * sz) (hm : Nat.ble m maxLen = true) (K : Dn E n D G φ (OwnS e sz (some ⟨b, 0, none⟩) m m l :: Ps.eraseIdx j)) : Dn E n D G φ Ps :=
  fun ac w s => dn_ownOf (φ := φ) (Ps := Ps.eraseIdx j) hl (Nat.le_of_ble_eq_true hm) K ac w ⟨s.size, s.ag, s.df, s.env, s.hp.get j hj⟩
theorem dn_part {C C' : HP} (j : Nat) (hj : Ps[j]? = some C) (e : C = C') (K : Dn E n D G φ (C' :: Ps.eraseIdx j)) : Dn E n D G φ Ps := fun ac w s => K ac w ⟨s.size, s.ag, s.df, s.env, e ▸ s.hp.get j hj⟩
/-! ### Skipped behind a skipped guard; and what has no slot -/
section
variable {ops : Array Oper} {Q : Exit → Act → World → Prop} {rest : List Oper} {o : Oper} {d : Nat}
theorem dl_nou {j : Nat} {b : Bool} {oj : Oper} {dj : Nat} (hg : o.guard = some (j, b)) (hj : ops[j]? = some oj) (hdj : oj.dst = some dj) (hv : List.lookup dj φ = some undef)
    (hd : o.dst = some d) (hn : Nat.blt d n = true) (k : Dn E n D (wpList P ops Q rest) ((d, undef) :: φ) Ps) : Dn E n D (wpList P ops Q (o :: rest)) φ Ps := fun a w s => by
  unfold wpList
  rw [if_neg (by simp [Region.wanted, hg, yielded, hj, hdj, s.ag _ _ hv, undef]), hd]
  exact k _ _ (s.put undef (Nat.le_of_ble_eq_true hn))
theorem dl_noN {j : Nat} {b c : Bool} {oj : Oper} {dj : Nat} (hg : o.guard = some (j, b)) (hj : ops[j]? = some oj) (hdj : oj.dst = some dj) (hv : List.lookup dj φ = some (.bool c)) (hne : c ≠ b)
    (hd : o.dst = none) (k : Dn E n D (wpList P ops Q rest) φ Ps) : Dn E n D (wpList P ops Q (o :: rest)) φ Ps := fun a w s => by
  unfold wpList
  rw [if_neg (by simp [Region.wanted, hg, yielded, hj, hdj, s.ag _ _ hv, hne]), hd]
  exact k _ _ s
variable {bar : Nat → Bool} {CS : Nat → List HP} {f s : Nat} {listed listed' : Array Bool}
theorem ds_nou (i : Nat) (hB : firstB ops bar listed i true = true) (hi : ops[i]? = some o) (hl : listed.setIfInBounds i true = listed') {j : Nat} {b : Bool} {oj : Oper} {dj : Nat} (hg : o.guard = some (j, b)) (hj : ops[j]? = some oj) (hdj : oj.dst = some dj)
    (hv : List.lookup dj φ = some undef) (hd : o.dst = some d) (hn : Nat.blt d n = true) (k : Ds P E n D ops bar CS G f s listed' ((d, undef) :: φ) Ps) : Ds P E n D ops bar CS G (f + 1) s listed φ Ps :=
  ds_look i hB hi hl hd hn (fun a w st => .inr ⟨by simp [Region.wanted, hg, yielded, hj, hdj, st.ag _ _ hv, undef], rfl⟩) k
end
/-! ### What is reckoned -/
def bAnd (k : IntKind) (i j : Int) : Int := k.wrap (BitVec.ofInt k.bits i &&& BitVec.ofInt k.bits j).toNat
def bOr (k : IntKind) (i j : Int) : Int := k.wrap (BitVec.ofInt k.bits i ||| BitVec.ofInt k.bits j).toNat
def bXor (k : IntKind) (i j : Int) : Int := k.wrap (BitVec.ofInt k.bits i ^^^ BitVec.ofInt k.bits j).toNat
def bAndNot (k : IntKind) (i j : Int) : Int := k.wrap (BitVec.ofInt k.bits i &&& ~~~ BitVec.ofInt k.bits j).toNat
def bShl (k : IntKind) (i j : Int) : Int := k.wrap (i * 2 ^ (min j.toNat k.bits))
def bShr (k : IntKind) (i j : Int) : Int := i.fdiv (2 ^ (min j.toNat k.bits))
def iMin (i j : Int) : Int := if j < i then j else i
def iMax (i j : Int) : Int := if i < j then j else i
theorem mget_map {ν : Type} {ev : ν → Value} (x : Option ν) (z : ν) : (x.map ev).getD (ev z) = ev (x.getD z) := by cases x <;> rfl
theorem flat_rep1 (x : α) (f : α → Value) (k : Nat) : flat (fun y => [f y]) (List.replicate k x) = List.replicate k (f x) := by
  induction k with
  | zero => rfl
  | succ k ih => rw [List.replicate_succ, flat_cons, ih]; rfl
theorem madeI (k : IntKind) (x : Int) (m : Nat) : madeL [.int k x] m = flat (encI k) (List.replicate m x) := by rw [madeL_one]; exact (flat_rep1 x (Value.int k) m).symm
theorem madeB (x : Bool) (m : Nat) : madeL [.bool x] m = flat encB (List.replicate m x) := by rw [madeL_one]; exact (flat_rep1 x Value.bool m).symm
theorem dn_made {e : TypeId} {m b : Nat} {l : List Value} {xs : List α} (hsz : ∀ x, (enc x).length = sz) (j : Nat) (hj : Ps[j]? = some (Blk b (.cells l.toArray e (0, 0)))) (hl : l = flat enc xs) (hx : xs.length = m) (hm : m ≤ maxLen) (K : Dn E n D G φ (OwnS e sz (some ⟨b, 0, none⟩) m m (flat enc xs) :: Ps.eraseIdx j)) : Dn E n D G φ Ps :=
  fun ac w s => dn_ownOf (φ := φ) (Ps := Ps.eraseIdx j) (by rw [hl, flat_len hsz, hx]) hm (by rw [hl]; exact K) ac w ⟨s.size, s.ag, s.df, s.env, s.hp.get j hj⟩
theorem flat_onesL (hone : ∀ x, ((enc x).all fun u => u.oneCell') = true) (xs : List α) : ∀ u ∈ flat enc xs, u.oneCell' = true := by
  induction xs with
  | nil => intro u hu; simp [flat] at hu
  | cons x xs ih =>
    intro u hu
    rw [flat_cons, List.mem_append] at hu
    rcases hu with hu | hu
    · exact List.all_eq_true.1 (hone x) u hu
    · exact ih u hu
theorem news_roL {Ps : List HP} (i : Nat) {a : Option Addr} {m : Nat} {xs : List α} (hi : Ps[i]? = some (RoL enc a m xs)) (w : World) (H : Holds w Ps) (j : Nat) (u : Value) (q : (flat enc xs)[j]? = some u) : ∃ b o, a = some ⟨b, o, none⟩ ∧ w.cell? ⟨b, o + j, none⟩ = some u :=
  ((holds_one hi H).roL.2).roS q
def boolB (P : Program) (t : TypeId) : Bool := match P.underlying t with | some .bool => true | _ => false
theorem und_bool {t : TypeId} (h : boolB P t = true) : P.underlying t = some .bool := by
  unfold boolB at h
  split at h
  · assumption
  · cases h
variable {y : Operand} {t' : TypeId} {Cs : List HP}
theorem op_booleql {p q : Bool} (hx : ev φ x = some (.bool p)) (hy : ev φ y = some (.bool q)) (ht : boolB P t = true) : OpR P ⟨dst, .binOp .eql t x y t', ty, pos, aft, g⟩ φ Cs (.bool (decide (p = q))) :=
  op_binv hx hy (fun _ => by simp [eqGuard, run_underlying (und_bool ht)]) fun w => by have := run_equal_bool (P := P) w t p q (und_bool ht); simp [binOp, this]; cases p <;> cases q <;> rfl
theorem op_boolneq {p q : Bool} (hx : ev φ x = some (.bool p)) (hy : ev φ y = some (.bool q)) (ht : boolB P t = true) : OpR P ⟨dst, .binOp .neq t x y t', ty, pos, aft, g⟩ φ Cs (.bool (decide (¬ (p = q)))) :=
  op_binv hx hy (fun _ => by simp [eqGuard, run_underlying (und_bool ht)]) fun w => by have := run_equal_bool (P := P) w t p q (und_bool ht); simp [binOp, this]; cases p <;> cases q <;> rfl
section
variable {κ ν : Type} [DecidableEq κ] {kt : TypeId} {ok : κ → Prop} {ek : κ → Value} {ev : ν → Value} {b : Nat} {L : List (κ × ν)}
theorem op_delete0 {t et : TypeId} (K : KeyOK P kt ek ok) (ht : mapB P t = some (kt, et)) (ks : List Nat) (hp : pick Ps ks = MapS ok ek ev b L :: Qs) {k : κ} (hx : YtjfajpoknnifcaaGreat.ev φ x = some (.map (some b))) (hy : YtjfajpoknnifcaaGreat.ev φ y = some (ek k)) (hk : ok k) :
    OpX P E n D ⟨none, .call ⟨.builtin .delete, #[x, y], #[t, kt]⟩, ty, pos, aft, g⟩ φ Ps (Sat E n D φ (MapS ok ek ev b (mdel L k) :: Qs)) := fun a w KK Q s kk => by
  have H := s.hp.pick ks
  rw [hp] at H
  obtain ⟨w', hr, he, hh⟩ := run_deleteM (ty := ty) K ht H hk
  unfold Oper.wp
  have : (execOp a.eval ⟨none, .call ⟨.builtin .delete, #[x, y], #[t, kt]⟩, ty, pos, aft, g⟩).run P w = .ok (.value (.tuple #[])) w' := by
    show ((do let d ← resolve a.eval ⟨.builtin .delete, #[x, y], #[t, kt]⟩ ty; invoke d.target d.args) : Sem Next).run P w = _
    simp [resolve, invoke, builtin, s.ev hx, s.ev hy, hr]
  rw [this]
  exact kk _ _ (s.world he hh)
end
theorem op_aggeql {l q : List Value} {p : Prop} [Decidable p] (hx : ev φ x = some (.agg l.toArray)) (hy : ev φ y = some (.agg q.toArray)) (hg : P.eqGuardType P.depth t = false) (he : ∀ w, (Op.equalIn 10000 t (.agg l.toArray) (.agg q.toArray)).run P w = .ok (decide p) w) :
    OpR P ⟨dst, .binOp .eql t x y t', ty, pos, aft, g⟩ φ Cs (.bool (decide p)) :=
  op_binv hx hy (fun w => run_eqGuard_agg w _ _ _ _ _ _ hg) fun w => by rw [run_eql_struct, he]; rfl
theorem op_aggneq {l q : List Value} {p : Prop} [Decidable p] (hx : ev φ x = some (.agg l.toArray)) (hy : ev φ y = some (.agg q.toArray)) (hg : P.eqGuardType P.depth t = false) (he : ∀ w, (Op.equalIn 10000 t (.agg l.toArray) (.agg q.toArray)).run P w = .ok (decide p) w) :
    OpR P ⟨dst, .binOp .neq t x y t', ty, pos, aft, g⟩ φ Cs (.bool (decide (¬ p))) :=
  op_binv hx hy (fun w => run_eqGuard_agg w _ _ _ _ _ _ hg) fun w => by rw [run_neq_struct, he]; by_cases h : p <;> simp [h]
theorem dn_roDup {a : Option Addr} {m : Nat} {xs : List α} (j : Nat) (hj : Ps[j]? = some (RoL enc a m xs)) (K : Dn E n D G φ (RoL enc a m xs :: Ps)) : Dn E n D G φ Ps := fun ac w s => K ac w ⟨s.size, s.ag, s.df, s.env, by
  have H := s.hp.get j hj
  obtain ⟨r, h, x, y, z, h1, h2, s', ⟨⟨e, q⟩, hn⟩, d⟩ := H
  subst e
  have H2 : Holds w (RoL enc a m xs :: RoL enc a m xs :: Ps.eraseIdx j) := ⟨r, h, x, y, z, Frag.nil, h, Split.nil_left _, ⟨⟨rfl, q⟩, hn⟩, Frag.nil, h2, s', ⟨⟨rfl, q⟩, hn⟩, d⟩
  exact H2.perm ((perm_eraseIdx Ps j _ hj).symm.cons _)⟩
theorem op_indexArrS {e : TypeId} {a : Option Addr} {len sz k k' : Nat} {kk : IntKind} {i : Int} (ha : SomeA a) (hx : ev φ x = some (pAt a k)) (hy : ev φ y = some (.int kk i)) (ht : arrB P t = some (len, e)) (hs : sizeB P e = some sz) (h0 : 0 ≤ i) (h1 : i < len) (hk : k + i.toNat * sz = k') :
    OpR P ⟨dst, .indexAddr t x y, ty, pos, aft, g⟩ φ Cs (pAt a k') := fun ac w s H => by
  obtain ⟨b, o, rfl⟩ := ha
  subst hk
  have hx' : ev φ x = some (.pointer (some ⟨b, o + k, none⟩)) := by rw [hx]; simp [add_none]
  have := op_indexArr (P := P) (dst := dst) (ty := ty) (pos := pos) (aft := aft) (g := g) (Cs := Cs) hx' hy ht hs h0 h1 (o' := o + (k + i.toNat * sz)) (by omega) ac w s H
  simpa [pAt, add_none] using this
end
end Go.Proofs.YtjfajpoknnifcaaGreat
