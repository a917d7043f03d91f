/- Slices of things that are not flat: pointers to records, structs with slices. No condition. -/
import Derived.Test.YtjfajpoknnifcaaGreatDec
namespace Go.Proofs.YtjfajpoknnifcaaGreat
open Go
set_option linter.unusedSectionVars false
set_option linter.unusedVariables false
set_option linter.unusedSimpArgs false
set_option linter.unnecessarySimpa false

section
variable {α π : Type}
/-- Cells of things with what is physical of each. -/
def flat2 (enc : α → π → List Value) (xs : List α) (ps : List π) : List Value := (List.zipWith enc xs ps).flatten
def parts2 (pts : α → π → List HP) (xs : List α) (ps : List π) : List HP := (List.zipWith pts xs ps).flatten
variable {enc : α → π → List Value} {pts : α → π → List HP} {sz : Nat}
theorem flat2_len (hsz : ∀ x p, (enc x p).length = sz) : ∀ (xs : List α) (ps : List π), ps.length = xs.length → (flat2 enc xs ps).length = xs.length * sz
  | [], ps, _ => by simp [flat2]
  | x :: xs, [], h => by cases h
  | x :: xs, p :: ps, h => by
    have := flat2_len hsz xs ps (by simpa using h)
    simp only [flat2, List.zipWith_cons_cons, List.flatten_cons, List.length_append, hsz, List.length_cons] at *
    rw [this, Nat.succ_mul]; omega
theorem flat2_part (hsz : ∀ x p, (enc x p).length = sz) : ∀ {xs : List α} {ps : List π} {i : Nat} {x : α} {p : π}, xs[i]? = some x → ps[i]? = some p → ((flat2 enc xs ps).drop (i * sz)).take sz = enc x p
  | [], _, i, x, p, h, _ => by simp at h
  | y :: xs, [], i, x, p, _, h => by simp at h
  | y :: xs, q :: ps, 0, x, p, h, h' => by
    simp at h h'
    subst h; subst h'
    simp only [flat2, List.zipWith_cons_cons, List.flatten_cons, Nat.zero_mul, List.drop_zero]
    rw [List.take_append_of_le_length (by rw [hsz]; exact Nat.le_refl _), List.take_of_length_le (by rw [hsz]; exact Nat.le_refl _)]
  | y :: xs, q :: ps, i + 1, x, p, h, h' => by
    have := flat2_part hsz (xs := xs) (ps := ps) (i := i) (x := x) (p := p) (by simpa using h) (by simpa using h')
    simp only [flat2, List.zipWith_cons_cons, List.flatten_cons] at *
    rw [show (i + 1) * sz = (enc y q).length + i * sz by rw [hsz, Nat.succ_mul]; omega, List.drop_length_add_append]
    exact this
theorem flat2_app (xs ys : List α) (ps qs : List π) (h : ps.length = xs.length) : flat2 enc (xs ++ ys) (ps ++ qs) = flat2 enc xs ps ++ flat2 enc ys qs := by
  simp only [flat2]
  rw [List.zipWith_append h.symm, List.flatten_append]
theorem parts2_app (xs ys : List α) (ps qs : List π) (h : ps.length = xs.length) : parts2 pts (xs ++ ys) (ps ++ qs) = parts2 pts xs ps ++ parts2 pts ys qs := by
  simp only [parts2]
  rw [List.zipWith_append h.symm, List.flatten_append]
theorem flat2_set {x x' : α} {p : π} (he : enc x' p = enc x p) : ∀ {xs : List α} {ps : List π} {i : Nat}, xs[i]? = some x → ps[i]? = some p → flat2 enc (xs.set i x') ps = flat2 enc xs ps
  | [], _, i, h, _ => by simp at h
  | y :: xs, [], i, _, h => by simp at h
  | y :: xs, q :: ps, 0, h, h' => by
    simp at h h'
    subst h; subst h'
    simp only [flat2, List.set_cons_zero, List.zipWith_cons_cons, List.flatten_cons, he]
  | y :: xs, q :: ps, i + 1, h, h' => by
    have := flat2_set he (xs := xs) (ps := ps) (i := i) (by simpa using h) (by simpa using h')
    simp only [flat2, List.set_cons_succ, List.zipWith_cons_cons, List.flatten_cons] at *
    rw [this]
theorem parts2_perm {x : α} {p : π} : ∀ {xs : List α} {ps : List π} {i : Nat}, xs[i]? = some x → ps[i]? = some p → (parts2 pts xs ps).Perm (pts x p ++ parts2 pts (xs.eraseIdx i) (ps.eraseIdx i))
  | [], _, i, h, _ => by simp at h
  | y :: xs, [], i, _, h => by simp at h
  | y :: xs, q :: ps, 0, h, h' => by
    simp at h h'
    subst h; subst h'
    simp [parts2]
  | y :: xs, q :: ps, i + 1, h, h' => by
    have := parts2_perm (xs := xs) (ps := ps) (i := i) (by simpa using h) (by simpa using h')
    simp only [parts2, List.eraseIdx_cons_succ, List.zipWith_cons_cons, List.flatten_cons] at *
    refine (List.Perm.append_left _ this).trans ?_
    rw [← List.append_assoc, ← List.append_assoc]
    exact List.perm_append_comm.append_right _
theorem parts2_set {x' : α} {p : π} : ∀ {xs : List α} {ps : List π} {i : Nat}, i < xs.length → ps[i]? = some p → (parts2 pts (xs.set i x') ps).Perm (pts x' p ++ parts2 pts (xs.eraseIdx i) (ps.eraseIdx i)) := by
  intro xs ps i h h'
  have := parts2_perm (pts := pts) (xs := xs.set i x') (ps := ps) (i := i) (x := x') (p := p) (by rw [List.getElem?_set_self h]) h'
  rwa [show (xs.set i x').eraseIdx i = xs.eraseIdx i from List.eraseIdx_set_eq] at this
/-- A slice of one's own of such things. -/
def OwnP (e : TypeId) (sz : Nat) (enc : α → π → List Value) (pts : α → π → List HP) (a : Option Addr) (n cap : Nat) (xs : List α) : HP :=
  Ex fun ps : List π => Star [Pure (ps.length = xs.length), OwnS e sz a n cap (flat2 enc xs ps), Star (parts2 pts xs ps)]
/-- The same, but for what belongs to one of them. -/
def OwnH (e : TypeId) (sz : Nat) (enc : α → π → List Value) (pts : α → π → List HP) (a : Option Addr) (n cap : Nat) (xs : List α) (i : Nat) (p : π) : HP :=
  Ex fun ps : List π => Star [Pure (ps.length = xs.length ∧ ps[i]? = some p), OwnS e sz a n cap (flat2 enc xs ps), Star (parts2 pts (xs.eraseIdx i) (ps.eraseIdx i))]
variable {w : World} {Ps Qs : List HP} {e : TypeId} {a : Option Addr} {n cap : Nat} {xs : List α}
theorem Holds.ownP (H : Holds w (OwnP e sz enc pts a n cap xs :: Ps)) : ∃ ps : List π, ps.length = xs.length ∧ Holds w (OwnS e sz a n cap (flat2 enc xs ps) :: (parts2 pts xs ps ++ Ps)) := by
  obtain ⟨ps, H⟩ := H.ex
  have H1 := H.star
  obtain ⟨hl, H2⟩ := H1.pure
  refine ⟨ps, hl, ?_⟩
  have H3 : Holds w (Star (parts2 pts xs ps) :: OwnS e sz a n cap (flat2 enc xs ps) :: Ps) := H2.perm (List.Perm.swap ..)
  exact H3.star.perm (by simpa using List.perm_middle)
theorem Holds.mkOwnP {ps : List π} (hl : ps.length = xs.length) (H : Holds w (OwnS e sz a n cap (flat2 enc xs ps) :: (parts2 pts xs ps ++ Ps))) : Holds w (OwnP e sz enc pts a n cap xs :: Ps) := by
  refine Holds.mkEx ps (Holds.mkStar (Holds.mkPure hl ?_))
  have H2 : Holds w (parts2 pts xs ps ++ (OwnS e sz a n cap (flat2 enc xs ps) :: Ps)) := H.perm (by simpa using (List.perm_middle).symm)
  exact H2.mkStar.perm (List.Perm.swap ..)
theorem Holds.ownPLen (hsz : ∀ x p, (enc x p).length = sz) (h0 : 0 < sz) (H : Holds w (OwnP e sz enc pts a n cap xs :: Ps)) : xs.length = n := by
  obtain ⟨ps, hl, H⟩ := H.ownP
  have := H.ownLen
  rw [flat2_len hsz xs ps hl] at this
  exact Nat.eq_of_mul_eq_mul_right h0 this
theorem Holds.ownPSome (H : Holds w (OwnP e sz enc pts a n cap xs :: Ps)) (h : 0 < n) : SomeA a := by
  obtain ⟨ps, hl, H⟩ := H.ownP
  exact H.ownSome h
theorem Holds.focus {i : Nat} {x : α} (hx : xs[i]? = some x) (H : Holds w (OwnP e sz enc pts a n cap xs :: Ps)) : ∃ p, Holds w (pts x p ++ (OwnH e sz enc pts a n cap xs i p :: Ps)) := by
  obtain ⟨ps, hl, H⟩ := H.ownP
  have hi := (List.getElem?_eq_some_iff.1 hx).1
  obtain ⟨p, hp⟩ : ∃ p, ps[i]? = some p := ⟨_, List.getElem?_eq_getElem (by omega)⟩
  refine ⟨p, ?_⟩
  have H1 := H.perm (((parts2_perm (pts := pts) hx hp).append_right Ps).cons _)
  have H2 : Holds w (parts2 pts (xs.eraseIdx i) (ps.eraseIdx i) ++ (OwnS e sz a n cap (flat2 enc xs ps) :: (pts x p ++ Ps))) := H1.perm (by
    rw [List.append_assoc]
    refine (List.Perm.cons _ ?_).trans (List.perm_middle).symm
    rw [← List.append_assoc, ← List.append_assoc]
    exact List.perm_append_comm.append_right _)
  have H3 : Holds w (OwnS e sz a n cap (flat2 enc xs ps) :: Star (parts2 pts (xs.eraseIdx i) (ps.eraseIdx i)) :: (pts x p ++ Ps)) := H2.mkStar.perm (List.Perm.swap ..)
  have H4 : Holds w (OwnH e sz enc pts a n cap xs i p :: (pts x p ++ Ps)) := Holds.mkEx ps (Holds.mkStar (Holds.mkPure ⟨hl, hp⟩ H3))
  exact H4.perm (List.perm_middle).symm
theorem Holds.unfocus {i : Nat} {x x' : α} {p : π} (hx : xs[i]? = some x) (he : enc x' p = enc x p) (H : Holds w (pts x' p ++ (OwnH e sz enc pts a n cap xs i p :: Ps))) : Holds w (OwnP e sz enc pts a n cap (xs.set i x') :: Ps) := by
  have H1 : Holds w (OwnH e sz enc pts a n cap xs i p :: (pts x' p ++ Ps)) := H.perm List.perm_middle
  obtain ⟨ps, H2⟩ := H1.ex
  obtain ⟨⟨hl, hp⟩, H3⟩ := H2.star.pure
  have hi := (List.getElem?_eq_some_iff.1 hx).1
  have H4 : Holds w (parts2 pts (xs.eraseIdx i) (ps.eraseIdx i) ++ (OwnS e sz a n cap (flat2 enc xs ps) :: (pts x' p ++ Ps))) := (H3.perm (List.Perm.swap ..)).star
  refine Holds.mkOwnP (ps := ps) (by rw [List.length_set]; exact hl) ?_
  rw [flat2_set he hx hp]
  refine H4.perm ?_
  refine (List.perm_middle).trans (List.Perm.cons _ ?_)
  refine List.Perm.trans ?_ ((parts2_set (pts := pts) (x' := x') hi hp).append_right Ps).symm
  rw [← List.append_assoc]
  exact List.perm_append_comm.append_right _
theorem Holds.ownHCells (hsz : ∀ x p, (enc x p).length = sz) {i : Nat} {x : α} {p : π} (hx : xs[i]? = some x) (H : Holds w (OwnH e sz enc pts a n cap xs i p :: Ps)) : ∃ cs, Holds w (OwnS e sz a n cap cs :: Ps) ∧ (cs.drop (i * sz)).take sz = enc x p := by
  obtain ⟨ps, H2⟩ := H.ex
  obtain ⟨⟨hl, hp⟩, H3⟩ := H2.star.pure
  exact ⟨_, (H3.perm (List.Perm.swap ..)).drop, flat2_part hsz hx hp⟩
end
section
variable {P : Program} {E : World} {n : Nat} {D : List Deferred} {φ : Fr} {Ps Qs : List HP} {G : Act → World → Prop}
variable {α π : Type} {enc : α → π → List Value} {pts : α → π → List HP} {sz : Nat} {e : TypeId} {a : Option Addr} {m cap : Nat} {xs : List α}
theorem dn_pN (hsz : ∀ x p, (enc x p).length = sz) (h0 : Nat.blt 0 sz = true) (j : Nat) (hj : Ps[j]? = some (OwnP e sz enc pts a m cap xs)) (k : xs.length = m → Dn E n D G φ Ps) : Dn E n D G φ Ps :=
  dn_fact (fun _ H => (holds_one hj H).ownPLen hsz (Nat.le_of_ble_eq_true h0)) k
theorem dn_pSome (j : Nat) (hj : Ps[j]? = some (OwnP e sz enc pts a m cap xs)) (h : 0 < m) (k : SomeA a → Dn E n D G φ Ps) : Dn E n D G φ Ps :=
  dn_fact (fun _ H => (holds_one hj H).ownPSome h) k
theorem dn_focus {i : Nat} {x : α} (j : Nat) (hj : Ps[j]? = some (OwnP e sz enc pts a m cap xs)) (hx : xs[i]? = some x) (k : ∀ p, Dn E n D G φ (pts x p ++ (OwnH e sz enc pts a m cap xs i p :: Ps.eraseIdx j))) : Dn E n D G φ Ps := fun ac w s => by
  obtain ⟨p, H⟩ := (s.hp.get j hj).focus hx
  exact k p ac w ⟨s.size, s.ag, s.df, s.env, H⟩
theorem dn_unfocus {i : Nat} {x x' : α} {p : π} (hx : xs[i]? = some x) (he : enc x' p = enc x p) (ks : List Nat) {Rs : List HP} (hp : pick Ps ks = pts x' p ++ (OwnH e sz enc pts a m cap xs i p :: Rs)) (k : Dn E n D G φ (OwnP e sz enc pts a m cap (xs.set i x') :: Rs)) : Dn E n D G φ Ps := fun ac w s => by
  have H := s.hp.pick ks
  rw [hp] at H
  exact k ac w ⟨s.size, s.ag, s.df, s.env, H.unfocus hx he⟩
theorem dn_unfocus0 {i : Nat} {x : α} {p : π} (hx : xs[i]? = some x) (ks : List Nat) {Rs : List HP} (hp : pick Ps ks = pts x p ++ (OwnH e sz enc pts a m cap xs i p :: Rs)) (k : Dn E n D G φ (OwnP e sz enc pts a m cap xs :: Rs)) : Dn E n D G φ Ps :=
  dn_unfocus (x' := x) hx rfl ks hp (by
    have e : xs.set i x = xs := by
      apply List.ext_getElem?
      intro j
      rw [List.getElem?_set]
      split
      · rename_i h; subst h; split
        · exact hx.symm
        · rename_i h2; exact absurd (List.getElem?_eq_some_iff.1 hx).1 h2
      · rfl
    rw [e]; exact k)
/-- A pointer that may be none. -/
def PtrO (F : Nat → α → HP) (q : Option Nat) (x : Option α) : HP := match q, x with
  | none, none => Pure True
  | some b, some y => F b y
  | _, _ => Pure False
abbrev pO (q : Option Nat) : Value := .pointer (q.map fun b => ⟨b, 0, none⟩)
theorem opt_cases {β : Type} (x : Option β) : x = none ∨ ∃ y, x = some y := by cases x <;> simp
theorem dn_poN {F : Nat → α → HP} {q : Option Nat} {x : Option α} (j : Nat) (hj : Ps[j]? = some (PtrO F q x)) (hx : x = none) (k : q = none → Dn E n D G φ (Ps.eraseIdx j)) : Dn E n D G φ Ps := fun ac w s => by
  subst hx
  have H := s.hp.get j hj
  cases q with
  | none => exact k rfl ac w ⟨s.size, s.ag, s.df, s.env, H.drop⟩
  | some b => exact absurd H.pure.1 id
theorem dn_poS {F : Nat → α → HP} {q : Option Nat} {x : Option α} {y : α} (j : Nat) (hj : Ps[j]? = some (PtrO F q x)) (hx : x = some y) (k : ∀ b, q = some b → Dn E n D G φ (F b y :: Ps.eraseIdx j)) : Dn E n D G φ Ps := fun ac w s => by
  subst hx
  have H := s.hp.get j hj
  cases q with
  | none => exact absurd H.pure.1 id
  | some b => exact k b rfl ac w ⟨s.size, s.ag, s.df, s.env, H⟩
theorem dn_mkPoN {F : Nat → α → HP} (k : Dn E n D G φ (PtrO F none none :: Ps)) : Dn E n D G φ Ps := fun ac w s => k ac w ⟨s.size, s.ag, s.df, s.env, Holds.mkPure trivial s.hp⟩
theorem dn_mkPoS {F : Nat → α → HP} {b : Nat} {y : α} (j : Nat) (hj : Ps[j]? = some (F b y)) (k : Dn E n D G φ (PtrO F (some b) (some y) :: Ps.eraseIdx j)) : Dn E n D G φ Ps := fun ac w s => k ac w ⟨s.size, s.ag, s.df, s.env, s.hp.get j hj⟩
theorem dn_pNil (e : TypeId) (sz : Nat) (enc : α → π → List Value) (pts : α → π → List HP) (k : Dn E n D G φ (OwnP e sz enc pts none 0 0 [] :: Ps)) : Dn E n D G φ Ps := fun ac w s =>
  k ac w ⟨s.size, s.ag, s.df, s.env, Holds.mkOwnP (ps := []) rfl (by simpa [flat2, parts2] using s.hp.ownNil e sz)⟩
variable {dst : Option Tmp} {ty t : TypeId} {pos : String} {aft : Array Edge} {g : Option (Nat × Bool)} {x y : Operand} {v : Value} {d : Nat}
theorem op_loadH {k i off : Nat} {z : α} {p : π} (hsz : ∀ x p, (enc x p).length = sz) (hz : xs[i]? = some z) (hx : ev φ x = some (pAt a k)) (ha : aggB P t = some false) (hm : 0 < m) (hv : (enc z p)[off]? = some v) (hk : i * sz + off = k) (ho : Nat.blt off sz = true) :
    OpR P ⟨dst, .load t x, ty, pos, aft, g⟩ φ [OwnH e sz enc pts a m cap xs i p] v := fun ac w s H => by
  obtain ⟨cs, H2, hc⟩ := H.ownHCells hsz hz
  refine op_loadO (sz := sz) (cap := cap) (e := e) hx ha hm (cs := cs) ?_ ac w s H2
  rw [← hc, List.getElem?_take_of_lt (Nat.le_of_ble_eq_true ho), List.getElem?_drop, hk] at hv
  exact hv
theorem op_loadHN {k i off q : Nat} {z : α} {p : π} {vs : List Value} (hsz : ∀ x p, (enc x p).length = sz) (hz : xs[i]? = some z) (hx : ev φ x = some (pAt a k)) (ha : aggB P t = some true) (hq : sizeB P t = some q) (hm : 0 < m) (hv : ((enc z p).drop off).take q = vs) (hl : vs.length = q) (hk : i * sz + off = k) (ho : Nat.ble (off + q) sz = true) :
    OpR P ⟨dst, .load t x, ty, pos, aft, g⟩ φ [OwnH e sz enc pts a m cap xs i p] (.agg vs.toArray) := fun ac w s H => by
  obtain ⟨cs, H2, hc⟩ := H.ownHCells hsz hz
  refine op_loadON (sz := sz) (cap := cap) (e := e) hx ha hq hm (cs := cs) ?_ hl ac w s H2
  rw [← hv, ← hc, List.drop_take, List.take_take, List.drop_drop, hk, Nat.min_eq_left (by have := Nat.le_of_ble_eq_true ho; omega)]
theorem wp_append {bytes : Nat} {z0 : Value} {a a' : Option Addr} {k cap c mm : Nat} {cs news : List Value} {ac : Act} {w : World} {K : Act → World → Prop} {Q : Exit → Act → World → Prop} (hx : ev φ x = some (.slice a k cap)) (hy : ev φ y = some (.slice a' mm c))
    (ht : elemB P t = some e) (hs : sizeB P e = some sz) (hz : zeroB P e = some z0) (hby : bytesB P e = some bytes) (hzs : z0.cells.size = sz) (h0 : Nat.blt 0 sz = true) (hl : news.length = mm * sz) (hm0 : 0 < mm)
    (hnews : ∀ j u, news[j]? = some u → ∃ b o, a' = some ⟨b, o, none⟩ ∧ w.cell? ⟨b, o + j, none⟩ = some u) (h1 : ∀ u ∈ news, u.oneCell' = true) (h63 : k + mm ≤ maxLen) (hb : (k + mm) * bytes ≤ 140737488355328) (hn : Nat.blt d n = true)
    (s : Sat E n D φ (OwnS e sz a k cap cs :: Qs) ac w) (kk : ∀ a' w', (∃ q : Option Addr × Nat, True ∧ Sat E n D ((d, .slice q.1 (k + mm) q.2) :: φ) (OwnS e sz q.1 (k + mm) q.2 (cs ++ news) :: Qs) a' w') → K a' w') :
    Oper.wp P ⟨some d, .call ⟨.builtin .append, #[x, y], #[t, t]⟩, ty, pos, aft, g⟩ ac w K Q := by
  have h2 : 0 < news.length := by rw [hl]; exact Nat.mul_pos hm0 (Nat.le_of_ble_eq_true h0)
  obtain ⟨b, o, rfl, _⟩ := hnews 0 _ (List.getElem?_eq_getElem h2)
  have hnews' : ∀ j u, news[j]? = some u → w.cell? ⟨b, o + j, none⟩ = some u := fun j u q => by obtain ⟨b', o', e, h⟩ := hnews j u q; cases e; exact h
  obtain ⟨a', cap', w', hr, he, hh⟩ := run_appendS (P := P) (ty := ty) (c := c) s.hp ht hs hz hby hzs h0 hl hnews' h1 h63 hb
  unfold Oper.wp
  have : (execOp ac.eval ⟨some d, .call ⟨.builtin .append, #[x, y], #[t, t]⟩, ty, pos, aft, g⟩).run P w = .ok (.value (.slice a' (k + mm) cap')) w' := by
    show ((do let d ← resolve ac.eval ⟨.builtin .append, #[x, y], #[t, t]⟩ ty; invoke d.target d.args) : Sem Next).run P w = _
    simp [resolve, invoke, builtin, s.ev hx, s.ev hy, hr]
  rw [this]
  exact kk _ _ ⟨(a', cap'), trivial, (s.world he hh).put _ (Nat.le_of_ble_eq_true hn)⟩
/-- append of one such thing. -/
theorem op_appendP {bytes : Nat} {z0 : Value} {a' : Option Addr} {c : Nat} {z : α} {p : π} (hsz : ∀ x p, (enc x p).length = sz) (ks : List Nat) (hp : pick Ps ks = OwnP e sz enc pts a m cap xs :: (pts z p ++ Qs)) (hx : ev φ x = some (.slice a m cap)) (hy : ev φ y = some (.slice a' 1 c))
    (ht : elemB P t = some e) (hs : sizeB P e = some sz) (hz : zeroB P e = some z0) (hby : bytesB P e = some bytes) (hzs : z0.cells.size = sz) (h0 : Nat.blt 0 sz = true)
    (hnews : ∀ w, Holds w Ps → ∀ j u, (enc z p)[j]? = some u → ∃ b o, a' = some ⟨b, o, none⟩ ∧ w.cell? ⟨b, o + j, none⟩ = some u) (h1 : ((enc z p).all fun u => u.oneCell') = true) (hg : xs.length + 1 ≤ appMax) (hb : Nat.ble bytes 100000 = true) (hn : Nat.blt d n = true) :
    OpX P E n D ⟨some d, .call ⟨.builtin .append, #[x, y], #[t, t]⟩, ty, pos, aft, g⟩ φ Ps fun ac w => ∃ q : Option Addr × Nat, True ∧ Sat E n D ((d, .slice q.1 (m + 1) q.2) :: φ) (OwnP e sz enc pts q.1 (m + 1) q.2 (xs ++ [z]) :: Qs) ac w := fun ac w K Q s kk => by
  have H := s.hp.pick ks
  rw [hp] at H
  have hm := H.ownPLen hsz (Nat.le_of_ble_eq_true h0)
  obtain ⟨ps, hl, H1⟩ := H.ownP
  unfold appMax at hg
  have hb' := Nat.le_of_ble_eq_true hb
  have hmul : (m + 1) * bytes ≤ 1000000000 * 100000 := Nat.mul_le_mul (by omega) hb'
  have s2 : Sat E n D φ (OwnS e sz a m cap (flat2 enc xs ps) :: (parts2 pts xs ps ++ (pts z p ++ Qs))) ac w := ⟨s.size, s.ag, s.df, s.env, H1⟩
  refine wp_append (news := enc z p) (mm := 1) hx hy ht hs hz hby hzs h0 (by rw [hsz]; omega) (by omega) (hnews w s.hp) (fun u hu => List.all_eq_true.1 h1 u hu) (by simp only [maxLen]; omega) (by omega) hn s2 fun a' w' ⟨q, _, st⟩ => kk a' w' ⟨q, trivial, st.size, st.ag, st.df, st.env, ?_⟩
  · have hq := st.hp
    refine Holds.mkOwnP (ps := ps ++ [p]) (by simp [hl]) ?_
    rw [flat2_app _ _ _ _ hl, parts2_app _ _ _ _ hl]
    have e1 : flat2 enc [z] [p] = enc z p := by simp [flat2]
    have e2 : parts2 pts [z] [p] = pts z p := by simp [parts2]
    rw [e1, e2, List.append_assoc]
    exact hq
end
end Go.Proofs.YtjfajpoknnifcaaGreat
