/- Heap assertions as lists of parts, each part owning blocks of its own; read-only blocks are shared by all. No condition. -/
import Derived.Laws.World
import Derived.Calls
import Derived.Control
import Derived.Tactics
import Derived.Laws.Sem
import Derived.Laws.NewFold
namespace Go.Proofs.YtjfajpoknnifcaaGreat
open Go

/-- A part of a heap: block number to object. -/
abbrev Frag := Nat → Option Obj
/-- No block at all. -/
def Frag.nil : Frag := fun _ => none
/-- One part lies within another one. -/
def Frag.le (r r' : Frag) : Prop := ∀ b o, r b = some o → r' b = some o
theorem Frag.le_refl (r : Frag) : r.le r := fun _ _ h => h
theorem Frag.le_trans {r s t : Frag} (h : r.le s) (h' : s.le t) : r.le t := fun b o e => h' b o (h b o e)
/-- 'h' is 'h1' and 'h2', which have no block in common. -/
def Split (h h1 h2 : Frag) : Prop := ∀ b, (h1 b = none ∧ h b = h2 b) ∨ (h2 b = none ∧ h b = h1 b)

theorem Split.symm {h h1 h2 : Frag} (s : Split h h1 h2) : Split h h2 h1 := fun b => (s b).symm
theorem Split.nil_left (h : Frag) : Split h Frag.nil h := fun _ => .inl ⟨rfl, rfl⟩
theorem Split.nil_right (h : Frag) : Split h h Frag.nil := fun _ => .inr ⟨rfl, rfl⟩
theorem Split.eq_of_nil_left {h h2 : Frag} (s : Split h Frag.nil h2) : h = h2 := by
  funext b
  rcases s b with ⟨_, e⟩ | ⟨e2, e⟩
  · exact e
  · rw [e, e2]; rfl
theorem Split.left {h h1 h2 : Frag} (s : Split h h1 h2) {b : Nat} {o : Obj} (e : h1 b = some o) : h b = some o := by
  rcases s b with ⟨a, _⟩ | ⟨_, a⟩
  · rw [a] at e; cases e
  · rw [a]; exact e
theorem Split.right {h h1 h2 : Frag} (s : Split h h1 h2) {b : Nat} {o : Obj} (e : h2 b = some o) : h b = some o := s.symm.left e
theorem Split.apart {h h1 h2 : Frag} (s : Split h h1 h2) {b : Nat} {o : Obj} (e : h1 b = some o) : h2 b = none := by
  rcases s b with ⟨a, _⟩ | ⟨a, _⟩
  · rw [a] at e; cases e
  · exact a
theorem Split.none {h h1 h2 : Frag} (s : Split h h1 h2) {b : Nat} (e : h b = none) : h1 b = none ∧ h2 b = none := by
  rcases s b with ⟨a, c⟩ | ⟨a, c⟩
  · exact ⟨a, by rw [← c]; exact e⟩
  · exact ⟨by rw [← c]; exact e, a⟩
/-- The union, for parts that have nothing in common. -/
def Frag.un (h1 h2 : Frag) : Frag := fun b => match h1 b with | some o => some o | Option.none => h2 b
theorem Split.of_un {h1 h2 : Frag} (d : ∀ b, h1 b = Option.none ∨ h2 b = Option.none) : Split (h1.un h2) h1 h2 := fun b => by
  rcases d b with e | e
  · exact .inl ⟨e, by simp [Frag.un, e]⟩
  · refine .inr ⟨e, ?_⟩
    unfold Frag.un
    cases h : h1 b <;> simp [e]
/-- From (1 (2 3)) to ((1 2) 3), by the middle part (1 2). -/
theorem Split.assoc {h h1 h23 h2 h3 : Frag} (s : Split h h1 h23) (t : Split h23 h2 h3) : ∃ h12, Split h h12 h3 ∧ Split h12 h1 h2 := by
  have d : ∀ b, h1 b = Option.none ∨ h2 b = Option.none := fun b => by
    cases e : h1 b with
    | none => exact .inl rfl
    | some o => exact .inr (t.none (s.apart e)).1
  refine ⟨h1.un h2, fun b => ?_, Split.of_un d⟩
  rcases s b with ⟨e, c⟩ | ⟨e, c⟩
  · rcases t b with ⟨e', c'⟩ | ⟨e', c'⟩
    · exact .inl ⟨by simp [Frag.un, e, e'], by rw [c, c']⟩
    · exact .inr ⟨e', by rw [c, c']; simp [Frag.un, e]⟩
  · have := t.none e
    refine .inr ⟨this.2, ?_⟩
    rw [c]
    unfold Frag.un
    cases h : h1 b <;> simp [this.1]

/-- What is claimed of read-only blocks 'r' and of blocks of one's own 'h'; more read-only blocks do no harm. -/
structure HP where
  p : Frag → Frag → Prop
  mono : ∀ {r r' h}, Frag.le r r' → p r h → p r' h

/-- All parts of a list, side by side. -/
def stars : List HP → Frag → Frag → Prop
  | [], _, h => h = Frag.nil
  | P :: Ps, r, h => ∃ h1 h2, Split h h1 h2 ∧ P.p r h1 ∧ stars Ps r h2

theorem stars_mono {r r' : Frag} (hr : r.le r') : ∀ {Ps : List HP} {h : Frag}, stars Ps r h → stars Ps r' h
  | [], _, e => e
  | P :: _, _, ⟨h1, h2, s, a, b⟩ => ⟨h1, h2, s, P.mono hr a, stars_mono hr b⟩

/-- A list of parts as one part. -/
def Star (Ps : List HP) : HP := ⟨stars Ps, fun hr h => stars_mono hr h⟩
/-- Nothing but a fact. -/
def Pure (q : Prop) : HP := ⟨fun _ h => q ∧ h = Frag.nil, fun _ h => h⟩
/-- There is one. -/
def Ex {α : Type} (F : α → HP) : HP := ⟨fun r h => ∃ x, (F x).p r h, fun hr ⟨x, h⟩ => ⟨x, (F x).mono hr h⟩⟩
/-- A block of one's own. -/
def Blk (b : Nat) (o : Obj) : HP := ⟨fun _ h => h = fun c => if c = b then some o else none, fun _ h => h⟩
/-- A read-only block. -/
def Ro (b : Nat) (o : Obj) : HP := ⟨fun r h => h = Frag.nil ∧ r b = some o, fun hr h => ⟨h.1, hr _ _ h.2⟩⟩

theorem stars_swap {P Q : HP} {Ps : List HP} {r h : Frag} (a : stars (P :: Q :: Ps) r h) : stars (Q :: P :: Ps) r h := by
  obtain ⟨h1, h23, s, hp, h2, h3, t, hq, hr⟩ := a
  obtain ⟨h12, u, v⟩ := s.assoc t
  -- h = (h1 h2) h3 ; want h2 (h1 h3)
  have s' := u.symm
  obtain ⟨h31, u', v'⟩ := s'.assoc v
  exact ⟨h2, h31, u'.symm, hq, h1, h3, v'.symm, hp, hr⟩

theorem stars_perm {Ps Qs : List HP} (hp : Ps.Perm Qs) : ∀ {r h : Frag}, stars Ps r h → stars Qs r h := by
  induction hp with
  | nil => exact fun h => h
  | cons x _ ih => exact fun ⟨h1, h2, s, a, b⟩ => ⟨h1, h2, s, a, ih b⟩
  | swap x y l => exact fun h => stars_swap h
  | trans _ _ ih1 ih2 => exact fun h => ih2 (ih1 h)

theorem stars_append {Ps Qs : List HP} {r h : Frag} : stars (Ps ++ Qs) r h ↔ ∃ h1 h2, Split h h1 h2 ∧ stars Ps r h1 ∧ stars Qs r h2 := by
  induction Ps generalizing h with
  | nil =>
    constructor
    · exact fun a => ⟨Frag.nil, h, Split.nil_left h, rfl, a⟩
    · rintro ⟨h1, h2, s, rfl, b⟩
      rw [s.eq_of_nil_left]; exact b
  | cons P Ps ih =>
    constructor
    · rintro ⟨h1, h2, s, a, b⟩
      obtain ⟨h3, h4, t, c, d⟩ := ih.1 b
      obtain ⟨h12, u, v⟩ := s.assoc t
      exact ⟨h12, h4, u, ⟨h1, h3, v, a, c⟩, d⟩
    · rintro ⟨h1, h2, s, ⟨h3, h4, t, a, c⟩, d⟩
      obtain ⟨h5, u, v⟩ := s.symm.assoc t.symm
      exact ⟨h3, h5, u.symm, a, ih.2 ⟨h4, h2, v.symm, c, d⟩⟩

/-- THE ASSERTION ON A WORLD: it has read-only blocks, and blocks of one's own, apart from these, as the list says (and maybe others). -/
def Holds (w : World) (Ps : List HP) : Prop :=
  ∃ r h : Frag, (∀ b o, r b = some o → w.heap[b]? = some o) ∧ (∀ b o, h b = some o → w.heap[b]? = some o) ∧ (∀ b, r b = none ∨ h b = none) ∧ stars Ps r h

theorem Holds.perm {w : World} {Ps Qs : List HP} (H : Holds w Ps) (hp : Ps.Perm Qs) : Holds w Qs :=
  let ⟨r, h, a, b, c, d⟩ := H; ⟨r, h, a, b, c, stars_perm hp d⟩

/-- Only the heap counts. -/
theorem Holds.heap {w w' : World} {Ps : List HP} (H : Holds w Ps) (e : w'.heap = w.heap) : Holds w' Ps :=
  let ⟨r, h, a, b, c, d⟩ := H; ⟨r, h, fun x o q => by rw [e]; exact a x o q, fun x o q => by rw [e]; exact b x o q, c, d⟩

theorem Holds.drop {w : World} {P : HP} {Ps : List HP} (H : Holds w (P :: Ps)) : Holds w Ps := by
  obtain ⟨r, h, a, b, c, h1, h2, s, _, d⟩ := H
  refine ⟨r, h2, a, fun x o q => b x o (s.right q), fun x => ?_, d⟩
  rcases c x with e | e
  · exact .inl e
  · exact .inr (s.none e).2

theorem Holds.nil (w : World) : Holds w [] := ⟨Frag.nil, Frag.nil, fun _ _ (h : none = some _) => (by cases h), fun _ _ (h : none = some _) => (by cases h), fun _ => Or.inl rfl, rfl⟩

/-- From one list to another one, if each heap that has the first has the second. -/
theorem Holds.imp {w : World} {Ps Qs : List HP} (H : Holds w Ps) (f : ∀ r h, stars Ps r h → stars Qs r h) : Holds w Qs :=
  let ⟨r, h, a, b, c, d⟩ := H; ⟨r, h, a, b, c, f r h d⟩

theorem stars_head {P : HP} {Qs Ps : List HP} {r h : Frag} (f : ∀ h', P.p r h' → stars Qs r h') (a : stars (P :: Ps) r h) : stars (Qs ++ Ps) r h := by
  obtain ⟨h1, h2, s, p, b⟩ := a
  exact stars_append.2 ⟨h1, h2, s, f h1 p, b⟩

theorem Holds.star {w : World} {Qs Ps : List HP} (H : Holds w (Star Qs :: Ps)) : Holds w (Qs ++ Ps) := H.imp fun _ _ a => stars_head (fun _ h => h) a
theorem Holds.mkStar {w : World} {Qs Ps : List HP} (H : Holds w (Qs ++ Ps)) : Holds w (Star Qs :: Ps) :=
  H.imp fun _ _ a => by obtain ⟨h1, h2, s, p, b⟩ := stars_append.1 a; exact ⟨h1, h2, s, p, b⟩

/-- Parts may be left behind. -/
theorem Holds.front {w : World} {Ps Qs : List HP} (H : Holds w (Ps ++ Qs)) : Holds w Ps := by
  obtain ⟨r, h, a, b, c, d⟩ := H
  obtain ⟨h1, h2, s, x, _⟩ := stars_append.1 d
  refine ⟨r, h1, a, fun x o q => b x o (s.left q), fun x => ?_, x⟩
  rcases c x with e | e
  · exact .inl e
  · exact .inr (s.none e).1

theorem Holds.ex {w : World} {α : Type} {F : α → HP} {Ps : List HP} (H : Holds w (Ex F :: Ps)) : ∃ x, Holds w (F x :: Ps) := by
  obtain ⟨r, h, a, b, c, h1, h2, s, ⟨x, p⟩, d⟩ := H
  exact ⟨x, r, h, a, b, c, h1, h2, s, p, d⟩
theorem Holds.mkEx {w : World} {α : Type} {F : α → HP} {Ps : List HP} (x : α) (H : Holds w (F x :: Ps)) : Holds w (Ex F :: Ps) :=
  H.imp fun _ _ ⟨h1, h2, s, p, d⟩ => ⟨h1, h2, s, ⟨x, p⟩, d⟩
theorem Holds.pure {w : World} {q : Prop} {Ps : List HP} (H : Holds w (Pure q :: Ps)) : q ∧ Holds w Ps := by
  obtain ⟨r, h, a, b, c, h1, h2, s, ⟨hq, rfl⟩, d⟩ := H
  exact ⟨hq, r, h, a, b, c, by rw [s.eq_of_nil_left]; exact d⟩
theorem Holds.mkPure {w : World} {q : Prop} {Ps : List HP} (hq : q) (H : Holds w Ps) : Holds w (Pure q :: Ps) :=
  H.imp fun _ h d => ⟨Frag.nil, h, Split.nil_left h, ⟨hq, rfl⟩, d⟩

theorem Holds.blk {w : World} {b : Nat} {o : Obj} {Ps : List HP} (H : Holds w (Blk b o :: Ps)) : w.heap[b]? = some o := by
  obtain ⟨r, h, _, hb, _, h1, h2, s, e, _⟩ := H
  exact hb b o (s.left (by rw [e]; simp))
theorem Holds.ro {w : World} {b : Nat} {o : Obj} {Ps : List HP} (H : Holds w (Ro b o :: Ps)) : w.heap[b]? = some o := by
  obtain ⟨r, h, a, _, _, h1, h2, s, ⟨_, e⟩, _⟩ := H
  exact a b o e
theorem Holds.dup {w : World} {b : Nat} {o : Obj} {Ps : List HP} (H : Holds w (Ro b o :: Ps)) : Holds w (Ro b o :: Ro b o :: Ps) := by
  refine H.imp fun r h ⟨h1, h2, s, ⟨e, e'⟩, d⟩ => ?_
  subst e
  exact ⟨Frag.nil, h, Split.nil_left h, ⟨rfl, e'⟩, Frag.nil, h2, s, ⟨rfl, e'⟩, d⟩
/-- What one is told to hold nobody else holds. -/
theorem Holds.ne {w : World} {b c : Nat} {o o' : Obj} {Ps : List HP} (H : Holds w (Blk b o :: Blk c o' :: Ps)) : b ≠ c := by
  rintro rfl
  obtain ⟨r, h, _, _, _, h1, h2, s, e, h3, h4, t, e', _⟩ := H
  have := s.apart (b := b) (o := o) (by rw [e]; simp)
  have := (t.none this).1
  rw [e'] at this; simp at this
/-- A block of one's own becomes read-only, for good. -/
theorem Holds.freeze {w : World} {b : Nat} {o : Obj} {Ps : List HP} (H : Holds w (Blk b o :: Ps)) : Holds w (Ro b o :: Ps) := by
  obtain ⟨r, h, a, hb, c, h1, h2, s, e, d⟩ := H
  have hbo : h b = some o := s.left (by rw [e]; simp)
  have hrb : r b = none := (c b).resolve_right (by rw [hbo]; exact fun q => by cases q)
  have hle : r.le (fun x => if x = b then some o else r x) := fun x q hq => by
    by_cases hx : x = b
    · subst hx; rw [hrb] at hq; cases hq
    · simp [hx, hq]
  have h2b : h2 b = none := s.apart (b := b) (o := o) (by rw [e]; simp)
  refine ⟨_, h2, fun x q hq => ?_, fun x q hq => hb x q (s.right hq), fun x => ?_, Frag.nil, h2, Split.nil_left _, ⟨rfl, by simp⟩, stars_mono hle d⟩
  · by_cases hx : x = b
    · subst hx; simp at hq; subst hq; exact hb _ _ hbo
    · simp [hx] at hq; exact a x q hq
  · by_cases hx : x = b
    · subst hx; exact .inr h2b
    · rcases c x with q | q
      · exact .inl (by simp [hx, q])
      · exact .inr (s.none q).2

/-- An object of one's own may become another one. -/
theorem Holds.set {w w' : World} {b : Nat} {o o' : Obj} {Ps : List HP} (H : Holds w (Blk b o :: Ps)) (hs : w'.heap[b]? = some o') (hk : ∀ c, c ≠ b → w'.heap[c]? = w.heap[c]?) : Holds w' (Blk b o' :: Ps) := by
  obtain ⟨r, h, a, hb, c, h1, h2, s, e, d⟩ := H
  have hbo : h b = some o := s.left (by rw [e]; simp)
  have hrb : r b = none := (c b).resolve_right (by rw [hbo]; exact fun q => by cases q)
  have h2b : h2 b = none := s.apart (b := b) (o := o) (by rw [e]; simp)
  refine ⟨r, fun x => if x = b then some o' else h2 x, fun x q hq => ?_, fun x q hq => ?_, fun x => ?_, fun x => if x = b then some o' else none, h2, fun x => ?_, rfl, d⟩
  · by_cases hx : x = b
    · subst hx; rw [hrb] at hq; cases hq
    · rw [hk x hx]; exact a x q hq
  · by_cases hx : x = b
    · subst hx; simp at hq; subst hq; exact hs
    · simp [hx] at hq; rw [hk x hx]; exact hb x q (s.right hq)
  · by_cases hx : x = b
    · subst hx; exact .inl hrb
    · rcases c x with q | q
      · exact .inl q
      · exact .inr (by simp [hx, (s.none q).2])
  · by_cases hx : x = b
    · subst hx; exact .inr ⟨h2b, by simp⟩
    · exact .inl ⟨by simp [hx], by simp [hx]⟩

/-- A new block. -/
theorem Holds.alloc {w : World} {Ps : List HP} (H : Holds w Ps) (o : Obj) : Holds (w.alloc o) (Blk w.heap.size o :: Ps) := by
  obtain ⟨r, h, a, hb, c, d⟩ := H
  have big : ∀ x q, w.heap[x]? = some q → x ≠ w.heap.size ∧ (w.alloc o).heap[x]? = some q := fun x q hq => by
    have hlt : x < w.heap.size := (Array.getElem?_eq_some_iff.1 hq).1
    refine ⟨by omega, ?_⟩
    simp only [World.alloc]
    rw [Array.getElem?_push_lt hlt, ← Array.getElem?_eq_getElem hlt]; exact hq
  have hnone : h w.heap.size = none := by
    cases e : h w.heap.size with
    | none => rfl
    | some q => exact absurd rfl (big _ _ (hb _ _ e)).1
  refine ⟨r, fun x => if x = w.heap.size then some o else h x, fun x q hq => (big x q (a x q hq)).2, fun x q hq => ?_, fun x => ?_, fun x => if x = w.heap.size then some o else none, h, fun x => ?_, rfl, d⟩
  · by_cases hx : x = w.heap.size
    · subst hx; simp at hq; subst hq; show (w.heap.push o)[w.heap.size]? = some o; simp
    · simp [hx] at hq; exact (big x q (hb x q hq)).2
  · by_cases hx : x = w.heap.size
    · subst hx
      refine .inl ?_
      cases e : r w.heap.size with
      | none => rfl
      | some q => exact absurd rfl (big _ _ (a _ _ e)).1
    · rcases c x with q | q
      · exact .inl q
      · exact .inr (by simp [hx, q])
  · by_cases hx : x = w.heap.size
    · subst hx; exact .inr ⟨hnone, by simp⟩
    · exact .inl ⟨by simp [hx], by simp [hx]⟩

/-- A whole world's blocks as read-only ones. -/
def Old (w : World) : HP := ⟨fun r h => h = Frag.nil ∧ ∀ b o, w.heap[b]? = some o → r b = some o, fun hr h => ⟨h.1, fun b o e => hr _ _ (h.2 b o e)⟩⟩
theorem Holds.start (w : World) : Holds w [Old w] :=
  ⟨fun b => w.heap[b]?, Frag.nil, fun _ _ h => h, fun _ _ (h : none = some _) => (by cases h), fun _ => Or.inr rfl, Frag.nil, Frag.nil, Split.nil_left _, ⟨rfl, fun _ _ h => h⟩, rfl⟩
theorem Holds.old {w w' : World} {Ps : List HP} (H : Holds w' (Old w :: Ps)) {b : Nat} {o : Obj} (h : w.heap[b]? = some o) : w'.heap[b]? = some o := by
  obtain ⟨r, h', a, _, _, h1, h2, s, ⟨_, e⟩, _⟩ := H
  exact a b o (e b o h)
theorem Holds.oldRo {w w' : World} {Ps : List HP} (H : Holds w' (Old w :: Ps)) {b : Nat} {o : Obj} (h : w.heap[b]? = some o) : Holds w' (Ro b o :: Old w :: Ps) :=
  H.imp fun _ h' ⟨h1, h2, s, ⟨e, q⟩, d⟩ => ⟨Frag.nil, h', Split.nil_left _, ⟨rfl, q _ _ h⟩, h1, h2, s, ⟨e, q⟩, d⟩

theorem perm_eraseIdx {α : Type} : ∀ (l : List α) (k : Nat) (x : α), l[k]? = some x → l.Perm (x :: l.eraseIdx k)
  | [], _, _, h => by simp at h
  | y :: l, 0, x, h => by simp at h; subst h; simp
  | y :: l, k + 1, x, h => by
    have := perm_eraseIdx l k x (by simpa using h)
    simp only [List.eraseIdx_cons_succ]
    exact (List.Perm.cons y this).trans (List.Perm.swap x y _)
/-- The k-th part, taken to the front. -/
theorem Holds.get {w : World} {Ps : List HP} (k : Nat) {P : HP} (hk : Ps[k]? = some P) (H : Holds w Ps) : Holds w (P :: Ps.eraseIdx k) := by
  exact H.perm (perm_eraseIdx Ps k P hk)
/-- The parts of some places, in their order, and then the others. -/
def pick (Ps : List HP) : List Nat → List HP
  | [] => Ps
  | k :: ks => match Ps[k]? with
    | some P => P :: pick (Ps.eraseIdx k) ks
    | none => pick Ps ks
theorem Holds.pick {w : World} {Ps : List HP} (ks : List Nat) (H : Holds w Ps) : Holds w (YtjfajpoknnifcaaGreat.pick Ps ks) := by
  refine H.perm ?_
  clear H
  induction ks generalizing Ps with
  | nil => exact List.Perm.refl _
  | cons k ks ih =>
    unfold YtjfajpoknnifcaaGreat.pick
    split
    · rename_i P hP
      exact (perm_eraseIdx Ps k P hP).trans (List.Perm.cons _ ih)
    · exact ih

/-- Facts on a world that no assertion speaks of. -/
def SameEnv (E w : World) : Prop := w.os = E.os ∧ w.output = E.output ∧ w.tape = E.tape
theorem SameEnv.refl (E : World) : SameEnv E E := ⟨rfl, rfl, rfl⟩
theorem SameEnv.trans {E w w' : World} (h : SameEnv E w) (h' : SameEnv w w') : SameEnv E w' := ⟨h'.1.trans h.1, h'.2.1.trans h.2.1, h'.2.2.trans h.2.2⟩

/-- A CONTRACT: with the parts 'pre' the function returns 'v x', for some x of which 'pr x' holds, and leaves the parts 'ch x'; whatever else there is stays. -/
def Tri (P : Program) (f : FuncId) (args : Array Value) (pre : List HP) {X : Type} (v : X → Value) (pr : X → Prop) (ch : X → List HP) : Prop :=
  ∀ (R : HP) (w : World), Holds w (pre ++ [R]) → Calls P f args w fun e w' => ∃ x, e = .returned (v x) ∧ pr x ∧ SameEnv w w' ∧ Holds w' (ch x ++ [R])

end Go.Proofs.YtjfajpoknnifcaaGreat
