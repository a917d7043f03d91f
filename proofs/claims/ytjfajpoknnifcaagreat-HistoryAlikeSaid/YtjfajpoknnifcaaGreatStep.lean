/- A walk by assertions: what is known of a frame and a heap is carried from one operation to the next. No condition. -/
import Derived.Test.YtjfajpoknnifcaaGreatSep
import Derived.Laws.Entries
import Derived.Laws.Cells
import Derived.Orders
import Derived.IntWalk
namespace Go.Proofs.YtjfajpoknnifcaaGreat
open Go

abbrev Fr := List (Nat × Value)
/-- What is known of a frame's slots. -/
def Agrees (φ : Fr) (t : Array Value) : Prop := ∀ i v, List.lookup i φ = some v → t[i]? = some v
/-- What is known of a state: the frame's size, some of its slots, the deferred calls, and the heap. -/
structure Sat (E : World) (n : Nat) (D : List Deferred) (φ : Fr) (Ps : List HP) (a : Act) (w : World) : Prop where
  size : a.tmps.size = n
  ag : Agrees φ a.tmps
  df : a.defers = D
  env : SameEnv E w
  hp : Holds w Ps
/-- From what is known a goal follows. -/
def Dn (E : World) (n : Nat) (D : List Deferred) (G : Act → World → Prop) (φ : Fr) (Ps : List HP) : Prop := ∀ a w, Sat E n D φ Ps a w → G a w
/-- An operand's value. -/
def ev (φ : Fr) : Operand → Option Value
  | .tmp t => List.lookup t φ
  | .const v => some v
  | .global g => some (.pointer (some ⟨g, 0, none⟩))
  | .func f => some (.func (.func f) #[] #[])

section
variable {P : Program} {E : World} {n : Nat} {D : List Deferred} {φ : Fr} {Ps : List HP} {a : Act} {w : World}

theorem Agrees.ev (h : Agrees φ a.tmps) {x : Operand} {v : Value} (e : YtjfajpoknnifcaaGreat.ev φ x = some v) : a.eval x = v := by
  cases x with
  | tmp t =>
    have := h t v e
    show a.tmps.getD t undef = v
    rw [Array.getD_eq_getD_getElem?, this]; rfl
  | const c => exact Option.some.inj e
  | global g => exact Option.some.inj e
  | func f => exact Option.some.inj e

theorem Sat.ev (h : Sat E n D φ Ps a w) {x : Operand} {v : Value} (e : YtjfajpoknnifcaaGreat.ev φ x = some v) : a.eval x = v := h.ag.ev e
theorem Agrees.put {φ : Fr} {t : Array Value} (h : Agrees φ t) {d : Nat} {v : Value} (hd : d < t.size) : Agrees ((d, v) :: φ) (t.setIfInBounds d v) := by
  intro i u e
  by_cases hi : i = d
  · subst hi
    have : u = v := by simpa [List.lookup] using e.symm
    subst this
    simp [hd]
  · have hb : (i == d) = false := by simpa using hi
    rw [Array.getElem?_setIfInBounds_ne (Ne.symm hi)]
    exact h i u (by simpa [List.lookup, hb] using e)
theorem Sat.put (h : Sat E n D φ Ps a w) {d : Nat} (v : Value) (hd : d < n) : Sat E n D ((d, v) :: φ) Ps (a.put (some d) v) w :=
  ⟨by simpa [Act.put] using h.size, h.ag.put (by rw [h.size]; exact hd), h.df, h.env, h.hp⟩
theorem Sat.world {w' : World} {Qs : List HP} (h : Sat E n D φ Ps a w) (e : SameEnv w w') (q : Holds w' Qs) : Sat E n D φ Qs a w' := ⟨h.size, h.ag, h.df, h.env.trans e, q⟩
theorem Sat.hold (h : Sat E n D φ Ps a w) {Qs : List HP} (f : Holds w Ps → Holds w Qs) : Sat E n D φ Qs a w := ⟨h.size, h.ag, h.df, h.env, f h.hp⟩

/-- Fewer slots. -/
def Less (ψ φ : Fr) : Prop := ∀ i v, List.lookup i ψ = some v → List.lookup i φ = some v
theorem Less.nil (φ : Fr) : Less [] φ := fun i v e => by cases e
theorem Less.cons {ψ φ : Fr} {d : Nat} {v : Value} (e : List.lookup d φ = some v) (h : Less ψ φ) : Less ((d, v) :: ψ) φ := by
  intro i u q
  by_cases hi : i = d
  · subst hi
    have : u = v := by simpa [List.lookup] using q.symm
    subst this; exact e
  · have hb : (i == d) = false := by simpa using hi
    exact h i u (by simpa [List.lookup, hb] using q)
theorem Sat.less {ψ : Fr} (h : Sat E n D φ Ps a w) (l : Less ψ φ) : Sat E n D ψ Ps a w := ⟨h.size, fun i v e => h.ag i v (l i v e), h.df, h.env, h.hp⟩

/-! ### Goals that change the assertion alone -/
variable {G : Act → World → Prop}
theorem dn_less {ψ : Fr} (l : Less ψ φ) (k : Dn E n D G ψ Ps) : Dn E n D G φ Ps := fun a w h => k a w (h.less l)
theorem dn_pick (ks : List Nat) {Qs : List HP} (e : pick Ps ks = Qs) (k : Dn E n D G φ Qs) : Dn E n D G φ Ps := fun a w h => k a w (h.hold fun q => e ▸ q.pick ks)
theorem dn_hold {Qs : List HP} (f : ∀ w, Holds w Ps → Holds w Qs) (k : Dn E n D G φ Qs) : Dn E n D G φ Ps := fun a w h => k a w (h.hold (f w))
theorem dn_ex {α : Type} {F : α → HP} (k : ∀ x, Dn E n D G φ (F x :: Ps)) : Dn E n D G φ (Ex F :: Ps) := fun a w h => by
  obtain ⟨x, q⟩ := h.hp.ex
  exact k x a w ⟨h.size, h.ag, h.df, h.env, q⟩
theorem dn_pure {q : Prop} (k : q → Dn E n D G φ Ps) : Dn E n D G φ (Pure q :: Ps) := fun a w h => by
  obtain ⟨hq, q'⟩ := h.hp.pure
  exact k hq a w ⟨h.size, h.ag, h.df, h.env, q'⟩
theorem dn_star {Qs : List HP} (k : Dn E n D G φ (Qs ++ Ps)) : Dn E n D G φ (Star Qs :: Ps) := fun a w h => k a w (h.hold Holds.star)
theorem dn_fact {q : Prop} (f : ∀ w, Holds w Ps → q) (k : q → Dn E n D G φ Ps) : Dn E n D G φ Ps := fun a w h => k (f w h.hp) a w h
/-- What a list gives beside itself, for good. -/
theorem dn_drop {P1 : HP} (k : Dn E n D G φ Ps) : Dn E n D G φ (P1 :: Ps) := fun a w h => k a w (h.hold Holds.drop)

/-! ### Control -/
variable {Q : Exit → Act → World → Prop}
theorem dn_seq {x y : Code} (h : Dn E n D (x.wp P (Exit.then (y.wp P Q) Q)) φ Ps) : Dn E n D ((Code.seq x y).wp P Q) φ Ps := fun a w s => wp_seq (h a w s)
theorem dn_block {id : Nat} {c : Code} (h : Dn E n D (c.wp P (Exit.inBlock id Q)) φ Ps) : Dn E n D ((Code.block id c).wp P Q) φ Ps := fun a w s => wp_block (h a w s)
theorem dn_skip (h : Dn E n D (Q .normal) φ Ps) : Dn E n D (Code.skip.wp P Q) φ Ps := fun a w s => wp_skip (h a w s)
theorem dn_ret (h : Dn E n D (Q .ret) φ Ps) : Dn E n D (Code.ret.wp P Q) φ Ps := fun a w s => wp_ret (h a w s)
theorem dn_exit {id : Nat} (h : Dn E n D (Q (.exit id)) φ Ps) : Dn E n D ((Code.exit id).wp P Q) φ Ps := fun a w s => wp_exit (h a w s)
theorem dn_cond {c : Operand} {x y : Code} {p : Prop} [Decidable p] (hc : ev φ c = some (.bool (decide p))) (ht : p → Dn E n D (x.wp P Q) φ Ps) (hf : ¬ p → Dn E n D (y.wp P Q) φ Ps) :
    Dn E n D ((Code.cond c x y).wp P Q) φ Ps := fun a w s => by
  by_cases hp : p
  · exact wp_cond (t := true) (by rw [s.ev hc, decide_eq_true hp]) (by rw [if_pos rfl]; exact ht hp a w s)
  · exact wp_cond (t := false) (by rw [s.ev hc, decide_eq_false hp]) (by rw [if_neg (by simp)]; exact hf hp a w s)
theorem dn_cond_true {c : Operand} {x y : Code} (hc : ev φ c = some (.bool true)) (ht : Dn E n D (x.wp P Q) φ Ps) : Dn E n D ((Code.cond c x y).wp P Q) φ Ps :=
  fun a w s => wp_cond (t := true) (s.ev hc) (by rw [if_pos rfl]; exact ht a w s)
theorem dn_cond_false {c : Operand} {x y : Code} (hc : ev φ c = some (.bool false)) (hf : Dn E n D (y.wp P Q) φ Ps) : Dn E n D ((Code.cond c x y).wp P Q) φ Ps :=
  fun a w s => wp_cond (t := false) (s.ev hc) (by rw [if_neg (by simp)]; exact hf a w s)
theorem dn_region {id : Nat} {ops : Array Oper} (h : Dn E n D (wpList P ops Q ops.toList) φ Ps) : Dn E n D ((Code.region id ops false).wp P Q) φ Ps := fun a w s => wp_region_list (h a w s)
theorem dn_reg {id : Nat} {l : List Oper} (h : Dn E n D (wpList P l.toArray Q l) φ Ps) : Dn E n D ((Code.region id l.toArray false).wp P Q) φ Ps := fun a w s => wp_region_lit (h a w s)
theorem dn_then {K : Act → World → Prop} (h : Dn E n D K φ Ps) : Dn E n D (Exit.then K Q .normal) φ Ps := h
theorem dn_thenR {K : Act → World → Prop} (h : Dn E n D (Q .ret) φ Ps) : Dn E n D (Exit.then K Q .ret) φ Ps := h
theorem dn_thenX {K : Act → World → Prop} {i : Nat} (h : Dn E n D (Q (.exit i)) φ Ps) : Dn E n D (Exit.then K Q (.exit i)) φ Ps := h
theorem dn_inB {i : Nat} (h : Dn E n D (Q .normal) φ Ps) : Dn E n D (Exit.inBlock i Q .normal) φ Ps := h
theorem dn_inBR {i : Nat} (h : Dn E n D (Q .ret) φ Ps) : Dn E n D (Exit.inBlock i Q .ret) φ Ps := h
theorem dn_inBX {i : Nat} (h : Dn E n D (Q .normal) φ Ps) : Dn E n D (Exit.inBlock i Q (.exit i)) φ Ps := fun a w s => by show (if i = i then Q .normal a w else Q (.exit i) a w); rw [if_pos rfl]; exact h a w s
theorem dn_inBY {i j : Nat} (hne : Nat.beq j i = false) (h : Dn E n D (Q (.exit j)) φ Ps) : Dn E n D (Exit.inBlock i Q (.exit j)) φ Ps := fun a w s => by
  show (if j = i then Q .normal a w else Q (.exit j) a w)
  rw [if_neg (Nat.ne_of_beq_eq_false hne)]
  exact h a w s
theorem dn_done {ops : Array Oper} (h : Dn E n D (Q .normal) φ Ps) : Dn E n D (wpList P ops Q []) φ Ps := fun a w s => h a w s
/-- Ways meet again: what they have in common. -/
theorem dn_cut {x y : Code} {α : Type} (pr : α → Prop) (ψ : α → Fr) (Qs : α → List HP)
    (h : Dn E n D (x.wp P (Exit.then (fun a w => ∃ g, pr g ∧ Sat E n D (ψ g) (Qs g) a w) Q)) φ Ps) (k : ∀ g, pr g → Dn E n D (y.wp P Q) (ψ g) (Qs g)) : Dn E n D ((Code.seq x y).wp P Q) φ Ps :=
  fun a w s => wp_seq (wp_mono (h a w s) fun e a w q => by
    cases e with
    | normal => obtain ⟨g, hg, st⟩ := q; exact k g hg a w st
    | _ => exact q)
theorem dn_meet {α : Type} {pr : α → Prop} {ψ : α → Fr} {Qs : α → List HP} (g : α) (hg : pr g) (l : Less (ψ g) φ) (ks : List Nat) {Rs : List HP} (e : pick Ps ks = Qs g ++ Rs) :
    Dn E n D (fun a w => ∃ g, pr g ∧ Sat E n D (ψ g) (Qs g) a w) φ Ps := fun a w s => by
  have q := s.hp.pick ks
  rw [e] at q
  exact ⟨g, hg, s.size, fun i v x => s.ag i v (l i v x), s.df, s.env, q.front⟩
/-- A loop: what holds at each round's head, and what goes down. -/
theorem dn_loop {c : Code} {α : Type} (pr : α → Prop) (μ : α → Nat) (ψ : α → Fr) (Qs : α → List HP)
    (h₀ : Dn E n D (fun a w => ∃ g, pr g ∧ Sat E n D (ψ g) (Qs g) a w) φ Ps)
    (round : ∀ g, pr g → Dn E n D (c.wp P (Exit.then (fun a w => ∃ g', (μ g' < μ g ∧ pr g') ∧ Sat E n D (ψ g') (Qs g') a w) Q)) (ψ g) (Qs g)) : Dn E n D ((Code.loop c).wp P Q) φ Ps := by
  intro a w s
  let I : Act → World → Prop := fun a w => ∃ g, pr g ∧ Sat E n D (ψ g) (Qs g) a w
  let M : Act → World → Nat → Prop := fun a w m => ∃ g, μ g ≤ m ∧ pr g ∧ Sat E n D (ψ g) (Qs g) a w
  have key : ∀ a w, I a w → ∃ m, M a w m ∧ ∀ m', M a w m' → m ≤ m' := by
    intro a w ⟨g, hg, st⟩
    have hex : ∃ m, M a w m := ⟨μ g, g, Nat.le_refl _, hg, st⟩
    obtain ⟨m, hm⟩ := hex
    induction m using Nat.strongRecOn with
    | _ m ih =>
      by_cases hs : ∃ m', m' < m ∧ M a w m'
      · obtain ⟨m', hlt, hm'⟩ := hs
        exact ih m' hlt hm'
      · exact ⟨m, hm, fun m' hm' => Nat.le_of_not_lt fun hlt => hs ⟨m', hlt, hm'⟩⟩
  let ν : Act → World → Nat := fun a w => open Classical in if h : I a w then Classical.choose (key a w h) else 0
  have hν : ∀ a w, I a w → M a w (ν a w) ∧ ∀ m', M a w m' → ν a w ≤ m' := by
    intro a w h
    have := Classical.choose_spec (key a w h)
    simp only [ν, dif_pos h]
    exact this
  refine wp_loop I ν (h₀ a w s) fun a w hI => ?_
  obtain ⟨g, hle, hg, st⟩ := (hν a w hI).1
  refine wp_mono (round g hg a w st) fun e a' w' q => ?_
  cases e with
  | normal =>
    obtain ⟨g', ⟨hlt, hg'⟩, st'⟩ := q
    have hI' : I a' w' := ⟨g', hg', st'⟩
    refine ⟨hI', ?_⟩
    have := (hν a' w' hI').2 (μ g') ⟨g', Nat.le_refl _, hg', st'⟩
    omega
  | _ => exact q
end
end Go.Proofs.YtjfajpoknnifcaaGreat
