/- A statement whose order Go leaves open: what holds in whatever order its operations come. No condition. -/
import Derived.Test.YtjfajpoknnifcaaGreatMem
import Derived.Still
namespace Go.Proofs.YtjfajpoknnifcaaGreat
open Go

/-- No way out but the next operation. -/
abbrev NQ : Exit → Act → World → Prop := fun _ _ _ => False
/-- Whatever is picked; each operation keeps 'S', which may turn at an operation that is a bar. -/
def anyS (P : Program) (ops : Array Oper) (bar : Nat → Bool) (S : Nat → World → Prop) (G : Act → World → Prop) : Nat → Nat → Array Bool → Act → World → Prop
  | 0, _, listed, a, w => Region.ready .any ops listed = [] ∧ G a w
  | f + 1, s, listed, a, w => (Region.ready .any ops listed = [] → G a w) ∧ ∀ i ∈ Region.ready .any ops listed,
      wpOp P ops NQ i (fun a' w' => S (if bar i then s + 1 else s) w' ∧ anyS P ops bar S G f (if bar i then s + 1 else s) (listed.setIfInBounds i true) a' w') a w

section
variable {P : Program} {ops : Array Oper} {bar : Nat → Bool} {S : Nat → World → Prop} {G : Act → World → Prop}

theorem op_weaker {i : Nat} {K K' : Act → World → Prop} {Q : Exit → Act → World → Prop} {a : Act} {w : World} (h : ∀ a w, K a w → K' a w) (hh : wpOp P ops NQ i K a w) : wpOp P ops Q i K' a w := by
  unfold wpOp at *
  split
  · rename_i ho; simp only [ho] at hh; exact h _ _ hh
  · rename_i o ho
    simp only [ho] at hh
    split
    · rename_i hw
      simp only [hw, if_true] at hh
      rcases hh with hh | ⟨_, _, _, hf⟩
      · refine .inl ?_
        unfold Oper.wp at *
        generalize (execOp a.eval o).run P w = r at *
        cases r with
        | ok n w' =>
          cases n <;> simp only [Oper.upon] at hh ⊢
          case value u => exact h _ _ hh
          case skip => exact h _ _ hh
          case defer d => exact h _ _ hh
          case enter f args =>
            refine Calls.mono hh fun e w'' he => ?_
            cases e with
            | returned u => exact h _ _ he
            | panicked c => exact he.elim
            | outgrown => obtain ⟨_, _, hf⟩ := he; exact hf.elim
          case row row args => exact Rows.mono hh fun u w'' he => h _ _ he
        | halt x w' => cases x <;> first | exact hh.elim | (simp only [Oper.upon] at hh; exact hh.elim)
      · exact hf.elim
    · rename_i hw; simp only [hw] at hh; exact h _ _ hh
theorem any_of_S {Q : Exit → Act → World → Prop} (hG : ∀ a w, G a w → Q .normal a w) : ∀ (f s : Nat) (listed : Array Bool) (a : Act) (w : World), anyS P ops bar S G f s listed a w → wpAny P .any ops Q f listed a w
  | 0, _, _, _, _, h => ⟨h.1, hG _ _ h.2⟩
  | f + 1, _, _, _, _, h => ⟨fun h0 => hG _ _ (h.1 h0), fun i hi => op_weaker (fun a' w' hk => any_of_S hG f _ _ a' w' hk.2) (h.2 i hi)⟩

/-- In each world of a class an operation yields one value and leaves the world alone. -/
def YieldsC (P : Program) (ops : Array Oper) (C : World → Prop) (o : Oper) (v : Value) (a : Act) : Prop :=
  (Region.wanted o (yielded ops a.tmps) = true ∧ ∀ w, C w → (execOp a.eval o).run P w = .ok (.value v) w) ∨ (Region.wanted o (yielded ops a.tmps) = false ∧ v = undef)
theorem YieldsC.same {C : World → Prop} {o : Oper} {v : Value} {a a' : Act} (hy : YieldsC P ops C o v a) (he : execOp a'.eval o = execOp a.eval o)
    (hw : Region.wanted o (yielded ops a'.tmps) = Region.wanted o (yielded ops a.tmps)) : YieldsC P ops C o v a' := by
  unfold YieldsC at *
  rw [he, hw]; exact hy
theorem op_comm {C : World → Prop} {j : Nat} {oi oj : Oper} {v : Value} (hj : ops[j]? = some oj) (hap : oi.apart ops oj = true) (hsi : ∀ cs b, oi.op ≠ .select cs b) (hsj : ∀ cs b, oj.op ≠ .select cs b)
    {K : Act → World → Prop} {a : Act} {w : World} (hy : YieldsC P ops C oi v a) (h : wpOp P ops NQ j K (a.put oi.dst v) w) : wpOp P ops NQ j (fun a' w' => YieldsC P ops C oi v a' ∧ K (a'.put oi.dst v) w') a w := by
  obtain ⟨h1, h2, h3⟩ := Oper.apart_spec hap
  have keep : ∀ (a : Act), YieldsC P ops C oi v a → ∀ u, YieldsC P ops C oi v (a.put oj.dst u) := fun a hy u => hy.same (execOp_put oi hsi a oj.dst u h3) (wanted_put oi a oj.dst u h3)
  have keepD : ∀ d, YieldsC P ops C oi v { a with defers := d :: a.defers } := fun d => hy.same rfl rfl
  unfold wpOp at *
  simp only [hj] at *
  rw [wanted_put oj a oi.dst v h1] at h
  split
  · rename_i hw
    simp only [hw, if_true] at h
    rcases h with h | ⟨_, _, _, hf⟩
    case inr => exact hf.elim
    refine .inl ?_
    unfold Oper.wp at *
    rw [execOp_put oj hsj a oi.dst v h1] at h
    generalize (execOp a.eval oj).run P w = r at *
    cases r with
    | ok n w' =>
      cases n <;> simp only [Oper.upon] at h ⊢
      case value u => exact ⟨keep a hy u, by rw [← Act.put_comm a v u h2]; exact h⟩
      case skip => exact ⟨keep a hy _, by rw [← Act.put_comm a v undef h2]; exact h⟩
      case defer d =>
        refine ⟨keep _ (keepD d) _, ?_⟩
        rw [← Act.put_comm _ v undef h2, ← Act.put_defers]
        exact h
      case enter f args =>
        refine Calls.mono h fun e w'' he => ?_
        cases e with
        | returned u => exact ⟨keep a hy u, by rw [← Act.put_comm a v u h2]; exact he⟩
        | panicked c => exact he.elim
        | outgrown => exact he
      case row row args => exact Rows.mono h fun u w'' he => ⟨keep a hy u, by rw [← Act.put_comm a v u h2]; exact he⟩
    | halt x w' => cases x <;> first | exact h.elim | (simp only [Oper.upon] at h; exact h.elim)
  · rename_i hw
    simp only [hw] at h
    exact ⟨keep a hy _, by rw [← Act.put_comm a v undef h2]; exact h⟩
theorem YieldsC.op {C : World → Prop} {i : Nat} {o : Oper} {v : Value} {a : Act} (hi : ops[i]? = some o) (hy : YieldsC P ops C o v a) {K : Act → World → Prop} {Q : Exit → Act → World → Prop} {w : World} (hC : C w) (h : K (a.put o.dst v) w) : wpOp P ops Q i K a w := by
  unfold wpOp
  simp only [hi]
  rcases hy with ⟨hw, hv⟩ | ⟨hw, rfl⟩
  · simp only [hw, if_true, Oper.wp, hv w hC, Oper.upon]; exact .inl h
  · simp only [hw, Bool.false_eq_true, if_false]; exact h

/-- One waits for another one that isn't listed yet, itself or by others that aren't listed yet. -/
inductive Behind (ops : Array Oper) (listed : Array Bool) (i : Nat) : Nat → Prop
  | one {j : Nat} {oj : Oper} {e : Edge} : ops[j]? = some oj → e ∈ oj.after → Region.binds .any e = true → e.on = i → Behind ops listed i j
  | more {j : Nat} {oj : Oper} {e : Edge} : ops[j]? = some oj → e ∈ oj.after → Region.binds .any e = true → listed.getD e.on false = false → Behind ops listed i e.on → Behind ops listed i j
theorem Behind.not {listed : Array Bool} {i j : Nat} (hi : listed.getD i false = false) (h : Behind ops listed i j) : j ∉ Region.ready .any ops listed := fun hj => by
  obtain ⟨_, oj, hoj, hall⟩ := mem_ready.1 hj
  cases h with
  | one h1 h2 h3 h4 =>
    rw [hoj] at h1; cases h1
    have := hall _ h2 h3
    rw [h4, hi] at this; cases this
  | more h1 h2 h3 h4 _ =>
    rw [hoj] at h1; cases h1
    have := hall _ h2 h3
    rw [h4] at this; cases this
theorem Behind.keep {listed : Array Bool} {i j k : Nat} (hi : listed.getD i false = false) (hk : k ∈ Region.ready .any ops listed) (h : Behind ops listed i j) : Behind ops (listed.setIfInBounds k true) i j := by
  induction h with
  | one h1 h2 h3 h4 => exact .one h1 h2 h3 h4
  | @more j oj e h1 h2 h3 h4 h5 ih =>
    refine .more h1 h2 h3 ?_ ih
    have hne : k ≠ e.on := fun q => h5.not hi (q ▸ hk)
    rw [getD_set_ne false hne]; exact h4
def behindS (ops : Array Oper) (listed : Array Bool) (i : Nat) : List Nat := (List.range ops.size).foldl (fun S j => match ops[j]? with
  | some oj => if oj.after.any (fun e => Region.binds .any e && (e.on == i || (S.contains e.on && !listed.getD e.on false))) then j :: S else S
  | none => S) []
theorem behindS_spec {listed : Array Bool} {i : Nat} : ∀ j ∈ behindS ops listed i, Behind ops listed i j := by
  unfold behindS
  suffices ∀ (l : List Nat) (S : List Nat), (∀ j ∈ S, Behind ops listed i j) → ∀ j ∈ l.foldl (fun S j => match ops[j]? with
      | some oj => if oj.after.any (fun e => Region.binds .any e && (e.on == i || (S.contains e.on && !listed.getD e.on false))) then j :: S else S
      | none => S) S, Behind ops listed i j from this _ [] (fun j h => by cases h)
  intro l
  induction l with
  | nil => exact fun S h => h
  | cons k l ih =>
    intro S h
    refine ih _ fun j hj => ?_
    dsimp only at hj
    cases ho : ops[k]? with
    | none => rw [ho] at hj; exact h j hj
    | some oj =>
      rw [ho] at hj
      simp only at hj
      split at hj
      · rename_i hc
        rcases List.mem_cons.1 hj with rfl | hj
        · obtain ⟨e, he, hq⟩ := Array.any_eq_true'.1 hc
          simp only [Bool.and_eq_true, Bool.or_eq_true, beq_iff_eq, Bool.not_eq_true', List.contains_iff_mem] at hq
          rcases hq with ⟨hb, hq | ⟨hm, hu⟩⟩
          · exact .one ho he hb hq
          · exact .more ho he hb hu (h _ hm)
        · exact h j hj
      · exact h j hj

/-- An operation that only looks may come first. -/
theorem anyS_first {i : Nat} {oi : Oper} {v : Value} (hi : ops[i]? = some oi) (hsel : ∀ (j : Nat) (o : Oper) cs b, ops[j]? = some o → o.op ≠ .select cs b) (hb : bar i = false) (C : Nat → World → Prop)
    (flex : Bool) (hf : flex = true → ∀ s w, C s w) (hr : flex = false → C = S) :
    ∀ (f s : Nat) (listed : Array Bool) (a : Act) (w : World), (flex = false → ∀ j, j < ops.size → bar j = true → listed.getD j false = true ∨ Behind ops listed i j) → (∀ j oj, ops[j]? = some oj → j ≠ i → listed.getD j true = false → (∀ e ∈ oj.after, Region.binds .any e = true → e.on ≠ i) → oi.apart ops oj = true) →
      i ∈ Region.ready .any ops listed → (∀ t, (flex = true ∨ t = s) → YieldsC P ops (C t) oi v a) → S s w → anyS P ops bar S G f s (listed.setIfInBounds i true) (a.put oi.dst v) w → anyS P ops bar S G (f + 1) s listed a w := by
  have hC : ∀ s w, S s w → C s w := fun s w h => by
    cases hx : flex with
    | true => exact hf hx s w
    | false => rw [hr hx]; exact h
  intro f
  induction f with
  | zero =>
    intro s listed a w _ _ hrd hy hS H
    refine ⟨fun h0 => (by rw [h0] at hrd; cases hrd), fun j hj => ?_⟩
    by_cases hji : j = i
    · subst hji
      exact (hy s (.inr rfl)).op hi (hC s w hS) (by simp only [hb, Bool.false_eq_true, if_false]; exact ⟨hS, H⟩)
    · have := ready_mono hj hji
      rw [H.1] at this
      cases this
  | succ f ih =>
    intro s listed a w hbeh hfree hrd hy hS H
    refine ⟨fun h0 => (by rw [h0] at hrd; cases hrd), fun j hj => ?_⟩
    by_cases hji : j = i
    · subst hji
      exact (hy s (.inr rfl)).op hi (hC s w hS) (by simp only [hb, Bool.false_eq_true, if_false]; exact ⟨hS, H⟩)
    · have h1 := H.2 j (ready_mono hj hji)
      obtain ⟨hjun, oj, hoj, hall⟩ := mem_ready.1 hj
      have hiun := (mem_ready.1 hrd).1
      have hun : listed.getD i false = false := by
        rcases Nat.lt_or_ge i listed.size with h' | h'
        · simp [h'] at hiun ⊢; exact hiun
        · simp [Array.getElem?_eq_none h'] at hiun
      have hnot : ∀ e ∈ oj.after, Region.binds .any e = true → e.on ≠ i := fun e he hbn heq => by
        have h2 := hall e he hbn
        rw [heq, hun] at h2; cases h2
      have hap := hfree j oj hoj hji hjun hnot
      -- the same stage, or whatever stage
      have hst : flex = true ∨ (if bar j then s + 1 else s) = s := by
        cases hx : flex with
        | true => exact .inl rfl
        | false =>
          refine .inr ?_
          cases hbj : bar j with
          | false => simp
          | true =>
            rcases hbeh hx j (Array.getElem?_eq_some_iff.1 hoj).1 hbj with q | q
            · have : listed.getD j true = true := by
                rcases Nat.lt_or_ge j listed.size with h' | h'
                · simp [h'] at q ⊢; exact q
                · simp [Array.getElem?_eq_none h']
              rw [this] at hjun; cases hjun
            · exact absurd hj (q.not hun)
      have hbeh' : flex = false → ∀ k, k < ops.size → bar k = true → (listed.setIfInBounds j true).getD k false = true ∨ Behind ops (listed.setIfInBounds j true) i k := fun hx k hks hk => by
        rcases hbeh hx k hks hk with q | q
        · refine .inl ?_
          by_cases hjk : j = k
          · subst hjk
            rcases Nat.lt_or_ge j listed.size with h' | h'
            · simp [h']
            · simp [Array.getElem?_eq_none h'] at q
          · rw [getD_set_ne false hjk]; exact q
        · exact .inr (q.keep hun hj)
      have hfree' : ∀ k ok, ops[k]? = some ok → k ≠ i → (listed.setIfInBounds j true).getD k true = false → (∀ e ∈ ok.after, Region.binds .any e = true → e.on ≠ i) → oi.apart ops ok = true := fun k ok hk hki hkun hno => by
        refine hfree k ok hk hki ?_ hno
        by_cases hjk : j = k
        · subst hjk; exact hjun
        · rw [getD_set_ne true hjk] at hkun; exact hkun
      -- carry all classes at once
      have hall2 : YieldsC P ops (fun w => ∃ t, (flex = true ∨ t = s) ∧ C t w) oi v a := by
        rcases hy s (.inr rfl) with ⟨hw, _⟩ | ⟨hw, hv⟩
        · refine .inl ⟨hw, fun w' ⟨t, ht, hc⟩ => ?_⟩
          rcases hy t ht with ⟨_, hv⟩ | ⟨hw', _⟩
          · exact hv w' hc
          · rw [hw] at hw'; cases hw'
        · exact .inr ⟨hw, hv⟩
      have h2 := op_comm hoj hap (fun cs b => hsel i oi cs b hi) (fun cs b => hsel j oj cs b hoj) hall2 h1
      refine op_weaker (fun a' w' hk => ?_) h2
      obtain ⟨hyc, hS', hrest⟩ := hk
      refine ⟨hS', ih _ _ a' w' hbeh' hfree' (ready_mono hrd (Ne.symm hji)) (fun t ht => ?_) hS' ?_⟩
      · have ht' : flex = true ∨ t = s := by
          rcases ht with ht | ht
          · exact .inl ht
          · rcases hst with h | h
            · exact .inl h
            · exact .inr (ht.trans h)
        rcases hyc with ⟨hw, hv⟩ | ⟨hw, hv⟩
        · exact .inl ⟨hw, fun w'' hc => hv w'' ⟨t, ht', hc⟩⟩
        · exact .inr ⟨hw, hv⟩
      · rw [Array.setIfInBounds_comm _ _ hji]
        exact hrest
end

/-! ### With assertions -/
/-- What a stage keeps. -/
def Keeps (CS : Nat → List HP) (s : Nat) (w : World) : Prop := Holds w (CS s)
def Ds (P : Program) (E : World) (n : Nat) (D : List Deferred) (ops : Array Oper) (bar : Nat → Bool) (CS : Nat → List HP) (G : Act → World → Prop) (f s : Nat) (listed : Array Bool) (φ : Fr) (Ps : List HP) : Prop :=
  ∀ a w, Sat E n D φ Ps a w → Holds w (CS s) → anyS P ops bar (Keeps CS) G f s listed a w

/-- Closed facts on a region: an operation may come first. -/
def firstB (ops : Array Oper) (bar : Nat → Bool) (listed : Array Bool) (i : Nat) (flex : Bool) : Bool :=
  Region.noSelect ops && !bar i && (Region.ready .any ops listed).contains i && Region.free .any ops listed i &&
    (flex || (fun S : List Nat => (List.range ops.size).all fun j => !bar j || listed.getD j false || S.contains j) (behindS ops listed i))

section
variable {P : Program} {E : World} {n : Nat} {D : List Deferred} {φ : Fr} {Ps : List HP} {ops : Array Oper} {bar : Nat → Bool} {CS : Nat → List HP} {G : Act → World → Prop} {f s : Nat} {listed listed' : Array Bool} {o : Oper} {v : Value} {d : Nat}

theorem dn_any {id : Nat} {Q : Exit → Act → World → Prop} (hm : P.follows .mixedOrders = true) (bar : Nat → Bool) (CS : Nat → List HP) (ks : List Nat) {Rs : List HP} (hk : pick Ps ks = CS 0 ++ Rs) {N : Nat} (hN : ops.size = N) {l0 : Array Bool} (hl : Array.replicate N false = l0)
    (h : Ds P E n D ops bar CS (Q .normal) N 0 l0 φ Ps) : Dn E n D ((Code.region id ops true).wp P Q) φ Ps := fun a w st => by
  subst hN
  subst hl
  refine wp_region_any hm (any_of_S (bar := bar) (S := Keeps CS) (G := Q .normal) (fun _ _ q => q) _ 0 _ _ _ ?_)
  have st' : Sat E n D φ Ps a { w with drawn := w.drawn + 1 } := st.world ⟨rfl, rfl, rfl⟩ (st.hp.heap rfl)
  have hh := st'.hp.pick ks
  rw [hk] at hh
  exact h a _ st' hh.front
theorem free_of {i : Nat} {oi : Oper} (hi : ops[i]? = some oi) (h : Region.free .any ops listed i = true) :
    ∀ j oj, ops[j]? = some oj → j ≠ i → listed.getD j true = false → (∀ e ∈ oj.after, Region.binds .any e = true → e.on ≠ i) → oi.apart ops oj = true := Region.free_spec hi h
theorem ds_look (i : Nat) {flex : Bool} (hB : firstB ops bar listed i flex = true) (hi : ops[i]? = some o) (hl : listed.setIfInBounds i true = listed') (hd : o.dst = some d) (hn : Nat.blt d n = true)
    (hy : ∀ a w, Sat E n D φ Ps a w → YieldsC P ops (if flex then (fun _ => True) else Keeps CS s) o v a) (k : Ds P E n D ops bar CS G f s listed' ((d, v) :: φ) Ps) : Ds P E n D ops bar CS G (f + 1) s listed φ Ps := fun a w st hS => by
  subst hl
  unfold firstB at hB
  simp only [Bool.and_eq_true, Bool.not_eq_true'] at hB
  obtain ⟨⟨⟨⟨hsel, hb⟩, hr⟩, hf⟩, hbar⟩ := hB
  refine anyS_first (v := v) hi (Region.noSelect_spec hsel) hb (if flex then (fun _ _ => True) else Keeps CS) flex (fun hx s w => by rw [if_pos hx]; trivial) (fun hx => by rw [if_neg (by simp [hx])]) f s listed a w (fun hx j hlt hbj => ?_) (free_of hi hf) (by simpa using hr) (fun t ht => ?_) hS ?_
  · rw [hx, Bool.false_or] at hbar
    have := List.all_eq_true.1 hbar j (List.mem_range.2 hlt)
    simp only [hbj, Bool.not_true, Bool.false_or, Bool.or_eq_true, List.contains_iff_mem] at this
    rcases this with q | q
    · exact .inl q
    · exact .inr (behindS_spec j q)
  · have := hy a w st
    cases flex with
    | true => exact this
    | false =>
      rcases ht with ht | rfl
      · cases ht
      · exact this
  · have := k (a.put (some d) v) w (st.put v (Nat.le_of_ble_eq_true hn)) hS
    rw [hd]; exact this
/-- One that only reckons. -/
theorem ds_t (i : Nat) (hB : firstB ops bar listed i true = true) (hi : ops[i]? = some o) (hl : listed.setIfInBounds i true = listed') (hg : o.guard = none) (hd : o.dst = some d) (hn : Nat.blt d n = true) (h : OpR P o φ [] v)
    (k : Ds P E n D ops bar CS G f s listed' ((d, v) :: φ) Ps) : Ds P E n D ops bar CS G (f + 1) s listed φ Ps :=
  ds_look i hB hi hl hd hn (fun a w st => .inl ⟨by simp [Region.wanted, hg], fun w' _ => h a w' st.ag (Holds.nil w')⟩) k
/-- One that reads. -/
theorem ds_r (i : Nat) (hB : firstB ops bar listed i false = true) (hi : ops[i]? = some o) (hl : listed.setIfInBounds i true = listed') (hg : o.guard = none) (hd : o.dst = some d) (hn : Nat.blt d n = true) (j : Nat) {C : HP} (hC : (CS s)[j]? = some C)
    (h : OpR P o φ [C] v) (k : Ds P E n D ops bar CS G f s listed' ((d, v) :: φ) Ps) : Ds P E n D ops bar CS G (f + 1) s listed φ Ps :=
  ds_look i hB hi hl hd hn (fun a w st => .inl ⟨by simp [Region.wanted, hg], fun w' hw => h a w' st.ag (holds_one hC hw)⟩) k
/-- Guards. -/
theorem ds_wt (i : Nat) (hB : firstB ops bar listed i true = true) (hi : ops[i]? = some o) (hl : listed.setIfInBounds i true = listed') {j : Nat} {b : Bool} {oj : Oper} {dj : Nat} (hg : o.guard = some (j, b)) (hj : ops[j]? = some oj) (hdj : oj.dst = some dj)
    (hv : List.lookup dj φ = some (.bool b)) (hd : o.dst = some d) (hn : Nat.blt d n = true) (h : OpR P o φ [] v) (k : Ds P E n D ops bar CS G f s listed' ((d, v) :: φ) Ps) : Ds P E n D ops bar CS G (f + 1) s listed φ Ps :=
  ds_look i hB hi hl hd hn (fun a w st => .inl ⟨by simp [Region.wanted, hg, yielded, hj, hdj, st.ag _ _ hv], fun w' _ => h a w' st.ag (Holds.nil w')⟩) k
theorem ds_wr (i : Nat) (hB : firstB ops bar listed i false = true) (hi : ops[i]? = some o) (hl : listed.setIfInBounds i true = listed') {j : Nat} {b : Bool} {oj : Oper} {dj : Nat} (hg : o.guard = some (j, b)) (hj : ops[j]? = some oj) (hdj : oj.dst = some dj)
    (hv : List.lookup dj φ = some (.bool b)) (hd : o.dst = some d) (hn : Nat.blt d n = true) (jc : Nat) {C : HP} (hC : (CS s)[jc]? = some C) (h : OpR P o φ [C] v) (k : Ds P E n D ops bar CS G f s listed' ((d, v) :: φ) Ps) :
    Ds P E n D ops bar CS G (f + 1) s listed φ Ps :=
  ds_look i hB hi hl hd hn (fun a w st => .inl ⟨by simp [Region.wanted, hg, yielded, hj, hdj, st.ag _ _ hv], fun w' hw => h a w' st.ag (holds_one hC hw)⟩) k
theorem ds_no (i : Nat) (hB : firstB ops bar listed i true = true) (hi : ops[i]? = some o) (hl : listed.setIfInBounds i true = listed') {j : Nat} {b c : Bool} {oj : Oper} {dj : Nat} (hg : o.guard = some (j, b)) (hj : ops[j]? = some oj) (hdj : oj.dst = some dj)
    (hv : List.lookup dj φ = some (.bool c)) (hne : c ≠ b) (hd : o.dst = some d) (hn : Nat.blt d n = true) (k : Ds P E n D ops bar CS G f s listed' ((d, undef) :: φ) Ps) : Ds P E n D ops bar CS G (f + 1) s listed φ Ps :=
  ds_look i hB hi hl hd hn (fun a w st => .inr ⟨by simp [Region.wanted, hg, yielded, hj, hdj, st.ag _ _ hv, hne], rfl⟩) k
/-- The only one that may come now. -/
theorem ds_x (i : Nat) (hr : Region.ready .any ops listed = [i]) (hi : ops[i]? = some o) (hl : listed.setIfInBounds i true = listed') {s' : Nat} (hs : (if bar i then s + 1 else s) = s') (hg : o.guard = none) {α : Type} {pr : α → Prop} {ψ : α → Fr} {Qs : α → List HP}
    (h : OpX P E n D o φ Ps fun a w => ∃ g, pr g ∧ Sat E n D (ψ g) (Qs g) a w) (ks : List Nat) (hk : ∀ g, ∃ Rs, pick (Qs g) ks = CS s' ++ Rs) (k : ∀ g, pr g → Ds P E n D ops bar CS G f s' listed' (ψ g) (Qs g)) :
    Ds P E n D ops bar CS G (f + 1) s listed φ Ps := fun a w st _ => by
  subst hl
  subst hs
  refine ⟨fun h0 => (by rw [hr] at h0; cases h0), fun j hj => ?_⟩
  rw [hr] at hj
  obtain rfl : j = i := by simpa using hj
  unfold wpOp
  simp only [hi]
  rw [if_pos (by simp [Region.wanted, hg])]
  refine .inl (h a w _ NQ st fun a' w' ⟨g, hg, st'⟩ => ?_)
  have hh : Holds w' (CS (if bar j then s + 1 else s)) := by
    obtain ⟨Rs, e⟩ := hk g
    have := st'.hp.pick ks
    rw [e] at this
    exact this.front
  exact ⟨hh, k g hg a' w' st' hh⟩
theorem ds_s (i : Nat) (hr : Region.ready .any ops listed = [i]) (hi : ops[i]? = some o) (hl : listed.setIfInBounds i true = listed') {s' : Nat} (hs : (if bar i then s + 1 else s) = s') (hg : o.guard = none) {ψ : Fr} {Qs : List HP}
    (h : OpX P E n D o φ Ps (Sat E n D ψ Qs)) (ks : List Nat) {Rs : List HP} (hk : pick Qs ks = CS s' ++ Rs) (k : Ds P E n D ops bar CS G f s' listed' ψ Qs) : Ds P E n D ops bar CS G (f + 1) s listed φ Ps :=
  ds_x (α := Unit) (pr := fun _ => True) (ψ := fun _ => ψ) (Qs := fun _ => Qs) i hr hi hl hs hg (fun a w K Q st hK => h a w K Q st fun a' w' q => hK a' w' ⟨(), trivial, q⟩) ks (fun _ => ⟨Rs, hk⟩) fun _ _ => k
/-- The only one, behind a guard. -/
theorem ds_wx (i : Nat) (hr : Region.ready .any ops listed = [i]) (hi : ops[i]? = some o) (hl : listed.setIfInBounds i true = listed') {s' : Nat} (hs : (if bar i then s + 1 else s) = s') {j : Nat} {b : Bool} {oj : Oper} {dj : Nat} (hg : o.guard = some (j, b)) (hj : ops[j]? = some oj)
    (hdj : oj.dst = some dj) (hv : List.lookup dj φ = some (.bool b)) {α : Type} {pr : α → Prop} {ψ : α → Fr} {Qs : α → List HP} (h : OpX P E n D o φ Ps fun a w => ∃ g, pr g ∧ Sat E n D (ψ g) (Qs g) a w) (ks : List Nat)
    (hk : ∀ g, ∃ Rs, pick (Qs g) ks = CS s' ++ Rs) (k : ∀ g, pr g → Ds P E n D ops bar CS G f s' listed' (ψ g) (Qs g)) : Ds P E n D ops bar CS G (f + 1) s listed φ Ps := fun a w st _ => by
  subst hl
  subst hs
  refine ⟨fun h0 => (by rw [hr] at h0; cases h0), fun j' hj' => ?_⟩
  rw [hr] at hj'
  obtain rfl : j' = i := by simpa using hj'
  unfold wpOp
  simp only [hi]
  rw [if_pos (by simp [Region.wanted, hg, yielded, hj, hdj, st.ag _ _ hv])]
  refine .inl (h a w _ NQ st fun a' w' ⟨g, hg, st'⟩ => ?_)
  have hh : Holds w' (CS (if bar j' then s + 1 else s)) := by
    obtain ⟨Rs, e⟩ := hk g
    have := st'.hp.pick ks
    rw [e] at this
    exact this.front
  exact ⟨hh, k g hg a' w' st' hh⟩
/-- The end. -/
theorem ds_done (hr : (Region.ready .any ops listed).isEmpty = true) (k : Dn E n D G φ Ps) : Ds P E n D ops bar CS G f s listed φ Ps := fun a w st _ => by
  have hr' : Region.ready .any ops listed = [] := by simpa using hr
  cases f with
  | zero => exact ⟨hr', k a w st⟩
  | succ f => exact ⟨fun _ => k a w st, fun i hi => by rw [hr'] at hi; cases hi⟩
/-- Between two operations: the assertion alone. -/
theorem ds_test {p : Prop} [Decidable p] (i : Nat) (hv : List.lookup i φ = some (.bool (decide p))) (ht : p → Ds P E n D ops bar CS G f s listed ((i, .bool true) :: φ) Ps) (hf : ¬ p → Ds P E n D ops bar CS G f s listed ((i, .bool false) :: φ) Ps) :
    Ds P E n D ops bar CS G f s listed φ Ps := fun a w st hS =>
  dn_test (E := E) (n := n) (D := D) (G := fun a w => Holds w (CS s) → anyS P ops bar (Keeps CS) G f s listed a w) i hv (fun hp a w st h => ht hp a w st h) (fun hp a w st h => hf hp a w st h) a w st hS
/-- What is owed inside, as a goal. -/
def DG (P : Program) (ops : Array Oper) (bar : Nat → Bool) (CS : Nat → List HP) (G : Act → World → Prop) (f s : Nat) (listed : Array Bool) (a : Act) (w : World) : Prop := Holds w (CS s) → anyS P ops bar (Keeps CS) G f s listed a w
theorem ds_of {φ' : Fr} {Qs : List HP} (h : Dn E n D (DG P ops bar CS G f s listed) φ' Qs) : Ds P E n D ops bar CS G f s listed φ' Qs := fun a w st hS => h a w st hS
theorem of_ds {φ' : Fr} {Qs : List HP} (h : Ds P E n D ops bar CS G f s listed φ' Qs) : Dn E n D (DG P ops bar CS G f s listed) φ' Qs := fun a w st hS => h a w st hS
end
end Go.Proofs.YtjfajpoknnifcaaGreat
