/- Slices of one's own, and what is appended to them. No condition. -/
import Derived.Test.YtjfajpoknnifcaaGreatAny
namespace Go.Proofs.YtjfajpoknnifcaaGreat
open Go

/-- A slice whose memory is one's own, from a block's begin on: its cells, and room behind them. -/
def OwnS (e : TypeId) (sz : Nat) (a : Option Addr) (n cap : Nat) (cs : List Value) : HP :=
  ⟨fun _ h => cs.length = n * sz ∧ ((a = none ∧ n = 0 ∧ cap = 0 ∧ h = Frag.nil) ∨
    ∃ b sp, a = some ⟨b, 0, none⟩ ∧ n ≤ cap ∧ cap ≤ maxLen ∧ (cs ++ sp).length = cap * sz ∧ h = fun c => if c = b then some (.cells (cs ++ sp).toArray e (0, 0)) else none), fun _ h => h⟩

section
variable {w : World} {e : TypeId} {sz n cap : Nat} {a : Option Addr} {cs : List Value} {Ps : List HP}
theorem Holds.ownNil (e : TypeId) (sz : Nat) (H : Holds w Ps) : Holds w (OwnS e sz none 0 0 [] :: Ps) :=
  H.imp fun _ h d => ⟨Frag.nil, h, Split.nil_left h, ⟨by simp, .inl ⟨rfl, rfl, rfl, rfl⟩⟩, d⟩
theorem Holds.ownLen (H : Holds w (OwnS e sz a n cap cs :: Ps)) : cs.length = n * sz := by
  obtain ⟨_, _, _, _, _, _, _, _, h, _⟩ := H
  exact h.1
theorem Holds.ownOpen (H : Holds w (OwnS e sz a n cap cs :: Ps)) (hn : 0 < cap) : ∃ b sp, a = some ⟨b, 0, none⟩ ∧ n ≤ cap ∧ cap ≤ maxLen ∧ (cs ++ sp).length = cap * sz ∧ Holds w (Blk b (.cells (cs ++ sp).toArray e (0, 0)) :: Ps) := by
  obtain ⟨r, h, x, y, z, h1, h2, s, ⟨_, h3⟩, d⟩ := H
  rcases h3 with ⟨_, _, rfl, _⟩ | ⟨b, sp, rfl, hc, hm, hl, rfl⟩
  · omega
  · exact ⟨b, sp, rfl, hc, hm, hl, r, h, x, y, z, _, h2, s, rfl, d⟩
theorem Holds.ownOpen' (H : Holds w (OwnS e sz a n cap cs :: Ps)) (hn : 0 < n) : ∃ b sp, a = some ⟨b, 0, none⟩ ∧ n ≤ cap ∧ cap ≤ maxLen ∧ (cs ++ sp).length = cap * sz ∧ Holds w (Blk b (.cells (cs ++ sp).toArray e (0, 0)) :: Ps) := by
  refine H.ownOpen ?_
  obtain ⟨r, h, x, y, z, h1, h2, s, ⟨_, h3⟩, d⟩ := H
  rcases h3 with ⟨_, _, rfl, _⟩ | ⟨b, sp, rfl, hc, hm, hl, rfl⟩ <;> omega
theorem Holds.ownCap (H : Holds w (OwnS e sz a n cap cs :: Ps)) : n ≤ cap ∧ cap ≤ maxLen := by
  obtain ⟨r, h, x, y, z, h1, h2, s, ⟨_, h3⟩, d⟩ := H
  rcases h3 with ⟨_, rfl, rfl, _⟩ | ⟨b, sp, rfl, hc, hm, hl, rfl⟩
  · simp [maxLen]
  · exact ⟨hc, hm⟩
theorem Holds.ownShut {b : Nat} {l : List Value} (H : Holds w (Blk b (.cells l.toArray e (0, 0)) :: Ps)) (hl : l.length = cap * sz) (hn : n ≤ cap) (hm : cap ≤ maxLen) : Holds w (OwnS e sz (some ⟨b, 0, none⟩) n cap (l.take (n * sz)) :: Ps) := by
  refine H.imp fun r h ⟨h1, h2, s, q, d⟩ => ⟨h1, h2, s, ⟨?_, .inr ⟨b, l.drop (n * sz), rfl, hn, hm, ?_, ?_⟩⟩, d⟩
  · have := Nat.mul_le_mul_right sz hn
    simp; omega
  · rw [List.take_append_drop]; exact hl
  · rw [List.take_append_drop]; exact q
/-- Where its first cells are. -/
theorem Holds.ownCells (H : Holds w (OwnS e sz a n cap cs :: Ps)) {b : Nat} (ha : a = some ⟨b, 0, none⟩) : ∀ j u, cs[j]? = some u → w.cell? ⟨b, j, none⟩ = some u := by
  intro j u hj
  have hlt : j < cs.length := (List.getElem?_eq_some_iff.1 hj).1
  obtain ⟨r, h, x, y, z, h1, h2, s, ⟨_, h3⟩, d⟩ := H
  rcases h3 with ⟨h4, _⟩ | ⟨b', sp, h4, hc, hm, hl, rfl⟩
  · rw [ha] at h4; cases h4
  · rw [ha] at h4
    cases h4
    have hb : w.heap[b]? = some (.cells (cs ++ sp).toArray e (0, 0)) := y _ _ (s.left (by simp))
    exact cell_of hb (by rw [List.getElem?_append_left hlt]; exact hj)
end

section
variable {P : Program}
theorem takeAll (cs : List Value) (sp : List Value) {k : Nat} (h : cs.length = k) : (cs ++ sp).take k = cs := by rw [← h]; simp
theorem setRow_block {w : World} {g : Nat} {cur : Array Value} {l : List Value} {e : TypeId} {f : Nat × Nat} (h : w.heap[g]? = some (.cells cur e f)) : (w.setRow g l.toArray).heap[g]? = some (.cells l.toArray e f) ∧ ∀ c, c ≠ g → (w.setRow g l.toArray).heap[c]? = w.heap[c]? :=
  ⟨setRow_heap w g cur _ e f h, fun c hc => setRow_other w g c _ hc⟩
/-- What append does to a slice of one's own. -/
theorem run_appendS {w : World} {t e ty : TypeId} {sz bytes : Nat} {z : Value} {a : Option Addr} {n cap : Nat} {cs : List Value} {Ps : List HP} (H : Holds w (OwnS e sz a n cap cs :: Ps)) (ht : elemB P t = some e) (hs : sizeB P e = some sz)
    (hz : zeroB P e = some z) (hy : bytesB P e = some bytes) (hzs : z.cells.size = sz) (hsz : Nat.blt 0 sz = true) {b o m c : Nat} {news : List Value} (hl : news.length = m * sz) (hnews : ∀ j u, news[j]? = some u → w.cell? ⟨b, o + j, none⟩ = some u)
    (h1 : ∀ u ∈ news, u.oneCell' = true) (h63 : n + m ≤ maxLen) (hb : (n + m) * bytes ≤ 140737488355328) :
    ∃ a' cap' w', (Builtin.append_ #[t, t] ty #[.slice a n cap, .slice (some ⟨b, o, none⟩) m c]).run P w = .ok (.slice a' (n + m) cap') w' ∧ SameEnv w w' ∧ Holds w' (OwnS e sz a' (n + m) cap' (cs ++ news) :: Ps) := by
  have hsz' : 0 < sz := Nat.le_of_ble_eq_true hsz
  have hu := und_elem ht
  unfold sizeB at hs
  unfold zeroB at hz
  unfold bytesB at hy
  cases hi : P.info? e with
  | none => rw [hi] at hs; cases hs
  | some i =>
    rw [hi] at hs hz hy
    simp at hs hz hy
    subst hs
    subst hy
    have hsmall : n + m ≤ 9223372036854775807 := by simp only [maxLen] at h63; omega
    have hcl := H.ownLen
    have hlen : (cs ++ news).length = (n + m) * i.size := by rw [List.length_append, hcl, hl, Nat.add_mul]
    have hnews' : ∀ j u, news[j]? = some u → w.cell? ((⟨b, o, none⟩ : Addr).add j) = some u := fun j u q => by
      have := hnews j u q
      simp only [Addr.add]
      split
      · rename_i h0; subst h0; exact this
      · exact this
    -- a new row
    have grown : ∀ old, old < n + m → Holds w Ps → ∃ sp : List Value, Holds (w.drew.alloc (.cells (cs.toArray ++ news.toArray ++ Builtin.zeroCells z.cells (grownCap w (n + m) old e - (n + m))) e))
        (OwnS e i.size (some ⟨w.heap.size, 0, none⟩) (n + m) (grownCap w (n + m) old e) (cs ++ news) :: Ps) := by
      intro old ho hP
      have hge := grownCap_ge w (n + m) old e
      have hcm := grownCap_le_maxLen w (n + m) old e h63
      have h0 : Holds w.drew Ps := hP.heap rfl
      have h2 := h0.alloc (.cells (cs ++ news ++ (Builtin.zeroCells z.cells (grownCap w (n + m) old e - (n + m))).toList).toArray e (0, 0))
      have ec : (cs ++ news ++ (Builtin.zeroCells z.cells (grownCap w (n + m) old e - (n + m))).toList).toArray = cs.toArray ++ news.toArray ++ Builtin.zeroCells z.cells (grownCap w (n + m) old e - (n + m)) := by
        rw [← Array.toList_inj]; simp
      have hlz : (cs ++ news ++ (Builtin.zeroCells z.cells (grownCap w (n + m) old e - (n + m))).toList).length = grownCap w (n + m) old e * i.size := by
        rw [List.length_append, hlen, Array.length_toList, size_zeroCells, hzs, ← Nat.add_mul]
        congr 1; omega
      have h3 := h2.ownShut hlz hge hcm
      rw [takeAll _ _ hlen] at h3
      rw [ec] at h2
      refine ⟨[], ?_⟩
      rw [ec] at h3
      exact h3
    by_cases hroom : n + m ≤ cap
    · by_cases hc0 : 0 < cap
      · obtain ⟨g, sp, rfl, hnc, hcm, hcs, hB⟩ := H.ownOpen hc0
        have hfit : n * i.size + news.length ≤ (cs ++ sp).toArray.size := by
          rw [hl, List.size_toArray, hcs, ← Nat.add_mul]; exact Nat.mul_le_mul_right _ hroom
        have hr := run_append_room (P := P) w t ty e i hu hi g n cap _ hB.blk ⟨b, o, none⟩ m c news hl hnews' h1 hroom hfit
        obtain ⟨q1, q2⟩ := setRow_block (l := (cs ++ sp).toArray.toList.take (n * i.size) ++ news ++ (cs ++ sp).toArray.toList.drop (n * i.size + news.length)) hB.blk
        refine ⟨_, _, _, hr, ⟨rfl, rfl, rfl⟩, ?_⟩
        have h4 := hB.set q1 q2
        have hll : ((cs ++ sp).toArray.toList.take (n * i.size) ++ news ++ (cs ++ sp).toArray.toList.drop (n * i.size + news.length)).length = cap * i.size := by
          have e6 : (cs ++ sp).toArray.toList.take (n * i.size) = cs := takeAll cs sp hcl
          have e7 : (cs ++ sp).toArray.toList.length = cap * i.size := hcs
          have e8 : (cs ++ sp).toArray.size = cap * i.size := hcs
          rw [e6, List.length_append, List.length_append, List.length_drop, e7]
          omega
        have h5 := h4.ownShut hll hroom hcm
        have e5 : ((cs ++ sp).toArray.toList.take (n * i.size) ++ news ++ (cs ++ sp).toArray.toList.drop (n * i.size + news.length)).take ((n + m) * i.size) = cs ++ news := by
          have e6 : (cs ++ sp).toArray.toList.take (n * i.size) = cs := takeAll cs sp hcl
          rw [e6]
          exact takeAll _ _ hlen
        rw [e5] at h5
        exact h5
      · -- nothing there, nothing comes
        have hn0 : n = 0 := by omega
        have hm0 : m = 0 := by omega
        subst hn0
        subst hm0
        have hnl : news = [] := List.eq_nil_of_length_eq_zero (by simpa using hl)
        subst hnl
        refine ⟨a, cap, w, ?_, SameEnv.refl w, by simpa using H⟩
        have hst : ∀ x : Addr, (storeCells x [] 0).run P w = .ok () w := fun _ => rfl
        cases a with
        | none => simp [Builtin.append_, run_underlying hu, sizeOf, typeInfo, hi, Builtin.lenOf, Builtin.firstCells, loadCells, loadCellsFrom]
        | some x => simp [Builtin.append_, run_underlying hu, sizeOf, typeInfo, hi, Builtin.lenOf, Builtin.firstCells, loadCells, loadCellsFrom, storeCells]
    · by_cases hc0 : 0 < cap
      · obtain ⟨g, sp, rfl, hnc, hcm, hcs, hB⟩ := H.ownOpen hc0
        have holds : ∀ j u, cs[j]? = some u → w.cell? ((⟨g, 0, none⟩ : Addr).add j) = some u := fun j u q => by
          have := H.ownCells (b := g) rfl j u q
          simp only [Addr.add]
          split
          · rename_i h0; subst h0; exact this
          · simpa using this
        have hr := run_append_grow (P := P) w t ty e i z hu hi hz ⟨g, 0, none⟩ n cap cs hcl holds ⟨b, o, none⟩ m c news hl hnews' (by omega) (by omega) (growslice_fits (by omega) hb)
        obtain ⟨_, hg⟩ := grown cap (by omega) H.drop
        exact ⟨_, _, _, hr, ⟨rfl, rfl, rfl⟩, hg⟩
      · have hcap : n ≤ cap := H.ownCap.1
        have hn0 : n = 0 := by omega
        have hca : cap = 0 := by omega
        subst hn0
        subst hca
        have hx : cs = [] := List.eq_nil_of_length_eq_zero (by simpa using hcl)
        subst hx
        have ha : a = none ∨ ∃ g, a = some ⟨g, 0, none⟩ := by
          obtain ⟨r, h, x, y, zz, h1', h2, s, ⟨_, h3⟩, d⟩ := H
          rcases h3 with ⟨rfl, _⟩ | ⟨g, sp, rfl, _⟩
          · exact .inl rfl
          · exact .inr ⟨g, rfl⟩
        obtain ⟨_, hg⟩ := grown 0 (by omega) H.drop
        rcases ha with rfl | ⟨g, rfl⟩
        · have hr := run_append_nil (P := P) w t ty e i z hu hi hz ⟨b, o, none⟩ m c news hl hnews' (by omega) (by omega) (by have := hb; simp only [Nat.zero_add] at this; omega)
          simp only [Nat.zero_add, List.nil_append] at hr hg ⊢
          refine ⟨_, _, _, hr, ⟨rfl, rfl, rfl⟩, ?_⟩
          simpa using hg
        · have hr := run_append_grow (P := P) w t ty e i z hu hi hz ⟨g, 0, none⟩ 0 0 [] (by simp) (fun j u q => by cases q) ⟨b, o, none⟩ m c news hl hnews' (by omega) (by omega) (growslice_fits (by omega) hb)
          exact ⟨_, _, _, hr, ⟨rfl, rfl, rfl⟩, hg⟩
end

section
variable {P : Program} {E : World} {n : Nat} {D : List Deferred} {φ : Fr} {Ps Qs : List HP} {d : Nat} {ty : TypeId} {pos : String} {aft : Array Edge} {g : Option (Nat × Bool)} {x y : Operand}
/-- append of what lies somewhere, to a slice of one's own. -/
theorem op_append {t e : TypeId} {sz bytes : Nat} {z : Value} {a : Option Addr} {k cap : Nat} {cs : List Value} (ks : List Nat) (hp : pick Ps ks = OwnS e sz a k cap cs :: Qs) {b o m c : Nat} {news : List Value} (hx : ev φ x = some (.slice a k cap)) (hy : ev φ y = some (.slice (some ⟨b, o, none⟩) m c))
    (ht : elemB P t = some e) (hs : sizeB P e = some sz) (hz : zeroB P e = some z) (hby : bytesB P e = some bytes) (hzs : z.cells.size = sz) (hsz : Nat.blt 0 sz = true) (hl : news.length = m * sz)
    (hnews : ∀ w, Holds w Ps → ∀ j u, news[j]? = some u → w.cell? ⟨b, o + j, none⟩ = some u) (h1 : ∀ u ∈ news, u.oneCell' = true) (h63 : k + m ≤ maxLen) (hb : (k + m) * bytes ≤ 140737488355328) {k' : Nat} (hk' : k + m = k') (hn : Nat.blt d n = true) :
    OpX P E n D ⟨some d, .call ⟨.builtin .append, #[x, y], #[t, t]⟩, ty, pos, aft, g⟩ φ Ps fun a w => ∃ p : Option Addr × Nat, True ∧ Sat E n D ((d, .slice p.1 k' p.2) :: φ) (OwnS e sz p.1 k' p.2 (cs ++ news) :: Qs) a w := fun a0 w K Q s kk => by
  subst hk'
  have H := s.hp.pick ks
  rw [hp] at H
  obtain ⟨a', cap', w', hr, he, hh⟩ := run_appendS (P := P) (ty := ty) (c := c) H ht hs hz hby hzs hsz hl (hnews w s.hp) h1 h63 hb
  unfold Oper.wp
  have : (execOp a0.eval ⟨some d, .call ⟨.builtin .append, #[x, y], #[t, t]⟩, ty, pos, aft, g⟩).run P w = .ok (.value (.slice a' (k + m) cap')) w' := by
    show ((do let d ← resolve a0.eval ⟨.builtin .append, #[x, y], #[t, t]⟩ ty; invoke d.target d.args) : Sem Next).run P w = _
    simp [resolve, invoke, builtin, s.ev hx, s.ev hy, hr]
  rw [this]
  exact kk _ _ ⟨(a', cap'), trivial, (s.world he hh).put _ (Nat.le_of_ble_eq_true hn)⟩
/-- append of nothing. -/
theorem op_append0 {t e : TypeId} {sz : Nat} {a : Option Addr} {k cap : Nat} {dst : Option Tmp} (hx : ev φ x = some (.slice a k cap)) (hy : ev φ y = some (.slice none 0 0)) (ht : elemB P t = some e) (hs : sizeB P e = some sz) (hc : k ≤ cap) {Cs : List HP} :
    OpR P ⟨dst, .call ⟨.builtin .append, #[x, y], #[t, t]⟩, ty, pos, aft, g⟩ φ Cs (.slice a k cap) := fun a0 w s H => by
  have hu := run_underlying (und_elem ht) w
  have hz := run_sizeOf (P := P) w hs
  have hst : ∀ x : Addr, (storeCells x [] 0).run P w = .ok () w := fun _ => rfl
  show ((do let d ← resolve a0.eval ⟨.builtin .append, #[x, y], #[t, t]⟩ ty; invoke d.target d.args) : Sem Next).run P w = _
  cases a with
  | none => simp [resolve, invoke, builtin, s.ev hx, s.ev hy, Builtin.append_, hu, hz, Builtin.lenOf, Builtin.firstCells, hc]
  | some x => simp [resolve, invoke, builtin, s.ev hx, s.ev hy, Builtin.append_, hu, hz, Builtin.lenOf, Builtin.firstCells, hc, storeCells]
end
end Go.Proofs.YtjfajpoknnifcaaGreat
