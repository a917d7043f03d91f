/- What is wrong with a topology: the document's answer and the program's; HistoryAlike as a plain law. No condition. -/
import Derived.Test.YtjfajpoknnifcaaGreatAlk
import Derived.Test.YtjfajpoknnifcaaGreatPure
namespace Go.Proofs.YtjfajpoknnifcaaGreat
open Go
set_option linter.unusedSimpArgs false
/-! ### Prefixes -/
theorem fits_u32 {z : Int} (h : fits .u32 z) : 0 ≤ z ∧ z ≤ 4294967295 := by
  simp only [fits, Lit.wf, decide_eq_true_eq, Bool.and_eq_true] at h
  simp [IntKind.min, IntKind.max, IntKind.signed, IntKind.bits] at h
  omega
theorem fits_i64' {z : Int} (h : fits .i64 z) : -9223372036854775808 ≤ z ∧ z ≤ 9223372036854775807 := by
  simp only [fits, Lit.wf, decide_eq_true_eq, Bool.and_eq_true] at h
  simp [IntKind.min, IntKind.max, IntKind.signed, IntKind.bits] at h
  omega
/-- Nothing stands behind a prefix's bits. -/
def wfP (p : MApiPrefix) : Prop := 0 ≤ p.Bits ∧ p.Bits ≤ 32 ∧ p.Addr.toNat % 2 ^ (32 - p.Bits.toNat) = 0
instance (p : MApiPrefix) : Decidable (wfP p) := by unfold wfP; infer_instance
theorem iMin_eq (a b : Int) : iMin a b = min a b := by unfold iMin; omega
theorem mask_eq (b : Nat) (hb : b ≤ 32) : M_cidr_mask (b : Int) = some ((2 ^ 32 - 2 ^ (32 - b) : Nat) : Int) := by
  have : b = 0 ∨ b = 1 ∨ b = 2 ∨ b = 3 ∨ b = 4 ∨ b = 5 ∨ b = 6 ∨ b = 7 ∨ b = 8 ∨ b = 9 ∨ b = 10 ∨ b = 11 ∨ b = 12 ∨ b = 13 ∨ b = 14 ∨ b = 15 ∨ b = 16 ∨ b = 17 ∨ b = 18 ∨ b = 19 ∨ b = 20 ∨ b = 21 ∨ b = 22 ∨ b = 23 ∨ b = 24 ∨ b = 25 ∨ b = 26 ∨ b = 27 ∨ b = 28 ∨ b = 29 ∨ b = 30 ∨ b = 31 ∨ b = 32 := by omega
  rcases this with h | h | h | h | h | h | h | h | h | h | h | h | h | h | h | h | h | h | h | h | h | h | h | h | h | h | h | h | h | h | h | h | h <;> subst h <;> decide
theorem andNot_mask (a b : Nat) (ha : a < 2 ^ 32) (hb : b ≤ 32) : bAndNot .u32 (a : Int) ((2 ^ 32 - 2 ^ (32 - b) : Nat) : Int) = ((a % 2 ^ (32 - b) : Nat) : Int) := by
  unfold bAndNot
  have h1 : (BitVec.ofInt IntKind.u32.bits (a : Int)) = BitVec.ofNat 32 a := by simp [IntKind.bits]
  have h2 : ~~~ (BitVec.ofInt IntKind.u32.bits ((2 ^ 32 - 2 ^ (32 - b) : Nat) : Int)) = BitVec.ofNat 32 (2 ^ (32 - b) - 1) := by
    have : b = 0 ∨ b = 1 ∨ b = 2 ∨ b = 3 ∨ b = 4 ∨ b = 5 ∨ b = 6 ∨ b = 7 ∨ b = 8 ∨ b = 9 ∨ b = 10 ∨ b = 11 ∨ b = 12 ∨ b = 13 ∨ b = 14 ∨ b = 15 ∨ b = 16 ∨ b = 17 ∨ b = 18 ∨ b = 19 ∨ b = 20 ∨ b = 21 ∨ b = 22 ∨ b = 23 ∨ b = 24 ∨ b = 25 ∨ b = 26 ∨ b = 27 ∨ b = 28 ∨ b = 29 ∨ b = 30 ∨ b = 31 ∨ b = 32 := by omega
    rcases this with h | h | h | h | h | h | h | h | h | h | h | h | h | h | h | h | h | h | h | h | h | h | h | h | h | h | h | h | h | h | h | h | h <;> subst h <;> rfl
  rw [h1, h2]
  have hp : 2 ^ (32 - b) ≤ 2 ^ 32 := Nat.pow_le_pow_right (by decide) (by omega)
  have hpos : 0 < 2 ^ (32 - b) := Nat.two_pow_pos _
  have h3 : (BitVec.ofNat 32 a &&& BitVec.ofNat 32 (2 ^ (32 - b) - 1)).toNat = a % 2 ^ (32 - b) := by
    rw [BitVec.toNat_and, BitVec.toNat_ofNat, BitVec.toNat_ofNat, Nat.mod_eq_of_lt ha, Nat.mod_eq_of_lt (by omega), Nat.and_two_pow_sub_one_eq_mod]
  have h4 : a % 2 ^ (32 - b) < 2 ^ (32 - b) := Nat.mod_lt _ hpos
  show IntKind.u32.wrap ((BitVec.ofNat 32 a &&& BitVec.ofNat 32 (2 ^ (32 - b) - 1)).toNat : Int) = _
  rw [h3]
  exact w_u32 (by omega) (by omega)
theorem right_eq {p : MApiPrefix} (h : fits .u32 p.Addr) : M_cidr_Right p = some (decide (wfP p)) := by
  obtain ⟨h0, h1⟩ := fits_u32 h
  unfold M_cidr_Right
  by_cases hb0 : (0 : Int) ≤ p.Bits
  · rw [if_pos hb0]
    by_cases hb1 : p.Bits ≤ 32
    · rw [if_pos hb1]
      have e1 : ((p.Bits.toNat : Nat) : Int) = p.Bits := by omega
      have e2 : ((p.Addr.toNat : Nat) : Int) = p.Addr := by omega
      have hm := mask_eq p.Bits.toNat (by omega)
      have ha := andNot_mask p.Addr.toNat p.Bits.toNat (by omega) (by omega)
      rw [e1] at hm
      rw [e2] at ha
      rw [hm]
      simp only [Option.bind_some, ha]
      congr 1
      apply decide_eq_decide.2
      unfold wfP
      omega
    · rw [if_neg hb1]; congr 1; symm; rw [decide_eq_false_iff_not]; unfold wfP; omega
  · rw [if_neg hb0]; congr 1; symm; rw [decide_eq_false_iff_not]; unfold wfP; omega
theorem size_loop : ∀ (d b k : Nat) (n : Nat), b + d = 32 → d < k → n * 2 ^ d < 18446744073709551616 → M_crossbuckref03_size.l1 k (n : Int) (b : Int) = some ((n * 2 ^ d : Nat) : Int)
  | 0, b, k, n, hb, hk, hn => by
    obtain ⟨k, rfl⟩ : ∃ m, k = m + 1 := ⟨k - 1, by omega⟩
    rw [M_crossbuckref03_size.l1.eq_2, if_neg (by omega)]; simp
  | d + 1, b, k, n, hb, hk, hn => by
    obtain ⟨k, rfl⟩ : ∃ m, k = m + 1 := ⟨k - 1, by omega⟩
    have hpow : 2 ^ (d + 1) = 2 * 2 ^ d := by rw [Nat.pow_succ]; omega
    have h2 : n * 2 ≤ n * 2 ^ (d + 1) := Nat.mul_le_mul_left _ (by rw [hpow]; have := Nat.two_pow_pos d; omega)
    have e : n * 2 * 2 ^ d = n * 2 ^ (d + 1) := by rw [hpow, Nat.mul_assoc]
    have ih := size_loop d (b + 1) k (n * 2) (by omega) (by omega) (by rw [e]; exact hn)
    rw [M_crossbuckref03_size.l1.eq_2, if_pos (by omega), w_u64 (by omega) (by omega), w64_id (by omega) (by omega)]
    rw [e] at ih
    have e3 : (n : Int) * 2 = ((n * 2 : Nat) : Int) := by omega
    have e4 : (b : Int) + 1 = ((b + 1 : Nat) : Int) := by omega
    rw [e3, e4]; exact ih
theorem size_eq (b : Nat) (hb : b ≤ 32) : M_crossbuckref03_size (b : Int) = some ((2 ^ (32 - b) : Nat) : Int) := by
  unfold M_crossbuckref03_size
  have hp : 2 ^ (32 - b) ≤ 2 ^ 32 := Nat.pow_le_pow_right (by decide) (by omega)
  have := size_loop (32 - b) b fuel 1 (by omega) (by have := fuel_big; omega) (by omega)
  rw [Nat.one_mul] at this
  rw [show (1 : Int) = ((1 : Nat) : Int) from rfl, this]; rfl
theorem refRight_eq {p : MApiPrefix} (h : fits .u32 p.Addr) : M_crossbuckref03_Right p = some (decide (wfP p)) := by
  obtain ⟨h0, h1⟩ := fits_u32 h
  unfold M_crossbuckref03_Right
  by_cases hb0 : (0 : Int) ≤ p.Bits
  · rw [if_pos hb0]
    by_cases hb1 : p.Bits ≤ 32
    · rw [if_pos hb1]
      have e1 : ((p.Bits.toNat : Nat) : Int) = p.Bits := by omega
      have e2 : ((p.Addr.toNat : Nat) : Int) = p.Addr := by omega
      have hpos : 0 < 2 ^ (32 - p.Bits.toNat) := Nat.two_pow_pos _
      have hs := size_eq p.Bits.toNat (by omega)
      rw [e1] at hs
      rw [hs]
      simp only [Option.bind_some]
      rw [if_pos (by omega), w_u64 (by omega) (by omega), Int.tmod_eq_emod_of_nonneg h0]
      congr 1
      apply decide_eq_decide.2
      unfold wfP
      rw [← e2]
      simp only [Int.toNat_natCast]
      omega
    · rw [if_neg hb1]; congr 1; symm; rw [decide_eq_false_iff_not]; unfold wfP; omega
  · rw [if_neg hb0]; congr 1; symm; rw [decide_eq_false_iff_not]; unfold wfP; omega
/-! ### Filters -/
def fitF (f : MApiFilter) : Prop := fits .u32 f.Dst.Addr ∧ fits .u32 f.Src.Addr
theorem filter_same {f : MApiFilter} (h : fitF f) : M_filter_Check f = M_crossbuckref04_Check f := by
  unfold M_filter_Check M_crossbuckref04_Check
  rw [right_eq h.1, right_eq h.2, refRight_eq h.1, refRight_eq h.2]
theorem filter_some {f : MApiFilter} (h : fitF f) : ∃ e, M_filter_Check f = some e := by
  unfold M_filter_Check
  rw [right_eq h.1, right_eq h.2]
  simp only [Option.bind_some]
  repeat' split
  all_goals exact ⟨_, rfl⟩
/-! ### Ports -/
theorem port_same : M_crossbuckref05_Port = M_topo_Port := rfl
theorem port_some (ps : List Int) (l : List MApiLink) (a : List MApiACE) (d p : Int) : ∃ e, M_topo_Port ps l a d p = some e := by
  unfold M_topo_Port
  by_cases h1 : d < 0
  · exact ⟨10, if_pos h1⟩
  · rw [if_neg h1]
    by_cases h2 : ((ps.length : Nat) : Int) ≤ d
    · exact ⟨10, if_pos h2⟩
    · rw [if_neg h2]
      by_cases h3 : p < 0
      · exact ⟨11, if_pos h3⟩
      · rw [if_neg h3]
        obtain ⟨n, hn⟩ : ∃ n, ps[d.toNat]? = some n := ⟨_, List.getElem?_eq_getElem (by omega)⟩
        have : nth ps d = some n := by rw [nth_eq (n := d.toNat) (by omega)]; exact hn
        rw [this]
        simp only [Option.bind_some]
        split
        · exact ⟨11, rfl⟩
        · exact ⟨0, rfl⟩
def small (ps : List Int) (ls : List MApiLink) (as_ : List MApiACE) : Prop := ps.length ≤ 40 ∧ ls.length ≤ 100 ∧ as_.length ≤ 60
/-- What a loop over ports says: whether all are from 0 to 8. -/
theorem ports_ref (ps : List Int) (ls : List MApiLink) (as_ : List MApiACE) (hp : ps.length ≤ 40) : ∀ (d i k : Nat), i + d = ps.length → d < k →
    (∃ r, M_crossbuckref05_Check.l1 ps ls as_ k (i : Int) = some r) ∧ (∀ u, M_crossbuckref05_Check.l1 ps ls as_ k (i : Int) = some (.inr (.inr u)) → ∀ (j : Nat) (n : Int), i ≤ j → ps[j]? = some n → 0 ≤ n ∧ n ≤ 8)
  | 0, i, k, hi, hk => by
    obtain ⟨k, rfl⟩ : ∃ m, k = m + 1 := ⟨k - 1, by omega⟩
    rw [M_crossbuckref05_Check.l1.eq_2, if_neg (by simp only []; omega)]
    exact ⟨⟨_, rfl⟩, fun _ _ j n hj hn => by have := (List.getElem?_eq_some_iff.1 hn).1; omega⟩
  | d + 1, i, k, hi, hk => by
    obtain ⟨k, rfl⟩ : ∃ m, k = m + 1 := ⟨k - 1, by omega⟩
    obtain ⟨x, hx⟩ : ∃ x, ps[i]? = some x := ⟨_, List.getElem?_eq_getElem (by omega)⟩
    rw [M_crossbuckref05_Check.l1.eq_2, if_pos (by simp only []; omega), nth_of hx]
    simp only [Option.bind_some]
    have hw : w64 ((i : Int) + 1) = ((i + 1 : Nat) : Int) := by rw [w64_id (by omega) (by omega)]; omega
    obtain ⟨h1, h2⟩ := ports_ref ps ls as_ hp d (i + 1) k (by omega) (by omega)
    by_cases a : x < 0
    · rw [if_pos a]; exact ⟨⟨_, rfl⟩, fun _ h => by cases h⟩
    · rw [if_neg a]
      by_cases b : (8 : Int) < x
      · rw [if_pos b]; exact ⟨⟨_, rfl⟩, fun _ h => by cases h⟩
      · rw [if_neg b, hw]
        refine ⟨h1, fun u hu j n hj hn => ?_⟩
        by_cases e : j = i
        · subst e; rw [hx] at hn; cases hn; omega
        · exact h2 u hu j n (by omega) hn
theorem ports_impl (ps : List Int) (hp : ps.length ≤ 40) (h : ∀ (j : Nat) (n : Int), ps[j]? = some n → 0 ≤ n ∧ n ≤ 8) : ∀ (d i k : Nat), i + d = ps.length → d < k → M_slices_IndexFunc.l1 ps k (i : Int) = some (.inr ())
  | 0, i, k, hi, hk => by
    obtain ⟨k, rfl⟩ : ∃ m, k = m + 1 := ⟨k - 1, by omega⟩
    rw [M_slices_IndexFunc.l1.eq_2, if_neg (by omega)]
  | d + 1, i, k, hi, hk => by
    obtain ⟨k, rfl⟩ : ∃ m, k = m + 1 := ⟨k - 1, by omega⟩
    obtain ⟨x, hx⟩ : ∃ x, ps[i]? = some x := ⟨_, List.getElem?_eq_getElem (by omega)⟩
    have hw : w64 ((i : Int) + 1) = ((i + 1 : Nat) : Int) := by rw [w64_id (by omega) (by omega)]; omega
    have hb := h i x hx
    have hc : M_topo_Check_1 x = some false := by
      unfold M_topo_Check_1
      rw [if_neg (by omega)]
      congr 1
      rw [decide_eq_false_iff_not]; omega
    rw [M_slices_IndexFunc.l1.eq_2, if_pos (by omega), nth_of hx]
    simp only [Option.bind_some, hc]
    rw [if_neg (by simp), hw]
    exact ports_impl ps hp h d (i + 1) k (by omega) (by omega)
theorem contains_impl (ps : List Int) (hp : ps.length ≤ 40) (h : ∀ (j : Nat) (n : Int), ps[j]? = some n → 0 ≤ n ∧ n ≤ 8) : M_slices_ContainsFunc ps = some false := by
  unfold M_slices_ContainsFunc M_slices_IndexFunc
  have := ports_impl ps hp h ps.length 0 fuel (by omega) (by have := fuel_big; omega)
  rw [show (0 : Int) = ((0 : Nat) : Int) from rfl, this]
  rfl
/-! ### Links -/
def endsOf (ls : List MApiLink) : List T112 := ls.flatMap fun l => [⟨l.Dev, l.Port⟩, ⟨l.Peer, l.PeerPort⟩]
theorem endsOf_len (ls : List MApiLink) : (endsOf ls).length = ls.length * 2 := by
  induction ls with
  | nil => rfl
  | cons l ls ih => simp only [endsOf, List.flatMap_cons, List.length_append, List.length_cons] at *; rw [ih]; simp; omega
theorem endsOf_snoc (ls : List MApiLink) (l : MApiLink) : endsOf (ls ++ [l]) = endsOf ls ++ [⟨l.Dev, l.Port⟩, ⟨l.Peer, l.PeerPort⟩] := by simp [endsOf, List.flatMap_append]
theorem ends_loop (ps : List Int) (ls : List MApiLink) (as_ : List MApiACE) (hl : ls.length ≤ 100) : ∀ (d i k : Nat), i + d = ls.length → d < k → M_crossbuckref05_Ends.l1 ps ls as_ k (endsOf (ls.take i)) (i : Int) = some (endsOf ls)
  | 0, i, k, hi, hk => by
    obtain ⟨k, rfl⟩ : ∃ m, k = m + 1 := ⟨k - 1, by omega⟩
    rw [M_crossbuckref05_Ends.l1.eq_2, if_neg (by simp only []; omega), List.take_of_length_le (by omega)]
  | d + 1, i, k, hi, hk => by
    obtain ⟨k, rfl⟩ : ∃ m, k = m + 1 := ⟨k - 1, by omega⟩
    obtain ⟨x, hx⟩ : ∃ x, ls[i]? = some x := ⟨_, List.getElem?_eq_getElem (by omega)⟩
    have hw : w64 ((i : Int) + 1) = ((i + 1 : Nat) : Int) := by rw [w64_id (by omega) (by omega)]; omega
    have ht : ls.take (i + 1) = ls.take i ++ [x] := by
      obtain ⟨h1, h2⟩ := List.getElem?_eq_some_iff.1 hx
      rw [List.take_succ_eq_append_getElem h1, h2]
    have := ends_loop ps ls as_ hl d (i + 1) k (by omega) (by omega)
    rw [ht, endsOf_snoc] at this
    rw [M_crossbuckref05_Ends.l1.eq_2, if_pos (by simp only []; omega), nth_of hx]
    simp only [Option.bind_some]
    rw [if_pos (by rw [endsOf_len, List.length_take]; unfold appMax; omega), hw]
    exact this
theorem ends_eq (ps : List Int) (ls : List MApiLink) (as_ : List MApiACE) (hl : ls.length ≤ 100) : M_crossbuckref05_Ends ps ls as_ = some (endsOf ls) := by
  unfold M_crossbuckref05_Ends
  have := ends_loop ps ls as_ hl ls.length 0 fuel (by omega) (by have := fuel_big; omega)
  rw [show (0 : Int) = ((0 : Nat) : Int) from rfl]
  simp only [List.take_zero, show endsOf [] = [] from rfl] at this
  rw [this]; rfl
theorem ends_inner (i : Nat) (l : List T112) (hl : l.length ≤ 200) (hi : i < l.length) : ∀ (d j k : Nat), j + d = i → d < k →
    (∃ r, M_crossbuckref05_Check.l3 (i : Int) l k (j : Int) = some r) ∧ (∀ u, M_crossbuckref05_Check.l3 (i : Int) l k (j : Int) = some (.inr u) → ∀ (c : Nat), j ≤ c → c < i → l[c]? ≠ l[i]?)
  | 0, j, k, hj, hk => by
    obtain ⟨k, rfl⟩ : ∃ m, k = m + 1 := ⟨k - 1, by omega⟩
    rw [M_crossbuckref05_Check.l3.eq_2, if_neg (by omega)]
    exact ⟨⟨_, rfl⟩, fun _ _ c h1 h2 => by omega⟩
  | d + 1, j, k, hj, hk => by
    obtain ⟨k, rfl⟩ : ∃ m, k = m + 1 := ⟨k - 1, by omega⟩
    obtain ⟨x, hx⟩ : ∃ x, l[j]? = some x := ⟨_, List.getElem?_eq_getElem (by omega)⟩
    obtain ⟨y, hy⟩ : ∃ y, l[i]? = some y := ⟨_, List.getElem?_eq_getElem (by omega)⟩
    have hw : w64 ((j : Int) + 1) = ((j + 1 : Nat) : Int) := by rw [w64_id (by omega) (by omega)]; omega
    obtain ⟨h1, h2⟩ := ends_inner i l hl hi d (j + 1) k (by omega) (by omega)
    rw [M_crossbuckref05_Check.l3.eq_2, if_pos (by omega), nth_of hx, nth_of hy]
    simp only [Option.bind_some]
    by_cases e : x = y
    · rw [if_pos e]; exact ⟨⟨_, rfl⟩, fun _ h => by cases h⟩
    · rw [if_neg e, hw]
      refine ⟨h1, fun u hu c hc1 hc2 => ?_⟩
      by_cases ec : c = j
      · subst ec
        rw [hx, hy]
        intro q; exact e (Option.some.inj q)
      · exact h2 u hu c (by omega) hc2
/-- What the document's loop over ends says: each is a port, each another one. -/
def endsOK (t : MApiTopo) (l : List T112) (i : Nat) : Prop := ∀ (c : Nat) (x : T112), i ≤ c → l[c]? = some x → M_topo_Port t.Ports t.Links t.ACEs x.e0 x.e1 = some 0 ∧ ∀ b, b < c → l[b]? ≠ l[c]?
theorem ends_ref (t : MApiTopo) (l : List T112) (hl : l.length ≤ 200) : ∀ (d i k : Nat), i + d = l.length → d < k →
    (∃ r, M_crossbuckref05_Check.l2 l k t (i : Int) = some r) ∧ (∀ u, M_crossbuckref05_Check.l2 l k t (i : Int) = some (.inr (.inr u)) → u = t ∧ endsOK t l i)
  | 0, i, k, hi, hk => by
    obtain ⟨k, rfl⟩ : ∃ m, k = m + 1 := ⟨k - 1, by omega⟩
    rw [M_crossbuckref05_Check.l2.eq_2, if_neg (by omega)]
    refine ⟨⟨_, rfl⟩, fun u h => ⟨by cases h; rfl, fun c x hc hx => ?_⟩⟩
    have := (List.getElem?_eq_some_iff.1 hx).1
    omega
  | d + 1, i, k, hi, hk => by
    obtain ⟨k, rfl⟩ : ∃ m, k = m + 1 := ⟨k - 1, by omega⟩
    obtain ⟨x, hx⟩ : ∃ x, l[i]? = some x := ⟨_, List.getElem?_eq_getElem (by omega)⟩
    have hw : w64 ((i : Int) + 1) = ((i + 1 : Nat) : Int) := by rw [w64_id (by omega) (by omega)]; omega
    obtain ⟨h1, h2⟩ := ends_ref t l hl d (i + 1) k (by omega) (by omega)
    obtain ⟨⟨r3, hr3⟩, hs3⟩ := ends_inner i l hl (by omega) i 0 fuel (by omega) (by have := fuel_big; omega)
    obtain ⟨e, he⟩ := port_some t.Ports t.Links t.ACEs x.e0 x.e1
    rw [M_crossbuckref05_Check.l2.eq_2, if_pos (by omega), nth_of hx]
    simp only [Option.bind_some, port_same]
    rw [he]
    simp only [Option.bind_some]
    by_cases e0 : e = 0
    · rw [if_neg (by simp [e0]), show (0 : Int) = ((0 : Nat) : Int) from rfl, hr3]
      simp only [Option.bind_some]
      rcases r3 with r3 | r3
      · exact ⟨⟨_, rfl⟩, fun _ h => by cases h⟩
      · simp only [Sum.elim_inr, hw]
        refine ⟨h1, fun u hu => ⟨(h2 u hu).1, fun c z hc hz => ?_⟩⟩
        by_cases ec : c = i
        · subst ec
          rw [hx] at hz; cases hz
          exact ⟨by rw [he, e0], fun b hb => hs3 r3 hr3 b (Nat.zero_le _) hb⟩
        · exact (h2 u hu).2 c z (by omega) hz
    · rw [if_pos e0]
      exact ⟨⟨_, rfl⟩, fun _ h => by cases h⟩
theorem port_fits {ps : List Int} {ls : List MApiLink} {as_ : List MApiACE} {d p : Int} (hp : ps.length ≤ 40) (h8 : ∀ (j : Nat) (n : Int), ps[j]? = some n → 0 ≤ n ∧ n ≤ 8) (h : M_topo_Port ps ls as_ d p = some 0) : fits .i64 d ∧ fits .i64 p := by
  unfold M_topo_Port at h
  by_cases h1 : d < 0
  · rw [if_pos h1] at h; cases h
  · rw [if_neg h1] at h
    by_cases h2 : ((ps.length : Nat) : Int) ≤ d
    · rw [if_pos h2] at h; cases h
    · rw [if_neg h2] at h
      by_cases h3 : p < 0
      · rw [if_pos h3] at h; cases h
      · rw [if_neg h3] at h
        obtain ⟨n, hn, h⟩ := bind_some h
        obtain ⟨_, _, hx⟩ := nth_some hn
        have := h8 _ _ hx
        by_cases h4 : n ≤ p
        · rw [if_pos h4] at h; cases h
        · exact ⟨fits_i64 (by omega) (by omega), fits_i64 (by omega) (by omega)⟩
def toEnd (x : T112) : MTopoEnd := ⟨x.e0, x.e1⟩
theorem endsOf_get (ls : List MApiLink) (i : Nat) (x : MApiLink) (h : ls[i]? = some x) : (endsOf ls)[i * 2]? = some ⟨x.Dev, x.Port⟩ ∧ (endsOf ls)[i * 2 + 1]? = some ⟨x.Peer, x.PeerPort⟩ := by
  induction ls generalizing i with
  | nil => simp at h
  | cons l ls ih =>
    cases i with
    | zero => simp at h; subst h; simp [endsOf]
    | succ i =>
      have := ih i (by simpa using h)
      simp only [endsOf, List.flatMap_cons] at *
      rw [show (i + 1) * 2 = i * 2 + 2 by omega]
      simpa using this
theorem links_impl (t : MApiTopo) (hp : t.Ports.length ≤ 40) (hl : t.Links.length ≤ 100) (h8 : ∀ (j : Nat) (n : Int), t.Ports[j]? = some n → 0 ≤ n ∧ n ≤ 8) (hok : endsOK t (endsOf t.Links) 0) :
    ∀ (d i k : Nat) (seen : List (MTopoEnd × Bool)), i + d = t.Links.length → d < k → (∀ e : MTopoEnd, mget seen e ≠ none → ∃ b x, b < i * 2 ∧ (endsOf t.Links)[b]? = some x ∧ toEnd x = e) →
      M_topo_links.l1 t.Links t.Ports t.ACEs k seen (i : Int) = some (.inr (.inr (.inr (.inr ()))))
  | 0, i, k, seen, hi, hk, _ => by
    obtain ⟨k, rfl⟩ : ∃ m, k = m + 1 := ⟨k - 1, by omega⟩
    rw [M_topo_links.l1.eq_2, if_neg (by omega)]
  | d + 1, i, k, seen, hi, hk, hs => by
    obtain ⟨k, rfl⟩ : ∃ m, k = m + 1 := ⟨k - 1, by omega⟩
    obtain ⟨x, hx⟩ : ∃ x, t.Links[i]? = some x := ⟨_, List.getElem?_eq_getElem (by omega)⟩
    have hw : w64 ((i : Int) + 1) = ((i + 1 : Nat) : Int) := by rw [w64_id (by omega) (by omega)]; omega
    obtain ⟨g1, g2⟩ := endsOf_get t.Links i x hx
    obtain ⟨o1, n1⟩ := hok _ _ (Nat.zero_le _) g1
    obtain ⟨o2, n2⟩ := hok _ _ (Nat.zero_le _) g2
    have f1 := port_fits hp h8 o1
    have f2 := port_fits hp h8 o2
    have inj : ∀ a b : T112, toEnd a = toEnd b → a = b := fun a b h => by cases a; cases b; simp [toEnd] at h; simp [h]
    have m1 : mget seen (⟨x.Dev, x.Port⟩ : MTopoEnd) = none := by
      cases e : mget seen (⟨x.Dev, x.Port⟩ : MTopoEnd) with
      | none => rfl
      | some v =>
        obtain ⟨b, z, hb, hz, he⟩ := hs _ (by rw [e]; simp)
        have := inj z ⟨x.Dev, x.Port⟩ he
        subst this
        exact absurd (hz.trans g1.symm) (n1 b (by omega))
    have m2 : mget (mput seen (⟨x.Dev, x.Port⟩ : MTopoEnd) true) (⟨x.Peer, x.PeerPort⟩ : MTopoEnd) = none := by
      rw [mget_mput]
      by_cases e : (⟨x.Dev, x.Port⟩ : MTopoEnd) = ⟨x.Peer, x.PeerPort⟩
      · exfalso
        have := inj ⟨x.Dev, x.Port⟩ ⟨x.Peer, x.PeerPort⟩ e
        rw [this] at g1
        exact n2 (i * 2) (by omega) (g1.trans g2.symm)
      · rw [if_neg e]
        cases e2 : mget seen (⟨x.Peer, x.PeerPort⟩ : MTopoEnd) with
        | none => rfl
        | some v =>
          obtain ⟨b, z, hb, hz, he⟩ := hs _ (by rw [e2]; simp)
          have := inj z ⟨x.Peer, x.PeerPort⟩ he
          subst this
          exact absurd (hz.trans g2.symm) (n2 b (by omega))
    rw [M_topo_links.l1.eq_2, if_pos (by omega), nth_of hx]
    simp only [Option.bind_some]
    rw [o1]
    simp only [Option.bind_some, not_true, if_false]
    rw [if_pos f1, m1]
    simp only [Option.getD_none, Bool.false_eq_true, if_false]
    rw [o2]
    simp only [Option.bind_some, not_true, if_false]
    rw [if_pos f2, m2]
    simp only [Option.getD_none, Bool.false_eq_true, if_false]
    rw [hw]
    refine links_impl t hp hl h8 hok d (i + 1) k _ (by omega) (by omega) fun e he => ?_
    rw [mget_mput, mget_mput] at he
    by_cases q2 : (⟨x.Peer, x.PeerPort⟩ : MTopoEnd) = e
    · exact ⟨i * 2 + 1, _, by omega, g2, q2⟩
    · rw [if_neg q2] at he
      by_cases q1 : (⟨x.Dev, x.Port⟩ : MTopoEnd) = e
      · exact ⟨i * 2, _, by omega, g1, q1⟩
      · rw [if_neg q1] at he
        obtain ⟨b, z, hb, hz⟩ := hs e he
        exact ⟨b, z, by omega, hz⟩
/-! ### Entries -/
theorem aces_ref (t : MApiTopo) (ha : t.ACEs.length ≤ 60) (hf : ∀ a ∈ t.ACEs, fitF a.F) : ∀ (d i k : Nat), i + d = t.ACEs.length → d < k →
    (∃ r, M_crossbuckref05_Check.l4 t k (i : Int) = some r) ∧ (∀ u, M_crossbuckref05_Check.l4 t k (i : Int) = some (.inr (.inr u)) → ∃ v, M_topo_Check.l1 t.ACEs t.Ports t.Links k (i : Int) = some (.inr (.inr v)))
  | 0, i, k, hi, hk => by
    obtain ⟨k, rfl⟩ : ∃ m, k = m + 1 := ⟨k - 1, by omega⟩
    rw [M_crossbuckref05_Check.l4.eq_2, M_topo_Check.l1.eq_2, if_neg (by omega), if_neg (by omega)]
    exact ⟨⟨_, rfl⟩, fun _ _ => ⟨_, rfl⟩⟩
  | d + 1, i, k, hi, hk => by
    obtain ⟨k, rfl⟩ : ∃ m, k = m + 1 := ⟨k - 1, by omega⟩
    obtain ⟨x, hx⟩ : ∃ x, t.ACEs[i]? = some x := ⟨_, List.getElem?_eq_getElem (by omega)⟩
    have hw : w64 ((i : Int) + 1) = ((i + 1 : Nat) : Int) := by rw [w64_id (by omega) (by omega)]; omega
    obtain ⟨h1, h2⟩ := aces_ref t ha hf d (i + 1) k (by omega) (by omega)
    obtain ⟨e, he⟩ := port_some t.Ports t.Links t.ACEs x.Dev x.Port
    have hfx := hf x (List.mem_of_getElem? hx)
    obtain ⟨g, hg⟩ := filter_some hfx
    rw [M_crossbuckref05_Check.l4.eq_2, M_topo_Check.l1.eq_2, if_pos (by omega), if_pos (by omega), nth_of hx]
    simp only [Option.bind_some, port_same]
    rw [he]
    simp only [Option.bind_some]
    by_cases e0 : e = 0
    · rw [if_neg (by simp [e0]), if_neg (by simp [e0]), ← filter_same hfx, hg]
      simp only [Option.bind_some]
      by_cases g0 : g = 0
      · rw [if_neg (by simp [g0]), if_neg (by simp [g0]), hw]
        exact ⟨h1, h2⟩
      · rw [if_pos g0, if_pos g0]
        exact ⟨⟨_, rfl⟩, fun _ h => by cases h⟩
    · rw [if_pos e0, if_pos e0]
      exact ⟨⟨_, rfl⟩, fun _ h => by cases h⟩
theorem ends_ne0 (t : MApiTopo) (l : List T112) : ∀ (k : Nat) (i : Int), M_crossbuckref05_Check.l2 l k t i ≠ some (.inl 0)
  | 0, i => by intro h; cases h
  | k + 1, i => by
    intro h
    rw [M_crossbuckref05_Check.l2.eq_2] at h
    split at h
    · obtain ⟨x, _, h⟩ := bind_some h
      obtain ⟨y, _, h⟩ := bind_some h
      obtain ⟨e, _, h⟩ := bind_some h
      by_cases e0 : e = 0
      · rw [if_neg (by simp [e0])] at h
        obtain ⟨z, _, h⟩ := bind_some h
        rcases z with z | z
        · cases h
        · exact ends_ne0 t l k _ h
      · rw [if_pos e0] at h
        have := Sum.inl.inj (Option.some.inj h)
        exact e0 this
    · cases h
theorem aces_ne0 (t : MApiTopo) : ∀ (k : Nat) (i : Int), ¬ (M_crossbuckref05_Check.l4 t k i = some (.inl 0) ∨ M_crossbuckref05_Check.l4 t k i = some (.inr (.inl 0)))
  | 0, i => by rintro (h | h) <;> cases h
  | k + 1, i => by
    intro h
    rw [M_crossbuckref05_Check.l4.eq_2] at h
    split at h
    · have : ∀ r, (r = .inl 0 ∨ r = .inr (.inl 0)) → ¬ (((nth t.ACEs i).bind fun y182 => (nth t.ACEs i).bind fun y185 => (M_crossbuckref05_Port t.Ports t.Links t.ACEs y182.Dev y185.Port).bind fun y188 => if ¬ (y188 = 0) then (some (.inl y188)) else ((nth t.ACEs i).bind fun y190 => (M_crossbuckref04_Check y190.F).bind fun y193 => if ¬ (y193 = 0) then (some (.inr (.inl y193))) else (M_crossbuckref05_Check.l4 t k (w64 (i + 1))))) = some (r : Int ⊕ Int ⊕ Unit)) := by
        intro r hr h
        obtain ⟨x, _, h⟩ := bind_some h
        obtain ⟨y, _, h⟩ := bind_some h
        obtain ⟨e, _, h⟩ := bind_some h
        by_cases e0 : e = 0
        · rw [if_neg (by simp [e0])] at h
          obtain ⟨z, _, h⟩ := bind_some h
          obtain ⟨g, _, h⟩ := bind_some h
          by_cases g0 : g = 0
          · rw [if_neg (by simp [g0])] at h
            rcases hr with rfl | rfl
            · exact aces_ne0 t k _ (.inl h)
            · exact aces_ne0 t k _ (.inr h)
          · rw [if_pos g0] at h
            rcases hr with rfl | rfl
            · cases h
            · exact g0 (Sum.inl.inj (Sum.inr.inj (Option.some.inj h)))
        · rw [if_pos e0] at h
          rcases hr with rfl | rfl
          · exact e0 (Sum.inl.inj (Option.some.inj h))
          · cases h
      rcases h with h | h
      · exact this _ (.inl rfl) h
      · exact this _ (.inr rfl) h
    · rcases h with h | h <;> cases h
/-- What the document says to be right is right for the program; and the document always answers. -/
theorem check_ref (ps : List Int) (ls : List MApiLink) (as_ : List MApiACE) (hs : small ps ls as_) (hf : ∀ a ∈ as_, fitF a.F) :
    (∃ e, M_crossbuckref05_Check ps ls as_ = some e) ∧ (M_crossbuckref05_Check ps ls as_ = some 0 → M_topo_Check ps ls as_ = some 0) := by
  obtain ⟨s1, s2, s3⟩ := hs
  have hF := fuel_big
  obtain ⟨⟨r1, hr1⟩, p1⟩ := ports_ref ps ls as_ s1 ps.length 0 fuel (by omega) (by omega)
  unfold M_crossbuckref05_Check
  by_cases a1 : ((ps.length : Nat) : Int) < 1
  · rw [if_pos a1]; exact ⟨⟨_, rfl⟩, fun h => by cases h⟩
  rw [if_neg a1]
  by_cases a2 : (16 : Int) < ((ps.length : Nat) : Int)
  · rw [if_pos a2]; exact ⟨⟨_, rfl⟩, fun h => by cases h⟩
  rw [if_neg a2]
  by_cases a3 : (32 : Int) < ((as_.length : Nat) : Int)
  · rw [if_pos a3]; exact ⟨⟨_, rfl⟩, fun h => by cases h⟩
  rw [if_neg a3, show (0 : Int) = ((0 : Nat) : Int) from rfl, hr1]
  simp only [Option.bind_some]
  rcases r1 with r1 | r1 | r1
  · exact ⟨⟨_, rfl⟩, fun h => by cases h⟩
  · exact ⟨⟨_, rfl⟩, fun h => by cases h⟩
  have h8 : ∀ (j : Nat) (n : Int), ps[j]? = some n → 0 ≤ n ∧ n ≤ 8 := fun j n hn => p1 r1 hr1 j n (Nat.zero_le _) hn
  simp only [Sum.elim_inr, ends_eq ps ls as_ s2, Option.bind_some]
  obtain ⟨⟨r2, hr2⟩, p2⟩ := ends_ref ⟨ps, ls, as_⟩ (endsOf ls) (by rw [endsOf_len]; omega) (endsOf ls).length 0 fuel (by omega) (by rw [endsOf_len]; omega)
  rw [hr2]
  simp only [Option.bind_some]
  rcases r2 with r2 | r2 | r2
  · refine ⟨⟨_, rfl⟩, fun h => ?_⟩
    exfalso
    have q : r2 = 0 := by simpa using h
    subst q
    exact ends_ne0 ⟨ps, ls, as_⟩ (endsOf ls) fuel 0 hr2
  · exact ⟨⟨_, rfl⟩, fun h => by cases h⟩
  obtain ⟨hq, hok⟩ := p2 r2 hr2
  subst hq
  simp only [Sum.elim_inr]
  obtain ⟨⟨r4, hr4⟩, p4⟩ := aces_ref ⟨ps, ls, as_⟩ s3 hf as_.length 0 fuel (by simp) (by omega)
  rw [hr4]
  simp only [Option.bind_some]
  rcases r4 with r4 | r4 | r4
  · refine ⟨⟨_, rfl⟩, fun h => ?_⟩
    exfalso
    have q : r4 = 0 := by simpa using h
    subst q
    exact aces_ne0 ⟨ps, ls, as_⟩ fuel 0 (.inl hr4)
  · refine ⟨⟨_, rfl⟩, fun h => ?_⟩
    exfalso
    have q : r4 = 0 := by simpa using h
    subst q
    exact aces_ne0 ⟨ps, ls, as_⟩ fuel 0 (.inr hr4)
  refine ⟨⟨_, rfl⟩, fun _ => ?_⟩
  obtain ⟨v, hv⟩ := p4 r4 hr4
  have hlk := links_impl ⟨ps, ls, as_⟩ s1 s2 h8 hok ls.length 0 fuel [] (by simp) (by omega) (fun e he => absurd rfl he)
  unfold M_topo_Check M_topo_links
  rw [if_neg (by omega), if_neg a2, if_neg a3, contains_impl ps s1 h8]
  simp only [Option.bind_some, Bool.false_eq_true, if_false]
  rw [show (0 : Int) = ((0 : Nat) : Int) from rfl, hlk]
  simp only [Option.bind_some, Sum.elim_inr]
  rw [if_neg (by simp), hv]
  rfl
end Go.Proofs.YtjfajpoknnifcaaGreat
