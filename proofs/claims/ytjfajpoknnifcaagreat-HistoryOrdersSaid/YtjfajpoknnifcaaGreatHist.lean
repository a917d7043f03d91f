/- Walks: cloning, ordering. No condition. -/
import Derived.Test.YtjfajpoknnifcaaGreatHistFacts
namespace Go.Proofs.YtjfajpoknnifcaaGreat
open Go
set_option maxRecDepth 20000
set_option linter.unusedVariables false
set_option linter.unusedSimpArgs false
/-- slices.Clone[[]crossbuck/sched.Rec,crossbuck/sched.Rec] -/
theorem clone_nil  : Tri Tryz.prog 16 [.slice none 0 0].toArray [] (X := Unit) (fun _ => .slice none 0 0) (fun _ => True) (fun _ => []) := by
  refine tri_intro (n := 8) (vs := [.slice none 0 0]) Tryz.func16 rfl rfl rfl (fun R E => ?_)
  show Dn E 8 [] _ [(0, .slice none 0 0)] [R]
  refine dn_seq ?_
  refine dn_reg ?_
  refine dl_t rfl rfl rfl (op_assign rfl) ?_
  refine dn_done ?_
  refine dn_then ?_
  refine dn_seq ?_
  refine dn_seq ?_
  refine dn_reg ?_
  refine dl_t rfl rfl rfl (op_move rfl) ?_
  refine dl_t rfl rfl rfl (op_slieql rfl rfl el_24 rfl) ?_
  refine dn_done ?_
  refine dn_then ?_
  refine dn_cond_true rfl ?_
  refine dn_seq ?_
  refine dn_reg ?_
  refine dl_t rfl rfl rfl (op_assign rfl) ?_
  refine dn_done ?_
  refine dn_then ?_
  refine dn_ret ?_
  refine dn_thenR ?_
  exact dn_end () (by exact rfl) (by exact rfl) (by exact rfl) (by trivial) [0] (by exact rfl) (by exact .inl rfl)
/-- slices.Clone[[]crossbuck/sched.Rec,crossbuck/sched.Rec] -/
theorem clone_some (ad : Addr) (n cap : Nat) (xs : List RecV) (hn : xs.length = n) (h63 : n ≤ 1000000) : Tri Tryz.prog 16 [.slice (some ad) n cap].toArray [OwnS 46 17 (some ad) n cap (flat encR xs)] (X := Option Addr × Nat) (fun p => .slice p.1 n p.2) (fun _ => True) (fun p => [OwnS 46 17 (some ad) n cap (flat encR xs), OwnS 46 17 p.1 n p.2 (flat encR xs)]) := by
  refine tri_intro (n := 8) (vs := [.slice (some ad) n cap]) Tryz.func16 rfl rfl rfl (fun R E => ?_)
  show Dn E 8 [] _ [(0, .slice (some ad) n cap)] [OwnS 46 17 (some ad) n cap (flat encR xs), R]
  refine dn_seq ?_
  refine dn_reg ?_
  refine dl_t rfl rfl rfl (op_assign rfl) ?_
  refine dn_done ?_
  refine dn_then ?_
  refine dn_seq ?_
  refine dn_seq ?_
  refine dn_reg ?_
  refine dl_t rfl rfl rfl (op_move rfl) ?_
  refine dl_t rfl rfl rfl (op_slieql (b := false) rfl rfl el_24 rfl) ?_
  refine dn_done ?_
  refine dn_then ?_
  refine dn_cond_false rfl ?_
  refine dn_skip ?_
  refine dn_then ?_
  refine dn_seq ?_
  refine dn_reg ?_
  refine dl_e rfl (op_buildSlice0 el_24 sz_46 rfl) ?_
  rintro b1 -
  refine dn_norm (Qs := [_, _, _]) rfl ?_
  refine dl_t rfl rfl rfl (op_move rfl) ?_
  refine dn_ownOf (sz := 17) (m := 0) (l := []) rfl (by simp only [maxLen]; omega) ?_
  refine dl_e rfl (op_appendG (news := flat encR xs) (k' := n) [0] rfl rfl rfl el_24 sz_46 zr_46 by_46 rfl rfl (by rw [flat_len encR_len, hn]) (news_own 1 rfl) (flat_ones xs) (by simp only [maxLen]; omega) (by omega) (by omega) rfl) ?_
  rintro p -
  refine dn_norm (Qs := [_, _, _]) rfl ?_
  refine dl_t rfl rfl rfl (op_assign rfl) ?_
  refine dn_done ?_
  refine dn_then ?_
  refine dn_ret ?_
  exact dn_end p (by exact rfl) (by exact rfl) (by exact rfl) (by trivial) [1, 0, 0] (by exact rfl) (by exact .inl rfl)
/-- Clone of whatever. -/
theorem clone_tri (a : Option Addr) (n cap : Nat) (xs : List RecV) (hn : xs.length = n) (h63 : n ≤ 1000000) : Tri Tryz.prog 16 [.slice a n cap].toArray [OwnS 46 17 a n cap (flat encR xs)] (X := Option Addr × Nat) (fun p => .slice p.1 n p.2) (fun _ => True) (fun p => [OwnS 46 17 a n cap (flat encR xs), OwnS 46 17 p.1 n p.2 (flat encR xs)]) := by
  cases a with
  | some ad => exact clone_some ad n cap xs hn h63
  | none =>
    intro R w H
    obtain ⟨rfl, rfl, hx⟩ := H.ownNone
    obtain rfl := flat_none encR_len (by decide) hx
    exact tri_none clone_nil R w H
/-- crossbuck/history.Order -/
theorem order_tri (a : Option Addr) (n cap : Nat) (xs : List RecV) (hn : xs.length = n) (h63 : n ≤ 1000000) : Tri Tryz.prog 8 [.slice a n cap].toArray [OwnS 46 17 a n cap (flat encR xs)] (X := (Option Addr × Nat) × List RecV) (fun x => .slice x.1.1 n x.1.2) (fun x => OrdOf xs x.2) (fun x => [OwnS 46 17 a n cap (flat encR xs), OwnS 46 17 x.1.1 n x.1.2 (flat encR x.2)]) := by
  refine tri_intro (n := 9) (vs := [.slice a n cap]) Tryz.func8 rfl rfl rfl (fun R E => ?_)
  show Dn E 9 [] _ [(0, .slice a n cap)] [OwnS 46 17 a n cap (flat encR xs), R]
  refine dn_seq ?_
  refine dn_reg ?_
  refine dl_t rfl rfl rfl (op_assign rfl) ?_
  refine dn_done ?_
  refine dn_then ?_
  refine dn_seq ?_
  refine dn_reg ?_
  refine dl_t rfl rfl rfl (op_move rfl) ?_
  refine dl_e rfl (op_call (vs := [.slice a n cap]) cl_16 (clone_tri a n cap xs (by omega) (by omega)) rfl [0] rfl rfl) ?_
  rintro p1 -
  refine dn_norm (Qs := [_, _, _]) rfl ?_
  refine dl_t rfl rfl rfl (op_assign rfl) ?_
  refine dn_done ?_
  refine dn_then ?_
  refine dn_seq ?_
  refine dn_reg ?_
  refine dl_t rfl rfl rfl (op_move rfl) ?_
  refine dn_norm (Qs := [OwnS 46 17 a n cap (flat encR xs), OwnS 46 17 p1.1 n p1.2 (flat encT (tagged xs)), R]) (by rw [← flat_tagged]) ?_
  refine dl_e rfl (op_call (vs := [.slice p1.1 n p1.2, .func (.func 18) #[] #[]]) cl_17 (sortStable_tri p1.1 n p1.2 (tagged xs) (by rw [tagged_len]; omega) (by omega) (tagged_tags _)) rfl [1] rfl rfl) ?_
  rintro ys2 hd3
  refine dn_norm (Qs := [_, _, _]) rfl ?_
  refine dn_done ?_
  refine dn_norm (Qs := [OwnS 46 17 p1.1 n p1.2 (flat encR (ys2.map (·.2))), OwnS 46 17 a n cap (flat encR xs), R]) (by rw [← flat_snd]) ?_
  refine dn_then ?_
  refine dn_seq ?_
  refine dn_reg ?_
  refine dl_t rfl rfl rfl (op_move rfl) ?_
  refine dl_t rfl rfl rfl (op_assign rfl) ?_
  refine dn_done ?_
  refine dn_then ?_
  refine dn_ret ?_
  exact dn_end ((p1.1, p1.2), ys2.map (·.2)) (by exact rfl) (by exact rfl) (by exact rfl) (by exact ⟨_, hd3, rfl⟩) [1, 0, 0] (by exact rfl) (by exact .inl rfl)
/-- crossbuck/history.Real -/
theorem real_tri (a : Option Addr) (n cap : Nat) (xs : List RecV) (hn : xs.length = n) (h63 : n ≤ 1000000) : Tri Tryz.prog 9 [.slice a n cap].toArray [OwnS 46 17 a n cap (flat encR xs)] (X := Bool) (fun b => .bool b) (fun b => b = true ↔ RealUp xs xs.length) (fun _ => [OwnS 46 17 a n cap (flat encR xs)]) := by
  refine tri_intro (n := 29) (vs := [.slice a n cap]) Tryz.func9 rfl rfl rfl (fun R E => ?_)
  show Dn E 29 [] _ [(0, .slice a n cap)] [OwnS 46 17 a n cap (flat encR xs), R]
  refine dn_ownLen 0 rfl (fun hlen hcap hmax => ?_)
  refine dn_seq ?_
  refine dn_reg ?_
  refine dl_t rfl rfl rfl (op_assign rfl) ?_
  refine dn_done ?_
  refine dn_then ?_
  refine dn_seq ?_
  refine dn_seq ?_
  refine dn_reg ?_
  refine dl_t rfl rfl rfl (op_move rfl) ?_
  refine dl_t rfl rfl rfl (op_len rfl el_24) ?_
  refine dl_t rfl rfl rfl (op_move rfl) ?_
  refine dn_done ?_
  refine dn_then ?_
  refine dn_block ?_
  refine dn_loop (α := Nat) (fun (i : Nat) => i ≤ n ∧ RealUp xs i) (fun (i : Nat) => n - i) (fun (i : Nat) => [(0, .slice a n cap), (7, .slice a n cap), (8, .int .i64 ((n : Nat) : Int)), (9, .int .i64 ((i : Nat) : Int))]) (fun (i : Nat) => [OwnS 46 17 a n cap (flat encR xs), R]) ?_ ?_
  ·
    exact dn_meet 0 (⟨Nat.zero_le _, fun c k x y _ h => absurd h (Nat.not_lt_zero _)⟩) (Less.cons rfl (Less.cons rfl (Less.cons rfl (Less.cons rfl (Less.nil _))))) [0, 0] rfl
  ·
    rintro i hI
    show Dn E 29 [] _ [(0, .slice a n cap), (7, .slice a n cap), (8, .int .i64 ((n : Nat) : Int)), (9, .int .i64 ((i : Nat) : Int))] [OwnS 46 17 a n cap (flat encR xs), R]
    obtain ⟨hI1, hI2⟩ : i ≤ n ∧ RealUp xs i := hI
    refine dn_seq ?_
    refine dn_reg ?_
    refine dl_t rfl rfl rfl (op_lss rfl rfl) ?_
    refine dn_done ?_
    refine dn_then ?_
    refine dn_seq ?_
    refine dn_cond (p := ((i : Nat) : Int) < ((n : Nat) : Int)) rfl (fun hc2 => ?_) (fun hc2 => ?_)
    ·
      refine dn_skip ?_
      refine dn_then ?_
      refine dn_seq ?_
      refine dn_block ?_
      refine dn_seq ?_
      refine dn_reg ?_
      refine dl_t rfl rfl rfl (op_move rfl) ?_
      refine dn_ownSome 0 rfl (by omega) (fun hS1 => ?_)
      refine dl_t rfl rfl rfl (op_indexS (k := i * 17) hS1 rfl rfl el_24 sz_46 (by omega) (by omega) (by first | rfl | omega)) ?_
      obtain ⟨x2, hx3⟩ : ∃ x, xs[i]? = some x := ⟨_, List.getElem?_eq_getElem (by omega)⟩
      refine dl_r 0 rfl rfl rfl rfl (op_loadON (vs := encR x2) rfl ag_46 sz_46 (by omega) (flat_part encR_len hx3) (encR_len _)) ?_
      refine dl_e rfl (op_alloc (vs := [.int .i64 0, .int .i64 0, .int .i64 0, .int .i64 0, .int .i64 0, .int .i64 0, .int .u64 0, .int .u64 0, .int .u32 0, .int .u32 0, .int .u8 0, .int .u16 0, .int .u16 0, .bool false, .slice none 0 0, .int .i64 0, .int .i64 0]) zr_46 rfl rfl) ?_
      rintro b4 -
      refine dn_norm (Qs := [_, _, _]) rfl ?_
      refine dl_t rfl rfl rfl (op_assign rfl) ?_
      refine dl_s rfl (op_store (vs := encR x2) (l' := encR x2) 0 rfl rfl rfl sz_46 rfl (encR_len _) (encR_one _) rfl (lay_all (by rw [encR_len _]; rfl))) ?_
      refine dn_norm (Qs := [_, _, _]) rfl ?_
      refine dn_done ?_
      refine dn_then ?_
      refine dn_seq ?_
      refine dn_reg ?_
      refine dl_t rfl rfl rfl (op_move rfl) ?_
      refine dl_t rfl rfl rfl (op_move rfl) ?_
      refine dl_t rfl rfl rfl (op_slice (l := 0) (h := i) (m := cap) (a' := a) (n' := i) (c' := cap) rfl rfl rfl rfl el_24 sz_46 rfl rfl rfl (by simp) (by omega) (by omega) (by omega) sliceA0 (by omega) (by omega)) ?_
      refine dl_t rfl rfl rfl (op_len rfl el_24) ?_
      refine dl_t rfl rfl rfl (op_move rfl) ?_
      refine dn_done ?_
      refine dn_then ?_
      refine dn_block ?_
      refine dn_loop (α := Nat) (fun (k : Nat) => k ≤ i ∧ ∀ c y, c < k → xs[c]? = some y → ¬ x2.en < y.bg) (fun (k : Nat) => i - k) (fun (k : Nat) => [(0, .slice a n cap), (4, .pointer (some ⟨b4, 0, none⟩)), (7, .slice a n cap), (8, .int .i64 ((n : Nat) : Int)), (9, .int .i64 ((i : Nat) : Int)), (16, .slice a i cap), (17, .int .i64 ((i : Nat) : Int)), (18, .int .i64 ((k : Nat) : Int))]) (fun (k : Nat) => [Blk b4 (.cells (encR x2).toArray 46 (0, 0)), OwnS 46 17 a n cap (flat encR xs), R]) ?_ ?_
      ·
        exact dn_meet 0 (⟨Nat.zero_le _, fun c y h => absurd h (Nat.not_lt_zero _)⟩) (Less.cons rfl (Less.cons rfl (Less.cons rfl (Less.cons rfl (Less.cons rfl (Less.cons rfl (Less.cons rfl (Less.cons rfl (Less.nil _))))))))) [0, 0, 0] rfl
      ·
        rintro k hK
        show Dn E 29 [] _ [(0, .slice a n cap), (4, .pointer (some ⟨b4, 0, none⟩)), (7, .slice a n cap), (8, .int .i64 ((n : Nat) : Int)), (9, .int .i64 ((i : Nat) : Int)), (16, .slice a i cap), (17, .int .i64 ((i : Nat) : Int)), (18, .int .i64 ((k : Nat) : Int))] [Blk b4 (.cells (encR x2).toArray 46 (0, 0)), OwnS 46 17 a n cap (flat encR xs), R]
        obtain ⟨hK1, hK2⟩ : k ≤ i ∧ ∀ c y, c < k → xs[c]? = some y → ¬ x2.en < y.bg := hK
        refine dn_seq ?_
        refine dn_reg ?_
        refine dl_t rfl rfl rfl (op_lss rfl rfl) ?_
        refine dn_done ?_
        refine dn_then ?_
        refine dn_seq ?_
        refine dn_cond (p := ((k : Nat) : Int) < ((i : Nat) : Int)) rfl (fun hc5 => ?_) (fun hc5 => ?_)
        ·
          refine dn_skip ?_
          refine dn_then ?_
          refine dn_seq ?_
          refine dn_block ?_
          refine dn_seq ?_
          refine dn_reg ?_
          refine dl_t rfl rfl rfl (op_indexS (k := k * 17) hS1 rfl rfl el_24 sz_46 (by omega) (by omega) (by first | rfl | omega)) ?_
          obtain ⟨x5, hx6⟩ : ∃ x, xs[k]? = some x := ⟨_, List.getElem?_eq_getElem (by omega)⟩
          refine dl_r 1 rfl rfl rfl rfl (op_loadON (vs := encR x5) rfl ag_46 sz_46 (by omega) (flat_part encR_len hx6) (encR_len _)) ?_
          refine dl_e rfl (op_alloc (vs := [.int .i64 0, .int .i64 0, .int .i64 0, .int .i64 0, .int .i64 0, .int .i64 0, .int .u64 0, .int .u64 0, .int .u32 0, .int .u32 0, .int .u8 0, .int .u16 0, .int .u16 0, .bool false, .slice none 0 0, .int .i64 0, .int .i64 0]) zr_46 rfl rfl) ?_
          rintro b7 -
          refine dn_norm (Qs := [_, _, _, _]) rfl ?_
          refine dl_s rfl (op_store (vs := encR x5) (l' := encR x5) 0 rfl rfl rfl sz_46 rfl (encR_len _) (encR_one _) rfl (lay_all (by rw [encR_len _]; rfl))) ?_
          refine dn_norm (Qs := [_, _, _, _]) rfl ?_
          refine dn_done ?_
          refine dn_then ?_
          refine dn_seq ?_
          refine dn_reg ?_
          refine dl_t rfl rfl rfl (op_fieldAddr (i' := 4) rfl fd_46_4 rfl) ?_
          refine dl_r 1 rfl rfl rfl rfl (op_load rfl ag_3 rfl) ?_
          refine dl_t rfl rfl rfl (op_fieldAddr (i' := 2) rfl fd_46_2 rfl) ?_
          refine dl_r 0 rfl rfl rfl rfl (op_load rfl ag_3 rfl) ?_
          refine dl_t rfl rfl rfl (op_lss rfl rfl) ?_
          refine dn_done ?_
          refine dn_then ?_
          refine dn_cond (p := x2.en < x5.bg) rfl (fun hc7 => ?_) (fun hc7 => ?_)
          ·
            refine dn_seq ?_
            refine dn_reg ?_
            refine dl_t rfl rfl rfl (op_assign rfl) ?_
            refine dn_done ?_
            refine dn_then ?_
            refine dn_ret ?_
            refine dn_inBR ?_
            refine dn_thenR ?_
            refine dn_thenR ?_
            refine dn_inBR ?_
            refine dn_inBR ?_
            refine dn_thenR ?_
            refine dn_thenR ?_
            refine dn_inBR ?_
            refine dn_thenR ?_
            exact dn_end false (by exact rfl) (by exact rfl) (by exact rfl) (by exact ⟨fun h => (by cases h), fun h => absurd hc7 (h i k _ _ (by omega) (by omega) hx3 hx6)⟩) [2, 2] (by exact rfl) (by exact .inl rfl)
          ·
            refine dn_skip ?_
            refine dn_inB ?_
            refine dn_then ?_
            refine dn_reg ?_
            refine dl_t rfl rfl rfl (op_add (z := ((k + 1 : Nat) : Int)) rfl rfl (wa_i64 (by omega) (by omega) (by omega))) ?_
            refine dl_t rfl rfl rfl (op_move rfl) ?_
            refine dn_done ?_
            refine dn_then ?_
            exact dn_meet (k + 1) (⟨by show i - (k + 1) < i - k; omega, by show k + 1 ≤ i; omega, fun c y h1 h2 => if e : c = k then by subst e; rw [hx6] at h2; cases h2; exact hc7 else hK2 c y (by omega) h2⟩) (Less.cons rfl (Less.cons rfl (Less.cons rfl (Less.cons rfl (Less.cons rfl (Less.cons rfl (Less.cons rfl (Less.cons rfl (Less.nil _))))))))) [1, 1, 1] rfl
        ·
          refine dn_exit ?_
          refine dn_thenX ?_
          refine dn_thenX ?_
          refine dn_inBX ?_
          refine dn_inB ?_
          refine dn_then ?_
          refine dn_reg ?_
          refine dl_t rfl rfl rfl (op_add (z := ((i + 1 : Nat) : Int)) rfl rfl (wa_i64 (by omega) (by omega) (by omega))) ?_
          refine dl_t rfl rfl rfl (op_move rfl) ?_
          refine dn_done ?_
          refine dn_then ?_
          exact dn_meet (i + 1) (⟨by show n - (i + 1) < n - i; omega, by show i + 1 ≤ n; omega, hI2.step hx3 (fun c y h => hK2 c y (by omega))⟩) (Less.cons rfl (Less.cons rfl (Less.cons rfl (Less.cons rfl (Less.nil _))))) [1, 1] rfl
    ·
      refine dn_exit ?_
      refine dn_thenX ?_
      refine dn_thenX ?_
      refine dn_inBX ?_
      refine dn_then ?_
      refine dn_seq ?_
      refine dn_reg ?_
      refine dl_t rfl rfl rfl (op_assign rfl) ?_
      refine dn_done ?_
      refine dn_then ?_
      refine dn_ret ?_
      exact dn_end true (by exact rfl) (by exact rfl) (by exact rfl) (by exact ⟨fun _ => by rw [hn, show n = i from by omega]; exact hI2, fun _ => rfl⟩) [0, 0] (by exact rfl) (by exact .inl rfl)
/-- crossbuck/history.Overlap -/
theorem overlap_tri (a : Option Addr) (n cap : Nat) (xs : List RecV) (hn : xs.length = n) (h63 : n ≤ 1000000) : Tri Tryz.prog 11 [.slice a n cap].toArray [OwnS 46 17 a n cap (flat encR xs)] (X := Unit) (fun _ => .int .i64 ((ovl xs xs : Nat) : Int)) (fun _ => True) (fun _ => [OwnS 46 17 a n cap (flat encR xs)]) := by
  refine tri_intro (n := 41) (vs := [.slice a n cap]) Tryz.func11 rfl rfl rfl (fun R E => ?_)
  show Dn E 41 [] _ [(0, .slice a n cap)] [OwnS 46 17 a n cap (flat encR xs), R]
  refine dn_seq ?_
  refine dn_reg ?_
  refine dl_t rfl rfl rfl (op_assign rfl) ?_
  refine dn_done ?_
  refine dn_then ?_
  refine dn_seq ?_
  refine dn_reg ?_
  refine dl_t rfl rfl rfl (op_assign rfl) ?_
  refine dn_done ?_
  refine dn_then ?_
  refine dn_seq ?_
  refine dn_seq ?_
  refine dn_reg ?_
  refine dl_t rfl rfl rfl (op_move rfl) ?_
  refine dl_t rfl rfl rfl (op_len rfl el_24) ?_
  refine dl_t rfl rfl rfl (op_move rfl) ?_
  refine dn_done ?_
  refine dn_then ?_
  refine dn_block ?_
  refine dn_loop (α := Nat) (fun (i : Nat) => i ≤ n) (fun (i : Nat) => n - i) (fun (i : Nat) => [(0, .slice a n cap), (3, .int .i64 ((ovl xs (xs.take i) : Nat) : Int)), (9, .slice a n cap), (10, .int .i64 ((n : Nat) : Int)), (11, .int .i64 ((i : Nat) : Int))]) (fun (i : Nat) => [OwnS 46 17 a n cap (flat encR xs), R]) ?_ ?_
  ·
    exact dn_meet 0 (Nat.zero_le _) (Less.cons rfl (Less.cons rfl (Less.cons rfl (Less.cons rfl (Less.cons rfl (Less.nil _)))))) [0, 0] rfl
  ·
    rintro i hI
    show Dn E 41 [] _ [(0, .slice a n cap), (3, .int .i64 ((ovl xs (xs.take i) : Nat) : Int)), (9, .slice a n cap), (10, .int .i64 ((n : Nat) : Int)), (11, .int .i64 ((i : Nat) : Int))] [OwnS 46 17 a n cap (flat encR xs), R]
    have hol := ovl_le xs (xs.take i)
    refine dn_seq ?_
    refine dn_reg ?_
    refine dl_t rfl rfl rfl (op_lss rfl rfl) ?_
    refine dn_done ?_
    refine dn_then ?_
    refine dn_seq ?_
    refine dn_cond (p := ((i : Nat) : Int) < ((n : Nat) : Int)) rfl (fun hc3 => ?_) (fun hc3 => ?_)
    ·
      refine dn_skip ?_
      refine dn_then ?_
      refine dn_seq ?_
      refine dn_block ?_
      refine dn_seq ?_
      refine dn_reg ?_
      refine dn_ownSome 0 rfl (by omega) (fun hS1 => ?_)
      refine dl_t rfl rfl rfl (op_indexS (k := i * 17) hS1 rfl rfl el_24 sz_46 (by omega) (by omega) (by first | rfl | omega)) ?_
      obtain ⟨x2, hx3⟩ : ∃ x, xs[i]? = some x := ⟨_, List.getElem?_eq_getElem (by omega)⟩
      refine dl_r 0 rfl rfl rfl rfl (op_loadON (vs := encR x2) rfl ag_46 sz_46 (by omega) (flat_part encR_len hx3) (encR_len _)) ?_
      refine dl_e rfl (op_alloc (vs := [.int .i64 0, .int .i64 0, .int .i64 0, .int .i64 0, .int .i64 0, .int .i64 0, .int .u64 0, .int .u64 0, .int .u32 0, .int .u32 0, .int .u8 0, .int .u16 0, .int .u16 0, .bool false, .slice none 0 0, .int .i64 0, .int .i64 0]) zr_46 rfl rfl) ?_
      rintro b4 -
      refine dn_norm (Qs := [_, _, _]) rfl ?_
      refine dl_s rfl (op_store (vs := encR x2) (l' := encR x2) 0 rfl rfl rfl sz_46 rfl (encR_len _) (encR_one _) rfl (lay_all (by rw [encR_len _]; rfl))) ?_
      refine dn_norm (Qs := [_, _, _]) rfl ?_
      refine dn_done ?_
      refine dn_then ?_
      refine dn_seq ?_
      refine dn_reg ?_
      refine dl_t rfl rfl rfl (op_assign rfl) ?_
      refine dn_done ?_
      refine dn_then ?_
      refine dn_seq ?_
      refine dn_seq ?_
      refine dn_reg ?_
      refine dl_t rfl rfl rfl (op_move rfl) ?_
      refine dl_t rfl rfl rfl (op_len rfl el_24) ?_
      refine dl_t rfl rfl rfl (op_move rfl) ?_
      refine dn_done ?_
      refine dn_then ?_
      refine dn_block ?_
      refine dn_loop (α := Nat) (fun (k : Nat) => k ≤ n) (fun (k : Nat) => n - k) (fun (k : Nat) => [(0, .slice a n cap), (3, .int .i64 ((ovl xs (xs.take i) : Nat) : Int)), (5, .pointer (some ⟨b4, 0, none⟩)), (6, .int .i64 ((cnt (xs.take k) x2 : Nat) : Int)), (9, .slice a n cap), (10, .int .i64 ((n : Nat) : Int)), (11, .int .i64 ((i : Nat) : Int)), (15, .slice a n cap), (16, .int .i64 ((n : Nat) : Int)), (17, .int .i64 ((k : Nat) : Int))]) (fun (k : Nat) => [Blk b4 (.cells (encR x2).toArray 46 (0, 0)), OwnS 46 17 a n cap (flat encR xs), R]) ?_ ?_
      ·
        exact dn_meet 0 (Nat.zero_le _) (Less.cons rfl (Less.cons rfl (Less.cons rfl (Less.cons rfl (Less.cons rfl (Less.cons rfl (Less.cons rfl (Less.cons rfl (Less.cons rfl (Less.cons rfl (Less.nil _))))))))))) [0, 0, 0] rfl
      ·
        rintro k hK
        show Dn E 41 [] _ [(0, .slice a n cap), (3, .int .i64 ((ovl xs (xs.take i) : Nat) : Int)), (5, .pointer (some ⟨b4, 0, none⟩)), (6, .int .i64 ((cnt (xs.take k) x2 : Nat) : Int)), (9, .slice a n cap), (10, .int .i64 ((n : Nat) : Int)), (11, .int .i64 ((i : Nat) : Int)), (15, .slice a n cap), (16, .int .i64 ((n : Nat) : Int)), (17, .int .i64 ((k : Nat) : Int))] [Blk b4 (.cells (encR x2).toArray 46 (0, 0)), OwnS 46 17 a n cap (flat encR xs), R]
        have hcl := cnt_le (xs.take k) x2
        rw [List.length_take] at hcl
        refine dn_seq ?_
        refine dn_reg ?_
        refine dl_t rfl rfl rfl (op_lss rfl rfl) ?_
        refine dn_done ?_
        refine dn_then ?_
        refine dn_seq ?_
        refine dn_cond (p := ((k : Nat) : Int) < ((n : Nat) : Int)) rfl (fun hc7 => ?_) (fun hc7 => ?_)
        ·
          refine dn_skip ?_
          refine dn_then ?_
          refine dn_seq ?_
          refine dn_block ?_
          refine dn_seq ?_
          refine dn_reg ?_
          refine dl_t rfl rfl rfl (op_indexS (k := k * 17) hS1 rfl rfl el_24 sz_46 (by omega) (by omega) (by first | rfl | omega)) ?_
          obtain ⟨x5, hx6⟩ : ∃ x, xs[k]? = some x := ⟨_, List.getElem?_eq_getElem (by omega)⟩
          refine dl_r 1 rfl rfl rfl rfl (op_loadON (vs := encR x5) rfl ag_46 sz_46 (by omega) (flat_part encR_len hx6) (encR_len _)) ?_
          refine dl_e rfl (op_alloc (vs := [.int .i64 0, .int .i64 0, .int .i64 0, .int .i64 0, .int .i64 0, .int .i64 0, .int .u64 0, .int .u64 0, .int .u32 0, .int .u32 0, .int .u8 0, .int .u16 0, .int .u16 0, .bool false, .slice none 0 0, .int .i64 0, .int .i64 0]) zr_46 rfl rfl) ?_
          rintro b7 -
          refine dn_norm (Qs := [_, _, _, _]) rfl ?_
          refine dl_s rfl (op_store (vs := encR x5) (l' := encR x5) 0 rfl rfl rfl sz_46 rfl (encR_len _) (encR_one _) rfl (lay_all (by rw [encR_len _]; rfl))) ?_
          refine dn_norm (Qs := [_, _, _, _]) rfl ?_
          refine dn_done ?_
          refine dn_then ?_
          refine dn_seq ?_
          refine dn_reg ?_
          refine dl_t rfl rfl rfl (op_fieldAddr (i' := 2) rfl fd_46_2 rfl) ?_
          refine dl_r 0 rfl rfl rfl rfl (op_load rfl ag_3 rfl) ?_
          refine dl_t rfl rfl rfl (op_fieldAddr (i' := 2) rfl fd_46_2 rfl) ?_
          refine dl_r 1 rfl rfl rfl rfl (op_load rfl ag_3 rfl) ?_
          refine dl_t rfl rfl rfl (op_leq rfl rfl) ?_
          refine dl_t rfl rfl rfl (op_move rfl) ?_
          refine dn_test (p := x5.bg ≤ x2.bg) 26 rfl (fun hg9_5 => ?_) (fun hg9_5 => ?_)
          ·
            refine dl_wt rfl rfl rfl rfl rfl rfl (op_fieldAddr (i' := 2) rfl fd_46_2 rfl) ?_
            refine dl_wr 1 rfl rfl rfl rfl rfl rfl rfl (op_load rfl ag_3 rfl) ?_
            refine dl_wt rfl rfl rfl rfl rfl rfl (op_fieldAddr (i' := 4) rfl fd_46_4 rfl) ?_
            refine dl_wr 0 rfl rfl rfl rfl rfl rfl rfl (op_load rfl ag_3 rfl) ?_
            refine dl_wt rfl rfl rfl rfl rfl rfl (op_leq rfl rfl) ?_
            refine dl_t rfl rfl rfl (op_pick (b := true) rfl rfl) ?_
            refine dn_done ?_
            refine dn_then ?_
            refine dn_cond (p := x2.bg ≤ x5.en) rfl (fun hc9 => ?_) (fun hc9 => ?_)
            ·
              refine dn_reg ?_
              refine dl_t rfl rfl rfl (op_move rfl) ?_
              refine dl_t rfl rfl rfl (op_add (z := (((cnt (xs.take k) x2) + 1 : Nat) : Int)) rfl rfl (wa_i64 (by omega) (by omega) (by omega))) ?_
              refine dl_t rfl rfl rfl (op_assign rfl) ?_
              refine dn_done ?_
              refine dn_inB ?_
              refine dn_then ?_
              refine dn_reg ?_
              refine dl_t rfl rfl rfl (op_add (z := ((k + 1 : Nat) : Int)) rfl rfl (wa_i64 (by omega) (by omega) (by omega))) ?_
              refine dl_t rfl rfl rfl (op_move rfl) ?_
              refine dn_done ?_
              refine dn_then ?_
              refine dn_slot (u := .int .i64 ((cnt (xs.take (k + 1)) x2 : Nat) : Int)) 6 rfl (by rw [cnt_step hx6, if_pos (by omega)]) ?_
              exact dn_meet (k + 1) (⟨by show n - (k + 1) < n - k; omega, by show k + 1 ≤ n; omega⟩) (Less.cons rfl (Less.cons rfl (Less.cons rfl (Less.cons rfl (Less.cons rfl (Less.cons rfl (Less.cons rfl (Less.cons rfl (Less.cons rfl (Less.cons rfl (Less.nil _))))))))))) [1, 1, 1] rfl
            ·
              refine dn_skip ?_
              refine dn_inB ?_
              refine dn_then ?_
              refine dn_reg ?_
              refine dl_t rfl rfl rfl (op_add (z := ((k + 1 : Nat) : Int)) rfl rfl (wa_i64 (by omega) (by omega) (by omega))) ?_
              refine dl_t rfl rfl rfl (op_move rfl) ?_
              refine dn_done ?_
              refine dn_then ?_
              refine dn_slot (u := .int .i64 ((cnt (xs.take (k + 1)) x2 : Nat) : Int)) 6 rfl (by rw [cnt_step hx6, if_neg (by omega), Nat.add_zero]) ?_
              exact dn_meet (k + 1) (⟨by show n - (k + 1) < n - k; omega, by show k + 1 ≤ n; omega⟩) (Less.cons rfl (Less.cons rfl (Less.cons rfl (Less.cons rfl (Less.cons rfl (Less.cons rfl (Less.cons rfl (Less.cons rfl (Less.cons rfl (Less.cons rfl (Less.nil _))))))))))) [1, 1, 1] rfl
          ·
            refine dl_no rfl rfl rfl rfl (by decide) rfl rfl ?_
            refine dl_no rfl rfl rfl rfl (by decide) rfl rfl ?_
            refine dl_no rfl rfl rfl rfl (by decide) rfl rfl ?_
            refine dl_no rfl rfl rfl rfl (by decide) rfl rfl ?_
            refine dl_no rfl rfl rfl rfl (by decide) rfl rfl ?_
            refine dl_t rfl rfl rfl (op_pick (b := false) rfl rfl) ?_
            refine dn_done ?_
            refine dn_then ?_
            refine dn_cond_false rfl ?_
            refine dn_skip ?_
            refine dn_inB ?_
            refine dn_then ?_
            refine dn_reg ?_
            refine dl_t rfl rfl rfl (op_add (z := ((k + 1 : Nat) : Int)) rfl rfl (wa_i64 (by omega) (by omega) (by omega))) ?_
            refine dl_t rfl rfl rfl (op_move rfl) ?_
            refine dn_done ?_
            refine dn_then ?_
            refine dn_slot (u := .int .i64 ((cnt (xs.take (k + 1)) x2 : Nat) : Int)) 6 rfl (by rw [cnt_step hx6, if_neg (by omega), Nat.add_zero]) ?_
            exact dn_meet (k + 1) (⟨by show n - (k + 1) < n - k; omega, by show k + 1 ≤ n; omega⟩) (Less.cons rfl (Less.cons rfl (Less.cons rfl (Less.cons rfl (Less.cons rfl (Less.cons rfl (Less.cons rfl (Less.cons rfl (Less.cons rfl (Less.cons rfl (Less.nil _))))))))))) [1, 1, 1] rfl
        ·
          refine dn_exit ?_
          refine dn_thenX ?_
          refine dn_thenX ?_
          refine dn_inBX ?_
          refine dn_then ?_
          refine dn_reg ?_
          refine dl_t rfl rfl rfl (op_move rfl) ?_
          refine dl_t rfl rfl rfl (op_move rfl) ?_
          refine dl_t rfl rfl rfl (op_max (z := (if ((ovl xs (xs.take i) : Nat) : Int) < ((cnt (xs.take k) x2 : Nat) : Int) then ((cnt (xs.take k) x2 : Nat) : Int) else ((ovl xs (xs.take i) : Nat) : Int))) rfl rfl rfl) ?_
          refine dl_t rfl rfl rfl (op_assign rfl) ?_
          refine dn_done ?_
          refine dn_inB ?_
          refine dn_then ?_
          refine dn_reg ?_
          refine dl_t rfl rfl rfl (op_add (z := ((i + 1 : Nat) : Int)) rfl rfl (wa_i64 (by omega) (by omega) (by omega))) ?_
          refine dl_t rfl rfl rfl (op_move rfl) ?_
          refine dn_done ?_
          refine dn_then ?_
          refine dn_slot (u := .int .i64 ((ovl xs (xs.take (i + 1)) : Nat) : Int)) 3 rfl (by rw [ovl_step xs hx3, show xs.take k = xs from by rw [List.take_of_length_le (by omega)]]; simp only [Value.int.injEq, true_and]; split <;> omega) ?_
          exact dn_meet (i + 1) (⟨by show n - (i + 1) < n - i; omega, by show i + 1 ≤ n; omega⟩) (Less.cons rfl (Less.cons rfl (Less.cons rfl (Less.cons rfl (Less.cons rfl (Less.nil _)))))) [1, 1] rfl
    ·
      refine dn_exit ?_
      refine dn_thenX ?_
      refine dn_thenX ?_
      refine dn_inBX ?_
      refine dn_then ?_
      refine dn_seq ?_
      refine dn_reg ?_
      refine dl_t rfl rfl rfl (op_move rfl) ?_
      refine dl_t rfl rfl rfl (op_assign rfl) ?_
      refine dn_done ?_
      refine dn_then ?_
      refine dn_ret ?_
      exact dn_end () (by exact rfl) (by exact rfl) (by simp only [retOf]; rw [List.take_of_length_le (by omega)]) (by trivial) [0, 0] (by exact rfl) (by exact .inl rfl)
/-- crossbuck/crossbuckref23.Real -/
theorem refReal_tri (a : Option Addr) (n cap : Nat) (xs : List TmV) (hn : xs.length = n) (h63 : n ≤ 1000000) : Tri Tryz.prog 10 [.slice a n cap].toArray [RoS a (flat encM xs)] (X := Bool) (fun b => .bool b) (fun b => b = true ↔ RefReal xs) (fun _ => [RoS a (flat encM xs)]) := by
  refine tri_intro (n := 30) (vs := [.slice a n cap]) Tryz.func10 rfl rfl rfl (fun R E => ?_)
  show Dn E 30 [] _ [(0, .slice a n cap)] [RoS a (flat encM xs), R]
  refine dn_seq ?_
  refine dn_reg ?_
  refine dl_t rfl rfl rfl (op_assign rfl) ?_
  refine dn_done ?_
  refine dn_then ?_
  refine dn_seq ?_
  refine dn_seq ?_
  refine dn_reg ?_
  refine dl_t rfl rfl rfl (op_assign rfl) ?_
  refine dn_done ?_
  refine dn_then ?_
  refine dn_block ?_
  refine dn_loop (α := Nat) (fun (i : Nat) => i ≤ n ∧ RefUp xs i) (fun (i : Nat) => n - i) (fun (i : Nat) => [(0, .slice a n cap), (3, .int .i64 ((i : Nat) : Int))]) (fun (i : Nat) => [RoS a (flat encM xs), R]) ?_ ?_
  ·
    exact dn_meet 0 (⟨Nat.zero_le _, fun c k x y h => absurd h (Nat.not_lt_zero _)⟩) (Less.cons rfl (Less.cons rfl (Less.nil _))) [0, 0] rfl
  ·
    rintro i hI
    show Dn E 30 [] _ [(0, .slice a n cap), (3, .int .i64 ((i : Nat) : Int))] [RoS a (flat encM xs), R]
    obtain ⟨hI1, hI2⟩ : i ≤ n ∧ RefUp xs i := hI
    refine dn_seq ?_
    refine dn_seq ?_
    refine dn_reg ?_
    refine dl_t rfl rfl rfl (op_move rfl) ?_
    refine dl_t rfl rfl rfl (op_move rfl) ?_
    refine dl_t rfl rfl rfl (op_len rfl el_22) ?_
    refine dl_t rfl rfl rfl (op_lss rfl rfl) ?_
    refine dn_done ?_
    refine dn_then ?_
    refine dn_cond (p := ((i : Nat) : Int) < ((n : Nat) : Int)) rfl (fun hc2 => ?_) (fun hc2 => ?_)
    ·
      refine dn_skip ?_
      refine dn_then ?_
      refine dn_seq ?_
      refine dn_block ?_
      refine dn_seq ?_
      refine dn_reg ?_
      refine dl_t rfl rfl rfl (op_move rfl) ?_
      refine dl_t rfl rfl rfl (op_add (z := ((i + 1 : Nat) : Int)) rfl rfl (wa_i64 (by omega) (by omega) (by omega))) ?_
      refine dl_t rfl rfl rfl (op_assign rfl) ?_
      refine dn_done ?_
      refine dn_then ?_
      refine dn_block ?_
      refine dn_loop (α := Nat) (fun (k : Nat) => i < k ∧ k ≤ n ∧ ∀ c x y, i < c → c < k → xs[i]? = some x → xs[c]? = some y → ¬ y.en < x.bg) (fun (k : Nat) => n - k) (fun (k : Nat) => [(0, .slice a n cap), (3, .int .i64 ((i : Nat) : Int)), (4, .int .i64 ((k : Nat) : Int))]) (fun (k : Nat) => [RoS a (flat encM xs), R]) ?_ ?_
      ·
        exact dn_meet (i + 1) (⟨by omega, by omega, fun c x y h0 h1 => absurd h1 (by omega)⟩) (Less.cons rfl (Less.cons rfl (Less.cons rfl (Less.nil _)))) [0, 0] rfl
      ·
        rintro k hK
        show Dn E 30 [] _ [(0, .slice a n cap), (3, .int .i64 ((i : Nat) : Int)), (4, .int .i64 ((k : Nat) : Int))] [RoS a (flat encM xs), R]
        obtain ⟨hK1, hK2, hK3⟩ : i < k ∧ k ≤ n ∧ ∀ c x y, i < c → c < k → xs[i]? = some x → xs[c]? = some y → ¬ y.en < x.bg := hK
        refine dn_seq ?_
        refine dn_seq ?_
        refine dn_reg ?_
        refine dl_t rfl rfl rfl (op_move rfl) ?_
        refine dl_t rfl rfl rfl (op_move rfl) ?_
        refine dl_t rfl rfl rfl (op_len rfl el_22) ?_
        refine dl_t rfl rfl rfl (op_lss rfl rfl) ?_
        refine dn_done ?_
        refine dn_then ?_
        refine dn_cond (p := ((k : Nat) : Int) < ((n : Nat) : Int)) rfl (fun hc5 => ?_) (fun hc5 => ?_)
        ·
          refine dn_skip ?_
          refine dn_then ?_
          refine dn_seq ?_
          refine dn_block ?_
          refine dn_seq ?_
          refine dn_any (N := 11) (l0 := #[false, false, false, false, false, false, false, false, false, false, false]) mixed (fun i => false) (fun _ => [RoS a (flat encM xs)]) [0] rfl rfl rfl ?_
          refine ds_t (listed' := #[true, false, false, false, false, false, false, false, false, false, false]) 0 (by kernel_rfl) rfl rfl rfl rfl rfl (op_move rfl) ?_
          refine ds_t (listed' := #[true, true, false, false, false, false, false, false, false, false, false]) 1 (by kernel_rfl) rfl rfl rfl rfl rfl (op_move rfl) ?_
          obtain ⟨x1, hx2⟩ : ∃ x, xs[k]? = some x := ⟨_, List.getElem?_eq_getElem (by omega)⟩
          refine ds_of ?_
          refine dn_roElem encM_len rfl 0 rfl hx2 (fun hS3 => ?_)
          refine of_ds ?_
          refine ds_t (listed' := #[true, true, true, false, false, false, false, false, false, false, false]) 2 (by kernel_rfl) rfl rfl rfl rfl rfl (op_indexS (k := k * 3) hS3 rfl rfl el_22 sz_48 (by omega) (by omega) (by first | rfl | omega)) ?_
          refine ds_t (listed' := #[true, true, true, true, false, false, false, false, false, false, false]) 3 (by kernel_rfl) rfl rfl rfl rfl rfl (op_fieldS (k' := k * 3 + 2) hS3 rfl fd_48_2 (by first | rfl | omega)) ?_
          refine ds_t (listed' := #[true, true, true, true, false, true, false, false, false, false, false]) 5 (by kernel_rfl) rfl rfl rfl rfl rfl (op_move rfl) ?_
          refine ds_t (listed' := #[true, true, true, true, false, true, true, false, false, false, false]) 6 (by kernel_rfl) rfl rfl rfl rfl rfl (op_move rfl) ?_
          obtain ⟨x4, hx5⟩ : ∃ x, xs[i]? = some x := ⟨_, List.getElem?_eq_getElem (by omega)⟩
          refine ds_t (listed' := #[true, true, true, true, false, true, true, true, false, false, false]) 7 (by kernel_rfl) rfl rfl rfl rfl rfl (op_indexS (k := i * 3) hS3 rfl rfl el_22 sz_48 (by omega) (by omega) (by first | rfl | omega)) ?_
          refine ds_t (listed' := #[true, true, true, true, false, true, true, true, true, false, false]) 8 (by kernel_rfl) rfl rfl rfl rfl rfl (op_fieldS (k' := i * 3) hS3 rfl fd_48_0 (by first | rfl | omega)) ?_
          refine ds_r (listed' := #[true, true, true, true, true, true, true, true, true, false, false]) 4 (by kernel_rfl) rfl rfl rfl rfl rfl 0 rfl (op_loadS (v := .int .i64 x1.en) rfl ag_3 (flat_cell (j := 2) encM_len hx2 rfl (by first | rfl | omega))) ?_
          refine ds_r (listed' := #[true, true, true, true, true, true, true, true, true, true, false]) 9 (by kernel_rfl) rfl rfl rfl rfl rfl 0 rfl (op_loadS (v := .int .i64 x4.bg) rfl ag_3 (flat_cell (j := 0) encM_len hx5 rfl (by first | rfl | omega))) ?_
          refine ds_t (listed' := #[true, true, true, true, true, true, true, true, true, true, true]) 10 (by kernel_rfl) rfl rfl rfl rfl rfl (op_lss rfl rfl) ?_
          refine ds_done rfl ?_
          refine dn_then ?_
          refine dn_cond (p := x1.en < x4.bg) rfl (fun hc7 => ?_) (fun hc7 => ?_)
          ·
            refine dn_seq ?_
            refine dn_reg ?_
            refine dl_t rfl rfl rfl (op_assign rfl) ?_
            refine dn_done ?_
            refine dn_then ?_
            refine dn_ret ?_
            refine dn_inBR ?_
            refine dn_thenR ?_
            refine dn_thenR ?_
            refine dn_inBR ?_
            refine dn_inBR ?_
            refine dn_thenR ?_
            refine dn_thenR ?_
            refine dn_inBR ?_
            refine dn_thenR ?_
            exact dn_end false (by exact rfl) (by exact rfl) (by exact rfl) (by exact ⟨fun h => (by cases h), fun h => absurd hc7 (h i k _ _ (by omega) hx5 hx2)⟩) [0, 0] (by exact rfl) (by exact .inl rfl)
          ·
            refine dn_skip ?_
            refine dn_inB ?_
            refine dn_then ?_
            refine dn_reg ?_
            refine dl_t rfl rfl rfl (op_move rfl) ?_
            refine dl_t rfl rfl rfl (op_add (z := ((k + 1 : Nat) : Int)) rfl rfl (wa_i64 (by omega) (by omega) (by omega))) ?_
            refine dl_t rfl rfl rfl (op_assign rfl) ?_
            refine dn_done ?_
            refine dn_then ?_
            exact dn_meet (k + 1) (⟨by show n - (k + 1) < n - k; omega, by show i < k + 1; omega, by show k + 1 ≤ n; omega, fun c x y h0 h1 hx hy => if e : c = k then by subst e; rw [hx5] at hx; rw [hx2] at hy; cases hx; cases hy; exact hc7 else hK3 c x y h0 (by omega) hx hy⟩) (Less.cons rfl (Less.cons rfl (Less.cons rfl (Less.nil _)))) [0, 0] rfl
        ·
          refine dn_exit ?_
          refine dn_thenX ?_
          refine dn_thenX ?_
          refine dn_inBX ?_
          refine dn_inB ?_
          refine dn_then ?_
          refine dn_reg ?_
          refine dl_t rfl rfl rfl (op_move rfl) ?_
          refine dl_t rfl rfl rfl (op_add (z := ((i + 1 : Nat) : Int)) rfl rfl (wa_i64 (by omega) (by omega) (by omega))) ?_
          refine dl_t rfl rfl rfl (op_assign rfl) ?_
          refine dn_done ?_
          refine dn_then ?_
          exact dn_meet (i + 1) (⟨by show n - (i + 1) < n - i; omega, by show i + 1 ≤ n; omega, by obtain ⟨x, hx⟩ : ∃ x, xs[i]? = some x := ⟨_, List.getElem?_eq_getElem (by omega)⟩; exact hI2.step hx (fun c y h hy => hK3 c x y h (by have := (List.getElem?_eq_some_iff.1 hy).1; omega) hx hy)⟩) (Less.cons rfl (Less.cons rfl (Less.nil _))) [0, 0] rfl
    ·
      refine dn_exit ?_
      refine dn_thenX ?_
      refine dn_thenX ?_
      refine dn_inBX ?_
      refine dn_then ?_
      refine dn_seq ?_
      refine dn_reg ?_
      refine dl_t rfl rfl rfl (op_assign rfl) ?_
      refine dn_done ?_
      refine dn_then ?_
      refine dn_ret ?_
      exact dn_end true (by exact rfl) (by exact rfl) (by exact rfl) (by exact ⟨fun _ => hI2.all (by omega), fun _ => rfl⟩) [0, 0] (by exact rfl) (by exact .inl rfl)
/-- crossbuck/crossbuckref23.Overlap -/
theorem refOverlap_tri (a : Option Addr) (n cap : Nat) (xs : List TmV) (hn : xs.length = n) (h63 : n ≤ 1000000) : Tri Tryz.prog 12 [.slice a n cap].toArray [RoS a (flat encM xs)] (X := Unit) (fun _ => .int .i64 ((ovlM xs xs : Nat) : Int)) (fun _ => True) (fun _ => [RoS a (flat encM xs)]) := by
  refine tri_intro (n := 50) (vs := [.slice a n cap]) Tryz.func12 rfl rfl rfl (fun R E => ?_)
  show Dn E 50 [] _ [(0, .slice a n cap)] [RoS a (flat encM xs), R]
  refine dn_seq ?_
  refine dn_reg ?_
  refine dl_t rfl rfl rfl (op_assign rfl) ?_
  refine dn_done ?_
  refine dn_then ?_
  refine dn_seq ?_
  refine dn_reg ?_
  refine dl_t rfl rfl rfl (op_assign rfl) ?_
  refine dn_done ?_
  refine dn_then ?_
  refine dn_seq ?_
  refine dn_seq ?_
  refine dn_reg ?_
  refine dl_t rfl rfl rfl (op_assign rfl) ?_
  refine dn_done ?_
  refine dn_then ?_
  refine dn_block ?_
  refine dn_loop (α := Nat) (fun (i : Nat) => i ≤ n) (fun (i : Nat) => n - i) (fun (i : Nat) => [(0, .slice a n cap), (3, .int .i64 ((ovlM xs (xs.take i) : Nat) : Int)), (4, .int .i64 ((i : Nat) : Int))]) (fun (i : Nat) => [RoS a (flat encM xs), R]) ?_ ?_
  ·
    exact dn_meet 0 (Nat.zero_le _) (Less.cons rfl (Less.cons rfl (Less.cons rfl (Less.nil _)))) [0, 0] rfl
  ·
    rintro i hI
    show Dn E 50 [] _ [(0, .slice a n cap), (3, .int .i64 ((ovlM xs (xs.take i) : Nat) : Int)), (4, .int .i64 ((i : Nat) : Int))] [RoS a (flat encM xs), R]
    have hol := ovlM_le xs (xs.take i)
    refine dn_seq ?_
    refine dn_seq ?_
    refine dn_reg ?_
    refine dl_t rfl rfl rfl (op_move rfl) ?_
    refine dl_t rfl rfl rfl (op_move rfl) ?_
    refine dl_t rfl rfl rfl (op_len rfl el_22) ?_
    refine dl_t rfl rfl rfl (op_lss rfl rfl) ?_
    refine dn_done ?_
    refine dn_then ?_
    refine dn_cond (p := ((i : Nat) : Int) < ((n : Nat) : Int)) rfl (fun hc3 => ?_) (fun hc3 => ?_)
    ·
      refine dn_skip ?_
      refine dn_then ?_
      refine dn_seq ?_
      refine dn_block ?_
      refine dn_seq ?_
      obtain ⟨x0, hx0⟩ : ∃ x, xs[i]? = some x := ⟨_, List.getElem?_eq_getElem (by omega)⟩
      refine dn_reg ?_
      refine dl_t rfl rfl rfl (op_assign rfl) ?_
      refine dn_done ?_
      refine dn_then ?_
      refine dn_seq ?_
      refine dn_seq ?_
      refine dn_reg ?_
      refine dl_t rfl rfl rfl (op_assign rfl) ?_
      refine dn_done ?_
      refine dn_then ?_
      refine dn_block ?_
      refine dn_loop (α := Nat) (fun (k : Nat) => k ≤ n) (fun (k : Nat) => n - k) (fun (k : Nat) => [(0, .slice a n cap), (3, .int .i64 ((ovlM xs (xs.take i) : Nat) : Int)), (4, .int .i64 ((i : Nat) : Int)), (5, .int .i64 ((cntM (xs.take k) x0 : Nat) : Int)), (6, .int .i64 ((k : Nat) : Int))]) (fun (k : Nat) => [RoS a (flat encM xs), R]) ?_ ?_
      ·
        exact dn_meet 0 (Nat.zero_le _) (Less.cons rfl (Less.cons rfl (Less.cons rfl (Less.cons rfl (Less.cons rfl (Less.nil _)))))) [0, 0] rfl
      ·
        rintro k hK
        show Dn E 50 [] _ [(0, .slice a n cap), (3, .int .i64 ((ovlM xs (xs.take i) : Nat) : Int)), (4, .int .i64 ((i : Nat) : Int)), (5, .int .i64 ((cntM (xs.take k) x0 : Nat) : Int)), (6, .int .i64 ((k : Nat) : Int))] [RoS a (flat encM xs), R]
        have hcl := cntM_le (xs.take k) x0
        rw [List.length_take] at hcl
        refine dn_seq ?_
        refine dn_seq ?_
        refine dn_reg ?_
        refine dl_t rfl rfl rfl (op_move rfl) ?_
        refine dl_t rfl rfl rfl (op_move rfl) ?_
        refine dl_t rfl rfl rfl (op_len rfl el_22) ?_
        refine dl_t rfl rfl rfl (op_lss rfl rfl) ?_
        refine dn_done ?_
        refine dn_then ?_
        refine dn_cond (p := ((k : Nat) : Int) < ((n : Nat) : Int)) rfl (fun hc7 => ?_) (fun hc7 => ?_)
        ·
          refine dn_skip ?_
          refine dn_then ?_
          refine dn_seq ?_
          refine dn_block ?_
          refine dn_seq ?_
          refine dn_any (N := 24) (l0 := #[false, false, false, false, false, false, false, false, false, false, false, false, false, false, false, false, false, false, false, false, false, false, false, false]) mixed (fun i => false) (fun _ => [RoS a (flat encM xs)]) [0] rfl rfl rfl ?_
          refine ds_t (listed' := #[true, false, false, false, false, false, false, false, false, false, false, false, false, false, false, false, false, false, false, false, false, false, false, false]) 0 (by kernel_rfl) rfl rfl rfl rfl rfl (op_move rfl) ?_
          refine ds_t (listed' := #[true, true, false, false, false, false, false, false, false, false, false, false, false, false, false, false, false, false, false, false, false, false, false, false]) 1 (by kernel_rfl) rfl rfl rfl rfl rfl (op_move rfl) ?_
          obtain ⟨x1, hx2⟩ : ∃ x, xs[k]? = some x := ⟨_, List.getElem?_eq_getElem (by omega)⟩
          refine ds_of ?_
          refine dn_roElem encM_len rfl 0 rfl hx2 (fun hS3 => ?_)
          refine of_ds ?_
          refine ds_t (listed' := #[true, true, true, false, false, false, false, false, false, false, false, false, false, false, false, false, false, false, false, false, false, false, false, false]) 2 (by kernel_rfl) rfl rfl rfl rfl rfl (op_indexS (k := k * 3) hS3 rfl rfl el_22 sz_48 (by omega) (by omega) (by first | rfl | omega)) ?_
          refine ds_t (listed' := #[true, true, true, true, false, false, false, false, false, false, false, false, false, false, false, false, false, false, false, false, false, false, false, false]) 3 (by kernel_rfl) rfl rfl rfl rfl rfl (op_fieldS (k' := k * 3) hS3 rfl fd_48_0 (by first | rfl | omega)) ?_
          refine ds_t (listed' := #[true, true, true, true, false, true, false, false, false, false, false, false, false, false, false, false, false, false, false, false, false, false, false, false]) 5 (by kernel_rfl) rfl rfl rfl rfl rfl (op_move rfl) ?_
          refine ds_t (listed' := #[true, true, true, true, false, true, true, false, false, false, false, false, false, false, false, false, false, false, false, false, false, false, false, false]) 6 (by kernel_rfl) rfl rfl rfl rfl rfl (op_move rfl) ?_
          refine ds_t (listed' := #[true, true, true, true, false, true, true, true, false, false, false, false, false, false, false, false, false, false, false, false, false, false, false, false]) 7 (by kernel_rfl) rfl rfl rfl rfl rfl (op_indexS (k := i * 3) hS3 rfl rfl el_22 sz_48 (by omega) (by omega) (by first | rfl | omega)) ?_
          refine ds_t (listed' := #[true, true, true, true, false, true, true, true, true, false, false, false, false, false, false, false, false, false, false, false, false, false, false, false]) 8 (by kernel_rfl) rfl rfl rfl rfl rfl (op_fieldS (k' := i * 3) hS3 rfl fd_48_0 (by first | rfl | omega)) ?_
          refine ds_r (listed' := #[true, true, true, true, true, true, true, true, true, false, false, false, false, false, false, false, false, false, false, false, false, false, false, false]) 4 (by kernel_rfl) rfl rfl rfl rfl rfl 0 rfl (op_loadS (v := .int .i64 x1.bg) rfl ag_3 (flat_cell (j := 0) encM_len hx2 rfl (by first | rfl | omega))) ?_
          refine ds_r (listed' := #[true, true, true, true, true, true, true, true, true, true, false, false, false, false, false, false, false, false, false, false, false, false, false, false]) 9 (by kernel_rfl) rfl rfl rfl rfl rfl 0 rfl (op_loadS (v := .int .i64 x0.bg) rfl ag_3 (flat_cell (j := 0) encM_len hx0 rfl (by first | rfl | omega))) ?_
          refine ds_t (listed' := #[true, true, true, true, true, true, true, true, true, true, true, false, false, false, false, false, false, false, false, false, false, false, false, false]) 10 (by kernel_rfl) rfl rfl rfl rfl rfl (op_leq rfl rfl) ?_
          refine ds_t (listed' := #[true, true, true, true, true, true, true, true, true, true, true, true, false, false, false, false, false, false, false, false, false, false, false, false]) 11 (by kernel_rfl) rfl rfl rfl rfl rfl (op_move rfl) ?_
          refine ds_test (p := x1.bg ≤ x0.bg) 30 rfl (fun hg9_11 => ?_) (fun hg9_11 => ?_)
          ·
            refine ds_wt (listed' := #[true, true, true, true, true, true, true, true, true, true, true, true, true, false, false, false, false, false, false, false, false, false, false, false]) 12 (by kernel_rfl) rfl rfl rfl rfl rfl rfl rfl rfl (op_move rfl) ?_
            refine ds_wt (listed' := #[true, true, true, true, true, true, true, true, true, true, true, true, true, true, false, false, false, false, false, false, false, false, false, false]) 13 (by kernel_rfl) rfl rfl rfl rfl rfl rfl rfl rfl (op_move rfl) ?_
            refine ds_wt (listed' := #[true, true, true, true, true, true, true, true, true, true, true, true, true, true, true, false, false, false, false, false, false, false, false, false]) 14 (by kernel_rfl) rfl rfl rfl rfl rfl rfl rfl rfl (op_indexS (k := k * 3) hS3 rfl rfl el_22 sz_48 (by omega) (by omega) (by first | rfl | omega)) ?_
            refine ds_wt (listed' := #[true, true, true, true, true, true, true, true, true, true, true, true, true, true, true, true, false, false, false, false, false, false, false, false]) 15 (by kernel_rfl) rfl rfl rfl rfl rfl rfl rfl rfl (op_fieldS (k' := k * 3 + 2) hS3 rfl fd_48_2 (by first | rfl | omega)) ?_
            refine ds_wt (listed' := #[true, true, true, true, true, true, true, true, true, true, true, true, true, true, true, true, false, true, false, false, false, false, false, false]) 17 (by kernel_rfl) rfl rfl rfl rfl rfl rfl rfl rfl (op_move rfl) ?_
            refine ds_wt (listed' := #[true, true, true, true, true, true, true, true, true, true, true, true, true, true, true, true, false, true, true, false, false, false, false, false]) 18 (by kernel_rfl) rfl rfl rfl rfl rfl rfl rfl rfl (op_move rfl) ?_
            refine ds_wt (listed' := #[true, true, true, true, true, true, true, true, true, true, true, true, true, true, true, true, false, true, true, true, false, false, false, false]) 19 (by kernel_rfl) rfl rfl rfl rfl rfl rfl rfl rfl (op_indexS (k := i * 3) hS3 rfl rfl el_22 sz_48 (by omega) (by omega) (by first | rfl | omega)) ?_
            refine ds_wt (listed' := #[true, true, true, true, true, true, true, true, true, true, true, true, true, true, true, true, false, true, true, true, true, false, false, false]) 20 (by kernel_rfl) rfl rfl rfl rfl rfl rfl rfl rfl (op_fieldS (k' := i * 3) hS3 rfl fd_48_0 (by first | rfl | omega)) ?_
            refine ds_wr (listed' := #[true, true, true, true, true, true, true, true, true, true, true, true, true, true, true, true, true, true, true, true, true, false, false, false]) 16 (by kernel_rfl) rfl rfl rfl rfl rfl rfl rfl rfl 0 rfl (op_loadS (v := .int .i64 x1.en) rfl ag_3 (flat_cell (j := 2) encM_len hx2 rfl (by first | rfl | omega))) ?_
            refine ds_wr (listed' := #[true, true, true, true, true, true, true, true, true, true, true, true, true, true, true, true, true, true, true, true, true, true, false, false]) 21 (by kernel_rfl) rfl rfl rfl rfl rfl rfl rfl rfl 0 rfl (op_loadS (v := .int .i64 x0.bg) rfl ag_3 (flat_cell (j := 0) encM_len hx0 rfl (by first | rfl | omega))) ?_
            refine ds_wt (listed' := #[true, true, true, true, true, true, true, true, true, true, true, true, true, true, true, true, true, true, true, true, true, true, true, false]) 22 (by kernel_rfl) rfl rfl rfl rfl rfl rfl rfl rfl (op_geq rfl rfl) ?_
            refine ds_t (listed' := #[true, true, true, true, true, true, true, true, true, true, true, true, true, true, true, true, true, true, true, true, true, true, true, true]) 23 (by kernel_rfl) rfl rfl rfl rfl rfl (op_pick (b := true) rfl rfl) ?_
            refine ds_done rfl ?_
            refine dn_then ?_
            refine dn_cond (p := x0.bg ≤ x1.en) rfl (fun hc9 => ?_) (fun hc9 => ?_)
            ·
              refine dn_reg ?_
              refine dl_t rfl rfl rfl (op_move rfl) ?_
              refine dl_t rfl rfl rfl (op_add (z := (((cntM (xs.take k) x0) + 1 : Nat) : Int)) rfl rfl (wa_i64 (by omega) (by omega) (by omega))) ?_
              refine dl_t rfl rfl rfl (op_assign rfl) ?_
              refine dn_done ?_
              refine dn_inB ?_
              refine dn_then ?_
              refine dn_reg ?_
              refine dl_t rfl rfl rfl (op_move rfl) ?_
              refine dl_t rfl rfl rfl (op_add (z := ((k + 1 : Nat) : Int)) rfl rfl (wa_i64 (by omega) (by omega) (by omega))) ?_
              refine dl_t rfl rfl rfl (op_assign rfl) ?_
              refine dn_done ?_
              refine dn_then ?_
              refine dn_slot (u := .int .i64 ((cntM (xs.take (k + 1)) x0 : Nat) : Int)) 5 rfl (by rw [cntM_step hx2, if_pos (by omega)]) ?_
              exact dn_meet (k + 1) (⟨by show n - (k + 1) < n - k; omega, by show k + 1 ≤ n; omega⟩) (Less.cons rfl (Less.cons rfl (Less.cons rfl (Less.cons rfl (Less.cons rfl (Less.nil _)))))) [0, 0] rfl
            ·
              refine dn_skip ?_
              refine dn_inB ?_
              refine dn_then ?_
              refine dn_reg ?_
              refine dl_t rfl rfl rfl (op_move rfl) ?_
              refine dl_t rfl rfl rfl (op_add (z := ((k + 1 : Nat) : Int)) rfl rfl (wa_i64 (by omega) (by omega) (by omega))) ?_
              refine dl_t rfl rfl rfl (op_assign rfl) ?_
              refine dn_done ?_
              refine dn_then ?_
              refine dn_slot (u := .int .i64 ((cntM (xs.take (k + 1)) x0 : Nat) : Int)) 5 rfl (by rw [cntM_step hx2, if_neg (by omega), Nat.add_zero]) ?_
              exact dn_meet (k + 1) (⟨by show n - (k + 1) < n - k; omega, by show k + 1 ≤ n; omega⟩) (Less.cons rfl (Less.cons rfl (Less.cons rfl (Less.cons rfl (Less.cons rfl (Less.nil _)))))) [0, 0] rfl
          ·
            refine ds_no (listed' := #[true, true, true, true, true, true, true, true, true, true, true, true, true, false, false, false, false, false, false, false, false, false, false, false]) 12 (by kernel_rfl) rfl rfl rfl rfl rfl rfl (by decide) rfl rfl ?_
            refine ds_no (listed' := #[true, true, true, true, true, true, true, true, true, true, true, true, true, true, false, false, false, false, false, false, false, false, false, false]) 13 (by kernel_rfl) rfl rfl rfl rfl rfl rfl (by decide) rfl rfl ?_
            refine ds_no (listed' := #[true, true, true, true, true, true, true, true, true, true, true, true, true, true, true, false, false, false, false, false, false, false, false, false]) 14 (by kernel_rfl) rfl rfl rfl rfl rfl rfl (by decide) rfl rfl ?_
            refine ds_no (listed' := #[true, true, true, true, true, true, true, true, true, true, true, true, true, true, true, true, false, false, false, false, false, false, false, false]) 15 (by kernel_rfl) rfl rfl rfl rfl rfl rfl (by decide) rfl rfl ?_
            refine ds_no (listed' := #[true, true, true, true, true, true, true, true, true, true, true, true, true, true, true, true, false, true, false, false, false, false, false, false]) 17 (by kernel_rfl) rfl rfl rfl rfl rfl rfl (by decide) rfl rfl ?_
            refine ds_no (listed' := #[true, true, true, true, true, true, true, true, true, true, true, true, true, true, true, true, false, true, true, false, false, false, false, false]) 18 (by kernel_rfl) rfl rfl rfl rfl rfl rfl (by decide) rfl rfl ?_
            refine ds_no (listed' := #[true, true, true, true, true, true, true, true, true, true, true, true, true, true, true, true, false, true, true, true, false, false, false, false]) 19 (by kernel_rfl) rfl rfl rfl rfl rfl rfl (by decide) rfl rfl ?_
            refine ds_no (listed' := #[true, true, true, true, true, true, true, true, true, true, true, true, true, true, true, true, false, true, true, true, true, false, false, false]) 20 (by kernel_rfl) rfl rfl rfl rfl rfl rfl (by decide) rfl rfl ?_
            refine ds_no (listed' := #[true, true, true, true, true, true, true, true, true, true, true, true, true, true, true, true, true, true, true, true, true, false, false, false]) 16 (by kernel_rfl) rfl rfl rfl rfl rfl rfl (by decide) rfl rfl ?_
            refine ds_no (listed' := #[true, true, true, true, true, true, true, true, true, true, true, true, true, true, true, true, true, true, true, true, true, true, false, false]) 21 (by kernel_rfl) rfl rfl rfl rfl rfl rfl (by decide) rfl rfl ?_
            refine ds_no (listed' := #[true, true, true, true, true, true, true, true, true, true, true, true, true, true, true, true, true, true, true, true, true, true, true, false]) 22 (by kernel_rfl) rfl rfl rfl rfl rfl rfl (by decide) rfl rfl ?_
            refine ds_t (listed' := #[true, true, true, true, true, true, true, true, true, true, true, true, true, true, true, true, true, true, true, true, true, true, true, true]) 23 (by kernel_rfl) rfl rfl rfl rfl rfl (op_pick (b := false) rfl rfl) ?_
            refine ds_done rfl ?_
            refine dn_then ?_
            refine dn_cond_false rfl ?_
            refine dn_skip ?_
            refine dn_inB ?_
            refine dn_then ?_
            refine dn_reg ?_
            refine dl_t rfl rfl rfl (op_move rfl) ?_
            refine dl_t rfl rfl rfl (op_add (z := ((k + 1 : Nat) : Int)) rfl rfl (wa_i64 (by omega) (by omega) (by omega))) ?_
            refine dl_t rfl rfl rfl (op_assign rfl) ?_
            refine dn_done ?_
            refine dn_then ?_
            refine dn_slot (u := .int .i64 ((cntM (xs.take (k + 1)) x0 : Nat) : Int)) 5 rfl (by rw [cntM_step hx2, if_neg (by omega), Nat.add_zero]) ?_
            exact dn_meet (k + 1) (⟨by show n - (k + 1) < n - k; omega, by show k + 1 ≤ n; omega⟩) (Less.cons rfl (Less.cons rfl (Less.cons rfl (Less.cons rfl (Less.cons rfl (Less.nil _)))))) [0, 0] rfl
        ·
          refine dn_exit ?_
          refine dn_thenX ?_
          refine dn_thenX ?_
          refine dn_inBX ?_
          refine dn_then ?_
          refine dn_seq ?_
          refine dn_reg ?_
          refine dl_t rfl rfl rfl (op_move rfl) ?_
          refine dl_t rfl rfl rfl (op_move rfl) ?_
          refine dl_t rfl rfl rfl (op_gtr rfl rfl) ?_
          refine dn_done ?_
          refine dn_then ?_
          refine dn_cond (p := ((ovlM xs (xs.take i) : Nat) : Int) < ((cntM (xs.take k) x0 : Nat) : Int)) rfl (fun hc11 => ?_) (fun hc11 => ?_)
          ·
            refine dn_reg ?_
            refine dl_t rfl rfl rfl (op_move rfl) ?_
            refine dl_t rfl rfl rfl (op_assign rfl) ?_
            refine dn_done ?_
            refine dn_inB ?_
            refine dn_then ?_
            refine dn_reg ?_
            refine dl_t rfl rfl rfl (op_move rfl) ?_
            refine dl_t rfl rfl rfl (op_add (z := ((i + 1 : Nat) : Int)) rfl rfl (wa_i64 (by omega) (by omega) (by omega))) ?_
            refine dl_t rfl rfl rfl (op_assign rfl) ?_
            refine dn_done ?_
            refine dn_then ?_
            have hck : xs.take k = xs := List.take_of_length_le (by omega)
            rw [hck] at hc11
            refine dn_slot (u := .int .i64 ((ovlM xs (xs.take (i + 1)) : Nat) : Int)) 3 rfl (by rw [ovlM_step xs hx0, hck, Nat.max_eq_right (by omega)]) ?_
            exact dn_meet (i + 1) (⟨by show n - (i + 1) < n - i; omega, by show i + 1 ≤ n; omega⟩) (Less.cons rfl (Less.cons rfl (Less.cons rfl (Less.nil _)))) [0, 0] rfl
          ·
            refine dn_skip ?_
            refine dn_inB ?_
            refine dn_then ?_
            refine dn_reg ?_
            refine dl_t rfl rfl rfl (op_move rfl) ?_
            refine dl_t rfl rfl rfl (op_add (z := ((i + 1 : Nat) : Int)) rfl rfl (wa_i64 (by omega) (by omega) (by omega))) ?_
            refine dl_t rfl rfl rfl (op_assign rfl) ?_
            refine dn_done ?_
            refine dn_then ?_
            have hck : xs.take k = xs := List.take_of_length_le (by omega)
            rw [hck] at hc11
            refine dn_slot (u := .int .i64 ((ovlM xs (xs.take (i + 1)) : Nat) : Int)) 3 rfl (by rw [ovlM_step xs hx0, Nat.max_eq_left (by omega)]) ?_
            exact dn_meet (i + 1) (⟨by show n - (i + 1) < n - i; omega, by show i + 1 ≤ n; omega⟩) (Less.cons rfl (Less.cons rfl (Less.cons rfl (Less.nil _)))) [0, 0] rfl
    ·
      refine dn_exit ?_
      refine dn_thenX ?_
      refine dn_thenX ?_
      refine dn_inBX ?_
      refine dn_then ?_
      refine dn_seq ?_
      refine dn_reg ?_
      refine dl_t rfl rfl rfl (op_move rfl) ?_
      refine dl_t rfl rfl rfl (op_assign rfl) ?_
      refine dn_done ?_
      refine dn_then ?_
      refine dn_ret ?_
      exact dn_end () (by exact rfl) (by exact rfl) (by simp only [retOf]; rw [List.take_of_length_le (by omega)]) (by trivial) [0, 0] (by exact rfl) (by exact .inl rfl)
/-- crossbuck/crossbucklaw23.to -/
theorem to_tri (a : Option Addr) (n cap : Nat) (xs : List TmV) (hn : xs.length = n) (h63 : n ≤ 1000000) : Tri Tryz.prog 7 [.slice a n cap].toArray [RoS a (flat encM xs)] (X := Option Addr × Nat) (fun x => .slice x.1 n x.2) (fun _ => True) (fun x => [RoS a (flat encM xs), OwnS 46 17 x.1 n x.2 (flat encR (recsOf xs))]) := by
  refine tri_intro (n := 26) (vs := [.slice a n cap]) Tryz.func7 rfl rfl rfl (fun R E => ?_)
  show Dn E 26 [] _ [(0, .slice a n cap)] [RoS a (flat encM xs), R]
  refine dn_seq ?_
  refine dn_reg ?_
  refine dl_t rfl rfl rfl (op_assign rfl) ?_
  refine dn_done ?_
  refine dn_then ?_
  refine dn_seq ?_
  refine dn_reg ?_
  refine dl_t rfl rfl rfl (op_assign rfl) ?_
  refine dn_done ?_
  refine dn_then ?_
  refine dn_seq ?_
  refine dn_seq ?_
  refine dn_reg ?_
  refine dl_t rfl rfl rfl (op_move rfl) ?_
  refine dl_t rfl rfl rfl (op_len rfl el_22) ?_
  refine dl_t rfl rfl rfl (op_move rfl) ?_
  refine dn_done ?_
  refine dn_then ?_
  refine dn_block ?_
  refine dn_loop (α := Nat × Option Addr × Nat) (fun ((i, p, c) : Nat × Option Addr × Nat) => i ≤ n) (fun ((i, p, c) : Nat × Option Addr × Nat) => n - i) (fun ((i, p, c) : Nat × Option Addr × Nat) => [(0, .slice a n cap), (6, .slice a n cap), (7, .int .i64 ((n : Nat) : Int)), (3, .slice p i c), (8, .int .i64 ((i : Nat) : Int))]) (fun ((i, p, c) : Nat × Option Addr × Nat) => [OwnS 46 17 p i c (flat encR (recsOf (xs.take i))), RoS a (flat encM xs), R]) ?_ ?_
  ·
    refine dn_ownNil 46 17 ?_
    exact dn_meet (0, none, 0) (Nat.zero_le _) (Less.cons rfl (Less.cons rfl (Less.cons rfl (Less.cons rfl (Less.cons rfl (Less.nil _)))))) [0, 0, 0] rfl
  ·
    rintro ⟨i, p, c⟩ hI
    show Dn E 26 [] _ [(0, .slice a n cap), (6, .slice a n cap), (7, .int .i64 ((n : Nat) : Int)), (3, .slice p i c), (8, .int .i64 ((i : Nat) : Int))] [OwnS 46 17 p i c (flat encR (recsOf (xs.take i))), RoS a (flat encM xs), R]
    change i ≤ n at hI
    refine dn_seq ?_
    refine dn_reg ?_
    refine dl_t rfl rfl rfl (op_lss rfl rfl) ?_
    refine dn_done ?_
    refine dn_then ?_
    refine dn_seq ?_
    refine dn_cond (p := ((i : Nat) : Int) < ((n : Nat) : Int)) rfl (fun hc3 => ?_) (fun hc3 => ?_)
    ·
      refine dn_skip ?_
      refine dn_then ?_
      refine dn_seq ?_
      refine dn_block ?_
      refine dn_seq ?_
      refine dn_reg ?_
      refine dl_t rfl rfl rfl (op_move rfl) ?_
      obtain ⟨x1, hx2⟩ : ∃ x, xs[i]? = some x := ⟨_, List.getElem?_eq_getElem (by omega)⟩
      refine dn_roElem encM_len rfl 1 rfl hx2 (fun hS3 => ?_)
      refine dl_t rfl rfl rfl (op_indexS (k := i * 3) hS3 rfl rfl el_22 sz_48 (by omega) (by omega) (by first | rfl | omega)) ?_
      refine dl_r 1 rfl rfl rfl rfl (op_loadSN (vs := encM x1) rfl ag_48 sz_48 (flat_part encM_len hx2) (encM_len _) rfl) ?_
      refine dl_e rfl (op_alloc (vs := [.int .i64 0, .int .i64 0, .int .i64 0]) zr_48 rfl rfl) ?_
      rintro b4 -
      refine dn_norm (Qs := [_, _, _, _]) rfl ?_
      refine dl_t rfl rfl rfl (op_assign rfl) ?_
      refine dl_s rfl (op_store (vs := encM x1) (l' := encM x1) 0 rfl rfl rfl sz_48 rfl (encM_len _) (encM_one _) rfl (lay_all (by rw [encM_len _]; rfl))) ?_
      refine dn_norm (Qs := [_, _, _, _]) rfl ?_
      refine dn_done ?_
      refine dn_then ?_
      refine dn_reg ?_
      refine dl_t rfl rfl rfl (op_move rfl) ?_
      refine dl_t rfl rfl rfl (op_move rfl) ?_
      refine dl_t rfl rfl rfl (op_fieldAddr (i' := 0) rfl fd_48_0 rfl) ?_
      refine dl_r 0 rfl rfl rfl rfl (op_load rfl ag_3 rfl) ?_
      refine dl_t rfl rfl rfl (op_fieldAddr (i' := 1) rfl fd_48_1 rfl) ?_
      refine dl_r 0 rfl rfl rfl rfl (op_load rfl ag_3 rfl) ?_
      refine dl_t rfl rfl rfl (op_fieldAddr (i' := 2) rfl fd_48_2 rfl) ?_
      refine dl_r 0 rfl rfl rfl rfl (op_load rfl ag_3 rfl) ?_
      refine dl_t rfl rfl rfl (op_build (qs := [(1, .int .i64 ((i : Nat) : Int)), (2, .int .i64 x1.bg), (3, .int .i64 x1.pt), (4, .int .i64 x1.en)]) (vs := [.int .i64 0, .int .i64 ((i : Nat) : Int), .int .i64 x1.bg, .int .i64 x1.pt, .int .i64 x1.en, .int .i64 0, .int .u64 0, .int .u64 0, .int .u32 0, .int .u32 0, .int .u8 0, .int .u16 0, .int .u16 0, .bool false, .slice none 0 0, .int .i64 0, .int .i64 0]) rfl (by kernel_rfl)) ?_
      refine dl_e rfl (op_buildSlice (e := 46) (qs := [(0, .agg #[.int .i64 0, .int .i64 ((i : Nat) : Int), .int .i64 x1.bg, .int .i64 x1.pt, .int .i64 x1.en, .int .i64 0, .int .u64 0, .int .u64 0, .int .u32 0, .int .u32 0, .int .u8 0, .int .u16 0, .int .u16 0, .bool false, .slice none 0 0, .int .i64 0, .int .i64 0])]) (vs := [.int .i64 0, .int .i64 ((i : Nat) : Int), .int .i64 x1.bg, .int .i64 x1.pt, .int .i64 x1.en, .int .i64 0, .int .u64 0, .int .u64 0, .int .u32 0, .int .u32 0, .int .u8 0, .int .u16 0, .int .u16 0, .bool false, .slice none 0 0, .int .i64 0, .int .i64 0]) rfl (by kernel_rfl) rfl) ?_
      rintro b5 -
      refine dn_norm (Qs := [_, _, _, _, _]) rfl ?_
      refine dl_e rfl (op_appendG (news := [.int .i64 0, .int .i64 ((i : Nat) : Int), .int .i64 x1.bg, .int .i64 x1.pt, .int .i64 x1.en, .int .i64 0, .int .u64 0, .int .u64 0, .int .u32 0, .int .u32 0, .int .u8 0, .int .u16 0, .int .u16 0, .bool false, .slice none 0 0, .int .i64 0, .int .i64 0]) (k' := i + 1) [2] rfl rfl rfl el_24 sz_46 zr_46 by_46 rfl rfl (rfl) (news_blk 0 rfl 0 rfl) (List.all_eq_true.1 rfl) (by simp only [maxLen]; omega) (by omega) (by first | rfl | omega) rfl) ?_
      rintro p6 -
      refine dn_norm (Qs := [_, _, _, _, _]) rfl ?_
      refine dn_norm (Qs := [OwnS 46 17 p6.1 (i + 1) p6.2 (flat encR (recsOf (xs.take i) ++ [recOf i x1])), Blk b5 (.cells [.int .i64 0, .int .i64 ((i : Nat) : Int), .int .i64 x1.bg, .int .i64 x1.pt, .int .i64 x1.en, .int .i64 0, .int .u64 0, .int .u64 0, .int .u32 0, .int .u32 0, .int .u8 0, .int .u16 0, .int .u16 0, .bool false, .slice none 0 0, .int .i64 0, .int .i64 0].toArray 46 (0, 0)), Blk b4 (.cells (encM x1).toArray 48 (0, 0)), RoS a (flat encM xs), R]) (by rw [flat_app, flat_one]; rfl) ?_
      refine dl_t rfl rfl rfl (op_assign rfl) ?_
      refine dn_done ?_
      refine dn_inB ?_
      refine dn_then ?_
      refine dn_reg ?_
      refine dl_t rfl rfl rfl (op_add (z := ((i + 1 : Nat) : Int)) rfl rfl (wa_i64 (by omega) (by omega) (by omega))) ?_
      refine dl_t rfl rfl rfl (op_move rfl) ?_
      refine dn_done ?_
      refine dn_then ?_
      refine dn_norm (Qs := [OwnS 46 17 p6.1 (i + 1) p6.2 (flat encR (recsOf (xs.take (i + 1)))), Blk b5 (.cells [.int .i64 0, .int .i64 ((i : Nat) : Int), .int .i64 x1.bg, .int .i64 x1.pt, .int .i64 x1.en, .int .i64 0, .int .u64 0, .int .u64 0, .int .u32 0, .int .u32 0, .int .u8 0, .int .u16 0, .int .u16 0, .bool false, .slice none 0 0, .int .i64 0, .int .i64 0].toArray 46 (0, 0)), Blk b4 (.cells (encM x1).toArray 48 (0, 0)), RoS a (flat encM xs), R]) (by rw [recsOf_step hx2]) ?_
      exact dn_meet (i + 1, p6.1, p6.2) (⟨by show n - (i + 1) < n - i; omega, by show i + 1 ≤ n; omega⟩) (Less.cons rfl (Less.cons rfl (Less.cons rfl (Less.cons rfl (Less.cons rfl (Less.nil _)))))) [0, 2, 2] rfl
    ·
      refine dn_exit ?_
      refine dn_thenX ?_
      refine dn_thenX ?_
      refine dn_inBX ?_
      refine dn_then ?_
      refine dn_seq ?_
      refine dn_reg ?_
      refine dl_t rfl rfl rfl (op_move rfl) ?_
      refine dl_t rfl rfl rfl (op_assign rfl) ?_
      refine dn_done ?_
      refine dn_then ?_
      refine dn_ret ?_
      refine dn_norm (Qs := [OwnS 46 17 p n c (flat encR (recsOf xs)), RoS a (flat encM xs), R]) (by rw [show i = n from by omega, List.take_of_length_le (by omega)]) ?_
      exact dn_end (p, c) (by exact rfl) (by exact rfl) (by rw [show i = n from by omega]; rfl) (by trivial) [1, 0, 0] (by exact rfl) (by exact .inl rfl)
end Go.Proofs.YtjfajpoknnifcaaGreat
