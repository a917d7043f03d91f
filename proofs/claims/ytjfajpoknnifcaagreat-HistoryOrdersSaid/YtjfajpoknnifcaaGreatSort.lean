/- Walks: comparing, sorting. No condition. -/
import Derived.Test.YtjfajpoknnifcaaGreatSortFacts
namespace Go.Proofs.YtjfajpoknnifcaaGreat
open Go
set_option maxRecDepth 20000
set_option linter.unusedVariables false
set_option linter.unusedSimpArgs false
/-- cmp.isNaN[int] -/
theorem isNaN_tri (i : Int) : Tri Tryz.prog 24 [.int .i64 i].toArray [] (X := Unit) (fun _ => .bool (decide (¬ i = i))) (fun _ => True) (fun _ => []) := by
  refine tri_intro (n := 6) (vs := [.int .i64 i]) Tryz.func24 rfl rfl rfl (fun R E => ?_)
  show Dn E 6 [] _ [(0, .int .i64 i)] [R]
  refine dn_seq ?_
  refine dn_reg ?_
  refine dl_t rfl rfl rfl (op_assign rfl) ?_
  refine dn_done ?_
  refine dn_then ?_
  refine dn_seq ?_
  refine dn_reg ?_
  refine dl_t rfl rfl rfl (op_move rfl) ?_
  refine dl_t rfl rfl rfl (op_move rfl) ?_
  refine dl_t rfl rfl rfl (op_neq rfl rfl) ?_
  refine dl_t rfl rfl rfl (op_assign rfl) ?_
  refine dn_done ?_
  refine dn_then ?_
  refine dn_ret ?_
  exact dn_end () (by exact rfl) (by exact rfl) (by exact rfl) (by trivial) [0] (by exact rfl) (by exact .inl rfl)
/-- cmp.Compare[int] -/
theorem compare_tri (i j : Int) : Tri Tryz.prog 19 [.int .i64 i, .int .i64 j].toArray [] (X := Unit) (fun _ => .int .i64 (cmpI i j)) (fun _ => True) (fun _ => []) := by
  refine tri_intro (n := 20) (vs := [.int .i64 i, .int .i64 j]) Tryz.func19 rfl rfl rfl (fun R E => ?_)
  show Dn E 20 [] _ [(0, .int .i64 i), (1, .int .i64 j)] [R]
  refine dn_seq ?_
  refine dn_reg ?_
  refine dl_t rfl rfl rfl (op_assign rfl) ?_
  refine dn_done ?_
  refine dn_then ?_
  refine dn_seq ?_
  refine dn_reg ?_
  refine dl_t rfl rfl rfl (op_move rfl) ?_
  refine dl_e rfl (op_call (vs := [.int .i64 i]) cl_24 (isNaN_tri i) rfl [] rfl rfl) ?_
  rintro ⟨⟩ -
  refine dn_norm (Qs := [_]) rfl ?_
  refine dl_t rfl rfl rfl (op_assign rfl) ?_
  refine dn_done ?_
  refine dn_then ?_
  refine dn_seq ?_
  refine dn_reg ?_
  refine dl_t rfl rfl rfl (op_move rfl) ?_
  refine dl_e rfl (op_call (vs := [.int .i64 j]) cl_24 (isNaN_tri j) rfl [] rfl rfl) ?_
  rintro ⟨⟩ -
  refine dn_norm (Qs := [_]) rfl ?_
  refine dl_t rfl rfl rfl (op_assign rfl) ?_
  refine dn_done ?_
  refine dn_then ?_
  refine dn_seq ?_
  refine dn_seq ?_
  refine dn_reg ?_
  refine dl_t rfl rfl rfl (op_move rfl) ?_
  refine dn_done ?_
  refine dn_then ?_
  refine dn_cond (p := ¬ i = i) rfl (fun hc3 => ?_) (fun hc3 => ?_)
  ·
    exact absurd rfl hc3
  ·
    refine dn_skip ?_
    refine dn_then ?_
    refine dn_seq ?_
    refine dn_seq ?_
    refine dn_reg ?_
    refine dl_t rfl rfl rfl (op_move rfl) ?_
    refine dn_done ?_
    refine dn_then ?_
    refine dn_cond (p := ¬ j = j) rfl (fun hc7 => ?_) (fun hc7 => ?_)
    ·
      exact absurd rfl hc7
    ·
      refine dn_skip ?_
      refine dn_then ?_
      refine dn_seq ?_
      refine dn_seq ?_
      refine dn_reg ?_
      refine dl_t rfl rfl rfl (op_move rfl) ?_
      refine dl_t rfl rfl rfl (op_move rfl) ?_
      refine dl_t rfl rfl rfl (op_lss rfl rfl) ?_
      refine dn_done ?_
      refine dn_then ?_
      refine dn_cond (p := i < j) rfl (fun hc9 => ?_) (fun hc9 => ?_)
      ·
        refine dn_seq ?_
        refine dn_reg ?_
        refine dl_t rfl rfl rfl (op_assign rfl) ?_
        refine dn_done ?_
        refine dn_then ?_
        refine dn_ret ?_
        refine dn_thenR ?_
        exact dn_end () (by exact rfl) (by exact rfl) (by simp [retOf, cmpI, hc9]) (by trivial) [0] (by exact rfl) (by exact .inl rfl)
      ·
        refine dn_skip ?_
        refine dn_then ?_
        refine dn_seq ?_
        refine dn_seq ?_
        refine dn_reg ?_
        refine dl_t rfl rfl rfl (op_move rfl) ?_
        refine dl_t rfl rfl rfl (op_move rfl) ?_
        refine dl_t rfl rfl rfl (op_gtr rfl rfl) ?_
        refine dn_done ?_
        refine dn_then ?_
        refine dn_cond (p := j < i) rfl (fun hc11 => ?_) (fun hc11 => ?_)
        ·
          refine dn_seq ?_
          refine dn_reg ?_
          refine dl_t rfl rfl rfl (op_assign rfl) ?_
          refine dn_done ?_
          refine dn_then ?_
          refine dn_ret ?_
          refine dn_thenR ?_
          exact dn_end () (by exact rfl) (by exact rfl) (by simp [retOf, cmpI, hc9, hc11]) (by trivial) [0] (by exact rfl) (by exact .inl rfl)
        ·
          refine dn_skip ?_
          refine dn_then ?_
          refine dn_seq ?_
          refine dn_reg ?_
          refine dl_t rfl rfl rfl (op_assign rfl) ?_
          refine dn_done ?_
          refine dn_then ?_
          refine dn_ret ?_
          exact dn_end () (by exact rfl) (by exact rfl) (by simp [retOf, cmpI, hc9, hc11]) (by trivial) [0] (by exact rfl) (by exact .inl rfl)
/-- crossbuck/history.Order$1 -/
theorem cmpRec_tri (x y : RecV) : Tri Tryz.prog 18 [.agg (encR x).toArray, .agg (encR y).toArray].toArray [] (X := Unit) (fun _ => .int .i64 (cmpI x.pt y.pt)) (fun _ => True) (fun _ => []) := by
  refine tri_intro (n := 10) (vs := [.agg (encR x).toArray, .agg (encR y).toArray]) Tryz.func18 rfl rfl rfl (fun R E => ?_)
  show Dn E 10 [] _ [(0, .agg (encR x).toArray), (1, .agg (encR y).toArray)] [R]
  refine dn_seq ?_
  refine dn_reg ?_
  refine dl_e rfl (op_box (vs := encR x) rfl rfl rfl) ?_
  rintro b1 -
  refine dn_norm (Qs := [_, _]) rfl ?_
  refine dl_e rfl (op_box (vs := encR y) rfl rfl rfl) ?_
  rintro b2 -
  refine dn_norm (Qs := [_, _, _]) rfl ?_
  refine dl_t rfl rfl rfl (op_assign rfl) ?_
  refine dn_done ?_
  refine dn_then ?_
  refine dn_seq ?_
  refine dn_reg ?_
  refine dl_t rfl rfl rfl (op_fieldAddr (i' := 3) rfl fd_46_3 rfl) ?_
  refine dl_r 1 rfl rfl rfl rfl (op_load rfl ag_3 rfl) ?_
  refine dl_t rfl rfl rfl (op_fieldAddr (i' := 3) rfl fd_46_3 rfl) ?_
  refine dl_r 0 rfl rfl rfl rfl (op_load rfl ag_3 rfl) ?_
  refine dl_e rfl (op_call (vs := [.int .i64 x.pt, .int .i64 y.pt]) cl_19 (compare_tri x.pt y.pt) rfl [] rfl rfl) ?_
  rintro ⟨⟩ -
  refine dn_norm (Qs := [_, _, _]) rfl ?_
  refine dl_t rfl rfl rfl (op_assign rfl) ?_
  refine dn_done ?_
  refine dn_then ?_
  refine dn_ret ?_
  exact dn_end () (by exact rfl) (by exact rfl) (by exact rfl) (by trivial) [2] (by exact rfl) (by exact .inl rfl)
/-- slices.insertionSortCmpFunc[crossbuck/sched.Rec] -/
theorem ins_tri (a : Option Addr) (n cap : Nat) (xs : List TR) (lo hi : Nat) (hn : xs.length = n) (h1 : lo ≤ hi) (h2 : hi ≤ n) (h63 : n ≤ 1000000) (ht : (seg xs lo hi).Pairwise fun p q => p.1 < q.1) : Tri Tryz.prog 34 [.slice a n cap, .int .i64 ((lo : Nat) : Int), .int .i64 ((hi : Nat) : Int), .func (.func 18) #[] #[]].toArray [OwnS 46 17 a n cap (flat encT xs)] (X := List TR) (fun _ => .tuple #[]) (fun ys => Done xs lo hi ys) (fun ys => [OwnS 46 17 a n cap (flat encT ys)]) := by
  refine tri_intro (n := 53) (vs := [.slice a n cap, .int .i64 ((lo : Nat) : Int), .int .i64 ((hi : Nat) : Int), .func (.func 18) #[] #[]]) Tryz.func34 rfl rfl rfl (fun R E => ?_)
  show Dn E 53 [] _ [(0, .slice a n cap), (1, .int .i64 ((lo : Nat) : Int)), (2, .int .i64 ((hi : Nat) : Int)), (3, .func (.func 18) #[] #[])] [OwnS 46 17 a n cap (flat encT xs), R]
  refine dn_seq ?_
  refine dn_reg ?_
  refine dl_t rfl rfl rfl (op_move rfl) ?_
  refine dl_t rfl rfl rfl (op_add (z := ((lo + 1 : Nat) : Int)) rfl rfl (wa_i64 (by omega) (by omega) (by omega))) ?_
  refine dl_t rfl rfl rfl (op_assign rfl) ?_
  refine dn_done ?_
  refine dn_then ?_
  refine dn_block ?_
  refine dn_loop (α := Nat × List TR) (fun ((i, ys) : Nat × List TR) => InsL xs lo hi i ys) (fun ((i, ys) : Nat × List TR) => hi - i) (fun ((i, ys) : Nat × List TR) => [(0, .slice a n cap), (1, .int .i64 ((lo : Nat) : Int)), (2, .int .i64 ((hi : Nat) : Int)), (3, .func (.func 18) #[] #[]), (8, .int .i64 ((i : Nat) : Int))]) (fun ((i, ys) : Nat × List TR) => [OwnS 46 17 a n cap (flat encT ys), R]) ?_ ?_
  ·
    exact dn_meet (lo + 1, xs) (InsL.start h1 (by omega)) (Less.cons rfl (Less.cons rfl (Less.cons rfl (Less.cons rfl (Less.cons rfl (Less.nil _)))))) [0, 0] rfl
  ·
    rintro ⟨i, ys⟩ hI
    show Dn E 53 [] _ [(0, .slice a n cap), (1, .int .i64 ((lo : Nat) : Int)), (2, .int .i64 ((hi : Nat) : Int)), (3, .func (.func 18) #[] #[]), (8, .int .i64 ((i : Nat) : Int))] [OwnS 46 17 a n cap (flat encT ys), R]
    change InsL xs lo hi i ys at hI
    refine dn_seq ?_
    refine dn_seq ?_
    refine dn_reg ?_
    refine dl_t rfl rfl rfl (op_move rfl) ?_
    refine dl_t rfl rfl rfl (op_move rfl) ?_
    refine dl_t rfl rfl rfl (op_lss rfl rfl) ?_
    refine dn_done ?_
    refine dn_then ?_
    refine dn_cond (p := ((i : Nat) : Int) < ((hi : Nat) : Int)) rfl (fun hc1 => ?_) (fun hc1 => ?_)
    ·
      refine dn_skip ?_
      refine dn_then ?_
      refine dn_seq ?_
      refine dn_block ?_
      refine dn_seq ?_
      refine dn_reg ?_
      refine dl_t rfl rfl rfl (op_move rfl) ?_
      refine dl_t rfl rfl rfl (op_assign rfl) ?_
      refine dn_done ?_
      refine dn_then ?_
      refine dn_block ?_
      refine dn_loop (α := Nat × List TR) (fun ((j, zs) : Nat × List TR) => InsIn xs lo hi i j zs) (fun ((j, zs) : Nat × List TR) => j) (fun ((j, zs) : Nat × List TR) => [(0, .slice a n cap), (1, .int .i64 ((lo : Nat) : Int)), (2, .int .i64 ((hi : Nat) : Int)), (3, .func (.func 18) #[] #[]), (8, .int .i64 ((i : Nat) : Int)), (9, .int .i64 ((j : Nat) : Int))]) (fun ((j, zs) : Nat × List TR) => [OwnS 46 17 a n cap (flat encT zs), R]) ?_ ?_
      ·
        exact dn_meet (i, ys) (hI.enter (by omega) (by omega) ht) (Less.cons rfl (Less.cons rfl (Less.cons rfl (Less.cons rfl (Less.cons rfl (Less.cons rfl (Less.nil _))))))) [0, 0] rfl
      ·
        rintro ⟨j, zs⟩ hJ
        show Dn E 53 [] _ [(0, .slice a n cap), (1, .int .i64 ((lo : Nat) : Int)), (2, .int .i64 ((hi : Nat) : Int)), (3, .func (.func 18) #[] #[]), (8, .int .i64 ((i : Nat) : Int)), (9, .int .i64 ((j : Nat) : Int))] [OwnS 46 17 a n cap (flat encT zs), R]
        change InsIn xs lo hi i j zs at hJ
        have hJ1 := hJ.1
        have hJ2 := hJ.2.1
        have hJ3 := hJ.2.2.1
        have hl : zs.length = xs.length := hJ.len (by omega)
        refine dn_seq ?_
        refine dn_seq ?_
        refine dn_any (N := 17) (l0 := #[false, false, false, false, false, false, false, false, false, false, false, false, false, false, false, false, false]) mixed (fun i => Nat.beq i 14) (fun s => match s with | 0 => [OwnS 46 17 a n cap (flat encT zs)] | _ => []) [0] rfl rfl rfl ?_
        refine ds_t (listed' := #[true, false, false, false, false, false, false, false, false, false, false, false, false, false, false, false, false]) 0 (by kernel_rfl) rfl rfl rfl rfl rfl (op_move rfl) ?_
        refine ds_t (listed' := #[true, true, false, false, false, false, false, false, false, false, false, false, false, false, false, false, false]) 1 (by kernel_rfl) rfl rfl rfl rfl rfl (op_move rfl) ?_
        refine ds_t (listed' := #[true, true, true, false, false, false, false, false, false, false, false, false, false, false, false, false, false]) 2 (by kernel_rfl) rfl rfl rfl rfl rfl (op_gtr rfl rfl) ?_
        refine ds_t (listed' := #[true, true, true, true, false, false, false, false, false, false, false, false, false, false, false, false, false]) 3 (by kernel_rfl) rfl rfl rfl rfl rfl (op_move rfl) ?_
        refine ds_test (p := ((lo : Nat) : Int) < ((j : Nat) : Int)) 21 rfl (fun hg4_3 => ?_) (fun hg4_3 => ?_)
        ·
          refine ds_wt (listed' := #[true, true, true, true, true, false, false, false, false, false, false, false, false, false, false, false, false]) 4 (by kernel_rfl) rfl rfl rfl rfl rfl rfl rfl rfl (op_move rfl) ?_
          refine ds_wt (listed' := #[true, true, true, true, true, true, false, false, false, false, false, false, false, false, false, false, false]) 5 (by kernel_rfl) rfl rfl rfl rfl rfl rfl rfl rfl (op_move rfl) ?_
          refine ds_wt (listed' := #[true, true, true, true, true, true, true, false, false, false, false, false, false, false, false, false, false]) 6 (by kernel_rfl) rfl rfl rfl rfl rfl rfl rfl rfl (op_move rfl) ?_
          refine ds_of ?_
          refine dn_ownSome 0 rfl (by omega) (fun hS1 => ?_)
          refine of_ds ?_
          refine ds_wt (listed' := #[true, true, true, true, true, true, true, true, false, false, false, false, false, false, false, false, false]) 7 (by kernel_rfl) rfl rfl rfl rfl rfl rfl rfl rfl (op_indexS (k := j * 17) hS1 rfl rfl el_24 sz_46 (by omega) (by omega) (by first | rfl | omega)) ?_
          refine ds_wt (listed' := #[true, true, true, true, true, true, true, true, false, true, false, false, false, false, false, false, false]) 9 (by kernel_rfl) rfl rfl rfl rfl rfl rfl rfl rfl (op_move rfl) ?_
          refine ds_wt (listed' := #[true, true, true, true, true, true, true, true, false, true, true, false, false, false, false, false, false]) 10 (by kernel_rfl) rfl rfl rfl rfl rfl rfl rfl rfl (op_move rfl) ?_
          refine ds_wt (listed' := #[true, true, true, true, true, true, true, true, false, true, true, true, false, false, false, false, false]) 11 (by kernel_rfl) rfl rfl rfl rfl rfl rfl rfl rfl (op_sub (z := ((j - 1 : Nat) : Int)) rfl rfl (wa_i64 (by omega) (by omega) (by omega))) ?_
          refine ds_wt (listed' := #[true, true, true, true, true, true, true, true, false, true, true, true, true, false, false, false, false]) 12 (by kernel_rfl) rfl rfl rfl rfl rfl rfl rfl rfl (op_indexS (k := (j - 1) * 17) hS1 rfl rfl el_24 sz_46 (by omega) (by omega) (by first | rfl | omega)) ?_
          obtain ⟨x2, hx3⟩ : ∃ x, zs[j]? = some x := ⟨_, List.getElem?_eq_getElem (by omega)⟩
          refine ds_wr (listed' := #[true, true, true, true, true, true, true, true, true, true, true, true, true, false, false, false, false]) 8 (by kernel_rfl) rfl rfl rfl rfl rfl rfl rfl rfl 0 rfl (op_loadON (vs := encT x2) rfl ag_46 sz_46 (by omega) (flat_part encT_len hx3) (encT_len _)) ?_
          obtain ⟨x4, hx5⟩ : ∃ x, zs[j - 1]? = some x := ⟨_, List.getElem?_eq_getElem (by omega)⟩
          refine ds_wr (listed' := #[true, true, true, true, true, true, true, true, true, true, true, true, true, true, false, false, false]) 13 (by kernel_rfl) rfl rfl rfl rfl rfl rfl rfl rfl 0 rfl (op_loadON (vs := encT x4) rfl ag_46 sz_46 (by omega) (flat_part encT_len hx5) (encT_len _)) ?_
          refine ds_wx (s' := 1) (listed' := #[true, true, true, true, true, true, true, true, true, true, true, true, true, true, true, false, false]) 14 (by kernel_rfl) rfl rfl rfl rfl rfl rfl rfl (op_callv (first := []) (capt := []) (us := [.agg (encT x2).toArray, .agg (encT x4).toArray]) cl_18 rfl rfl rfl (cmpRec_tri x2.2 x4.2) [] rfl rfl) [] (fun _ => ⟨_, rfl⟩) ?_
          rintro ⟨⟩ -
          refine ds_norm (Qs := [_, _]) rfl ?_
          refine ds_wt (listed' := #[true, true, true, true, true, true, true, true, true, true, true, true, true, true, true, true, false]) 15 (by kernel_rfl) rfl rfl rfl rfl rfl rfl rfl rfl (op_lss rfl rfl) ?_
          refine ds_t (listed' := #[true, true, true, true, true, true, true, true, true, true, true, true, true, true, true, true, true]) 16 (by kernel_rfl) rfl rfl rfl rfl rfl (op_pick (b := true) rfl rfl) ?_
          refine ds_done rfl ?_
          refine dn_then ?_
          refine dn_cond (p := (cmpI x2.2.pt x4.2.pt) < 0) rfl (fun hc4 => ?_) (fun hc4 => ?_)
          ·
            refine dn_skip ?_
            refine dn_then ?_
            refine dn_seq ?_
            refine dn_block ?_
            refine dn_any (N := 18) (l0 := #[false, false, false, false, false, false, false, false, false, false, false, false, false, false, false, false, false, false]) mixed (fun i => Nat.beq i 15 || Nat.beq i 17) (fun s => match s with | 0 => [OwnS 46 17 a n cap (flat encT zs)] | _ => []) [0] rfl rfl rfl ?_
            refine ds_t (listed' := #[true, false, false, false, false, false, false, false, false, false, false, false, false, false, false, false, false, false]) 0 (by kernel_rfl) rfl rfl rfl rfl rfl (op_move rfl) ?_
            refine ds_t (listed' := #[true, true, false, false, false, false, false, false, false, false, false, false, false, false, false, false, false, false]) 1 (by kernel_rfl) rfl rfl rfl rfl rfl (op_move rfl) ?_
            refine ds_t (listed' := #[true, true, true, false, false, false, false, false, false, false, false, false, false, false, false, false, false, false]) 2 (by kernel_rfl) rfl rfl rfl rfl rfl (op_move rfl) ?_
            refine ds_t (listed' := #[true, true, true, true, false, false, false, false, false, false, false, false, false, false, false, false, false, false]) 3 (by kernel_rfl) rfl rfl rfl rfl rfl (op_move rfl) ?_
            refine ds_t (listed' := #[true, true, true, true, true, false, false, false, false, false, false, false, false, false, false, false, false, false]) 4 (by kernel_rfl) rfl rfl rfl rfl rfl (op_sub (z := ((j - 1 : Nat) : Int)) rfl rfl (wa_i64 (by omega) (by omega) (by omega))) ?_
            refine ds_t (listed' := #[true, true, true, true, true, true, false, false, false, false, false, false, false, false, false, false, false, false]) 5 (by kernel_rfl) rfl rfl rfl rfl rfl (op_move rfl) ?_
            refine ds_t (listed' := #[true, true, true, true, true, true, true, false, false, false, false, false, false, false, false, false, false, false]) 6 (by kernel_rfl) rfl rfl rfl rfl rfl (op_move rfl) ?_
            refine ds_t (listed' := #[true, true, true, true, true, true, true, true, false, false, false, false, false, false, false, false, false, false]) 7 (by kernel_rfl) rfl rfl rfl rfl rfl (op_sub (z := ((j - 1 : Nat) : Int)) rfl rfl (wa_i64 (by omega) (by omega) (by omega))) ?_
            refine ds_t (listed' := #[true, true, true, true, true, true, true, true, true, false, false, false, false, false, false, false, false, false]) 8 (by kernel_rfl) rfl rfl rfl rfl rfl (op_indexS (k := (j - 1) * 17) hS1 rfl rfl el_24 sz_46 (by omega) (by omega) (by first | rfl | omega)) ?_
            refine ds_t (listed' := #[true, true, true, true, true, true, true, true, true, false, true, false, false, false, false, false, false, false]) 10 (by kernel_rfl) rfl rfl rfl rfl rfl (op_move rfl) ?_
            refine ds_t (listed' := #[true, true, true, true, true, true, true, true, true, false, true, true, false, false, false, false, false, false]) 11 (by kernel_rfl) rfl rfl rfl rfl rfl (op_move rfl) ?_
            refine ds_t (listed' := #[true, true, true, true, true, true, true, true, true, false, true, true, true, false, false, false, false, false]) 12 (by kernel_rfl) rfl rfl rfl rfl rfl (op_indexS (k := j * 17) hS1 rfl rfl el_24 sz_46 (by omega) (by omega) (by first | rfl | omega)) ?_
            refine ds_r (listed' := #[true, true, true, true, true, true, true, true, true, true, true, true, true, false, false, false, false, false]) 9 (by kernel_rfl) rfl rfl rfl rfl rfl 0 rfl (op_loadON (vs := encT x4) rfl ag_46 sz_46 (by omega) (flat_part encT_len hx5) (encT_len _)) ?_
            refine ds_r (listed' := #[true, true, true, true, true, true, true, true, true, true, true, true, true, true, false, false, false, false]) 13 (by kernel_rfl) rfl rfl rfl rfl rfl 0 rfl (op_loadON (vs := encT x2) rfl ag_46 sz_46 (by omega) (flat_part encT_len hx3) (encT_len _)) ?_
            refine ds_t (listed' := #[true, true, true, true, true, true, true, true, true, true, true, true, true, true, true, false, false, false]) 14 (by kernel_rfl) rfl rfl rfl rfl rfl (op_indexS (k := j * 17) hS1 rfl rfl el_24 sz_46 (by omega) (by omega) (by first | rfl | omega)) ?_
            refine ds_s (s' := 1) (listed' := #[true, true, true, true, true, true, true, true, true, true, true, true, true, true, true, true, false, false]) 15 (by kernel_rfl) rfl rfl rfl rfl (op_storeO (vs := encT x4) 0 rfl rfl rfl sz_46 rfl (encT_len _) (encT_one _) (by omega) (by omega) (flat_set encT_len x4 (by first | omega | (simp only [List.length_set]; omega)))) [] rfl ?_
            refine ds_norm (Qs := [_, _]) rfl ?_
            refine ds_t (listed' := #[true, true, true, true, true, true, true, true, true, true, true, true, true, true, true, true, true, false]) 16 (by kernel_rfl) rfl rfl rfl rfl rfl (op_indexS (k := (j - 1) * 17) hS1 rfl rfl el_24 sz_46 (by omega) (by omega) (by first | rfl | omega)) ?_
            refine ds_s (s' := 2) (listed' := #[true, true, true, true, true, true, true, true, true, true, true, true, true, true, true, true, true, true]) 17 (by kernel_rfl) rfl rfl rfl rfl (op_storeO (vs := encT x2) 0 rfl rfl rfl sz_46 rfl (encT_len _) (encT_one _) (by omega) (by omega) (flat_set encT_len x2 (by first | omega | (simp only [List.length_set]; omega)))) [] rfl ?_
            refine ds_norm (Qs := [_, _]) rfl ?_
            refine ds_done rfl ?_
            refine dn_inB ?_
            refine dn_then ?_
            refine dn_reg ?_
            refine dl_t rfl rfl rfl (op_move rfl) ?_
            refine dl_t rfl rfl rfl (op_sub (z := ((j - 1 : Nat) : Int)) rfl rfl (wa_i64 (by omega) (by omega) (by omega))) ?_
            refine dl_t rfl rfl rfl (op_assign rfl) ?_
            refine dn_done ?_
            refine dn_then ?_
            exact dn_meet (j - 1, (zs.set j x4).set (j - 1) x2) (⟨by show j - 1 < j; omega, hJ.step (by omega) hx3 hx5 (cmpI_neg.1 hc4) (by omega)⟩) (Less.cons rfl (Less.cons rfl (Less.cons rfl (Less.cons rfl (Less.cons rfl (Less.cons rfl (Less.nil _))))))) [0, 0] rfl
          ·
            refine dn_exit ?_
            refine dn_thenX ?_
            refine dn_thenX ?_
            refine dn_inBX ?_
            refine dn_inB ?_
            refine dn_then ?_
            refine dn_reg ?_
            refine dl_t rfl rfl rfl (op_move rfl) ?_
            refine dl_t rfl rfl rfl (op_add (z := ((i + 1 : Nat) : Int)) rfl rfl (wa_i64 (by omega) (by omega) (by omega))) ?_
            refine dl_t rfl rfl rfl (op_assign rfl) ?_
            refine dn_done ?_
            refine dn_then ?_
            exact dn_meet (i + 1, zs) (⟨by show hi - (i + 1) < hi - i; omega, hJ.back (by intro y x hy hx _; rw [hx5] at hy; rw [hx3] at hx; cases hy; cases hx; exact fun q => hc4 (cmpI_neg.2 q)) (by omega)⟩) (Less.cons rfl (Less.cons rfl (Less.cons rfl (Less.cons rfl (Less.cons rfl (Less.nil _)))))) [0, 0] rfl
        ·
          refine ds_no (listed' := #[true, true, true, true, true, false, false, false, false, false, false, false, false, false, false, false, false]) 4 (by kernel_rfl) rfl rfl rfl rfl rfl rfl (by decide) rfl rfl ?_
          refine ds_no (listed' := #[true, true, true, true, true, true, false, false, false, false, false, false, false, false, false, false, false]) 5 (by kernel_rfl) rfl rfl rfl rfl rfl rfl (by decide) rfl rfl ?_
          refine ds_no (listed' := #[true, true, true, true, true, true, true, false, false, false, false, false, false, false, false, false, false]) 6 (by kernel_rfl) rfl rfl rfl rfl rfl rfl (by decide) rfl rfl ?_
          refine ds_no (listed' := #[true, true, true, true, true, true, true, true, false, false, false, false, false, false, false, false, false]) 7 (by kernel_rfl) rfl rfl rfl rfl rfl rfl (by decide) rfl rfl ?_
          refine ds_no (listed' := #[true, true, true, true, true, true, true, true, false, true, false, false, false, false, false, false, false]) 9 (by kernel_rfl) rfl rfl rfl rfl rfl rfl (by decide) rfl rfl ?_
          refine ds_no (listed' := #[true, true, true, true, true, true, true, true, false, true, true, false, false, false, false, false, false]) 10 (by kernel_rfl) rfl rfl rfl rfl rfl rfl (by decide) rfl rfl ?_
          refine ds_no (listed' := #[true, true, true, true, true, true, true, true, false, true, true, true, false, false, false, false, false]) 11 (by kernel_rfl) rfl rfl rfl rfl rfl rfl (by decide) rfl rfl ?_
          refine ds_no (listed' := #[true, true, true, true, true, true, true, true, false, true, true, true, true, false, false, false, false]) 12 (by kernel_rfl) rfl rfl rfl rfl rfl rfl (by decide) rfl rfl ?_
          refine ds_no (listed' := #[true, true, true, true, true, true, true, true, true, true, true, true, true, false, false, false, false]) 8 (by kernel_rfl) rfl rfl rfl rfl rfl rfl (by decide) rfl rfl ?_
          refine ds_no (listed' := #[true, true, true, true, true, true, true, true, true, true, true, true, true, true, false, false, false]) 13 (by kernel_rfl) rfl rfl rfl rfl rfl rfl (by decide) rfl rfl ?_
          refine ds_nox (s' := 1) (listed' := #[true, true, true, true, true, true, true, true, true, true, true, true, true, true, true, false, false]) 14 (by kernel_rfl) rfl rfl rfl rfl rfl rfl rfl (by decide) rfl rfl [] rfl ?_
          refine ds_no (listed' := #[true, true, true, true, true, true, true, true, true, true, true, true, true, true, true, true, false]) 15 (by kernel_rfl) rfl rfl rfl rfl rfl rfl (by decide) rfl rfl ?_
          refine ds_t (listed' := #[true, true, true, true, true, true, true, true, true, true, true, true, true, true, true, true, true]) 16 (by kernel_rfl) rfl rfl rfl rfl rfl (op_pick (b := false) rfl rfl) ?_
          refine ds_done rfl ?_
          refine dn_then ?_
          refine dn_cond_false rfl ?_
          refine dn_exit ?_
          refine dn_thenX ?_
          refine dn_thenX ?_
          refine dn_inBX ?_
          refine dn_inB ?_
          refine dn_then ?_
          refine dn_reg ?_
          refine dl_t rfl rfl rfl (op_move rfl) ?_
          refine dl_t rfl rfl rfl (op_add (z := ((i + 1 : Nat) : Int)) rfl rfl (wa_i64 (by omega) (by omega) (by omega))) ?_
          refine dl_t rfl rfl rfl (op_assign rfl) ?_
          refine dn_done ?_
          refine dn_then ?_
          exact dn_meet (i + 1, zs) (⟨by show hi - (i + 1) < hi - i; omega, hJ.back (fun _ _ _ _ q => absurd (Int.ofNat_lt.2 q) hg4_3) (by omega)⟩) (Less.cons rfl (Less.cons rfl (Less.cons rfl (Less.cons rfl (Less.cons rfl (Less.nil _)))))) [0, 0] rfl
    ·
      refine dn_exit ?_
      refine dn_thenX ?_
      refine dn_thenX ?_
      refine dn_inBX ?_
      exact dn_end ys (by exact rfl) (by exact rfl) (by exact rfl) (by exact hI.done (by omega)) [0, 0] (by exact rfl) (by exact .inr rfl)
/-- slices.swapRangeCmpFunc[crossbuck/sched.Rec] -/
theorem swap_tri (a : Option Addr) (n cap : Nat) (xs : List TR) (lo mid k : Nat) (hn : xs.length = n) (h1 : lo + k ≤ mid) (h2 : mid + k ≤ n) (h63 : n ≤ 1000000) : Tri Tryz.prog 73 [.slice a n cap, .int .i64 ((lo : Nat) : Int), .int .i64 ((mid : Nat) : Int), .int .i64 ((k : Nat) : Int), .func (.func 18) #[] #[]].toArray [OwnS 46 17 a n cap (flat encT xs)] (X := Unit) (fun _ => .tuple #[]) (fun _ => True) (fun _ => [OwnS 46 17 a n cap (flat encT (Swp xs lo mid k))]) := by
  refine tri_intro (n := 38) (vs := [.slice a n cap, .int .i64 ((lo : Nat) : Int), .int .i64 ((mid : Nat) : Int), .int .i64 ((k : Nat) : Int), .func (.func 18) #[] #[]]) Tryz.func73 rfl rfl rfl (fun R E => ?_)
  show Dn E 38 [] _ [(0, .slice a n cap), (1, .int .i64 ((lo : Nat) : Int)), (2, .int .i64 ((mid : Nat) : Int)), (3, .int .i64 ((k : Nat) : Int)), (4, .func (.func 18) #[] #[])] [OwnS 46 17 a n cap (flat encT xs), R]
  refine dn_seq ?_
  refine dn_reg ?_
  refine dl_t rfl rfl rfl (op_assign rfl) ?_
  refine dn_done ?_
  refine dn_then ?_
  refine dn_block ?_
  refine dn_loop (α := Nat) (fun (i : Nat) => i ≤ k) (fun (i : Nat) => k - i) (fun (i : Nat) => [(0, .slice a n cap), (1, .int .i64 ((lo : Nat) : Int)), (2, .int .i64 ((mid : Nat) : Int)), (3, .int .i64 ((k : Nat) : Int)), (4, .func (.func 18) #[] #[]), (10, .int .i64 ((i : Nat) : Int))]) (fun (i : Nat) => [OwnS 46 17 a n cap (flat encT (Swp xs lo mid i)), R]) ?_ ?_
  ·
    refine dn_norm (Qs := [OwnS 46 17 a n cap (flat encT (Swp xs lo mid 0)), R]) (by rw [swp_zero (by omega)]) ?_
    exact dn_meet 0 (Nat.zero_le _) (Less.cons rfl (Less.cons rfl (Less.cons rfl (Less.cons rfl (Less.cons rfl (Less.cons rfl (Less.nil _))))))) [0, 0] rfl
  ·
    rintro i hI
    show Dn E 38 [] _ [(0, .slice a n cap), (1, .int .i64 ((lo : Nat) : Int)), (2, .int .i64 ((mid : Nat) : Int)), (3, .int .i64 ((k : Nat) : Int)), (4, .func (.func 18) #[] #[]), (10, .int .i64 ((i : Nat) : Int))] [OwnS 46 17 a n cap (flat encT (Swp xs lo mid i)), R]
    have hl : (Swp xs lo mid i).length = xs.length := swp_len h1 hI (by omega)
    refine dn_seq ?_
    refine dn_seq ?_
    refine dn_reg ?_
    refine dl_t rfl rfl rfl (op_move rfl) ?_
    refine dl_t rfl rfl rfl (op_move rfl) ?_
    refine dl_t rfl rfl rfl (op_lss rfl rfl) ?_
    refine dn_done ?_
    refine dn_then ?_
    refine dn_cond (p := ((i : Nat) : Int) < ((k : Nat) : Int)) rfl (fun hc1 => ?_) (fun hc1 => ?_)
    ·
      refine dn_skip ?_
      refine dn_then ?_
      refine dn_seq ?_
      refine dn_block ?_
      refine dn_any (N := 24) (l0 := #[false, false, false, false, false, false, false, false, false, false, false, false, false, false, false, false, false, false, false, false, false, false, false, false]) mixed (fun i => Nat.beq i 21 || Nat.beq i 23) (fun s => match s with | 0 => [OwnS 46 17 a n cap (flat encT (Swp xs lo mid i))] | _ => []) [0] rfl rfl rfl ?_
      refine ds_t (listed' := #[true, false, false, false, false, false, false, false, false, false, false, false, false, false, false, false, false, false, false, false, false, false, false, false]) 0 (by kernel_rfl) rfl rfl rfl rfl rfl (op_move rfl) ?_
      refine ds_t (listed' := #[true, true, false, false, false, false, false, false, false, false, false, false, false, false, false, false, false, false, false, false, false, false, false, false]) 1 (by kernel_rfl) rfl rfl rfl rfl rfl (op_move rfl) ?_
      refine ds_t (listed' := #[true, true, true, false, false, false, false, false, false, false, false, false, false, false, false, false, false, false, false, false, false, false, false, false]) 2 (by kernel_rfl) rfl rfl rfl rfl rfl (op_move rfl) ?_
      refine ds_t (listed' := #[true, true, true, true, false, false, false, false, false, false, false, false, false, false, false, false, false, false, false, false, false, false, false, false]) 3 (by kernel_rfl) rfl rfl rfl rfl rfl (op_add (z := ((lo + i : Nat) : Int)) rfl rfl (wa_i64 (by omega) (by omega) (by omega))) ?_
      refine ds_t (listed' := #[true, true, true, true, true, false, false, false, false, false, false, false, false, false, false, false, false, false, false, false, false, false, false, false]) 4 (by kernel_rfl) rfl rfl rfl rfl rfl (op_move rfl) ?_
      refine ds_t (listed' := #[true, true, true, true, true, true, false, false, false, false, false, false, false, false, false, false, false, false, false, false, false, false, false, false]) 5 (by kernel_rfl) rfl rfl rfl rfl rfl (op_move rfl) ?_
      refine ds_t (listed' := #[true, true, true, true, true, true, true, false, false, false, false, false, false, false, false, false, false, false, false, false, false, false, false, false]) 6 (by kernel_rfl) rfl rfl rfl rfl rfl (op_move rfl) ?_
      refine ds_t (listed' := #[true, true, true, true, true, true, true, true, false, false, false, false, false, false, false, false, false, false, false, false, false, false, false, false]) 7 (by kernel_rfl) rfl rfl rfl rfl rfl (op_add (z := ((mid + i : Nat) : Int)) rfl rfl (wa_i64 (by omega) (by omega) (by omega))) ?_
      refine ds_t (listed' := #[true, true, true, true, true, true, true, true, true, false, false, false, false, false, false, false, false, false, false, false, false, false, false, false]) 8 (by kernel_rfl) rfl rfl rfl rfl rfl (op_move rfl) ?_
      refine ds_t (listed' := #[true, true, true, true, true, true, true, true, true, true, false, false, false, false, false, false, false, false, false, false, false, false, false, false]) 9 (by kernel_rfl) rfl rfl rfl rfl rfl (op_move rfl) ?_
      refine ds_t (listed' := #[true, true, true, true, true, true, true, true, true, true, true, false, false, false, false, false, false, false, false, false, false, false, false, false]) 10 (by kernel_rfl) rfl rfl rfl rfl rfl (op_move rfl) ?_
      refine ds_t (listed' := #[true, true, true, true, true, true, true, true, true, true, true, true, false, false, false, false, false, false, false, false, false, false, false, false]) 11 (by kernel_rfl) rfl rfl rfl rfl rfl (op_add (z := ((mid + i : Nat) : Int)) rfl rfl (wa_i64 (by omega) (by omega) (by omega))) ?_
      refine ds_of ?_
      refine dn_ownSome 0 rfl (by omega) (fun hS1 => ?_)
      refine of_ds ?_
      refine ds_t (listed' := #[true, true, true, true, true, true, true, true, true, true, true, true, true, false, false, false, false, false, false, false, false, false, false, false]) 12 (by kernel_rfl) rfl rfl rfl rfl rfl (op_indexS (k := (mid + i) * 17) hS1 rfl rfl el_24 sz_46 (by omega) (by omega) (by first | rfl | omega)) ?_
      refine ds_t (listed' := #[true, true, true, true, true, true, true, true, true, true, true, true, true, false, true, false, false, false, false, false, false, false, false, false]) 14 (by kernel_rfl) rfl rfl rfl rfl rfl (op_move rfl) ?_
      refine ds_t (listed' := #[true, true, true, true, true, true, true, true, true, true, true, true, true, false, true, true, false, false, false, false, false, false, false, false]) 15 (by kernel_rfl) rfl rfl rfl rfl rfl (op_move rfl) ?_
      refine ds_t (listed' := #[true, true, true, true, true, true, true, true, true, true, true, true, true, false, true, true, true, false, false, false, false, false, false, false]) 16 (by kernel_rfl) rfl rfl rfl rfl rfl (op_move rfl) ?_
      refine ds_t (listed' := #[true, true, true, true, true, true, true, true, true, true, true, true, true, false, true, true, true, true, false, false, false, false, false, false]) 17 (by kernel_rfl) rfl rfl rfl rfl rfl (op_add (z := ((lo + i : Nat) : Int)) rfl rfl (wa_i64 (by omega) (by omega) (by omega))) ?_
      refine ds_t (listed' := #[true, true, true, true, true, true, true, true, true, true, true, true, true, false, true, true, true, true, true, false, false, false, false, false]) 18 (by kernel_rfl) rfl rfl rfl rfl rfl (op_indexS (k := (lo + i) * 17) hS1 rfl rfl el_24 sz_46 (by omega) (by omega) (by first | rfl | omega)) ?_
      obtain ⟨x2, hx3⟩ : ∃ x, (Swp xs lo mid i)[mid + i]? = some x := ⟨_, List.getElem?_eq_getElem (by omega)⟩
      refine ds_r (listed' := #[true, true, true, true, true, true, true, true, true, true, true, true, true, true, true, true, true, true, true, false, false, false, false, false]) 13 (by kernel_rfl) rfl rfl rfl rfl rfl 0 rfl (op_loadON (vs := encT x2) rfl ag_46 sz_46 (by omega) (flat_part encT_len hx3) (encT_len _)) ?_
      obtain ⟨x4, hx5⟩ : ∃ x, (Swp xs lo mid i)[lo + i]? = some x := ⟨_, List.getElem?_eq_getElem (by omega)⟩
      refine ds_r (listed' := #[true, true, true, true, true, true, true, true, true, true, true, true, true, true, true, true, true, true, true, true, false, false, false, false]) 19 (by kernel_rfl) rfl rfl rfl rfl rfl 0 rfl (op_loadON (vs := encT x4) rfl ag_46 sz_46 (by omega) (flat_part encT_len hx5) (encT_len _)) ?_
      refine ds_t (listed' := #[true, true, true, true, true, true, true, true, true, true, true, true, true, true, true, true, true, true, true, true, true, false, false, false]) 20 (by kernel_rfl) rfl rfl rfl rfl rfl (op_indexS (k := (lo + i) * 17) hS1 rfl rfl el_24 sz_46 (by omega) (by omega) (by first | rfl | omega)) ?_
      refine ds_s (s' := 1) (listed' := #[true, true, true, true, true, true, true, true, true, true, true, true, true, true, true, true, true, true, true, true, true, true, false, false]) 21 (by kernel_rfl) rfl rfl rfl rfl (op_storeO (vs := encT x2) 0 rfl rfl rfl sz_46 rfl (encT_len _) (encT_one _) (by omega) (by omega) (flat_set encT_len x2 (by first | omega | (simp only [List.length_set]; omega)))) [] rfl ?_
      refine ds_norm (Qs := [_, _]) rfl ?_
      refine ds_t (listed' := #[true, true, true, true, true, true, true, true, true, true, true, true, true, true, true, true, true, true, true, true, true, true, true, false]) 22 (by kernel_rfl) rfl rfl rfl rfl rfl (op_indexS (k := (mid + i) * 17) hS1 rfl rfl el_24 sz_46 (by omega) (by omega) (by first | rfl | omega)) ?_
      refine ds_s (s' := 2) (listed' := #[true, true, true, true, true, true, true, true, true, true, true, true, true, true, true, true, true, true, true, true, true, true, true, true]) 23 (by kernel_rfl) rfl rfl rfl rfl (op_storeO (vs := encT x4) 0 rfl rfl rfl sz_46 rfl (encT_len _) (encT_one _) (by omega) (by omega) (flat_set encT_len x4 (by first | omega | (simp only [List.length_set]; omega)))) [] rfl ?_
      refine ds_norm (Qs := [_, _]) rfl ?_
      refine ds_done rfl ?_
      refine dn_inB ?_
      refine dn_then ?_
      refine dn_reg ?_
      refine dl_t rfl rfl rfl (op_move rfl) ?_
      refine dl_t rfl rfl rfl (op_add (z := ((i + 1 : Nat) : Int)) rfl rfl (wa_i64 (by omega) (by omega) (by omega))) ?_
      refine dl_t rfl rfl rfl (op_assign rfl) ?_
      refine dn_done ?_
      refine dn_then ?_
      refine dn_norm (Qs := [OwnS 46 17 a n cap (flat encT (Swp xs lo mid (i + 1))), R]) (by rw [swp_step h1 (by omega) (by omega) hx5 hx3]) ?_
      exact dn_meet (i + 1) (⟨by show k - (i + 1) < k - i; omega, by show i + 1 ≤ k; omega⟩) (Less.cons rfl (Less.cons rfl (Less.cons rfl (Less.cons rfl (Less.cons rfl (Less.cons rfl (Less.nil _))))))) [0, 0] rfl
    ·
      refine dn_exit ?_
      refine dn_thenX ?_
      refine dn_thenX ?_
      refine dn_inBX ?_
      refine dn_norm (Qs := [OwnS 46 17 a n cap (flat encT (Swp xs lo mid k)), R]) (by rw [show i = k from by omega]) ?_
      exact dn_end () (by exact rfl) (by exact rfl) (by exact rfl) (by trivial) [0, 0] (by exact rfl) (by exact .inr rfl)
/-- slices.rotateCmpFunc[crossbuck/sched.Rec] -/
theorem rot_tri (a : Option Addr) (n cap : Nat) (xs : List TR) (lo mid hi : Nat) (hn : xs.length = n) (h1 : lo < mid) (h2 : mid < hi) (h3 : hi ≤ n) (h63 : n ≤ 1000000) : Tri Tryz.prog 50 [.slice a n cap, .int .i64 ((lo : Nat) : Int), .int .i64 ((mid : Nat) : Int), .int .i64 ((hi : Nat) : Int), .func (.func 18) #[] #[]].toArray [OwnS 46 17 a n cap (flat encT xs)] (X := Unit) (fun _ => .tuple #[]) (fun _ => True) (fun _ => [OwnS 46 17 a n cap (flat encT (Rot xs lo mid hi))]) := by
  refine tri_intro (n := 58) (vs := [.slice a n cap, .int .i64 ((lo : Nat) : Int), .int .i64 ((mid : Nat) : Int), .int .i64 ((hi : Nat) : Int), .func (.func 18) #[] #[]]) Tryz.func50 rfl rfl rfl (fun R E => ?_)
  show Dn E 58 [] _ [(0, .slice a n cap), (1, .int .i64 ((lo : Nat) : Int)), (2, .int .i64 ((mid : Nat) : Int)), (3, .int .i64 ((hi : Nat) : Int)), (4, .func (.func 18) #[] #[])] [OwnS 46 17 a n cap (flat encT xs), R]
  refine dn_seq ?_
  refine dn_reg ?_
  refine dl_t rfl rfl rfl (op_move rfl) ?_
  refine dl_t rfl rfl rfl (op_move rfl) ?_
  refine dl_t rfl rfl rfl (op_sub (z := ((mid - lo : Nat) : Int)) rfl rfl (wa_i64 (by omega) (by omega) (by omega))) ?_
  refine dl_t rfl rfl rfl (op_assign rfl) ?_
  refine dn_done ?_
  refine dn_then ?_
  refine dn_seq ?_
  refine dn_reg ?_
  refine dl_t rfl rfl rfl (op_move rfl) ?_
  refine dl_t rfl rfl rfl (op_move rfl) ?_
  refine dl_t rfl rfl rfl (op_sub (z := ((hi - mid : Nat) : Int)) rfl rfl (wa_i64 (by omega) (by omega) (by omega))) ?_
  refine dl_t rfl rfl rfl (op_assign rfl) ?_
  refine dn_done ?_
  refine dn_then ?_
  refine dn_seq ?_
  refine dn_block ?_
  refine dn_loop (α := Nat × Nat × List TR) (fun ((i, j, ys) : Nat × Nat × List TR) => RotI xs lo mid hi i j ys) (fun ((i, j, ys) : Nat × Nat × List TR) => i + j) (fun ((i, j, ys) : Nat × Nat × List TR) => [(0, .slice a n cap), (1, .int .i64 ((lo : Nat) : Int)), (2, .int .i64 ((mid : Nat) : Int)), (3, .int .i64 ((hi : Nat) : Int)), (4, .func (.func 18) #[] #[]), (10, .int .i64 ((i : Nat) : Int)), (11, .int .i64 ((j : Nat) : Int))]) (fun ((i, j, ys) : Nat × Nat × List TR) => [OwnS 46 17 a n cap (flat encT ys), R]) ?_ ?_
  ·
    exact dn_meet (mid - lo, hi - mid, xs) (RotI.start h1 h2 (by omega)) (Less.cons rfl (Less.cons rfl (Less.cons rfl (Less.cons rfl (Less.cons rfl (Less.cons rfl (Less.cons rfl (Less.nil _)))))))) [0, 0] rfl
  ·
    rintro ⟨i, j, ys⟩ hI
    show Dn E 58 [] _ [(0, .slice a n cap), (1, .int .i64 ((lo : Nat) : Int)), (2, .int .i64 ((mid : Nat) : Int)), (3, .int .i64 ((hi : Nat) : Int)), (4, .func (.func 18) #[] #[]), (10, .int .i64 ((i : Nat) : Int)), (11, .int .i64 ((j : Nat) : Int))] [OwnS 46 17 a n cap (flat encT ys), R]
    change RotI xs lo mid hi i j ys at hI
    obtain ⟨hI1, hI2, hI3, hI4, hI5, _⟩ := id hI
    refine dn_seq ?_
    refine dn_seq ?_
    refine dn_reg ?_
    refine dl_t rfl rfl rfl (op_move rfl) ?_
    refine dl_t rfl rfl rfl (op_move rfl) ?_
    refine dl_t rfl rfl rfl (op_neq rfl rfl) ?_
    refine dn_done ?_
    refine dn_then ?_
    refine dn_cond (p := ¬ ((i : Nat) : Int) = ((j : Nat) : Int)) rfl (fun hc2 => ?_) (fun hc2 => ?_)
    ·
      refine dn_skip ?_
      refine dn_then ?_
      refine dn_block ?_
      refine dn_seq ?_
      refine dn_reg ?_
      refine dl_t rfl rfl rfl (op_move rfl) ?_
      refine dl_t rfl rfl rfl (op_move rfl) ?_
      refine dl_t rfl rfl rfl (op_gtr rfl rfl) ?_
      refine dn_done ?_
      refine dn_then ?_
      refine dn_cond (p := ((j : Nat) : Int) < ((i : Nat) : Int)) rfl (fun hc3 => ?_) (fun hc3 => ?_)
      ·
        refine dn_seq ?_
        refine dn_reg ?_
        refine dl_t rfl rfl rfl (op_move rfl) ?_
        refine dl_t rfl rfl rfl (op_move rfl) ?_
        refine dl_t rfl rfl rfl (op_move rfl) ?_
        refine dl_t rfl rfl rfl (op_sub (z := ((mid - i : Nat) : Int)) rfl rfl (wa_i64 (by omega) (by omega) (by omega))) ?_
        refine dl_t rfl rfl rfl (op_move rfl) ?_
        refine dl_t rfl rfl rfl (op_move rfl) ?_
        refine dl_t rfl rfl rfl (op_move rfl) ?_
        refine dl_e rfl (op_call (vs := [.slice a n cap, .int .i64 ((mid - i : Nat) : Int), .int .i64 ((mid : Nat) : Int), .int .i64 ((j : Nat) : Int), .func (.func 18) #[] #[]]) cl_73 (swap_tri a n cap ys (mid - i) mid j (by omega) (by omega) (by omega) (by omega)) rfl [0] rfl rfl) ?_
        rintro ⟨⟩ -
        refine dn_norm (Qs := [_, _]) rfl ?_
        refine dn_done ?_
        refine dn_then ?_
        refine dn_reg ?_
        refine dl_t rfl rfl rfl (op_move rfl) ?_
        refine dl_t rfl rfl rfl (op_move rfl) ?_
        refine dl_t rfl rfl rfl (op_sub (z := ((i - j : Nat) : Int)) rfl rfl (wa_i64 (by omega) (by omega) (by omega))) ?_
        refine dl_t rfl rfl rfl (op_assign rfl) ?_
        refine dn_done ?_
        refine dn_inB ?_
        refine dn_then ?_
        exact dn_meet (i - j, j, Swp ys (mid - i) mid j) (⟨by show i - j + j < i + j; omega, hI.left (by omega)⟩) (Less.cons rfl (Less.cons rfl (Less.cons rfl (Less.cons rfl (Less.cons rfl (Less.cons rfl (Less.cons rfl (Less.nil _)))))))) [0, 0] rfl
      ·
        refine dn_seq ?_
        refine dn_reg ?_
        refine dl_t rfl rfl rfl (op_move rfl) ?_
        refine dl_t rfl rfl rfl (op_move rfl) ?_
        refine dl_t rfl rfl rfl (op_move rfl) ?_
        refine dl_t rfl rfl rfl (op_sub (z := ((mid - i : Nat) : Int)) rfl rfl (wa_i64 (by omega) (by omega) (by omega))) ?_
        refine dl_t rfl rfl rfl (op_move rfl) ?_
        refine dl_t rfl rfl rfl (op_move rfl) ?_
        refine dl_t rfl rfl rfl (op_add (z := ((mid + j : Nat) : Int)) rfl rfl (wa_i64 (by omega) (by omega) (by omega))) ?_
        refine dl_t rfl rfl rfl (op_move rfl) ?_
        refine dl_t rfl rfl rfl (op_sub (z := (((mid + j) - i : Nat) : Int)) rfl rfl (wa_i64 (by omega) (by omega) (by omega))) ?_
        refine dl_t rfl rfl rfl (op_move rfl) ?_
        refine dl_t rfl rfl rfl (op_move rfl) ?_
        refine dl_e rfl (op_call (vs := [.slice a n cap, .int .i64 ((mid - i : Nat) : Int), .int .i64 (((mid + j) - i : Nat) : Int), .int .i64 ((i : Nat) : Int), .func (.func 18) #[] #[]]) cl_73 (swap_tri a n cap ys (mid - i) ((mid + j) - i) i (by omega) (by omega) (by omega) (by omega)) rfl [0] rfl rfl) ?_
        rintro ⟨⟩ -
        refine dn_norm (Qs := [_, _]) rfl ?_
        refine dn_done ?_
        refine dn_then ?_
        refine dn_reg ?_
        refine dl_t rfl rfl rfl (op_move rfl) ?_
        refine dl_t rfl rfl rfl (op_move rfl) ?_
        refine dl_t rfl rfl rfl (op_sub (z := ((j - i : Nat) : Int)) rfl rfl (wa_i64 (by omega) (by omega) (by omega))) ?_
        refine dl_t rfl rfl rfl (op_assign rfl) ?_
        refine dn_done ?_
        refine dn_inB ?_
        refine dn_then ?_
        exact dn_meet (i, j - i, Swp ys (mid - i) (mid + j - i) i) (⟨by show i + (j - i) < i + j; omega, hI.right (by omega)⟩) (Less.cons rfl (Less.cons rfl (Less.cons rfl (Less.cons rfl (Less.cons rfl (Less.cons rfl (Less.cons rfl (Less.nil _)))))))) [0, 0] rfl
    ·
      refine dn_exit ?_
      refine dn_thenX ?_
      refine dn_thenX ?_
      refine dn_inBX ?_
      refine dn_then ?_
      refine dn_reg ?_
      refine dl_t rfl rfl rfl (op_move rfl) ?_
      refine dl_t rfl rfl rfl (op_move rfl) ?_
      refine dl_t rfl rfl rfl (op_move rfl) ?_
      refine dl_t rfl rfl rfl (op_sub (z := ((mid - i : Nat) : Int)) rfl rfl (wa_i64 (by omega) (by omega) (by omega))) ?_
      refine dl_t rfl rfl rfl (op_move rfl) ?_
      refine dl_t rfl rfl rfl (op_move rfl) ?_
      refine dl_t rfl rfl rfl (op_move rfl) ?_
      refine dl_e rfl (op_call (vs := [.slice a n cap, .int .i64 ((mid - i : Nat) : Int), .int .i64 ((mid : Nat) : Int), .int .i64 ((i : Nat) : Int), .func (.func 18) #[] #[]]) cl_73 (swap_tri a n cap ys (mid - i) mid i (by omega) (by omega) (by omega) (by omega)) rfl [0] rfl rfl) ?_
      rintro ⟨⟩ -
      refine dn_norm (Qs := [_, _]) rfl ?_
      refine dn_done ?_
      have hI6 : RotI xs lo mid hi i i ys := by rw [show j = i from by omega] at hI; exact hI
      refine dn_norm (Qs := [OwnS 46 17 a n cap (flat encT (Rot xs lo mid hi)), R]) (by rw [hI6.done]) ?_
      exact dn_end () (by exact rfl) (by exact rfl) (by exact rfl) (by trivial) [0, 0] (by exact rfl) (by exact .inr rfl)
set_option maxHeartbeats 1000000 in
/-- slices.symMergeCmpFunc[crossbuck/sched.Rec] -/
theorem sym_tri (a : Option Addr) (n cap : Nat) (h63 : n ≤ 1000000) : ∀ (k : Nat) (xs : List TR) (lo mid hi : Nat), hi - lo < k → xs.length = n → lo < mid → mid < hi → hi ≤ n → MPre xs lo mid hi → Tri Tryz.prog 35 [.slice a n cap, .int .i64 ((lo : Nat) : Int), .int .i64 ((mid : Nat) : Int), .int .i64 ((hi : Nat) : Int), .func (.func 18) #[] #[]].toArray [OwnS 46 17 a n cap (flat encT xs)] (X := List TR) (fun _ => .tuple #[]) (fun ys => Done xs lo hi ys) (fun ys => [OwnS 46 17 a n cap (flat encT ys)]) := by
  intro k
  induction k with
  | zero => intro xs lo mid hi hk; omega
  | succ k ih =>
    intro xs lo mid hi hk hn h1 h2 h3 hp
    refine tri_intro (n := 220) (vs := [.slice a n cap, .int .i64 ((lo : Nat) : Int), .int .i64 ((mid : Nat) : Int), .int .i64 ((hi : Nat) : Int), .func (.func 18) #[] #[]]) Tryz.func35 rfl rfl rfl (fun R E => ?_)
    show Dn E 220 [] _ [(0, .slice a n cap), (1, .int .i64 ((lo : Nat) : Int)), (2, .int .i64 ((mid : Nat) : Int)), (3, .int .i64 ((hi : Nat) : Int)), (4, .func (.func 18) #[] #[])] [OwnS 46 17 a n cap (flat encT xs), R]
    refine dn_seq ?_
    refine dn_seq ?_
    refine dn_reg ?_
    refine dl_t rfl rfl rfl (op_move rfl) ?_
    refine dl_t rfl rfl rfl (op_move rfl) ?_
    refine dl_t rfl rfl rfl (op_sub (z := ((mid - lo : Nat) : Int)) rfl rfl (wa_i64 (by omega) (by omega) (by omega))) ?_
    refine dl_t rfl rfl rfl (op_eql rfl rfl) ?_
    refine dn_done ?_
    refine dn_then ?_
    refine dn_cond (p := ((mid - lo : Nat) : Int) = 1) rfl (fun hc0 => ?_) (fun hc0 => ?_)
    ·
      refine dn_seq ?_
      obtain ⟨x0, hx0⟩ : ∃ x, xs[lo]? = some x := ⟨_, List.getElem?_eq_getElem (by omega)⟩
      refine dn_reg ?_
      refine dl_t rfl rfl rfl (op_move rfl) ?_
      refine dl_t rfl rfl rfl (op_assign rfl) ?_
      refine dn_done ?_
      refine dn_then ?_
      refine dn_seq ?_
      refine dn_reg ?_
      refine dl_t rfl rfl rfl (op_move rfl) ?_
      refine dl_t rfl rfl rfl (op_assign rfl) ?_
      refine dn_done ?_
      refine dn_then ?_
      refine dn_seq ?_
      refine dn_block ?_
      refine dn_loop (α := Nat × Nat) (fun ((i, j) : Nat × Nat) => Bs (Q1 xs x0) mid hi i j) (fun ((i, j) : Nat × Nat) => j - i) (fun ((i, j) : Nat × Nat) => [(0, .slice a n cap), (1, .int .i64 ((lo : Nat) : Int)), (2, .int .i64 ((mid : Nat) : Int)), (3, .int .i64 ((hi : Nat) : Int)), (4, .func (.func 18) #[] #[]), (10, .int .i64 ((i : Nat) : Int)), (11, .int .i64 ((j : Nat) : Int))]) (fun ((i, j) : Nat × Nat) => [OwnS 46 17 a n cap (flat encT xs), R]) ?_ ?_
      ·
        exact dn_meet (mid, hi) (Bs.start (by omega)) (Less.cons rfl (Less.cons rfl (Less.cons rfl (Less.cons rfl (Less.cons rfl (Less.cons rfl (Less.cons rfl (Less.nil _)))))))) [0, 0] rfl
      ·
        rintro ⟨i, j⟩ hI
        show Dn E 220 [] _ [(0, .slice a n cap), (1, .int .i64 ((lo : Nat) : Int)), (2, .int .i64 ((mid : Nat) : Int)), (3, .int .i64 ((hi : Nat) : Int)), (4, .func (.func 18) #[] #[]), (10, .int .i64 ((i : Nat) : Int)), (11, .int .i64 ((j : Nat) : Int))] [OwnS 46 17 a n cap (flat encT xs), R]
        change Bs (Q1 xs x0) mid hi i j at hI
        obtain ⟨hI1, hI2, hI3, _, _⟩ := id hI
        refine dn_seq ?_
        refine dn_seq ?_
        refine dn_reg ?_
        refine dl_t rfl rfl rfl (op_move rfl) ?_
        refine dl_t rfl rfl rfl (op_move rfl) ?_
        refine dl_t rfl rfl rfl (op_lss rfl rfl) ?_
        refine dn_done ?_
        refine dn_then ?_
        refine dn_cond (p := ((i : Nat) : Int) < ((j : Nat) : Int)) rfl (fun hc3 => ?_) (fun hc3 => ?_)
        ·
          refine dn_skip ?_
          refine dn_then ?_
          refine dn_block ?_
          refine dn_seq ?_
          refine dn_reg ?_
          refine dl_t rfl rfl rfl (op_move rfl) ?_
          refine dl_t rfl rfl rfl (op_move rfl) ?_
          refine dl_t rfl rfl rfl (op_add (z := ((i + j : Nat) : Int)) rfl rfl (wa_i64 (by omega) (by omega) (by omega))) ?_
          refine dl_t rfl rfl rfl (op_conv (z := ((i + j : Nat) : Int)) rfl Tryz.underlying3 ik_146 (w_u64 (by omega) (by omega))) ?_
          refine dl_t rfl rfl rfl (op_shr (z := (((i + j) / 2 : Nat) : Int)) rfl rfl (by decide) (shr_one _)) ?_
          refine dl_t rfl rfl rfl (op_conv (z := (((i + j) / 2 : Nat) : Int)) rfl Tryz.underlying146 ik_3 (w_i64 (by omega) (by omega))) ?_
          refine dl_t rfl rfl rfl (op_assign rfl) ?_
          refine dn_done ?_
          refine dn_then ?_
          refine dn_seq ?_
          refine dn_any (N := 11) (l0 := #[false, false, false, false, false, false, false, false, false, false, false]) mixed (fun i => Nat.beq i 9) (fun s => match s with | 0 => [OwnS 46 17 a n cap (flat encT xs)] | _ => []) [0] rfl rfl rfl ?_
          refine ds_t (listed' := #[true, false, false, false, false, false, false, false, false, false, false]) 0 (by kernel_rfl) rfl rfl rfl rfl rfl (op_move rfl) ?_
          refine ds_t (listed' := #[true, true, false, false, false, false, false, false, false, false, false]) 1 (by kernel_rfl) rfl rfl rfl rfl rfl (op_move rfl) ?_
          refine ds_t (listed' := #[true, true, true, false, false, false, false, false, false, false, false]) 2 (by kernel_rfl) rfl rfl rfl rfl rfl (op_move rfl) ?_
          refine ds_of ?_
          refine dn_ownSome 0 rfl (by omega) (fun hS1 => ?_)
          refine of_ds ?_
          refine ds_t (listed' := #[true, true, true, true, false, false, false, false, false, false, false]) 3 (by kernel_rfl) rfl rfl rfl rfl rfl (op_indexS (k := ((i + j) / 2) * 17) hS1 rfl rfl el_24 sz_46 (by omega) (by omega) (by first | rfl | omega)) ?_
          refine ds_t (listed' := #[true, true, true, true, false, true, false, false, false, false, false]) 5 (by kernel_rfl) rfl rfl rfl rfl rfl (op_move rfl) ?_
          refine ds_t (listed' := #[true, true, true, true, false, true, true, false, false, false, false]) 6 (by kernel_rfl) rfl rfl rfl rfl rfl (op_move rfl) ?_
          refine ds_t (listed' := #[true, true, true, true, false, true, true, true, false, false, false]) 7 (by kernel_rfl) rfl rfl rfl rfl rfl (op_indexS (k := lo * 17) hS1 rfl rfl el_24 sz_46 (by omega) (by omega) (by first | rfl | omega)) ?_
          obtain ⟨x2, hx3⟩ : ∃ x, xs[(i + j) / 2]? = some x := ⟨_, List.getElem?_eq_getElem (by omega)⟩
          refine ds_r (listed' := #[true, true, true, true, true, true, true, true, false, false, false]) 4 (by kernel_rfl) rfl rfl rfl rfl rfl 0 rfl (op_loadON (vs := encT x2) rfl ag_46 sz_46 (by omega) (flat_part encT_len hx3) (encT_len _)) ?_
          refine ds_r (listed' := #[true, true, true, true, true, true, true, true, true, false, false]) 8 (by kernel_rfl) rfl rfl rfl rfl rfl 0 rfl (op_loadON (vs := encT x0) rfl ag_46 sz_46 (by omega) (flat_part encT_len hx0) (encT_len _)) ?_
          refine ds_x (s' := 1) (listed' := #[true, true, true, true, true, true, true, true, true, true, false]) 9 (by kernel_rfl) rfl rfl rfl rfl (op_callv (first := []) (capt := []) (us := [.agg (encT x2).toArray, .agg (encT x0).toArray]) cl_18 rfl rfl rfl (cmpRec_tri x2.2 x0.2) [] rfl rfl) [] (fun _ => ⟨_, rfl⟩) ?_
          rintro ⟨⟩ -
          refine ds_norm (Qs := [_, _]) rfl ?_
          refine ds_t (listed' := #[true, true, true, true, true, true, true, true, true, true, true]) 10 (by kernel_rfl) rfl rfl rfl rfl rfl (op_lss rfl rfl) ?_
          refine ds_done rfl ?_
          refine dn_then ?_
          refine dn_cond (p := (cmpI x2.2.pt x0.2.pt) < 0) rfl (fun hc5 => ?_) (fun hc5 => ?_)
          ·
            refine dn_reg ?_
            refine dl_t rfl rfl rfl (op_move rfl) ?_
            refine dl_t rfl rfl rfl (op_add (z := ((((i + j) / 2) + 1 : Nat) : Int)) rfl rfl (wa_i64 (by omega) (by omega) (by omega))) ?_
            refine dl_t rfl rfl rfl (op_assign rfl) ?_
            refine dn_done ?_
            refine dn_inB ?_
            refine dn_then ?_
            exact dn_meet ((i + j) / 2 + 1, j) (⟨by show j - ((i + j) / 2 + 1) < j - i; omega, hI.up (by omega) (by omega) ⟨x2, hx3, cmpI_neg.1 hc5⟩⟩) (Less.cons rfl (Less.cons rfl (Less.cons rfl (Less.cons rfl (Less.cons rfl (Less.cons rfl (Less.cons rfl (Less.nil _)))))))) [0, 0] rfl
          ·
            refine dn_reg ?_
            refine dl_t rfl rfl rfl (op_move rfl) ?_
            refine dl_t rfl rfl rfl (op_assign rfl) ?_
            refine dn_done ?_
            refine dn_inB ?_
            refine dn_then ?_
            exact dn_meet (i, (i + j) / 2) (⟨by show (i + j) / 2 - i < j - i; omega, hI.down (by omega) (by omega) (fun ⟨z, hz, q⟩ => by rw [hx3] at hz; cases hz; exact hc5 (cmpI_neg.2 q))⟩) (Less.cons rfl (Less.cons rfl (Less.cons rfl (Less.cons rfl (Less.cons rfl (Less.cons rfl (Less.cons rfl (Less.nil _)))))))) [0, 0] rfl
        ·
          refine dn_exit ?_
          refine dn_thenX ?_
          refine dn_thenX ?_
          refine dn_inBX ?_
          refine dn_then ?_
          refine dn_seq ?_
          refine dn_seq ?_
          refine dn_reg ?_
          refine dl_t rfl rfl rfl (op_move rfl) ?_
          refine dl_t rfl rfl rfl (op_assign rfl) ?_
          refine dn_done ?_
          refine dn_then ?_
          refine dn_block ?_
          refine dn_loop (α := Nat) (fun (u : Nat) => lo ≤ u ∧ u + 1 ≤ i) (fun (u : Nat) => i - u) (fun (u : Nat) => [(0, .slice a n cap), (1, .int .i64 ((lo : Nat) : Int)), (2, .int .i64 ((mid : Nat) : Int)), (3, .int .i64 ((hi : Nat) : Int)), (4, .func (.func 18) #[] #[]), (10, .int .i64 ((i : Nat) : Int)), (13, .int .i64 ((u : Nat) : Int))]) (fun (u : Nat) => [OwnS 46 17 a n cap (flat encT (Rot xs lo (lo + 1) (u + 1))), R]) ?_ ?_
          ·
            refine dn_norm (Qs := [OwnS 46 17 a n cap (flat encT (Rot xs lo (lo + 1) (lo + 1))), R]) (by rw [rot_none (.inr rfl) (by omega) (by omega)]) ?_
            exact dn_meet lo (⟨Nat.le_refl _, by omega⟩) (Less.cons rfl (Less.cons rfl (Less.cons rfl (Less.cons rfl (Less.cons rfl (Less.cons rfl (Less.cons rfl (Less.nil _)))))))) [0, 0] rfl
          ·
            rintro u hU
            show Dn E 220 [] _ [(0, .slice a n cap), (1, .int .i64 ((lo : Nat) : Int)), (2, .int .i64 ((mid : Nat) : Int)), (3, .int .i64 ((hi : Nat) : Int)), (4, .func (.func 18) #[] #[]), (10, .int .i64 ((i : Nat) : Int)), (13, .int .i64 ((u : Nat) : Int))] [OwnS 46 17 a n cap (flat encT (Rot xs lo (lo + 1) (u + 1))), R]
            change lo ≤ u ∧ u + 1 ≤ i at hU
            obtain ⟨hU1, hU2⟩ := hU
            have hl : (Rot xs lo (lo + 1) (u + 1)).length = xs.length := rot_len (by omega) (by omega) (by omega)
            refine dn_seq ?_
            refine dn_seq ?_
            refine dn_reg ?_
            refine dl_t rfl rfl rfl (op_move rfl) ?_
            refine dl_t rfl rfl rfl (op_move rfl) ?_
            refine dl_t rfl rfl rfl (op_sub (z := ((i - 1 : Nat) : Int)) rfl rfl (wa_i64 (by omega) (by omega) (by omega))) ?_
            refine dl_t rfl rfl rfl (op_lss rfl rfl) ?_
            refine dn_done ?_
            refine dn_then ?_
            refine dn_cond (p := ((u : Nat) : Int) < ((i - 1 : Nat) : Int)) rfl (fun hc9 => ?_) (fun hc9 => ?_)
            ·
              refine dn_skip ?_
              refine dn_then ?_
              refine dn_seq ?_
              refine dn_block ?_
              refine dn_any (N := 18) (l0 := #[false, false, false, false, false, false, false, false, false, false, false, false, false, false, false, false, false, false]) mixed (fun i => Nat.beq i 15 || Nat.beq i 17) (fun s => match s with | 0 => [OwnS 46 17 a n cap (flat encT (Rot xs lo (lo + 1) (u + 1)))] | _ => []) [0] rfl rfl rfl ?_
              refine ds_t (listed' := #[true, false, false, false, false, false, false, false, false, false, false, false, false, false, false, false, false, false]) 0 (by kernel_rfl) rfl rfl rfl rfl rfl (op_move rfl) ?_
              refine ds_t (listed' := #[true, true, false, false, false, false, false, false, false, false, false, false, false, false, false, false, false, false]) 1 (by kernel_rfl) rfl rfl rfl rfl rfl (op_move rfl) ?_
              refine ds_t (listed' := #[true, true, true, false, false, false, false, false, false, false, false, false, false, false, false, false, false, false]) 2 (by kernel_rfl) rfl rfl rfl rfl rfl (op_move rfl) ?_
              refine ds_t (listed' := #[true, true, true, true, false, false, false, false, false, false, false, false, false, false, false, false, false, false]) 3 (by kernel_rfl) rfl rfl rfl rfl rfl (op_move rfl) ?_
              refine ds_t (listed' := #[true, true, true, true, true, false, false, false, false, false, false, false, false, false, false, false, false, false]) 4 (by kernel_rfl) rfl rfl rfl rfl rfl (op_add (z := ((u + 1 : Nat) : Int)) rfl rfl (wa_i64 (by omega) (by omega) (by omega))) ?_
              refine ds_t (listed' := #[true, true, true, true, true, true, false, false, false, false, false, false, false, false, false, false, false, false]) 5 (by kernel_rfl) rfl rfl rfl rfl rfl (op_move rfl) ?_
              refine ds_t (listed' := #[true, true, true, true, true, true, true, false, false, false, false, false, false, false, false, false, false, false]) 6 (by kernel_rfl) rfl rfl rfl rfl rfl (op_move rfl) ?_
              refine ds_t (listed' := #[true, true, true, true, true, true, true, true, false, false, false, false, false, false, false, false, false, false]) 7 (by kernel_rfl) rfl rfl rfl rfl rfl (op_add (z := ((u + 1 : Nat) : Int)) rfl rfl (wa_i64 (by omega) (by omega) (by omega))) ?_
              refine ds_of ?_
              refine dn_ownSome 0 rfl (by omega) (fun hS4 => ?_)
              refine of_ds ?_
              refine ds_t (listed' := #[true, true, true, true, true, true, true, true, true, false, false, false, false, false, false, false, false, false]) 8 (by kernel_rfl) rfl rfl rfl rfl rfl (op_indexS (k := (u + 1) * 17) hS4 rfl rfl el_24 sz_46 (by omega) (by omega) (by first | rfl | omega)) ?_
              refine ds_t (listed' := #[true, true, true, true, true, true, true, true, true, false, true, false, false, false, false, false, false, false]) 10 (by kernel_rfl) rfl rfl rfl rfl rfl (op_move rfl) ?_
              refine ds_t (listed' := #[true, true, true, true, true, true, true, true, true, false, true, true, false, false, false, false, false, false]) 11 (by kernel_rfl) rfl rfl rfl rfl rfl (op_move rfl) ?_
              refine ds_t (listed' := #[true, true, true, true, true, true, true, true, true, false, true, true, true, false, false, false, false, false]) 12 (by kernel_rfl) rfl rfl rfl rfl rfl (op_indexS (k := u * 17) hS4 rfl rfl el_24 sz_46 (by omega) (by omega) (by first | rfl | omega)) ?_
              obtain ⟨x5, hx6⟩ : ∃ x, (Rot xs lo (lo + 1) (u + 1))[u + 1]? = some x := ⟨_, List.getElem?_eq_getElem (by omega)⟩
              refine ds_r (listed' := #[true, true, true, true, true, true, true, true, true, true, true, true, true, false, false, false, false, false]) 9 (by kernel_rfl) rfl rfl rfl rfl rfl 0 rfl (op_loadON (vs := encT x5) rfl ag_46 sz_46 (by omega) (flat_part encT_len hx6) (encT_len _)) ?_
              obtain ⟨x7, hx8⟩ : ∃ x, (Rot xs lo (lo + 1) (u + 1))[u]? = some x := ⟨_, List.getElem?_eq_getElem (by omega)⟩
              refine ds_r (listed' := #[true, true, true, true, true, true, true, true, true, true, true, true, true, true, false, false, false, false]) 13 (by kernel_rfl) rfl rfl rfl rfl rfl 0 rfl (op_loadON (vs := encT x7) rfl ag_46 sz_46 (by omega) (flat_part encT_len hx8) (encT_len _)) ?_
              refine ds_t (listed' := #[true, true, true, true, true, true, true, true, true, true, true, true, true, true, true, false, false, false]) 14 (by kernel_rfl) rfl rfl rfl rfl rfl (op_indexS (k := u * 17) hS4 rfl rfl el_24 sz_46 (by omega) (by omega) (by first | rfl | omega)) ?_
              refine ds_s (s' := 1) (listed' := #[true, true, true, true, true, true, true, true, true, true, true, true, true, true, true, true, false, false]) 15 (by kernel_rfl) rfl rfl rfl rfl (op_storeO (vs := encT x5) 0 rfl rfl rfl sz_46 rfl (encT_len _) (encT_one _) (by omega) (by omega) (flat_set encT_len x5 (by first | omega | (simp only [List.length_set]; omega)))) [] rfl ?_
              refine ds_norm (Qs := [_, _]) rfl ?_
              refine ds_t (listed' := #[true, true, true, true, true, true, true, true, true, true, true, true, true, true, true, true, true, false]) 16 (by kernel_rfl) rfl rfl rfl rfl rfl (op_indexS (k := (u + 1) * 17) hS4 rfl rfl el_24 sz_46 (by omega) (by omega) (by first | rfl | omega)) ?_
              refine ds_s (s' := 2) (listed' := #[true, true, true, true, true, true, true, true, true, true, true, true, true, true, true, true, true, true]) 17 (by kernel_rfl) rfl rfl rfl rfl (op_storeO (vs := encT x7) 0 rfl rfl rfl sz_46 rfl (encT_len _) (encT_one _) (by omega) (by omega) (flat_set encT_len x7 (by first | omega | (simp only [List.length_set]; omega)))) [] rfl ?_
              refine ds_norm (Qs := [_, _]) rfl ?_
              refine ds_done rfl ?_
              refine dn_inB ?_
              refine dn_then ?_
              refine dn_reg ?_
              refine dl_t rfl rfl rfl (op_move rfl) ?_
              refine dl_t rfl rfl rfl (op_add (z := ((u + 1 : Nat) : Int)) rfl rfl (wa_i64 (by omega) (by omega) (by omega))) ?_
              refine dl_t rfl rfl rfl (op_assign rfl) ?_
              refine dn_done ?_
              refine dn_then ?_
              refine dn_norm (Qs := [OwnS 46 17 a n cap (flat encT (Rot xs lo (lo + 1) (u + 1 + 1))), R]) (by rw [rot_up (by omega) (by omega) hx8 hx6]) ?_
              exact dn_meet (u + 1) (⟨by show i - (u + 1) < i - u; omega, by show lo ≤ u + 1; omega, by show u + 1 + 1 ≤ i; omega⟩) (Less.cons rfl (Less.cons rfl (Less.cons rfl (Less.cons rfl (Less.cons rfl (Less.cons rfl (Less.cons rfl (Less.nil _)))))))) [0, 0] rfl
            ·
              refine dn_exit ?_
              refine dn_thenX ?_
              refine dn_thenX ?_
              refine dn_inBX ?_
              refine dn_then ?_
              refine dn_ret ?_
              refine dn_thenR ?_
              exact dn_end (Rot xs lo (lo + 1) (u + 1)) (by exact rfl) (by exact rfl) (by exact rfl) (by show Done xs lo hi (Rot xs lo (lo + 1) (u + 1)); rw [show u + 1 = i from by omega]; exact up_end (by omega) hp (by omega) hx0 hI (by omega)) [0, 0] (by exact rfl) (by exact .inl rfl)
    ·
      refine dn_skip ?_
      refine dn_then ?_
      refine dn_seq ?_
      refine dn_seq ?_
      refine dn_reg ?_
      refine dl_t rfl rfl rfl (op_move rfl) ?_
      refine dl_t rfl rfl rfl (op_move rfl) ?_
      refine dl_t rfl rfl rfl (op_sub (z := ((hi - mid : Nat) : Int)) rfl rfl (wa_i64 (by omega) (by omega) (by omega))) ?_
      refine dl_t rfl rfl rfl (op_eql rfl rfl) ?_
      refine dn_done ?_
      refine dn_then ?_
      refine dn_cond (p := ((hi - mid : Nat) : Int) = 1) rfl (fun hc12 => ?_) (fun hc12 => ?_)
      ·
        refine dn_seq ?_
        obtain ⟨x0, hx0⟩ : ∃ x, xs[mid]? = some x := ⟨_, List.getElem?_eq_getElem (by omega)⟩
        refine dn_reg ?_
        refine dl_t rfl rfl rfl (op_move rfl) ?_
        refine dl_t rfl rfl rfl (op_assign rfl) ?_
        refine dn_done ?_
        refine dn_then ?_
        refine dn_seq ?_
        refine dn_reg ?_
        refine dl_t rfl rfl rfl (op_move rfl) ?_
        refine dl_t rfl rfl rfl (op_assign rfl) ?_
        refine dn_done ?_
        refine dn_then ?_
        refine dn_seq ?_
        refine dn_block ?_
        refine dn_loop (α := Nat × Nat) (fun ((i, j) : Nat × Nat) => Bs (Q2 xs x0) lo mid i j) (fun ((i, j) : Nat × Nat) => j - i) (fun ((i, j) : Nat × Nat) => [(0, .slice a n cap), (1, .int .i64 ((lo : Nat) : Int)), (2, .int .i64 ((mid : Nat) : Int)), (3, .int .i64 ((hi : Nat) : Int)), (4, .func (.func 18) #[] #[]), (14, .int .i64 ((i : Nat) : Int)), (15, .int .i64 ((j : Nat) : Int))]) (fun ((i, j) : Nat × Nat) => [OwnS 46 17 a n cap (flat encT xs), R]) ?_ ?_
        ·
          exact dn_meet (lo, mid) (Bs.start (by omega)) (Less.cons rfl (Less.cons rfl (Less.cons rfl (Less.cons rfl (Less.cons rfl (Less.cons rfl (Less.cons rfl (Less.nil _)))))))) [0, 0] rfl
        ·
          rintro ⟨i, j⟩ hI
          show Dn E 220 [] _ [(0, .slice a n cap), (1, .int .i64 ((lo : Nat) : Int)), (2, .int .i64 ((mid : Nat) : Int)), (3, .int .i64 ((hi : Nat) : Int)), (4, .func (.func 18) #[] #[]), (14, .int .i64 ((i : Nat) : Int)), (15, .int .i64 ((j : Nat) : Int))] [OwnS 46 17 a n cap (flat encT xs), R]
          change Bs (Q2 xs x0) lo mid i j at hI
          obtain ⟨hI1, hI2, hI3, _, _⟩ := id hI
          refine dn_seq ?_
          refine dn_seq ?_
          refine dn_reg ?_
          refine dl_t rfl rfl rfl (op_move rfl) ?_
          refine dl_t rfl rfl rfl (op_move rfl) ?_
          refine dl_t rfl rfl rfl (op_lss rfl rfl) ?_
          refine dn_done ?_
          refine dn_then ?_
          refine dn_cond (p := ((i : Nat) : Int) < ((j : Nat) : Int)) rfl (fun hc15 => ?_) (fun hc15 => ?_)
          ·
            refine dn_skip ?_
            refine dn_then ?_
            refine dn_block ?_
            refine dn_seq ?_
            refine dn_reg ?_
            refine dl_t rfl rfl rfl (op_move rfl) ?_
            refine dl_t rfl rfl rfl (op_move rfl) ?_
            refine dl_t rfl rfl rfl (op_add (z := ((i + j : Nat) : Int)) rfl rfl (wa_i64 (by omega) (by omega) (by omega))) ?_
            refine dl_t rfl rfl rfl (op_conv (z := ((i + j : Nat) : Int)) rfl Tryz.underlying3 ik_146 (w_u64 (by omega) (by omega))) ?_
            refine dl_t rfl rfl rfl (op_shr (z := (((i + j) / 2 : Nat) : Int)) rfl rfl (by decide) (shr_one _)) ?_
            refine dl_t rfl rfl rfl (op_conv (z := (((i + j) / 2 : Nat) : Int)) rfl Tryz.underlying146 ik_3 (w_i64 (by omega) (by omega))) ?_
            refine dl_t rfl rfl rfl (op_assign rfl) ?_
            refine dn_done ?_
            refine dn_then ?_
            refine dn_seq ?_
            refine dn_any (N := 12) (l0 := #[false, false, false, false, false, false, false, false, false, false, false, false]) mixed (fun i => Nat.beq i 9) (fun s => match s with | 0 => [OwnS 46 17 a n cap (flat encT xs)] | _ => []) [0] rfl rfl rfl ?_
            refine ds_t (listed' := #[true, false, false, false, false, false, false, false, false, false, false, false]) 0 (by kernel_rfl) rfl rfl rfl rfl rfl (op_move rfl) ?_
            refine ds_t (listed' := #[true, true, false, false, false, false, false, false, false, false, false, false]) 1 (by kernel_rfl) rfl rfl rfl rfl rfl (op_move rfl) ?_
            refine ds_t (listed' := #[true, true, true, false, false, false, false, false, false, false, false, false]) 2 (by kernel_rfl) rfl rfl rfl rfl rfl (op_move rfl) ?_
            refine ds_of ?_
            refine dn_ownSome 0 rfl (by omega) (fun hS9 => ?_)
            refine of_ds ?_
            refine ds_t (listed' := #[true, true, true, true, false, false, false, false, false, false, false, false]) 3 (by kernel_rfl) rfl rfl rfl rfl rfl (op_indexS (k := mid * 17) hS9 rfl rfl el_24 sz_46 (by omega) (by omega) (by first | rfl | omega)) ?_
            refine ds_t (listed' := #[true, true, true, true, false, true, false, false, false, false, false, false]) 5 (by kernel_rfl) rfl rfl rfl rfl rfl (op_move rfl) ?_
            refine ds_t (listed' := #[true, true, true, true, false, true, true, false, false, false, false, false]) 6 (by kernel_rfl) rfl rfl rfl rfl rfl (op_move rfl) ?_
            refine ds_t (listed' := #[true, true, true, true, false, true, true, true, false, false, false, false]) 7 (by kernel_rfl) rfl rfl rfl rfl rfl (op_indexS (k := ((i + j) / 2) * 17) hS9 rfl rfl el_24 sz_46 (by omega) (by omega) (by first | rfl | omega)) ?_
            refine ds_r (listed' := #[true, true, true, true, true, true, true, true, false, false, false, false]) 4 (by kernel_rfl) rfl rfl rfl rfl rfl 0 rfl (op_loadON (vs := encT x0) rfl ag_46 sz_46 (by omega) (flat_part encT_len hx0) (encT_len _)) ?_
            obtain ⟨x10, hx11⟩ : ∃ x, xs[(i + j) / 2]? = some x := ⟨_, List.getElem?_eq_getElem (by omega)⟩
            refine ds_r (listed' := #[true, true, true, true, true, true, true, true, true, false, false, false]) 8 (by kernel_rfl) rfl rfl rfl rfl rfl 0 rfl (op_loadON (vs := encT x10) rfl ag_46 sz_46 (by omega) (flat_part encT_len hx11) (encT_len _)) ?_
            refine ds_x (s' := 1) (listed' := #[true, true, true, true, true, true, true, true, true, true, false, false]) 9 (by kernel_rfl) rfl rfl rfl rfl (op_callv (first := []) (capt := []) (us := [.agg (encT x0).toArray, .agg (encT x10).toArray]) cl_18 rfl rfl rfl (cmpRec_tri x0.2 x10.2) [] rfl rfl) [] (fun _ => ⟨_, rfl⟩) ?_
            rintro ⟨⟩ -
            refine ds_norm (Qs := [_, _]) rfl ?_
            refine ds_t (listed' := #[true, true, true, true, true, true, true, true, true, true, true, false]) 10 (by kernel_rfl) rfl rfl rfl rfl rfl (op_lss rfl rfl) ?_
            refine ds_t (listed' := #[true, true, true, true, true, true, true, true, true, true, true, true]) 11 (by kernel_rfl) rfl rfl rfl rfl rfl (op_not rfl) ?_
            refine ds_done rfl ?_
            refine dn_then ?_
            refine dn_cond (p := ¬ ((cmpI x0.2.pt x10.2.pt) < 0)) rfl (fun hc17 => ?_) (fun hc17 => ?_)
            ·
              refine dn_reg ?_
              refine dl_t rfl rfl rfl (op_move rfl) ?_
              refine dl_t rfl rfl rfl (op_add (z := ((((i + j) / 2) + 1 : Nat) : Int)) rfl rfl (wa_i64 (by omega) (by omega) (by omega))) ?_
              refine dl_t rfl rfl rfl (op_assign rfl) ?_
              refine dn_done ?_
              refine dn_inB ?_
              refine dn_then ?_
              exact dn_meet ((i + j) / 2 + 1, j) (⟨by show j - ((i + j) / 2 + 1) < j - i; omega, hI.up (by omega) (by omega) ⟨x10, hx11, fun q => hc17 (cmpI_neg.2 q)⟩⟩) (Less.cons rfl (Less.cons rfl (Less.cons rfl (Less.cons rfl (Less.cons rfl (Less.cons rfl (Less.cons rfl (Less.nil _)))))))) [0, 0] rfl
            ·
              refine dn_reg ?_
              refine dl_t rfl rfl rfl (op_move rfl) ?_
              refine dl_t rfl rfl rfl (op_assign rfl) ?_
              refine dn_done ?_
              refine dn_inB ?_
              refine dn_then ?_
              exact dn_meet (i, (i + j) / 2) (⟨by show (i + j) / 2 - i < j - i; omega, hI.down (by omega) (by omega) (fun ⟨z, hz, q⟩ => by rw [hx11] at hz; cases hz; exact hc17 (fun c => q (cmpI_neg.1 c)))⟩) (Less.cons rfl (Less.cons rfl (Less.cons rfl (Less.cons rfl (Less.cons rfl (Less.cons rfl (Less.cons rfl (Less.nil _)))))))) [0, 0] rfl
          ·
            refine dn_exit ?_
            refine dn_thenX ?_
            refine dn_thenX ?_
            refine dn_inBX ?_
            refine dn_then ?_
            refine dn_seq ?_
            refine dn_seq ?_
            refine dn_reg ?_
            refine dl_t rfl rfl rfl (op_move rfl) ?_
            refine dl_t rfl rfl rfl (op_assign rfl) ?_
            refine dn_done ?_
            refine dn_then ?_
            refine dn_block ?_
            refine dn_loop (α := Nat) (fun (u : Nat) => i ≤ u ∧ u ≤ mid) (fun (u : Nat) => u - i) (fun (u : Nat) => [(0, .slice a n cap), (1, .int .i64 ((lo : Nat) : Int)), (2, .int .i64 ((mid : Nat) : Int)), (3, .int .i64 ((hi : Nat) : Int)), (4, .func (.func 18) #[] #[]), (14, .int .i64 ((i : Nat) : Int)), (17, .int .i64 ((u : Nat) : Int))]) (fun (u : Nat) => [OwnS 46 17 a n cap (flat encT (Rot xs u mid (mid + 1))), R]) ?_ ?_
            ·
              refine dn_norm (Qs := [OwnS 46 17 a n cap (flat encT (Rot xs mid mid (mid + 1))), R]) (by rw [rot_none (.inl rfl) (by omega) (by omega)]) ?_
              exact dn_meet mid (⟨by omega, Nat.le_refl _⟩) (Less.cons rfl (Less.cons rfl (Less.cons rfl (Less.cons rfl (Less.cons rfl (Less.cons rfl (Less.cons rfl (Less.nil _)))))))) [0, 0] rfl
            ·
              rintro u hU
              show Dn E 220 [] _ [(0, .slice a n cap), (1, .int .i64 ((lo : Nat) : Int)), (2, .int .i64 ((mid : Nat) : Int)), (3, .int .i64 ((hi : Nat) : Int)), (4, .func (.func 18) #[] #[]), (14, .int .i64 ((i : Nat) : Int)), (17, .int .i64 ((u : Nat) : Int))] [OwnS 46 17 a n cap (flat encT (Rot xs u mid (mid + 1))), R]
              change i ≤ u ∧ u ≤ mid at hU
              obtain ⟨hU1, hU2⟩ := hU
              have hl : (Rot xs u mid (mid + 1)).length = xs.length := rot_len (by omega) (by omega) (by omega)
              refine dn_seq ?_
              refine dn_seq ?_
              refine dn_reg ?_
              refine dl_t rfl rfl rfl (op_move rfl) ?_
              refine dl_t rfl rfl rfl (op_move rfl) ?_
              refine dl_t rfl rfl rfl (op_gtr rfl rfl) ?_
              refine dn_done ?_
              refine dn_then ?_
              refine dn_cond (p := ((i : Nat) : Int) < ((u : Nat) : Int)) rfl (fun hc21 => ?_) (fun hc21 => ?_)
              ·
                refine dn_skip ?_
                refine dn_then ?_
                refine dn_seq ?_
                refine dn_block ?_
                refine dn_any (N := 18) (l0 := #[false, false, false, false, false, false, false, false, false, false, false, false, false, false, false, false, false, false]) mixed (fun i => Nat.beq i 15 || Nat.beq i 17) (fun s => match s with | 0 => [OwnS 46 17 a n cap (flat encT (Rot xs u mid (mid + 1)))] | _ => []) [0] rfl rfl rfl ?_
                refine ds_t (listed' := #[true, false, false, false, false, false, false, false, false, false, false, false, false, false, false, false, false, false]) 0 (by kernel_rfl) rfl rfl rfl rfl rfl (op_move rfl) ?_
                refine ds_t (listed' := #[true, true, false, false, false, false, false, false, false, false, false, false, false, false, false, false, false, false]) 1 (by kernel_rfl) rfl rfl rfl rfl rfl (op_move rfl) ?_
                refine ds_t (listed' := #[true, true, true, false, false, false, false, false, false, false, false, false, false, false, false, false, false, false]) 2 (by kernel_rfl) rfl rfl rfl rfl rfl (op_move rfl) ?_
                refine ds_t (listed' := #[true, true, true, true, false, false, false, false, false, false, false, false, false, false, false, false, false, false]) 3 (by kernel_rfl) rfl rfl rfl rfl rfl (op_move rfl) ?_
                refine ds_t (listed' := #[true, true, true, true, true, false, false, false, false, false, false, false, false, false, false, false, false, false]) 4 (by kernel_rfl) rfl rfl rfl rfl rfl (op_sub (z := ((u - 1 : Nat) : Int)) rfl rfl (wa_i64 (by omega) (by omega) (by omega))) ?_
                refine ds_t (listed' := #[true, true, true, true, true, true, false, false, false, false, false, false, false, false, false, false, false, false]) 5 (by kernel_rfl) rfl rfl rfl rfl rfl (op_move rfl) ?_
                refine ds_t (listed' := #[true, true, true, true, true, true, true, false, false, false, false, false, false, false, false, false, false, false]) 6 (by kernel_rfl) rfl rfl rfl rfl rfl (op_move rfl) ?_
                refine ds_t (listed' := #[true, true, true, true, true, true, true, true, false, false, false, false, false, false, false, false, false, false]) 7 (by kernel_rfl) rfl rfl rfl rfl rfl (op_sub (z := ((u - 1 : Nat) : Int)) rfl rfl (wa_i64 (by omega) (by omega) (by omega))) ?_
                refine ds_of ?_
                refine dn_ownSome 0 rfl (by omega) (fun hS12 => ?_)
                refine of_ds ?_
                refine ds_t (listed' := #[true, true, true, true, true, true, true, true, true, false, false, false, false, false, false, false, false, false]) 8 (by kernel_rfl) rfl rfl rfl rfl rfl (op_indexS (k := (u - 1) * 17) hS12 rfl rfl el_24 sz_46 (by omega) (by omega) (by first | rfl | omega)) ?_
                refine ds_t (listed' := #[true, true, true, true, true, true, true, true, true, false, true, false, false, false, false, false, false, false]) 10 (by kernel_rfl) rfl rfl rfl rfl rfl (op_move rfl) ?_
                refine ds_t (listed' := #[true, true, true, true, true, true, true, true, true, false, true, true, false, false, false, false, false, false]) 11 (by kernel_rfl) rfl rfl rfl rfl rfl (op_move rfl) ?_
                refine ds_t (listed' := #[true, true, true, true, true, true, true, true, true, false, true, true, true, false, false, false, false, false]) 12 (by kernel_rfl) rfl rfl rfl rfl rfl (op_indexS (k := u * 17) hS12 rfl rfl el_24 sz_46 (by omega) (by omega) (by first | rfl | omega)) ?_
                obtain ⟨x13, hx14⟩ : ∃ x, (Rot xs u mid (mid + 1))[u - 1]? = some x := ⟨_, List.getElem?_eq_getElem (by omega)⟩
                refine ds_r (listed' := #[true, true, true, true, true, true, true, true, true, true, true, true, true, false, false, false, false, false]) 9 (by kernel_rfl) rfl rfl rfl rfl rfl 0 rfl (op_loadON (vs := encT x13) rfl ag_46 sz_46 (by omega) (flat_part encT_len hx14) (encT_len _)) ?_
                obtain ⟨x15, hx16⟩ : ∃ x, (Rot xs u mid (mid + 1))[u]? = some x := ⟨_, List.getElem?_eq_getElem (by omega)⟩
                refine ds_r (listed' := #[true, true, true, true, true, true, true, true, true, true, true, true, true, true, false, false, false, false]) 13 (by kernel_rfl) rfl rfl rfl rfl rfl 0 rfl (op_loadON (vs := encT x15) rfl ag_46 sz_46 (by omega) (flat_part encT_len hx16) (encT_len _)) ?_
                refine ds_t (listed' := #[true, true, true, true, true, true, true, true, true, true, true, true, true, true, true, false, false, false]) 14 (by kernel_rfl) rfl rfl rfl rfl rfl (op_indexS (k := u * 17) hS12 rfl rfl el_24 sz_46 (by omega) (by omega) (by first | rfl | omega)) ?_
                refine ds_s (s' := 1) (listed' := #[true, true, true, true, true, true, true, true, true, true, true, true, true, true, true, true, false, false]) 15 (by kernel_rfl) rfl rfl rfl rfl (op_storeO (vs := encT x13) 0 rfl rfl rfl sz_46 rfl (encT_len _) (encT_one _) (by omega) (by omega) (flat_set encT_len x13 (by first | omega | (simp only [List.length_set]; omega)))) [] rfl ?_
                refine ds_norm (Qs := [_, _]) rfl ?_
                refine ds_t (listed' := #[true, true, true, true, true, true, true, true, true, true, true, true, true, true, true, true, true, false]) 16 (by kernel_rfl) rfl rfl rfl rfl rfl (op_indexS (k := (u - 1) * 17) hS12 rfl rfl el_24 sz_46 (by omega) (by omega) (by first | rfl | omega)) ?_
                refine ds_s (s' := 2) (listed' := #[true, true, true, true, true, true, true, true, true, true, true, true, true, true, true, true, true, true]) 17 (by kernel_rfl) rfl rfl rfl rfl (op_storeO (vs := encT x15) 0 rfl rfl rfl sz_46 rfl (encT_len _) (encT_one _) (by omega) (by omega) (flat_set encT_len x15 (by first | omega | (simp only [List.length_set]; omega)))) [] rfl ?_
                refine ds_norm (Qs := [_, _]) rfl ?_
                refine ds_done rfl ?_
                refine dn_inB ?_
                refine dn_then ?_
                refine dn_reg ?_
                refine dl_t rfl rfl rfl (op_move rfl) ?_
                refine dl_t rfl rfl rfl (op_sub (z := ((u - 1 : Nat) : Int)) rfl rfl (wa_i64 (by omega) (by omega) (by omega))) ?_
                refine dl_t rfl rfl rfl (op_assign rfl) ?_
                refine dn_done ?_
                refine dn_then ?_
                refine dn_norm (Qs := [OwnS 46 17 a n cap (flat encT (Rot xs (u - 1) mid (mid + 1))), R]) (by rw [rot_down (by omega) (by omega) (by omega) hx16 hx14]) ?_
                exact dn_meet (u - 1) (⟨by show u - 1 - i < u - i; omega, by show i ≤ u - 1; omega, by show u - 1 ≤ mid; omega⟩) (Less.cons rfl (Less.cons rfl (Less.cons rfl (Less.cons rfl (Less.cons rfl (Less.cons rfl (Less.cons rfl (Less.nil _)))))))) [0, 0] rfl
              ·
                refine dn_exit ?_
                refine dn_thenX ?_
                refine dn_thenX ?_
                refine dn_inBX ?_
                refine dn_then ?_
                refine dn_ret ?_
                refine dn_thenR ?_
                exact dn_end (Rot xs u mid (mid + 1)) (by exact rfl) (by exact rfl) (by exact rfl) (by show Done xs lo hi (Rot xs u mid (mid + 1)); rw [show u = i from by omega]; exact down_end (by omega) hp (by omega) hx0 hI (by omega)) [0, 0] (by exact rfl) (by exact .inl rfl)
      ·
        refine dn_skip ?_
        refine dn_then ?_
        refine dn_seq ?_
        refine dn_reg ?_
        refine dl_t rfl rfl rfl (op_move rfl) ?_
        refine dl_t rfl rfl rfl (op_move rfl) ?_
        refine dl_t rfl rfl rfl (op_add (z := ((lo + hi : Nat) : Int)) rfl rfl (wa_i64 (by omega) (by omega) (by omega))) ?_
        refine dl_t rfl rfl rfl (op_conv (z := ((lo + hi : Nat) : Int)) rfl Tryz.underlying3 ik_146 (w_u64 (by omega) (by omega))) ?_
        refine dl_t rfl rfl rfl (op_shr (z := (((lo + hi) / 2 : Nat) : Int)) rfl rfl (by decide) (shr_one _)) ?_
        refine dl_t rfl rfl rfl (op_conv (z := (((lo + hi) / 2 : Nat) : Int)) rfl Tryz.underlying146 ik_3 (w_i64 (by omega) (by omega))) ?_
        refine dl_t rfl rfl rfl (op_assign rfl) ?_
        refine dn_done ?_
        refine dn_then ?_
        refine dn_seq ?_
        refine dn_reg ?_
        refine dl_t rfl rfl rfl (op_move rfl) ?_
        refine dl_t rfl rfl rfl (op_move rfl) ?_
        refine dl_t rfl rfl rfl (op_add (z := ((((lo + hi) / 2) + mid : Nat) : Int)) rfl rfl (wa_i64 (by omega) (by omega) (by omega))) ?_
        refine dl_t rfl rfl rfl (op_assign rfl) ?_
        refine dn_done ?_
        refine dn_then ?_
        refine dn_seq ?_
        refine dn_reg ?_
        refine dl_t rfl rfl rfl (op_assign rfl) ?_
        refine dl_t rfl rfl rfl (op_assign rfl) ?_
        refine dn_done ?_
        refine dn_then ?_
        refine dn_cut (α := Nat × Nat × Nat) (fun ((c0, s0, r0) : Nat × Nat × Nat) => c0 = (lo + hi) / 2 ∧ (c0 < mid ∧ s0 = c0 + mid - hi ∧ r0 = c0 ∨ mid ≤ c0 ∧ s0 = lo ∧ r0 = mid)) (fun ((c0, s0, r0) : Nat × Nat × Nat) => [(0, .slice a n cap), (1, .int .i64 ((lo : Nat) : Int)), (2, .int .i64 ((mid : Nat) : Int)), (3, .int .i64 ((hi : Nat) : Int)), (4, .func (.func 18) #[] #[]), (18, .int .i64 ((c0 : Nat) : Int)), (19, .int .i64 ((c0 + mid : Nat) : Int)), (20, .int .i64 ((s0 : Nat) : Int)), (21, .int .i64 ((r0 : Nat) : Int))]) (fun ((c0, s0, r0) : Nat × Nat × Nat) => [OwnS 46 17 a n cap (flat encT xs), R]) ?_ ?_
        ·
          refine dn_seq ?_
          refine dn_reg ?_
          refine dl_t rfl rfl rfl (op_move rfl) ?_
          refine dl_t rfl rfl rfl (op_move rfl) ?_
          refine dl_t rfl rfl rfl (op_gtr rfl rfl) ?_
          refine dn_done ?_
          refine dn_then ?_
          refine dn_cond (p := (((lo + hi) / 2 : Nat) : Int) < ((mid : Nat) : Int)) rfl (fun hc27 => ?_) (fun hc27 => ?_)
          ·
            refine dn_seq ?_
            refine dn_reg ?_
            refine dl_t rfl rfl rfl (op_move rfl) ?_
            refine dl_t rfl rfl rfl (op_move rfl) ?_
            refine dl_t rfl rfl rfl (op_sub (z := (((((lo + hi) / 2) + mid) - hi : Nat) : Int)) rfl rfl (wa_i64 (by omega) (by omega) (by omega))) ?_
            refine dl_t rfl rfl rfl (op_assign rfl) ?_
            refine dn_done ?_
            refine dn_then ?_
            refine dn_reg ?_
            refine dl_t rfl rfl rfl (op_move rfl) ?_
            refine dl_t rfl rfl rfl (op_assign rfl) ?_
            refine dn_done ?_
            refine dn_then ?_
            exact dn_meet ((lo + hi) / 2, (lo + hi) / 2 + mid - hi, (lo + hi) / 2) (⟨rfl, .inl ⟨by omega, rfl, rfl⟩⟩) (Less.cons rfl (Less.cons rfl (Less.cons rfl (Less.cons rfl (Less.cons rfl (Less.cons rfl (Less.cons rfl (Less.cons rfl (Less.cons rfl (Less.nil _)))))))))) [0, 0] rfl
          ·
            refine dn_seq ?_
            refine dn_reg ?_
            refine dl_t rfl rfl rfl (op_move rfl) ?_
            refine dl_t rfl rfl rfl (op_assign rfl) ?_
            refine dn_done ?_
            refine dn_then ?_
            refine dn_reg ?_
            refine dl_t rfl rfl rfl (op_move rfl) ?_
            refine dl_t rfl rfl rfl (op_assign rfl) ?_
            refine dn_done ?_
            refine dn_then ?_
            exact dn_meet ((lo + hi) / 2, lo, mid) (⟨rfl, .inr ⟨by omega, rfl, rfl⟩⟩) (Less.cons rfl (Less.cons rfl (Less.cons rfl (Less.cons rfl (Less.cons rfl (Less.cons rfl (Less.cons rfl (Less.cons rfl (Less.cons rfl (Less.nil _)))))))))) [0, 0] rfl
        ·
          rintro ⟨c0, s0, r0⟩ hK
          show Dn E 220 [] _ [(0, .slice a n cap), (1, .int .i64 ((lo : Nat) : Int)), (2, .int .i64 ((mid : Nat) : Int)), (3, .int .i64 ((hi : Nat) : Int)), (4, .func (.func 18) #[] #[]), (18, .int .i64 ((c0 : Nat) : Int)), (19, .int .i64 ((c0 + mid : Nat) : Int)), (20, .int .i64 ((s0 : Nat) : Int)), (21, .int .i64 ((r0 : Nat) : Int))] [OwnS 46 17 a n cap (flat encT xs), R]
          obtain ⟨hcc, hss⟩ : c0 = (lo + hi) / 2 ∧ (c0 < mid ∧ s0 = c0 + mid - hi ∧ r0 = c0 ∨ mid ≤ c0 ∧ s0 = lo ∧ r0 = mid) := hK
          refine dn_seq ?_
          refine dn_reg ?_
          refine dl_t rfl rfl rfl (op_move rfl) ?_
          refine dl_t rfl rfl rfl (op_sub (z := (((c0 + mid) - 1 : Nat) : Int)) rfl rfl (wa_i64 (by omega) (by omega) (by omega))) ?_
          refine dl_t rfl rfl rfl (op_assign rfl) ?_
          refine dn_done ?_
          refine dn_then ?_
          refine dn_seq ?_
          refine dn_block ?_
          refine dn_loop (α := Nat × Nat) (fun ((s, r) : Nat × Nat) => Bs (Q3 xs (c0 + mid - 1)) s0 r0 s r) (fun ((s, r) : Nat × Nat) => r - s) (fun ((s, r) : Nat × Nat) => [(0, .slice a n cap), (1, .int .i64 ((lo : Nat) : Int)), (2, .int .i64 ((mid : Nat) : Int)), (3, .int .i64 ((hi : Nat) : Int)), (4, .func (.func 18) #[] #[]), (18, .int .i64 ((c0 : Nat) : Int)), (19, .int .i64 ((c0 + mid : Nat) : Int)), (20, .int .i64 ((s : Nat) : Int)), (21, .int .i64 ((r : Nat) : Int)), (22, .int .i64 ((c0 + mid - 1 : Nat) : Int))]) (fun ((s, r) : Nat × Nat) => [OwnS 46 17 a n cap (flat encT xs), R]) ?_ ?_
          ·
            exact dn_meet (s0, r0) (Bs.start (by omega)) (Less.cons rfl (Less.cons rfl (Less.cons rfl (Less.cons rfl (Less.cons rfl (Less.cons rfl (Less.cons rfl (Less.cons rfl (Less.cons rfl (Less.cons rfl (Less.nil _))))))))))) [0, 0] rfl
          ·
            rintro ⟨s, r⟩ hI
            show Dn E 220 [] _ [(0, .slice a n cap), (1, .int .i64 ((lo : Nat) : Int)), (2, .int .i64 ((mid : Nat) : Int)), (3, .int .i64 ((hi : Nat) : Int)), (4, .func (.func 18) #[] #[]), (18, .int .i64 ((c0 : Nat) : Int)), (19, .int .i64 ((c0 + mid : Nat) : Int)), (20, .int .i64 ((s : Nat) : Int)), (21, .int .i64 ((r : Nat) : Int)), (22, .int .i64 ((c0 + mid - 1 : Nat) : Int))] [OwnS 46 17 a n cap (flat encT xs), R]
            change Bs (Q3 xs (c0 + mid - 1)) s0 r0 s r at hI
            obtain ⟨hI1, hI2, hI3, _, _⟩ := id hI
            refine dn_seq ?_
            refine dn_seq ?_
            refine dn_reg ?_
            refine dl_t rfl rfl rfl (op_move rfl) ?_
            refine dl_t rfl rfl rfl (op_move rfl) ?_
            refine dl_t rfl rfl rfl (op_lss rfl rfl) ?_
            refine dn_done ?_
            refine dn_then ?_
            refine dn_cond (p := ((s : Nat) : Int) < ((r : Nat) : Int)) rfl (fun hc33 => ?_) (fun hc33 => ?_)
            ·
              refine dn_skip ?_
              refine dn_then ?_
              refine dn_block ?_
              refine dn_seq ?_
              refine dn_reg ?_
              refine dl_t rfl rfl rfl (op_move rfl) ?_
              refine dl_t rfl rfl rfl (op_move rfl) ?_
              refine dl_t rfl rfl rfl (op_add (z := ((s + r : Nat) : Int)) rfl rfl (wa_i64 (by omega) (by omega) (by omega))) ?_
              refine dl_t rfl rfl rfl (op_conv (z := ((s + r : Nat) : Int)) rfl Tryz.underlying3 ik_146 (w_u64 (by omega) (by omega))) ?_
              refine dl_t rfl rfl rfl (op_shr (z := (((s + r) / 2 : Nat) : Int)) rfl rfl (by decide) (shr_one _)) ?_
              refine dl_t rfl rfl rfl (op_conv (z := (((s + r) / 2 : Nat) : Int)) rfl Tryz.underlying146 ik_3 (w_i64 (by omega) (by omega))) ?_
              refine dl_t rfl rfl rfl (op_assign rfl) ?_
              refine dn_done ?_
              refine dn_then ?_
              refine dn_seq ?_
              refine dn_any (N := 14) (l0 := #[false, false, false, false, false, false, false, false, false, false, false, false, false, false]) mixed (fun i => Nat.beq i 11) (fun s => match s with | 0 => [OwnS 46 17 a n cap (flat encT xs)] | _ => []) [0] rfl rfl rfl ?_
              refine ds_t (listed' := #[true, false, false, false, false, false, false, false, false, false, false, false, false, false]) 0 (by kernel_rfl) rfl rfl rfl rfl rfl (op_move rfl) ?_
              refine ds_t (listed' := #[true, true, false, false, false, false, false, false, false, false, false, false, false, false]) 1 (by kernel_rfl) rfl rfl rfl rfl rfl (op_move rfl) ?_
              refine ds_t (listed' := #[true, true, true, false, false, false, false, false, false, false, false, false, false, false]) 2 (by kernel_rfl) rfl rfl rfl rfl rfl (op_move rfl) ?_
              refine ds_t (listed' := #[true, true, true, true, false, false, false, false, false, false, false, false, false, false]) 3 (by kernel_rfl) rfl rfl rfl rfl rfl (op_move rfl) ?_
              refine ds_t (listed' := #[true, true, true, true, true, false, false, false, false, false, false, false, false, false]) 4 (by kernel_rfl) rfl rfl rfl rfl rfl (op_sub (z := (((c0 + mid - 1) - ((s + r) / 2) : Nat) : Int)) rfl rfl (wa_i64 (by omega) (by omega) (by omega))) ?_
              refine ds_of ?_
              refine dn_ownSome 0 rfl (by omega) (fun hS17 => ?_)
              refine of_ds ?_
              refine ds_t (listed' := #[true, true, true, true, true, true, false, false, false, false, false, false, false, false]) 5 (by kernel_rfl) rfl rfl rfl rfl rfl (op_indexS (k := ((c0 + mid - 1) - ((s + r) / 2)) * 17) hS17 rfl rfl el_24 sz_46 (by omega) (by omega) (by first | rfl | omega)) ?_
              refine ds_t (listed' := #[true, true, true, true, true, true, false, true, false, false, false, false, false, false]) 7 (by kernel_rfl) rfl rfl rfl rfl rfl (op_move rfl) ?_
              refine ds_t (listed' := #[true, true, true, true, true, true, false, true, true, false, false, false, false, false]) 8 (by kernel_rfl) rfl rfl rfl rfl rfl (op_move rfl) ?_
              refine ds_t (listed' := #[true, true, true, true, true, true, false, true, true, true, false, false, false, false]) 9 (by kernel_rfl) rfl rfl rfl rfl rfl (op_indexS (k := ((s + r) / 2) * 17) hS17 rfl rfl el_24 sz_46 (by omega) (by omega) (by first | rfl | omega)) ?_
              obtain ⟨x18, hx19⟩ : ∃ x, xs[(c0 + mid - 1) - ((s + r) / 2)]? = some x := ⟨_, List.getElem?_eq_getElem (by omega)⟩
              refine ds_r (listed' := #[true, true, true, true, true, true, true, true, true, true, false, false, false, false]) 6 (by kernel_rfl) rfl rfl rfl rfl rfl 0 rfl (op_loadON (vs := encT x18) rfl ag_46 sz_46 (by omega) (flat_part encT_len hx19) (encT_len _)) ?_
              obtain ⟨x20, hx21⟩ : ∃ x, xs[(s + r) / 2]? = some x := ⟨_, List.getElem?_eq_getElem (by omega)⟩
              refine ds_r (listed' := #[true, true, true, true, true, true, true, true, true, true, true, false, false, false]) 10 (by kernel_rfl) rfl rfl rfl rfl rfl 0 rfl (op_loadON (vs := encT x20) rfl ag_46 sz_46 (by omega) (flat_part encT_len hx21) (encT_len _)) ?_
              refine ds_x (s' := 1) (listed' := #[true, true, true, true, true, true, true, true, true, true, true, true, false, false]) 11 (by kernel_rfl) rfl rfl rfl rfl (op_callv (first := []) (capt := []) (us := [.agg (encT x18).toArray, .agg (encT x20).toArray]) cl_18 rfl rfl rfl (cmpRec_tri x18.2 x20.2) [] rfl rfl) [] (fun _ => ⟨_, rfl⟩) ?_
              rintro ⟨⟩ -
              refine ds_norm (Qs := [_, _]) rfl ?_
              refine ds_t (listed' := #[true, true, true, true, true, true, true, true, true, true, true, true, true, false]) 12 (by kernel_rfl) rfl rfl rfl rfl rfl (op_lss rfl rfl) ?_
              refine ds_t (listed' := #[true, true, true, true, true, true, true, true, true, true, true, true, true, true]) 13 (by kernel_rfl) rfl rfl rfl rfl rfl (op_not rfl) ?_
              refine ds_done rfl ?_
              refine dn_then ?_
              refine dn_cond (p := ¬ ((cmpI x18.2.pt x20.2.pt) < 0)) rfl (fun hc35 => ?_) (fun hc35 => ?_)
              ·
                refine dn_reg ?_
                refine dl_t rfl rfl rfl (op_move rfl) ?_
                refine dl_t rfl rfl rfl (op_add (z := ((((s + r) / 2) + 1 : Nat) : Int)) rfl rfl (wa_i64 (by omega) (by omega) (by omega))) ?_
                refine dl_t rfl rfl rfl (op_assign rfl) ?_
                refine dn_done ?_
                refine dn_inB ?_
                refine dn_then ?_
                exact dn_meet ((s + r) / 2 + 1, r) (⟨by show r - ((s + r) / 2 + 1) < r - s; omega, hI.up (by omega) (by omega) ⟨x20, x18, hx21, hx19, fun q => hc35 (cmpI_neg.2 q)⟩⟩) (Less.cons rfl (Less.cons rfl (Less.cons rfl (Less.cons rfl (Less.cons rfl (Less.cons rfl (Less.cons rfl (Less.cons rfl (Less.cons rfl (Less.cons rfl (Less.nil _))))))))))) [0, 0] rfl
              ·
                refine dn_reg ?_
                refine dl_t rfl rfl rfl (op_move rfl) ?_
                refine dl_t rfl rfl rfl (op_assign rfl) ?_
                refine dn_done ?_
                refine dn_inB ?_
                refine dn_then ?_
                exact dn_meet (s, (s + r) / 2) (⟨by show (s + r) / 2 - s < r - s; omega, hI.down (by omega) (by omega) (fun ⟨x, y, e1, e2, q⟩ => by rw [hx21] at e1; rw [hx19] at e2; cases e1; cases e2; exact hc35 (fun c => q (cmpI_neg.1 c)))⟩) (Less.cons rfl (Less.cons rfl (Less.cons rfl (Less.cons rfl (Less.cons rfl (Less.cons rfl (Less.cons rfl (Less.cons rfl (Less.cons rfl (Less.cons rfl (Less.nil _))))))))))) [0, 0] rfl
            ·
              refine dn_exit ?_
              refine dn_thenX ?_
              refine dn_thenX ?_
              refine dn_inBX ?_
              refine dn_then ?_
              refine dn_seq ?_
              have hcut : Cut xs lo mid hi s (c0 + mid - s) := cut_end hp (by omega) h1 h2 hcc hss hI (by omega)
              have hq1 := hcut.h1
              have hq2 := hcut.h2
              have hq3 := hcut.h3
              have hq4 := hcut.h4
              have hlr : (Rot xs s mid (c0 + mid - s)).length = xs.length := rot_len hq2 hq3 (by omega)
              refine dn_reg ?_
              refine dl_t rfl rfl rfl (op_move rfl) ?_
              refine dl_t rfl rfl rfl (op_move rfl) ?_
              refine dl_t rfl rfl rfl (op_sub (z := (((c0 + mid) - s : Nat) : Int)) rfl rfl (wa_i64 (by omega) (by omega) (by omega))) ?_
              refine dl_t rfl rfl rfl (op_assign rfl) ?_
              refine dn_done ?_
              refine dn_then ?_
              refine dn_cut (α := Unit) (fun (_ : Unit) => True) (fun (_ : Unit) => [(0, .slice a n cap), (1, .int .i64 ((lo : Nat) : Int)), (2, .int .i64 ((mid : Nat) : Int)), (3, .int .i64 ((hi : Nat) : Int)), (4, .func (.func 18) #[] #[]), (18, .int .i64 ((c0 : Nat) : Int)), (20, .int .i64 ((s : Nat) : Int)), (24, .int .i64 ((c0 + mid - s : Nat) : Int))]) (fun (_ : Unit) => [OwnS 46 17 a n cap (flat encT (Rot xs s mid (c0 + mid - s))), R]) ?_ ?_
              ·
                refine dn_seq ?_
                refine dn_reg ?_
                refine dl_t rfl rfl rfl (op_move rfl) ?_
                refine dl_t rfl rfl rfl (op_move rfl) ?_
                refine dl_t rfl rfl rfl (op_lss rfl rfl) ?_
                refine dl_t rfl rfl rfl (op_move rfl) ?_
                refine dn_test (p := ((s : Nat) : Int) < ((mid : Nat) : Int)) 181 rfl (fun hg39_3 => ?_) (fun hg39_3 => ?_)
                ·
                  refine dl_wt rfl rfl rfl rfl rfl rfl (op_move rfl) ?_
                  refine dl_wt rfl rfl rfl rfl rfl rfl (op_move rfl) ?_
                  refine dl_wt rfl rfl rfl rfl rfl rfl (op_lss rfl rfl) ?_
                  refine dl_t rfl rfl rfl (op_pick (b := true) rfl rfl) ?_
                  refine dn_done ?_
                  refine dn_then ?_
                  refine dn_cond (p := ((mid : Nat) : Int) < (((c0 + mid) - s : Nat) : Int)) rfl (fun hc39 => ?_) (fun hc39 => ?_)
                  ·
                    refine dn_reg ?_
                    refine dl_t rfl rfl rfl (op_move rfl) ?_
                    refine dl_t rfl rfl rfl (op_move rfl) ?_
                    refine dl_t rfl rfl rfl (op_move rfl) ?_
                    refine dl_t rfl rfl rfl (op_move rfl) ?_
                    refine dl_t rfl rfl rfl (op_move rfl) ?_
                    refine dl_e rfl (op_call (vs := [.slice a n cap, .int .i64 ((s : Nat) : Int), .int .i64 ((mid : Nat) : Int), .int .i64 (((c0 + mid) - s : Nat) : Int), .func (.func 18) #[] #[]]) cl_50 (rot_tri a n cap xs s mid ((c0 + mid) - s) (by omega) (by omega) (by omega) (by omega) (by omega)) rfl [0] rfl rfl) ?_
                    rintro ⟨⟩ -
                    refine dn_norm (Qs := [_, _]) rfl ?_
                    refine dn_done ?_
                    refine dn_then ?_
                    exact dn_meet () trivial (Less.cons rfl (Less.cons rfl (Less.cons rfl (Less.cons rfl (Less.cons rfl (Less.cons rfl (Less.cons rfl (Less.cons rfl (Less.nil _))))))))) [0, 0] rfl
                  ·
                    refine dn_skip ?_
                    refine dn_then ?_
                    refine dn_norm (Qs := [OwnS 46 17 a n cap (flat encT (Rot xs s mid (c0 + mid - s))), R]) (by rw [rot_none (by omega) (by omega) (by omega)]) ?_
                    exact dn_meet () trivial (Less.cons rfl (Less.cons rfl (Less.cons rfl (Less.cons rfl (Less.cons rfl (Less.cons rfl (Less.cons rfl (Less.cons rfl (Less.nil _))))))))) [0, 0] rfl
                ·
                  refine dl_no rfl rfl rfl rfl (by decide) rfl rfl ?_
                  refine dl_no rfl rfl rfl rfl (by decide) rfl rfl ?_
                  refine dl_no rfl rfl rfl rfl (by decide) rfl rfl ?_
                  refine dl_t rfl rfl rfl (op_pick (b := false) rfl rfl) ?_
                  refine dn_done ?_
                  refine dn_then ?_
                  refine dn_cond_false rfl ?_
                  refine dn_skip ?_
                  refine dn_then ?_
                  refine dn_norm (Qs := [OwnS 46 17 a n cap (flat encT (Rot xs s mid (c0 + mid - s))), R]) (by rw [rot_none (by omega) (by omega) (by omega)]) ?_
                  exact dn_meet () trivial (Less.cons rfl (Less.cons rfl (Less.cons rfl (Less.cons rfl (Less.cons rfl (Less.cons rfl (Less.cons rfl (Less.cons rfl (Less.nil _))))))))) [0, 0] rfl
              ·
                rintro ⟨⟩ -
                show Dn E 220 [] _ [(0, .slice a n cap), (1, .int .i64 ((lo : Nat) : Int)), (2, .int .i64 ((mid : Nat) : Int)), (3, .int .i64 ((hi : Nat) : Int)), (4, .func (.func 18) #[] #[]), (18, .int .i64 ((c0 : Nat) : Int)), (20, .int .i64 ((s : Nat) : Int)), (24, .int .i64 ((c0 + mid - s : Nat) : Int))] [OwnS 46 17 a n cap (flat encT (Rot xs s mid (c0 + mid - s))), R]
                refine dn_cut (α := List TR) (fun (ys : List TR) => Done (Rot xs s mid (c0 + mid - s)) lo c0 ys) (fun (ys : List TR) => [(0, .slice a n cap), (3, .int .i64 ((hi : Nat) : Int)), (4, .func (.func 18) #[] #[]), (18, .int .i64 ((c0 : Nat) : Int)), (24, .int .i64 ((c0 + mid - s : Nat) : Int))]) (fun (ys : List TR) => [OwnS 46 17 a n cap (flat encT ys), R]) ?_ ?_
                ·
                  refine dn_seq ?_
                  refine dn_reg ?_
                  refine dl_t rfl rfl rfl (op_move rfl) ?_
                  refine dl_t rfl rfl rfl (op_move rfl) ?_
                  refine dl_t rfl rfl rfl (op_lss rfl rfl) ?_
                  refine dl_t rfl rfl rfl (op_move rfl) ?_
                  refine dn_test (p := ((lo : Nat) : Int) < ((s : Nat) : Int)) 195 rfl (fun hg41_3 => ?_) (fun hg41_3 => ?_)
                  ·
                    refine dl_wt rfl rfl rfl rfl rfl rfl (op_move rfl) ?_
                    refine dl_wt rfl rfl rfl rfl rfl rfl (op_move rfl) ?_
                    refine dl_wt rfl rfl rfl rfl rfl rfl (op_lss rfl rfl) ?_
                    refine dl_t rfl rfl rfl (op_pick (b := true) rfl rfl) ?_
                    refine dn_done ?_
                    refine dn_then ?_
                    refine dn_cond (p := ((s : Nat) : Int) < ((c0 : Nat) : Int)) rfl (fun hc41 => ?_) (fun hc41 => ?_)
                    ·
                      refine dn_reg ?_
                      refine dl_t rfl rfl rfl (op_move rfl) ?_
                      refine dl_t rfl rfl rfl (op_move rfl) ?_
                      refine dl_t rfl rfl rfl (op_move rfl) ?_
                      refine dl_t rfl rfl rfl (op_move rfl) ?_
                      refine dl_t rfl rfl rfl (op_move rfl) ?_
                      refine dl_e rfl (op_call (vs := [.slice a n cap, .int .i64 ((lo : Nat) : Int), .int .i64 ((s : Nat) : Int), .int .i64 ((c0 : Nat) : Int), .func (.func 18) #[] #[]]) cl_35 (ih (Rot xs s mid (c0 + mid - s)) lo s c0 (by omega) (by omega) (by omega) (by omega) (by omega) (pre_left hcut (by omega) (by omega) hp)) rfl [0] rfl rfl) ?_
                      rintro ys1 hd1
                      refine dn_norm (Qs := [_, _]) rfl ?_
                      refine dn_done ?_
                      refine dn_then ?_
                      exact dn_meet ys1 hd1 (Less.cons rfl (Less.cons rfl (Less.cons rfl (Less.cons rfl (Less.cons rfl (Less.nil _)))))) [0, 0] rfl
                    ·
                      refine dn_skip ?_
                      refine dn_then ?_
                      exact dn_meet (Rot xs s mid (c0 + mid - s)) (mpre_none (pre_left hcut (by omega) (by omega) hp) (by omega) (by omega) (by omega)) (Less.cons rfl (Less.cons rfl (Less.cons rfl (Less.cons rfl (Less.cons rfl (Less.nil _)))))) [0, 0] rfl
                  ·
                    refine dl_no rfl rfl rfl rfl (by decide) rfl rfl ?_
                    refine dl_no rfl rfl rfl rfl (by decide) rfl rfl ?_
                    refine dl_no rfl rfl rfl rfl (by decide) rfl rfl ?_
                    refine dl_t rfl rfl rfl (op_pick (b := false) rfl rfl) ?_
                    refine dn_done ?_
                    refine dn_then ?_
                    refine dn_cond_false rfl ?_
                    refine dn_skip ?_
                    refine dn_then ?_
                    exact dn_meet (Rot xs s mid (c0 + mid - s)) (mpre_none (pre_left hcut (by omega) (by omega) hp) (by omega) (by omega) (by omega)) (Less.cons rfl (Less.cons rfl (Less.cons rfl (Less.cons rfl (Less.cons rfl (Less.nil _)))))) [0, 0] rfl
                ·
                  rintro ys hD
                  show Dn E 220 [] _ [(0, .slice a n cap), (3, .int .i64 ((hi : Nat) : Int)), (4, .func (.func 18) #[] #[]), (18, .int .i64 ((c0 : Nat) : Int)), (24, .int .i64 ((c0 + mid - s : Nat) : Int))] [OwnS 46 17 a n cap (flat encT ys), R]
                  change Done (Rot xs s mid (c0 + mid - s)) lo c0 ys at hD
                  have hly : ys.length = (Rot xs s mid (c0 + mid - s)).length := hD.len (by omega) (by omega)
                  refine dn_seq ?_
                  refine dn_reg ?_
                  refine dl_t rfl rfl rfl (op_move rfl) ?_
                  refine dl_t rfl rfl rfl (op_move rfl) ?_
                  refine dl_t rfl rfl rfl (op_lss rfl rfl) ?_
                  refine dl_t rfl rfl rfl (op_move rfl) ?_
                  refine dn_test (p := ((c0 : Nat) : Int) < ((c0 + mid - s : Nat) : Int)) 209 rfl (fun hg43_3 => ?_) (fun hg43_3 => ?_)
                  ·
                    refine dl_wt rfl rfl rfl rfl rfl rfl (op_move rfl) ?_
                    refine dl_wt rfl rfl rfl rfl rfl rfl (op_move rfl) ?_
                    refine dl_wt rfl rfl rfl rfl rfl rfl (op_lss rfl rfl) ?_
                    refine dl_t rfl rfl rfl (op_pick (b := true) rfl rfl) ?_
                    refine dn_done ?_
                    refine dn_then ?_
                    refine dn_cond (p := ((c0 + mid - s : Nat) : Int) < ((hi : Nat) : Int)) rfl (fun hc43 => ?_) (fun hc43 => ?_)
                    ·
                      refine dn_reg ?_
                      refine dl_t rfl rfl rfl (op_move rfl) ?_
                      refine dl_t rfl rfl rfl (op_move rfl) ?_
                      refine dl_t rfl rfl rfl (op_move rfl) ?_
                      refine dl_t rfl rfl rfl (op_move rfl) ?_
                      refine dl_t rfl rfl rfl (op_move rfl) ?_
                      refine dl_e rfl (op_call (vs := [.slice a n cap, .int .i64 ((c0 : Nat) : Int), .int .i64 ((c0 + mid - s : Nat) : Int), .int .i64 ((hi : Nat) : Int), .func (.func 18) #[] #[]]) cl_35 (ih ys c0 (c0 + mid - s) hi (by omega) (by omega) (by omega) (by omega) (by omega) (mpre_after hD (pre_right hcut (by omega) (by omega) hp) (by omega) (by omega) (by omega) (by omega))) rfl [0] rfl rfl) ?_
                      rintro zs hd2
                      refine dn_norm (Qs := [_, _]) rfl ?_
                      refine dn_done ?_
                      exact dn_end zs (by exact rfl) (by exact rfl) (by exact rfl) (by exact merge_end hcut (by omega) (by omega) hp hD hd2) [0, 0] (by exact rfl) (by exact .inr rfl)
                    ·
                      refine dn_skip ?_
                      exact dn_end ys (by exact rfl) (by exact rfl) (by exact rfl) (by exact merge_end hcut (by omega) (by omega) hp hD (mpre_none (mpre_after hD (pre_right hcut (by omega) (by omega) hp) (by omega) (by omega) (by omega) (by omega)) (by omega) (by omega) (by omega))) [0, 0] (by exact rfl) (by exact .inr rfl)
                  ·
                    refine dl_no rfl rfl rfl rfl (by decide) rfl rfl ?_
                    refine dl_no rfl rfl rfl rfl (by decide) rfl rfl ?_
                    refine dl_no rfl rfl rfl rfl (by decide) rfl rfl ?_
                    refine dl_t rfl rfl rfl (op_pick (b := false) rfl rfl) ?_
                    refine dn_done ?_
                    refine dn_then ?_
                    refine dn_cond_false rfl ?_
                    refine dn_skip ?_
                    exact dn_end ys (by exact rfl) (by exact rfl) (by exact rfl) (by exact merge_end hcut (by omega) (by omega) hp hD (mpre_none (mpre_after hD (pre_right hcut (by omega) (by omega) hp) (by omega) (by omega) (by omega) (by omega)) (by omega) (by omega) (by omega))) [0, 0] (by exact rfl) (by exact .inr rfl)
/-- slices.stableCmpFunc[crossbuck/sched.Rec] -/
theorem stable_tri (a : Option Addr) (n cap : Nat) (xs : List TR) (hn : xs.length = n) (h63 : n ≤ 1000000) (ht : xs.Pairwise fun p q => p.1 < q.1) : Tri Tryz.prog 23 [.slice a n cap, .int .i64 ((n : Nat) : Int), .func (.func 18) #[] #[]].toArray [OwnS 46 17 a n cap (flat encT xs)] (X := List TR) (fun _ => .tuple #[]) (fun ys => Done xs 0 xs.length ys) (fun ys => [OwnS 46 17 a n cap (flat encT ys)]) := by
  refine tri_intro (n := 63) (vs := [.slice a n cap, .int .i64 ((n : Nat) : Int), .func (.func 18) #[] #[]]) Tryz.func23 rfl rfl rfl (fun R E => ?_)
  show Dn E 63 [] _ [(0, .slice a n cap), (1, .int .i64 ((n : Nat) : Int)), (2, .func (.func 18) #[] #[])] [OwnS 46 17 a n cap (flat encT xs), R]
  refine dn_seq ?_
  refine dn_reg ?_
  refine dl_t rfl rfl rfl (op_assign rfl) ?_
  refine dn_done ?_
  refine dn_then ?_
  refine dn_seq ?_
  refine dn_reg ?_
  refine dl_t rfl rfl rfl (op_move rfl) ?_
  refine dl_t rfl rfl rfl (op_assign rfl) ?_
  refine dl_t rfl rfl rfl (op_assign rfl) ?_
  refine dn_done ?_
  refine dn_then ?_
  refine dn_seq ?_
  refine dn_block ?_
  refine dn_loop (α := Nat × List TR) (fun ((p, ys) : Nat × List TR) => St1 xs p ys) (fun ((p, ys) : Nat × List TR) => n - p) (fun ((p, ys) : Nat × List TR) => [(0, .slice a n cap), (1, .int .i64 ((n : Nat) : Int)), (2, .func (.func 18) #[] #[]), (6, .int .i64 20), (7, .int .i64 ((p : Nat) : Int)), (8, .int .i64 ((p + 20 : Nat) : Int))]) (fun ((p, ys) : Nat × List TR) => [OwnS 46 17 a n cap (flat encT ys), R]) ?_ ?_
  ·
    exact dn_meet (0, xs) (St1.start xs) (Less.cons rfl (Less.cons rfl (Less.cons rfl (Less.cons rfl (Less.cons rfl (Less.cons rfl (Less.nil _))))))) [0, 0] rfl
  ·
    rintro ⟨p, ys⟩ hI
    show Dn E 63 [] _ [(0, .slice a n cap), (1, .int .i64 ((n : Nat) : Int)), (2, .func (.func 18) #[] #[]), (6, .int .i64 20), (7, .int .i64 ((p : Nat) : Int)), (8, .int .i64 ((p + 20 : Nat) : Int))] [OwnS 46 17 a n cap (flat encT ys), R]
    change St1 xs p ys at hI
    obtain ⟨hI1, hI2, _, _⟩ := id hI
    refine dn_seq ?_
    refine dn_seq ?_
    refine dn_reg ?_
    refine dl_t rfl rfl rfl (op_move rfl) ?_
    refine dl_t rfl rfl rfl (op_move rfl) ?_
    refine dl_t rfl rfl rfl (op_leq rfl rfl) ?_
    refine dn_done ?_
    refine dn_then ?_
    refine dn_cond (p := ((p + 20 : Nat) : Int) ≤ ((n : Nat) : Int)) rfl (fun hc2 => ?_) (fun hc2 => ?_)
    ·
      refine dn_skip ?_
      refine dn_then ?_
      refine dn_block ?_
      refine dn_seq ?_
      refine dn_reg ?_
      refine dl_t rfl rfl rfl (op_move rfl) ?_
      refine dl_t rfl rfl rfl (op_move rfl) ?_
      refine dl_t rfl rfl rfl (op_move rfl) ?_
      refine dl_t rfl rfl rfl (op_move rfl) ?_
      refine dl_e rfl (op_call (vs := [.slice a n cap, .int .i64 ((p : Nat) : Int), .int .i64 ((p + 20 : Nat) : Int), .func (.func 18) #[] #[]]) cl_34 (ins_tri a n cap ys p (p + 20) (by omega) (by omega) (by omega) h63 (hI.tags ht _)) rfl [0] rfl rfl) ?_
      rintro zs hd
      refine dn_norm (Qs := [_, _]) rfl ?_
      refine dn_done ?_
      refine dn_then ?_
      refine dn_seq ?_
      refine dn_reg ?_
      refine dl_t rfl rfl rfl (op_move rfl) ?_
      refine dl_t rfl rfl rfl (op_assign rfl) ?_
      refine dn_done ?_
      refine dn_then ?_
      refine dn_reg ?_
      refine dl_t rfl rfl rfl (op_move rfl) ?_
      refine dl_t rfl rfl rfl (op_move rfl) ?_
      refine dl_t rfl rfl rfl (op_add (z := (((p + 20) + 20 : Nat) : Int)) rfl rfl (wa_i64 (by omega) (by omega) (by omega))) ?_
      refine dl_t rfl rfl rfl (op_assign rfl) ?_
      refine dn_done ?_
      refine dn_inB ?_
      refine dn_then ?_
      exact dn_meet (p + 20, zs) (⟨by show n - (p + 20) < n - p; omega, hI.step (by omega) hd⟩) (Less.cons rfl (Less.cons rfl (Less.cons rfl (Less.cons rfl (Less.cons rfl (Less.cons rfl (Less.nil _))))))) [0, 0] rfl
    ·
      refine dn_exit ?_
      refine dn_thenX ?_
      refine dn_thenX ?_
      refine dn_inBX ?_
      refine dn_then ?_
      refine dn_seq ?_
      refine dn_reg ?_
      refine dl_t rfl rfl rfl (op_move rfl) ?_
      refine dl_t rfl rfl rfl (op_move rfl) ?_
      refine dl_t rfl rfl rfl (op_move rfl) ?_
      refine dl_t rfl rfl rfl (op_move rfl) ?_
      refine dl_e rfl (op_call (vs := [.slice a n cap, .int .i64 ((p : Nat) : Int), .int .i64 ((n : Nat) : Int), .func (.func 18) #[] #[]]) cl_34 (ins_tri a n cap ys p n (by omega) (by omega) (by omega) h63 (hI.tags ht _)) rfl [0] rfl rfl) ?_
      rintro zs hd
      refine dn_norm (Qs := [_, _]) rfl ?_
      refine dn_done ?_
      refine dn_then ?_
      refine dn_block ?_
      refine dn_loop (α := Nat × List TR) (fun ((q, vs) : Nat × List TR) => vs.length = xs.length ∧ Runs xs vs q 0 ∧ 20 ≤ q ∧ q ≤ 2 * n + 20) (fun ((q, vs) : Nat × List TR) => n - q) (fun ((q, vs) : Nat × List TR) => [(0, .slice a n cap), (1, .int .i64 ((n : Nat) : Int)), (2, .func (.func 18) #[] #[]), (6, .int .i64 ((q : Nat) : Int))]) (fun ((q, vs) : Nat × List TR) => [OwnS 46 17 a n cap (flat encT vs), R]) ?_ ?_
      ·
        exact dn_meet (20, zs) (⟨(hI.done (by omega) (by rw [hn]; exact hd)).1, (hI.done (by omega) (by rw [hn]; exact hd)).2, by omega, by omega⟩) (Less.cons rfl (Less.cons rfl (Less.cons rfl (Less.cons rfl (Less.nil _))))) [0, 0] rfl
      ·
        rintro ⟨q, vs⟩ hK
        show Dn E 63 [] _ [(0, .slice a n cap), (1, .int .i64 ((n : Nat) : Int)), (2, .func (.func 18) #[] #[]), (6, .int .i64 ((q : Nat) : Int))] [OwnS 46 17 a n cap (flat encT vs), R]
        obtain ⟨hK1, hK2, hK3, hK4⟩ : vs.length = xs.length ∧ Runs xs vs q 0 ∧ 20 ≤ q ∧ q ≤ 2 * n + 20 := hK
        refine dn_seq ?_
        refine dn_seq ?_
        refine dn_reg ?_
        refine dl_t rfl rfl rfl (op_move rfl) ?_
        refine dl_t rfl rfl rfl (op_move rfl) ?_
        refine dl_t rfl rfl rfl (op_lss rfl rfl) ?_
        refine dn_done ?_
        refine dn_then ?_
        refine dn_cond (p := ((q : Nat) : Int) < ((n : Nat) : Int)) rfl (fun hc7 => ?_) (fun hc7 => ?_)
        ·
          refine dn_skip ?_
          refine dn_then ?_
          refine dn_block ?_
          refine dn_seq ?_
          refine dn_reg ?_
          refine dl_t rfl rfl rfl (op_move rfl) ?_
          refine dl_t rfl rfl rfl (op_mul (z := ((2 * q : Nat) : Int)) rfl rfl (wa_i64 (by omega) (by omega) (by omega))) ?_
          refine dl_t rfl rfl rfl (op_assign rfl) ?_
          refine dl_t rfl rfl rfl (op_assign rfl) ?_
          refine dn_done ?_
          refine dn_then ?_
          refine dn_seq ?_
          refine dn_block ?_
          refine dn_loop (α := Nat × List TR) (fun ((p, ws) : Nat × List TR) => St2 xs q p ws) (fun ((p, ws) : Nat × List TR) => n - p) (fun ((p, ws) : Nat × List TR) => [(0, .slice a n cap), (1, .int .i64 ((n : Nat) : Int)), (2, .func (.func 18) #[] #[]), (6, .int .i64 ((q : Nat) : Int)), (7, .int .i64 ((p : Nat) : Int)), (8, .int .i64 ((2 * q + p : Nat) : Int))]) (fun ((p, ws) : Nat × List TR) => [OwnS 46 17 a n cap (flat encT ws), R]) ?_ ?_
          ·
            exact dn_meet (0, vs) (St2.start hK1 hK2) (Less.cons rfl (Less.cons rfl (Less.cons rfl (Less.cons rfl (Less.cons rfl (Less.cons rfl (Less.nil _))))))) [0, 0] rfl
          ·
            rintro ⟨p, ws⟩ hJ
            show Dn E 63 [] _ [(0, .slice a n cap), (1, .int .i64 ((n : Nat) : Int)), (2, .func (.func 18) #[] #[]), (6, .int .i64 ((q : Nat) : Int)), (7, .int .i64 ((p : Nat) : Int)), (8, .int .i64 ((2 * q + p : Nat) : Int))] [OwnS 46 17 a n cap (flat encT ws), R]
            change St2 xs q p ws at hJ
            obtain ⟨hJ1, hJ2, _, _⟩ := id hJ
            refine dn_seq ?_
            refine dn_seq ?_
            refine dn_reg ?_
            refine dl_t rfl rfl rfl (op_move rfl) ?_
            refine dl_t rfl rfl rfl (op_move rfl) ?_
            refine dl_t rfl rfl rfl (op_leq rfl rfl) ?_
            refine dn_done ?_
            refine dn_then ?_
            refine dn_cond (p := ((2 * q + p : Nat) : Int) ≤ ((n : Nat) : Int)) rfl (fun hc9 => ?_) (fun hc9 => ?_)
            ·
              refine dn_skip ?_
              refine dn_then ?_
              refine dn_block ?_
              refine dn_seq ?_
              refine dn_reg ?_
              refine dl_t rfl rfl rfl (op_move rfl) ?_
              refine dl_t rfl rfl rfl (op_move rfl) ?_
              refine dl_t rfl rfl rfl (op_move rfl) ?_
              refine dl_t rfl rfl rfl (op_move rfl) ?_
              refine dl_t rfl rfl rfl (op_add (z := ((p + q : Nat) : Int)) rfl rfl (wa_i64 (by omega) (by omega) (by omega))) ?_
              refine dl_t rfl rfl rfl (op_move rfl) ?_
              refine dl_t rfl rfl rfl (op_move rfl) ?_
              refine dl_e rfl (op_call (vs := [.slice a n cap, .int .i64 ((p : Nat) : Int), .int .i64 ((p + q : Nat) : Int), .int .i64 ((2 * q + p : Nat) : Int), .func (.func 18) #[] #[]]) cl_35 (sym_tri a n cap h63 ((2 * q + p) - p + 1) ws p (p + q) (2 * q + p) (by omega) (by omega) (by omega) (by omega) (by omega) (by rw [Nat.add_comm (2 * q) p]; exact hJ.mpre ht (by omega) (by omega))) rfl [0] rfl rfl) ?_
              rintro zs hd
              refine dn_norm (Qs := [_, _]) rfl ?_
              refine dn_done ?_
              refine dn_then ?_
              refine dn_seq ?_
              refine dn_reg ?_
              refine dl_t rfl rfl rfl (op_move rfl) ?_
              refine dl_t rfl rfl rfl (op_assign rfl) ?_
              refine dn_done ?_
              refine dn_then ?_
              refine dn_reg ?_
              refine dl_t rfl rfl rfl (op_move rfl) ?_
              refine dl_t rfl rfl rfl (op_move rfl) ?_
              refine dl_t rfl rfl rfl (op_mul (z := ((2 * q : Nat) : Int)) rfl rfl (wa_i64 (by omega) (by omega) (by omega))) ?_
              refine dl_t rfl rfl rfl (op_add (z := ((2 * q + (2 * q + p) : Nat) : Int)) rfl rfl (wa_i64 (by omega) (by omega) (by omega))) ?_
              refine dl_t rfl rfl rfl (op_assign rfl) ?_
              refine dn_done ?_
              refine dn_inB ?_
              refine dn_then ?_
              exact dn_meet (2 * q + p, zs) (⟨by show n - (2 * q + p) < n - p; omega, by rw [Nat.add_comm (2 * q) p] at hd ⊢; exact hJ.step (by omega) (by omega) hd⟩) (Less.cons rfl (Less.cons rfl (Less.cons rfl (Less.cons rfl (Less.cons rfl (Less.cons rfl (Less.nil _))))))) [0, 0] rfl
            ·
              refine dn_exit ?_
              refine dn_thenX ?_
              refine dn_thenX ?_
              refine dn_inBX ?_
              refine dn_then ?_
              refine dn_seq ?_
              refine dn_seq ?_
              refine dn_reg ?_
              refine dl_t rfl rfl rfl (op_move rfl) ?_
              refine dl_t rfl rfl rfl (op_move rfl) ?_
              refine dl_t rfl rfl rfl (op_add (z := ((p + q : Nat) : Int)) rfl rfl (wa_i64 (by omega) (by omega) (by omega))) ?_
              refine dl_t rfl rfl rfl (op_assign rfl) ?_
              refine dn_done ?_
              refine dn_then ?_
              refine dn_seq ?_
              refine dn_reg ?_
              refine dl_t rfl rfl rfl (op_move rfl) ?_
              refine dl_t rfl rfl rfl (op_move rfl) ?_
              refine dl_t rfl rfl rfl (op_lss rfl rfl) ?_
              refine dn_done ?_
              refine dn_then ?_
              refine dn_cond (p := ((p + q : Nat) : Int) < ((n : Nat) : Int)) rfl (fun hc14 => ?_) (fun hc14 => ?_)
              ·
                refine dn_reg ?_
                refine dl_t rfl rfl rfl (op_move rfl) ?_
                refine dl_t rfl rfl rfl (op_move rfl) ?_
                refine dl_t rfl rfl rfl (op_move rfl) ?_
                refine dl_t rfl rfl rfl (op_move rfl) ?_
                refine dl_t rfl rfl rfl (op_move rfl) ?_
                refine dl_e rfl (op_call (vs := [.slice a n cap, .int .i64 ((p : Nat) : Int), .int .i64 ((p + q : Nat) : Int), .int .i64 ((n : Nat) : Int), .func (.func 18) #[] #[]]) cl_35 (sym_tri a n cap h63 (n - p + 1) ws p (p + q) n (by omega) (by omega) (by omega) (by omega) (by omega) (by rw [← hn]; exact hJ.mpre' ht (by omega) (by omega))) rfl [0] rfl rfl) ?_
                rintro zs hd
                refine dn_norm (Qs := [_, _]) rfl ?_
                refine dn_done ?_
                refine dn_then ?_
                refine dn_reg ?_
                refine dl_t rfl rfl rfl (op_move rfl) ?_
                refine dl_t rfl rfl rfl (op_mul (z := ((q * 2 : Nat) : Int)) rfl rfl (wa_i64 (by omega) (by omega) (by omega))) ?_
                refine dl_t rfl rfl rfl (op_assign rfl) ?_
                refine dn_done ?_
                refine dn_inB ?_
                refine dn_then ?_
                exact dn_meet (q * 2, zs) (⟨by show n - q * 2 < n - q; omega, (hJ.done (by omega) (by omega) (by omega) (by rw [hn]; exact hd)).1, by rw [Nat.mul_comm q 2]; exact (hJ.done (by omega) (by omega) (by omega) (by rw [hn]; exact hd)).2, by omega, by omega⟩) (Less.cons rfl (Less.cons rfl (Less.cons rfl (Less.cons rfl (Less.nil _))))) [0, 0] rfl
              ·
                refine dn_skip ?_
                refine dn_then ?_
                refine dn_reg ?_
                refine dl_t rfl rfl rfl (op_move rfl) ?_
                refine dl_t rfl rfl rfl (op_mul (z := ((q * 2 : Nat) : Int)) rfl rfl (wa_i64 (by omega) (by omega) (by omega))) ?_
                refine dl_t rfl rfl rfl (op_assign rfl) ?_
                refine dn_done ?_
                refine dn_inB ?_
                refine dn_then ?_
                exact dn_meet (q * 2, ws) (⟨by show n - q * 2 < n - q; omega, (hJ.rest (by omega) (by omega)).1, by rw [Nat.mul_comm q 2]; exact (hJ.rest (by omega) (by omega)).2, by omega, by omega⟩) (Less.cons rfl (Less.cons rfl (Less.cons rfl (Less.cons rfl (Less.nil _))))) [0, 0] rfl
        ·
          refine dn_exit ?_
          refine dn_thenX ?_
          refine dn_thenX ?_
          refine dn_inBX ?_
          exact dn_end vs (by exact rfl) (by exact rfl) (by exact rfl) (by exact runs_all hK1 hK2 (by omega)) [0, 0] (by exact rfl) (by exact .inr rfl)
/-- slices.SortStableFunc[[]crossbuck/sched.Rec,crossbuck/sched.Rec] -/
theorem sortStable_tri (a : Option Addr) (n cap : Nat) (xs : List TR) (hn : xs.length = n) (h63 : n ≤ 1000000) (ht : xs.Pairwise fun p q => p.1 < q.1) : Tri Tryz.prog 17 [.slice a n cap, .func (.func 18) #[] #[]].toArray [OwnS 46 17 a n cap (flat encT xs)] (X := List TR) (fun _ => .tuple #[]) (fun ys => Done xs 0 xs.length ys) (fun ys => [OwnS 46 17 a n cap (flat encT ys)]) := by
  refine tri_intro (n := 9) (vs := [.slice a n cap, .func (.func 18) #[] #[]]) Tryz.func17 rfl rfl rfl (fun R E => ?_)
  show Dn E 9 [] _ [(0, .slice a n cap), (1, .func (.func 18) #[] #[])] [OwnS 46 17 a n cap (flat encT xs), R]
  refine dn_reg ?_
  refine dl_t rfl rfl rfl (op_move rfl) ?_
  refine dl_t rfl rfl rfl (op_move rfl) ?_
  refine dl_t rfl rfl rfl (op_len rfl el_24) ?_
  refine dl_t rfl rfl rfl (op_move rfl) ?_
  refine dl_e rfl (op_call (vs := [.slice a n cap, .int .i64 ((n : Nat) : Int), .func (.func 18) #[] #[]]) cl_23 (stable_tri a n cap xs hn h63 ht) rfl [0] rfl rfl) ?_
  rintro ys hd
  refine dn_norm (Qs := [_, _]) rfl ?_
  refine dn_done ?_
  exact dn_end ys (by exact rfl) (by exact rfl) (by exact rfl) (by exact hd) [0, 0] (by exact rfl) (by exact .inr rfl)
end Go.Proofs.YtjfajpoknnifcaaGreat
