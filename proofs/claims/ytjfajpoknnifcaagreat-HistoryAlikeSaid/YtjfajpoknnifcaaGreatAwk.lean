/- Closed calls, each with a contract of its own. No condition. -/
import Derived.Test.YtjfajpoknnifcaaGreatAwkFacts
namespace Go.Proofs.YtjfajpoknnifcaaGreat
open Go
set_option maxRecDepth 20000
set_option linter.unusedVariables false
set_option linter.unusedSimpArgs false
/-- crossbuck/topo.Check$1 -/
theorem awk8  : Tri Tryz.prog 53 [.int .i64 1].toArray [] (X := Unit) (fun _ => .bool false) (fun _ => True) (fun _ => []) := by
  refine tri_intro (n := 9) (vs := [.int .i64 1]) Tryz.func53 rfl rfl rfl (fun R E => ?_)
  show Dn E 9 [] _ [(0, .int .i64 1)] [R]
  refine dn_seq ?_
  refine dn_reg ?_
  refine dl_t rfl rfl rfl (op_assign rfl) ?_
  refine dn_done ?_
  refine dn_then ?_
  refine dn_seq ?_
  refine dn_reg ?_
  refine dl_t rfl rfl rfl (op_move rfl) ?_
  refine dl_t rfl rfl rfl (op_cmpc (b := false) rfl rfl rfl) ?_
  refine dl_t rfl rfl rfl (op_move rfl) ?_
  refine dl_wt rfl rfl rfl rfl rfl rfl (op_move rfl) ?_
  refine dl_wt rfl rfl rfl rfl rfl rfl (op_cmpc (b := false) rfl rfl rfl) ?_
  refine dl_t rfl rfl rfl (op_pick (b := false) rfl rfl) ?_
  refine dl_t rfl rfl rfl (op_assign rfl) ?_
  refine dn_done ?_
  refine dn_then ?_
  refine dn_ret ?_
  exact dn_end (vs := [.bool false]) () (by exact rfl) (by exact rfl) (by exact rfl) (by trivial) [0] (by exact rfl) (by exact .inl rfl)
/-- slices.IndexFunc[[]int,int] -/
theorem awk7 (b1 : Nat) : Tri Tryz.prog 75 [.slice (some ⟨b1, 0, none⟩) 1 1, .func (.func 53) #[] #[]].toArray [Blk b1 (.cells [.int .i64 1].toArray 3 (0, 0))] (X := Unit) (fun _ => .int .i64 (-1)) (fun _ => True) (fun _ => [Blk b1 (.cells [.int .i64 1].toArray 3 (0, 0))]) := by
  refine tri_intro (n := 19) (vs := [.slice (some ⟨b1, 0, none⟩) 1 1, .func (.func 53) #[] #[]]) Tryz.func75 rfl rfl rfl (fun R E => ?_)
  show Dn E 19 [] _ [(0, .slice (some ⟨b1, 0, none⟩) 1 1), (1, .func (.func 53) #[] #[])] [Blk b1 (.cells [.int .i64 1].toArray 3 (0, 0)), R]
  refine dn_seq ?_
  refine dn_reg ?_
  refine dl_t rfl rfl rfl (op_assign rfl) ?_
  refine dn_done ?_
  refine dn_then ?_
  refine dn_seq ?_
  refine dn_seq ?_
  refine dn_reg ?_
  refine dl_t rfl rfl rfl (op_move rfl) ?_
  refine dl_t rfl rfl rfl (op_len rfl el_49) ?_
  refine dl_t rfl rfl rfl (op_move rfl) ?_
  refine dn_done ?_
  refine dn_then ?_
  refine dn_block ?_
  refine dn_loop0 ?_
  refine dn_round ?_
  refine dn_seq ?_
  refine dn_reg ?_
  refine dl_t rfl rfl rfl (op_cmpc (b := true) rfl rfl rfl) ?_
  refine dn_done ?_
  refine dn_then ?_
  refine dn_seq ?_
  refine dn_cond_true rfl ?_
  refine dn_skip ?_
  refine dn_then ?_
  refine dn_seq ?_
  refine dn_block ?_
  refine dn_seq ?_
  refine dn_reg ?_
  refine dl_t rfl rfl rfl (op_move rfl) ?_
  refine dl_t rfl rfl rfl (op_assign rfl) ?_
  refine dn_done ?_
  refine dn_then ?_
  refine dn_seq ?_
  refine dn_reg ?_
  refine dl_t rfl rfl rfl (op_move rfl) ?_
  refine dl_t rfl rfl rfl (op_move rfl) ?_
  refine dl_t rfl rfl rfl (op_move rfl) ?_
  refine dl_t rfl rfl rfl (op_indexAddr (o' := 0) rfl rfl el_49 sz_3 (by omega) (by omega) (rfl)) ?_
  refine dl_r 0 rfl rfl rfl rfl (op_load rfl ag_3 rfl) ?_
  refine dl_e rfl (op_callv (first := []) (capt := []) (us := [.int .i64 1]) cl_53 rfl rfl rfl (awk8) [] (by exact rfl) rfl) ?_
  rintro ⟨⟩ -
  refine dn_normv (u := .bool false) (Qs := [_, _]) rfl rfl ?_
  refine dn_done ?_
  refine dn_then ?_
  refine dn_cond_false rfl ?_
  refine dn_skip ?_
  refine dn_inB ?_
  refine dn_then ?_
  refine dn_reg ?_
  refine dl_t rfl rfl rfl (op_add (z := 1) rfl rfl (by decide)) ?_
  refine dl_t rfl rfl rfl (op_move rfl) ?_
  refine dn_done ?_
  refine dn_then ?_
  refine dn_round ?_
  refine dn_seq ?_
  refine dn_reg ?_
  refine dl_t rfl rfl rfl (op_cmpc (b := false) rfl rfl rfl) ?_
  refine dn_done ?_
  refine dn_then ?_
  refine dn_seq ?_
  refine dn_cond_false rfl ?_
  refine dn_exit ?_
  refine dn_thenX ?_
  refine dn_thenX ?_
  refine dn_inBX ?_
  refine dn_then ?_
  refine dn_seq ?_
  refine dn_reg ?_
  refine dl_t rfl rfl rfl (op_assign rfl) ?_
  refine dn_done ?_
  refine dn_then ?_
  refine dn_ret ?_
  exact dn_end (vs := [.int .i64 (-1)]) () (by exact rfl) (by exact rfl) (by exact rfl) (by trivial) [0, 0] (by exact rfl) (by exact .inl rfl)
/-- slices.ContainsFunc[[]int,int] -/
theorem awk6 (b1 : Nat) : Tri Tryz.prog 52 [.slice (some ⟨b1, 0, none⟩) 1 1, .func (.func 53) #[] #[]].toArray [Blk b1 (.cells [.int .i64 1].toArray 3 (0, 0))] (X := Unit) (fun _ => .bool false) (fun _ => True) (fun _ => [Blk b1 (.cells [.int .i64 1].toArray 3 (0, 0))]) := by
  refine tri_intro (n := 9) (vs := [.slice (some ⟨b1, 0, none⟩) 1 1, .func (.func 53) #[] #[]]) Tryz.func52 rfl rfl rfl (fun R E => ?_)
  show Dn E 9 [] _ [(0, .slice (some ⟨b1, 0, none⟩) 1 1), (1, .func (.func 53) #[] #[])] [Blk b1 (.cells [.int .i64 1].toArray 3 (0, 0)), R]
  refine dn_seq ?_
  refine dn_reg ?_
  refine dl_t rfl rfl rfl (op_assign rfl) ?_
  refine dn_done ?_
  refine dn_then ?_
  refine dn_seq ?_
  refine dn_reg ?_
  refine dl_t rfl rfl rfl (op_move rfl) ?_
  refine dl_t rfl rfl rfl (op_move rfl) ?_
  refine dl_e rfl (op_call (vs := [.slice (some ⟨b1, 0, none⟩) 1 1, .func (.func 53) #[] #[]]) cl_75 (awk7 b1) rfl [0] (by exact rfl) rfl) ?_
  rintro ⟨⟩ -
  refine dn_normv (u := .int .i64 (-1)) (Qs := [Blk b1 (.cells [.int .i64 1].toArray 3 (0, 0)), _]) rfl rfl ?_
  refine dl_t rfl rfl rfl (op_cmpc (b := false) rfl rfl rfl) ?_
  refine dl_t rfl rfl rfl (op_assign rfl) ?_
  refine dn_done ?_
  refine dn_then ?_
  refine dn_ret ?_
  exact dn_end (vs := [.bool false]) () (by exact rfl) (by exact rfl) (by exact rfl) (by trivial) [0, 0] (by exact rfl) (by exact .inl rfl)
/-- crossbuck/topo.links -/
theorem awk9 (b1 : Nat) : Tri Tryz.prog 54 [.agg #[.slice (some ⟨b1, 0, none⟩) 1 1, .slice none 0 0, .slice none 0 0]].toArray [Blk b1 (.cells [.int .i64 1].toArray 3 (0, 0))] (X := Unit) (fun _ => .int .i64 0) (fun _ => True) (fun _ => [Blk b1 (.cells [.int .i64 1].toArray 3 (0, 0))]) := by
  refine tri_intro (n := 47) (vs := [.agg #[.slice (some ⟨b1, 0, none⟩) 1 1, .slice none 0 0, .slice none 0 0]]) Tryz.func54 rfl rfl rfl (fun R E => ?_)
  show Dn E 47 [] _ [(0, .agg #[.slice (some ⟨b1, 0, none⟩) 1 1, .slice none 0 0, .slice none 0 0])] [Blk b1 (.cells [.int .i64 1].toArray 3 (0, 0)), R]
  refine dn_seq ?_
  refine dn_reg ?_
  refine dl_e rfl (op_box (vs := [.slice (some ⟨b1, 0, none⟩) 1 1, .slice none 0 0, .slice none 0 0]) rfl rfl rfl) ?_
  rintro b1001 -
  refine dn_norm (Qs := [_, _, _]) rfl ?_
  refine dl_t rfl rfl rfl (op_assign rfl) ?_
  refine dn_done ?_
  refine dn_then ?_
  refine dn_seq ?_
  refine dn_reg ?_
  refine dl_e rfl (op_makeMap rfl) ?_
  rintro b1002 -
  refine dn_norm (Qs := [_, _, _, _]) rfl ?_
  refine dl_t rfl rfl rfl (op_assign rfl) ?_
  refine dn_done ?_
  refine dn_then ?_
  refine dn_seq ?_
  refine dn_seq ?_
  refine dn_reg ?_
  refine dl_t rfl rfl rfl (op_fieldAddr (i' := 1) rfl fd_53_1 rfl) ?_
  refine dl_r 1 rfl rfl rfl rfl (op_load rfl ag_50 rfl) ?_
  refine dl_t rfl rfl rfl (op_len rfl el_50) ?_
  refine dl_t rfl rfl rfl (op_move rfl) ?_
  refine dn_done ?_
  refine dn_then ?_
  refine dn_block ?_
  refine dn_loop0 ?_
  refine dn_round ?_
  refine dn_seq ?_
  refine dn_reg ?_
  refine dl_t rfl rfl rfl (op_cmpc (b := false) rfl rfl rfl) ?_
  refine dn_done ?_
  refine dn_then ?_
  refine dn_seq ?_
  refine dn_cond_false rfl ?_
  refine dn_exit ?_
  refine dn_thenX ?_
  refine dn_thenX ?_
  refine dn_inBX ?_
  refine dn_then ?_
  refine dn_seq ?_
  refine dn_reg ?_
  refine dl_t rfl rfl rfl (op_assign rfl) ?_
  refine dn_done ?_
  refine dn_then ?_
  refine dn_ret ?_
  exact dn_end (vs := [.int .i64 0]) () (by exact rfl) (by exact rfl) (by exact rfl) (by trivial) [2, 2] (by exact rfl) (by exact .inl rfl)
/-- crossbuck/topo.Check -/
theorem awk5 (b1 : Nat) : Tri Tryz.prog 39 [.agg #[.slice (some ⟨b1, 0, none⟩) 1 1, .slice none 0 0, .slice none 0 0]].toArray [Blk b1 (.cells [.int .i64 1].toArray 3 (0, 0))] (X := Unit) (fun _ => .int .i64 0) (fun _ => True) (fun _ => [Blk b1 (.cells [.int .i64 1].toArray 3 (0, 0))]) := by
  refine tri_intro (n := 55) (vs := [.agg #[.slice (some ⟨b1, 0, none⟩) 1 1, .slice none 0 0, .slice none 0 0]]) Tryz.func39 rfl rfl rfl (fun R E => ?_)
  show Dn E 55 [] _ [(0, .agg #[.slice (some ⟨b1, 0, none⟩) 1 1, .slice none 0 0, .slice none 0 0])] [Blk b1 (.cells [.int .i64 1].toArray 3 (0, 0)), R]
  refine dn_seq ?_
  refine dn_reg ?_
  refine dl_e rfl (op_box (vs := [.slice (some ⟨b1, 0, none⟩) 1 1, .slice none 0 0, .slice none 0 0]) rfl rfl rfl) ?_
  rintro b1001 -
  refine dn_norm (Qs := [_, _, _]) rfl ?_
  refine dl_t rfl rfl rfl (op_assign rfl) ?_
  refine dn_done ?_
  refine dn_then ?_
  refine dn_seq ?_
  refine dn_seq ?_
  refine dn_reg ?_
  refine dl_t rfl rfl rfl (op_fieldAddr (i' := 0) rfl fd_53_0 rfl) ?_
  refine dl_r 0 rfl rfl rfl rfl (op_load rfl ag_49 rfl) ?_
  refine dl_t rfl rfl rfl (op_len rfl el_49) ?_
  refine dl_t rfl rfl rfl (op_cmpc (b := false) rfl rfl rfl) ?_
  refine dl_t rfl rfl rfl (op_move rfl) ?_
  refine dl_wt rfl rfl rfl rfl rfl rfl (op_fieldAddr (i' := 0) rfl fd_53_0 rfl) ?_
  refine dl_wr 0 rfl rfl rfl rfl rfl rfl rfl (op_load rfl ag_49 rfl) ?_
  refine dl_wt rfl rfl rfl rfl rfl rfl (op_len rfl el_49) ?_
  refine dl_wt rfl rfl rfl rfl rfl rfl (op_cmpc (b := false) rfl rfl rfl) ?_
  refine dl_t rfl rfl rfl (op_pick (b := false) rfl rfl) ?_
  refine dl_t rfl rfl rfl (op_move rfl) ?_
  refine dl_wt rfl rfl rfl rfl rfl rfl (op_fieldAddr (i' := 2) rfl fd_53_2 rfl) ?_
  refine dl_wr 0 rfl rfl rfl rfl rfl rfl rfl (op_load rfl ag_51 rfl) ?_
  refine dl_wt rfl rfl rfl rfl rfl rfl (op_len rfl el_51) ?_
  refine dl_wt rfl rfl rfl rfl rfl rfl (op_cmpc (b := false) rfl rfl rfl) ?_
  refine dl_t rfl rfl rfl (op_pick (b := false) rfl rfl) ?_
  refine dn_done ?_
  refine dn_then ?_
  refine dn_cond_false rfl ?_
  refine dn_skip ?_
  refine dn_then ?_
  refine dn_seq ?_
  refine dn_seq ?_
  refine dn_reg ?_
  refine dl_t rfl rfl rfl (op_fieldAddr (i' := 0) rfl fd_53_0 rfl) ?_
  refine dl_r 0 rfl rfl rfl rfl (op_load rfl ag_49 rfl) ?_
  refine dl_e rfl (op_call (vs := [.slice (some ⟨b1, 0, none⟩) 1 1, .func (.func 53) #[] #[]]) cl_52 (awk6 b1) rfl [1] (by exact rfl) rfl) ?_
  rintro ⟨⟩ -
  refine dn_normv (u := .bool false) (Qs := [Blk b1 (.cells [.int .i64 1].toArray 3 (0, 0)), _, _]) rfl rfl ?_
  refine dn_done ?_
  refine dn_then ?_
  refine dn_cond_false rfl ?_
  refine dn_skip ?_
  refine dn_then ?_
  refine dn_seq ?_
  refine dn_seq ?_
  refine dn_reg ?_
  refine dl_r 1 rfl rfl rfl rfl (op_loadN rfl ag_53 sz_53 rfl rfl) ?_
  refine dl_e rfl (op_call (vs := [.agg #[.slice (some ⟨b1, 0, none⟩) 1 1, .slice none 0 0, .slice none 0 0]]) cl_54 (awk9 b1) rfl [0] (by exact rfl) rfl) ?_
  rintro ⟨⟩ -
  refine dn_normv (u := .int .i64 0) (Qs := [Blk b1 (.cells [.int .i64 1].toArray 3 (0, 0)), _, _]) rfl rfl ?_
  refine dl_t rfl rfl rfl (op_assign rfl) ?_
  refine dn_done ?_
  refine dn_then ?_
  refine dn_seq ?_
  refine dn_reg ?_
  refine dl_t rfl rfl rfl (op_move rfl) ?_
  refine dl_t rfl rfl rfl (op_cmpc (b := false) rfl rfl rfl) ?_
  refine dn_done ?_
  refine dn_then ?_
  refine dn_cond_false rfl ?_
  refine dn_skip ?_
  refine dn_then ?_
  refine dn_seq ?_
  refine dn_seq ?_
  refine dn_reg ?_
  refine dl_t rfl rfl rfl (op_fieldAddr (i' := 2) rfl fd_53_2 rfl) ?_
  refine dl_r 1 rfl rfl rfl rfl (op_load rfl ag_51 rfl) ?_
  refine dl_t rfl rfl rfl (op_len rfl el_51) ?_
  refine dl_t rfl rfl rfl (op_move rfl) ?_
  refine dn_done ?_
  refine dn_then ?_
  refine dn_block ?_
  refine dn_loop0 ?_
  refine dn_round ?_
  refine dn_seq ?_
  refine dn_reg ?_
  refine dl_t rfl rfl rfl (op_cmpc (b := false) rfl rfl rfl) ?_
  refine dn_done ?_
  refine dn_then ?_
  refine dn_seq ?_
  refine dn_cond_false rfl ?_
  refine dn_exit ?_
  refine dn_thenX ?_
  refine dn_thenX ?_
  refine dn_inBX ?_
  refine dn_then ?_
  refine dn_seq ?_
  refine dn_reg ?_
  refine dl_t rfl rfl rfl (op_assign rfl) ?_
  refine dn_done ?_
  refine dn_then ?_
  refine dn_ret ?_
  exact dn_end (vs := [.int .i64 0]) () (by exact rfl) (by exact rfl) (by exact rfl) (by trivial) [0, 1] (by exact rfl) (by exact .inl rfl)
/-- crossbuck/table.New -/
theorem awk10  : Tri Tryz.prog 40 [].toArray [] (X := Nat × Nat) (fun x => .pointer (some ⟨x.1, 0, none⟩)) (fun _ => True) (fun x => [Blk x.1 (.cells [.map (some x.2), .slice none 0 0, .pointer none, .pointer none, .int .i64 0].toArray 161 (0, 0)), Blk x.2 (.map #[] 0)]) := by
  refine tri_intro (n := 4) (vs := []) Tryz.func40 rfl rfl rfl (fun R E => ?_)
  show Dn E 4 [] _ [] [R]
  refine dn_seq ?_
  refine dn_reg ?_
  refine dl_t rfl rfl rfl (op_assign rfl) ?_
  refine dn_done ?_
  refine dn_then ?_
  refine dn_seq ?_
  refine dn_reg ?_
  refine dl_e rfl (op_makeMap rfl) ?_
  rintro b1001 -
  refine dn_norm (Qs := [_, _]) rfl ?_
  refine dl_t rfl rfl rfl (op_build (qs := [(0, .map (some b1001))]) (vs := [.map (some b1001), .slice none 0 0, .pointer none, .pointer none, .int .i64 0]) rfl (by kernel_rfl)) ?_
  refine dl_e rfl (op_box (vs := [.map (some b1001), .slice none 0 0, .pointer none, .pointer none, .int .i64 0]) rfl rfl rfl) ?_
  rintro b1002 -
  refine dn_norm (Qs := [_, _, _]) rfl ?_
  refine dl_t rfl rfl rfl (op_assign rfl) ?_
  refine dn_done ?_
  refine dn_then ?_
  refine dn_ret ?_
  exact dn_end (vs := [.pointer (some ⟨b1002, 0, none⟩)]) (b1002, b1001) (by exact rfl) (by exact rfl) (by exact rfl) (by trivial) [0, 0, 0] (by exact rfl) (by exact .inl rfl)
/-- crossbuck/step.New -/
theorem awk4 (b1 : Nat) : Tri Tryz.prog 27 [.agg #[.slice (some ⟨b1, 0, none⟩) 1 1, .slice none 0 0, .slice none 0 0]].toArray [Blk b1 (.cells [.int .i64 1].toArray 3 (0, 0))] (X := Nat × Option Addr × Nat × Nat × Nat) (fun x => .tuple #[.pointer (some ⟨x.1, 0, none⟩), .int .i64 0]) (fun _ => True) (fun x => [Blk x.1 (.cells [.slice (some ⟨b1, 0, none⟩) 1 1, .slice none 0 0, .slice none 0 0, .slice x.2.1 1 x.2.2.1].toArray 119 (0, 0)), OwnS 120 1 x.2.1 1 x.2.2.1 [.pointer (some ⟨x.2.2.2.1, 0, none⟩)], Blk x.2.2.2.1 (.cells [.map (some x.2.2.2.2), .slice none 0 0, .pointer none, .pointer none, .int .i64 0].toArray 161 (0, 0)), Blk x.2.2.2.2 (.map #[] 0), Blk b1 (.cells [.int .i64 1].toArray 3 (0, 0))]) := by
  refine tri_intro (n := 31) (vs := [.agg #[.slice (some ⟨b1, 0, none⟩) 1 1, .slice none 0 0, .slice none 0 0]]) Tryz.func27 rfl rfl rfl (fun R E => ?_)
  show Dn E 31 [] _ [(0, .agg #[.slice (some ⟨b1, 0, none⟩) 1 1, .slice none 0 0, .slice none 0 0])] [Blk b1 (.cells [.int .i64 1].toArray 3 (0, 0)), R]
  refine dn_seq ?_
  refine dn_reg ?_
  refine dl_e rfl (op_box (vs := [.slice (some ⟨b1, 0, none⟩) 1 1, .slice none 0 0, .slice none 0 0]) rfl rfl rfl) ?_
  rintro b1001 -
  refine dn_norm (Qs := [_, _, _]) rfl ?_
  refine dl_t rfl rfl rfl (op_assign rfl) ?_
  refine dl_t rfl rfl rfl (op_assign rfl) ?_
  refine dn_done ?_
  refine dn_then ?_
  refine dn_seq ?_
  refine dn_seq ?_
  refine dn_reg ?_
  refine dl_r 0 rfl rfl rfl rfl (op_loadN rfl ag_53 sz_53 rfl rfl) ?_
  refine dl_e rfl (op_call (vs := [.agg #[.slice (some ⟨b1, 0, none⟩) 1 1, .slice none 0 0, .slice none 0 0]]) cl_39 (awk5 b1) rfl [1] (by exact rfl) rfl) ?_
  rintro ⟨⟩ -
  refine dn_normv (u := .int .i64 0) (Qs := [Blk b1 (.cells [.int .i64 1].toArray 3 (0, 0)), _, _]) rfl rfl ?_
  refine dl_t rfl rfl rfl (op_assign rfl) ?_
  refine dn_done ?_
  refine dn_then ?_
  refine dn_seq ?_
  refine dn_reg ?_
  refine dl_t rfl rfl rfl (op_move rfl) ?_
  refine dl_t rfl rfl rfl (op_cmpc (b := false) rfl rfl rfl) ?_
  refine dn_done ?_
  refine dn_then ?_
  refine dn_cond_false rfl ?_
  refine dn_skip ?_
  refine dn_then ?_
  refine dn_seq ?_
  refine dn_reg ?_
  refine dl_r 1 rfl rfl rfl rfl (op_loadN rfl ag_53 sz_53 rfl rfl) ?_
  refine dl_t rfl rfl rfl (op_build (qs := [(0, .agg #[.slice (some ⟨b1, 0, none⟩) 1 1, .slice none 0 0, .slice none 0 0])]) (vs := [.slice (some ⟨b1, 0, none⟩) 1 1, .slice none 0 0, .slice none 0 0, .slice none 0 0]) rfl (by kernel_rfl)) ?_
  refine dl_e rfl (op_box (vs := [.slice (some ⟨b1, 0, none⟩) 1 1, .slice none 0 0, .slice none 0 0, .slice none 0 0]) rfl rfl rfl) ?_
  rintro b1002 -
  refine dn_norm (Qs := [_, _, _, _]) rfl ?_
  refine dl_t rfl rfl rfl (op_assign rfl) ?_
  refine dn_done ?_
  refine dn_then ?_
  refine dn_seq ?_
  refine dn_seq ?_
  refine dn_reg ?_
  refine dl_t rfl rfl rfl (op_fieldAddr (i' := 0) rfl fd_53_0 rfl) ?_
  refine dl_r 2 rfl rfl rfl rfl (op_load rfl ag_49 rfl) ?_
  refine dl_t rfl rfl rfl (op_len rfl el_49) ?_
  refine dl_t rfl rfl rfl (op_move rfl) ?_
  refine dn_done ?_
  refine dn_then ?_
  refine dn_block ?_
  refine dn_loop0 ?_
  refine dn_round ?_
  refine dn_seq ?_
  refine dn_reg ?_
  refine dl_t rfl rfl rfl (op_cmpc (b := true) rfl rfl rfl) ?_
  refine dn_done ?_
  refine dn_then ?_
  refine dn_seq ?_
  refine dn_cond_true rfl ?_
  refine dn_skip ?_
  refine dn_then ?_
  refine dn_seq ?_
  refine dn_block ?_
  refine dn_any (N := 11) (l0 := #[false, false, false, false, false, false, false, false, false, false, false]) mixed (fun i => Nat.beq i 7 || Nat.beq i 10) (fun s => match s with | 0 => [Blk b1002 (.cells [.slice (some ⟨b1, 0, none⟩) 1 1, .slice none 0 0, .slice none 0 0, .slice none 0 0].toArray 119 (0, 0))] | _ => []) [0] rfl rfl rfl ?_
  refine ds_t (listed' := #[true, false, false, false, false, false, false, false, false, false, false]) 0 (by kernel_rfl) rfl rfl rfl rfl rfl (op_move rfl) ?_
  refine ds_t (listed' := #[true, true, false, false, false, false, false, false, false, false, false]) 1 (by kernel_rfl) rfl rfl rfl rfl rfl (op_move rfl) ?_
  refine ds_t (listed' := #[true, true, true, false, false, false, false, false, false, false, false]) 2 (by kernel_rfl) rfl rfl rfl rfl rfl (op_nilCheck rfl) ?_
  refine ds_t (listed' := #[true, true, true, true, false, false, false, false, false, false, false]) 3 (by kernel_rfl) rfl rfl rfl rfl rfl (op_fieldAddr (i' := 3) rfl fd_119_1 rfl) ?_
  refine ds_r (listed' := #[true, true, true, true, true, false, false, false, false, false, false]) 4 (by kernel_rfl) rfl rfl rfl rfl rfl 0 rfl (op_load rfl ag_117 rfl) ?_
  refine ds_x (s' := 0) (listed' := #[true, true, true, true, true, true, false, false, false, false, false]) 5 (by kernel_rfl) rfl rfl rfl rfl (op_call (vs := []) cl_40 (awk10) rfl [] (by exact rfl) rfl) [2] (fun _ => ⟨_, rfl⟩) ?_
  rintro ⟨b1003, b1004⟩ -
  refine ds_normv (u := .pointer (some ⟨b1003, 0, none⟩)) (Qs := [Blk b1003 (.cells [.map (some b1004), .slice none 0 0, .pointer none, .pointer none, .int .i64 0].toArray 161 (0, 0)), Blk b1004 (.map #[] 0), _, _, _, _]) rfl rfl ?_
  refine ds_x (s' := 0) (listed' := #[true, true, true, true, true, true, true, false, false, false, false]) 6 (by kernel_rfl) rfl rfl rfl rfl (op_buildSlice (e := 120) (qs := [(0, .pointer (some ⟨b1003, 0, none⟩))]) (vs := [.pointer (some ⟨b1003, 0, none⟩)]) rfl (by kernel_rfl) rfl) [3] (fun _ => ⟨_, rfl⟩) ?_
  rintro b1005 -
  refine ds_norm (Qs := [_, _, _, _, _, _, _]) rfl ?_
  refine ds_of ?_
  refine dn_hold (fun _ H => H.ownNil 120 1) ?_
  refine of_ds ?_
  refine ds_x (s' := 1) (listed' := #[true, true, true, true, true, true, true, true, false, false, false]) 7 (by kernel_rfl) rfl rfl rfl rfl (op_append (news := [.pointer (some ⟨b1003, 0, none⟩)]) (k' := 1) [0] rfl rfl rfl el_117 sz_120 zr_120 by_120 rfl rfl rfl (fun w H j u q => cellsAt (holds_one (i := 1) (C := Blk b1005 (.cells [.pointer (some ⟨b1003, 0, none⟩)].toArray 120 (0, 0))) rfl H).blk 0 [.pointer (some ⟨b1003, 0, none⟩)] rfl j u q) (List.all_eq_true.1 rfl) (by decide) (by decide) rfl rfl) [] (fun _ => ⟨_, rfl⟩) ?_
  rintro ⟨a1006, c1007⟩ -
  refine ds_norm (Qs := [_, _, _, _, _, _, _, _]) rfl ?_
  refine ds_t (listed' := #[true, true, true, true, true, true, true, true, true, false, false]) 8 (by kernel_rfl) rfl rfl rfl rfl rfl (op_nilCheck rfl) ?_
  refine ds_t (listed' := #[true, true, true, true, true, true, true, true, true, true, false]) 9 (by kernel_rfl) rfl rfl rfl rfl rfl (op_fieldAddr (i' := 3) rfl fd_119_1 rfl) ?_
  refine ds_s (s' := 2) (listed' := #[true, true, true, true, true, true, true, true, true, true, true]) 10 (by kernel_rfl) rfl rfl rfl rfl (op_store (vs := [.slice a1006 1 c1007]) (l' := [.slice (some ⟨b1, 0, none⟩) 1 1, .slice none 0 0, .slice none 0 0, .slice a1006 1 c1007]) 4 rfl rfl rfl sz_117 rfl rfl rfl rfl rfl) [] rfl ?_
  refine ds_norm (Qs := [_, _, _, _, _, _, _, _]) rfl ?_
  refine ds_done rfl ?_
  refine dn_inB ?_
  refine dn_then ?_
  refine dn_reg ?_
  refine dl_t rfl rfl rfl (op_add (z := 1) rfl rfl (by decide)) ?_
  refine dl_t rfl rfl rfl (op_move rfl) ?_
  refine dn_done ?_
  refine dn_then ?_
  refine dn_round ?_
  refine dn_seq ?_
  refine dn_reg ?_
  refine dl_t rfl rfl rfl (op_cmpc (b := false) rfl rfl rfl) ?_
  refine dn_done ?_
  refine dn_then ?_
  refine dn_seq ?_
  refine dn_cond_false rfl ?_
  refine dn_exit ?_
  refine dn_thenX ?_
  refine dn_thenX ?_
  refine dn_inBX ?_
  refine dn_then ?_
  refine dn_seq ?_
  refine dn_reg ?_
  refine dl_t rfl rfl rfl (op_move rfl) ?_
  refine dl_t rfl rfl rfl (op_assign rfl) ?_
  refine dl_t rfl rfl rfl (op_assign rfl) ?_
  refine dn_done ?_
  refine dn_then ?_
  refine dn_ret ?_
  exact dn_end (vs := [.pointer (some ⟨b1002, 0, none⟩), .int .i64 0]) (b1002, a1006, c1007, b1003, b1004) (by exact rfl) (by exact rfl) (by exact rfl) (by trivial) [0, 0, 1, 1, 1, 2] (Rs := [Blk b1005 (.cells [.pointer (some ⟨b1003, 0, none⟩)].toArray 120 (0, 0)), Blk b1001 (.cells [.slice (some ⟨b1, 0, none⟩) 1 1, .slice none 0 0, .slice none 0 0].toArray 53 (0, 0))]) (by kernel_rfl) (by exact .inl rfl)
/-- crossbuck/region.Right -/
theorem awk11  : Tri Tryz.prog 28 [.int .i64 0].toArray [] (X := Unit) (fun _ => .bool true) (fun _ => True) (fun _ => []) := by
  refine tri_intro (n := 9) (vs := [.int .i64 0]) Tryz.func28 rfl rfl rfl (fun R E => ?_)
  show Dn E 9 [] _ [(0, .int .i64 0)] [R]
  refine dn_seq ?_
  refine dn_reg ?_
  refine dl_t rfl rfl rfl (op_assign rfl) ?_
  refine dn_done ?_
  refine dn_then ?_
  refine dn_seq ?_
  refine dn_reg ?_
  refine dl_t rfl rfl rfl (op_move rfl) ?_
  refine dl_t rfl rfl rfl (op_cmpc (b := true) rfl rfl rfl) ?_
  refine dl_t rfl rfl rfl (op_move rfl) ?_
  refine dl_wt rfl rfl rfl rfl rfl rfl (op_move rfl) ?_
  refine dl_wt rfl rfl rfl rfl rfl rfl (op_cmpc (b := true) rfl rfl rfl) ?_
  refine dl_t rfl rfl rfl (op_pick (b := true) rfl rfl) ?_
  refine dl_t rfl rfl rfl (op_assign rfl) ?_
  refine dn_done ?_
  refine dn_then ?_
  refine dn_ret ?_
  exact dn_end (vs := [.bool true]) () (by exact rfl) (by exact rfl) (by exact rfl) (by trivial) [0] (by exact rfl) (by exact .inl rfl)
/-- crossbuck/region.Count -/
theorem awk12  : Tri Tryz.prog 29 [.int .i64 0].toArray [] (X := Unit) (fun _ => .int .i64 1) (fun _ => True) (fun _ => []) := by
  refine tri_intro (n := 8) (vs := [.int .i64 0]) Tryz.func29 rfl rfl rfl (fun R E => ?_)
  show Dn E 8 [] _ [(0, .int .i64 0)] [R]
  refine dn_seq ?_
  refine dn_reg ?_
  refine dl_t rfl rfl rfl (op_assign rfl) ?_
  refine dn_done ?_
  refine dn_then ?_
  refine dn_seq ?_
  refine dn_seq ?_
  refine dn_reg ?_
  refine dl_t rfl rfl rfl (op_move rfl) ?_
  refine dl_e rfl (op_call (vs := [.int .i64 0]) cl_28 (awk11) rfl [] (by exact rfl) rfl) ?_
  rintro ⟨⟩ -
  refine dn_normv (u := .bool true) (Qs := [_]) rfl rfl ?_
  refine dl_t rfl rfl rfl (op_notc rfl rfl) ?_
  refine dn_done ?_
  refine dn_then ?_
  refine dn_cond_false rfl ?_
  refine dn_skip ?_
  refine dn_then ?_
  refine dn_seq ?_
  refine dn_reg ?_
  refine dl_t rfl rfl rfl (op_move rfl) ?_
  refine dl_t rfl rfl rfl (op_shl (z := 1) rfl rfl (by decide) (by decide)) ?_
  refine dl_t rfl rfl rfl (op_assign rfl) ?_
  refine dn_done ?_
  refine dn_then ?_
  refine dn_ret ?_
  exact dn_end (vs := [.int .i64 1]) () (by exact rfl) (by exact rfl) (by exact rfl) (by trivial) [0] (by exact rfl) (by exact .inl rfl)
/-- crossbuck/bdd.New -/
theorem awk14  : Tri Tryz.prog 41 [.int .i64 100].toArray [] (X := Nat × Nat × Nat) (fun x => .tuple #[.pointer (some ⟨x.1, 0, none⟩), .int .i64 0]) (fun _ => True) (fun x => [Blk x.1 (.cells [.slice (some ⟨x.2.1, 0, none⟩) 2 2, .map (some x.2.2), .int .i64 100].toArray 167 (0, 0)), Blk x.2.2 (.map #[] 0), Blk x.2.1 (.cells [.int .i64 104, .int .i64 0, .int .i64 0, .int .i64 104, .int .i64 0, .int .i64 0].toArray 163 (0, 0))]) := by
  refine tri_intro (n := 19) (vs := [.int .i64 100]) Tryz.func41 rfl rfl rfl (fun R E => ?_)
  show Dn E 19 [] _ [(0, .int .i64 100)] [R]
  refine dn_seq ?_
  refine dn_reg ?_
  refine dl_t rfl rfl rfl (op_assign rfl) ?_
  refine dl_t rfl rfl rfl (op_assign rfl) ?_
  refine dn_done ?_
  refine dn_then ?_
  refine dn_seq ?_
  refine dn_seq ?_
  refine dn_reg ?_
  refine dl_t rfl rfl rfl (op_move rfl) ?_
  refine dl_t rfl rfl rfl (op_cmpc (b := false) rfl rfl rfl) ?_
  refine dl_t rfl rfl rfl (op_move rfl) ?_
  refine dl_wt rfl rfl rfl rfl rfl rfl (op_move rfl) ?_
  refine dl_wt rfl rfl rfl rfl rfl rfl (op_cmpc (b := false) rfl rfl rfl) ?_
  refine dl_t rfl rfl rfl (op_pick (b := false) rfl rfl) ?_
  refine dn_done ?_
  refine dn_then ?_
  refine dn_cond_false rfl ?_
  refine dn_skip ?_
  refine dn_then ?_
  refine dn_seq ?_
  refine dn_reg ?_
  refine dl_t rfl rfl rfl (op_build (qs := [(0, .int .i64 104)]) (vs := [.int .i64 104, .int .i64 0, .int .i64 0]) rfl (by kernel_rfl)) ?_
  refine dl_e rfl (op_alloc (vs := [.int .i64 0, .int .i64 0, .int .i64 0]) zr_163 rfl rfl) ?_
  rintro b1001 -
  refine dn_norm (Qs := [_, _]) rfl ?_
  refine dl_s rfl (op_store (vs := [.int .i64 104, .int .i64 0, .int .i64 0]) (l' := [.int .i64 104, .int .i64 0, .int .i64 0]) 0 rfl rfl rfl sz_163 rfl rfl rfl rfl rfl) ?_
  refine dn_norm (Qs := [_, _]) rfl ?_
  refine dn_done ?_
  refine dn_then ?_
  refine dn_seq ?_
  refine dn_reg ?_
  refine dl_r 0 rfl rfl rfl rfl (op_loadN rfl ag_163 sz_163 rfl rfl) ?_
  refine dl_r 0 rfl rfl rfl rfl (op_loadN rfl ag_163 sz_163 rfl rfl) ?_
  refine dl_e rfl (op_buildSlice (e := 163) (qs := [(0, .agg #[.int .i64 104, .int .i64 0, .int .i64 0]), (1, .agg #[.int .i64 104, .int .i64 0, .int .i64 0])]) (vs := [.int .i64 104, .int .i64 0, .int .i64 0, .int .i64 104, .int .i64 0, .int .i64 0]) rfl (by kernel_rfl) rfl) ?_
  rintro b1002 -
  refine dn_norm (Qs := [_, _, _]) rfl ?_
  refine dl_e rfl (op_makeMap rfl) ?_
  rintro b1003 -
  refine dn_norm (Qs := [_, _, _, _]) rfl ?_
  refine dl_t rfl rfl rfl (op_move rfl) ?_
  refine dl_t rfl rfl rfl (op_build (qs := [(0, .slice (some ⟨b1002, 0, none⟩) 2 2), (1, .map (some b1003)), (2, .int .i64 100)]) (vs := [.slice (some ⟨b1002, 0, none⟩) 2 2, .map (some b1003), .int .i64 100]) rfl (by kernel_rfl)) ?_
  refine dl_e rfl (op_box (vs := [.slice (some ⟨b1002, 0, none⟩) 2 2, .map (some b1003), .int .i64 100]) rfl rfl rfl) ?_
  rintro b1004 -
  refine dn_norm (Qs := [_, _, _, _, _]) rfl ?_
  refine dl_t rfl rfl rfl (op_assign rfl) ?_
  refine dl_t rfl rfl rfl (op_assign rfl) ?_
  refine dn_done ?_
  refine dn_then ?_
  refine dn_ret ?_
  exact dn_end (vs := [.pointer (some ⟨b1004, 0, none⟩), .int .i64 0]) (b1004, b1002, b1003) (by exact rfl) (by exact rfl) (by exact rfl) (by trivial) [0, 0, 0, 1] (Rs := [Blk b1001 (.cells [.int .i64 104, .int .i64 0, .int .i64 0].toArray 163 (0, 0))]) (by kernel_rfl) (by exact .inl rfl)
/-- crossbuck/cidr.mask -/
theorem awk17  : Tri Tryz.prog 76 [.int .i64 0].toArray [] (X := Unit) (fun _ => .int .u32 0) (fun _ => True) (fun _ => []) := by
  refine tri_intro (n := 9) (vs := [.int .i64 0]) Tryz.func76 rfl rfl rfl (fun R E => ?_)
  show Dn E 9 [] _ [(0, .int .i64 0)] [R]
  refine dn_seq ?_
  refine dn_reg ?_
  refine dl_t rfl rfl rfl (op_assign rfl) ?_
  refine dn_done ?_
  refine dn_then ?_
  refine dn_seq ?_
  refine dn_seq ?_
  refine dn_reg ?_
  refine dl_t rfl rfl rfl (op_move rfl) ?_
  refine dl_t rfl rfl rfl (op_cmpc (b := true) rfl rfl rfl) ?_
  refine dn_done ?_
  refine dn_then ?_
  refine dn_cond_true rfl ?_
  refine dn_seq ?_
  refine dn_reg ?_
  refine dl_t rfl rfl rfl (op_assign rfl) ?_
  refine dn_done ?_
  refine dn_then ?_
  refine dn_ret ?_
  refine dn_thenR ?_
  exact dn_end (vs := [.int .u32 0]) () (by exact rfl) (by exact rfl) (by exact rfl) (by trivial) [0] (by exact rfl) (by exact .inl rfl)
/-- crossbuck/cidr.Of -/
theorem awk16  : Tri Tryz.prog 60 [.int .u32 0, .int .i64 0].toArray [] (X := Unit) (fun _ => .agg #[.int .u32 0, .int .i64 0]) (fun _ => True) (fun _ => []) := by
  refine tri_intro (n := 14) (vs := [.int .u32 0, .int .i64 0]) Tryz.func60 rfl rfl rfl (fun R E => ?_)
  show Dn E 14 [] _ [(0, .int .u32 0), (1, .int .i64 0)] [R]
  refine dn_seq ?_
  refine dn_reg ?_
  refine dl_e rfl (op_alloc (vs := [.int .u32 0, .int .i64 0]) zr_68 rfl rfl) ?_
  rintro b1001 -
  refine dn_norm (Qs := [_, _]) rfl ?_
  refine dn_done ?_
  refine dn_then ?_
  refine dn_seq ?_
  refine dn_reg ?_
  refine dl_t rfl rfl rfl (op_move rfl) ?_
  refine dl_t rfl rfl rfl (op_min (z := 0) rfl rfl rfl) ?_
  refine dl_t rfl rfl rfl (op_max (z := 0) rfl rfl rfl) ?_
  refine dl_t rfl rfl rfl (op_assign rfl) ?_
  refine dn_done ?_
  refine dn_then ?_
  refine dn_seq ?_
  refine dn_reg ?_
  refine dl_t rfl rfl rfl (op_move rfl) ?_
  refine dl_t rfl rfl rfl (op_move rfl) ?_
  refine dl_e rfl (op_call (vs := [.int .i64 0]) cl_76 (awk17) rfl [] (by exact rfl) rfl) ?_
  rintro ⟨⟩ -
  refine dn_normv (u := .int .u32 0) (Qs := [_, _]) rfl rfl ?_
  refine dl_t rfl rfl rfl (op_bits (z := 0) rfl rfl (by decide)) ?_
  refine dl_t rfl rfl rfl (op_move rfl) ?_
  refine dl_t rfl rfl rfl (op_build (qs := [(0, .int .u32 0), (1, .int .i64 0)]) (vs := [.int .u32 0, .int .i64 0]) rfl (by kernel_rfl)) ?_
  refine dl_s rfl (op_store (vs := [.int .u32 0, .int .i64 0]) (l' := [.int .u32 0, .int .i64 0]) 0 rfl rfl rfl sz_68 rfl rfl rfl rfl rfl) ?_
  refine dn_norm (Qs := [_, _]) rfl ?_
  refine dn_done ?_
  refine dn_then ?_
  refine dn_ret ?_
  exact dn_endc (vs := [.agg #[.int .u32 0, .int .i64 0]]) () (by exact rfl) (by exact res_cellN (us := [.int .u32 0, .int .i64 0]) (j := 0) rfl rfl ag_68 sz_68 rfl rfl (res_nil)) (by exact rfl) (by trivial) [1] (by exact rfl) (by exact .inl rfl)
/-- crossbuck/region.Prefix -/
theorem awk15  : Tri Tryz.prog 43 [.int .i64 0, .int .i64 0].toArray [] (X := Unit) (fun _ => .agg #[.int .u32 0, .int .i64 0]) (fun _ => True) (fun _ => []) := by
  refine tri_intro (n := 22) (vs := [.int .i64 0, .int .i64 0]) Tryz.func43 rfl rfl rfl (fun R E => ?_)
  show Dn E 22 [] _ [(0, .int .i64 0), (1, .int .i64 0)] [R]
  refine dn_seq ?_
  refine dn_reg ?_
  refine dl_e rfl (op_alloc (vs := [.int .u32 0, .int .i64 0]) zr_68 rfl rfl) ?_
  rintro b1001 -
  refine dn_norm (Qs := [_, _]) rfl ?_
  refine dn_done ?_
  refine dn_then ?_
  refine dn_seq ?_
  refine dn_seq ?_
  refine dn_reg ?_
  refine dl_t rfl rfl rfl (op_move rfl) ?_
  refine dl_t rfl rfl rfl (op_cmpc (b := false) rfl rfl rfl) ?_
  refine dl_t rfl rfl rfl (op_move rfl) ?_
  refine dl_wt rfl rfl rfl rfl rfl rfl (op_move rfl) ?_
  refine dl_wt rfl rfl rfl rfl rfl rfl (op_move rfl) ?_
  refine dl_we rfl rfl rfl rfl (op_call (vs := [.int .i64 0]) cl_29 (awk12) rfl [] (by exact rfl) rfl) ?_
  rintro ⟨⟩ -
  refine dn_normv (u := .int .i64 1) (Qs := [_, _]) rfl rfl ?_
  refine dl_wt rfl rfl rfl rfl rfl rfl (op_cmpc (b := false) rfl rfl rfl) ?_
  refine dl_t rfl rfl rfl (op_pick (b := false) rfl rfl) ?_
  refine dn_done ?_
  refine dn_then ?_
  refine dn_cond_false rfl ?_
  refine dn_skip ?_
  refine dn_then ?_
  refine dn_seq ?_
  refine dn_reg ?_
  refine dl_t rfl rfl rfl (op_move rfl) ?_
  refine dl_t rfl rfl rfl (op_conv (z := 0) rfl Tryz.underlying3 ik_32 (by decide)) ?_
  refine dl_t rfl rfl rfl (op_move rfl) ?_
  refine dl_t rfl rfl rfl (op_sub (z := 32) rfl rfl (by decide)) ?_
  refine dl_t rfl rfl rfl (op_shl (z := 0) rfl rfl (by decide) (by decide)) ?_
  refine dl_t rfl rfl rfl (op_conv (z := 0) rfl Tryz.underlying32 ik_35 (by decide)) ?_
  refine dl_t rfl rfl rfl (op_move rfl) ?_
  refine dl_e rfl (op_call (vs := [.int .u32 0, .int .i64 0]) cl_60 (awk16) rfl [] (by exact rfl) rfl) ?_
  rintro ⟨⟩ -
  refine dn_normv (u := .agg #[.int .u32 0, .int .i64 0]) (Qs := [_, _]) rfl rfl ?_
  refine dl_s rfl (op_store (vs := [.int .u32 0, .int .i64 0]) (l' := [.int .u32 0, .int .i64 0]) 0 rfl rfl rfl sz_68 rfl rfl rfl rfl rfl) ?_
  refine dn_norm (Qs := [_, _]) rfl ?_
  refine dn_done ?_
  refine dn_then ?_
  refine dn_ret ?_
  exact dn_endc (vs := [.agg #[.int .u32 0, .int .i64 0]]) () (by exact rfl) (by exact res_cellN (us := [.int .u32 0, .int .i64 0]) (j := 0) rfl rfl ag_68 sz_68 rfl rfl (res_nil)) (by exact rfl) (by trivial) [1] (by exact rfl) (by exact .inl rfl)
/-- crossbuck/cidr.Right -/
theorem awk19  : Tri Tryz.prog 57 [.agg #[.int .u32 0, .int .i64 0]].toArray [] (X := Unit) (fun _ => .bool true) (fun _ => True) (fun _ => []) := by
  refine tri_intro (n := 20) (vs := [.agg #[.int .u32 0, .int .i64 0]]) Tryz.func57 rfl rfl rfl (fun R E => ?_)
  show Dn E 20 [] _ [(0, .agg #[.int .u32 0, .int .i64 0])] [R]
  refine dn_seq ?_
  refine dn_reg ?_
  refine dl_e rfl (op_box (vs := [.int .u32 0, .int .i64 0]) rfl rfl rfl) ?_
  rintro b1001 -
  refine dn_norm (Qs := [_, _]) rfl ?_
  refine dl_t rfl rfl rfl (op_assign rfl) ?_
  refine dn_done ?_
  refine dn_then ?_
  refine dn_seq ?_
  refine dn_any (N := 18) (l0 := #[false, false, false, false, false, false, false, false, false, false, false, false, false, false, false, false, false, false]) mixed (fun i => false) (fun _ => [Blk b1001 (.cells [.int .u32 0, .int .i64 0].toArray 68 (0, 0))]) [0] rfl rfl rfl ?_
  refine ds_t (listed' := #[true, false, false, false, false, false, false, false, false, false, false, false, false, false, false, false, false, false]) 0 (by kernel_rfl) rfl rfl rfl rfl rfl (op_fieldAddr (i' := 1) rfl fd_68_1 rfl) ?_
  refine ds_r (listed' := #[true, true, false, false, false, false, false, false, false, false, false, false, false, false, false, false, false, false]) 1 (by kernel_rfl) rfl rfl rfl rfl rfl 0 rfl (op_load rfl ag_3 rfl) ?_
  refine ds_t (listed' := #[true, true, true, false, false, false, false, false, false, false, false, false, false, false, false, false, false, false]) 2 (by kernel_rfl) rfl rfl rfl rfl rfl (op_cmpc (b := true) rfl rfl rfl) ?_
  refine ds_t (listed' := #[true, true, true, true, false, false, false, false, false, false, false, false, false, false, false, false, false, false]) 3 (by kernel_rfl) rfl rfl rfl rfl rfl (op_move rfl) ?_
  refine ds_wt (listed' := #[true, true, true, true, true, false, false, false, false, false, false, false, false, false, false, false, false, false]) 4 (by kernel_rfl) rfl rfl rfl rfl rfl rfl rfl rfl (op_fieldAddr (i' := 1) rfl fd_68_1 rfl) ?_
  refine ds_wr (listed' := #[true, true, true, true, true, true, false, false, false, false, false, false, false, false, false, false, false, false]) 5 (by kernel_rfl) rfl rfl rfl rfl rfl rfl rfl rfl 0 rfl (op_load rfl ag_3 rfl) ?_
  refine ds_wt (listed' := #[true, true, true, true, true, true, true, false, false, false, false, false, false, false, false, false, false, false]) 6 (by kernel_rfl) rfl rfl rfl rfl rfl rfl rfl rfl (op_cmpc (b := true) rfl rfl rfl) ?_
  refine ds_t (listed' := #[true, true, true, true, true, true, true, true, false, false, false, false, false, false, false, false, false, false]) 7 (by kernel_rfl) rfl rfl rfl rfl rfl (op_pick (b := true) rfl rfl) ?_
  refine ds_t (listed' := #[true, true, true, true, true, true, true, true, true, false, false, false, false, false, false, false, false, false]) 8 (by kernel_rfl) rfl rfl rfl rfl rfl (op_move rfl) ?_
  refine ds_wt (listed' := #[true, true, true, true, true, true, true, true, true, true, false, false, false, false, false, false, false, false]) 9 (by kernel_rfl) rfl rfl rfl rfl rfl rfl rfl rfl (op_fieldAddr (i' := 0) rfl fd_68_0 rfl) ?_
  refine ds_wt (listed' := #[true, true, true, true, true, true, true, true, true, true, false, true, false, false, false, false, false, false]) 11 (by kernel_rfl) rfl rfl rfl rfl rfl rfl rfl rfl (op_fieldAddr (i' := 1) rfl fd_68_1 rfl) ?_
  refine ds_wr (listed' := #[true, true, true, true, true, true, true, true, true, true, true, true, false, false, false, false, false, false]) 10 (by kernel_rfl) rfl rfl rfl rfl rfl rfl rfl rfl 0 rfl (op_load rfl ag_35 rfl) ?_
  refine ds_wr (listed' := #[true, true, true, true, true, true, true, true, true, true, true, true, true, false, false, false, false, false]) 12 (by kernel_rfl) rfl rfl rfl rfl rfl rfl rfl rfl 0 rfl (op_load rfl ag_3 rfl) ?_
  refine ds_wx (s' := 0) (listed' := #[true, true, true, true, true, true, true, true, true, true, true, true, true, true, false, false, false, false]) 13 (by kernel_rfl) rfl rfl rfl rfl rfl rfl rfl (op_call (vs := [.int .i64 0]) cl_76 (awk17) rfl [] (by exact rfl) rfl) [0] (fun _ => ⟨_, rfl⟩) ?_
  rintro ⟨⟩ -
  refine ds_normv (u := .int .u32 0) (Qs := [_, _]) rfl rfl ?_
  refine ds_wt (listed' := #[true, true, true, true, true, true, true, true, true, true, true, true, true, true, true, false, false, false]) 14 (by kernel_rfl) rfl rfl rfl rfl rfl rfl rfl rfl (op_bits (z := 0) rfl rfl (by decide)) ?_
  refine ds_wt (listed' := #[true, true, true, true, true, true, true, true, true, true, true, true, true, true, true, true, false, false]) 15 (by kernel_rfl) rfl rfl rfl rfl rfl rfl rfl rfl (op_cmpc (b := true) rfl rfl rfl) ?_
  refine ds_t (listed' := #[true, true, true, true, true, true, true, true, true, true, true, true, true, true, true, true, true, false]) 16 (by kernel_rfl) rfl rfl rfl rfl rfl (op_pick (b := true) rfl rfl) ?_
  refine ds_t (listed' := #[true, true, true, true, true, true, true, true, true, true, true, true, true, true, true, true, true, true]) 17 (by kernel_rfl) rfl rfl rfl rfl rfl (op_assign rfl) ?_
  refine ds_done rfl ?_
  refine dn_then ?_
  refine dn_ret ?_
  exact dn_end (vs := [.bool true]) () (by exact rfl) (by exact rfl) (by exact rfl) (by trivial) [1] (by exact rfl) (by exact .inl rfl)
/-- crossbuck/enc.lits -/
theorem awk20  : Tri Tryz.prog 59 [.int .i64 0, .int .u32 0, .int .i64 32, .int .i64 0].toArray [] (X := Unit) (fun _ => .slice none 0 0) (fun _ => True) (fun _ => []) := by
  refine tri_intro (n := 32) (vs := [.int .i64 0, .int .u32 0, .int .i64 32, .int .i64 0]) Tryz.func59 rfl rfl rfl (fun R E => ?_)
  show Dn E 32 [] _ [(0, .int .i64 0), (1, .int .u32 0), (2, .int .i64 32), (3, .int .i64 0)] [R]
  refine dn_seq ?_
  refine dn_reg ?_
  refine dl_t rfl rfl rfl (op_assign rfl) ?_
  refine dn_done ?_
  refine dn_then ?_
  refine dn_seq ?_
  refine dn_reg ?_
  refine dl_t rfl rfl rfl (op_assign rfl) ?_
  refine dn_done ?_
  refine dn_then ?_
  refine dn_seq ?_
  refine dn_seq ?_
  refine dn_reg ?_
  refine dl_t rfl rfl rfl (op_move rfl) ?_
  refine dl_t rfl rfl rfl (op_move rfl) ?_
  refine dn_done ?_
  refine dn_then ?_
  refine dn_block ?_
  refine dn_loop0 ?_
  refine dn_round ?_
  refine dn_seq ?_
  refine dn_reg ?_
  refine dl_t rfl rfl rfl (op_cmpc (b := false) rfl rfl rfl) ?_
  refine dn_done ?_
  refine dn_then ?_
  refine dn_seq ?_
  refine dn_cond_false rfl ?_
  refine dn_exit ?_
  refine dn_thenX ?_
  refine dn_thenX ?_
  refine dn_inBX ?_
  refine dn_then ?_
  refine dn_seq ?_
  refine dn_reg ?_
  refine dl_t rfl rfl rfl (op_move rfl) ?_
  refine dl_t rfl rfl rfl (op_assign rfl) ?_
  refine dn_done ?_
  refine dn_then ?_
  refine dn_ret ?_
  exact dn_end (vs := [.slice none 0 0]) () (by exact rfl) (by exact rfl) (by exact rfl) (by trivial) [0] (by exact rfl) (by exact .inl rfl)
/-- (*crossbuck/bdd.Arena).Len -/
theorem awk22 (b1 : Nat) (b2 : Nat) (b3 : Nat) : Tri Tryz.prog 45 [.pointer (some ⟨b1, 0, none⟩)].toArray [Blk b1 (.cells [.slice (some ⟨b2, 0, none⟩) 2 2, .map (some b3), .int .i64 100].toArray 167 (0, 0)), Blk b3 (.map #[] 0), Blk b2 (.cells [.int .i64 104, .int .i64 0, .int .i64 0, .int .i64 104, .int .i64 0, .int .i64 0].toArray 163 (0, 0))] (X := Unit) (fun _ => .int .i64 2) (fun _ => True) (fun _ => [Blk b1 (.cells [.slice (some ⟨b2, 0, none⟩) 2 2, .map (some b3), .int .i64 100].toArray 167 (0, 0)), Blk b3 (.map #[] 0), Blk b2 (.cells [.int .i64 104, .int .i64 0, .int .i64 0, .int .i64 104, .int .i64 0, .int .i64 0].toArray 163 (0, 0))]) := by
  refine tri_intro (n := 10) (vs := [.pointer (some ⟨b1, 0, none⟩)]) Tryz.func45 rfl rfl rfl (fun R E => ?_)
  show Dn E 10 [] _ [(0, .pointer (some ⟨b1, 0, none⟩))] [Blk b1 (.cells [.slice (some ⟨b2, 0, none⟩) 2 2, .map (some b3), .int .i64 100].toArray 167 (0, 0)), Blk b3 (.map #[] 0), Blk b2 (.cells [.int .i64 104, .int .i64 0, .int .i64 0, .int .i64 104, .int .i64 0, .int .i64 0].toArray 163 (0, 0)), R]
  refine dn_seq ?_
  refine dn_reg ?_
  refine dl_t rfl rfl rfl (op_assign rfl) ?_
  refine dn_done ?_
  refine dn_then ?_
  refine dn_seq ?_
  refine dn_seq ?_
  refine dn_reg ?_
  refine dl_t rfl rfl rfl (op_move rfl) ?_
  refine dl_t rfl rfl rfl (op_ptreql rfl rfl pt_122 rfl) ?_
  refine dn_done ?_
  refine dn_then ?_
  refine dn_cond_false rfl ?_
  refine dn_skip ?_
  refine dn_then ?_
  refine dn_seq ?_
  refine dn_reg ?_
  refine dl_t rfl rfl rfl (op_move rfl) ?_
  refine dl_t rfl rfl rfl (op_nilCheck rfl) ?_
  refine dl_t rfl rfl rfl (op_fieldAddr (i' := 0) rfl fd_167_0 rfl) ?_
  refine dl_r 0 rfl rfl rfl rfl (op_load rfl ag_164 rfl) ?_
  refine dl_t rfl rfl rfl (op_len rfl el_164) ?_
  refine dl_t rfl rfl rfl (op_assign rfl) ?_
  refine dn_done ?_
  refine dn_then ?_
  refine dn_ret ?_
  exact dn_end (vs := [.int .i64 2]) () (by exact rfl) (by exact rfl) (by exact rfl) (by trivial) [0, 0, 0, 0] (Rs := []) (by kernel_rfl) (by exact .inl rfl)
/-- (*crossbuck/bdd.Arena).Cube -/
theorem awk21 (b1 : Nat) (b2 : Nat) (b3 : Nat) : Tri Tryz.prog 58 [.pointer (some ⟨b1, 0, none⟩), .slice none 0 0].toArray [Blk b1 (.cells [.slice (some ⟨b2, 0, none⟩) 2 2, .map (some b3), .int .i64 100].toArray 167 (0, 0)), Blk b3 (.map #[] 0), Blk b2 (.cells [.int .i64 104, .int .i64 0, .int .i64 0, .int .i64 104, .int .i64 0, .int .i64 0].toArray 163 (0, 0))] (X := Unit) (fun _ => .tuple #[.int .i64 1, .int .i64 0]) (fun _ => True) (fun _ => [Blk b1 (.cells [.slice (some ⟨b2, 0, none⟩) 2 2, .map (some b3), .int .i64 100].toArray 167 (0, 0)), Blk b3 (.map #[] 0), Blk b2 (.cells [.int .i64 104, .int .i64 0, .int .i64 0, .int .i64 104, .int .i64 0, .int .i64 0].toArray 163 (0, 0))]) := by
  refine tri_intro (n := 82) (vs := [.pointer (some ⟨b1, 0, none⟩), .slice none 0 0]) Tryz.func58 rfl rfl rfl (fun R E => ?_)
  show Dn E 82 [] _ [(0, .pointer (some ⟨b1, 0, none⟩)), (1, .slice none 0 0)] [Blk b1 (.cells [.slice (some ⟨b2, 0, none⟩) 2 2, .map (some b3), .int .i64 100].toArray 167 (0, 0)), Blk b3 (.map #[] 0), Blk b2 (.cells [.int .i64 104, .int .i64 0, .int .i64 0, .int .i64 104, .int .i64 0, .int .i64 0].toArray 163 (0, 0)), R]
  refine dn_seq ?_
  refine dn_reg ?_
  refine dl_t rfl rfl rfl (op_assign rfl) ?_
  refine dl_t rfl rfl rfl (op_assign rfl) ?_
  refine dn_done ?_
  refine dn_then ?_
  refine dn_seq ?_
  refine dn_seq ?_
  refine dn_reg ?_
  refine dl_t rfl rfl rfl (op_move rfl) ?_
  refine dl_t rfl rfl rfl (op_ptreql rfl rfl pt_122 rfl) ?_
  refine dn_done ?_
  refine dn_then ?_
  refine dn_cond_false rfl ?_
  refine dn_skip ?_
  refine dn_then ?_
  refine dn_seq ?_
  refine dn_seq ?_
  refine dn_reg ?_
  refine dl_t rfl rfl rfl (op_move rfl) ?_
  refine dl_t rfl rfl rfl (op_len rfl el_169) ?_
  refine dl_t rfl rfl rfl (op_move rfl) ?_
  refine dn_done ?_
  refine dn_then ?_
  refine dn_block ?_
  refine dn_loop0 ?_
  refine dn_round ?_
  refine dn_seq ?_
  refine dn_reg ?_
  refine dl_t rfl rfl rfl (op_cmpc (b := false) rfl rfl rfl) ?_
  refine dn_done ?_
  refine dn_then ?_
  refine dn_seq ?_
  refine dn_cond_false rfl ?_
  refine dn_exit ?_
  refine dn_thenX ?_
  refine dn_thenX ?_
  refine dn_inBX ?_
  refine dn_then ?_
  refine dn_seq ?_
  refine dn_reg ?_
  refine dl_t rfl rfl rfl (op_move rfl) ?_
  refine dl_e rfl (op_call (vs := [.pointer (some ⟨b1, 0, none⟩)]) cl_45 (awk22 b1 b2 b3) rfl [0, 0, 0] (by exact rfl) rfl) ?_
  rintro ⟨⟩ -
  refine dn_normv (u := .int .i64 2) (Qs := [Blk b1 (.cells [.slice (some ⟨b2, 0, none⟩) 2 2, .map (some b3), .int .i64 100].toArray 167 (0, 0)), Blk b3 (.map #[] 0), Blk b2 (.cells [.int .i64 104, .int .i64 0, .int .i64 0, .int .i64 104, .int .i64 0, .int .i64 0].toArray 163 (0, 0)), _]) rfl rfl ?_
  refine dl_t rfl rfl rfl (op_assign rfl) ?_
  refine dn_done ?_
  refine dn_then ?_
  refine dn_seq ?_
  refine dn_reg ?_
  refine dl_t rfl rfl rfl (op_assign rfl) ?_
  refine dn_done ?_
  refine dn_then ?_
  refine dn_seq ?_
  refine dn_seq ?_
  refine dn_reg ?_
  refine dl_t rfl rfl rfl (op_move rfl) ?_
  refine dl_t rfl rfl rfl (op_len rfl el_169) ?_
  refine dl_t rfl rfl rfl (op_sub (z := (-1)) rfl rfl (by decide)) ?_
  refine dl_t rfl rfl rfl (op_assign rfl) ?_
  refine dn_done ?_
  refine dn_then ?_
  refine dn_block ?_
  refine dn_loop0 ?_
  refine dn_round ?_
  refine dn_seq ?_
  refine dn_seq ?_
  refine dn_reg ?_
  refine dl_t rfl rfl rfl (op_move rfl) ?_
  refine dl_t rfl rfl rfl (op_cmpc (b := false) rfl rfl rfl) ?_
  refine dn_done ?_
  refine dn_then ?_
  refine dn_cond_false rfl ?_
  refine dn_exit ?_
  refine dn_thenX ?_
  refine dn_thenX ?_
  refine dn_inBX ?_
  refine dn_then ?_
  refine dn_seq ?_
  refine dn_reg ?_
  refine dl_t rfl rfl rfl (op_move rfl) ?_
  refine dl_t rfl rfl rfl (op_assign rfl) ?_
  refine dl_t rfl rfl rfl (op_assign rfl) ?_
  refine dn_done ?_
  refine dn_then ?_
  refine dn_ret ?_
  exact dn_end (vs := [.int .i64 1, .int .i64 0]) () (by exact rfl) (by exact rfl) (by exact rfl) (by trivial) [0, 0, 0, 0] (Rs := []) (by kernel_rfl) (by exact .inl rfl)
/-- crossbuck/enc.Prefix -/
theorem awk18 (b1 : Nat) (b2 : Nat) (b3 : Nat) : Tri Tryz.prog 42 [.pointer (some ⟨b1, 0, none⟩), .int .i64 0, .agg #[.int .u32 0, .int .i64 0]].toArray [Blk b1 (.cells [.slice (some ⟨b2, 0, none⟩) 2 2, .map (some b3), .int .i64 100].toArray 167 (0, 0)), Blk b3 (.map #[] 0), Blk b2 (.cells [.int .i64 104, .int .i64 0, .int .i64 0, .int .i64 104, .int .i64 0, .int .i64 0].toArray 163 (0, 0))] (X := Unit) (fun _ => .tuple #[.int .i64 1, .int .i64 0]) (fun _ => True) (fun _ => [Blk b1 (.cells [.slice (some ⟨b2, 0, none⟩) 2 2, .map (some b3), .int .i64 100].toArray 167 (0, 0)), Blk b3 (.map #[] 0), Blk b2 (.cells [.int .i64 104, .int .i64 0, .int .i64 0, .int .i64 104, .int .i64 0, .int .i64 0].toArray 163 (0, 0))]) := by
  refine tri_intro (n := 32) (vs := [.pointer (some ⟨b1, 0, none⟩), .int .i64 0, .agg #[.int .u32 0, .int .i64 0]]) Tryz.func42 rfl rfl rfl (fun R E => ?_)
  show Dn E 32 [] _ [(0, .pointer (some ⟨b1, 0, none⟩)), (1, .int .i64 0), (2, .agg #[.int .u32 0, .int .i64 0])] [Blk b1 (.cells [.slice (some ⟨b2, 0, none⟩) 2 2, .map (some b3), .int .i64 100].toArray 167 (0, 0)), Blk b3 (.map #[] 0), Blk b2 (.cells [.int .i64 104, .int .i64 0, .int .i64 0, .int .i64 104, .int .i64 0, .int .i64 0].toArray 163 (0, 0)), R]
  refine dn_seq ?_
  refine dn_reg ?_
  refine dl_e rfl (op_box (vs := [.int .u32 0, .int .i64 0]) rfl rfl rfl) ?_
  rintro b1001 -
  refine dn_norm (Qs := [_, _, _, _, _]) rfl ?_
  refine dl_t rfl rfl rfl (op_assign rfl) ?_
  refine dl_t rfl rfl rfl (op_assign rfl) ?_
  refine dn_done ?_
  refine dn_then ?_
  refine dn_seq ?_
  refine dn_block ?_
  refine dn_seq ?_
  refine dn_reg ?_
  refine dl_t rfl rfl rfl (op_move rfl) ?_
  refine dl_t rfl rfl rfl (op_ptreql rfl rfl pt_122 rfl) ?_
  refine dl_t rfl rfl rfl (op_assign rfl) ?_
  refine dn_done ?_
  refine dn_then ?_
  refine dn_cond_false rfl ?_
  refine dn_seq ?_
  refine dn_reg ?_
  refine dl_t rfl rfl rfl (op_move rfl) ?_
  refine dl_t rfl rfl rfl (op_cmpc (b := false) rfl rfl rfl) ?_
  refine dl_t rfl rfl rfl (op_move rfl) ?_
  refine dl_no rfl rfl rfl rfl (by decide) rfl rfl ?_
  refine dl_no rfl rfl rfl rfl (by decide) rfl rfl ?_
  refine dl_t rfl rfl rfl (op_pick (b := false) rfl rfl) ?_
  refine dl_t rfl rfl rfl (op_assign rfl) ?_
  refine dn_done ?_
  refine dn_then ?_
  refine dn_cond_false rfl ?_
  refine dn_seq ?_
  refine dn_reg ?_
  refine dl_r 0 rfl rfl rfl rfl (op_loadN rfl ag_68 sz_68 rfl rfl) ?_
  refine dl_e rfl (op_call (vs := [.agg #[.int .u32 0, .int .i64 0]]) cl_57 (awk19) rfl [] (by exact rfl) rfl) ?_
  rintro ⟨⟩ -
  refine dn_normv (u := .bool true) (Qs := [_, _, _, _, _]) rfl rfl ?_
  refine dl_t rfl rfl rfl (op_notc rfl rfl) ?_
  refine dl_t rfl rfl rfl (op_assign rfl) ?_
  refine dn_done ?_
  refine dn_then ?_
  refine dn_cond_false rfl ?_
  refine dn_skip ?_
  refine dn_inB ?_
  refine dn_then ?_
  refine dn_seq ?_
  refine dn_reg ?_
  refine dl_t rfl rfl rfl (op_move rfl) ?_
  refine dl_t rfl rfl rfl (op_move rfl) ?_
  refine dl_t rfl rfl rfl (op_fieldAddr (i' := 0) rfl fd_68_0 rfl) ?_
  refine dl_r 0 rfl rfl rfl rfl (op_load rfl ag_35 rfl) ?_
  refine dl_t rfl rfl rfl (op_fieldAddr (i' := 1) rfl fd_68_1 rfl) ?_
  refine dl_r 0 rfl rfl rfl rfl (op_load rfl ag_3 rfl) ?_
  refine dl_e rfl (op_call (vs := [.int .i64 0, .int .u32 0, .int .i64 32, .int .i64 0]) cl_59 (awk20) rfl [] (by exact rfl) rfl) ?_
  rintro ⟨⟩ -
  refine dn_normv (u := .slice none 0 0) (Qs := [_, _, _, _, _]) rfl rfl ?_
  refine dl_e rfl (op_call (vs := [.pointer (some ⟨b1, 0, none⟩), .slice none 0 0]) cl_58 (awk21 b1 b2 b3) rfl [1, 1, 1] (by exact rfl) rfl) ?_
  rintro ⟨⟩ -
  refine dn_normv (u := .tuple #[.int .i64 1, .int .i64 0]) (Qs := [Blk b1 (.cells [.slice (some ⟨b2, 0, none⟩) 2 2, .map (some b3), .int .i64 100].toArray 167 (0, 0)), Blk b3 (.map #[] 0), Blk b2 (.cells [.int .i64 104, .int .i64 0, .int .i64 0, .int .i64 104, .int .i64 0, .int .i64 0].toArray 163 (0, 0)), _, _]) rfl rfl ?_
  refine dl_t rfl rfl rfl (op_extract rfl rfl) ?_
  refine dl_t rfl rfl rfl (op_extract rfl rfl) ?_
  refine dl_t rfl rfl rfl (op_assign rfl) ?_
  refine dl_t rfl rfl rfl (op_assign rfl) ?_
  refine dn_done ?_
  refine dn_then ?_
  refine dn_ret ?_
  exact dn_end (vs := [.int .i64 1, .int .i64 0]) () (by exact rfl) (by exact rfl) (by exact rfl) (by trivial) [0, 0, 0, 1] (Rs := [Blk b1001 (.cells [.int .u32 0, .int .i64 0].toArray 68 (0, 0))]) (by kernel_rfl) (by exact .inl rfl)
/-- (*crossbuck/bdd.Arena).Has -/
theorem awk24 (b1 : Nat) (b2 : Nat) (b3 : Nat) : Tri Tryz.prog 61 [.pointer (some ⟨b1, 0, none⟩), .int .i64 1].toArray [Blk b1 (.cells [.slice (some ⟨b2, 0, none⟩) 2 2, .map (some b3), .int .i64 100].toArray 167 (0, 0)), Blk b3 (.map #[] 0), Blk b2 (.cells [.int .i64 104, .int .i64 0, .int .i64 0, .int .i64 104, .int .i64 0, .int .i64 0].toArray 163 (0, 0))] (X := Unit) (fun _ => .bool true) (fun _ => True) (fun _ => [Blk b1 (.cells [.slice (some ⟨b2, 0, none⟩) 2 2, .map (some b3), .int .i64 100].toArray 167 (0, 0)), Blk b3 (.map #[] 0), Blk b2 (.cells [.int .i64 104, .int .i64 0, .int .i64 0, .int .i64 104, .int .i64 0, .int .i64 0].toArray 163 (0, 0))]) := by
  refine tri_intro (n := 20) (vs := [.pointer (some ⟨b1, 0, none⟩), .int .i64 1]) Tryz.func61 rfl rfl rfl (fun R E => ?_)
  show Dn E 20 [] _ [(0, .pointer (some ⟨b1, 0, none⟩)), (1, .int .i64 1)] [Blk b1 (.cells [.slice (some ⟨b2, 0, none⟩) 2 2, .map (some b3), .int .i64 100].toArray 167 (0, 0)), Blk b3 (.map #[] 0), Blk b2 (.cells [.int .i64 104, .int .i64 0, .int .i64 0, .int .i64 104, .int .i64 0, .int .i64 0].toArray 163 (0, 0)), R]
  refine dn_seq ?_
  refine dn_reg ?_
  refine dl_t rfl rfl rfl (op_assign rfl) ?_
  refine dn_done ?_
  refine dn_then ?_
  refine dn_seq ?_
  refine dn_reg ?_
  refine dl_t rfl rfl rfl (op_move rfl) ?_
  refine dl_t rfl rfl rfl (op_ptrneq rfl rfl pt_122 rfl) ?_
  refine dl_t rfl rfl rfl (op_move rfl) ?_
  refine dl_wt rfl rfl rfl rfl rfl rfl (op_move rfl) ?_
  refine dl_wt rfl rfl rfl rfl rfl rfl (op_cmpc (b := true) rfl rfl rfl) ?_
  refine dl_t rfl rfl rfl (op_pick (b := true) rfl rfl) ?_
  refine dl_t rfl rfl rfl (op_move rfl) ?_
  refine dl_wt rfl rfl rfl rfl rfl rfl (op_move rfl) ?_
  refine dl_wt rfl rfl rfl rfl rfl rfl (op_move rfl) ?_
  refine dl_wt rfl rfl rfl rfl rfl rfl (op_nilCheck rfl) ?_
  refine dl_wt rfl rfl rfl rfl rfl rfl (op_fieldAddr (i' := 0) rfl fd_167_0 rfl) ?_
  refine dl_wr 0 rfl rfl rfl rfl rfl rfl rfl (op_load rfl ag_164 rfl) ?_
  refine dl_wt rfl rfl rfl rfl rfl rfl (op_len rfl el_164) ?_
  refine dl_wt rfl rfl rfl rfl rfl rfl (op_cmpc (b := true) rfl rfl rfl) ?_
  refine dl_t rfl rfl rfl (op_pick (b := true) rfl rfl) ?_
  refine dl_t rfl rfl rfl (op_assign rfl) ?_
  refine dn_done ?_
  refine dn_then ?_
  refine dn_ret ?_
  exact dn_end (vs := [.bool true]) () (by exact rfl) (by exact rfl) (by exact rfl) (by trivial) [0, 0, 0, 0] (Rs := []) (by kernel_rfl) (by exact .inl rfl)
/-- (*crossbuck/trie.node).walk -/
theorem awk30 (b1 : Nat) : Tri Tryz.prog 138 [.pointer none, .agg #[.int .u32 0, .int .i64 1], .func (.func 139) #[] #[.pointer (some ⟨b1, 0, none⟩)]].toArray [Blk b1 (.cells [.slice none 0 0].toArray 256 (0, 0))] (X := Unit) (fun _ => .tuple #[]) (fun _ => True) (fun _ => [Blk b1 (.cells [.slice none 0 0].toArray 256 (0, 0))]) := by
  refine tri_intro (n := 59) (vs := [.pointer none, .agg #[.int .u32 0, .int .i64 1], .func (.func 139) #[] #[.pointer (some ⟨b1, 0, none⟩)]]) Tryz.func138 rfl rfl rfl (fun R E => ?_)
  show Dn E 59 [] _ [(0, .pointer none), (1, .agg #[.int .u32 0, .int .i64 1]), (2, .func (.func 139) #[] #[.pointer (some ⟨b1, 0, none⟩)])] [Blk b1 (.cells [.slice none 0 0].toArray 256 (0, 0)), R]
  refine dn_seq ?_
  refine dn_reg ?_
  refine dl_e rfl (op_box (vs := [.int .u32 0, .int .i64 1]) rfl rfl rfl) ?_
  rintro b1001 -
  refine dn_norm (Qs := [_, _, _]) rfl ?_
  refine dn_done ?_
  refine dn_then ?_
  refine dn_seq ?_
  refine dn_seq ?_
  refine dn_reg ?_
  refine dl_t rfl rfl rfl (op_move rfl) ?_
  refine dl_t rfl rfl rfl (op_ptreql rfl rfl pt_154 rfl) ?_
  refine dn_done ?_
  refine dn_then ?_
  refine dn_cond_true rfl ?_
  refine dn_ret ?_
  refine dn_thenR ?_
  exact dn_end (vs := []) () (by exact rfl) (by exact rfl) (by exact rfl) (by trivial) [1, 1] (by exact rfl) (by exact .inl rfl)
/-- (*crossbuck/trie.node).walk -/
theorem awk31 (b1 : Nat) : Tri Tryz.prog 138 [.pointer none, .agg #[.int .u32 2147483648, .int .i64 1], .func (.func 139) #[] #[.pointer (some ⟨b1, 0, none⟩)]].toArray [Blk b1 (.cells [.slice none 0 0].toArray 256 (0, 0))] (X := Unit) (fun _ => .tuple #[]) (fun _ => True) (fun _ => [Blk b1 (.cells [.slice none 0 0].toArray 256 (0, 0))]) := by
  refine tri_intro (n := 59) (vs := [.pointer none, .agg #[.int .u32 2147483648, .int .i64 1], .func (.func 139) #[] #[.pointer (some ⟨b1, 0, none⟩)]]) Tryz.func138 rfl rfl rfl (fun R E => ?_)
  show Dn E 59 [] _ [(0, .pointer none), (1, .agg #[.int .u32 2147483648, .int .i64 1]), (2, .func (.func 139) #[] #[.pointer (some ⟨b1, 0, none⟩)])] [Blk b1 (.cells [.slice none 0 0].toArray 256 (0, 0)), R]
  refine dn_seq ?_
  refine dn_reg ?_
  refine dl_e rfl (op_box (vs := [.int .u32 2147483648, .int .i64 1]) rfl rfl rfl) ?_
  rintro b1001 -
  refine dn_norm (Qs := [_, _, _]) rfl ?_
  refine dn_done ?_
  refine dn_then ?_
  refine dn_seq ?_
  refine dn_seq ?_
  refine dn_reg ?_
  refine dl_t rfl rfl rfl (op_move rfl) ?_
  refine dl_t rfl rfl rfl (op_ptreql rfl rfl pt_154 rfl) ?_
  refine dn_done ?_
  refine dn_then ?_
  refine dn_cond_true rfl ?_
  refine dn_ret ?_
  refine dn_thenR ?_
  exact dn_end (vs := []) () (by exact rfl) (by exact rfl) (by exact rfl) (by trivial) [1, 1] (by exact rfl) (by exact .inl rfl)
/-- (*crossbuck/trie.node).walk -/
theorem awk29 (b1 : Nat) (b2 : Nat) (b3 : Nat) : Tri Tryz.prog 138 [.pointer (some ⟨b1, 1, none⟩), .agg #[.int .u32 0, .int .i64 0], .func (.func 139) #[] #[.pointer (some ⟨b2, 0, none⟩)]].toArray [Blk b2 (.cells [.slice none 0 0].toArray 256 (0, 0)), Blk b1 (.cells [.map (some b3), .slice none 0 0, .pointer none, .pointer none, .int .i64 0].toArray 161 (0, 0)), Blk b3 (.map #[] 0)] (X := Unit) (fun _ => .tuple #[]) (fun _ => True) (fun _ => [Blk b2 (.cells [.slice none 0 0].toArray 256 (0, 0)), Blk b1 (.cells [.map (some b3), .slice none 0 0, .pointer none, .pointer none, .int .i64 0].toArray 161 (0, 0)), Blk b3 (.map #[] 0)]) := by
  refine tri_intro (n := 59) (vs := [.pointer (some ⟨b1, 1, none⟩), .agg #[.int .u32 0, .int .i64 0], .func (.func 139) #[] #[.pointer (some ⟨b2, 0, none⟩)]]) Tryz.func138 rfl rfl rfl (fun R E => ?_)
  show Dn E 59 [] _ [(0, .pointer (some ⟨b1, 1, none⟩)), (1, .agg #[.int .u32 0, .int .i64 0]), (2, .func (.func 139) #[] #[.pointer (some ⟨b2, 0, none⟩)])] [Blk b2 (.cells [.slice none 0 0].toArray 256 (0, 0)), Blk b1 (.cells [.map (some b3), .slice none 0 0, .pointer none, .pointer none, .int .i64 0].toArray 161 (0, 0)), Blk b3 (.map #[] 0), R]
  refine dn_seq ?_
  refine dn_reg ?_
  refine dl_e rfl (op_box (vs := [.int .u32 0, .int .i64 0]) rfl rfl rfl) ?_
  rintro b1001 -
  refine dn_norm (Qs := [_, _, _, _, _]) rfl ?_
  refine dn_done ?_
  refine dn_then ?_
  refine dn_seq ?_
  refine dn_seq ?_
  refine dn_reg ?_
  refine dl_t rfl rfl rfl (op_move rfl) ?_
  refine dl_t rfl rfl rfl (op_ptreql rfl rfl pt_154 rfl) ?_
  refine dn_done ?_
  refine dn_then ?_
  refine dn_cond_false rfl ?_
  refine dn_skip ?_
  refine dn_then ?_
  refine dn_seq ?_
  refine dn_seq ?_
  refine dn_reg ?_
  refine dl_t rfl rfl rfl (op_move rfl) ?_
  refine dl_t rfl rfl rfl (op_nilCheck rfl) ?_
  refine dl_t rfl rfl rfl (op_fieldAddr (i' := 1) rfl fd_157_0 rfl) ?_
  refine dl_r 2 rfl rfl rfl rfl (op_load rfl ag_49 rfl) ?_
  refine dl_t rfl rfl rfl (op_len rfl el_49) ?_
  refine dl_t rfl rfl rfl (op_move rfl) ?_
  refine dn_done ?_
  refine dn_then ?_
  refine dn_block ?_
  refine dn_loop0 ?_
  refine dn_round ?_
  refine dn_seq ?_
  refine dn_reg ?_
  refine dl_t rfl rfl rfl (op_cmpc (b := false) rfl rfl rfl) ?_
  refine dn_done ?_
  refine dn_then ?_
  refine dn_seq ?_
  refine dn_cond_false rfl ?_
  refine dn_exit ?_
  refine dn_thenX ?_
  refine dn_thenX ?_
  refine dn_inBX ?_
  refine dn_then ?_
  refine dn_seq ?_
  refine dn_seq ?_
  refine dn_reg ?_
  refine dl_t rfl rfl rfl (op_fieldAddr (i' := 1) rfl fd_68_1 rfl) ?_
  refine dl_r 0 rfl rfl rfl rfl (op_load rfl ag_3 rfl) ?_
  refine dl_t rfl rfl rfl (op_cmpc (b := false) rfl rfl rfl) ?_
  refine dn_done ?_
  refine dn_then ?_
  refine dn_cond_false rfl ?_
  refine dn_skip ?_
  refine dn_then ?_
  refine dn_seq ?_
  refine dn_any (N := 13) (l0 := #[false, false, false, false, false, false, false, false, false, false, false, false, false]) mixed (fun i => Nat.beq i 12) (fun s => match s with | 0 => [Blk b1 (.cells [.map (some b3), .slice none 0 0, .pointer none, .pointer none, .int .i64 0].toArray 161 (0, 0)), Blk b1001 (.cells [.int .u32 0, .int .i64 0].toArray 68 (0, 0))] | _ => []) [2, 0] rfl rfl rfl ?_
  refine ds_t (listed' := #[true, false, false, false, false, false, false, false, false, false, false, false, false]) 0 (by kernel_rfl) rfl rfl rfl rfl rfl (op_move rfl) ?_
  refine ds_t (listed' := #[true, true, false, false, false, false, false, false, false, false, false, false, false]) 1 (by kernel_rfl) rfl rfl rfl rfl rfl (op_nilCheck rfl) ?_
  refine ds_t (listed' := #[true, true, true, false, false, false, false, false, false, false, false, false, false]) 2 (by kernel_rfl) rfl rfl rfl rfl rfl (op_fieldAddr (i' := 2) rfl fd_157_1 rfl) ?_
  refine ds_t (listed' := #[true, true, true, true, false, false, false, false, false, false, false, false, false]) 3 (by kernel_rfl) rfl rfl rfl rfl rfl (op_indexArr (o' := 2) rfl rfl ar_155 sz_154 (by omega) (by omega) (rfl)) ?_
  refine ds_t (listed' := #[true, true, true, true, false, true, false, false, false, false, false, false, false]) 5 (by kernel_rfl) rfl rfl rfl rfl rfl (op_fieldAddr (i' := 0) rfl fd_68_0 rfl) ?_
  refine ds_t (listed' := #[true, true, true, true, false, true, false, true, false, false, false, false, false]) 7 (by kernel_rfl) rfl rfl rfl rfl rfl (op_fieldAddr (i' := 1) rfl fd_68_1 rfl) ?_
  refine ds_t (listed' := #[true, true, true, true, false, true, false, true, false, false, false, true, false]) 11 (by kernel_rfl) rfl rfl rfl rfl rfl (op_move rfl) ?_
  refine ds_r (listed' := #[true, true, true, true, true, true, false, true, false, false, false, true, false]) 4 (by kernel_rfl) rfl rfl rfl rfl rfl 0 rfl (op_load rfl ag_154 rfl) ?_
  refine ds_r (listed' := #[true, true, true, true, true, true, true, true, false, false, false, true, false]) 6 (by kernel_rfl) rfl rfl rfl rfl rfl 1 rfl (op_load rfl ag_35 rfl) ?_
  refine ds_r (listed' := #[true, true, true, true, true, true, true, true, true, false, false, true, false]) 8 (by kernel_rfl) rfl rfl rfl rfl rfl 1 rfl (op_load rfl ag_3 rfl) ?_
  refine ds_t (listed' := #[true, true, true, true, true, true, true, true, true, true, false, true, false]) 9 (by kernel_rfl) rfl rfl rfl rfl rfl (op_add (z := 1) rfl rfl (by decide)) ?_
  refine ds_t (listed' := #[true, true, true, true, true, true, true, true, true, true, true, true, false]) 10 (by kernel_rfl) rfl rfl rfl rfl rfl (op_build (qs := [(0, .int .u32 0), (1, .int .i64 1)]) (vs := [.int .u32 0, .int .i64 1]) rfl (by kernel_rfl)) ?_
  refine ds_x (s' := 1) (listed' := #[true, true, true, true, true, true, true, true, true, true, true, true, true]) 12 (by kernel_rfl) rfl rfl rfl rfl (op_call (vs := [.pointer none, .agg #[.int .u32 0, .int .i64 1], .func (.func 139) #[] #[.pointer (some ⟨b2, 0, none⟩)]]) cl_138 (awk30 b2) rfl [1] (by exact rfl) rfl) [] (fun _ => ⟨_, rfl⟩) ?_
  rintro ⟨⟩ -
  refine ds_normv (u := .tuple #[]) (Qs := [Blk b2 (.cells [.slice none 0 0].toArray 256 (0, 0)), _, _, _, _]) rfl rfl ?_
  refine ds_done rfl ?_
  refine dn_then ?_
  refine dn_any (N := 18) (l0 := #[false, false, false, false, false, false, false, false, false, false, false, false, false, false, false, false, false, false]) mixed (fun i => Nat.beq i 17) (fun s => match s with | 0 => [Blk b1 (.cells [.map (some b3), .slice none 0 0, .pointer none, .pointer none, .int .i64 0].toArray 161 (0, 0)), Blk b1001 (.cells [.int .u32 0, .int .i64 0].toArray 68 (0, 0))] | _ => []) [2, 1] rfl rfl rfl ?_
  refine ds_t (listed' := #[true, false, false, false, false, false, false, false, false, false, false, false, false, false, false, false, false, false]) 0 (by kernel_rfl) rfl rfl rfl rfl rfl (op_move rfl) ?_
  refine ds_t (listed' := #[true, true, false, false, false, false, false, false, false, false, false, false, false, false, false, false, false, false]) 1 (by kernel_rfl) rfl rfl rfl rfl rfl (op_nilCheck rfl) ?_
  refine ds_t (listed' := #[true, true, true, false, false, false, false, false, false, false, false, false, false, false, false, false, false, false]) 2 (by kernel_rfl) rfl rfl rfl rfl rfl (op_fieldAddr (i' := 2) rfl fd_157_1 rfl) ?_
  refine ds_t (listed' := #[true, true, true, true, false, false, false, false, false, false, false, false, false, false, false, false, false, false]) 3 (by kernel_rfl) rfl rfl rfl rfl rfl (op_indexArr (o' := 3) rfl rfl ar_155 sz_154 (by omega) (by omega) (rfl)) ?_
  refine ds_t (listed' := #[true, true, true, true, false, true, false, false, false, false, false, false, false, false, false, false, false, false]) 5 (by kernel_rfl) rfl rfl rfl rfl rfl (op_fieldAddr (i' := 0) rfl fd_68_0 rfl) ?_
  refine ds_t (listed' := #[true, true, true, true, false, true, false, true, false, false, false, false, false, false, false, false, false, false]) 7 (by kernel_rfl) rfl rfl rfl rfl rfl (op_fieldAddr (i' := 1) rfl fd_68_1 rfl) ?_
  refine ds_t (listed' := #[true, true, true, true, false, true, false, true, false, false, false, false, true, false, false, false, false, false]) 12 (by kernel_rfl) rfl rfl rfl rfl rfl (op_fieldAddr (i' := 1) rfl fd_68_1 rfl) ?_
  refine ds_t (listed' := #[true, true, true, true, false, true, false, true, false, false, false, false, true, false, false, false, true, false]) 16 (by kernel_rfl) rfl rfl rfl rfl rfl (op_move rfl) ?_
  refine ds_r (listed' := #[true, true, true, true, true, true, false, true, false, false, false, false, true, false, false, false, true, false]) 4 (by kernel_rfl) rfl rfl rfl rfl rfl 0 rfl (op_load rfl ag_154 rfl) ?_
  refine ds_r (listed' := #[true, true, true, true, true, true, true, true, false, false, false, false, true, false, false, false, true, false]) 6 (by kernel_rfl) rfl rfl rfl rfl rfl 1 rfl (op_load rfl ag_35 rfl) ?_
  refine ds_r (listed' := #[true, true, true, true, true, true, true, true, true, false, false, false, true, false, false, false, true, false]) 8 (by kernel_rfl) rfl rfl rfl rfl rfl 1 rfl (op_load rfl ag_3 rfl) ?_
  refine ds_t (listed' := #[true, true, true, true, true, true, true, true, true, true, false, false, true, false, false, false, true, false]) 9 (by kernel_rfl) rfl rfl rfl rfl rfl (op_sub (z := 31) rfl rfl (by decide)) ?_
  refine ds_t (listed' := #[true, true, true, true, true, true, true, true, true, true, true, false, true, false, false, false, true, false]) 10 (by kernel_rfl) rfl rfl rfl rfl rfl (op_shl (z := 2147483648) rfl rfl (by decide) (by decide)) ?_
  refine ds_t (listed' := #[true, true, true, true, true, true, true, true, true, true, true, true, true, false, false, false, true, false]) 11 (by kernel_rfl) rfl rfl rfl rfl rfl (op_bits (z := 2147483648) rfl rfl (by decide)) ?_
  refine ds_r (listed' := #[true, true, true, true, true, true, true, true, true, true, true, true, true, true, false, false, true, false]) 13 (by kernel_rfl) rfl rfl rfl rfl rfl 1 rfl (op_load rfl ag_3 rfl) ?_
  refine ds_t (listed' := #[true, true, true, true, true, true, true, true, true, true, true, true, true, true, true, false, true, false]) 14 (by kernel_rfl) rfl rfl rfl rfl rfl (op_add (z := 1) rfl rfl (by decide)) ?_
  refine ds_t (listed' := #[true, true, true, true, true, true, true, true, true, true, true, true, true, true, true, true, true, false]) 15 (by kernel_rfl) rfl rfl rfl rfl rfl (op_build (qs := [(0, .int .u32 2147483648), (1, .int .i64 1)]) (vs := [.int .u32 2147483648, .int .i64 1]) rfl (by kernel_rfl)) ?_
  refine ds_x (s' := 1) (listed' := #[true, true, true, true, true, true, true, true, true, true, true, true, true, true, true, true, true, true]) 17 (by kernel_rfl) rfl rfl rfl rfl (op_call (vs := [.pointer none, .agg #[.int .u32 2147483648, .int .i64 1], .func (.func 139) #[] #[.pointer (some ⟨b2, 0, none⟩)]]) cl_138 (awk31 b2) rfl [0] (by exact rfl) rfl) [] (fun _ => ⟨_, rfl⟩) ?_
  rintro ⟨⟩ -
  refine ds_normv (u := .tuple #[]) (Qs := [Blk b2 (.cells [.slice none 0 0].toArray 256 (0, 0)), _, _, _, _]) rfl rfl ?_
  refine ds_done rfl ?_
  exact dn_end (vs := []) () (by exact rfl) (by exact rfl) (by exact rfl) (by trivial) [0, 1, 1, 1] (Rs := [Blk b1001 (.cells [.int .u32 0, .int .i64 0].toArray 68 (0, 0))]) (by kernel_rfl) (by exact .inr rfl)
/-- (*crossbuck/trie.Tree).All -/
theorem awk28 (b1 : Nat) (b2 : Nat) : Tri Tryz.prog 114 [.pointer (some ⟨b1, 1, none⟩)].toArray [Blk b1 (.cells [.map (some b2), .slice none 0 0, .pointer none, .pointer none, .int .i64 0].toArray 161 (0, 0)), Blk b2 (.map #[] 0)] (X := Unit) (fun _ => .slice none 0 0) (fun _ => True) (fun _ => [Blk b1 (.cells [.map (some b2), .slice none 0 0, .pointer none, .pointer none, .int .i64 0].toArray 161 (0, 0)), Blk b2 (.map #[] 0)]) := by
  refine tri_intro (n := 13) (vs := [.pointer (some ⟨b1, 1, none⟩)]) Tryz.func114 rfl rfl rfl (fun R E => ?_)
  show Dn E 13 [] _ [(0, .pointer (some ⟨b1, 1, none⟩))] [Blk b1 (.cells [.map (some b2), .slice none 0 0, .pointer none, .pointer none, .int .i64 0].toArray 161 (0, 0)), Blk b2 (.map #[] 0), R]
  refine dn_seq ?_
  refine dn_reg ?_
  refine dl_t rfl rfl rfl (op_assign rfl) ?_
  refine dn_done ?_
  refine dn_then ?_
  refine dn_seq ?_
  refine dn_seq ?_
  refine dn_reg ?_
  refine dl_t rfl rfl rfl (op_move rfl) ?_
  refine dl_t rfl rfl rfl (op_ptreql rfl rfl pt_293 rfl) ?_
  refine dn_done ?_
  refine dn_then ?_
  refine dn_cond_false rfl ?_
  refine dn_skip ?_
  refine dn_then ?_
  refine dn_seq ?_
  refine dn_reg ?_
  refine dl_e rfl (op_alloc (vs := [.slice none 0 0]) zr_256 rfl rfl) ?_
  rintro b1001 -
  refine dn_norm (Qs := [_, _, _, _]) rfl ?_
  refine dn_done ?_
  refine dn_then ?_
  refine dn_seq ?_
  refine dn_reg ?_
  refine dl_t rfl rfl rfl (op_move rfl) ?_
  refine dl_t rfl rfl rfl (op_nilCheck rfl) ?_
  refine dl_t rfl rfl rfl (op_fieldAddr (i' := 1) rfl fd_159_0 rfl) ?_
  refine dl_t rfl rfl rfl (op_build (qs := []) (vs := [.int .u32 0, .int .i64 0]) rfl (by kernel_rfl)) ?_
  refine dl_t rfl rfl rfl (op_makeFunc (vs := []) (us := [.pointer (some ⟨b1001, 0, none⟩)]) rfl rfl) ?_
  refine dl_e rfl (op_call (vs := [.pointer (some ⟨b1, 1, none⟩), .agg #[.int .u32 0, .int .i64 0], .func (.func 139) #[] #[.pointer (some ⟨b1001, 0, none⟩)]]) cl_138 (awk29 b1 b1001 b2) rfl [0, 0, 0] (by exact rfl) rfl) ?_
  rintro ⟨⟩ -
  refine dn_normv (u := .tuple #[]) (Qs := [Blk b1001 (.cells [.slice none 0 0].toArray 256 (0, 0)), Blk b1 (.cells [.map (some b2), .slice none 0 0, .pointer none, .pointer none, .int .i64 0].toArray 161 (0, 0)), Blk b2 (.map #[] 0), _]) rfl rfl ?_
  refine dn_done ?_
  refine dn_then ?_
  refine dn_seq ?_
  refine dn_reg ?_
  refine dl_r 0 rfl rfl rfl rfl (op_load rfl ag_256 rfl) ?_
  refine dl_t rfl rfl rfl (op_assign rfl) ?_
  refine dn_done ?_
  refine dn_then ?_
  refine dn_ret ?_
  exact dn_end (vs := [.slice none 0 0]) () (by exact rfl) (by exact rfl) (by exact rfl) (by trivial) [1, 1, 1] (by exact rfl) (by exact .inl rfl)
/-- math/bits.Len64 -/
theorem awk35  : Tri Tryz.prog 188 [.int .u64 0].toArray [] (X := Unit) (fun _ => .int .i64 0) (fun _ => True) (fun _ => []) := by
  refine tri_intro (n := 25) (vs := [.int .u64 0]) Tryz.func188 rfl rfl rfl (fun R E => ?_)
  show Dn E 25 [] _ [(0, .int .u64 0)] [R]
  refine dn_seq ?_
  refine dn_reg ?_
  refine dl_t rfl rfl rfl (op_assign rfl) ?_
  refine dn_done ?_
  refine dn_then ?_
  refine dn_seq ?_
  refine dn_seq ?_
  refine dn_reg ?_
  refine dl_t rfl rfl rfl (op_move rfl) ?_
  refine dl_t rfl rfl rfl (op_cmpc (b := false) rfl rfl rfl) ?_
  refine dn_done ?_
  refine dn_then ?_
  refine dn_cond_false rfl ?_
  refine dn_skip ?_
  refine dn_then ?_
  refine dn_seq ?_
  refine dn_seq ?_
  refine dn_reg ?_
  refine dl_t rfl rfl rfl (op_move rfl) ?_
  refine dl_t rfl rfl rfl (op_cmpc (b := false) rfl rfl rfl) ?_
  refine dn_done ?_
  refine dn_then ?_
  refine dn_cond_false rfl ?_
  refine dn_skip ?_
  refine dn_then ?_
  refine dn_seq ?_
  refine dn_seq ?_
  refine dn_reg ?_
  refine dl_t rfl rfl rfl (op_move rfl) ?_
  refine dl_t rfl rfl rfl (op_cmpc (b := false) rfl rfl rfl) ?_
  refine dn_done ?_
  refine dn_then ?_
  refine dn_cond_false rfl ?_
  refine dn_skip ?_
  refine dn_then ?_
  refine dn_seq ?_
  refine dn_reg ?_
  refine dl_t rfl rfl rfl (op_move rfl) ?_
  refine dl_t rfl rfl rfl (op_move rfl) ?_
  refine dl_t rfl rfl rfl (op_conv (z := 0) rfl Tryz.underlying32 ik_5 (by decide)) ?_
  refine dl_t rfl rfl rfl (op_indexStr (c := 0) rfl rfl st_9 (by decide) rfl rfl) ?_
  refine dl_t rfl rfl rfl (op_conv (z := 0) rfl Tryz.underlying5 ik_3 (by decide)) ?_
  refine dl_t rfl rfl rfl (op_add (z := 0) rfl rfl (by decide)) ?_
  refine dl_t rfl rfl rfl (op_assign rfl) ?_
  refine dn_done ?_
  refine dn_then ?_
  refine dn_ret ?_
  exact dn_end (vs := [.int .i64 0]) () (by exact rfl) (by exact rfl) (by exact rfl) (by trivial) [0] (by exact rfl) (by exact .inl rfl)
/-- math/bits.Len -/
theorem awk34  : Tri Tryz.prog 169 [.int .u64 0].toArray [] (X := Unit) (fun _ => .int .i64 0) (fun _ => True) (fun _ => []) := by
  refine tri_intro (n := 8) (vs := [.int .u64 0]) Tryz.func169 rfl rfl rfl (fun R E => ?_)
  show Dn E 8 [] _ [(0, .int .u64 0)] [R]
  refine dn_seq ?_
  refine dn_reg ?_
  refine dl_t rfl rfl rfl (op_assign rfl) ?_
  refine dn_done ?_
  refine dn_then ?_
  refine dn_seq ?_
  refine dn_cond_false rfl ?_
  refine dn_skip ?_
  refine dn_then ?_
  refine dn_seq ?_
  refine dn_reg ?_
  refine dl_t rfl rfl rfl (op_move rfl) ?_
  refine dl_e rfl (op_call (vs := [.int .u64 0]) cl_188 (awk35) rfl [] (by exact rfl) rfl) ?_
  rintro ⟨⟩ -
  refine dn_normv (u := .int .i64 0) (Qs := [_]) rfl rfl ?_
  refine dl_t rfl rfl rfl (op_assign rfl) ?_
  refine dn_done ?_
  refine dn_then ?_
  refine dn_ret ?_
  exact dn_end (vs := [.int .i64 0]) () (by exact rfl) (by exact rfl) (by exact rfl) (by trivial) [0] (by exact rfl) (by exact .inl rfl)
/-- slices.insertionSortCmpFunc[crossbuck/api.Rule] -/
theorem awk37  : Tri Tryz.prog 179 [.slice none 0 0, .int .i64 0, .int .i64 0, .func (.func 137) #[] #[]].toArray [] (X := Unit) (fun _ => .tuple #[]) (fun _ => True) (fun _ => []) := by
  refine tri_intro (n := 53) (vs := [.slice none 0 0, .int .i64 0, .int .i64 0, .func (.func 137) #[] #[]]) Tryz.func179 rfl rfl rfl (fun R E => ?_)
  show Dn E 53 [] _ [(0, .slice none 0 0), (1, .int .i64 0), (2, .int .i64 0), (3, .func (.func 137) #[] #[])] [R]
  refine dn_seq ?_
  refine dn_reg ?_
  refine dl_t rfl rfl rfl (op_move rfl) ?_
  refine dl_t rfl rfl rfl (op_add (z := 1) rfl rfl (by decide)) ?_
  refine dl_t rfl rfl rfl (op_assign rfl) ?_
  refine dn_done ?_
  refine dn_then ?_
  refine dn_block ?_
  refine dn_loop0 ?_
  refine dn_round ?_
  refine dn_seq ?_
  refine dn_seq ?_
  refine dn_reg ?_
  refine dl_t rfl rfl rfl (op_move rfl) ?_
  refine dl_t rfl rfl rfl (op_move rfl) ?_
  refine dl_t rfl rfl rfl (op_cmpc (b := false) rfl rfl rfl) ?_
  refine dn_done ?_
  refine dn_then ?_
  refine dn_cond_false rfl ?_
  refine dn_exit ?_
  refine dn_thenX ?_
  refine dn_thenX ?_
  refine dn_inBX ?_
  exact dn_end (vs := []) () (by exact rfl) (by exact rfl) (by exact rfl) (by trivial) [0] (by exact rfl) (by exact .inr rfl)
/-- slices.pdqsortCmpFunc[crossbuck/api.Rule] -/
theorem awk36  : Tri Tryz.prog 168 [.slice none 0 0, .int .i64 0, .int .i64 0, .int .i64 0, .func (.func 137) #[] #[]].toArray [] (X := Unit) (fun _ => .tuple #[]) (fun _ => True) (fun _ => []) := by
  refine tri_intro (n := 148) (vs := [.slice none 0 0, .int .i64 0, .int .i64 0, .int .i64 0, .func (.func 137) #[] #[]]) Tryz.func168 rfl rfl rfl (fun R E => ?_)
  show Dn E 148 [] _ [(0, .slice none 0 0), (1, .int .i64 0), (2, .int .i64 0), (3, .int .i64 0), (4, .func (.func 137) #[] #[])] [R]
  refine dn_seq ?_
  refine dn_reg ?_
  refine dl_t rfl rfl rfl (op_assign rfl) ?_
  refine dn_done ?_
  refine dn_then ?_
  refine dn_seq ?_
  refine dn_reg ?_
  refine dl_t rfl rfl rfl (op_assign rfl) ?_
  refine dn_done ?_
  refine dn_then ?_
  refine dn_block ?_
  refine dn_loop0 ?_
  refine dn_round ?_
  refine dn_block ?_
  refine dn_seq ?_
  refine dn_reg ?_
  refine dl_t rfl rfl rfl (op_move rfl) ?_
  refine dl_t rfl rfl rfl (op_move rfl) ?_
  refine dl_t rfl rfl rfl (op_sub (z := 0) rfl rfl (by decide)) ?_
  refine dl_t rfl rfl rfl (op_assign rfl) ?_
  refine dn_done ?_
  refine dn_then ?_
  refine dn_seq ?_
  refine dn_seq ?_
  refine dn_reg ?_
  refine dl_t rfl rfl rfl (op_move rfl) ?_
  refine dl_t rfl rfl rfl (op_cmpc (b := true) rfl rfl rfl) ?_
  refine dn_done ?_
  refine dn_then ?_
  refine dn_cond_true rfl ?_
  refine dn_seq ?_
  refine dn_reg ?_
  refine dl_t rfl rfl rfl (op_move rfl) ?_
  refine dl_t rfl rfl rfl (op_move rfl) ?_
  refine dl_t rfl rfl rfl (op_move rfl) ?_
  refine dl_t rfl rfl rfl (op_move rfl) ?_
  refine dl_e rfl (op_call (vs := [.slice none 0 0, .int .i64 0, .int .i64 0, .func (.func 137) #[] #[]]) cl_179 (awk37) rfl [] (by exact rfl) rfl) ?_
  rintro ⟨⟩ -
  refine dn_normv (u := .tuple #[]) (Qs := [_]) rfl rfl ?_
  refine dn_done ?_
  refine dn_then ?_
  refine dn_ret ?_
  refine dn_thenR ?_
  refine dn_inBR ?_
  refine dn_thenR ?_
  refine dn_inBR ?_
  exact dn_end (vs := []) () (by exact rfl) (by exact rfl) (by exact rfl) (by trivial) [0] (by exact rfl) (by exact .inl rfl)
/-- slices.SortFunc[[]crossbuck/api.Rule,crossbuck/api.Rule] -/
theorem awk33  : Tri Tryz.prog 136 [.slice none 0 0, .func (.func 137) #[] #[]].toArray [] (X := Unit) (fun _ => .tuple #[]) (fun _ => True) (fun _ => []) := by
  refine tri_intro (n := 14) (vs := [.slice none 0 0, .func (.func 137) #[] #[]]) Tryz.func136 rfl rfl rfl (fun R E => ?_)
  show Dn E 14 [] _ [(0, .slice none 0 0), (1, .func (.func 137) #[] #[])] [R]
  refine dn_seq ?_
  refine dn_reg ?_
  refine dl_t rfl rfl rfl (op_move rfl) ?_
  refine dl_t rfl rfl rfl (op_len rfl el_228) ?_
  refine dl_t rfl rfl rfl (op_assign rfl) ?_
  refine dn_done ?_
  refine dn_then ?_
  refine dn_reg ?_
  refine dl_t rfl rfl rfl (op_move rfl) ?_
  refine dl_t rfl rfl rfl (op_move rfl) ?_
  refine dl_t rfl rfl rfl (op_move rfl) ?_
  refine dl_t rfl rfl rfl (op_conv (z := 0) rfl Tryz.underlying3 ik_146 (by decide)) ?_
  refine dl_e rfl (op_call (vs := [.int .u64 0]) cl_169 (awk34) rfl [] (by exact rfl) rfl) ?_
  rintro ⟨⟩ -
  refine dn_normv (u := .int .i64 0) (Qs := [_]) rfl rfl ?_
  refine dl_t rfl rfl rfl (op_move rfl) ?_
  refine dl_e rfl (op_call (vs := [.slice none 0 0, .int .i64 0, .int .i64 0, .int .i64 0, .func (.func 137) #[] #[]]) cl_168 (awk36) rfl [] (by exact rfl) rfl) ?_
  rintro ⟨⟩ -
  refine dn_normv (u := .tuple #[]) (Qs := [_]) rfl rfl ?_
  refine dn_done ?_
  exact dn_end (vs := []) () (by exact rfl) (by exact rfl) (by exact rfl) (by trivial) [0] (by exact rfl) (by exact .inr rfl)
/-- (*crossbuck/table.Table).sorted -/
theorem awk32 (b1 : Nat) (b2 : Nat) : Tri Tryz.prog 113 [.pointer (some ⟨b1, 0, none⟩), .slice none 0 0].toArray [Blk b1 (.cells [.map (some b2), .slice none 0 0, .pointer none, .pointer none, .int .i64 0].toArray 161 (0, 0)), Blk b2 (.map #[] 0)] (X := Unit) (fun _ => .slice none 0 0) (fun _ => True) (fun _ => [Blk b1 (.cells [.map (some b2), .slice none 0 0, .pointer none, .pointer none, .int .i64 0].toArray 161 (0, 0)), Blk b2 (.map #[] 0)]) := by
  refine tri_intro (n := 28) (vs := [.pointer (some ⟨b1, 0, none⟩), .slice none 0 0]) Tryz.func113 rfl rfl rfl (fun R E => ?_)
  show Dn E 28 [] _ [(0, .pointer (some ⟨b1, 0, none⟩)), (1, .slice none 0 0)] [Blk b1 (.cells [.map (some b2), .slice none 0 0, .pointer none, .pointer none, .int .i64 0].toArray 161 (0, 0)), Blk b2 (.map #[] 0), R]
  refine dn_seq ?_
  refine dn_reg ?_
  refine dl_t rfl rfl rfl (op_assign rfl) ?_
  refine dn_done ?_
  refine dn_then ?_
  refine dn_seq ?_
  refine dn_reg ?_
  refine dl_t rfl rfl rfl (op_assign rfl) ?_
  refine dn_done ?_
  refine dn_then ?_
  refine dn_seq ?_
  refine dn_seq ?_
  refine dn_reg ?_
  refine dl_t rfl rfl rfl (op_move rfl) ?_
  refine dl_t rfl rfl rfl (op_len rfl el_256) ?_
  refine dl_t rfl rfl rfl (op_move rfl) ?_
  refine dn_done ?_
  refine dn_then ?_
  refine dn_block ?_
  refine dn_loop0 ?_
  refine dn_round ?_
  refine dn_seq ?_
  refine dn_reg ?_
  refine dl_t rfl rfl rfl (op_cmpc (b := false) rfl rfl rfl) ?_
  refine dn_done ?_
  refine dn_then ?_
  refine dn_seq ?_
  refine dn_cond_false rfl ?_
  refine dn_exit ?_
  refine dn_thenX ?_
  refine dn_thenX ?_
  refine dn_inBX ?_
  refine dn_then ?_
  refine dn_seq ?_
  refine dn_reg ?_
  refine dl_t rfl rfl rfl (op_move rfl) ?_
  refine dl_e rfl (op_call (vs := [.slice none 0 0, .func (.func 137) #[] #[]]) cl_136 (awk33) rfl [] (by exact rfl) rfl) ?_
  rintro ⟨⟩ -
  refine dn_normv (u := .tuple #[]) (Qs := [_, _, _]) rfl rfl ?_
  refine dn_done ?_
  refine dn_then ?_
  refine dn_seq ?_
  refine dn_reg ?_
  refine dl_t rfl rfl rfl (op_move rfl) ?_
  refine dl_t rfl rfl rfl (op_assign rfl) ?_
  refine dn_done ?_
  refine dn_then ?_
  refine dn_ret ?_
  exact dn_end (vs := [.slice none 0 0]) () (by exact rfl) (by exact rfl) (by exact rfl) (by trivial) [0, 0, 0] (by exact rfl) (by exact .inl rfl)
/-- (*crossbuck/table.Table).Rules -/
theorem awk27 (b1 : Nat) (b2 : Nat) : Tri Tryz.prog 95 [.pointer (some ⟨b1, 0, none⟩)].toArray [Blk b1 (.cells [.map (some b2), .slice none 0 0, .pointer none, .pointer none, .int .i64 0].toArray 161 (0, 0)), Blk b2 (.map #[] 0)] (X := Unit) (fun _ => .slice none 0 0) (fun _ => True) (fun _ => [Blk b1 (.cells [.map (some b2), .slice none 0 0, .pointer none, .pointer none, .int .i64 0].toArray 161 (0, 0)), Blk b2 (.map #[] 0)]) := by
  refine tri_intro (n := 11) (vs := [.pointer (some ⟨b1, 0, none⟩)]) Tryz.func95 rfl rfl rfl (fun R E => ?_)
  show Dn E 11 [] _ [(0, .pointer (some ⟨b1, 0, none⟩))] [Blk b1 (.cells [.map (some b2), .slice none 0 0, .pointer none, .pointer none, .int .i64 0].toArray 161 (0, 0)), Blk b2 (.map #[] 0), R]
  refine dn_seq ?_
  refine dn_reg ?_
  refine dl_t rfl rfl rfl (op_assign rfl) ?_
  refine dn_done ?_
  refine dn_then ?_
  refine dn_seq ?_
  refine dn_seq ?_
  refine dn_reg ?_
  refine dl_t rfl rfl rfl (op_move rfl) ?_
  refine dl_t rfl rfl rfl (op_ptreql rfl rfl pt_120 rfl) ?_
  refine dn_done ?_
  refine dn_then ?_
  refine dn_cond_false rfl ?_
  refine dn_skip ?_
  refine dn_then ?_
  refine dn_seq ?_
  refine dn_reg ?_
  refine dl_t rfl rfl rfl (op_move rfl) ?_
  refine dl_t rfl rfl rfl (op_move rfl) ?_
  refine dl_t rfl rfl rfl (op_nilCheck rfl) ?_
  refine dl_t rfl rfl rfl (op_fieldAddr (i' := 1) rfl fd_161_1 rfl) ?_
  refine dl_e rfl (op_call (vs := [.pointer (some ⟨b1, 1, none⟩)]) cl_114 (awk28 b1 b2) rfl [0, 0] (by exact rfl) rfl) ?_
  rintro ⟨⟩ -
  refine dn_normv (u := .slice none 0 0) (Qs := [Blk b1 (.cells [.map (some b2), .slice none 0 0, .pointer none, .pointer none, .int .i64 0].toArray 161 (0, 0)), Blk b2 (.map #[] 0), _]) rfl rfl ?_
  refine dl_e rfl (op_call (vs := [.pointer (some ⟨b1, 0, none⟩), .slice none 0 0]) cl_113 (awk32 b1 b2) rfl [0, 0] (by exact rfl) rfl) ?_
  rintro ⟨⟩ -
  refine dn_normv (u := .slice none 0 0) (Qs := [Blk b1 (.cells [.map (some b2), .slice none 0 0, .pointer none, .pointer none, .int .i64 0].toArray 161 (0, 0)), Blk b2 (.map #[] 0), _]) rfl rfl ?_
  refine dl_t rfl rfl rfl (op_assign rfl) ?_
  refine dn_done ?_
  refine dn_then ?_
  refine dn_ret ?_
  exact dn_end (vs := [.slice none 0 0]) () (by exact rfl) (by exact rfl) (by exact rfl) (by trivial) [0, 0, 0] (by exact rfl) (by exact .inl rfl)
/-- crossbuck/port.Of -/
theorem awk26 (b1 : Nat) (b2 : Nat) (b3 : Nat) (b4 : Nat) (b5 : Nat) : Tri Tryz.prog 78 [.pointer (some ⟨b1, 0, none⟩), .pointer (some ⟨b2, 0, none⟩), .int .i64 1, .int .i64 1].toArray [Blk b1 (.cells [.slice (some ⟨b3, 0, none⟩) 2 2, .map (some b4), .int .i64 100].toArray 167 (0, 0)), Blk b4 (.map #[] 0), Blk b3 (.cells [.int .i64 104, .int .i64 0, .int .i64 0, .int .i64 104, .int .i64 0, .int .i64 0].toArray 163 (0, 0)), Blk b2 (.cells [.map (some b5), .slice none 0 0, .pointer none, .pointer none, .int .i64 0].toArray 161 (0, 0)), Blk b5 (.map #[] 0)] (X := Nat) (fun x => .tuple #[.agg #[.slice (some ⟨x, 0, none⟩) 1 1, .int .i64 0, .int .i64 1], .int .i64 0]) (fun _ => True) (fun x => [Blk b2 (.cells [.map (some b5), .slice none 0 0, .pointer none, .pointer none, .int .i64 0].toArray 161 (0, 0)), Blk b5 (.map #[] 0), Blk x (.cells [.int .i64 0].toArray 3 (0, 0)), Blk b1 (.cells [.slice (some ⟨b3, 0, none⟩) 2 2, .map (some b4), .int .i64 100].toArray 167 (0, 0)), Blk b4 (.map #[] 0), Blk b3 (.cells [.int .i64 104, .int .i64 0, .int .i64 0, .int .i64 104, .int .i64 0, .int .i64 0].toArray 163 (0, 0))]) := by
  refine tri_intro (n := 58) (vs := [.pointer (some ⟨b1, 0, none⟩), .pointer (some ⟨b2, 0, none⟩), .int .i64 1, .int .i64 1]) Tryz.func78 rfl rfl rfl (fun R E => ?_)
  show Dn E 58 [] _ [(0, .pointer (some ⟨b1, 0, none⟩)), (1, .pointer (some ⟨b2, 0, none⟩)), (2, .int .i64 1), (3, .int .i64 1)] [Blk b1 (.cells [.slice (some ⟨b3, 0, none⟩) 2 2, .map (some b4), .int .i64 100].toArray 167 (0, 0)), Blk b4 (.map #[] 0), Blk b3 (.cells [.int .i64 104, .int .i64 0, .int .i64 0, .int .i64 104, .int .i64 0, .int .i64 0].toArray 163 (0, 0)), Blk b2 (.cells [.map (some b5), .slice none 0 0, .pointer none, .pointer none, .int .i64 0].toArray 161 (0, 0)), Blk b5 (.map #[] 0), R]
  refine dn_seq ?_
  refine dn_reg ?_
  refine dl_e rfl (op_alloc (vs := [.slice none 0 0, .int .i64 0, .int .i64 0]) zr_211 rfl rfl) ?_
  rintro b1001 -
  refine dn_norm (Qs := [_, _, _, _, _, _, _]) rfl ?_
  refine dl_t rfl rfl rfl (op_assign rfl) ?_
  refine dn_done ?_
  refine dn_then ?_
  refine dn_seq ?_
  refine dn_block ?_
  refine dn_seq ?_
  refine dn_reg ?_
  refine dl_t rfl rfl rfl (op_move rfl) ?_
  refine dl_t rfl rfl rfl (op_ptreql rfl rfl pt_122 rfl) ?_
  refine dl_t rfl rfl rfl (op_assign rfl) ?_
  refine dn_done ?_
  refine dn_then ?_
  refine dn_cond_false rfl ?_
  refine dn_seq ?_
  refine dn_reg ?_
  refine dl_t rfl rfl rfl (op_move rfl) ?_
  refine dl_t rfl rfl rfl (op_move rfl) ?_
  refine dl_e rfl (op_call (vs := [.pointer (some ⟨b1, 0, none⟩), .int .i64 1]) cl_61 (awk24 b1 b3 b4) rfl [1, 1, 1] (by exact rfl) rfl) ?_
  rintro ⟨⟩ -
  refine dn_normv (u := .bool true) (Qs := [Blk b1 (.cells [.slice (some ⟨b3, 0, none⟩) 2 2, .map (some b4), .int .i64 100].toArray 167 (0, 0)), Blk b4 (.map #[] 0), Blk b3 (.cells [.int .i64 104, .int .i64 0, .int .i64 0, .int .i64 104, .int .i64 0, .int .i64 0].toArray 163 (0, 0)), _, _, _, _]) rfl rfl ?_
  refine dl_t rfl rfl rfl (op_notc rfl rfl) ?_
  refine dl_t rfl rfl rfl (op_move rfl) ?_
  refine dl_wt rfl rfl rfl rfl rfl rfl (op_move rfl) ?_
  refine dl_wt rfl rfl rfl rfl rfl rfl (op_cmpc (b := false) rfl rfl rfl) ?_
  refine dl_t rfl rfl rfl (op_pick (b := false) rfl rfl) ?_
  refine dl_t rfl rfl rfl (op_move rfl) ?_
  refine dl_wt rfl rfl rfl rfl rfl rfl (op_move rfl) ?_
  refine dl_wt rfl rfl rfl rfl rfl rfl (op_cmpc (b := false) rfl rfl rfl) ?_
  refine dl_t rfl rfl rfl (op_pick (b := false) rfl rfl) ?_
  refine dl_t rfl rfl rfl (op_assign rfl) ?_
  refine dn_done ?_
  refine dn_then ?_
  refine dn_cond_false rfl ?_
  refine dn_skip ?_
  refine dn_inB ?_
  refine dn_then ?_
  refine dn_seq ?_
  refine dn_reg ?_
  refine dl_t rfl rfl rfl (op_move rfl) ?_
  refine dl_e rfl (op_call (vs := [.pointer (some ⟨b1, 0, none⟩)]) cl_45 (awk22 b1 b3 b4) rfl [0, 0, 0] (by exact rfl) rfl) ?_
  rintro ⟨⟩ -
  refine dn_normv (u := .int .i64 2) (Qs := [Blk b1 (.cells [.slice (some ⟨b3, 0, none⟩) 2 2, .map (some b4), .int .i64 100].toArray 167 (0, 0)), Blk b4 (.map #[] 0), Blk b3 (.cells [.int .i64 104, .int .i64 0, .int .i64 0, .int .i64 104, .int .i64 0, .int .i64 0].toArray 163 (0, 0)), _, _, _, _]) rfl rfl ?_
  refine dl_t rfl rfl rfl (op_assign rfl) ?_
  refine dn_done ?_
  refine dn_then ?_
  refine dn_seq ?_
  refine dn_reg ?_
  refine dl_t rfl rfl rfl (op_move rfl) ?_
  refine dl_e rfl (op_makeSlice (len := 1) (cap := 1) (zs := [.int .i64 0]) (vs := [.int .i64 0]) rfl rfl el_49 sz_3 zr_3 by_3 rfl rfl (by decide) (by decide) (by decide) rfl rfl) ?_
  rintro b1002 -
  refine dn_norm (Qs := [_, _, _, _, _, _, _, _]) rfl ?_
  refine dl_t rfl rfl rfl (op_move rfl) ?_
  refine dl_t rfl rfl rfl (op_build (qs := [(0, .slice (some ⟨b1002, 0, none⟩) 1 1), (2, .int .i64 1)]) (vs := [.slice (some ⟨b1002, 0, none⟩) 1 1, .int .i64 0, .int .i64 1]) rfl (by kernel_rfl)) ?_
  refine dl_e rfl (op_alloc (vs := [.slice none 0 0, .int .i64 0, .int .i64 0]) zr_211 rfl rfl) ?_
  rintro b1003 -
  refine dn_norm (Qs := [_, _, _, _, _, _, _, _, _]) rfl ?_
  refine dl_s rfl (op_store (vs := [.slice (some ⟨b1002, 0, none⟩) 1 1, .int .i64 0, .int .i64 1]) (l' := [.slice (some ⟨b1002, 0, none⟩) 1 1, .int .i64 0, .int .i64 1]) 0 rfl rfl rfl sz_211 rfl rfl rfl rfl rfl) ?_
  refine dn_norm (Qs := [_, _, _, _, _, _, _, _, _]) rfl ?_
  refine dn_done ?_
  refine dn_then ?_
  refine dn_seq ?_
  refine dn_seq ?_
  refine dn_reg ?_
  refine dl_t rfl rfl rfl (op_move rfl) ?_
  refine dl_e rfl (op_call (vs := [.pointer (some ⟨b2, 0, none⟩)]) cl_95 (awk27 b2 b5) rfl [6, 6] (by exact rfl) rfl) ?_
  rintro ⟨⟩ -
  refine dn_normv (u := .slice none 0 0) (Qs := [Blk b2 (.cells [.map (some b5), .slice none 0 0, .pointer none, .pointer none, .int .i64 0].toArray 161 (0, 0)), Blk b5 (.map #[] 0), _, _, _, _, _, _, _]) rfl rfl ?_
  refine dl_t rfl rfl rfl (op_len rfl el_228) ?_
  refine dl_t rfl rfl rfl (op_move rfl) ?_
  refine dn_done ?_
  refine dn_then ?_
  refine dn_block ?_
  refine dn_loop0 ?_
  refine dn_round ?_
  refine dn_seq ?_
  refine dn_reg ?_
  refine dl_t rfl rfl rfl (op_cmpc (b := false) rfl rfl rfl) ?_
  refine dn_done ?_
  refine dn_then ?_
  refine dn_seq ?_
  refine dn_cond_false rfl ?_
  refine dn_exit ?_
  refine dn_thenX ?_
  refine dn_thenX ?_
  refine dn_inBX ?_
  refine dn_then ?_
  refine dn_seq ?_
  refine dn_reg ?_
  refine dl_r 2 rfl rfl rfl rfl (op_loadN rfl ag_211 sz_211 rfl rfl) ?_
  refine dl_s rfl (op_store (vs := [.slice (some ⟨b1002, 0, none⟩) 1 1, .int .i64 0, .int .i64 1]) (l' := [.slice (some ⟨b1002, 0, none⟩) 1 1, .int .i64 0, .int .i64 1]) 7 rfl rfl rfl sz_211 rfl rfl rfl rfl rfl) ?_
  refine dn_norm (Qs := [_, _, _, _, _, _, _, _, _]) rfl ?_
  refine dl_t rfl rfl rfl (op_assign rfl) ?_
  refine dn_done ?_
  refine dn_then ?_
  refine dn_ret ?_
  exact dn_endc (vs := [.agg #[.slice (some ⟨b1002, 0, none⟩) 1 1, .int .i64 0, .int .i64 1], .int .i64 0]) b1002 (by exact rfl) (by exact res_cellN (us := [.slice (some ⟨b1002, 0, none⟩) 1 1, .int .i64 0, .int .i64 1]) (j := 0) rfl rfl ag_211 sz_211 rfl rfl (res_tmp rfl (res_nil))) (by exact rfl) (by trivial) [1, 1, 2, 2, 2, 2, 2] (Rs := [Blk b1001 (.cells [.slice (some ⟨b1002, 0, none⟩) 1 1, .int .i64 0, .int .i64 1].toArray 211 (0, 0)), Blk b1003 (.cells [.slice (some ⟨b1002, 0, none⟩) 1 1, .int .i64 0, .int .i64 1].toArray 211 (0, 0))]) (by kernel_rfl) (by exact .inl rfl)
/-- (*crossbuck/graph.maker).device -/
theorem awk25 (b1 : Nat) (b2 : Nat) (b3 : Nat) (b4 : Nat) (b5 : Nat) (b6 : Nat) (b7 : Nat) (a1 : Option Addr) (c1 : Nat) (b8 : Nat) (b9 : Nat) : Tri Tryz.prog 62 [.pointer (some ⟨b1, 0, none⟩), .int .i64 0].toArray [Blk b1 (.cells [.pointer (some ⟨b2, 0, none⟩), .pointer (some ⟨b3, 0, none⟩), .pointer (some ⟨b4, 0, none⟩)].toArray 178 (0, 0)), Blk b4 (.cells [.int .i64 1, .slice none 0 0, .slice none 0 0].toArray 176 (0, 0)), Blk b2 (.cells [.slice (some ⟨b5, 0, none⟩) 2 2, .map (some b6), .int .i64 100].toArray 167 (0, 0)), Blk b6 (.map #[] 0), Blk b5 (.cells [.int .i64 104, .int .i64 0, .int .i64 0, .int .i64 104, .int .i64 0, .int .i64 0].toArray 163 (0, 0)), Blk b3 (.cells [.slice (some ⟨b7, 0, none⟩) 1 1, .slice none 0 0, .slice none 0 0, .slice a1 1 c1].toArray 119 (0, 0)), OwnS 120 1 a1 1 c1 [.pointer (some ⟨b8, 0, none⟩)], Blk b8 (.cells [.map (some b9), .slice none 0 0, .pointer none, .pointer none, .int .i64 0].toArray 161 (0, 0)), Blk b9 (.map #[] 0), Blk b7 (.cells [.int .i64 1].toArray 3 (0, 0))] (X := Option Addr × Nat × Nat) (fun x => .int .i64 0) (fun _ => True) (fun x => [Blk b4 (.cells [.int .i64 1, .slice x.1 1 x.2.1, .slice none 0 0].toArray 176 (0, 0)), OwnS 215 3 x.1 1 x.2.1 [.int .i64 1, .int .i64 0, .int .i64 0], Blk b8 (.cells [.map (some b9), .slice none 0 0, .pointer none, .pointer none, .int .i64 0].toArray 161 (0, 0)), Blk b9 (.map #[] 0), Blk b2 (.cells [.slice (some ⟨b5, 0, none⟩) 2 2, .map (some b6), .int .i64 100].toArray 167 (0, 0)), Blk b6 (.map #[] 0), Blk b5 (.cells [.int .i64 104, .int .i64 0, .int .i64 0, .int .i64 104, .int .i64 0, .int .i64 0].toArray 163 (0, 0)), OwnS 120 1 (some ⟨x.2.2, 0, none⟩) 1 c1 [.pointer (some ⟨b8, 0, none⟩)], Blk b1 (.cells [.pointer (some ⟨b2, 0, none⟩), .pointer (some ⟨b3, 0, none⟩), .pointer (some ⟨b4, 0, none⟩)].toArray 178 (0, 0)), Blk b3 (.cells [.slice (some ⟨b7, 0, none⟩) 1 1, .slice none 0 0, .slice none 0 0, .slice (some ⟨x.2.2, 0, none⟩) 1 c1].toArray 119 (0, 0)), Blk b7 (.cells [.int .i64 1].toArray 3 (0, 0))]) := by
  refine tri_intro (n := 88) (vs := [.pointer (some ⟨b1, 0, none⟩), .int .i64 0]) Tryz.func62 rfl rfl rfl (fun R E => ?_)
  show Dn E 88 [] _ [(0, .pointer (some ⟨b1, 0, none⟩)), (1, .int .i64 0)] [Blk b1 (.cells [.pointer (some ⟨b2, 0, none⟩), .pointer (some ⟨b3, 0, none⟩), .pointer (some ⟨b4, 0, none⟩)].toArray 178 (0, 0)), Blk b4 (.cells [.int .i64 1, .slice none 0 0, .slice none 0 0].toArray 176 (0, 0)), Blk b2 (.cells [.slice (some ⟨b5, 0, none⟩) 2 2, .map (some b6), .int .i64 100].toArray 167 (0, 0)), Blk b6 (.map #[] 0), Blk b5 (.cells [.int .i64 104, .int .i64 0, .int .i64 0, .int .i64 104, .int .i64 0, .int .i64 0].toArray 163 (0, 0)), Blk b3 (.cells [.slice (some ⟨b7, 0, none⟩) 1 1, .slice none 0 0, .slice none 0 0, .slice a1 1 c1].toArray 119 (0, 0)), OwnS 120 1 a1 1 c1 [.pointer (some ⟨b8, 0, none⟩)], Blk b8 (.cells [.map (some b9), .slice none 0 0, .pointer none, .pointer none, .int .i64 0].toArray 161 (0, 0)), Blk b9 (.map #[] 0), Blk b7 (.cells [.int .i64 1].toArray 3 (0, 0)), R]
  refine dn_seq ?_
  refine dn_reg ?_
  refine dl_t rfl rfl rfl (op_assign rfl) ?_
  refine dn_done ?_
  refine dn_then ?_
  refine dn_cut (α := Nat × Nat × Nat) (fun _ => True) (fun x => [(0, .pointer (some ⟨b1, 0, none⟩)), (1, .int .i64 0), (4, .int .i64 0), (5, .pointer (some ⟨x.1, 0, none⟩)), (6, .int .i64 0)]) (fun x => [Blk x.1 (.cells [.slice (some ⟨x.2.1, 0, none⟩) 1 1, .int .i64 0, .int .i64 1].toArray 211 (0, 0)), Blk b8 (.cells [.map (some b9), .slice none 0 0, .pointer none, .pointer none, .int .i64 0].toArray 161 (0, 0)), Blk b9 (.map #[] 0), Blk x.2.1 (.cells [.int .i64 0].toArray 3 (0, 0)), Blk b2 (.cells [.slice (some ⟨b5, 0, none⟩) 2 2, .map (some b6), .int .i64 100].toArray 167 (0, 0)), Blk b6 (.map #[] 0), Blk b5 (.cells [.int .i64 104, .int .i64 0, .int .i64 0, .int .i64 104, .int .i64 0, .int .i64 0].toArray 163 (0, 0)), OwnS 120 1 (some ⟨x.2.2, 0, none⟩) 1 c1 [.pointer (some ⟨b8, 0, none⟩)], Blk b1 (.cells [.pointer (some ⟨b2, 0, none⟩), .pointer (some ⟨b3, 0, none⟩), .pointer (some ⟨b4, 0, none⟩)].toArray 178 (0, 0)), Blk b4 (.cells [.int .i64 1, .slice none 0 0, .slice none 0 0].toArray 176 (0, 0)), Blk b3 (.cells [.slice (some ⟨b7, 0, none⟩) 1 1, .slice none 0 0, .slice none 0 0, .slice (some ⟨x.2.2, 0, none⟩) 1 c1].toArray 119 (0, 0)), Blk b7 (.cells [.int .i64 1].toArray 3 (0, 0)), R]) ?_ ?_
  ·
    refine dn_pick [6] rfl ?_
    refine dn_own (by decide) ?_
    rintro b1001 sp1 rfl hsp1
    refine dn_norm (Qs := [Blk b1001 (.cells (([.pointer (some ⟨b8, 0, none⟩)] : List Value) ++ sp1).toArray 120 (0, 0)), _, _, _, _, _, _, _, _, _, _]) rfl ?_
    refine dn_any (N := 39) (l0 := #[false, false, false, false, false, false, false, false, false, false, false, false, false, false, false, false, false, false, false, false, false, false, false, false, false, false, false, false, false, false, false, false, false, false, false, false, false, false, false]) mixed (fun i => Nat.beq i 32 || Nat.beq i 37) (fun s => match s with | 0 => [Blk b1 (.cells [.pointer (some ⟨b2, 0, none⟩), .pointer (some ⟨b3, 0, none⟩), .pointer (some ⟨b4, 0, none⟩)].toArray 178 (0, 0)), Blk b3 (.cells [.slice (some ⟨b7, 0, none⟩) 1 1, .slice none 0 0, .slice none 0 0, .slice (some ⟨b1001, 0, none⟩) 1 c1].toArray 119 (0, 0)), Blk b1001 (.cells (([.pointer (some ⟨b8, 0, none⟩)] : List Value) ++ sp1).toArray 120 (0, 0)), Blk b7 (.cells [.int .i64 1].toArray 3 (0, 0)), Blk b4 (.cells [.int .i64 1, .slice none 0 0, .slice none 0 0].toArray 176 (0, 0))] | _ => []) [1, 5, 0, 6, 0] rfl rfl rfl ?_
    refine ds_t (listed' := #[true, false, false, false, false, false, false, false, false, false, false, false, false, false, false, false, false, false, false, false, false, false, false, false, false, false, false, false, false, false, false, false, false, false, false, false, false, false, false]) 0 (by kernel_rfl) rfl rfl rfl rfl rfl (op_move rfl) ?_
    refine ds_t (listed' := #[true, true, false, false, false, false, false, false, false, false, false, false, false, false, false, false, false, false, false, false, false, false, false, false, false, false, false, false, false, false, false, false, false, false, false, false, false, false, false]) 1 (by kernel_rfl) rfl rfl rfl rfl rfl (op_nilCheck rfl) ?_
    refine ds_t (listed' := #[true, true, true, false, false, false, false, false, false, false, false, false, false, false, false, false, false, false, false, false, false, false, false, false, false, false, false, false, false, false, false, false, false, false, false, false, false, false, false]) 2 (by kernel_rfl) rfl rfl rfl rfl rfl (op_fieldAddr (i' := 0) rfl fd_178_0 rfl) ?_
    refine ds_t (listed' := #[true, true, true, false, true, false, false, false, false, false, false, false, false, false, false, false, false, false, false, false, false, false, false, false, false, false, false, false, false, false, false, false, false, false, false, false, false, false, false]) 4 (by kernel_rfl) rfl rfl rfl rfl rfl (op_move rfl) ?_
    refine ds_t (listed' := #[true, true, true, false, true, true, false, false, false, false, false, false, false, false, false, false, false, false, false, false, false, false, false, false, false, false, false, false, false, false, false, false, false, false, false, false, false, false, false]) 5 (by kernel_rfl) rfl rfl rfl rfl rfl (op_nilCheck rfl) ?_
    refine ds_t (listed' := #[true, true, true, false, true, true, true, false, false, false, false, false, false, false, false, false, false, false, false, false, false, false, false, false, false, false, false, false, false, false, false, false, false, false, false, false, false, false, false]) 6 (by kernel_rfl) rfl rfl rfl rfl rfl (op_fieldAddr (i' := 1) rfl fd_178_1 rfl) ?_
    refine ds_t (listed' := #[true, true, true, false, true, true, true, false, false, false, false, true, false, false, false, false, false, false, false, false, false, false, false, false, false, false, false, false, false, false, false, false, false, false, false, false, false, false, false]) 11 (by kernel_rfl) rfl rfl rfl rfl rfl (op_move rfl) ?_
    refine ds_t (listed' := #[true, true, true, false, true, true, true, false, false, false, false, true, false, false, true, false, false, false, false, false, false, false, false, false, false, false, false, false, false, false, false, false, false, false, false, false, false, false, false]) 14 (by kernel_rfl) rfl rfl rfl rfl rfl (op_move rfl) ?_
    refine ds_t (listed' := #[true, true, true, false, true, true, true, false, false, false, false, true, false, false, true, true, false, false, false, false, false, false, false, false, false, false, false, false, false, false, false, false, false, false, false, false, false, false, false]) 15 (by kernel_rfl) rfl rfl rfl rfl rfl (op_nilCheck rfl) ?_
    refine ds_t (listed' := #[true, true, true, false, true, true, true, false, false, false, false, true, false, false, true, true, true, false, false, false, false, false, false, false, false, false, false, false, false, false, false, false, false, false, false, false, false, false, false]) 16 (by kernel_rfl) rfl rfl rfl rfl rfl (op_fieldAddr (i' := 1) rfl fd_178_1 rfl) ?_
    refine ds_t (listed' := #[true, true, true, false, true, true, true, false, false, false, false, true, false, false, true, true, true, false, false, false, false, false, true, false, false, false, false, false, false, false, false, false, false, false, false, false, false, false, false]) 22 (by kernel_rfl) rfl rfl rfl rfl rfl (op_move rfl) ?_
    refine ds_t (listed' := #[true, true, true, false, true, true, true, false, false, false, false, true, false, false, true, true, true, false, false, false, false, false, true, false, false, true, false, false, false, false, false, false, false, false, false, false, false, false, false]) 25 (by kernel_rfl) rfl rfl rfl rfl rfl (op_move rfl) ?_
    refine ds_t (listed' := #[true, true, true, false, true, true, true, false, false, false, false, true, false, false, true, true, true, false, false, false, false, false, true, false, false, true, true, false, false, false, false, false, false, false, false, false, false, false, false]) 26 (by kernel_rfl) rfl rfl rfl rfl rfl (op_nilCheck rfl) ?_
    refine ds_t (listed' := #[true, true, true, false, true, true, true, false, false, false, false, true, false, false, true, true, true, false, false, false, false, false, true, false, false, true, true, true, false, false, false, false, false, false, false, false, false, false, false]) 27 (by kernel_rfl) rfl rfl rfl rfl rfl (op_fieldAddr (i' := 2) rfl fd_178_2 rfl) ?_
    refine ds_r (listed' := #[true, true, true, true, true, true, true, false, false, false, false, true, false, false, true, true, true, false, false, false, false, false, true, false, false, true, true, true, false, false, false, false, false, false, false, false, false, false, false]) 3 (by kernel_rfl) rfl rfl rfl rfl rfl 0 rfl (op_load rfl ag_122 rfl) ?_
    refine ds_r (listed' := #[true, true, true, true, true, true, true, true, false, false, false, true, false, false, true, true, true, false, false, false, false, false, true, false, false, true, true, true, false, false, false, false, false, false, false, false, false, false, false]) 7 (by kernel_rfl) rfl rfl rfl rfl rfl 0 rfl (op_load rfl ag_89 rfl) ?_
    refine ds_t (listed' := #[true, true, true, true, true, true, true, true, true, false, false, true, false, false, true, true, true, false, false, false, false, false, true, false, false, true, true, true, false, false, false, false, false, false, false, false, false, false, false]) 8 (by kernel_rfl) rfl rfl rfl rfl rfl (op_nilCheck rfl) ?_
    refine ds_t (listed' := #[true, true, true, true, true, true, true, true, true, true, false, true, false, false, true, true, true, false, false, false, false, false, true, false, false, true, true, true, false, false, false, false, false, false, false, false, false, false, false]) 9 (by kernel_rfl) rfl rfl rfl rfl rfl (op_fieldAddr (i' := 3) rfl fd_119_1 rfl) ?_
    refine ds_r (listed' := #[true, true, true, true, true, true, true, true, true, true, true, true, false, false, true, true, true, false, false, false, false, false, true, false, false, true, true, true, false, false, false, false, false, false, false, false, false, false, false]) 10 (by kernel_rfl) rfl rfl rfl rfl rfl 1 rfl (op_load rfl ag_117 rfl) ?_
    refine ds_t (listed' := #[true, true, true, true, true, true, true, true, true, true, true, true, true, false, true, true, true, false, false, false, false, false, true, false, false, true, true, true, false, false, false, false, false, false, false, false, false, false, false]) 12 (by kernel_rfl) rfl rfl rfl rfl rfl (op_indexAddr (o' := 0) rfl rfl el_117 sz_120 (by omega) (by omega) (rfl)) ?_
    refine ds_r (listed' := #[true, true, true, true, true, true, true, true, true, true, true, true, true, true, true, true, true, false, false, false, false, false, true, false, false, true, true, true, false, false, false, false, false, false, false, false, false, false, false]) 13 (by kernel_rfl) rfl rfl rfl rfl rfl 2 rfl (op_load rfl ag_120 rfl) ?_
    refine ds_r (listed' := #[true, true, true, true, true, true, true, true, true, true, true, true, true, true, true, true, true, true, false, false, false, false, true, false, false, true, true, true, false, false, false, false, false, false, false, false, false, false, false]) 17 (by kernel_rfl) rfl rfl rfl rfl rfl 0 rfl (op_load rfl ag_89 rfl) ?_
    refine ds_t (listed' := #[true, true, true, true, true, true, true, true, true, true, true, true, true, true, true, true, true, true, true, false, false, false, true, false, false, true, true, true, false, false, false, false, false, false, false, false, false, false, false]) 18 (by kernel_rfl) rfl rfl rfl rfl rfl (op_nilCheck rfl) ?_
    refine ds_t (listed' := #[true, true, true, true, true, true, true, true, true, true, true, true, true, true, true, true, true, true, true, true, false, false, true, false, false, true, true, true, false, false, false, false, false, false, false, false, false, false, false]) 19 (by kernel_rfl) rfl rfl rfl rfl rfl (op_fieldAddr (i' := 0) rfl fd_119_0 rfl) ?_
    refine ds_t (listed' := #[true, true, true, true, true, true, true, true, true, true, true, true, true, true, true, true, true, true, true, true, true, false, true, false, false, true, true, true, false, false, false, false, false, false, false, false, false, false, false]) 20 (by kernel_rfl) rfl rfl rfl rfl rfl (op_fieldAddr (i' := 0) rfl fd_53_0 rfl) ?_
    refine ds_r (listed' := #[true, true, true, true, true, true, true, true, true, true, true, true, true, true, true, true, true, true, true, true, true, true, true, false, false, true, true, true, false, false, false, false, false, false, false, false, false, false, false]) 21 (by kernel_rfl) rfl rfl rfl rfl rfl 1 rfl (op_load rfl ag_49 rfl) ?_
    refine ds_t (listed' := #[true, true, true, true, true, true, true, true, true, true, true, true, true, true, true, true, true, true, true, true, true, true, true, true, false, true, true, true, false, false, false, false, false, false, false, false, false, false, false]) 23 (by kernel_rfl) rfl rfl rfl rfl rfl (op_indexAddr (o' := 0) rfl rfl el_49 sz_3 (by omega) (by omega) (rfl)) ?_
    refine ds_r (listed' := #[true, true, true, true, true, true, true, true, true, true, true, true, true, true, true, true, true, true, true, true, true, true, true, true, true, true, true, true, false, false, false, false, false, false, false, false, false, false, false]) 24 (by kernel_rfl) rfl rfl rfl rfl rfl 3 rfl (op_load rfl ag_3 rfl) ?_
    refine ds_r (listed' := #[true, true, true, true, true, true, true, true, true, true, true, true, true, true, true, true, true, true, true, true, true, true, true, true, true, true, true, true, true, false, false, false, false, false, false, false, false, false, false]) 28 (by kernel_rfl) rfl rfl rfl rfl rfl 0 rfl (op_load rfl ag_128 rfl) ?_
    refine ds_t (listed' := #[true, true, true, true, true, true, true, true, true, true, true, true, true, true, true, true, true, true, true, true, true, true, true, true, true, true, true, true, true, true, false, false, false, false, false, false, false, false, false]) 29 (by kernel_rfl) rfl rfl rfl rfl rfl (op_nilCheck rfl) ?_
    refine ds_t (listed' := #[true, true, true, true, true, true, true, true, true, true, true, true, true, true, true, true, true, true, true, true, true, true, true, true, true, true, true, true, true, true, true, false, false, false, false, false, false, false, false]) 30 (by kernel_rfl) rfl rfl rfl rfl rfl (op_fieldAddr (i' := 0) rfl fd_176_0 rfl) ?_
    refine ds_r (listed' := #[true, true, true, true, true, true, true, true, true, true, true, true, true, true, true, true, true, true, true, true, true, true, true, true, true, true, true, true, true, true, true, true, false, false, false, false, false, false, false]) 31 (by kernel_rfl) rfl rfl rfl rfl rfl 4 rfl (op_load rfl ag_3 rfl) ?_
    refine ds_two (i := 32) (j := 36) (by kernel_rfl) ?_ ?_
    ·
      refine at_of ?_
      refine dn_pick [0] rfl ?_
      refine dn_shut hsp1.2.2 hsp1.1 hsp1.2.1 (l' := [.pointer (some ⟨b8, 0, none⟩)]) ⟨rfl, rfl⟩ ?_
      refine dn_norm (Qs := [_, _, _, _, _, _, _, _, _, _, _]) rfl ?_
      refine of_at ?_
      refine at_x (s' := 1) (listed' := #[true, true, true, true, true, true, true, true, true, true, true, true, true, true, true, true, true, true, true, true, true, true, true, true, true, true, true, true, true, true, true, true, true, false, false, false, false, false, false]) rfl rfl rfl rfl (op_call (vs := [.pointer (some ⟨b2, 0, none⟩), .pointer (some ⟨b8, 0, none⟩), .int .i64 1, .int .i64 1]) cl_78 (awk26 b2 b8 b5 b6 b9) rfl [3, 3, 3, 4, 4] (Rs := [OwnS 120 1 (some ⟨b1001, 0, none⟩) 1 c1 [.pointer (some ⟨b8, 0, none⟩)], Blk b1 (.cells [.pointer (some ⟨b2, 0, none⟩), .pointer (some ⟨b3, 0, none⟩), .pointer (some ⟨b4, 0, none⟩)].toArray 178 (0, 0)), Blk b4 (.cells [.int .i64 1, .slice none 0 0, .slice none 0 0].toArray 176 (0, 0)), Blk b3 (.cells [.slice (some ⟨b7, 0, none⟩) 1 1, .slice none 0 0, .slice none 0 0, .slice (some ⟨b1001, 0, none⟩) 1 c1].toArray 119 (0, 0)), Blk b7 (.cells [.int .i64 1].toArray 3 (0, 0)), R]) (by kernel_rfl) rfl) [] (fun _ => ⟨_, rfl⟩) ?_
      rintro b1002 -
      refine ds_normv (u := .tuple #[.agg #[.slice (some ⟨b1002, 0, none⟩) 1 1, .int .i64 0, .int .i64 1], .int .i64 0]) (Qs := [Blk b8 (.cells [.map (some b9), .slice none 0 0, .pointer none, .pointer none, .int .i64 0].toArray 161 (0, 0)), Blk b9 (.map #[] 0), Blk b1002 (.cells [.int .i64 0].toArray 3 (0, 0)), Blk b2 (.cells [.slice (some ⟨b5, 0, none⟩) 2 2, .map (some b6), .int .i64 100].toArray 167 (0, 0)), Blk b6 (.map #[] 0), Blk b5 (.cells [.int .i64 104, .int .i64 0, .int .i64 0, .int .i64 104, .int .i64 0, .int .i64 0].toArray 163 (0, 0)), _, _, _, _, _, _]) rfl rfl ?_
      refine ds_t (listed' := #[true, true, true, true, true, true, true, true, true, true, true, true, true, true, true, true, true, true, true, true, true, true, true, true, true, true, true, true, true, true, true, true, true, true, false, false, false, false, false]) 33 (by kernel_rfl) rfl rfl rfl rfl rfl (op_move rfl) ?_
      refine ds_t (listed' := #[true, true, true, true, true, true, true, true, true, true, true, true, true, true, true, true, true, true, true, true, true, true, true, true, true, true, true, true, true, true, true, true, true, true, true, false, false, false, false]) 34 (by kernel_rfl) rfl rfl rfl rfl rfl (op_extract rfl rfl) ?_
      refine ds_t (listed' := #[true, true, true, true, true, true, true, true, true, true, true, true, true, true, true, true, true, true, true, true, true, true, true, true, true, true, true, true, true, true, true, true, true, true, true, true, false, false, false]) 35 (by kernel_rfl) rfl rfl rfl rfl rfl (op_extract rfl rfl) ?_
      refine ds_x (s' := 1) (listed' := #[true, true, true, true, true, true, true, true, true, true, true, true, true, true, true, true, true, true, true, true, true, true, true, true, true, true, true, true, true, true, true, true, true, true, true, true, true, false, false]) 36 (by kernel_rfl) rfl rfl rfl rfl (op_alloc (vs := [.slice none 0 0, .int .i64 0, .int .i64 0]) zr_211 rfl rfl) [] (fun _ => ⟨_, rfl⟩) ?_
      rintro b1003 -
      refine ds_norm (Qs := [_, _, _, _, _, _, _, _, _, _, _, _, _]) rfl ?_
      refine ds_s (s' := 2) (listed' := #[true, true, true, true, true, true, true, true, true, true, true, true, true, true, true, true, true, true, true, true, true, true, true, true, true, true, true, true, true, true, true, true, true, true, true, true, true, true, false]) 37 (by kernel_rfl) rfl rfl rfl rfl (op_store (vs := [.slice (some ⟨b1002, 0, none⟩) 1 1, .int .i64 0, .int .i64 1]) (l' := [.slice (some ⟨b1002, 0, none⟩) 1 1, .int .i64 0, .int .i64 1]) 0 rfl rfl rfl sz_211 rfl rfl rfl rfl rfl) [] rfl ?_
      refine ds_norm (Qs := [_, _, _, _, _, _, _, _, _, _, _, _, _]) rfl ?_
      refine ds_t (listed' := #[true, true, true, true, true, true, true, true, true, true, true, true, true, true, true, true, true, true, true, true, true, true, true, true, true, true, true, true, true, true, true, true, true, true, true, true, true, true, true]) 38 (by kernel_rfl) rfl rfl rfl rfl rfl (op_assign rfl) ?_
      refine ds_done rfl ?_
      refine dn_then ?_
      exact dn_meet (b1003, b1002, b1001) trivial (Less.cons rfl (Less.cons rfl (Less.cons rfl (Less.cons rfl (Less.cons rfl (Less.nil _)))))) [0, 0, 0, 0, 0, 0, 0, 0, 0, 0, 0, 0, 0] (Rs := []) (by kernel_rfl)
    ·
      refine at_x (s' := 0) (listed' := #[true, true, true, true, true, true, true, true, true, true, true, true, true, true, true, true, true, true, true, true, true, true, true, true, true, true, true, true, true, true, true, true, false, false, false, false, true, false, false]) rfl rfl rfl rfl (op_alloc (vs := [.slice none 0 0, .int .i64 0, .int .i64 0]) zr_211 rfl rfl) [2, 6, 1, 7, 1] (fun _ => ⟨_, rfl⟩) ?_
      rintro b1004 -
      refine ds_norm (Qs := [_, _, _, _, _, _, _, _, _, _, _, _]) rfl ?_
      refine ds_of ?_
      refine dn_pick [1] rfl ?_
      refine dn_shut hsp1.2.2 hsp1.1 hsp1.2.1 (l' := [.pointer (some ⟨b8, 0, none⟩)]) ⟨rfl, rfl⟩ ?_
      refine dn_norm (Qs := [_, _, _, _, _, _, _, _, _, _, _, _]) rfl ?_
      refine of_ds ?_
      refine ds_x (s' := 1) (listed' := #[true, true, true, true, true, true, true, true, true, true, true, true, true, true, true, true, true, true, true, true, true, true, true, true, true, true, true, true, true, true, true, true, true, false, false, false, true, false, false]) 32 (by kernel_rfl) rfl rfl rfl rfl (op_call (vs := [.pointer (some ⟨b2, 0, none⟩), .pointer (some ⟨b8, 0, none⟩), .int .i64 1, .int .i64 1]) cl_78 (awk26 b2 b8 b5 b6 b9) rfl [4, 4, 4, 5, 5] (Rs := [OwnS 120 1 (some ⟨b1001, 0, none⟩) 1 c1 [.pointer (some ⟨b8, 0, none⟩)], Blk b1004 (.cells [.slice none 0 0, .int .i64 0, .int .i64 0].toArray 211 (0, 0)), Blk b1 (.cells [.pointer (some ⟨b2, 0, none⟩), .pointer (some ⟨b3, 0, none⟩), .pointer (some ⟨b4, 0, none⟩)].toArray 178 (0, 0)), Blk b4 (.cells [.int .i64 1, .slice none 0 0, .slice none 0 0].toArray 176 (0, 0)), Blk b3 (.cells [.slice (some ⟨b7, 0, none⟩) 1 1, .slice none 0 0, .slice none 0 0, .slice (some ⟨b1001, 0, none⟩) 1 c1].toArray 119 (0, 0)), Blk b7 (.cells [.int .i64 1].toArray 3 (0, 0)), R]) (by kernel_rfl) rfl) [] (fun _ => ⟨_, rfl⟩) ?_
      rintro b1005 -
      refine ds_normv (u := .tuple #[.agg #[.slice (some ⟨b1005, 0, none⟩) 1 1, .int .i64 0, .int .i64 1], .int .i64 0]) (Qs := [Blk b8 (.cells [.map (some b9), .slice none 0 0, .pointer none, .pointer none, .int .i64 0].toArray 161 (0, 0)), Blk b9 (.map #[] 0), Blk b1005 (.cells [.int .i64 0].toArray 3 (0, 0)), Blk b2 (.cells [.slice (some ⟨b5, 0, none⟩) 2 2, .map (some b6), .int .i64 100].toArray 167 (0, 0)), Blk b6 (.map #[] 0), Blk b5 (.cells [.int .i64 104, .int .i64 0, .int .i64 0, .int .i64 104, .int .i64 0, .int .i64 0].toArray 163 (0, 0)), _, _, _, _, _, _, _]) rfl rfl ?_
      refine ds_t (listed' := #[true, true, true, true, true, true, true, true, true, true, true, true, true, true, true, true, true, true, true, true, true, true, true, true, true, true, true, true, true, true, true, true, true, true, false, false, true, false, false]) 33 (by kernel_rfl) rfl rfl rfl rfl rfl (op_move rfl) ?_
      refine ds_t (listed' := #[true, true, true, true, true, true, true, true, true, true, true, true, true, true, true, true, true, true, true, true, true, true, true, true, true, true, true, true, true, true, true, true, true, true, true, false, true, false, false]) 34 (by kernel_rfl) rfl rfl rfl rfl rfl (op_extract rfl rfl) ?_
      refine ds_t (listed' := #[true, true, true, true, true, true, true, true, true, true, true, true, true, true, true, true, true, true, true, true, true, true, true, true, true, true, true, true, true, true, true, true, true, true, true, true, true, false, false]) 35 (by kernel_rfl) rfl rfl rfl rfl rfl (op_extract rfl rfl) ?_
      refine ds_s (s' := 2) (listed' := #[true, true, true, true, true, true, true, true, true, true, true, true, true, true, true, true, true, true, true, true, true, true, true, true, true, true, true, true, true, true, true, true, true, true, true, true, true, true, false]) 37 (by kernel_rfl) rfl rfl rfl rfl (op_store (vs := [.slice (some ⟨b1005, 0, none⟩) 1 1, .int .i64 0, .int .i64 1]) (l' := [.slice (some ⟨b1005, 0, none⟩) 1 1, .int .i64 0, .int .i64 1]) 7 rfl rfl rfl sz_211 rfl rfl rfl rfl rfl) [] rfl ?_
      refine ds_norm (Qs := [_, _, _, _, _, _, _, _, _, _, _, _, _]) rfl ?_
      refine ds_t (listed' := #[true, true, true, true, true, true, true, true, true, true, true, true, true, true, true, true, true, true, true, true, true, true, true, true, true, true, true, true, true, true, true, true, true, true, true, true, true, true, true]) 38 (by kernel_rfl) rfl rfl rfl rfl rfl (op_assign rfl) ?_
      refine ds_done rfl ?_
      refine dn_then ?_
      exact dn_meet (b1004, b1005, b1001) trivial (Less.cons rfl (Less.cons rfl (Less.cons rfl (Less.cons rfl (Less.cons rfl (Less.nil _)))))) [0, 0, 0, 0, 0, 0, 0, 0, 0, 0, 0, 0, 0] (Rs := []) (by kernel_rfl)
  ·
    rintro ⟨b1003, b1002, b1001⟩ -
    show Dn E 88 [] _ [(0, .pointer (some ⟨b1, 0, none⟩)), (1, .int .i64 0), (4, .int .i64 0), (5, .pointer (some ⟨b1003, 0, none⟩)), (6, .int .i64 0)] [Blk b1003 (.cells [.slice (some ⟨b1002, 0, none⟩) 1 1, .int .i64 0, .int .i64 1].toArray 211 (0, 0)), Blk b8 (.cells [.map (some b9), .slice none 0 0, .pointer none, .pointer none, .int .i64 0].toArray 161 (0, 0)), Blk b9 (.map #[] 0), Blk b1002 (.cells [.int .i64 0].toArray 3 (0, 0)), Blk b2 (.cells [.slice (some ⟨b5, 0, none⟩) 2 2, .map (some b6), .int .i64 100].toArray 167 (0, 0)), Blk b6 (.map #[] 0), Blk b5 (.cells [.int .i64 104, .int .i64 0, .int .i64 0, .int .i64 104, .int .i64 0, .int .i64 0].toArray 163 (0, 0)), OwnS 120 1 (some ⟨b1001, 0, none⟩) 1 c1 [.pointer (some ⟨b8, 0, none⟩)], Blk b1 (.cells [.pointer (some ⟨b2, 0, none⟩), .pointer (some ⟨b3, 0, none⟩), .pointer (some ⟨b4, 0, none⟩)].toArray 178 (0, 0)), Blk b4 (.cells [.int .i64 1, .slice none 0 0, .slice none 0 0].toArray 176 (0, 0)), Blk b3 (.cells [.slice (some ⟨b7, 0, none⟩) 1 1, .slice none 0 0, .slice none 0 0, .slice (some ⟨b1001, 0, none⟩) 1 c1].toArray 119 (0, 0)), Blk b7 (.cells [.int .i64 1].toArray 3 (0, 0)), R]
    refine dn_seq ?_
    refine dn_seq ?_
    refine dn_reg ?_
    refine dl_t rfl rfl rfl (op_move rfl) ?_
    refine dl_t rfl rfl rfl (op_cmpc (b := false) rfl rfl rfl) ?_
    refine dn_done ?_
    refine dn_then ?_
    refine dn_cond_false rfl ?_
    refine dn_skip ?_
    refine dn_then ?_
    refine dn_seq ?_
    refine dn_any (N := 21) (l0 := #[false, false, false, false, false, false, false, false, false, false, false, false, false, false, false, false, false, false, false, false, false]) mixed (fun i => Nat.beq i 20) (fun s => match s with | 0 => [Blk b1 (.cells [.pointer (some ⟨b2, 0, none⟩), .pointer (some ⟨b3, 0, none⟩), .pointer (some ⟨b4, 0, none⟩)].toArray 178 (0, 0)), Blk b4 (.cells [.int .i64 1, .slice none 0 0, .slice none 0 0].toArray 176 (0, 0)), Blk b1003 (.cells [.slice (some ⟨b1002, 0, none⟩) 1 1, .int .i64 0, .int .i64 1].toArray 211 (0, 0))] | _ => []) [8, 8, 0] rfl rfl rfl ?_
    refine ds_t (listed' := #[true, false, false, false, false, false, false, false, false, false, false, false, false, false, false, false, false, false, false, false, false]) 0 (by kernel_rfl) rfl rfl rfl rfl rfl (op_move rfl) ?_
    refine ds_t (listed' := #[true, true, false, false, false, false, false, false, false, false, false, false, false, false, false, false, false, false, false, false, false]) 1 (by kernel_rfl) rfl rfl rfl rfl rfl (op_nilCheck rfl) ?_
    refine ds_t (listed' := #[true, true, true, false, false, false, false, false, false, false, false, false, false, false, false, false, false, false, false, false, false]) 2 (by kernel_rfl) rfl rfl rfl rfl rfl (op_fieldAddr (i' := 2) rfl fd_178_2 rfl) ?_
    refine ds_t (listed' := #[true, true, true, false, true, false, false, false, false, false, false, false, false, false, false, false, false, false, false, false, false]) 4 (by kernel_rfl) rfl rfl rfl rfl rfl (op_move rfl) ?_
    refine ds_t (listed' := #[true, true, true, false, true, true, false, false, false, false, false, false, false, false, false, false, false, false, false, false, false]) 5 (by kernel_rfl) rfl rfl rfl rfl rfl (op_nilCheck rfl) ?_
    refine ds_t (listed' := #[true, true, true, false, true, true, true, false, false, false, false, false, false, false, false, false, false, false, false, false, false]) 6 (by kernel_rfl) rfl rfl rfl rfl rfl (op_fieldAddr (i' := 2) rfl fd_178_2 rfl) ?_
    refine ds_t (listed' := #[true, true, true, false, true, true, true, false, false, false, false, true, false, false, false, false, false, false, false, false, false]) 11 (by kernel_rfl) rfl rfl rfl rfl rfl (op_fieldAddr (i' := 2) rfl fd_211_2 rfl) ?_
    refine ds_t (listed' := #[true, true, true, false, true, true, true, false, false, false, false, true, false, true, false, false, false, false, false, false, false]) 13 (by kernel_rfl) rfl rfl rfl rfl rfl (op_fieldAddr (i' := 1) rfl fd_211_1 rfl) ?_
    refine ds_r (listed' := #[true, true, true, true, true, true, true, false, false, false, false, true, false, true, false, false, false, false, false, false, false]) 3 (by kernel_rfl) rfl rfl rfl rfl rfl 0 rfl (op_load rfl ag_128 rfl) ?_
    refine ds_r (listed' := #[true, true, true, true, true, true, true, true, false, false, false, true, false, true, false, false, false, false, false, false, false]) 7 (by kernel_rfl) rfl rfl rfl rfl rfl 0 rfl (op_load rfl ag_128 rfl) ?_
    refine ds_t (listed' := #[true, true, true, true, true, true, true, true, true, false, false, true, false, true, false, false, false, false, false, false, false]) 8 (by kernel_rfl) rfl rfl rfl rfl rfl (op_nilCheck rfl) ?_
    refine ds_t (listed' := #[true, true, true, true, true, true, true, true, true, true, false, true, false, true, false, false, false, false, false, false, false]) 9 (by kernel_rfl) rfl rfl rfl rfl rfl (op_fieldAddr (i' := 1) rfl fd_176_1 rfl) ?_
    refine ds_r (listed' := #[true, true, true, true, true, true, true, true, true, true, true, true, false, true, false, false, false, false, false, false, false]) 10 (by kernel_rfl) rfl rfl rfl rfl rfl 1 rfl (op_load rfl ag_173 rfl) ?_
    refine ds_r (listed' := #[true, true, true, true, true, true, true, true, true, true, true, true, true, true, false, false, false, false, false, false, false]) 12 (by kernel_rfl) rfl rfl rfl rfl rfl 2 rfl (op_load rfl ag_3 rfl) ?_
    refine ds_r (listed' := #[true, true, true, true, true, true, true, true, true, true, true, true, true, true, true, false, false, false, false, false, false]) 14 (by kernel_rfl) rfl rfl rfl rfl rfl 2 rfl (op_load rfl ag_3 rfl) ?_
    refine ds_t (listed' := #[true, true, true, true, true, true, true, true, true, true, true, true, true, true, true, true, false, false, false, false, false]) 15 (by kernel_rfl) rfl rfl rfl rfl rfl (op_build (qs := [(0, .int .i64 1), (1, .int .i64 0)]) (vs := [.int .i64 1, .int .i64 0, .int .i64 0]) rfl (by kernel_rfl)) ?_
    refine ds_x (s' := 0) (listed' := #[true, true, true, true, true, true, true, true, true, true, true, true, true, true, true, true, true, false, false, false, false]) 16 (by kernel_rfl) rfl rfl rfl rfl (op_buildSlice (e := 215) (qs := [(0, .agg #[.int .i64 1, .int .i64 0, .int .i64 0])]) (vs := [.int .i64 1, .int .i64 0, .int .i64 0]) rfl (by kernel_rfl) rfl) [9, 9, 1] (fun _ => ⟨_, rfl⟩) ?_
    rintro b1006 -
    refine ds_norm (Qs := [_, _, _, _, _, _, _, _, _, _, _, _, _, _]) rfl ?_
    refine ds_of ?_
    refine dn_hold (fun _ H => H.ownNil 215 3) ?_
    refine of_ds ?_
    refine ds_x (s' := 0) (listed' := #[true, true, true, true, true, true, true, true, true, true, true, true, true, true, true, true, true, true, false, false, false]) 17 (by kernel_rfl) rfl rfl rfl rfl (op_append (news := [.int .i64 1, .int .i64 0, .int .i64 0]) (k' := 1) [0] rfl rfl rfl el_173 sz_215 zr_215 by_215 rfl rfl rfl (fun w H j u q => cellsAt (holds_one (i := 1) (C := Blk b1006 (.cells [.int .i64 1, .int .i64 0, .int .i64 0].toArray 215 (0, 0))) rfl H).blk 0 [.int .i64 1, .int .i64 0, .int .i64 0] rfl j u q) (List.all_eq_true.1 rfl) (by decide) (by decide) rfl rfl) [10, 10, 2] (fun _ => ⟨_, rfl⟩) ?_
    rintro ⟨a1007, c1008⟩ -
    refine ds_norm (Qs := [_, _, _, _, _, _, _, _, _, _, _, _, _, _, _]) rfl ?_
    refine ds_t (listed' := #[true, true, true, true, true, true, true, true, true, true, true, true, true, true, true, true, true, true, true, false, false]) 18 (by kernel_rfl) rfl rfl rfl rfl rfl (op_nilCheck rfl) ?_
    refine ds_t (listed' := #[true, true, true, true, true, true, true, true, true, true, true, true, true, true, true, true, true, true, true, true, false]) 19 (by kernel_rfl) rfl rfl rfl rfl rfl (op_fieldAddr (i' := 1) rfl fd_176_1 rfl) ?_
    refine ds_s (s' := 1) (listed' := #[true, true, true, true, true, true, true, true, true, true, true, true, true, true, true, true, true, true, true, true, true]) 20 (by kernel_rfl) rfl rfl rfl rfl (op_store (vs := [.slice a1007 1 c1008]) (l' := [.int .i64 1, .slice a1007 1 c1008, .slice none 0 0]) 11 rfl rfl rfl sz_173 rfl rfl rfl rfl rfl) [] rfl ?_
    refine ds_norm (Qs := [_, _, _, _, _, _, _, _, _, _, _, _, _, _, _]) rfl ?_
    refine ds_done rfl ?_
    refine dn_then ?_
    refine dn_seq ?_
    refine dn_seq ?_
    refine dn_reg ?_
    refine dl_t rfl rfl rfl (op_fieldAddr (i' := 0) rfl fd_211_0 rfl) ?_
    refine dl_r 3 rfl rfl rfl rfl (op_load rfl ag_49 rfl) ?_
    refine dl_t rfl rfl rfl (op_len rfl el_49) ?_
    refine dl_t rfl rfl rfl (op_move rfl) ?_
    refine dn_done ?_
    refine dn_then ?_
    refine dn_block ?_
    refine dn_loop0 ?_
    refine dn_round ?_
    refine dn_seq ?_
    refine dn_reg ?_
    refine dl_t rfl rfl rfl (op_cmpc (b := true) rfl rfl rfl) ?_
    refine dn_done ?_
    refine dn_then ?_
    refine dn_seq ?_
    refine dn_cond_true rfl ?_
    refine dn_skip ?_
    refine dn_then ?_
    refine dn_seq ?_
    refine dn_block ?_
    refine dn_seq ?_
    refine dn_reg ?_
    refine dl_t rfl rfl rfl (op_move rfl) ?_
    refine dl_t rfl rfl rfl (op_indexAddr (o' := 0) rfl rfl el_49 sz_3 (by omega) (by omega) (rfl)) ?_
    refine dl_r 6 rfl rfl rfl rfl (op_load rfl ag_3 rfl) ?_
    refine dl_t rfl rfl rfl (op_assign rfl) ?_
    refine dl_t rfl rfl rfl (op_assign rfl) ?_
    refine dn_done ?_
    refine dn_then ?_
    refine dn_seq ?_
    refine dn_seq ?_
    refine dn_reg ?_
    refine dl_t rfl rfl rfl (op_move rfl) ?_
    refine dl_t rfl rfl rfl (op_cmpc (b := true) rfl rfl rfl) ?_
    refine dn_done ?_
    refine dn_then ?_
    refine dn_cond_true rfl ?_
    refine dn_exit ?_
    refine dn_thenX ?_
    refine dn_inBX ?_
    refine dn_then ?_
    refine dn_reg ?_
    refine dl_t rfl rfl rfl (op_add (z := 1) rfl rfl (by decide)) ?_
    refine dl_t rfl rfl rfl (op_move rfl) ?_
    refine dn_done ?_
    refine dn_then ?_
    refine dn_round ?_
    refine dn_seq ?_
    refine dn_reg ?_
    refine dl_t rfl rfl rfl (op_cmpc (b := false) rfl rfl rfl) ?_
    refine dn_done ?_
    refine dn_then ?_
    refine dn_seq ?_
    refine dn_cond_false rfl ?_
    refine dn_exit ?_
    refine dn_thenX ?_
    refine dn_thenX ?_
    refine dn_inBX ?_
    refine dn_then ?_
    refine dn_seq ?_
    refine dn_reg ?_
    refine dl_t rfl rfl rfl (op_assign rfl) ?_
    refine dn_done ?_
    refine dn_then ?_
    refine dn_ret ?_
    exact dn_end (vs := [.int .i64 0]) (a1007, c1008, b1001) (by exact rfl) (by exact rfl) (by exact rfl) (by trivial) [0, 0, 2, 2, 3, 3, 3, 3, 3, 3, 3, 3] (Rs := [Blk b1006 (.cells [.int .i64 1, .int .i64 0, .int .i64 0].toArray 215 (0, 0)), Blk b1003 (.cells [.slice (some ⟨b1002, 0, none⟩) 1 1, .int .i64 0, .int .i64 1].toArray 211 (0, 0)), Blk b1002 (.cells [.int .i64 0].toArray 3 (0, 0))]) (by kernel_rfl) (by exact .inl rfl)
/-- crossbuck/graph.Of -/
theorem awk23 (b1 : Nat) (b2 : Nat) (b3 : Nat) (b4 : Nat) (b5 : Nat) (a1 : Option Addr) (c1 : Nat) (b6 : Nat) (b7 : Nat) : Tri Tryz.prog 44 [.pointer (some ⟨b1, 0, none⟩), .pointer (some ⟨b2, 0, none⟩), .int .i64 1].toArray [Blk b1 (.cells [.slice (some ⟨b3, 0, none⟩) 2 2, .map (some b4), .int .i64 100].toArray 167 (0, 0)), Blk b4 (.map #[] 0), Blk b3 (.cells [.int .i64 104, .int .i64 0, .int .i64 0, .int .i64 104, .int .i64 0, .int .i64 0].toArray 163 (0, 0)), Blk b2 (.cells [.slice (some ⟨b5, 0, none⟩) 1 1, .slice none 0 0, .slice none 0 0, .slice a1 1 c1].toArray 119 (0, 0)), OwnS 120 1 a1 1 c1 [.pointer (some ⟨b6, 0, none⟩)], Blk b6 (.cells [.map (some b7), .slice none 0 0, .pointer none, .pointer none, .int .i64 0].toArray 161 (0, 0)), Blk b7 (.map #[] 0), Blk b5 (.cells [.int .i64 1].toArray 3 (0, 0))] (X := Nat × Option Addr × Nat × Nat) (fun x => .tuple #[.pointer (some ⟨x.1, 0, none⟩), .int .i64 0]) (fun _ => True) (fun x => [Blk x.1 (.cells [.int .i64 1, .slice x.2.1 1 x.2.2.1, .slice none 0 0].toArray 176 (0, 0)), OwnS 215 3 x.2.1 1 x.2.2.1 [.int .i64 1, .int .i64 0, .int .i64 0], Blk b6 (.cells [.map (some b7), .slice none 0 0, .pointer none, .pointer none, .int .i64 0].toArray 161 (0, 0)), Blk b7 (.map #[] 0), Blk b1 (.cells [.slice (some ⟨b3, 0, none⟩) 2 2, .map (some b4), .int .i64 100].toArray 167 (0, 0)), Blk b4 (.map #[] 0), Blk b3 (.cells [.int .i64 104, .int .i64 0, .int .i64 0, .int .i64 104, .int .i64 0, .int .i64 0].toArray 163 (0, 0)), OwnS 120 1 (some ⟨x.2.2.2, 0, none⟩) 1 c1 [.pointer (some ⟨b6, 0, none⟩)], Blk b2 (.cells [.slice (some ⟨b5, 0, none⟩) 1 1, .slice none 0 0, .slice none 0 0, .slice (some ⟨x.2.2.2, 0, none⟩) 1 c1].toArray 119 (0, 0)), Blk b5 (.cells [.int .i64 1].toArray 3 (0, 0))]) := by
  refine tri_intro (n := 55) (vs := [.pointer (some ⟨b1, 0, none⟩), .pointer (some ⟨b2, 0, none⟩), .int .i64 1]) Tryz.func44 rfl rfl rfl (fun R E => ?_)
  show Dn E 55 [] _ [(0, .pointer (some ⟨b1, 0, none⟩)), (1, .pointer (some ⟨b2, 0, none⟩)), (2, .int .i64 1)] [Blk b1 (.cells [.slice (some ⟨b3, 0, none⟩) 2 2, .map (some b4), .int .i64 100].toArray 167 (0, 0)), Blk b4 (.map #[] 0), Blk b3 (.cells [.int .i64 104, .int .i64 0, .int .i64 0, .int .i64 104, .int .i64 0, .int .i64 0].toArray 163 (0, 0)), Blk b2 (.cells [.slice (some ⟨b5, 0, none⟩) 1 1, .slice none 0 0, .slice none 0 0, .slice a1 1 c1].toArray 119 (0, 0)), OwnS 120 1 a1 1 c1 [.pointer (some ⟨b6, 0, none⟩)], Blk b6 (.cells [.map (some b7), .slice none 0 0, .pointer none, .pointer none, .int .i64 0].toArray 161 (0, 0)), Blk b7 (.map #[] 0), Blk b5 (.cells [.int .i64 1].toArray 3 (0, 0)), R]
  refine dn_seq ?_
  refine dn_reg ?_
  refine dl_t rfl rfl rfl (op_assign rfl) ?_
  refine dl_t rfl rfl rfl (op_assign rfl) ?_
  refine dn_done ?_
  refine dn_then ?_
  refine dn_seq ?_
  refine dn_block ?_
  refine dn_seq ?_
  refine dn_reg ?_
  refine dl_t rfl rfl rfl (op_move rfl) ?_
  refine dl_t rfl rfl rfl (op_ptreql rfl rfl pt_122 rfl) ?_
  refine dl_t rfl rfl rfl (op_move rfl) ?_
  refine dl_wt rfl rfl rfl rfl rfl rfl (op_move rfl) ?_
  refine dl_wt rfl rfl rfl rfl rfl rfl (op_ptreql rfl rfl pt_89 rfl) ?_
  refine dl_t rfl rfl rfl (op_pick (b := false) rfl rfl) ?_
  refine dl_t rfl rfl rfl (op_assign rfl) ?_
  refine dn_done ?_
  refine dn_then ?_
  refine dn_cond_false rfl ?_
  refine dn_seq ?_
  refine dn_reg ?_
  refine dl_t rfl rfl rfl (op_move rfl) ?_
  refine dl_t rfl rfl rfl (op_move rfl) ?_
  refine dl_e rfl (op_call (vs := [.pointer (some ⟨b1, 0, none⟩), .int .i64 1]) cl_61 (awk24 b1 b3 b4) rfl [0, 0, 0] (by exact rfl) rfl) ?_
  rintro ⟨⟩ -
  refine dn_normv (u := .bool true) (Qs := [Blk b1 (.cells [.slice (some ⟨b3, 0, none⟩) 2 2, .map (some b4), .int .i64 100].toArray 167 (0, 0)), Blk b4 (.map #[] 0), Blk b3 (.cells [.int .i64 104, .int .i64 0, .int .i64 0, .int .i64 104, .int .i64 0, .int .i64 0].toArray 163 (0, 0)), _, _, _, _, _, _]) rfl rfl ?_
  refine dl_t rfl rfl rfl (op_notc rfl rfl) ?_
  refine dl_t rfl rfl rfl (op_assign rfl) ?_
  refine dn_done ?_
  refine dn_then ?_
  refine dn_cond_false rfl ?_
  refine dn_skip ?_
  refine dn_inB ?_
  refine dn_then ?_
  refine dn_seq ?_
  refine dn_reg ?_
  refine dl_t rfl rfl rfl (op_move rfl) ?_
  refine dl_e rfl (op_call (vs := [.pointer (some ⟨b1, 0, none⟩)]) cl_45 (awk22 b1 b3 b4) rfl [0, 0, 0] (by exact rfl) rfl) ?_
  rintro ⟨⟩ -
  refine dn_normv (u := .int .i64 2) (Qs := [Blk b1 (.cells [.slice (some ⟨b3, 0, none⟩) 2 2, .map (some b4), .int .i64 100].toArray 167 (0, 0)), Blk b4 (.map #[] 0), Blk b3 (.cells [.int .i64 104, .int .i64 0, .int .i64 0, .int .i64 104, .int .i64 0, .int .i64 0].toArray 163 (0, 0)), _, _, _, _, _, _]) rfl rfl ?_
  refine dl_t rfl rfl rfl (op_assign rfl) ?_
  refine dn_done ?_
  refine dn_then ?_
  refine dn_seq ?_
  refine dn_reg ?_
  refine dl_t rfl rfl rfl (op_move rfl) ?_
  refine dl_t rfl rfl rfl (op_move rfl) ?_
  refine dl_t rfl rfl rfl (op_move rfl) ?_
  refine dl_t rfl rfl rfl (op_build (qs := [(0, .int .i64 1)]) (vs := [.int .i64 1, .slice none 0 0, .slice none 0 0]) rfl (by kernel_rfl)) ?_
  refine dl_e rfl (op_box (vs := [.int .i64 1, .slice none 0 0, .slice none 0 0]) rfl rfl rfl) ?_
  rintro b1001 -
  refine dn_norm (Qs := [_, _, _, _, _, _, _, _, _, _]) rfl ?_
  refine dl_t rfl rfl rfl (op_build (qs := [(0, .pointer (some ⟨b1, 0, none⟩)), (1, .pointer (some ⟨b2, 0, none⟩)), (2, .pointer (some ⟨b1001, 0, none⟩))]) (vs := [.pointer (some ⟨b1, 0, none⟩), .pointer (some ⟨b2, 0, none⟩), .pointer (some ⟨b1001, 0, none⟩)]) rfl (by kernel_rfl)) ?_
  refine dl_e rfl (op_box (vs := [.pointer (some ⟨b1, 0, none⟩), .pointer (some ⟨b2, 0, none⟩), .pointer (some ⟨b1001, 0, none⟩)]) rfl rfl rfl) ?_
  rintro b1002 -
  refine dn_norm (Qs := [_, _, _, _, _, _, _, _, _, _, _]) rfl ?_
  refine dl_t rfl rfl rfl (op_assign rfl) ?_
  refine dn_done ?_
  refine dn_then ?_
  refine dn_seq ?_
  refine dn_seq ?_
  refine dn_reg ?_
  refine dl_t rfl rfl rfl (op_move rfl) ?_
  refine dl_t rfl rfl rfl (op_nilCheck rfl) ?_
  refine dl_t rfl rfl rfl (op_fieldAddr (i' := 3) rfl fd_119_1 rfl) ?_
  refine dl_r 5 rfl rfl rfl rfl (op_load rfl ag_117 rfl) ?_
  refine dl_t rfl rfl rfl (op_len rfl el_117) ?_
  refine dl_t rfl rfl rfl (op_move rfl) ?_
  refine dn_done ?_
  refine dn_then ?_
  refine dn_block ?_
  refine dn_loop0 ?_
  refine dn_round ?_
  refine dn_seq ?_
  refine dn_reg ?_
  refine dl_t rfl rfl rfl (op_cmpc (b := true) rfl rfl rfl) ?_
  refine dn_done ?_
  refine dn_then ?_
  refine dn_seq ?_
  refine dn_cond_true rfl ?_
  refine dn_skip ?_
  refine dn_then ?_
  refine dn_seq ?_
  refine dn_block ?_
  refine dn_seq ?_
  refine dn_reg ?_
  refine dl_t rfl rfl rfl (op_move rfl) ?_
  refine dl_t rfl rfl rfl (op_assign rfl) ?_
  refine dn_done ?_
  refine dn_then ?_
  refine dn_seq ?_
  refine dn_reg ?_
  refine dl_t rfl rfl rfl (op_move rfl) ?_
  refine dl_t rfl rfl rfl (op_move rfl) ?_
  refine dl_e rfl (op_call (vs := [.pointer (some ⟨b1002, 0, none⟩), .int .i64 0]) cl_62 (awk25 b1002 b1 b2 b1001 b3 b4 b5 a1 c1 b6 b7) rfl [0, 0, 0, 0, 0, 0, 0, 0, 0, 0] (Rs := [R]) (by kernel_rfl) rfl) ?_
  rintro ⟨a1003, c1004, b1005⟩ -
  refine dn_normv (u := .int .i64 0) (Qs := [Blk b1001 (.cells [.int .i64 1, .slice a1003 1 c1004, .slice none 0 0].toArray 176 (0, 0)), OwnS 215 3 a1003 1 c1004 [.int .i64 1, .int .i64 0, .int .i64 0], Blk b6 (.cells [.map (some b7), .slice none 0 0, .pointer none, .pointer none, .int .i64 0].toArray 161 (0, 0)), Blk b7 (.map #[] 0), Blk b1 (.cells [.slice (some ⟨b3, 0, none⟩) 2 2, .map (some b4), .int .i64 100].toArray 167 (0, 0)), Blk b4 (.map #[] 0), Blk b3 (.cells [.int .i64 104, .int .i64 0, .int .i64 0, .int .i64 104, .int .i64 0, .int .i64 0].toArray 163 (0, 0)), OwnS 120 1 (some ⟨b1005, 0, none⟩) 1 c1 [.pointer (some ⟨b6, 0, none⟩)], Blk b1002 (.cells [.pointer (some ⟨b1, 0, none⟩), .pointer (some ⟨b2, 0, none⟩), .pointer (some ⟨b1001, 0, none⟩)].toArray 178 (0, 0)), Blk b2 (.cells [.slice (some ⟨b5, 0, none⟩) 1 1, .slice none 0 0, .slice none 0 0, .slice (some ⟨b1005, 0, none⟩) 1 c1].toArray 119 (0, 0)), Blk b5 (.cells [.int .i64 1].toArray 3 (0, 0)), _]) rfl rfl ?_
  refine dl_t rfl rfl rfl (op_assign rfl) ?_
  refine dn_done ?_
  refine dn_then ?_
  refine dn_seq ?_
  refine dn_reg ?_
  refine dl_t rfl rfl rfl (op_move rfl) ?_
  refine dl_t rfl rfl rfl (op_cmpc (b := false) rfl rfl rfl) ?_
  refine dn_done ?_
  refine dn_then ?_
  refine dn_cond_false rfl ?_
  refine dn_skip ?_
  refine dn_inB ?_
  refine dn_then ?_
  refine dn_reg ?_
  refine dl_t rfl rfl rfl (op_add (z := 1) rfl rfl (by decide)) ?_
  refine dl_t rfl rfl rfl (op_move rfl) ?_
  refine dn_done ?_
  refine dn_then ?_
  refine dn_round ?_
  refine dn_seq ?_
  refine dn_reg ?_
  refine dl_t rfl rfl rfl (op_cmpc (b := false) rfl rfl rfl) ?_
  refine dn_done ?_
  refine dn_then ?_
  refine dn_seq ?_
  refine dn_cond_false rfl ?_
  refine dn_exit ?_
  refine dn_thenX ?_
  refine dn_thenX ?_
  refine dn_inBX ?_
  refine dn_then ?_
  refine dn_seq ?_
  refine dn_reg ?_
  refine dl_t rfl rfl rfl (op_move rfl) ?_
  refine dl_t rfl rfl rfl (op_nilCheck rfl) ?_
  refine dl_t rfl rfl rfl (op_fieldAddr (i' := 2) rfl fd_178_2 rfl) ?_
  refine dl_r 8 rfl rfl rfl rfl (op_load rfl ag_128 rfl) ?_
  refine dl_t rfl rfl rfl (op_assign rfl) ?_
  refine dl_t rfl rfl rfl (op_assign rfl) ?_
  refine dn_done ?_
  refine dn_then ?_
  refine dn_ret ?_
  exact dn_end (vs := [.pointer (some ⟨b1001, 0, none⟩), .int .i64 0]) (b1001, a1003, c1004, b1005) (by exact rfl) (by exact rfl) (by exact rfl) (by trivial) [0, 0, 0, 0, 0, 0, 0, 0, 1, 1, 1] (Rs := [Blk b1002 (.cells [.pointer (some ⟨b1, 0, none⟩), .pointer (some ⟨b2, 0, none⟩), .pointer (some ⟨b1001, 0, none⟩)].toArray 178 (0, 0))]) (by kernel_rfl) (by exact .inl rfl)
/-- crossbuck/shard.Build -/
theorem awk13 (b1 : Nat) (b2 : Nat) (a1 : Option Addr) (c1 : Nat) (b3 : Nat) (b4 : Nat) : Tri Tryz.prog 30 [.pointer (some ⟨b1, 0, none⟩), .int .i64 0, .int .i64 0, .int .i64 100].toArray [Blk b1 (.cells [.slice (some ⟨b2, 0, none⟩) 1 1, .slice none 0 0, .slice none 0 0, .slice a1 1 c1].toArray 119 (0, 0)), OwnS 120 1 a1 1 c1 [.pointer (some ⟨b3, 0, none⟩)], Blk b3 (.cells [.map (some b4), .slice none 0 0, .pointer none, .pointer none, .int .i64 0].toArray 161 (0, 0)), Blk b4 (.map #[] 0), Blk b2 (.cells [.int .i64 1].toArray 3 (0, 0))] (X := Nat × Nat × Nat × Nat × Nat × Option Addr × Nat × Nat) (fun x => .tuple #[.pointer (some ⟨x.1, 0, none⟩), .int .i64 0]) (fun _ => True) (fun x => [Blk x.1 (.cells [.pointer (some ⟨x.2.1, 0, none⟩), .pointer (some ⟨x.2.2.1, 0, none⟩), .int .i64 2].toArray 133 (0, 0)), Blk x.2.1 (.cells [.slice (some ⟨x.2.2.2.1, 0, none⟩) 2 2, .map (some x.2.2.2.2.1), .int .i64 100].toArray 167 (0, 0)), Blk x.2.2.2.2.1 (.map #[] 0), Blk x.2.2.2.1 (.cells [.int .i64 104, .int .i64 0, .int .i64 0, .int .i64 104, .int .i64 0, .int .i64 0].toArray 163 (0, 0)), Blk x.2.2.1 (.cells [.int .i64 1, .slice x.2.2.2.2.2.1 1 x.2.2.2.2.2.2.1, .slice none 0 0].toArray 176 (0, 0)), OwnS 215 3 x.2.2.2.2.2.1 1 x.2.2.2.2.2.2.1 [.int .i64 1, .int .i64 0, .int .i64 0], Blk b3 (.cells [.map (some b4), .slice none 0 0, .pointer none, .pointer none, .int .i64 0].toArray 161 (0, 0)), Blk b4 (.map #[] 0), OwnS 120 1 (some ⟨x.2.2.2.2.2.2.2, 0, none⟩) 1 c1 [.pointer (some ⟨b3, 0, none⟩)], Blk b1 (.cells [.slice (some ⟨b2, 0, none⟩) 1 1, .slice none 0 0, .slice none 0 0, .slice (some ⟨x.2.2.2.2.2.2.2, 0, none⟩) 1 c1].toArray 119 (0, 0)), Blk b2 (.cells [.int .i64 1].toArray 3 (0, 0))]) := by
  refine tri_intro (n := 61) (vs := [.pointer (some ⟨b1, 0, none⟩), .int .i64 0, .int .i64 0, .int .i64 100]) Tryz.func30 rfl rfl rfl (fun R E => ?_)
  show Dn E 61 [] _ [(0, .pointer (some ⟨b1, 0, none⟩)), (1, .int .i64 0), (2, .int .i64 0), (3, .int .i64 100)] [Blk b1 (.cells [.slice (some ⟨b2, 0, none⟩) 1 1, .slice none 0 0, .slice none 0 0, .slice a1 1 c1].toArray 119 (0, 0)), OwnS 120 1 a1 1 c1 [.pointer (some ⟨b3, 0, none⟩)], Blk b3 (.cells [.map (some b4), .slice none 0 0, .pointer none, .pointer none, .int .i64 0].toArray 161 (0, 0)), Blk b4 (.map #[] 0), Blk b2 (.cells [.int .i64 1].toArray 3 (0, 0)), R]
  refine dn_seq ?_
  refine dn_reg ?_
  refine dl_t rfl rfl rfl (op_assign rfl) ?_
  refine dl_t rfl rfl rfl (op_assign rfl) ?_
  refine dn_done ?_
  refine dn_then ?_
  refine dn_seq ?_
  refine dn_block ?_
  refine dn_seq ?_
  refine dn_reg ?_
  refine dl_t rfl rfl rfl (op_move rfl) ?_
  refine dl_t rfl rfl rfl (op_ptreql rfl rfl pt_89 rfl) ?_
  refine dl_t rfl rfl rfl (op_assign rfl) ?_
  refine dn_done ?_
  refine dn_then ?_
  refine dn_cond_false rfl ?_
  refine dn_seq ?_
  refine dn_reg ?_
  refine dl_t rfl rfl rfl (op_move rfl) ?_
  refine dl_t rfl rfl rfl (op_cmpc (b := false) rfl rfl rfl) ?_
  refine dl_t rfl rfl rfl (op_move rfl) ?_
  refine dl_wt rfl rfl rfl rfl rfl rfl (op_move rfl) ?_
  refine dl_wt rfl rfl rfl rfl rfl rfl (op_move rfl) ?_
  refine dl_we rfl rfl rfl rfl (op_call (vs := [.int .i64 0]) cl_29 (awk12) rfl [] (by exact rfl) rfl) ?_
  rintro ⟨⟩ -
  refine dn_normv (u := .int .i64 1) (Qs := [_, _, _, _, _, _]) rfl rfl ?_
  refine dl_wt rfl rfl rfl rfl rfl rfl (op_cmpc (b := false) rfl rfl rfl) ?_
  refine dl_t rfl rfl rfl (op_pick (b := false) rfl rfl) ?_
  refine dl_t rfl rfl rfl (op_assign rfl) ?_
  refine dn_done ?_
  refine dn_then ?_
  refine dn_cond_false rfl ?_
  refine dn_skip ?_
  refine dn_inB ?_
  refine dn_then ?_
  refine dn_seq ?_
  refine dn_reg ?_
  refine dl_t rfl rfl rfl (op_move rfl) ?_
  refine dl_e rfl (op_call (vs := [.int .i64 100]) cl_41 (awk14) rfl [] (by exact rfl) rfl) ?_
  rintro ⟨b1001, b1002, b1003⟩ -
  refine dn_normv (u := .tuple #[.pointer (some ⟨b1001, 0, none⟩), .int .i64 0]) (Qs := [Blk b1001 (.cells [.slice (some ⟨b1002, 0, none⟩) 2 2, .map (some b1003), .int .i64 100].toArray 167 (0, 0)), Blk b1003 (.map #[] 0), Blk b1002 (.cells [.int .i64 104, .int .i64 0, .int .i64 0, .int .i64 104, .int .i64 0, .int .i64 0].toArray 163 (0, 0)), _, _, _, _, _, _]) rfl rfl ?_
  refine dl_t rfl rfl rfl (op_move rfl) ?_
  refine dl_t rfl rfl rfl (op_extract rfl rfl) ?_
  refine dl_t rfl rfl rfl (op_extract rfl rfl) ?_
  refine dl_t rfl rfl rfl (op_assign rfl) ?_
  refine dl_t rfl rfl rfl (op_assign rfl) ?_
  refine dn_done ?_
  refine dn_then ?_
  refine dn_seq ?_
  refine dn_seq ?_
  refine dn_reg ?_
  refine dl_t rfl rfl rfl (op_move rfl) ?_
  refine dl_t rfl rfl rfl (op_cmpc (b := false) rfl rfl rfl) ?_
  refine dn_done ?_
  refine dn_then ?_
  refine dn_cond_false rfl ?_
  refine dn_skip ?_
  refine dn_then ?_
  refine dn_seq ?_
  refine dn_reg ?_
  refine dl_t rfl rfl rfl (op_move rfl) ?_
  refine dl_t rfl rfl rfl (op_move rfl) ?_
  refine dl_t rfl rfl rfl (op_move rfl) ?_
  refine dl_e rfl (op_call (vs := [.int .i64 0, .int .i64 0]) cl_43 (awk15) rfl [] (by exact rfl) rfl) ?_
  rintro ⟨⟩ -
  refine dn_normv (u := .agg #[.int .u32 0, .int .i64 0]) (Qs := [_, _, _, _, _, _, _, _, _]) rfl rfl ?_
  refine dl_e rfl (op_call (vs := [.pointer (some ⟨b1001, 0, none⟩), .int .i64 0, .agg #[.int .u32 0, .int .i64 0]]) cl_42 (awk18 b1001 b1002 b1003) rfl [0, 0, 0] (by exact rfl) rfl) ?_
  rintro ⟨⟩ -
  refine dn_normv (u := .tuple #[.int .i64 1, .int .i64 0]) (Qs := [Blk b1001 (.cells [.slice (some ⟨b1002, 0, none⟩) 2 2, .map (some b1003), .int .i64 100].toArray 167 (0, 0)), Blk b1003 (.map #[] 0), Blk b1002 (.cells [.int .i64 104, .int .i64 0, .int .i64 0, .int .i64 104, .int .i64 0, .int .i64 0].toArray 163 (0, 0)), _, _, _, _, _, _]) rfl rfl ?_
  refine dl_t rfl rfl rfl (op_move rfl) ?_
  refine dl_t rfl rfl rfl (op_extract rfl rfl) ?_
  refine dl_t rfl rfl rfl (op_extract rfl rfl) ?_
  refine dl_t rfl rfl rfl (op_assign rfl) ?_
  refine dl_t rfl rfl rfl (op_assign rfl) ?_
  refine dn_done ?_
  refine dn_then ?_
  refine dn_seq ?_
  refine dn_seq ?_
  refine dn_reg ?_
  refine dl_t rfl rfl rfl (op_move rfl) ?_
  refine dl_t rfl rfl rfl (op_cmpc (b := false) rfl rfl rfl) ?_
  refine dn_done ?_
  refine dn_then ?_
  refine dn_cond_false rfl ?_
  refine dn_skip ?_
  refine dn_then ?_
  refine dn_seq ?_
  refine dn_reg ?_
  refine dl_t rfl rfl rfl (op_move rfl) ?_
  refine dl_t rfl rfl rfl (op_move rfl) ?_
  refine dl_t rfl rfl rfl (op_move rfl) ?_
  refine dl_e rfl (op_call (vs := [.pointer (some ⟨b1001, 0, none⟩), .pointer (some ⟨b1, 0, none⟩), .int .i64 1]) cl_44 (awk23 b1001 b1 b1002 b1003 b2 a1 c1 b3 b4) rfl [0, 0, 0, 0, 0, 0, 0, 0] (Rs := [R]) (by kernel_rfl) rfl) ?_
  rintro ⟨b1004, a1005, c1006, b1007⟩ -
  refine dn_normv (u := .tuple #[.pointer (some ⟨b1004, 0, none⟩), .int .i64 0]) (Qs := [Blk b1004 (.cells [.int .i64 1, .slice a1005 1 c1006, .slice none 0 0].toArray 176 (0, 0)), OwnS 215 3 a1005 1 c1006 [.int .i64 1, .int .i64 0, .int .i64 0], Blk b3 (.cells [.map (some b4), .slice none 0 0, .pointer none, .pointer none, .int .i64 0].toArray 161 (0, 0)), Blk b4 (.map #[] 0), Blk b1001 (.cells [.slice (some ⟨b1002, 0, none⟩) 2 2, .map (some b1003), .int .i64 100].toArray 167 (0, 0)), Blk b1003 (.map #[] 0), Blk b1002 (.cells [.int .i64 104, .int .i64 0, .int .i64 0, .int .i64 104, .int .i64 0, .int .i64 0].toArray 163 (0, 0)), OwnS 120 1 (some ⟨b1007, 0, none⟩) 1 c1 [.pointer (some ⟨b3, 0, none⟩)], Blk b1 (.cells [.slice (some ⟨b2, 0, none⟩) 1 1, .slice none 0 0, .slice none 0 0, .slice (some ⟨b1007, 0, none⟩) 1 c1].toArray 119 (0, 0)), Blk b2 (.cells [.int .i64 1].toArray 3 (0, 0)), _]) rfl rfl ?_
  refine dl_t rfl rfl rfl (op_move rfl) ?_
  refine dl_t rfl rfl rfl (op_extract rfl rfl) ?_
  refine dl_t rfl rfl rfl (op_extract rfl rfl) ?_
  refine dl_t rfl rfl rfl (op_assign rfl) ?_
  refine dl_t rfl rfl rfl (op_assign rfl) ?_
  refine dn_done ?_
  refine dn_then ?_
  refine dn_seq ?_
  refine dn_seq ?_
  refine dn_reg ?_
  refine dl_t rfl rfl rfl (op_move rfl) ?_
  refine dl_t rfl rfl rfl (op_cmpc (b := false) rfl rfl rfl) ?_
  refine dn_done ?_
  refine dn_then ?_
  refine dn_cond_false rfl ?_
  refine dn_skip ?_
  refine dn_then ?_
  refine dn_seq ?_
  refine dn_reg ?_
  refine dl_t rfl rfl rfl (op_move rfl) ?_
  refine dl_t rfl rfl rfl (op_move rfl) ?_
  refine dl_t rfl rfl rfl (op_move rfl) ?_
  refine dl_e rfl (op_call (vs := [.pointer (some ⟨b1001, 0, none⟩)]) cl_45 (awk22 b1001 b1002 b1003) rfl [4, 4, 4] (by exact rfl) rfl) ?_
  rintro ⟨⟩ -
  refine dn_normv (u := .int .i64 2) (Qs := [Blk b1001 (.cells [.slice (some ⟨b1002, 0, none⟩) 2 2, .map (some b1003), .int .i64 100].toArray 167 (0, 0)), Blk b1003 (.map #[] 0), Blk b1002 (.cells [.int .i64 104, .int .i64 0, .int .i64 0, .int .i64 104, .int .i64 0, .int .i64 0].toArray 163 (0, 0)), _, _, _, _, _, _, _, _]) rfl rfl ?_
  refine dl_t rfl rfl rfl (op_build (qs := [(0, .pointer (some ⟨b1001, 0, none⟩)), (1, .pointer (some ⟨b1004, 0, none⟩)), (2, .int .i64 2)]) (vs := [.pointer (some ⟨b1001, 0, none⟩), .pointer (some ⟨b1004, 0, none⟩), .int .i64 2]) rfl (by kernel_rfl)) ?_
  refine dl_e rfl (op_box (vs := [.pointer (some ⟨b1001, 0, none⟩), .pointer (some ⟨b1004, 0, none⟩), .int .i64 2]) rfl rfl rfl) ?_
  rintro b1008 -
  refine dn_norm (Qs := [_, _, _, _, _, _, _, _, _, _, _, _]) rfl ?_
  refine dl_t rfl rfl rfl (op_assign rfl) ?_
  refine dl_t rfl rfl rfl (op_assign rfl) ?_
  refine dn_done ?_
  refine dn_then ?_
  refine dn_ret ?_
  exact dn_end (vs := [.pointer (some ⟨b1008, 0, none⟩), .int .i64 0]) (b1008, b1001, b1004, b1002, b1003, a1005, c1006, b1007) (by exact rfl) (by exact rfl) (by exact rfl) (by trivial) [0, 0, 0, 0, 0, 0, 0, 0, 0, 0, 0, 0] (Rs := []) (by kernel_rfl) (by exact .inl rfl)
/-- crossbuck/version.New[*crossbuck/shard.Part] -/
theorem awk38 (b1 : Nat) (b2 : Nat) (b3 : Nat) (b4 : Nat) (b5 : Nat) (a1 : Option Addr) (c1 : Nat) : Tri Tryz.prog 31 [.pointer (some ⟨b1, 0, none⟩)].toArray [Blk b1 (.cells [.pointer (some ⟨b2, 0, none⟩), .pointer (some ⟨b3, 0, none⟩), .int .i64 2].toArray 133 (0, 0)), Blk b2 (.cells [.slice (some ⟨b4, 0, none⟩) 2 2, .map (some b5), .int .i64 100].toArray 167 (0, 0)), Blk b5 (.map #[] 0), Blk b4 (.cells [.int .i64 104, .int .i64 0, .int .i64 0, .int .i64 104, .int .i64 0, .int .i64 0].toArray 163 (0, 0)), Blk b3 (.cells [.int .i64 1, .slice a1 1 c1, .slice none 0 0].toArray 176 (0, 0)), OwnS 215 3 a1 1 c1 [.int .i64 1, .int .i64 0, .int .i64 0]] (X := Nat × Nat) (fun x => .pointer (some ⟨x.1, 0, none⟩)) (fun _ => True) (fun x => [Blk x.1 (.cells [.slice (some ⟨x.2, 0, none⟩) 1 1, .slice none 0 0].toArray 138 (0, 0)), Blk x.2 (.cells [.int .i64 0, .pointer (some ⟨b1, 0, none⟩)].toArray 135 (0, 0)), Blk b1 (.cells [.pointer (some ⟨b2, 0, none⟩), .pointer (some ⟨b3, 0, none⟩), .int .i64 2].toArray 133 (0, 0)), Blk b2 (.cells [.slice (some ⟨b4, 0, none⟩) 2 2, .map (some b5), .int .i64 100].toArray 167 (0, 0)), Blk b5 (.map #[] 0), Blk b4 (.cells [.int .i64 104, .int .i64 0, .int .i64 0, .int .i64 104, .int .i64 0, .int .i64 0].toArray 163 (0, 0)), Blk b3 (.cells [.int .i64 1, .slice a1 1 c1, .slice none 0 0].toArray 176 (0, 0)), OwnS 215 3 a1 1 c1 [.int .i64 1, .int .i64 0, .int .i64 0]]) := by
  refine tri_intro (n := 8) (vs := [.pointer (some ⟨b1, 0, none⟩)]) Tryz.func31 rfl rfl rfl (fun R E => ?_)
  show Dn E 8 [] _ [(0, .pointer (some ⟨b1, 0, none⟩))] [Blk b1 (.cells [.pointer (some ⟨b2, 0, none⟩), .pointer (some ⟨b3, 0, none⟩), .int .i64 2].toArray 133 (0, 0)), Blk b2 (.cells [.slice (some ⟨b4, 0, none⟩) 2 2, .map (some b5), .int .i64 100].toArray 167 (0, 0)), Blk b5 (.map #[] 0), Blk b4 (.cells [.int .i64 104, .int .i64 0, .int .i64 0, .int .i64 104, .int .i64 0, .int .i64 0].toArray 163 (0, 0)), Blk b3 (.cells [.int .i64 1, .slice a1 1 c1, .slice none 0 0].toArray 176 (0, 0)), OwnS 215 3 a1 1 c1 [.int .i64 1, .int .i64 0, .int .i64 0], R]
  refine dn_seq ?_
  refine dn_reg ?_
  refine dl_t rfl rfl rfl (op_assign rfl) ?_
  refine dn_done ?_
  refine dn_then ?_
  refine dn_seq ?_
  refine dn_reg ?_
  refine dl_t rfl rfl rfl (op_move rfl) ?_
  refine dl_t rfl rfl rfl (op_build (qs := [(0, .int .i64 0), (1, .pointer (some ⟨b1, 0, none⟩))]) (vs := [.int .i64 0, .pointer (some ⟨b1, 0, none⟩)]) rfl (by kernel_rfl)) ?_
  refine dl_e rfl (op_buildSlice (e := 135) (qs := [(0, .agg #[.int .i64 0, .pointer (some ⟨b1, 0, none⟩)])]) (vs := [.int .i64 0, .pointer (some ⟨b1, 0, none⟩)]) rfl (by kernel_rfl) rfl) ?_
  rintro b1001 -
  refine dn_norm (Qs := [_, _, _, _, _, _, _, _]) rfl ?_
  refine dl_t rfl rfl rfl (op_build (qs := [(0, .slice (some ⟨b1001, 0, none⟩) 1 1)]) (vs := [.slice (some ⟨b1001, 0, none⟩) 1 1, .slice none 0 0]) rfl (by kernel_rfl)) ?_
  refine dl_e rfl (op_box (vs := [.slice (some ⟨b1001, 0, none⟩) 1 1, .slice none 0 0]) rfl rfl rfl) ?_
  rintro b1002 -
  refine dn_norm (Qs := [_, _, _, _, _, _, _, _, _]) rfl ?_
  refine dl_t rfl rfl rfl (op_assign rfl) ?_
  refine dn_done ?_
  refine dn_then ?_
  refine dn_ret ?_
  exact dn_end (vs := [.pointer (some ⟨b1002, 0, none⟩)]) (b1002, b1001) (by exact rfl) (by exact rfl) (by exact rfl) (by trivial) [0, 0, 0, 0, 0, 0, 0, 0, 0] (Rs := []) (by kernel_rfl) (by exact .inl rfl)
/-- crossbuck/engine.New -/
theorem awk3 (b1 : Nat) : Tri Tryz.prog 21 [.agg #[.slice (some ⟨b1, 0, none⟩) 1 1, .slice none 0 0, .slice none 0 0], .int .i64 0, .int .i64 100].toArray [Blk b1 (.cells [.int .i64 1].toArray 3 (0, 0))] (X := Nat × Nat × Option Addr × Nat × Nat × Nat × Nat × Nat × Nat × Nat × Nat × Nat × Nat × Option Addr × Nat × Nat × Nat × Nat × Nat) (fun x => .tuple #[.pointer (some ⟨x.1, 0, none⟩), .int .i64 0]) (fun _ => True) (fun x => [Blk x.1 (.cells [.pointer (some ⟨x.2.1, 0, none⟩), .int .i64 0, .int .i64 100, .int .i64 0, .slice x.2.2.1 1 x.2.2.2.1, .map (some x.2.2.2.2.1), .map (some x.2.2.2.2.2.1), .bool false].toArray 95 (0, 0)), OwnS 100 1 x.2.2.1 1 x.2.2.2.1 [.pointer (some ⟨x.2.2.2.2.2.2.1, 0, none⟩)], Blk x.2.2.2.2.2.2.1 (.cells [.slice (some ⟨x.2.2.2.2.2.2.2.1, 0, none⟩) 1 1, .slice none 0 0].toArray 138 (0, 0)), Blk x.2.2.2.2.2.2.2.1 (.cells [.int .i64 0, .pointer (some ⟨x.2.2.2.2.2.2.2.2.1, 0, none⟩)].toArray 135 (0, 0)), Blk x.2.2.2.2.2.2.2.2.1 (.cells [.pointer (some ⟨x.2.2.2.2.2.2.2.2.2.1, 0, none⟩), .pointer (some ⟨x.2.2.2.2.2.2.2.2.2.2.1, 0, none⟩), .int .i64 2].toArray 133 (0, 0)), Blk x.2.2.2.2.2.2.2.2.2.1 (.cells [.slice (some ⟨x.2.2.2.2.2.2.2.2.2.2.2.1, 0, none⟩) 2 2, .map (some x.2.2.2.2.2.2.2.2.2.2.2.2.1), .int .i64 100].toArray 167 (0, 0)), Blk x.2.2.2.2.2.2.2.2.2.2.2.2.1 (.map #[] 0), Blk x.2.2.2.2.2.2.2.2.2.2.2.1 (.cells [.int .i64 104, .int .i64 0, .int .i64 0, .int .i64 104, .int .i64 0, .int .i64 0].toArray 163 (0, 0)), Blk x.2.2.2.2.2.2.2.2.2.2.1 (.cells [.int .i64 1, .slice x.2.2.2.2.2.2.2.2.2.2.2.2.2.1 1 x.2.2.2.2.2.2.2.2.2.2.2.2.2.2.1, .slice none 0 0].toArray 176 (0, 0)), OwnS 215 3 x.2.2.2.2.2.2.2.2.2.2.2.2.2.1 1 x.2.2.2.2.2.2.2.2.2.2.2.2.2.2.1 [.int .i64 1, .int .i64 0, .int .i64 0], Blk x.2.2.2.2.2.2.2.2.2.2.2.2.2.2.2.1 (.cells [.map (some x.2.2.2.2.2.2.2.2.2.2.2.2.2.2.2.2.1), .slice none 0 0, .pointer none, .pointer none, .int .i64 0].toArray 161 (0, 0)), Blk x.2.2.2.2.2.2.2.2.2.2.2.2.2.2.2.2.1 (.map #[] 0), OwnS 120 1 (some ⟨x.2.2.2.2.2.2.2.2.2.2.2.2.2.2.2.2.2.1, 0, none⟩) 1 x.2.2.2.2.2.2.2.2.2.2.2.2.2.2.2.2.2.2 [.pointer (some ⟨x.2.2.2.2.2.2.2.2.2.2.2.2.2.2.2.1, 0, none⟩)], Blk x.2.1 (.cells [.slice (some ⟨b1, 0, none⟩) 1 1, .slice none 0 0, .slice none 0 0, .slice (some ⟨x.2.2.2.2.2.2.2.2.2.2.2.2.2.2.2.2.2.1, 0, none⟩) 1 x.2.2.2.2.2.2.2.2.2.2.2.2.2.2.2.2.2.2].toArray 119 (0, 0)), Blk b1 (.cells [.int .i64 1].toArray 3 (0, 0)), Blk x.2.2.2.2.2.1 (.map #[] 0), Blk x.2.2.2.2.1 (.map #[] 0)]) := by
  refine tri_intro (n := 61) (vs := [.agg #[.slice (some ⟨b1, 0, none⟩) 1 1, .slice none 0 0, .slice none 0 0], .int .i64 0, .int .i64 100]) Tryz.func21 rfl rfl rfl (fun R E => ?_)
  show Dn E 61 [] _ [(0, .agg #[.slice (some ⟨b1, 0, none⟩) 1 1, .slice none 0 0, .slice none 0 0]), (1, .int .i64 0), (2, .int .i64 100)] [Blk b1 (.cells [.int .i64 1].toArray 3 (0, 0)), R]
  refine dn_seq ?_
  refine dn_reg ?_
  refine dl_e rfl (op_box (vs := [.slice (some ⟨b1, 0, none⟩) 1 1, .slice none 0 0, .slice none 0 0]) rfl rfl rfl) ?_
  rintro b1001 -
  refine dn_norm (Qs := [_, _, _]) rfl ?_
  refine dl_t rfl rfl rfl (op_assign rfl) ?_
  refine dl_t rfl rfl rfl (op_assign rfl) ?_
  refine dn_done ?_
  refine dn_then ?_
  refine dn_seq ?_
  refine dn_reg ?_
  refine dl_r 0 rfl rfl rfl rfl (op_loadN rfl ag_53 sz_53 rfl rfl) ?_
  refine dl_e rfl (op_call (vs := [.agg #[.slice (some ⟨b1, 0, none⟩) 1 1, .slice none 0 0, .slice none 0 0]]) cl_27 (awk4 b1) rfl [1] (by exact rfl) rfl) ?_
  rintro ⟨b1002, a1003, c1004, b1005, b1006⟩ -
  refine dn_normv (u := .tuple #[.pointer (some ⟨b1002, 0, none⟩), .int .i64 0]) (Qs := [Blk b1002 (.cells [.slice (some ⟨b1, 0, none⟩) 1 1, .slice none 0 0, .slice none 0 0, .slice a1003 1 c1004].toArray 119 (0, 0)), OwnS 120 1 a1003 1 c1004 [.pointer (some ⟨b1005, 0, none⟩)], Blk b1005 (.cells [.map (some b1006), .slice none 0 0, .pointer none, .pointer none, .int .i64 0].toArray 161 (0, 0)), Blk b1006 (.map #[] 0), Blk b1 (.cells [.int .i64 1].toArray 3 (0, 0)), _, _]) rfl rfl ?_
  refine dl_t rfl rfl rfl (op_move rfl) ?_
  refine dl_t rfl rfl rfl (op_extract rfl rfl) ?_
  refine dl_t rfl rfl rfl (op_extract rfl rfl) ?_
  refine dl_t rfl rfl rfl (op_assign rfl) ?_
  refine dl_t rfl rfl rfl (op_assign rfl) ?_
  refine dn_done ?_
  refine dn_then ?_
  refine dn_seq ?_
  refine dn_seq ?_
  refine dn_reg ?_
  refine dl_t rfl rfl rfl (op_move rfl) ?_
  refine dl_t rfl rfl rfl (op_cmpc (b := false) rfl rfl rfl) ?_
  refine dn_done ?_
  refine dn_then ?_
  refine dn_cond_false rfl ?_
  refine dn_skip ?_
  refine dn_then ?_
  refine dn_seq ?_
  refine dn_seq ?_
  refine dn_reg ?_
  refine dl_t rfl rfl rfl (op_move rfl) ?_
  refine dl_e rfl (op_call (vs := [.int .i64 0]) cl_28 (awk11) rfl [] (by exact rfl) rfl) ?_
  rintro ⟨⟩ -
  refine dn_normv (u := .bool true) (Qs := [_, _, _, _, _, _, _]) rfl rfl ?_
  refine dl_t rfl rfl rfl (op_notc rfl rfl) ?_
  refine dn_done ?_
  refine dn_then ?_
  refine dn_cond_false rfl ?_
  refine dn_skip ?_
  refine dn_then ?_
  refine dn_seq ?_
  refine dn_reg ?_
  refine dl_t rfl rfl rfl (op_move rfl) ?_
  refine dl_t rfl rfl rfl (op_move rfl) ?_
  refine dl_t rfl rfl rfl (op_move rfl) ?_
  refine dl_e rfl (op_makeMap rfl) ?_
  rintro b1007 -
  refine dn_norm (Qs := [_, _, _, _, _, _, _, _]) rfl ?_
  refine dl_e rfl (op_makeMap rfl) ?_
  rintro b1008 -
  refine dn_norm (Qs := [_, _, _, _, _, _, _, _, _]) rfl ?_
  refine dl_t rfl rfl rfl (op_build (qs := [(0, .pointer (some ⟨b1002, 0, none⟩)), (1, .int .i64 0), (2, .int .i64 100), (5, .map (some b1007)), (6, .map (some b1008))]) (vs := [.pointer (some ⟨b1002, 0, none⟩), .int .i64 0, .int .i64 100, .int .i64 0, .slice none 0 0, .map (some b1007), .map (some b1008), .bool false]) rfl (by kernel_rfl)) ?_
  refine dl_e rfl (op_box (vs := [.pointer (some ⟨b1002, 0, none⟩), .int .i64 0, .int .i64 100, .int .i64 0, .slice none 0 0, .map (some b1007), .map (some b1008), .bool false]) rfl rfl rfl) ?_
  rintro b1009 -
  refine dn_norm (Qs := [_, _, _, _, _, _, _, _, _, _]) rfl ?_
  refine dl_t rfl rfl rfl (op_assign rfl) ?_
  refine dn_done ?_
  refine dn_then ?_
  refine dn_seq ?_
  refine dn_seq ?_
  refine dn_reg ?_
  refine dl_t rfl rfl rfl (op_move rfl) ?_
  refine dl_e rfl (op_call (vs := [.int .i64 0]) cl_29 (awk12) rfl [] (by exact rfl) rfl) ?_
  rintro ⟨⟩ -
  refine dn_normv (u := .int .i64 1) (Qs := [_, _, _, _, _, _, _, _, _, _]) rfl rfl ?_
  refine dl_t rfl rfl rfl (op_move rfl) ?_
  refine dn_done ?_
  refine dn_then ?_
  refine dn_block ?_
  refine dn_loop0 ?_
  refine dn_round ?_
  refine dn_seq ?_
  refine dn_reg ?_
  refine dl_t rfl rfl rfl (op_cmpc (b := true) rfl rfl rfl) ?_
  refine dn_done ?_
  refine dn_then ?_
  refine dn_seq ?_
  refine dn_cond_true rfl ?_
  refine dn_skip ?_
  refine dn_then ?_
  refine dn_seq ?_
  refine dn_block ?_
  refine dn_seq ?_
  refine dn_reg ?_
  refine dl_t rfl rfl rfl (op_move rfl) ?_
  refine dl_t rfl rfl rfl (op_assign rfl) ?_
  refine dn_done ?_
  refine dn_then ?_
  refine dn_seq ?_
  refine dn_reg ?_
  refine dl_t rfl rfl rfl (op_move rfl) ?_
  refine dl_t rfl rfl rfl (op_move rfl) ?_
  refine dl_t rfl rfl rfl (op_move rfl) ?_
  refine dl_t rfl rfl rfl (op_move rfl) ?_
  refine dl_e rfl (op_call (vs := [.pointer (some ⟨b1002, 0, none⟩), .int .i64 0, .int .i64 0, .int .i64 100]) cl_30 (awk13 b1002 b1 a1003 c1004 b1005 b1006) rfl [3, 3, 3, 3, 3] (Rs := [Blk b1009 (.cells [.pointer (some ⟨b1002, 0, none⟩), .int .i64 0, .int .i64 100, .int .i64 0, .slice none 0 0, .map (some b1007), .map (some b1008), .bool false].toArray 95 (0, 0)), Blk b1008 (.map #[] 0), Blk b1007 (.map #[] 0), Blk b1001 (.cells [.slice (some ⟨b1, 0, none⟩) 1 1, .slice none 0 0, .slice none 0 0].toArray 53 (0, 0)), R]) (by kernel_rfl) rfl) ?_
  rintro ⟨b1010, b1011, b1012, b1013, b1014, a1015, c1016, b1017⟩ -
  refine dn_normv (u := .tuple #[.pointer (some ⟨b1010, 0, none⟩), .int .i64 0]) (Qs := [Blk b1010 (.cells [.pointer (some ⟨b1011, 0, none⟩), .pointer (some ⟨b1012, 0, none⟩), .int .i64 2].toArray 133 (0, 0)), Blk b1011 (.cells [.slice (some ⟨b1013, 0, none⟩) 2 2, .map (some b1014), .int .i64 100].toArray 167 (0, 0)), Blk b1014 (.map #[] 0), Blk b1013 (.cells [.int .i64 104, .int .i64 0, .int .i64 0, .int .i64 104, .int .i64 0, .int .i64 0].toArray 163 (0, 0)), Blk b1012 (.cells [.int .i64 1, .slice a1015 1 c1016, .slice none 0 0].toArray 176 (0, 0)), OwnS 215 3 a1015 1 c1016 [.int .i64 1, .int .i64 0, .int .i64 0], Blk b1005 (.cells [.map (some b1006), .slice none 0 0, .pointer none, .pointer none, .int .i64 0].toArray 161 (0, 0)), Blk b1006 (.map #[] 0), OwnS 120 1 (some ⟨b1017, 0, none⟩) 1 c1004 [.pointer (some ⟨b1005, 0, none⟩)], Blk b1002 (.cells [.slice (some ⟨b1, 0, none⟩) 1 1, .slice none 0 0, .slice none 0 0, .slice (some ⟨b1017, 0, none⟩) 1 c1004].toArray 119 (0, 0)), Blk b1 (.cells [.int .i64 1].toArray 3 (0, 0)), _, _, _, _, _]) rfl rfl ?_
  refine dl_t rfl rfl rfl (op_move rfl) ?_
  refine dl_t rfl rfl rfl (op_extract rfl rfl) ?_
  refine dl_t rfl rfl rfl (op_extract rfl rfl) ?_
  refine dl_t rfl rfl rfl (op_assign rfl) ?_
  refine dl_t rfl rfl rfl (op_assign rfl) ?_
  refine dn_done ?_
  refine dn_then ?_
  refine dn_seq ?_
  refine dn_seq ?_
  refine dn_reg ?_
  refine dl_t rfl rfl rfl (op_move rfl) ?_
  refine dl_t rfl rfl rfl (op_cmpc (b := false) rfl rfl rfl) ?_
  refine dn_done ?_
  refine dn_then ?_
  refine dn_cond_false rfl ?_
  refine dn_skip ?_
  refine dn_then ?_
  refine dn_any (N := 12) (l0 := #[false, false, false, false, false, false, false, false, false, false, false, false]) mixed (fun i => Nat.beq i 8 || Nat.beq i 11) (fun s => match s with | 0 => [Blk b1009 (.cells [.pointer (some ⟨b1002, 0, none⟩), .int .i64 0, .int .i64 100, .int .i64 0, .slice none 0 0, .map (some b1007), .map (some b1008), .bool false].toArray 95 (0, 0))] | _ => []) [11] rfl rfl rfl ?_
  refine ds_t (listed' := #[true, false, false, false, false, false, false, false, false, false, false, false]) 0 (by kernel_rfl) rfl rfl rfl rfl rfl (op_move rfl) ?_
  refine ds_t (listed' := #[true, true, false, false, false, false, false, false, false, false, false, false]) 1 (by kernel_rfl) rfl rfl rfl rfl rfl (op_move rfl) ?_
  refine ds_t (listed' := #[true, true, true, false, false, false, false, false, false, false, false, false]) 2 (by kernel_rfl) rfl rfl rfl rfl rfl (op_nilCheck rfl) ?_
  refine ds_t (listed' := #[true, true, true, true, false, false, false, false, false, false, false, false]) 3 (by kernel_rfl) rfl rfl rfl rfl rfl (op_fieldAddr (i' := 4) rfl fd_95_4 rfl) ?_
  refine ds_t (listed' := #[true, true, true, true, false, true, false, false, false, false, false, false]) 5 (by kernel_rfl) rfl rfl rfl rfl rfl (op_move rfl) ?_
  refine ds_r (listed' := #[true, true, true, true, true, true, false, false, false, false, false, false]) 4 (by kernel_rfl) rfl rfl rfl rfl rfl 0 rfl (op_load rfl ag_93 rfl) ?_
  refine ds_x (s' := 0) (listed' := #[true, true, true, true, true, true, true, false, false, false, false, false]) 6 (by kernel_rfl) rfl rfl rfl rfl (op_call (vs := [.pointer (some ⟨b1010, 0, none⟩)]) cl_31 (awk38 b1010 b1011 b1012 b1013 b1014 a1015 c1016) rfl [0, 0, 0, 0, 0, 0] (Rs := [Blk b1005 (.cells [.map (some b1006), .slice none 0 0, .pointer none, .pointer none, .int .i64 0].toArray 161 (0, 0)), Blk b1006 (.map #[] 0), OwnS 120 1 (some ⟨b1017, 0, none⟩) 1 c1004 [.pointer (some ⟨b1005, 0, none⟩)], Blk b1002 (.cells [.slice (some ⟨b1, 0, none⟩) 1 1, .slice none 0 0, .slice none 0 0, .slice (some ⟨b1017, 0, none⟩) 1 c1004].toArray 119 (0, 0)), Blk b1 (.cells [.int .i64 1].toArray 3 (0, 0)), Blk b1009 (.cells [.pointer (some ⟨b1002, 0, none⟩), .int .i64 0, .int .i64 100, .int .i64 0, .slice none 0 0, .map (some b1007), .map (some b1008), .bool false].toArray 95 (0, 0)), Blk b1008 (.map #[] 0), Blk b1007 (.map #[] 0), Blk b1001 (.cells [.slice (some ⟨b1, 0, none⟩) 1 1, .slice none 0 0, .slice none 0 0].toArray 53 (0, 0)), R]) (by kernel_rfl) rfl) [13] (fun _ => ⟨_, rfl⟩) ?_
  rintro ⟨b1018, b1019⟩ -
  refine ds_normv (u := .pointer (some ⟨b1018, 0, none⟩)) (Qs := [Blk b1018 (.cells [.slice (some ⟨b1019, 0, none⟩) 1 1, .slice none 0 0].toArray 138 (0, 0)), Blk b1019 (.cells [.int .i64 0, .pointer (some ⟨b1010, 0, none⟩)].toArray 135 (0, 0)), Blk b1010 (.cells [.pointer (some ⟨b1011, 0, none⟩), .pointer (some ⟨b1012, 0, none⟩), .int .i64 2].toArray 133 (0, 0)), Blk b1011 (.cells [.slice (some ⟨b1013, 0, none⟩) 2 2, .map (some b1014), .int .i64 100].toArray 167 (0, 0)), Blk b1014 (.map #[] 0), Blk b1013 (.cells [.int .i64 104, .int .i64 0, .int .i64 0, .int .i64 104, .int .i64 0, .int .i64 0].toArray 163 (0, 0)), Blk b1012 (.cells [.int .i64 1, .slice a1015 1 c1016, .slice none 0 0].toArray 176 (0, 0)), OwnS 215 3 a1015 1 c1016 [.int .i64 1, .int .i64 0, .int .i64 0], _, _, _, _, _, _, _, _, _, _]) rfl rfl ?_
  refine ds_x (s' := 0) (listed' := #[true, true, true, true, true, true, true, true, false, false, false, false]) 7 (by kernel_rfl) rfl rfl rfl rfl (op_buildSlice (e := 100) (qs := [(0, .pointer (some ⟨b1018, 0, none⟩))]) (vs := [.pointer (some ⟨b1018, 0, none⟩)]) rfl (by kernel_rfl) rfl) [14] (fun _ => ⟨_, rfl⟩) ?_
  rintro b1020 -
  refine ds_norm (Qs := [_, _, _, _, _, _, _, _, _, _, _, _, _, _, _, _, _, _, _]) rfl ?_
  refine ds_of ?_
  refine dn_hold (fun _ H => H.ownNil 100 1) ?_
  refine of_ds ?_
  refine ds_x (s' := 1) (listed' := #[true, true, true, true, true, true, true, true, true, false, false, false]) 8 (by kernel_rfl) rfl rfl rfl rfl (op_append (news := [.pointer (some ⟨b1018, 0, none⟩)]) (k' := 1) [0] rfl rfl rfl el_93 sz_100 zr_100 by_100 rfl rfl rfl (fun w H j u q => cellsAt (holds_one (i := 1) (C := Blk b1020 (.cells [.pointer (some ⟨b1018, 0, none⟩)].toArray 100 (0, 0))) rfl H).blk 0 [.pointer (some ⟨b1018, 0, none⟩)] rfl j u q) (List.all_eq_true.1 rfl) (by decide) (by decide) rfl rfl) [] (fun _ => ⟨_, rfl⟩) ?_
  rintro ⟨a1021, c1022⟩ -
  refine ds_norm (Qs := [_, _, _, _, _, _, _, _, _, _, _, _, _, _, _, _, _, _, _, _]) rfl ?_
  refine ds_t (listed' := #[true, true, true, true, true, true, true, true, true, true, false, false]) 9 (by kernel_rfl) rfl rfl rfl rfl rfl (op_nilCheck rfl) ?_
  refine ds_t (listed' := #[true, true, true, true, true, true, true, true, true, true, true, false]) 10 (by kernel_rfl) rfl rfl rfl rfl rfl (op_fieldAddr (i' := 4) rfl fd_95_4 rfl) ?_
  refine ds_s (s' := 2) (listed' := #[true, true, true, true, true, true, true, true, true, true, true, true]) 11 (by kernel_rfl) rfl rfl rfl rfl (op_store (vs := [.slice a1021 1 c1022]) (l' := [.pointer (some ⟨b1002, 0, none⟩), .int .i64 0, .int .i64 100, .int .i64 0, .slice a1021 1 c1022, .map (some b1007), .map (some b1008), .bool false]) 15 rfl rfl rfl sz_93 rfl rfl rfl rfl rfl) [] rfl ?_
  refine ds_norm (Qs := [_, _, _, _, _, _, _, _, _, _, _, _, _, _, _, _, _, _, _, _]) rfl ?_
  refine ds_done rfl ?_
  refine dn_inB ?_
  refine dn_then ?_
  refine dn_reg ?_
  refine dl_t rfl rfl rfl (op_add (z := 1) rfl rfl (by decide)) ?_
  refine dl_t rfl rfl rfl (op_move rfl) ?_
  refine dn_done ?_
  refine dn_then ?_
  refine dn_round ?_
  refine dn_seq ?_
  refine dn_reg ?_
  refine dl_t rfl rfl rfl (op_cmpc (b := false) rfl rfl rfl) ?_
  refine dn_done ?_
  refine dn_then ?_
  refine dn_seq ?_
  refine dn_cond_false rfl ?_
  refine dn_exit ?_
  refine dn_thenX ?_
  refine dn_thenX ?_
  refine dn_inBX ?_
  refine dn_then ?_
  refine dn_seq ?_
  refine dn_reg ?_
  refine dl_t rfl rfl rfl (op_move rfl) ?_
  refine dl_t rfl rfl rfl (op_assign rfl) ?_
  refine dl_t rfl rfl rfl (op_assign rfl) ?_
  refine dn_done ?_
  refine dn_then ?_
  refine dn_ret ?_
  exact dn_end (vs := [.pointer (some ⟨b1009, 0, none⟩), .int .i64 0]) (b1009, b1002, a1021, c1022, b1007, b1008, b1018, b1019, b1010, b1011, b1012, b1013, b1014, a1015, c1016, b1005, b1006, b1017, c1004) (by exact rfl) (by exact rfl) (by exact rfl) (by trivial) [0, 0, 1, 1, 1, 1, 1, 1, 1, 1, 1, 1, 1, 1, 1, 1, 1, 2] (Rs := [Blk b1020 (.cells [.pointer (some ⟨b1018, 0, none⟩)].toArray 100 (0, 0)), Blk b1001 (.cells [.slice (some ⟨b1, 0, none⟩) 1 1, .slice none 0 0, .slice none 0 0].toArray 53 (0, 0))]) (by kernel_rfl) (by exact .inl rfl)
/-- slices.Clone[[]crossbuck/sched.Rec,crossbuck/sched.Rec] -/
theorem awk40  : Tri Tryz.prog 16 [.slice none 0 0].toArray [] (X := Unit) (fun _ => .slice none 0 0) (fun _ => True) (fun _ => []) := by
  refine tri_intro (n := 8) (vs := [.slice none 0 0]) Tryz.func16 rfl rfl rfl (fun R E => ?_)
  show Dn E 8 [] _ [(0, .slice none 0 0)] [R]
  refine dn_seq ?_
  refine dn_reg ?_
  refine dl_t rfl rfl rfl (op_assign rfl) ?_
  refine dn_done ?_
  refine dn_then ?_
  refine dn_seq ?_
  refine dn_seq ?_
  refine dn_reg ?_
  refine dl_t rfl rfl rfl (op_move rfl) ?_
  refine dl_t rfl rfl rfl (op_slieql rfl rfl el_24 rfl) ?_
  refine dn_done ?_
  refine dn_then ?_
  refine dn_cond_true rfl ?_
  refine dn_seq ?_
  refine dn_reg ?_
  refine dl_t rfl rfl rfl (op_assign rfl) ?_
  refine dn_done ?_
  refine dn_then ?_
  refine dn_ret ?_
  refine dn_thenR ?_
  exact dn_end (vs := [.slice none 0 0]) () (by exact rfl) (by exact rfl) (by exact rfl) (by trivial) [0] (by exact rfl) (by exact .inl rfl)
/-- slices.insertionSortCmpFunc[crossbuck/sched.Rec] -/
theorem awk43  : Tri Tryz.prog 34 [.slice none 0 0, .int .i64 0, .int .i64 0, .func (.func 18) #[] #[]].toArray [] (X := Unit) (fun _ => .tuple #[]) (fun _ => True) (fun _ => []) := by
  refine tri_intro (n := 53) (vs := [.slice none 0 0, .int .i64 0, .int .i64 0, .func (.func 18) #[] #[]]) Tryz.func34 rfl rfl rfl (fun R E => ?_)
  show Dn E 53 [] _ [(0, .slice none 0 0), (1, .int .i64 0), (2, .int .i64 0), (3, .func (.func 18) #[] #[])] [R]
  refine dn_seq ?_
  refine dn_reg ?_
  refine dl_t rfl rfl rfl (op_move rfl) ?_
  refine dl_t rfl rfl rfl (op_add (z := 1) rfl rfl (by decide)) ?_
  refine dl_t rfl rfl rfl (op_assign rfl) ?_
  refine dn_done ?_
  refine dn_then ?_
  refine dn_block ?_
  refine dn_loop0 ?_
  refine dn_round ?_
  refine dn_seq ?_
  refine dn_seq ?_
  refine dn_reg ?_
  refine dl_t rfl rfl rfl (op_move rfl) ?_
  refine dl_t rfl rfl rfl (op_move rfl) ?_
  refine dl_t rfl rfl rfl (op_cmpc (b := false) rfl rfl rfl) ?_
  refine dn_done ?_
  refine dn_then ?_
  refine dn_cond_false rfl ?_
  refine dn_exit ?_
  refine dn_thenX ?_
  refine dn_thenX ?_
  refine dn_inBX ?_
  exact dn_end (vs := []) () (by exact rfl) (by exact rfl) (by exact rfl) (by trivial) [0] (by exact rfl) (by exact .inr rfl)
/-- slices.stableCmpFunc[crossbuck/sched.Rec] -/
theorem awk42  : Tri Tryz.prog 23 [.slice none 0 0, .int .i64 0, .func (.func 18) #[] #[]].toArray [] (X := Unit) (fun _ => .tuple #[]) (fun _ => True) (fun _ => []) := by
  refine tri_intro (n := 63) (vs := [.slice none 0 0, .int .i64 0, .func (.func 18) #[] #[]]) Tryz.func23 rfl rfl rfl (fun R E => ?_)
  show Dn E 63 [] _ [(0, .slice none 0 0), (1, .int .i64 0), (2, .func (.func 18) #[] #[])] [R]
  refine dn_seq ?_
  refine dn_reg ?_
  refine dl_t rfl rfl rfl (op_assign rfl) ?_
  refine dn_done ?_
  refine dn_then ?_
  refine dn_seq ?_
  refine dn_reg ?_
  refine dl_t rfl rfl rfl (op_move rfl) ?_
  refine dl_t rfl rfl rfl (op_assign rfl) ?_
  refine dl_t rfl rfl rfl (op_assign rfl) ?_
  refine dn_done ?_
  refine dn_then ?_
  refine dn_seq ?_
  refine dn_block ?_
  refine dn_loop0 ?_
  refine dn_round ?_
  refine dn_seq ?_
  refine dn_seq ?_
  refine dn_reg ?_
  refine dl_t rfl rfl rfl (op_move rfl) ?_
  refine dl_t rfl rfl rfl (op_move rfl) ?_
  refine dl_t rfl rfl rfl (op_cmpc (b := false) rfl rfl rfl) ?_
  refine dn_done ?_
  refine dn_then ?_
  refine dn_cond_false rfl ?_
  refine dn_exit ?_
  refine dn_thenX ?_
  refine dn_thenX ?_
  refine dn_inBX ?_
  refine dn_then ?_
  refine dn_seq ?_
  refine dn_reg ?_
  refine dl_t rfl rfl rfl (op_move rfl) ?_
  refine dl_t rfl rfl rfl (op_move rfl) ?_
  refine dl_t rfl rfl rfl (op_move rfl) ?_
  refine dl_t rfl rfl rfl (op_move rfl) ?_
  refine dl_e rfl (op_call (vs := [.slice none 0 0, .int .i64 0, .int .i64 0, .func (.func 18) #[] #[]]) cl_34 (awk43) rfl [] (by exact rfl) rfl) ?_
  rintro ⟨⟩ -
  refine dn_normv (u := .tuple #[]) (Qs := [_]) rfl rfl ?_
  refine dn_done ?_
  refine dn_then ?_
  refine dn_block ?_
  refine dn_loop0 ?_
  refine dn_round ?_
  refine dn_seq ?_
  refine dn_seq ?_
  refine dn_reg ?_
  refine dl_t rfl rfl rfl (op_move rfl) ?_
  refine dl_t rfl rfl rfl (op_move rfl) ?_
  refine dl_t rfl rfl rfl (op_cmpc (b := false) rfl rfl rfl) ?_
  refine dn_done ?_
  refine dn_then ?_
  refine dn_cond_false rfl ?_
  refine dn_exit ?_
  refine dn_thenX ?_
  refine dn_thenX ?_
  refine dn_inBX ?_
  exact dn_end (vs := []) () (by exact rfl) (by exact rfl) (by exact rfl) (by trivial) [0] (by exact rfl) (by exact .inr rfl)
/-- slices.SortStableFunc[[]crossbuck/sched.Rec,crossbuck/sched.Rec] -/
theorem awk41  : Tri Tryz.prog 17 [.slice none 0 0, .func (.func 18) #[] #[]].toArray [] (X := Unit) (fun _ => .tuple #[]) (fun _ => True) (fun _ => []) := by
  refine tri_intro (n := 9) (vs := [.slice none 0 0, .func (.func 18) #[] #[]]) Tryz.func17 rfl rfl rfl (fun R E => ?_)
  show Dn E 9 [] _ [(0, .slice none 0 0), (1, .func (.func 18) #[] #[])] [R]
  refine dn_reg ?_
  refine dl_t rfl rfl rfl (op_move rfl) ?_
  refine dl_t rfl rfl rfl (op_move rfl) ?_
  refine dl_t rfl rfl rfl (op_len rfl el_24) ?_
  refine dl_t rfl rfl rfl (op_move rfl) ?_
  refine dl_e rfl (op_call (vs := [.slice none 0 0, .int .i64 0, .func (.func 18) #[] #[]]) cl_23 (awk42) rfl [] (by exact rfl) rfl) ?_
  rintro ⟨⟩ -
  refine dn_normv (u := .tuple #[]) (Qs := [_]) rfl rfl ?_
  refine dn_done ?_
  exact dn_end (vs := []) () (by exact rfl) (by exact rfl) (by exact rfl) (by trivial) [0] (by exact rfl) (by exact .inr rfl)
/-- crossbuck/history.Order -/
theorem awk39  : Tri Tryz.prog 8 [.slice none 0 0].toArray [] (X := Unit) (fun _ => .slice none 0 0) (fun _ => True) (fun _ => []) := by
  refine tri_intro (n := 9) (vs := [.slice none 0 0]) Tryz.func8 rfl rfl rfl (fun R E => ?_)
  show Dn E 9 [] _ [(0, .slice none 0 0)] [R]
  refine dn_seq ?_
  refine dn_reg ?_
  refine dl_t rfl rfl rfl (op_assign rfl) ?_
  refine dn_done ?_
  refine dn_then ?_
  refine dn_seq ?_
  refine dn_reg ?_
  refine dl_t rfl rfl rfl (op_move rfl) ?_
  refine dl_e rfl (op_call (vs := [.slice none 0 0]) cl_16 (awk40) rfl [] (by exact rfl) rfl) ?_
  rintro ⟨⟩ -
  refine dn_normv (u := .slice none 0 0) (Qs := [_]) rfl rfl ?_
  refine dl_t rfl rfl rfl (op_assign rfl) ?_
  refine dn_done ?_
  refine dn_then ?_
  refine dn_seq ?_
  refine dn_reg ?_
  refine dl_t rfl rfl rfl (op_move rfl) ?_
  refine dl_e rfl (op_call (vs := [.slice none 0 0, .func (.func 18) #[] #[]]) cl_17 (awk41) rfl [] (by exact rfl) rfl) ?_
  rintro ⟨⟩ -
  refine dn_normv (u := .tuple #[]) (Qs := [_]) rfl rfl ?_
  refine dn_done ?_
  refine dn_then ?_
  refine dn_seq ?_
  refine dn_reg ?_
  refine dl_t rfl rfl rfl (op_move rfl) ?_
  refine dl_t rfl rfl rfl (op_assign rfl) ?_
  refine dn_done ?_
  refine dn_then ?_
  refine dn_ret ?_
  exact dn_end (vs := [.slice none 0 0]) () (by exact rfl) (by exact rfl) (by exact rfl) (by trivial) [0] (by exact rfl) (by exact .inl rfl)
/-- crossbuck/history.Real -/
theorem awk44  : Tri Tryz.prog 9 [.slice none 0 0].toArray [] (X := Unit) (fun _ => .bool true) (fun _ => True) (fun _ => []) := by
  refine tri_intro (n := 29) (vs := [.slice none 0 0]) Tryz.func9 rfl rfl rfl (fun R E => ?_)
  show Dn E 29 [] _ [(0, .slice none 0 0)] [R]
  refine dn_seq ?_
  refine dn_reg ?_
  refine dl_t rfl rfl rfl (op_assign rfl) ?_
  refine dn_done ?_
  refine dn_then ?_
  refine dn_seq ?_
  refine dn_seq ?_
  refine dn_reg ?_
  refine dl_t rfl rfl rfl (op_move rfl) ?_
  refine dl_t rfl rfl rfl (op_len rfl el_24) ?_
  refine dl_t rfl rfl rfl (op_move rfl) ?_
  refine dn_done ?_
  refine dn_then ?_
  refine dn_block ?_
  refine dn_loop0 ?_
  refine dn_round ?_
  refine dn_seq ?_
  refine dn_reg ?_
  refine dl_t rfl rfl rfl (op_cmpc (b := false) rfl rfl rfl) ?_
  refine dn_done ?_
  refine dn_then ?_
  refine dn_seq ?_
  refine dn_cond_false rfl ?_
  refine dn_exit ?_
  refine dn_thenX ?_
  refine dn_thenX ?_
  refine dn_inBX ?_
  refine dn_then ?_
  refine dn_seq ?_
  refine dn_reg ?_
  refine dl_t rfl rfl rfl (op_assign rfl) ?_
  refine dn_done ?_
  refine dn_then ?_
  refine dn_ret ?_
  exact dn_end (vs := [.bool true]) () (by exact rfl) (by exact rfl) (by exact rfl) (by trivial) [0] (by exact rfl) (by exact .inl rfl)
/-- crossbuck/task.NewRoom -/
theorem awk46 (b1 : Nat) (b2 : Nat) (a1 : Option Addr) (c1 : Nat) (b3 : Nat) (b4 : Nat) (b5 : Nat) (b6 : Nat) (b7 : Nat) (b8 : Nat) (b9 : Nat) (b10 : Nat) (b11 : Nat) (a2 : Option Addr) (c2 : Nat) (b12 : Nat) (b13 : Nat) (b14 : Nat) (c3 : Nat) (b15 : Nat) : Tri Tryz.prog 32 [.pointer (some ⟨b1, 0, none⟩)].toArray [Blk b1 (.cells [.pointer (some ⟨b2, 0, none⟩), .int .i64 0, .int .i64 100, .int .i64 0, .slice a1 1 c1, .map (some b3), .map (some b4), .bool false].toArray 95 (0, 0)), OwnS 100 1 a1 1 c1 [.pointer (some ⟨b5, 0, none⟩)], Blk b5 (.cells [.slice (some ⟨b6, 0, none⟩) 1 1, .slice none 0 0].toArray 138 (0, 0)), Blk b6 (.cells [.int .i64 0, .pointer (some ⟨b7, 0, none⟩)].toArray 135 (0, 0)), Blk b7 (.cells [.pointer (some ⟨b8, 0, none⟩), .pointer (some ⟨b9, 0, none⟩), .int .i64 2].toArray 133 (0, 0)), Blk b8 (.cells [.slice (some ⟨b10, 0, none⟩) 2 2, .map (some b11), .int .i64 100].toArray 167 (0, 0)), Blk b11 (.map #[] 0), Blk b10 (.cells [.int .i64 104, .int .i64 0, .int .i64 0, .int .i64 104, .int .i64 0, .int .i64 0].toArray 163 (0, 0)), Blk b9 (.cells [.int .i64 1, .slice a2 1 c2, .slice none 0 0].toArray 176 (0, 0)), OwnS 215 3 a2 1 c2 [.int .i64 1, .int .i64 0, .int .i64 0], Blk b12 (.cells [.map (some b13), .slice none 0 0, .pointer none, .pointer none, .int .i64 0].toArray 161 (0, 0)), Blk b13 (.map #[] 0), OwnS 120 1 (some ⟨b14, 0, none⟩) 1 c3 [.pointer (some ⟨b12, 0, none⟩)], Blk b2 (.cells [.slice (some ⟨b15, 0, none⟩) 1 1, .slice none 0 0, .slice none 0 0, .slice (some ⟨b14, 0, none⟩) 1 c3].toArray 119 (0, 0)), Blk b15 (.cells [.int .i64 1].toArray 3 (0, 0)), Blk b4 (.map #[] 0), Blk b3 (.map #[] 0)] (X := Nat) (fun x => .pointer (some ⟨x, 0, none⟩)) (fun _ => True) (fun x => [Blk x (.cells [.pointer (some ⟨b1, 0, none⟩), .bool false, .bool false, .int .i64 0].toArray 140 (0, 0)), Blk b1 (.cells [.pointer (some ⟨b2, 0, none⟩), .int .i64 0, .int .i64 100, .int .i64 0, .slice a1 1 c1, .map (some b3), .map (some b4), .bool false].toArray 95 (0, 0)), OwnS 100 1 a1 1 c1 [.pointer (some ⟨b5, 0, none⟩)], Blk b5 (.cells [.slice (some ⟨b6, 0, none⟩) 1 1, .slice none 0 0].toArray 138 (0, 0)), Blk b6 (.cells [.int .i64 0, .pointer (some ⟨b7, 0, none⟩)].toArray 135 (0, 0)), Blk b7 (.cells [.pointer (some ⟨b8, 0, none⟩), .pointer (some ⟨b9, 0, none⟩), .int .i64 2].toArray 133 (0, 0)), Blk b8 (.cells [.slice (some ⟨b10, 0, none⟩) 2 2, .map (some b11), .int .i64 100].toArray 167 (0, 0)), Blk b11 (.map #[] 0), Blk b10 (.cells [.int .i64 104, .int .i64 0, .int .i64 0, .int .i64 104, .int .i64 0, .int .i64 0].toArray 163 (0, 0)), Blk b9 (.cells [.int .i64 1, .slice a2 1 c2, .slice none 0 0].toArray 176 (0, 0)), OwnS 215 3 a2 1 c2 [.int .i64 1, .int .i64 0, .int .i64 0], Blk b12 (.cells [.map (some b13), .slice none 0 0, .pointer none, .pointer none, .int .i64 0].toArray 161 (0, 0)), Blk b13 (.map #[] 0), OwnS 120 1 (some ⟨b14, 0, none⟩) 1 c3 [.pointer (some ⟨b12, 0, none⟩)], Blk b2 (.cells [.slice (some ⟨b15, 0, none⟩) 1 1, .slice none 0 0, .slice none 0 0, .slice (some ⟨b14, 0, none⟩) 1 c3].toArray 119 (0, 0)), Blk b15 (.cells [.int .i64 1].toArray 3 (0, 0)), Blk b4 (.map #[] 0), Blk b3 (.map #[] 0)]) := by
  refine tri_intro (n := 6) (vs := [.pointer (some ⟨b1, 0, none⟩)]) Tryz.func32 rfl rfl rfl (fun R E => ?_)
  show Dn E 6 [] _ [(0, .pointer (some ⟨b1, 0, none⟩))] [Blk b1 (.cells [.pointer (some ⟨b2, 0, none⟩), .int .i64 0, .int .i64 100, .int .i64 0, .slice a1 1 c1, .map (some b3), .map (some b4), .bool false].toArray 95 (0, 0)), OwnS 100 1 a1 1 c1 [.pointer (some ⟨b5, 0, none⟩)], Blk b5 (.cells [.slice (some ⟨b6, 0, none⟩) 1 1, .slice none 0 0].toArray 138 (0, 0)), Blk b6 (.cells [.int .i64 0, .pointer (some ⟨b7, 0, none⟩)].toArray 135 (0, 0)), Blk b7 (.cells [.pointer (some ⟨b8, 0, none⟩), .pointer (some ⟨b9, 0, none⟩), .int .i64 2].toArray 133 (0, 0)), Blk b8 (.cells [.slice (some ⟨b10, 0, none⟩) 2 2, .map (some b11), .int .i64 100].toArray 167 (0, 0)), Blk b11 (.map #[] 0), Blk b10 (.cells [.int .i64 104, .int .i64 0, .int .i64 0, .int .i64 104, .int .i64 0, .int .i64 0].toArray 163 (0, 0)), Blk b9 (.cells [.int .i64 1, .slice a2 1 c2, .slice none 0 0].toArray 176 (0, 0)), OwnS 215 3 a2 1 c2 [.int .i64 1, .int .i64 0, .int .i64 0], Blk b12 (.cells [.map (some b13), .slice none 0 0, .pointer none, .pointer none, .int .i64 0].toArray 161 (0, 0)), Blk b13 (.map #[] 0), OwnS 120 1 (some ⟨b14, 0, none⟩) 1 c3 [.pointer (some ⟨b12, 0, none⟩)], Blk b2 (.cells [.slice (some ⟨b15, 0, none⟩) 1 1, .slice none 0 0, .slice none 0 0, .slice (some ⟨b14, 0, none⟩) 1 c3].toArray 119 (0, 0)), Blk b15 (.cells [.int .i64 1].toArray 3 (0, 0)), Blk b4 (.map #[] 0), Blk b3 (.map #[] 0), R]
  refine dn_seq ?_
  refine dn_reg ?_
  refine dl_t rfl rfl rfl (op_assign rfl) ?_
  refine dn_done ?_
  refine dn_then ?_
  refine dn_seq ?_
  refine dn_reg ?_
  refine dl_t rfl rfl rfl (op_move rfl) ?_
  refine dl_t rfl rfl rfl (op_build (qs := [(0, .pointer (some ⟨b1, 0, none⟩))]) (vs := [.pointer (some ⟨b1, 0, none⟩), .bool false, .bool false, .int .i64 0]) rfl (by kernel_rfl)) ?_
  refine dl_e rfl (op_box (vs := [.pointer (some ⟨b1, 0, none⟩), .bool false, .bool false, .int .i64 0]) rfl rfl rfl) ?_
  rintro b1001 -
  refine dn_norm (Qs := [_, _, _, _, _, _, _, _, _, _, _, _, _, _, _, _, _, _, _]) rfl ?_
  refine dl_t rfl rfl rfl (op_assign rfl) ?_
  refine dn_done ?_
  refine dn_then ?_
  refine dn_ret ?_
  exact dn_end (vs := [.pointer (some ⟨b1001, 0, none⟩)]) b1001 (by exact rfl) (by exact rfl) (by exact rfl) (by trivial) [0, 0, 0, 0, 0, 0, 0, 0, 0, 0, 0, 0, 0, 0, 0, 0, 0, 0, 0] (Rs := []) (by kernel_rfl) (by exact .inl rfl)
/-- crossbuck/history.Replay -/
theorem awk45 (b1 : Nat) (b2 : Nat) (a1 : Option Addr) (c1 : Nat) (b3 : Nat) (b4 : Nat) (b5 : Nat) (b6 : Nat) (b7 : Nat) (b8 : Nat) (b9 : Nat) (b10 : Nat) (b11 : Nat) (a2 : Option Addr) (c2 : Nat) (b12 : Nat) (b13 : Nat) (b14 : Nat) (c3 : Nat) (b15 : Nat) : Tri Tryz.prog 22 [.pointer (some ⟨b1, 0, none⟩), .slice none 0 0, .slice none 0 0].toArray [Blk b1 (.cells [.pointer (some ⟨b2, 0, none⟩), .int .i64 0, .int .i64 100, .int .i64 0, .slice a1 1 c1, .map (some b3), .map (some b4), .bool false].toArray 95 (0, 0)), OwnS 100 1 a1 1 c1 [.pointer (some ⟨b5, 0, none⟩)], Blk b5 (.cells [.slice (some ⟨b6, 0, none⟩) 1 1, .slice none 0 0].toArray 138 (0, 0)), Blk b6 (.cells [.int .i64 0, .pointer (some ⟨b7, 0, none⟩)].toArray 135 (0, 0)), Blk b7 (.cells [.pointer (some ⟨b8, 0, none⟩), .pointer (some ⟨b9, 0, none⟩), .int .i64 2].toArray 133 (0, 0)), Blk b8 (.cells [.slice (some ⟨b10, 0, none⟩) 2 2, .map (some b11), .int .i64 100].toArray 167 (0, 0)), Blk b11 (.map #[] 0), Blk b10 (.cells [.int .i64 104, .int .i64 0, .int .i64 0, .int .i64 104, .int .i64 0, .int .i64 0].toArray 163 (0, 0)), Blk b9 (.cells [.int .i64 1, .slice a2 1 c2, .slice none 0 0].toArray 176 (0, 0)), OwnS 215 3 a2 1 c2 [.int .i64 1, .int .i64 0, .int .i64 0], Blk b12 (.cells [.map (some b13), .slice none 0 0, .pointer none, .pointer none, .int .i64 0].toArray 161 (0, 0)), Blk b13 (.map #[] 0), OwnS 120 1 (some ⟨b14, 0, none⟩) 1 c3 [.pointer (some ⟨b12, 0, none⟩)], Blk b2 (.cells [.slice (some ⟨b15, 0, none⟩) 1 1, .slice none 0 0, .slice none 0 0, .slice (some ⟨b14, 0, none⟩) 1 c3].toArray 119 (0, 0)), Blk b15 (.cells [.int .i64 1].toArray 3 (0, 0)), Blk b4 (.map #[] 0), Blk b3 (.map #[] 0)] (X := Unit) (fun _ => .int .i64 (-1)) (fun _ => True) (fun _ => [Blk b1 (.cells [.pointer (some ⟨b2, 0, none⟩), .int .i64 0, .int .i64 100, .int .i64 0, .slice a1 1 c1, .map (some b3), .map (some b4), .bool false].toArray 95 (0, 0)), OwnS 100 1 a1 1 c1 [.pointer (some ⟨b5, 0, none⟩)], Blk b5 (.cells [.slice (some ⟨b6, 0, none⟩) 1 1, .slice none 0 0].toArray 138 (0, 0)), Blk b6 (.cells [.int .i64 0, .pointer (some ⟨b7, 0, none⟩)].toArray 135 (0, 0)), Blk b7 (.cells [.pointer (some ⟨b8, 0, none⟩), .pointer (some ⟨b9, 0, none⟩), .int .i64 2].toArray 133 (0, 0)), Blk b8 (.cells [.slice (some ⟨b10, 0, none⟩) 2 2, .map (some b11), .int .i64 100].toArray 167 (0, 0)), Blk b11 (.map #[] 0), Blk b10 (.cells [.int .i64 104, .int .i64 0, .int .i64 0, .int .i64 104, .int .i64 0, .int .i64 0].toArray 163 (0, 0)), Blk b9 (.cells [.int .i64 1, .slice a2 1 c2, .slice none 0 0].toArray 176 (0, 0)), OwnS 215 3 a2 1 c2 [.int .i64 1, .int .i64 0, .int .i64 0], Blk b12 (.cells [.map (some b13), .slice none 0 0, .pointer none, .pointer none, .int .i64 0].toArray 161 (0, 0)), Blk b13 (.map #[] 0), OwnS 120 1 (some ⟨b14, 0, none⟩) 1 c3 [.pointer (some ⟨b12, 0, none⟩)], Blk b2 (.cells [.slice (some ⟨b15, 0, none⟩) 1 1, .slice none 0 0, .slice none 0 0, .slice (some ⟨b14, 0, none⟩) 1 c3].toArray 119 (0, 0)), Blk b15 (.cells [.int .i64 1].toArray 3 (0, 0)), Blk b4 (.map #[] 0), Blk b3 (.map #[] 0)]) := by
  refine tri_intro (n := 77) (vs := [.pointer (some ⟨b1, 0, none⟩), .slice none 0 0, .slice none 0 0]) Tryz.func22 rfl rfl rfl (fun R E => ?_)
  show Dn E 77 [] _ [(0, .pointer (some ⟨b1, 0, none⟩)), (1, .slice none 0 0), (2, .slice none 0 0)] [Blk b1 (.cells [.pointer (some ⟨b2, 0, none⟩), .int .i64 0, .int .i64 100, .int .i64 0, .slice a1 1 c1, .map (some b3), .map (some b4), .bool false].toArray 95 (0, 0)), OwnS 100 1 a1 1 c1 [.pointer (some ⟨b5, 0, none⟩)], Blk b5 (.cells [.slice (some ⟨b6, 0, none⟩) 1 1, .slice none 0 0].toArray 138 (0, 0)), Blk b6 (.cells [.int .i64 0, .pointer (some ⟨b7, 0, none⟩)].toArray 135 (0, 0)), Blk b7 (.cells [.pointer (some ⟨b8, 0, none⟩), .pointer (some ⟨b9, 0, none⟩), .int .i64 2].toArray 133 (0, 0)), Blk b8 (.cells [.slice (some ⟨b10, 0, none⟩) 2 2, .map (some b11), .int .i64 100].toArray 167 (0, 0)), Blk b11 (.map #[] 0), Blk b10 (.cells [.int .i64 104, .int .i64 0, .int .i64 0, .int .i64 104, .int .i64 0, .int .i64 0].toArray 163 (0, 0)), Blk b9 (.cells [.int .i64 1, .slice a2 1 c2, .slice none 0 0].toArray 176 (0, 0)), OwnS 215 3 a2 1 c2 [.int .i64 1, .int .i64 0, .int .i64 0], Blk b12 (.cells [.map (some b13), .slice none 0 0, .pointer none, .pointer none, .int .i64 0].toArray 161 (0, 0)), Blk b13 (.map #[] 0), OwnS 120 1 (some ⟨b14, 0, none⟩) 1 c3 [.pointer (some ⟨b12, 0, none⟩)], Blk b2 (.cells [.slice (some ⟨b15, 0, none⟩) 1 1, .slice none 0 0, .slice none 0 0, .slice (some ⟨b14, 0, none⟩) 1 c3].toArray 119 (0, 0)), Blk b15 (.cells [.int .i64 1].toArray 3 (0, 0)), Blk b4 (.map #[] 0), Blk b3 (.map #[] 0), R]
  refine dn_seq ?_
  refine dn_reg ?_
  refine dl_t rfl rfl rfl (op_assign rfl) ?_
  refine dn_done ?_
  refine dn_then ?_
  refine dn_seq ?_
  refine dn_reg ?_
  refine dl_t rfl rfl rfl (op_move rfl) ?_
  refine dl_e rfl (op_call (vs := [.pointer (some ⟨b1, 0, none⟩)]) cl_32 (awk46 b1 b2 a1 c1 b3 b4 b5 b6 b7 b8 b9 b10 b11 a2 c2 b12 b13 b14 c3 b15) rfl [0, 0, 0, 0, 0, 0, 0, 0, 0, 0, 0, 0, 0, 0, 0, 0, 0] (Rs := [R]) (by kernel_rfl) rfl) ?_
  rintro b1001 -
  refine dn_normv (u := .pointer (some ⟨b1001, 0, none⟩)) (Qs := [Blk b1001 (.cells [.pointer (some ⟨b1, 0, none⟩), .bool false, .bool false, .int .i64 0].toArray 140 (0, 0)), Blk b1 (.cells [.pointer (some ⟨b2, 0, none⟩), .int .i64 0, .int .i64 100, .int .i64 0, .slice a1 1 c1, .map (some b3), .map (some b4), .bool false].toArray 95 (0, 0)), OwnS 100 1 a1 1 c1 [.pointer (some ⟨b5, 0, none⟩)], Blk b5 (.cells [.slice (some ⟨b6, 0, none⟩) 1 1, .slice none 0 0].toArray 138 (0, 0)), Blk b6 (.cells [.int .i64 0, .pointer (some ⟨b7, 0, none⟩)].toArray 135 (0, 0)), Blk b7 (.cells [.pointer (some ⟨b8, 0, none⟩), .pointer (some ⟨b9, 0, none⟩), .int .i64 2].toArray 133 (0, 0)), Blk b8 (.cells [.slice (some ⟨b10, 0, none⟩) 2 2, .map (some b11), .int .i64 100].toArray 167 (0, 0)), Blk b11 (.map #[] 0), Blk b10 (.cells [.int .i64 104, .int .i64 0, .int .i64 0, .int .i64 104, .int .i64 0, .int .i64 0].toArray 163 (0, 0)), Blk b9 (.cells [.int .i64 1, .slice a2 1 c2, .slice none 0 0].toArray 176 (0, 0)), OwnS 215 3 a2 1 c2 [.int .i64 1, .int .i64 0, .int .i64 0], Blk b12 (.cells [.map (some b13), .slice none 0 0, .pointer none, .pointer none, .int .i64 0].toArray 161 (0, 0)), Blk b13 (.map #[] 0), OwnS 120 1 (some ⟨b14, 0, none⟩) 1 c3 [.pointer (some ⟨b12, 0, none⟩)], Blk b2 (.cells [.slice (some ⟨b15, 0, none⟩) 1 1, .slice none 0 0, .slice none 0 0, .slice (some ⟨b14, 0, none⟩) 1 c3].toArray 119 (0, 0)), Blk b15 (.cells [.int .i64 1].toArray 3 (0, 0)), Blk b4 (.map #[] 0), Blk b3 (.map #[] 0), _]) rfl rfl ?_
  refine dl_t rfl rfl rfl (op_assign rfl) ?_
  refine dn_done ?_
  refine dn_then ?_
  refine dn_seq ?_
  refine dn_seq ?_
  refine dn_reg ?_
  refine dl_t rfl rfl rfl (op_move rfl) ?_
  refine dl_t rfl rfl rfl (op_len rfl el_24) ?_
  refine dl_t rfl rfl rfl (op_move rfl) ?_
  refine dn_done ?_
  refine dn_then ?_
  refine dn_block ?_
  refine dn_loop0 ?_
  refine dn_round ?_
  refine dn_seq ?_
  refine dn_reg ?_
  refine dl_t rfl rfl rfl (op_cmpc (b := false) rfl rfl rfl) ?_
  refine dn_done ?_
  refine dn_then ?_
  refine dn_seq ?_
  refine dn_cond_false rfl ?_
  refine dn_exit ?_
  refine dn_thenX ?_
  refine dn_thenX ?_
  refine dn_inBX ?_
  refine dn_then ?_
  refine dn_seq ?_
  refine dn_reg ?_
  refine dl_t rfl rfl rfl (op_assign rfl) ?_
  refine dn_done ?_
  refine dn_then ?_
  refine dn_ret ?_
  exact dn_end (vs := [.int .i64 (-1)]) () (by exact rfl) (by exact rfl) (by exact rfl) (by trivial) [1, 1, 1, 1, 1, 1, 1, 1, 1, 1, 1, 1, 1, 1, 1, 1, 1, 1] (Rs := [Blk b1001 (.cells [.pointer (some ⟨b1, 0, none⟩), .bool false, .bool false, .int .i64 0].toArray 140 (0, 0))]) (by kernel_rfl) (by exact .inl rfl)
/-- crossbuck/history.Linear -/
theorem awk2 (b1 : Nat) : Tri Tryz.prog 15 [.agg #[.slice (some ⟨b1, 0, none⟩) 1 1, .slice none 0 0, .slice none 0 0], .int .i64 0, .int .i64 100, .slice none 0 0, .slice none 0 0].toArray [Blk b1 (.cells [.int .i64 1].toArray 3 (0, 0))] (X := Unit) (fun _ => .tuple #[.bool true, .int .i64 0]) (fun _ => True) (fun _ => [Blk b1 (.cells [.int .i64 1].toArray 3 (0, 0))]) := by
  refine tri_intro (n := 36) (vs := [.agg #[.slice (some ⟨b1, 0, none⟩) 1 1, .slice none 0 0, .slice none 0 0], .int .i64 0, .int .i64 100, .slice none 0 0, .slice none 0 0]) Tryz.func15 rfl rfl rfl (fun R E => ?_)
  show Dn E 36 [] _ [(0, .agg #[.slice (some ⟨b1, 0, none⟩) 1 1, .slice none 0 0, .slice none 0 0]), (1, .int .i64 0), (2, .int .i64 100), (3, .slice none 0 0), (4, .slice none 0 0)] [Blk b1 (.cells [.int .i64 1].toArray 3 (0, 0)), R]
  refine dn_seq ?_
  refine dn_reg ?_
  refine dl_e rfl (op_box (vs := [.slice (some ⟨b1, 0, none⟩) 1 1, .slice none 0 0, .slice none 0 0]) rfl rfl rfl) ?_
  rintro b1001 -
  refine dn_norm (Qs := [_, _, _]) rfl ?_
  refine dl_t rfl rfl rfl (op_assign rfl) ?_
  refine dl_t rfl rfl rfl (op_assign rfl) ?_
  refine dn_done ?_
  refine dn_then ?_
  refine dn_seq ?_
  refine dn_reg ?_
  refine dl_r 0 rfl rfl rfl rfl (op_loadN rfl ag_53 sz_53 rfl rfl) ?_
  refine dl_t rfl rfl rfl (op_move rfl) ?_
  refine dl_t rfl rfl rfl (op_move rfl) ?_
  refine dl_e rfl (op_call (vs := [.agg #[.slice (some ⟨b1, 0, none⟩) 1 1, .slice none 0 0, .slice none 0 0], .int .i64 0, .int .i64 100]) cl_21 (awk3 b1) rfl [1] (by exact rfl) rfl) ?_
  rintro ⟨b1002, b1003, a1004, c1005, b1006, b1007, b1008, b1009, b1010, b1011, b1012, b1013, b1014, a1015, c1016, b1017, b1018, b1019, c1020⟩ -
  refine dn_normv (u := .tuple #[.pointer (some ⟨b1002, 0, none⟩), .int .i64 0]) (Qs := [Blk b1002 (.cells [.pointer (some ⟨b1003, 0, none⟩), .int .i64 0, .int .i64 100, .int .i64 0, .slice a1004 1 c1005, .map (some b1006), .map (some b1007), .bool false].toArray 95 (0, 0)), OwnS 100 1 a1004 1 c1005 [.pointer (some ⟨b1008, 0, none⟩)], Blk b1008 (.cells [.slice (some ⟨b1009, 0, none⟩) 1 1, .slice none 0 0].toArray 138 (0, 0)), Blk b1009 (.cells [.int .i64 0, .pointer (some ⟨b1010, 0, none⟩)].toArray 135 (0, 0)), Blk b1010 (.cells [.pointer (some ⟨b1011, 0, none⟩), .pointer (some ⟨b1012, 0, none⟩), .int .i64 2].toArray 133 (0, 0)), Blk b1011 (.cells [.slice (some ⟨b1013, 0, none⟩) 2 2, .map (some b1014), .int .i64 100].toArray 167 (0, 0)), Blk b1014 (.map #[] 0), Blk b1013 (.cells [.int .i64 104, .int .i64 0, .int .i64 0, .int .i64 104, .int .i64 0, .int .i64 0].toArray 163 (0, 0)), Blk b1012 (.cells [.int .i64 1, .slice a1015 1 c1016, .slice none 0 0].toArray 176 (0, 0)), OwnS 215 3 a1015 1 c1016 [.int .i64 1, .int .i64 0, .int .i64 0], Blk b1017 (.cells [.map (some b1018), .slice none 0 0, .pointer none, .pointer none, .int .i64 0].toArray 161 (0, 0)), Blk b1018 (.map #[] 0), OwnS 120 1 (some ⟨b1019, 0, none⟩) 1 c1020 [.pointer (some ⟨b1017, 0, none⟩)], Blk b1003 (.cells [.slice (some ⟨b1, 0, none⟩) 1 1, .slice none 0 0, .slice none 0 0, .slice (some ⟨b1019, 0, none⟩) 1 c1020].toArray 119 (0, 0)), Blk b1 (.cells [.int .i64 1].toArray 3 (0, 0)), Blk b1007 (.map #[] 0), Blk b1006 (.map #[] 0), _, _]) rfl rfl ?_
  refine dl_t rfl rfl rfl (op_move rfl) ?_
  refine dl_t rfl rfl rfl (op_extract rfl rfl) ?_
  refine dl_t rfl rfl rfl (op_extract rfl rfl) ?_
  refine dl_t rfl rfl rfl (op_assign rfl) ?_
  refine dl_t rfl rfl rfl (op_assign rfl) ?_
  refine dn_done ?_
  refine dn_then ?_
  refine dn_seq ?_
  refine dn_seq ?_
  refine dn_reg ?_
  refine dl_t rfl rfl rfl (op_move rfl) ?_
  refine dl_t rfl rfl rfl (op_cmpc (b := false) rfl rfl rfl) ?_
  refine dn_done ?_
  refine dn_then ?_
  refine dn_cond_false rfl ?_
  refine dn_skip ?_
  refine dn_then ?_
  refine dn_seq ?_
  refine dn_reg ?_
  refine dl_t rfl rfl rfl (op_move rfl) ?_
  refine dl_e rfl (op_call (vs := [.slice none 0 0]) cl_8 (awk39) rfl [] (by exact rfl) rfl) ?_
  rintro ⟨⟩ -
  refine dn_normv (u := .slice none 0 0) (Qs := [_, _, _, _, _, _, _, _, _, _, _, _, _, _, _, _, _, _, _]) rfl rfl ?_
  refine dl_t rfl rfl rfl (op_assign rfl) ?_
  refine dn_done ?_
  refine dn_then ?_
  refine dn_seq ?_
  refine dn_reg ?_
  refine dl_t rfl rfl rfl (op_move rfl) ?_
  refine dl_e rfl (op_call (vs := [.slice none 0 0]) cl_9 (awk44) rfl [] (by exact rfl) rfl) ?_
  rintro ⟨⟩ -
  refine dn_normv (u := .bool true) (Qs := [_, _, _, _, _, _, _, _, _, _, _, _, _, _, _, _, _, _, _]) rfl rfl ?_
  refine dl_t rfl rfl rfl (op_move rfl) ?_
  refine dl_wt rfl rfl rfl rfl rfl rfl (op_move rfl) ?_
  refine dl_wt rfl rfl rfl rfl rfl rfl (op_move rfl) ?_
  refine dl_wt rfl rfl rfl rfl rfl rfl (op_move rfl) ?_
  refine dl_we rfl rfl rfl rfl (op_call (vs := [.pointer (some ⟨b1002, 0, none⟩), .slice none 0 0, .slice none 0 0]) cl_22 (awk45 b1002 b1003 a1004 c1005 b1006 b1007 b1008 b1009 b1010 b1011 b1012 b1013 b1014 a1015 c1016 b1017 b1018 b1019 c1020 b1) rfl [0, 0, 0, 0, 0, 0, 0, 0, 0, 0, 0, 0, 0, 0, 0, 0, 0] (Rs := [Blk b1001 (.cells [.slice (some ⟨b1, 0, none⟩) 1 1, .slice none 0 0, .slice none 0 0].toArray 53 (0, 0)), R]) (by kernel_rfl) rfl) ?_
  rintro ⟨⟩ -
  refine dn_normv (u := .int .i64 (-1)) (Qs := [Blk b1002 (.cells [.pointer (some ⟨b1003, 0, none⟩), .int .i64 0, .int .i64 100, .int .i64 0, .slice a1004 1 c1005, .map (some b1006), .map (some b1007), .bool false].toArray 95 (0, 0)), OwnS 100 1 a1004 1 c1005 [.pointer (some ⟨b1008, 0, none⟩)], Blk b1008 (.cells [.slice (some ⟨b1009, 0, none⟩) 1 1, .slice none 0 0].toArray 138 (0, 0)), Blk b1009 (.cells [.int .i64 0, .pointer (some ⟨b1010, 0, none⟩)].toArray 135 (0, 0)), Blk b1010 (.cells [.pointer (some ⟨b1011, 0, none⟩), .pointer (some ⟨b1012, 0, none⟩), .int .i64 2].toArray 133 (0, 0)), Blk b1011 (.cells [.slice (some ⟨b1013, 0, none⟩) 2 2, .map (some b1014), .int .i64 100].toArray 167 (0, 0)), Blk b1014 (.map #[] 0), Blk b1013 (.cells [.int .i64 104, .int .i64 0, .int .i64 0, .int .i64 104, .int .i64 0, .int .i64 0].toArray 163 (0, 0)), Blk b1012 (.cells [.int .i64 1, .slice a1015 1 c1016, .slice none 0 0].toArray 176 (0, 0)), OwnS 215 3 a1015 1 c1016 [.int .i64 1, .int .i64 0, .int .i64 0], Blk b1017 (.cells [.map (some b1018), .slice none 0 0, .pointer none, .pointer none, .int .i64 0].toArray 161 (0, 0)), Blk b1018 (.map #[] 0), OwnS 120 1 (some ⟨b1019, 0, none⟩) 1 c1020 [.pointer (some ⟨b1017, 0, none⟩)], Blk b1003 (.cells [.slice (some ⟨b1, 0, none⟩) 1 1, .slice none 0 0, .slice none 0 0, .slice (some ⟨b1019, 0, none⟩) 1 c1020].toArray 119 (0, 0)), Blk b1 (.cells [.int .i64 1].toArray 3 (0, 0)), Blk b1007 (.map #[] 0), Blk b1006 (.map #[] 0), _, _]) rfl rfl ?_
  refine dl_wt rfl rfl rfl rfl rfl rfl (op_cmpc (b := true) rfl rfl rfl) ?_
  refine dl_t rfl rfl rfl (op_pick (b := true) rfl rfl) ?_
  refine dl_t rfl rfl rfl (op_assign rfl) ?_
  refine dl_t rfl rfl rfl (op_assign rfl) ?_
  refine dn_done ?_
  refine dn_then ?_
  refine dn_ret ?_
  exact dn_end (vs := [.bool true, .int .i64 0]) () (by exact rfl) (by exact rfl) (by exact rfl) (by trivial) [14, 17] (by exact rfl) (by exact .inl rfl)
/-- crossbuck/crossbucklaw23.awake -/
theorem awk1  : Tri Tryz.prog 6 [].toArray [] (X := Unit) (fun _ => .bool true) (fun _ => True) (fun _ => []) := by
  refine tri_intro (n := 14) (vs := []) Tryz.func6 rfl rfl rfl (fun R E => ?_)
  show Dn E 14 [] _ [] [R]
  refine dn_seq ?_
  refine dn_reg ?_
  refine dl_t rfl rfl rfl (op_assign rfl) ?_
  refine dn_done ?_
  refine dn_then ?_
  refine dn_seq ?_
  refine dn_reg ?_
  refine dl_e rfl (op_buildSlice (e := 3) (qs := [(0, .int .i64 1)]) (vs := [.int .i64 1]) rfl (by kernel_rfl) rfl) ?_
  rintro b1001 -
  refine dn_norm (Qs := [_, _]) rfl ?_
  refine dl_t rfl rfl rfl (op_build (qs := [(0, .slice (some ⟨b1001, 0, none⟩) 1 1)]) (vs := [.slice (some ⟨b1001, 0, none⟩) 1 1, .slice none 0 0, .slice none 0 0]) rfl (by kernel_rfl)) ?_
  refine dl_e rfl (op_call (vs := [.agg #[.slice (some ⟨b1001, 0, none⟩) 1 1, .slice none 0 0, .slice none 0 0], .int .i64 0, .int .i64 100, .slice none 0 0, .slice none 0 0]) cl_15 (awk2 b1001) rfl [0] (by exact rfl) rfl) ?_
  rintro ⟨⟩ -
  refine dn_normv (u := .tuple #[.bool true, .int .i64 0]) (Qs := [Blk b1001 (.cells [.int .i64 1].toArray 3 (0, 0)), _]) rfl rfl ?_
  refine dl_t rfl rfl rfl (op_move rfl) ?_
  refine dl_t rfl rfl rfl (op_extract rfl rfl) ?_
  refine dl_t rfl rfl rfl (op_extract rfl rfl) ?_
  refine dl_t rfl rfl rfl (op_assign rfl) ?_
  refine dl_t rfl rfl rfl (op_assign rfl) ?_
  refine dn_done ?_
  refine dn_then ?_
  refine dn_seq ?_
  refine dn_reg ?_
  refine dl_t rfl rfl rfl (op_move rfl) ?_
  refine dl_t rfl rfl rfl (op_move rfl) ?_
  refine dl_wt rfl rfl rfl rfl rfl rfl (op_move rfl) ?_
  refine dl_wt rfl rfl rfl rfl rfl rfl (op_cmpc (b := true) rfl rfl rfl) ?_
  refine dl_t rfl rfl rfl (op_pick (b := true) rfl rfl) ?_
  refine dl_t rfl rfl rfl (op_assign rfl) ?_
  refine dn_done ?_
  refine dn_then ?_
  refine dn_ret ?_
  exact dn_end (vs := [.bool true]) () (by exact rfl) (by exact rfl) (by exact rfl) (by trivial) [1] (by exact rfl) (by exact .inl rfl)
end Go.Proofs.YtjfajpoknnifcaaGreat
