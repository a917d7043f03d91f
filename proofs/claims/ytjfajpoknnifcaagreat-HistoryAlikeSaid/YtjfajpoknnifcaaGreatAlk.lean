/- Models of functions, and proofs that the code comes to them. No condition. -/
import Derived.Test.YtjfajpoknnifcaaGreatAlk0
namespace Go.Proofs.YtjfajpoknnifcaaGreat
open Go
set_option maxRecDepth 20000
set_option linter.unusedVariables false
set_option linter.unusedSimpArgs false
noncomputable section
def M_engine_New.l1 (y119 : Int) : Nat → Option (Unit)
  | 0 => none
  | k + 1 => if (0 : Int) < y119 then (none) else (some ())
def M_engine_New (x1 : List Int) (x2 : List MApiLink) (x3 : List MApiACE) (x4 : Int) (x5 : Int) : Option (Int ⊕ (MEngineEngine × Int)) := (M_step_New x1 x2 x3).bind fun y102 => Sum.elim (fun y103 => if ¬ (y103 = 0) then (some (.inl y103)) else ((M_region_Right x4).bind fun y106 => if ¬ (y106 = true) then (some (.inl 1)) else ((M_region_Count x4).bind fun y111 => none))) ((fun y104 => if ¬ (y104.2 = 0) then (some (.inl y104.2)) else ((M_region_Right x4).bind fun y114 => if ¬ (y114 = true) then (some (.inl 1)) else ((M_region_Count x4).bind fun y119 => (M_engine_New.l1 y119 fuel ).bind fun y120 => some (.inr ((⟨y104.1, x4, x5, 0, ([] : List T138), ([] : List (Int × Int)), ([] : List (Int × Int)), false⟩ : MEngineEngine), 0)))))) y102
abbrev engine_New_X : Int ⊕ (MEngineEngine × Int) → Type
  | (.inl _) => Unit
  | (.inr _) => Nat
def engine_New_v  : (r : Int ⊕ (MEngineEngine × Int)) → engine_New_X r → Value
  | (.inl r), p => .tuple #[.pointer none, .int .i64 r]
  | (.inr r), p => .tuple #[.pointer (some ⟨p, 0, none⟩), .int .i64 r.2]
def engine_New_ch (a1 : Option Addr) (n2 : Nat) (a4 : Option Addr) (n5 : Nat) (a7 : Option Addr) (n8 : Nat) (x1 : List Int) (x2 : List MApiLink) (x3 : List MApiACE) : (r : Int ⊕ (MEngineEngine × Int)) → engine_New_X r → List HP
  | (.inl r), p => [RoL (encI .i64) a1 n2 x1, RoL encMApiLink a4 n5 x2, RoL encMApiACE a7 n8 x3]
  | (.inr r), p => [RoL (encI .i64) a1 n2 x1, RoL encMApiLink a4 n5 x2, RoL encMApiACE a7 n8 x3, P_MEngineEngine p r.1]
set_option maxHeartbeats 1000000 in
theorem T_engine_New (a1 : Option Addr) (n2 : Nat) (c3 : Nat) (a4 : Option Addr) (n5 : Nat) (c6 : Nat) (a7 : Option Addr) (n8 : Nat) (c9 : Nat) (x1 : List Int) (x2 : List MApiLink) (x3 : List MApiACE) (x4 : Int) (x5 : Int) {r : Int ⊕ (MEngineEngine × Int)} (h : M_engine_New x1 x2 x3 x4 x5 = some r) : Tri Tryz.prog 21 [.agg #[.slice a1 n2 c3, .slice a4 n5 c6, .slice a7 n8 c9], .int .i64 x4, .int .i64 x5].toArray [RoL (encI .i64) a1 n2 x1, RoL encMApiLink a4 n5 x2, RoL encMApiACE a7 n8 x3] (X := engine_New_X r) (engine_New_v  r) (fun _ => True) (engine_New_ch a1 n2 a4 n5 a7 n8 x1 x2 x3 r) := by
  unfold M_engine_New at h
  refine tri_intro (n := 61) (vs := [.agg #[.slice a1 n2 c3, .slice a4 n5 c6, .slice a7 n8 c9], .int .i64 x4, .int .i64 x5]) Tryz.func21 rfl rfl rfl (fun R E => ?_)
  show Dn E 61 [] _ [(0, .agg #[.slice a1 n2 c3, .slice a4 n5 c6, .slice a7 n8 c9]), (1, .int .i64 x4), (2, .int .i64 x5)] [RoL (encI .i64) a1 n2 x1, RoL encMApiLink a4 n5 x2, RoL encMApiACE a7 n8 x3, R]
  refine dn_seq ?_
  refine dn_reg ?_
  refine dl_e rfl (op_box (vs := [.slice a1 n2 c3, .slice a4 n5 c6, .slice a7 n8 c9]) rfl rfl rfl) ?_
  rintro b101 -
  refine dn_norm (Qs := [_, _, _, _, _]) rfl ?_
  refine dl_t rfl rfl rfl (op_assign rfl) ?_
  refine dl_t rfl rfl rfl (op_assign rfl) ?_
  refine dn_done ?_
  refine dn_then ?_
  refine dn_seq ?_
  refine dn_reg ?_
  refine dl_r 0 rfl rfl rfl rfl (op_loadN rfl ag_53 sz_53 rfl rfl) ?_
  obtain ⟨y102, hy102, h⟩ := bind_some h
  rcases y102 with y103 | y104
  ·
    replace h := elim_l h
    refine dl_e rfl (op_call (vs := [.agg #[.slice a1 n2 c3, .slice a4 n5 c6, .slice a7 n8 c9]]) cl_27 (T_step_New a1 n2 c3 a4 n5 c6 a7 n8 c9 x1 x2 x3 hy102) rfl [1, 1, 1] (by exact rfl) rfl) ?_
    rintro ⟨⟩ -
    refine dn_normv (u := .tuple #[.pointer none, .int .i64 y103]) (Qs := [RoL (encI .i64) a1 n2 x1, RoL encMApiLink a4 n5 x2, RoL encMApiACE a7 n8 x3, _, _]) rfl rfl ?_
    refine dl_t rfl rfl rfl (op_move rfl) ?_
    refine dl_t rfl rfl rfl (op_extract rfl rfl) ?_
    refine dl_t rfl rfl rfl (op_extract rfl rfl) ?_
    refine dl_t rfl rfl rfl (op_assign rfl) ?_
    refine dl_t rfl rfl rfl (op_assign rfl) ?_
    refine dn_done ?_
    refine dn_then ?_
    refine dn_seq ?_
    refine dn_seq ?_
    refine dn_reg ?_
    refine dl_t rfl rfl rfl (op_move rfl) ?_
    refine dl_t rfl rfl rfl (op_neq rfl rfl) ?_
    refine dn_done ?_
    refine dn_then ?_
    refine dn_cond (p := ¬ (y103 = 0)) rfl (fun hc105 => ?_) (fun hc105 => ?_)
    ·
      replace h := pos_some hc105 h
      refine dn_seq ?_
      refine dn_reg ?_
      refine dl_t rfl rfl rfl (op_move rfl) ?_
      refine dl_t rfl rfl rfl (op_assign rfl) ?_
      refine dl_t rfl rfl rfl (op_assign rfl) ?_
      refine dn_done ?_
      refine dn_then ?_
      refine dn_ret ?_
      refine dn_thenR ?_
      replace h := Option.some.inj h
      subst h
      exact dn_end () rfl rfl (by rfl) trivial [0, 0, 0, 1] (Rs := [Blk b101 (.cells [.slice a1 n2 c3, .slice a4 n5 c6, .slice a7 n8 c9].toArray 53 (0, 0))]) (by kernel_rfl) (.inl rfl)
    ·
      replace h := neg_some hc105 h
      refine dn_skip ?_
      refine dn_then ?_
      refine dn_seq ?_
      refine dn_seq ?_
      refine dn_reg ?_
      refine dl_t rfl rfl rfl (op_move rfl) ?_
      obtain ⟨y106, hy106, h⟩ := bind_some h
      refine dl_e rfl (op_call (vs := [.int .i64 x4]) cl_28 (T_region_Right  x4 hy106) rfl [] (by exact rfl) rfl) ?_
      rintro ⟨⟩ -
      refine dn_normv (u := .bool y106) (Qs := [_, _, _, _, _]) rfl rfl ?_
      refine dn_slot (u := .bool (decide (y106 = true))) 23 rfl (bdec _) ?_
      refine dl_t rfl rfl rfl (op_not rfl) ?_
      refine dn_done ?_
      refine dn_then ?_
      refine dn_cond (p := ¬ (y106 = true)) rfl (fun hc107 => ?_) (fun hc107 => ?_)
      ·
        replace h := pos_some hc107 h
        refine dn_seq ?_
        refine dn_reg ?_
        refine dl_t rfl rfl rfl (op_assign rfl) ?_
        refine dl_t rfl rfl rfl (op_assign rfl) ?_
        refine dn_done ?_
        refine dn_then ?_
        refine dn_ret ?_
        refine dn_thenR ?_
        replace h := Option.some.inj h
        subst h
        exact dn_end () rfl rfl (by rfl) trivial [0, 0, 0, 1] (Rs := [Blk b101 (.cells [.slice a1 n2 c3, .slice a4 n5 c6, .slice a7 n8 c9].toArray 53 (0, 0))]) (by kernel_rfl) (.inl rfl)
      ·
        replace h := neg_some hc107 h
        refine dn_skip ?_
        refine dn_then ?_
        refine dn_seq ?_
        refine dn_reg ?_
        refine dl_t rfl rfl rfl (op_move rfl) ?_
        refine dl_t rfl rfl rfl (op_move rfl) ?_
        refine dl_t rfl rfl rfl (op_move rfl) ?_
        refine dl_e rfl (op_makeMap rfl) ?_
        rintro b108 -
        refine dn_norm (Qs := [_, _, _, _, _, _]) rfl ?_
        refine dn_mapNew (fun v : Int => fits .i64 v) (fun v : Int => Value.int .i64 v) (fun v : Int => Value.int .i64 v) 0 rfl ?_
        refine dn_norm (Qs := [MapS (fun v : Int => fits .i64 v) (fun v : Int => Value.int .i64 v) (fun v : Int => Value.int .i64 v) b108 ([] : List (Int × Int)), _, _, _, _, _]) rfl ?_
        refine dl_e rfl (op_makeMap rfl) ?_
        rintro b109 -
        refine dn_norm (Qs := [_, _, _, _, _, _, _]) rfl ?_
        refine dn_mapNew (fun v : Int => fits .i64 v) (fun v : Int => Value.int .i64 v) (fun v : Int => Value.int .i64 v) 0 rfl ?_
        refine dn_norm (Qs := [MapS (fun v : Int => fits .i64 v) (fun v : Int => Value.int .i64 v) (fun v : Int => Value.int .i64 v) b109 ([] : List (Int × Int)), _, _, _, _, _, _]) rfl ?_
        refine dl_t rfl rfl rfl (op_build (qs := [(0, .pointer none), (1, .int .i64 x4), (2, .int .i64 x5), (5, .map (some b108)), (6, .map (some b109))]) (vs := [.pointer none, .int .i64 x4, .int .i64 x5, .int .i64 0, .slice none 0 0, .map (some b108), .map (some b109), .bool false]) rfl (by kernel_rfl)) ?_
        refine dl_e rfl (op_box (vs := [.pointer none, .int .i64 x4, .int .i64 x5, .int .i64 0, .slice none 0 0, .map (some b108), .map (some b109), .bool false]) rfl rfl rfl) ?_
        rintro b110 -
        refine dn_norm (Qs := [_, _, _, _, _, _, _, _]) rfl ?_
        refine dl_t rfl rfl rfl (op_assign rfl) ?_
        refine dn_done ?_
        refine dn_then ?_
        refine dn_seq ?_
        refine dn_seq ?_
        refine dn_reg ?_
        refine dl_t rfl rfl rfl (op_move rfl) ?_
        obtain ⟨y111, hy111, h⟩ := bind_some h
        refine dl_e rfl (op_call (vs := [.int .i64 x4]) cl_29 (T_region_Count  x4 hy111) rfl [] (by exact rfl) rfl) ?_
        rintro ⟨⟩ -
        refine dn_normv (u := .int .i64 y111) (Qs := [_, _, _, _, _, _, _, _]) rfl rfl ?_
        refine dl_t rfl rfl rfl (op_move rfl) ?_
        refine dn_done ?_
        refine dn_then ?_
        refine dn_block ?_
        cases h
  ·
    replace h := elim_r h
    refine dl_e rfl (op_call (vs := [.agg #[.slice a1 n2 c3, .slice a4 n5 c6, .slice a7 n8 c9]]) cl_27 (T_step_New a1 n2 c3 a4 n5 c6 a7 n8 c9 x1 x2 x3 hy102) rfl [1, 1, 1] (by exact rfl) rfl) ?_
    rintro b112 -
    refine dn_normv (u := .tuple #[.pointer (some ⟨b112, 0, none⟩), .int .i64 y104.2]) (Qs := [RoL (encI .i64) a1 n2 x1, RoL encMApiLink a4 n5 x2, RoL encMApiACE a7 n8 x3, P_MStepNet b112 y104.1, _, _]) rfl rfl ?_
    refine dl_t rfl rfl rfl (op_move rfl) ?_
    refine dl_t rfl rfl rfl (op_extract rfl rfl) ?_
    refine dl_t rfl rfl rfl (op_extract rfl rfl) ?_
    refine dl_t rfl rfl rfl (op_assign rfl) ?_
    refine dl_t rfl rfl rfl (op_assign rfl) ?_
    refine dn_done ?_
    refine dn_then ?_
    refine dn_seq ?_
    refine dn_seq ?_
    refine dn_reg ?_
    refine dl_t rfl rfl rfl (op_move rfl) ?_
    refine dl_t rfl rfl rfl (op_neq rfl rfl) ?_
    refine dn_done ?_
    refine dn_then ?_
    refine dn_cond (p := ¬ (y104.2 = 0)) rfl (fun hc113 => ?_) (fun hc113 => ?_)
    ·
      replace h := pos_some hc113 h
      refine dn_seq ?_
      refine dn_reg ?_
      refine dl_t rfl rfl rfl (op_move rfl) ?_
      refine dl_t rfl rfl rfl (op_assign rfl) ?_
      refine dl_t rfl rfl rfl (op_assign rfl) ?_
      refine dn_done ?_
      refine dn_then ?_
      refine dn_ret ?_
      refine dn_thenR ?_
      replace h := Option.some.inj h
      subst h
      exact dn_end () rfl rfl (by rfl) trivial [0, 0, 0, 2] (Rs := [P_MStepNet b112 y104.1, Blk b101 (.cells [.slice a1 n2 c3, .slice a4 n5 c6, .slice a7 n8 c9].toArray 53 (0, 0))]) (by kernel_rfl) (.inl rfl)
    ·
      replace h := neg_some hc113 h
      refine dn_skip ?_
      refine dn_then ?_
      refine dn_seq ?_
      refine dn_seq ?_
      refine dn_reg ?_
      refine dl_t rfl rfl rfl (op_move rfl) ?_
      obtain ⟨y114, hy114, h⟩ := bind_some h
      refine dl_e rfl (op_call (vs := [.int .i64 x4]) cl_28 (T_region_Right  x4 hy114) rfl [] (by exact rfl) rfl) ?_
      rintro ⟨⟩ -
      refine dn_normv (u := .bool y114) (Qs := [_, _, _, _, _, _]) rfl rfl ?_
      refine dn_slot (u := .bool (decide (y114 = true))) 23 rfl (bdec _) ?_
      refine dl_t rfl rfl rfl (op_not rfl) ?_
      refine dn_done ?_
      refine dn_then ?_
      refine dn_cond (p := ¬ (y114 = true)) rfl (fun hc115 => ?_) (fun hc115 => ?_)
      ·
        replace h := pos_some hc115 h
        refine dn_seq ?_
        refine dn_reg ?_
        refine dl_t rfl rfl rfl (op_assign rfl) ?_
        refine dl_t rfl rfl rfl (op_assign rfl) ?_
        refine dn_done ?_
        refine dn_then ?_
        refine dn_ret ?_
        refine dn_thenR ?_
        replace h := Option.some.inj h
        subst h
        exact dn_end () rfl rfl (by rfl) trivial [0, 0, 0, 2] (Rs := [P_MStepNet b112 y104.1, Blk b101 (.cells [.slice a1 n2 c3, .slice a4 n5 c6, .slice a7 n8 c9].toArray 53 (0, 0))]) (by kernel_rfl) (.inl rfl)
      ·
        replace h := neg_some hc115 h
        refine dn_skip ?_
        refine dn_then ?_
        refine dn_seq ?_
        refine dn_reg ?_
        refine dl_t rfl rfl rfl (op_move rfl) ?_
        refine dl_t rfl rfl rfl (op_move rfl) ?_
        refine dl_t rfl rfl rfl (op_move rfl) ?_
        refine dl_e rfl (op_makeMap rfl) ?_
        rintro b116 -
        refine dn_norm (Qs := [_, _, _, _, _, _, _]) rfl ?_
        refine dn_mapNew (fun v : Int => fits .i64 v) (fun v : Int => Value.int .i64 v) (fun v : Int => Value.int .i64 v) 0 rfl ?_
        refine dn_norm (Qs := [MapS (fun v : Int => fits .i64 v) (fun v : Int => Value.int .i64 v) (fun v : Int => Value.int .i64 v) b116 ([] : List (Int × Int)), _, _, _, _, _, _]) rfl ?_
        refine dl_e rfl (op_makeMap rfl) ?_
        rintro b117 -
        refine dn_norm (Qs := [_, _, _, _, _, _, _, _]) rfl ?_
        refine dn_mapNew (fun v : Int => fits .i64 v) (fun v : Int => Value.int .i64 v) (fun v : Int => Value.int .i64 v) 0 rfl ?_
        refine dn_norm (Qs := [MapS (fun v : Int => fits .i64 v) (fun v : Int => Value.int .i64 v) (fun v : Int => Value.int .i64 v) b117 ([] : List (Int × Int)), _, _, _, _, _, _, _]) rfl ?_
        refine dl_t rfl rfl rfl (op_build (qs := [(0, .pointer (some ⟨b112, 0, none⟩)), (1, .int .i64 x4), (2, .int .i64 x5), (5, .map (some b116)), (6, .map (some b117))]) (vs := [.pointer (some ⟨b112, 0, none⟩), .int .i64 x4, .int .i64 x5, .int .i64 0, .slice none 0 0, .map (some b116), .map (some b117), .bool false]) rfl (by kernel_rfl)) ?_
        refine dl_e rfl (op_box (vs := [.pointer (some ⟨b112, 0, none⟩), .int .i64 x4, .int .i64 x5, .int .i64 0, .slice none 0 0, .map (some b116), .map (some b117), .bool false]) rfl rfl rfl) ?_
        rintro b118 -
        refine dn_norm (Qs := [_, _, _, _, _, _, _, _, _]) rfl ?_
        refine dl_t rfl rfl rfl (op_assign rfl) ?_
        refine dn_done ?_
        refine dn_then ?_
        refine dn_seq ?_
        refine dn_seq ?_
        refine dn_reg ?_
        refine dl_t rfl rfl rfl (op_move rfl) ?_
        obtain ⟨y119, hy119, h⟩ := bind_some h
        refine dl_e rfl (op_call (vs := [.int .i64 x4]) cl_29 (T_region_Count  x4 hy119) rfl [] (by exact rfl) rfl) ?_
        rintro ⟨⟩ -
        refine dn_normv (u := .int .i64 y119) (Qs := [_, _, _, _, _, _, _, _, _]) rfl rfl ?_
        refine dl_t rfl rfl rfl (op_move rfl) ?_
        refine dn_done ?_
        refine dn_then ?_
        refine dn_block ?_
        refine dn_pNil 100 1 encN100 ptsN100 ?_
        refine dn_norm (Qs := [OwnP 100 1 encN100 ptsN100 none 0 0 ([] : List T138), _, _, _, _, _, _, _, _, _]) rfl ?_
        obtain ⟨y120, h1, h⟩ := bind_some h
        refine dn_loop (α := Nat) (fun g => M_engine_New.l1 y119 g  = some y120) (fun g => g) (fun g => [(1, .int .i64 x4), (2, .int .i64 x5), (8, .pointer (some ⟨b112, 0, none⟩)), (10, .pointer (some ⟨b118, 0, none⟩)), (33, .int .i64 y119), (34, .int .i64 0)]) (fun g => [RoL (encI .i64) a1 n2 x1, RoL encMApiLink a4 n5 x2, RoL encMApiACE a7 n8 x3, P_MStepNet b112 y104.1, Blk b118 (.cells [.pointer (some ⟨b112, 0, none⟩), .int .i64 x4, .int .i64 x5, .int .i64 0, .slice none 0 0, .map (some b116), .map (some b117), .bool false].toArray 95 (0, 0)), OwnP 100 1 encN100 ptsN100 none 0 0 ([] : List T138), MapS (fun v : Int => fits .i64 v) (fun v : Int => Value.int .i64 v) (fun v : Int => Value.int .i64 v) b116 ([] : List (Int × Int)), MapS (fun v : Int => fits .i64 v) (fun v : Int => Value.int .i64 v) (fun v : Int => Value.int .i64 v) b117 ([] : List (Int × Int)), R]) ?_ ?_
        ·
          exact dn_meet fuel h1 (Less.cons rfl (Less.cons rfl (Less.cons rfl (Less.cons rfl (Less.cons rfl (Less.cons rfl (Less.nil _))))))) [4, 4, 4, 4, 1, 0, 1, 0, 1] (Rs := [Blk b101 (.cells [.slice a1 n2 c3, .slice a4 n5 c6, .slice a7 n8 c9].toArray 53 (0, 0))]) (by kernel_rfl)
        ·
          rintro k121 h1
          cases k121 with
          | zero => cases h1
          | succ k121 =>
            replace h1 : M_engine_New.l1 y119 (k121 + 1)  = some y120 := h1
            rw [M_engine_New.l1.eq_2] at h1
            show Dn E 61 [] _ [(1, .int .i64 x4), (2, .int .i64 x5), (8, .pointer (some ⟨b112, 0, none⟩)), (10, .pointer (some ⟨b118, 0, none⟩)), (33, .int .i64 y119), (34, .int .i64 0)] [RoL (encI .i64) a1 n2 x1, RoL encMApiLink a4 n5 x2, RoL encMApiACE a7 n8 x3, P_MStepNet b112 y104.1, Blk b118 (.cells [.pointer (some ⟨b112, 0, none⟩), .int .i64 x4, .int .i64 x5, .int .i64 0, .slice none 0 0, .map (some b116), .map (some b117), .bool false].toArray 95 (0, 0)), OwnP 100 1 encN100 ptsN100 none 0 0 ([] : List T138), MapS (fun v : Int => fits .i64 v) (fun v : Int => Value.int .i64 v) (fun v : Int => Value.int .i64 v) b116 ([] : List (Int × Int)), MapS (fun v : Int => fits .i64 v) (fun v : Int => Value.int .i64 v) (fun v : Int => Value.int .i64 v) b117 ([] : List (Int × Int)), R]
            refine dn_seq ?_
            refine dn_reg ?_
            refine dl_t rfl rfl rfl (op_lss rfl rfl) ?_
            refine dn_done ?_
            refine dn_then ?_
            refine dn_seq ?_
            refine dn_cond (p := (0 : Int) < y119) rfl (fun hc122 => ?_) (fun hc122 => ?_)
            ·
              replace h1 := pos_some hc122 h1
              refine dn_skip ?_
              refine dn_then ?_
              refine dn_seq ?_
              refine dn_block ?_
              refine dn_seq ?_
              refine dn_reg ?_
              refine dl_t rfl rfl rfl (op_move rfl) ?_
              refine dl_t rfl rfl rfl (op_assign rfl) ?_
              refine dn_done ?_
              refine dn_then ?_
              refine dn_seq ?_
              refine dn_reg ?_
              refine dl_t rfl rfl rfl (op_move rfl) ?_
              refine dl_t rfl rfl rfl (op_move rfl) ?_
              refine dl_t rfl rfl rfl (op_move rfl) ?_
              refine dl_t rfl rfl rfl (op_move rfl) ?_
              cases h1
            ·
              replace h1 := neg_some hc122 h1
              refine dn_exit ?_
              refine dn_thenX ?_
              refine dn_thenX ?_
              replace h1 := Option.some.inj h1
              subst h1
              try dsimp only at h
              refine dn_inBX ?_
              refine dn_then ?_
              refine dn_seq ?_
              refine dn_reg ?_
              refine dl_t rfl rfl rfl (op_move rfl) ?_
              refine dl_t rfl rfl rfl (op_assign rfl) ?_
              refine dl_t rfl rfl rfl (op_assign rfl) ?_
              refine dn_done ?_
              refine dn_then ?_
              refine dn_ret ?_
              refine dn_shutR (Q := P_MEngineEngine b118 (⟨y104.1, x4, x5, 0, ([] : List T138), ([] : List (Int × Int)), ([] : List (Int × Int)), false⟩ : MEngineEngine)) rfl (b112, none, 0, 0, b116, b117) [4, 3, 3, 3, 3] (Rs := [RoL (encI .i64) a1 n2 x1, RoL encMApiLink a4 n5 x2, RoL encMApiACE a7 n8 x3, R]) (by kernel_rfl) ?_
              refine dn_norm (Qs := [_, _, _, _, _]) rfl ?_
              replace h := Option.some.inj h
              subst h
              exact dn_end b118 rfl rfl (by rfl) trivial [1, 1, 1, 0, 0] (Rs := []) (by kernel_rfl) (.inl rfl)
def M_history_Linear (x1 : List Int) (x2 : List MApiLink) (x3 : List MApiACE) (x4 : Int) (x5 : Int) : Option (Bool × Int) := (M_engine_New x1 x2 x3 x4 x5).bind fun y102 => Sum.elim (fun y103 => if ¬ (y103 = 0) then (some (false, y103)) else (none)) ((fun y104 => if ¬ (y104.2 = 0) then (some (false, y104.2)) else (none))) y102
set_option maxHeartbeats 1000000 in
theorem T_history_Linear (a1 : Option Addr) (n2 : Nat) (c3 : Nat) (a4 : Option Addr) (n5 : Nat) (c6 : Nat) (a7 : Option Addr) (n8 : Nat) (c9 : Nat) (x1 : List Int) (x2 : List MApiLink) (x3 : List MApiACE) (x4 : Int) (x5 : Int) {r : Bool × Int} (h : M_history_Linear x1 x2 x3 x4 x5 = some r) : Tri Tryz.prog 15 [.agg #[.slice a1 n2 c3, .slice a4 n5 c6, .slice a7 n8 c9], .int .i64 x4, .int .i64 x5, .slice none 0 0, .slice none 0 0].toArray [RoL (encI .i64) a1 n2 x1, RoL encMApiLink a4 n5 x2, RoL encMApiACE a7 n8 x3] (X := Unit) (fun _ => .tuple #[.bool r.1, .int .i64 r.2]) (fun _ => True) (fun _ => [RoL (encI .i64) a1 n2 x1, RoL encMApiLink a4 n5 x2, RoL encMApiACE a7 n8 x3]) := by
  unfold M_history_Linear at h
  refine tri_intro (n := 36) (vs := [.agg #[.slice a1 n2 c3, .slice a4 n5 c6, .slice a7 n8 c9], .int .i64 x4, .int .i64 x5, .slice none 0 0, .slice none 0 0]) Tryz.func15 rfl rfl rfl (fun R E => ?_)
  show Dn E 36 [] _ [(0, .agg #[.slice a1 n2 c3, .slice a4 n5 c6, .slice a7 n8 c9]), (1, .int .i64 x4), (2, .int .i64 x5), (3, .slice none 0 0), (4, .slice none 0 0)] [RoL (encI .i64) a1 n2 x1, RoL encMApiLink a4 n5 x2, RoL encMApiACE a7 n8 x3, R]
  refine dn_seq ?_
  refine dn_reg ?_
  refine dl_e rfl (op_box (vs := [.slice a1 n2 c3, .slice a4 n5 c6, .slice a7 n8 c9]) rfl rfl rfl) ?_
  rintro b101 -
  refine dn_norm (Qs := [_, _, _, _, _]) rfl ?_
  refine dl_t rfl rfl rfl (op_assign rfl) ?_
  refine dl_t rfl rfl rfl (op_assign rfl) ?_
  refine dn_done ?_
  refine dn_then ?_
  refine dn_seq ?_
  refine dn_reg ?_
  refine dl_r 0 rfl rfl rfl rfl (op_loadN rfl ag_53 sz_53 rfl rfl) ?_
  refine dl_t rfl rfl rfl (op_move rfl) ?_
  refine dl_t rfl rfl rfl (op_move rfl) ?_
  obtain ⟨y102, hy102, h⟩ := bind_some h
  rcases y102 with y103 | y104
  ·
    replace h := elim_l h
    refine dl_e rfl (op_call (vs := [.agg #[.slice a1 n2 c3, .slice a4 n5 c6, .slice a7 n8 c9], .int .i64 x4, .int .i64 x5]) cl_21 (T_engine_New a1 n2 c3 a4 n5 c6 a7 n8 c9 x1 x2 x3 x4 x5 hy102) rfl [1, 1, 1] (by exact rfl) rfl) ?_
    rintro ⟨⟩ -
    refine dn_normv (u := .tuple #[.pointer none, .int .i64 y103]) (Qs := [RoL (encI .i64) a1 n2 x1, RoL encMApiLink a4 n5 x2, RoL encMApiACE a7 n8 x3, _, _]) rfl rfl ?_
    refine dl_t rfl rfl rfl (op_move rfl) ?_
    refine dl_t rfl rfl rfl (op_extract rfl rfl) ?_
    refine dl_t rfl rfl rfl (op_extract rfl rfl) ?_
    refine dl_t rfl rfl rfl (op_assign rfl) ?_
    refine dl_t rfl rfl rfl (op_assign rfl) ?_
    refine dn_done ?_
    refine dn_then ?_
    refine dn_seq ?_
    refine dn_seq ?_
    refine dn_reg ?_
    refine dl_t rfl rfl rfl (op_move rfl) ?_
    refine dl_t rfl rfl rfl (op_neq rfl rfl) ?_
    refine dn_done ?_
    refine dn_then ?_
    refine dn_cond (p := ¬ (y103 = 0)) rfl (fun hc105 => ?_) (fun hc105 => ?_)
    ·
      replace h := pos_some hc105 h
      refine dn_seq ?_
      refine dn_reg ?_
      refine dl_t rfl rfl rfl (op_move rfl) ?_
      refine dl_t rfl rfl rfl (op_assign rfl) ?_
      refine dl_t rfl rfl rfl (op_assign rfl) ?_
      refine dn_done ?_
      refine dn_then ?_
      refine dn_ret ?_
      refine dn_thenR ?_
      replace h := Option.some.inj h
      subst h
      exact dn_end () rfl rfl (by rfl) trivial [0, 0, 0, 1] (Rs := [Blk b101 (.cells [.slice a1 n2 c3, .slice a4 n5 c6, .slice a7 n8 c9].toArray 53 (0, 0))]) (by kernel_rfl) (.inl rfl)
    ·
      replace h := neg_some hc105 h
      refine dn_skip ?_
      refine dn_then ?_
      refine dn_seq ?_
      refine dn_reg ?_
      refine dl_t rfl rfl rfl (op_move rfl) ?_
      cases h
  ·
    replace h := elim_r h
    refine dl_e rfl (op_call (vs := [.agg #[.slice a1 n2 c3, .slice a4 n5 c6, .slice a7 n8 c9], .int .i64 x4, .int .i64 x5]) cl_21 (T_engine_New a1 n2 c3 a4 n5 c6 a7 n8 c9 x1 x2 x3 x4 x5 hy102) rfl [1, 1, 1] (by exact rfl) rfl) ?_
    rintro b106 -
    refine dn_normv (u := .tuple #[.pointer (some ⟨b106, 0, none⟩), .int .i64 y104.2]) (Qs := [RoL (encI .i64) a1 n2 x1, RoL encMApiLink a4 n5 x2, RoL encMApiACE a7 n8 x3, P_MEngineEngine b106 y104.1, _, _]) rfl rfl ?_
    refine dl_t rfl rfl rfl (op_move rfl) ?_
    refine dl_t rfl rfl rfl (op_extract rfl rfl) ?_
    refine dl_t rfl rfl rfl (op_extract rfl rfl) ?_
    refine dl_t rfl rfl rfl (op_assign rfl) ?_
    refine dl_t rfl rfl rfl (op_assign rfl) ?_
    refine dn_done ?_
    refine dn_then ?_
    refine dn_seq ?_
    refine dn_seq ?_
    refine dn_reg ?_
    refine dl_t rfl rfl rfl (op_move rfl) ?_
    refine dl_t rfl rfl rfl (op_neq rfl rfl) ?_
    refine dn_done ?_
    refine dn_then ?_
    refine dn_cond (p := ¬ (y104.2 = 0)) rfl (fun hc107 => ?_) (fun hc107 => ?_)
    ·
      replace h := pos_some hc107 h
      refine dn_seq ?_
      refine dn_reg ?_
      refine dl_t rfl rfl rfl (op_move rfl) ?_
      refine dl_t rfl rfl rfl (op_assign rfl) ?_
      refine dl_t rfl rfl rfl (op_assign rfl) ?_
      refine dn_done ?_
      refine dn_then ?_
      refine dn_ret ?_
      refine dn_thenR ?_
      replace h := Option.some.inj h
      subst h
      exact dn_end () rfl rfl (by rfl) trivial [0, 0, 0, 2] (Rs := [P_MEngineEngine b106 y104.1, Blk b101 (.cells [.slice a1 n2 c3, .slice a4 n5 c6, .slice a7 n8 c9].toArray 53 (0, 0))]) (by kernel_rfl) (.inl rfl)
    ·
      replace h := neg_some hc107 h
      refine dn_skip ?_
      refine dn_then ?_
      refine dn_seq ?_
      refine dn_reg ?_
      refine dl_t rfl rfl rfl (op_move rfl) ?_
      cases h
def M_history_Overlap  : Option (Int) := some 0
set_option maxHeartbeats 1000000 in
theorem T_history_Overlap   {r : Int} (h : M_history_Overlap  = some r) : Tri Tryz.prog 11 [.slice none 0 0].toArray [] (X := Unit) (fun _ => .int .i64 r) (fun _ => True) (fun _ => []) := by
  unfold M_history_Overlap at h
  refine tri_intro (n := 41) (vs := [.slice none 0 0]) Tryz.func11 rfl rfl rfl (fun R E => ?_)
  show Dn E 41 [] _ [(0, .slice none 0 0)] [R]
  refine dn_seq ?_
  refine dn_reg ?_
  refine dl_t rfl rfl rfl (op_assign rfl) ?_
  refine dn_done ?_
  refine dn_then ?_
  refine dn_seq ?_
  refine dn_reg ?_
  refine dl_t rfl rfl rfl (op_assign rfl) ?_
  refine dn_done ?_
  refine dn_then ?_
  refine dn_seq ?_
  refine dn_seq ?_
  refine dn_reg ?_
  refine dl_t rfl rfl rfl (op_move rfl) ?_
  refine dl_t rfl rfl rfl (op_len rfl el_24) ?_
  refine dl_t rfl rfl rfl (op_move rfl) ?_
  refine dn_done ?_
  refine dn_then ?_
  refine dn_block ?_
  refine dn_loop0 ?_
  refine dn_round ?_
  refine dn_seq ?_
  refine dn_reg ?_
  refine dl_t rfl rfl rfl (op_cmpc (b := false) rfl rfl rfl) ?_
  refine dn_done ?_
  refine dn_then ?_
  refine dn_seq ?_
  refine dn_cond_false rfl ?_
  refine dn_exit ?_
  refine dn_thenX ?_
  refine dn_thenX ?_
  refine dn_inBX ?_
  refine dn_then ?_
  refine dn_seq ?_
  refine dn_reg ?_
  refine dl_t rfl rfl rfl (op_move rfl) ?_
  refine dl_t rfl rfl rfl (op_assign rfl) ?_
  refine dn_done ?_
  refine dn_then ?_
  refine dn_ret ?_
  replace h := Option.some.inj h
  subst h
  exact dn_end () rfl rfl (by rfl) trivial [0] (by rfl) (.inl rfl)
def M_crossbucklaw23_HistoryAlike (x1 : Int) (x2 : Int) (x3 : Int) (x4 : Int) (x5 : List Int) (x6 : List MApiLink) (x7 : List MApiACE) : Option (Bool) := (M_history_Alike x1 (⟨0, 0⟩ : MWideCount) (⟨0, 0, 0, 0, 0⟩ : MApiHeader) false x3 0 x2 (⟨0, 0⟩ : MWideCount) (⟨0, 0, 0, 0, 0⟩ : MApiHeader) false x4 0).bind fun y105 => if x1 = x2 then (if ¬ (y105 = (decide (x3 = x4))) then (some false) else ((M_history_Alike x1 (⟨0, 0⟩ : MWideCount) (⟨0, 0, 0, 0, 0⟩ : MApiHeader) false x3 0 x1 (⟨0, 0⟩ : MWideCount) (⟨0, 0, 0, 0, 0⟩ : MApiHeader) false x3 22).bind fun y108 => if y108 = true then (some false) else ((M_history_Alike x1 (⟨0, 0⟩ : MWideCount) (⟨0, 0, 0, 0, 0⟩ : MApiHeader) false x3 22 x1 (⟨0, 0⟩ : MWideCount) (⟨0, 0, 0, 0, 0⟩ : MApiHeader) false x3 22).bind fun y110 => if ¬ (y110 = true) then (some false) else ((M_crossbucklaw21_Light x5 x6 x7 1).bind fun y112 => if ¬ (y112 = true) then ((M_awake ).bind fun y114 => some y114) else ((M_history_Linear x5 x6 x7 9 100).bind fun y115 => (M_awake ).bind fun y116 => if y116 = true then (if y115.2 = 1 then ((M_history_Overlap ).bind fun y119 => some (decide (y119 = 0))) else (some false)) else (some false)))))) else (if ¬ (y105 = false) then (some false) else ((M_history_Alike x1 (⟨0, 0⟩ : MWideCount) (⟨0, 0, 0, 0, 0⟩ : MApiHeader) false x3 0 x1 (⟨0, 0⟩ : MWideCount) (⟨0, 0, 0, 0, 0⟩ : MApiHeader) false x3 22).bind fun y121 => if y121 = true then (some false) else ((M_history_Alike x1 (⟨0, 0⟩ : MWideCount) (⟨0, 0, 0, 0, 0⟩ : MApiHeader) false x3 22 x1 (⟨0, 0⟩ : MWideCount) (⟨0, 0, 0, 0, 0⟩ : MApiHeader) false x3 22).bind fun y123 => if ¬ (y123 = true) then (some false) else ((M_crossbucklaw21_Light x5 x6 x7 1).bind fun y125 => if ¬ (y125 = true) then ((M_awake ).bind fun y127 => some y127) else ((M_history_Linear x5 x6 x7 9 100).bind fun y128 => (M_awake ).bind fun y129 => if y129 = true then (if y128.2 = 1 then ((M_history_Overlap ).bind fun y132 => some (decide (y132 = 0))) else (some false)) else (some false))))))
set_option maxHeartbeats 1000000 in
theorem T_crossbucklaw23_HistoryAlike (a1 : Option Addr) (n2 : Nat) (c3 : Nat) (a4 : Option Addr) (n5 : Nat) (c6 : Nat) (a7 : Option Addr) (n8 : Nat) (c9 : Nat) (x1 : Int) (x2 : Int) (x3 : Int) (x4 : Int) (x5 : List Int) (x6 : List MApiLink) (x7 : List MApiACE) {r : Bool} (h : M_crossbucklaw23_HistoryAlike x1 x2 x3 x4 x5 x6 x7 = some r) : Tri Tryz.prog 4 [.int .i64 x1, .int .i64 x2, .int .i64 x3, .int .i64 x4, .agg #[.slice a1 n2 c3, .slice a4 n5 c6, .slice a7 n8 c9]].toArray [RoL (encI .i64) a1 n2 x5, RoL encMApiLink a4 n5 x6, RoL encMApiACE a7 n8 x7] (X := Unit) (fun _ => .bool r) (fun _ => True) (fun _ => [RoL (encI .i64) a1 n2 x5, RoL encMApiLink a4 n5 x6, RoL encMApiACE a7 n8 x7]) := by
  unfold M_crossbucklaw23_HistoryAlike at h
  refine tri_intro (n := 66) (vs := [.int .i64 x1, .int .i64 x2, .int .i64 x3, .int .i64 x4, .agg #[.slice a1 n2 c3, .slice a4 n5 c6, .slice a7 n8 c9]]) Tryz.func4 rfl rfl rfl (fun R E => ?_)
  show Dn E 66 [] _ [(0, .int .i64 x1), (1, .int .i64 x2), (2, .int .i64 x3), (3, .int .i64 x4), (4, .agg #[.slice a1 n2 c3, .slice a4 n5 c6, .slice a7 n8 c9])] [RoL (encI .i64) a1 n2 x5, RoL encMApiLink a4 n5 x6, RoL encMApiACE a7 n8 x7, R]
  refine dn_seq ?_
  refine dn_reg ?_
  refine dl_e rfl (op_box (vs := [.slice a1 n2 c3, .slice a4 n5 c6, .slice a7 n8 c9]) rfl rfl rfl) ?_
  rintro b101 -
  refine dn_norm (Qs := [_, _, _, _, _]) rfl ?_
  refine dl_t rfl rfl rfl (op_assign rfl) ?_
  refine dn_done ?_
  refine dn_then ?_
  refine dn_seq ?_
  refine dn_reg ?_
  refine dl_t rfl rfl rfl (op_move rfl) ?_
  refine dl_t rfl rfl rfl (op_move rfl) ?_
  refine dl_t rfl rfl rfl (op_build (qs := [(0, .int .i64 x1), (2, .int .i64 x3)]) (vs := [.int .i64 x1, .int .u64 0, .int .u64 0, .int .u32 0, .int .u32 0, .int .u8 0, .int .u16 0, .int .u16 0, .bool false, .slice none 0 0, .int .i64 x3, .int .i64 0]) rfl (by kernel_rfl)) ?_
  refine dl_t rfl rfl rfl (op_move rfl) ?_
  refine dl_t rfl rfl rfl (op_move rfl) ?_
  refine dl_t rfl rfl rfl (op_build (qs := [(0, .int .i64 x2), (2, .int .i64 x4)]) (vs := [.int .i64 x2, .int .u64 0, .int .u64 0, .int .u32 0, .int .u32 0, .int .u8 0, .int .u16 0, .int .u16 0, .bool false, .slice none 0 0, .int .i64 x4, .int .i64 0]) rfl (by kernel_rfl)) ?_
  refine dl_e rfl (op_alloc (vs := [.int .i64 0, .int .u64 0, .int .u64 0, .int .u32 0, .int .u32 0, .int .u8 0, .int .u16 0, .int .u16 0, .bool false, .slice none 0 0, .int .i64 0, .int .i64 0]) zr_44 rfl rfl) ?_
  rintro b102 -
  refine dn_norm (Qs := [_, _, _, _, _, _]) rfl ?_
  refine dl_e rfl (op_alloc (vs := [.int .i64 0, .int .u64 0, .int .u64 0, .int .u32 0, .int .u32 0, .int .u8 0, .int .u16 0, .int .u16 0, .bool false, .slice none 0 0, .int .i64 0, .int .i64 0]) zr_44 rfl rfl) ?_
  rintro b103 -
  refine dn_norm (Qs := [_, _, _, _, _, _, _]) rfl ?_
  refine dl_s rfl (op_store (vs := [.int .i64 x1, .int .u64 0, .int .u64 0, .int .u32 0, .int .u32 0, .int .u8 0, .int .u16 0, .int .u16 0, .bool false, .slice none 0 0, .int .i64 x3, .int .i64 0]) (l' := [.int .i64 x1, .int .u64 0, .int .u64 0, .int .u32 0, .int .u32 0, .int .u8 0, .int .u16 0, .int .u16 0, .bool false, .slice none 0 0, .int .i64 x3, .int .i64 0]) 1 rfl rfl rfl sz_44 rfl rfl rfl rfl rfl) ?_
  refine dn_norm (Qs := [_, _, _, _, _, _, _]) rfl ?_
  refine dl_s rfl (op_store (vs := [.int .i64 x2, .int .u64 0, .int .u64 0, .int .u32 0, .int .u32 0, .int .u8 0, .int .u16 0, .int .u16 0, .bool false, .slice none 0 0, .int .i64 x4, .int .i64 0]) (l' := [.int .i64 x2, .int .u64 0, .int .u64 0, .int .u32 0, .int .u32 0, .int .u8 0, .int .u16 0, .int .u16 0, .bool false, .slice none 0 0, .int .i64 x4, .int .i64 0]) 1 rfl rfl rfl sz_44 rfl rfl rfl rfl rfl) ?_
  refine dn_norm (Qs := [_, _, _, _, _, _, _]) rfl ?_
  refine dn_done ?_
  refine dn_then ?_
  refine dn_seq ?_
  refine dn_reg ?_
  refine dl_t rfl rfl rfl (op_move rfl) ?_
  refine dl_t rfl rfl rfl (op_move rfl) ?_
  refine dl_t rfl rfl rfl (op_build (qs := [(0, .int .i64 x1), (2, .int .i64 x3), (3, .int .i64 22)]) (vs := [.int .i64 x1, .int .u64 0, .int .u64 0, .int .u32 0, .int .u32 0, .int .u8 0, .int .u16 0, .int .u16 0, .bool false, .slice none 0 0, .int .i64 x3, .int .i64 22]) rfl (by kernel_rfl)) ?_
  refine dl_e rfl (op_alloc (vs := [.int .i64 0, .int .u64 0, .int .u64 0, .int .u32 0, .int .u32 0, .int .u8 0, .int .u16 0, .int .u16 0, .bool false, .slice none 0 0, .int .i64 0, .int .i64 0]) zr_44 rfl rfl) ?_
  rintro b104 -
  refine dn_norm (Qs := [_, _, _, _, _, _, _, _]) rfl ?_
  refine dl_s rfl (op_store (vs := [.int .i64 x1, .int .u64 0, .int .u64 0, .int .u32 0, .int .u32 0, .int .u8 0, .int .u16 0, .int .u16 0, .bool false, .slice none 0 0, .int .i64 x3, .int .i64 22]) (l' := [.int .i64 x1, .int .u64 0, .int .u64 0, .int .u32 0, .int .u32 0, .int .u8 0, .int .u16 0, .int .u16 0, .bool false, .slice none 0 0, .int .i64 x3, .int .i64 22]) 0 rfl rfl rfl sz_44 rfl rfl rfl rfl rfl) ?_
  refine dn_norm (Qs := [_, _, _, _, _, _, _, _]) rfl ?_
  refine dn_done ?_
  refine dn_then ?_
  refine dn_seq ?_
  refine dn_seq ?_
  refine dn_reg ?_
  refine dl_r 2 rfl rfl rfl rfl (op_loadN rfl ag_44 sz_44 rfl rfl) ?_
  refine dl_r 1 rfl rfl rfl rfl (op_loadN rfl ag_44 sz_44 rfl rfl) ?_
  obtain ⟨y105, hy105, h⟩ := bind_some h
  refine dl_e rfl (op_call (vs := [.agg #[.int .i64 x1, .int .u64 0, .int .u64 0, .int .u32 0, .int .u32 0, .int .u8 0, .int .u16 0, .int .u16 0, .bool false, .slice none 0 0, .int .i64 x3, .int .i64 0], .agg #[.int .i64 x2, .int .u64 0, .int .u64 0, .int .u32 0, .int .u32 0, .int .u8 0, .int .u16 0, .int .u16 0, .bool false, .slice none 0 0, .int .i64 x4, .int .i64 0]]) cl_13 (T_history_Alike none 0 0 0 0 x1 (⟨0, 0⟩ : MWideCount) (⟨0, 0, 0, 0, 0⟩ : MApiHeader) false x3 0 x2 (⟨0, 0⟩ : MWideCount) (⟨0, 0, 0, 0, 0⟩ : MApiHeader) false x4 0 hy105) rfl [] (by exact rfl) rfl) ?_
  rintro ⟨⟩ -
  refine dn_normv (u := .bool y105) (Qs := [_, _, _, _, _, _, _, _]) rfl rfl ?_
  refine dl_t rfl rfl rfl (op_move rfl) ?_
  refine dl_t rfl rfl rfl (op_move rfl) ?_
  refine dl_t rfl rfl rfl (op_eql rfl rfl) ?_
  refine dl_t rfl rfl rfl (op_move rfl) ?_
  refine dn_test (p := x1 = x2) 31 rfl (fun hc106 => ?_) (fun hc106 => ?_)
  ·
    replace h := pos_some hc106 h
    refine dl_wt rfl rfl rfl rfl rfl rfl (op_move rfl) ?_
    refine dl_wt rfl rfl rfl rfl rfl rfl (op_move rfl) ?_
    refine dl_wt rfl rfl rfl rfl rfl rfl (op_eql rfl rfl) ?_
    refine dl_t rfl rfl rfl (op_pick (b := true) rfl rfl) ?_
    refine dl_t rfl rfl rfl (op_boolneq rfl rfl bo_4) ?_
    refine dl_t rfl rfl rfl (op_move rfl) ?_
    refine dn_test (p := ¬ (y105 = (decide (x3 = x4)))) 37 rfl (fun hc107 => ?_) (fun hc107 => ?_)
    ·
      replace h := pos_some hc107 h
      refine dl_no rfl rfl rfl rfl (by decide) rfl rfl ?_
      refine dl_no rfl rfl rfl rfl (by decide) rfl rfl ?_
      refine dl_no rfl rfl rfl rfl (by decide) rfl rfl ?_
      refine dl_t rfl rfl rfl (op_pick (b := true) rfl rfl) ?_
      refine dl_t rfl rfl rfl (op_move rfl) ?_
      refine dl_no rfl rfl rfl rfl (by decide) rfl rfl ?_
      refine dl_no rfl rfl rfl rfl (by decide) rfl rfl ?_
      refine dl_no rfl rfl rfl rfl (by decide) rfl rfl ?_
      refine dl_no rfl rfl rfl rfl (by decide) rfl rfl ?_
      refine dl_t rfl rfl rfl (op_pick (b := true) rfl rfl) ?_
      refine dn_done ?_
      refine dn_then ?_
      refine dn_cond_true rfl ?_
      refine dn_seq ?_
      refine dn_reg ?_
      refine dl_t rfl rfl rfl (op_assign rfl) ?_
      refine dn_done ?_
      refine dn_then ?_
      refine dn_ret ?_
      refine dn_thenR ?_
      replace h := Option.some.inj h
      subst h
      exact dn_end () rfl rfl (by rfl) trivial [4, 4, 4, 4] (Rs := [Blk b104 (.cells [.int .i64 x1, .int .u64 0, .int .u64 0, .int .u32 0, .int .u32 0, .int .u8 0, .int .u16 0, .int .u16 0, .bool false, .slice none 0 0, .int .i64 x3, .int .i64 22].toArray 44 (0, 0)), Blk b103 (.cells [.int .i64 x2, .int .u64 0, .int .u64 0, .int .u32 0, .int .u32 0, .int .u8 0, .int .u16 0, .int .u16 0, .bool false, .slice none 0 0, .int .i64 x4, .int .i64 0].toArray 44 (0, 0)), Blk b102 (.cells [.int .i64 x1, .int .u64 0, .int .u64 0, .int .u32 0, .int .u32 0, .int .u8 0, .int .u16 0, .int .u16 0, .bool false, .slice none 0 0, .int .i64 x3, .int .i64 0].toArray 44 (0, 0)), Blk b101 (.cells [.slice a1 n2 c3, .slice a4 n5 c6, .slice a7 n8 c9].toArray 53 (0, 0))]) (by kernel_rfl) (.inl rfl)
    ·
      replace h := neg_some hc107 h
      refine dl_wr 2 rfl rfl rfl rfl rfl rfl rfl (op_loadN rfl ag_44 sz_44 rfl rfl) ?_
      refine dl_wr 0 rfl rfl rfl rfl rfl rfl rfl (op_loadN rfl ag_44 sz_44 rfl rfl) ?_
      obtain ⟨y108, hy108, h⟩ := bind_some h
      refine dl_we rfl rfl rfl rfl (op_call (vs := [.agg #[.int .i64 x1, .int .u64 0, .int .u64 0, .int .u32 0, .int .u32 0, .int .u8 0, .int .u16 0, .int .u16 0, .bool false, .slice none 0 0, .int .i64 x3, .int .i64 0], .agg #[.int .i64 x1, .int .u64 0, .int .u64 0, .int .u32 0, .int .u32 0, .int .u8 0, .int .u16 0, .int .u16 0, .bool false, .slice none 0 0, .int .i64 x3, .int .i64 22]]) cl_13 (T_history_Alike none 0 0 0 0 x1 (⟨0, 0⟩ : MWideCount) (⟨0, 0, 0, 0, 0⟩ : MApiHeader) false x3 0 x1 (⟨0, 0⟩ : MWideCount) (⟨0, 0, 0, 0, 0⟩ : MApiHeader) false x3 22 hy108) rfl [] (by exact rfl) rfl) ?_
      rintro ⟨⟩ -
      refine dn_normv (u := .bool y108) (Qs := [_, _, _, _, _, _, _, _]) rfl rfl ?_
      refine dl_t rfl rfl rfl (op_pick (b := false) rfl rfl) ?_
      refine dl_t rfl rfl rfl (op_move rfl) ?_
      refine dn_slot (u := .bool (decide (y108 = true))) 42 rfl (bdec _) ?_
      refine dn_test (p := y108 = true) 42 rfl (fun hc109 => ?_) (fun hc109 => ?_)
      ·
        replace h := pos_some hc109 h
        refine dl_no rfl rfl rfl rfl (by decide) rfl rfl ?_
        refine dl_no rfl rfl rfl rfl (by decide) rfl rfl ?_
        refine dl_no rfl rfl rfl rfl (by decide) rfl rfl ?_
        refine dl_no rfl rfl rfl rfl (by decide) rfl rfl ?_
        refine dl_t rfl rfl rfl (op_pick (b := true) rfl rfl) ?_
        refine dn_done ?_
        refine dn_then ?_
        refine dn_cond_true rfl ?_
        refine dn_seq ?_
        refine dn_reg ?_
        refine dl_t rfl rfl rfl (op_assign rfl) ?_
        refine dn_done ?_
        refine dn_then ?_
        refine dn_ret ?_
        refine dn_thenR ?_
        replace h := Option.some.inj h
        subst h
        exact dn_end () rfl rfl (by rfl) trivial [4, 4, 4, 4] (Rs := [Blk b104 (.cells [.int .i64 x1, .int .u64 0, .int .u64 0, .int .u32 0, .int .u32 0, .int .u8 0, .int .u16 0, .int .u16 0, .bool false, .slice none 0 0, .int .i64 x3, .int .i64 22].toArray 44 (0, 0)), Blk b103 (.cells [.int .i64 x2, .int .u64 0, .int .u64 0, .int .u32 0, .int .u32 0, .int .u8 0, .int .u16 0, .int .u16 0, .bool false, .slice none 0 0, .int .i64 x4, .int .i64 0].toArray 44 (0, 0)), Blk b102 (.cells [.int .i64 x1, .int .u64 0, .int .u64 0, .int .u32 0, .int .u32 0, .int .u8 0, .int .u16 0, .int .u16 0, .bool false, .slice none 0 0, .int .i64 x3, .int .i64 0].toArray 44 (0, 0)), Blk b101 (.cells [.slice a1 n2 c3, .slice a4 n5 c6, .slice a7 n8 c9].toArray 53 (0, 0))]) (by kernel_rfl) (.inl rfl)
      ·
        replace h := neg_some hc109 h
        refine dl_wr 0 rfl rfl rfl rfl rfl rfl rfl (op_loadN rfl ag_44 sz_44 rfl rfl) ?_
        refine dl_wr 0 rfl rfl rfl rfl rfl rfl rfl (op_loadN rfl ag_44 sz_44 rfl rfl) ?_
        obtain ⟨y110, hy110, h⟩ := bind_some h
        refine dl_we rfl rfl rfl rfl (op_call (vs := [.agg #[.int .i64 x1, .int .u64 0, .int .u64 0, .int .u32 0, .int .u32 0, .int .u8 0, .int .u16 0, .int .u16 0, .bool false, .slice none 0 0, .int .i64 x3, .int .i64 22], .agg #[.int .i64 x1, .int .u64 0, .int .u64 0, .int .u32 0, .int .u32 0, .int .u8 0, .int .u16 0, .int .u16 0, .bool false, .slice none 0 0, .int .i64 x3, .int .i64 22]]) cl_13 (T_history_Alike none 0 0 0 0 x1 (⟨0, 0⟩ : MWideCount) (⟨0, 0, 0, 0, 0⟩ : MApiHeader) false x3 22 x1 (⟨0, 0⟩ : MWideCount) (⟨0, 0, 0, 0, 0⟩ : MApiHeader) false x3 22 hy110) rfl [] (by exact rfl) rfl) ?_
        rintro ⟨⟩ -
        refine dn_normv (u := .bool y110) (Qs := [_, _, _, _, _, _, _, _]) rfl rfl ?_
        refine dn_slot (u := .bool (decide (y110 = true))) 45 rfl (bdec _) ?_
        refine dl_wt rfl rfl rfl rfl rfl rfl (op_not rfl) ?_
        refine dl_t rfl rfl rfl (op_pick (b := false) rfl rfl) ?_
        refine dn_done ?_
        refine dn_then ?_
        refine dn_cond (p := ¬ (y110 = true)) rfl (fun hc111 => ?_) (fun hc111 => ?_)
        ·
          replace h := pos_some hc111 h
          refine dn_seq ?_
          refine dn_reg ?_
          refine dl_t rfl rfl rfl (op_assign rfl) ?_
          refine dn_done ?_
          refine dn_then ?_
          refine dn_ret ?_
          refine dn_thenR ?_
          replace h := Option.some.inj h
          subst h
          exact dn_end () rfl rfl (by rfl) trivial [4, 4, 4, 4] (Rs := [Blk b104 (.cells [.int .i64 x1, .int .u64 0, .int .u64 0, .int .u32 0, .int .u32 0, .int .u8 0, .int .u16 0, .int .u16 0, .bool false, .slice none 0 0, .int .i64 x3, .int .i64 22].toArray 44 (0, 0)), Blk b103 (.cells [.int .i64 x2, .int .u64 0, .int .u64 0, .int .u32 0, .int .u32 0, .int .u8 0, .int .u16 0, .int .u16 0, .bool false, .slice none 0 0, .int .i64 x4, .int .i64 0].toArray 44 (0, 0)), Blk b102 (.cells [.int .i64 x1, .int .u64 0, .int .u64 0, .int .u32 0, .int .u32 0, .int .u8 0, .int .u16 0, .int .u16 0, .bool false, .slice none 0 0, .int .i64 x3, .int .i64 0].toArray 44 (0, 0)), Blk b101 (.cells [.slice a1 n2 c3, .slice a4 n5 c6, .slice a7 n8 c9].toArray 53 (0, 0))]) (by kernel_rfl) (.inl rfl)
        ·
          replace h := neg_some hc111 h
          refine dn_skip ?_
          refine dn_then ?_
          refine dn_seq ?_
          refine dn_seq ?_
          refine dn_reg ?_
          refine dl_r 3 rfl rfl rfl rfl (op_loadN rfl ag_53 sz_53 rfl rfl) ?_
          obtain ⟨y112, hy112, h⟩ := bind_some h
          refine dl_e rfl (op_call (vs := [.agg #[.slice a1 n2 c3, .slice a4 n5 c6, .slice a7 n8 c9], .slice none 0 0, .int .i64 1]) cl_14 (T_crossbucklaw21_Light a1 n2 c3 a4 n5 c6 a7 n8 c9 x5 x6 x7 1 hy112) rfl [4, 4, 4] (by exact rfl) rfl) ?_
          rintro ⟨⟩ -
          refine dn_normv (u := .bool y112) (Qs := [RoL (encI .i64) a1 n2 x5, RoL encMApiLink a4 n5 x6, RoL encMApiACE a7 n8 x7, _, _, _, _, _]) rfl rfl ?_
          refine dn_slot (u := .bool (decide (y112 = true))) 49 rfl (bdec _) ?_
          refine dl_t rfl rfl rfl (op_not rfl) ?_
          refine dn_done ?_
          refine dn_then ?_
          refine dn_cond (p := ¬ (y112 = true)) rfl (fun hc113 => ?_) (fun hc113 => ?_)
          ·
            replace h := pos_some hc113 h
            refine dn_seq ?_
            refine dn_reg ?_
            obtain ⟨y114, hy114, h⟩ := bind_some h
            refine dl_e rfl (op_call (vs := []) cl_6 (T_awake   hy114) rfl [] (by exact rfl) rfl) ?_
            rintro ⟨⟩ -
            refine dn_normv (u := .bool y114) (Qs := [_, _, _, _, _, _, _, _]) rfl rfl ?_
            refine dl_t rfl rfl rfl (op_assign rfl) ?_
            refine dn_done ?_
            refine dn_then ?_
            refine dn_ret ?_
            refine dn_thenR ?_
            replace h := Option.some.inj h
            subst h
            exact dn_end () rfl rfl (by rfl) trivial [0, 0, 0, 4] (Rs := [Blk b104 (.cells [.int .i64 x1, .int .u64 0, .int .u64 0, .int .u32 0, .int .u32 0, .int .u8 0, .int .u16 0, .int .u16 0, .bool false, .slice none 0 0, .int .i64 x3, .int .i64 22].toArray 44 (0, 0)), Blk b103 (.cells [.int .i64 x2, .int .u64 0, .int .u64 0, .int .u32 0, .int .u32 0, .int .u8 0, .int .u16 0, .int .u16 0, .bool false, .slice none 0 0, .int .i64 x4, .int .i64 0].toArray 44 (0, 0)), Blk b102 (.cells [.int .i64 x1, .int .u64 0, .int .u64 0, .int .u32 0, .int .u32 0, .int .u8 0, .int .u16 0, .int .u16 0, .bool false, .slice none 0 0, .int .i64 x3, .int .i64 0].toArray 44 (0, 0)), Blk b101 (.cells [.slice a1 n2 c3, .slice a4 n5 c6, .slice a7 n8 c9].toArray 53 (0, 0))]) (by kernel_rfl) (.inl rfl)
          ·
            replace h := neg_some hc113 h
            refine dn_skip ?_
            refine dn_then ?_
            refine dn_seq ?_
            refine dn_reg ?_
            refine dl_r 6 rfl rfl rfl rfl (op_loadN rfl ag_53 sz_53 rfl rfl) ?_
            obtain ⟨y115, hy115, h⟩ := bind_some h
            refine dl_e rfl (op_call (vs := [.agg #[.slice a1 n2 c3, .slice a4 n5 c6, .slice a7 n8 c9], .int .i64 9, .int .i64 100, .slice none 0 0, .slice none 0 0]) cl_15 (T_history_Linear a1 n2 c3 a4 n5 c6 a7 n8 c9 x5 x6 x7 9 100 hy115) rfl [0, 0, 0] (by exact rfl) rfl) ?_
            rintro ⟨⟩ -
            refine dn_normv (u := .tuple #[.bool y115.1, .int .i64 y115.2]) (Qs := [RoL (encI .i64) a1 n2 x5, RoL encMApiLink a4 n5 x6, RoL encMApiACE a7 n8 x7, _, _, _, _, _]) rfl rfl ?_
            refine dl_t rfl rfl rfl (op_move rfl) ?_
            refine dl_t rfl rfl rfl (op_extract rfl rfl) ?_
            refine dl_t rfl rfl rfl (op_extract rfl rfl) ?_
            refine dl_t rfl rfl rfl (op_assign rfl) ?_
            refine dl_t rfl rfl rfl (op_assign rfl) ?_
            refine dn_done ?_
            refine dn_then ?_
            refine dn_seq ?_
            refine dn_reg ?_
            obtain ⟨y116, hy116, h⟩ := bind_some h
            refine dl_e rfl (op_call (vs := []) cl_6 (T_awake   hy116) rfl [] (by exact rfl) rfl) ?_
            rintro ⟨⟩ -
            refine dn_normv (u := .bool y116) (Qs := [_, _, _, _, _, _, _, _]) rfl rfl ?_
            refine dl_t rfl rfl rfl (op_move rfl) ?_
            refine dn_slot (u := .bool (decide (y116 = true))) 58 rfl (bdec _) ?_
            refine dn_test (p := y116 = true) 58 rfl (fun hc117 => ?_) (fun hc117 => ?_)
            ·
              replace h := pos_some hc117 h
              refine dl_wt rfl rfl rfl rfl rfl rfl (op_move rfl) ?_
              refine dl_wt rfl rfl rfl rfl rfl rfl (op_eql rfl rfl) ?_
              refine dl_t rfl rfl rfl (op_pick (b := true) rfl rfl) ?_
              refine dl_t rfl rfl rfl (op_move rfl) ?_
              refine dn_test (p := y115.2 = 1) 62 rfl (fun hc118 => ?_) (fun hc118 => ?_)
              ·
                replace h := pos_some hc118 h
                obtain ⟨y119, hy119, h⟩ := bind_some h
                refine dl_we rfl rfl rfl rfl (op_call (vs := [.slice none 0 0]) cl_11 (T_history_Overlap   hy119) rfl [] (by exact rfl) rfl) ?_
                rintro ⟨⟩ -
                refine dn_normv (u := .int .i64 y119) (Qs := [_, _, _, _, _, _, _, _]) rfl rfl ?_
                refine dl_wt rfl rfl rfl rfl rfl rfl (op_eql rfl rfl) ?_
                refine dl_t rfl rfl rfl (op_pick (b := true) rfl rfl) ?_
                refine dl_t rfl rfl rfl (op_assign rfl) ?_
                refine dn_done ?_
                refine dn_then ?_
                refine dn_ret ?_
                replace h := Option.some.inj h
                subst h
                exact dn_end () rfl rfl (by rfl) trivial [0, 0, 0, 4] (Rs := [Blk b104 (.cells [.int .i64 x1, .int .u64 0, .int .u64 0, .int .u32 0, .int .u32 0, .int .u8 0, .int .u16 0, .int .u16 0, .bool false, .slice none 0 0, .int .i64 x3, .int .i64 22].toArray 44 (0, 0)), Blk b103 (.cells [.int .i64 x2, .int .u64 0, .int .u64 0, .int .u32 0, .int .u32 0, .int .u8 0, .int .u16 0, .int .u16 0, .bool false, .slice none 0 0, .int .i64 x4, .int .i64 0].toArray 44 (0, 0)), Blk b102 (.cells [.int .i64 x1, .int .u64 0, .int .u64 0, .int .u32 0, .int .u32 0, .int .u8 0, .int .u16 0, .int .u16 0, .bool false, .slice none 0 0, .int .i64 x3, .int .i64 0].toArray 44 (0, 0)), Blk b101 (.cells [.slice a1 n2 c3, .slice a4 n5 c6, .slice a7 n8 c9].toArray 53 (0, 0))]) (by kernel_rfl) (.inl rfl)
              ·
                replace h := neg_some hc118 h
                refine dl_no rfl rfl rfl rfl (by decide) rfl rfl ?_
                refine dl_no rfl rfl rfl rfl (by decide) rfl rfl ?_
                refine dl_t rfl rfl rfl (op_pick (b := false) rfl rfl) ?_
                refine dl_t rfl rfl rfl (op_assign rfl) ?_
                refine dn_done ?_
                refine dn_then ?_
                refine dn_ret ?_
                replace h := Option.some.inj h
                subst h
                exact dn_end () rfl rfl (by rfl) trivial [0, 0, 0, 4] (Rs := [Blk b104 (.cells [.int .i64 x1, .int .u64 0, .int .u64 0, .int .u32 0, .int .u32 0, .int .u8 0, .int .u16 0, .int .u16 0, .bool false, .slice none 0 0, .int .i64 x3, .int .i64 22].toArray 44 (0, 0)), Blk b103 (.cells [.int .i64 x2, .int .u64 0, .int .u64 0, .int .u32 0, .int .u32 0, .int .u8 0, .int .u16 0, .int .u16 0, .bool false, .slice none 0 0, .int .i64 x4, .int .i64 0].toArray 44 (0, 0)), Blk b102 (.cells [.int .i64 x1, .int .u64 0, .int .u64 0, .int .u32 0, .int .u32 0, .int .u8 0, .int .u16 0, .int .u16 0, .bool false, .slice none 0 0, .int .i64 x3, .int .i64 0].toArray 44 (0, 0)), Blk b101 (.cells [.slice a1 n2 c3, .slice a4 n5 c6, .slice a7 n8 c9].toArray 53 (0, 0))]) (by kernel_rfl) (.inl rfl)
            ·
              replace h := neg_some hc117 h
              refine dl_no rfl rfl rfl rfl (by decide) rfl rfl ?_
              refine dl_no rfl rfl rfl rfl (by decide) rfl rfl ?_
              refine dl_t rfl rfl rfl (op_pick (b := false) rfl rfl) ?_
              refine dl_t rfl rfl rfl (op_move rfl) ?_
              refine dl_no rfl rfl rfl rfl (by decide) rfl rfl ?_
              refine dl_no rfl rfl rfl rfl (by decide) rfl rfl ?_
              refine dl_t rfl rfl rfl (op_pick (b := false) rfl rfl) ?_
              refine dl_t rfl rfl rfl (op_assign rfl) ?_
              refine dn_done ?_
              refine dn_then ?_
              refine dn_ret ?_
              replace h := Option.some.inj h
              subst h
              exact dn_end () rfl rfl (by rfl) trivial [0, 0, 0, 4] (Rs := [Blk b104 (.cells [.int .i64 x1, .int .u64 0, .int .u64 0, .int .u32 0, .int .u32 0, .int .u8 0, .int .u16 0, .int .u16 0, .bool false, .slice none 0 0, .int .i64 x3, .int .i64 22].toArray 44 (0, 0)), Blk b103 (.cells [.int .i64 x2, .int .u64 0, .int .u64 0, .int .u32 0, .int .u32 0, .int .u8 0, .int .u16 0, .int .u16 0, .bool false, .slice none 0 0, .int .i64 x4, .int .i64 0].toArray 44 (0, 0)), Blk b102 (.cells [.int .i64 x1, .int .u64 0, .int .u64 0, .int .u32 0, .int .u32 0, .int .u8 0, .int .u16 0, .int .u16 0, .bool false, .slice none 0 0, .int .i64 x3, .int .i64 0].toArray 44 (0, 0)), Blk b101 (.cells [.slice a1 n2 c3, .slice a4 n5 c6, .slice a7 n8 c9].toArray 53 (0, 0))]) (by kernel_rfl) (.inl rfl)
  ·
    replace h := neg_some hc106 h
    refine dl_no rfl rfl rfl rfl (by decide) rfl rfl ?_
    refine dl_no rfl rfl rfl rfl (by decide) rfl rfl ?_
    refine dl_no rfl rfl rfl rfl (by decide) rfl rfl ?_
    refine dl_t rfl rfl rfl (op_pick (b := false) rfl rfl) ?_
    refine dl_t rfl rfl rfl (op_boolneq rfl rfl bo_4) ?_
    refine dl_t rfl rfl rfl (op_move rfl) ?_
    refine dn_test (p := ¬ (y105 = false)) 37 rfl (fun hc120 => ?_) (fun hc120 => ?_)
    ·
      replace h := pos_some hc120 h
      refine dl_no rfl rfl rfl rfl (by decide) rfl rfl ?_
      refine dl_no rfl rfl rfl rfl (by decide) rfl rfl ?_
      refine dl_no rfl rfl rfl rfl (by decide) rfl rfl ?_
      refine dl_t rfl rfl rfl (op_pick (b := true) rfl rfl) ?_
      refine dl_t rfl rfl rfl (op_move rfl) ?_
      refine dl_no rfl rfl rfl rfl (by decide) rfl rfl ?_
      refine dl_no rfl rfl rfl rfl (by decide) rfl rfl ?_
      refine dl_no rfl rfl rfl rfl (by decide) rfl rfl ?_
      refine dl_no rfl rfl rfl rfl (by decide) rfl rfl ?_
      refine dl_t rfl rfl rfl (op_pick (b := true) rfl rfl) ?_
      refine dn_done ?_
      refine dn_then ?_
      refine dn_cond_true rfl ?_
      refine dn_seq ?_
      refine dn_reg ?_
      refine dl_t rfl rfl rfl (op_assign rfl) ?_
      refine dn_done ?_
      refine dn_then ?_
      refine dn_ret ?_
      refine dn_thenR ?_
      replace h := Option.some.inj h
      subst h
      exact dn_end () rfl rfl (by rfl) trivial [4, 4, 4, 4] (Rs := [Blk b104 (.cells [.int .i64 x1, .int .u64 0, .int .u64 0, .int .u32 0, .int .u32 0, .int .u8 0, .int .u16 0, .int .u16 0, .bool false, .slice none 0 0, .int .i64 x3, .int .i64 22].toArray 44 (0, 0)), Blk b103 (.cells [.int .i64 x2, .int .u64 0, .int .u64 0, .int .u32 0, .int .u32 0, .int .u8 0, .int .u16 0, .int .u16 0, .bool false, .slice none 0 0, .int .i64 x4, .int .i64 0].toArray 44 (0, 0)), Blk b102 (.cells [.int .i64 x1, .int .u64 0, .int .u64 0, .int .u32 0, .int .u32 0, .int .u8 0, .int .u16 0, .int .u16 0, .bool false, .slice none 0 0, .int .i64 x3, .int .i64 0].toArray 44 (0, 0)), Blk b101 (.cells [.slice a1 n2 c3, .slice a4 n5 c6, .slice a7 n8 c9].toArray 53 (0, 0))]) (by kernel_rfl) (.inl rfl)
    ·
      replace h := neg_some hc120 h
      refine dl_wr 2 rfl rfl rfl rfl rfl rfl rfl (op_loadN rfl ag_44 sz_44 rfl rfl) ?_
      refine dl_wr 0 rfl rfl rfl rfl rfl rfl rfl (op_loadN rfl ag_44 sz_44 rfl rfl) ?_
      obtain ⟨y121, hy121, h⟩ := bind_some h
      refine dl_we rfl rfl rfl rfl (op_call (vs := [.agg #[.int .i64 x1, .int .u64 0, .int .u64 0, .int .u32 0, .int .u32 0, .int .u8 0, .int .u16 0, .int .u16 0, .bool false, .slice none 0 0, .int .i64 x3, .int .i64 0], .agg #[.int .i64 x1, .int .u64 0, .int .u64 0, .int .u32 0, .int .u32 0, .int .u8 0, .int .u16 0, .int .u16 0, .bool false, .slice none 0 0, .int .i64 x3, .int .i64 22]]) cl_13 (T_history_Alike none 0 0 0 0 x1 (⟨0, 0⟩ : MWideCount) (⟨0, 0, 0, 0, 0⟩ : MApiHeader) false x3 0 x1 (⟨0, 0⟩ : MWideCount) (⟨0, 0, 0, 0, 0⟩ : MApiHeader) false x3 22 hy121) rfl [] (by exact rfl) rfl) ?_
      rintro ⟨⟩ -
      refine dn_normv (u := .bool y121) (Qs := [_, _, _, _, _, _, _, _]) rfl rfl ?_
      refine dl_t rfl rfl rfl (op_pick (b := false) rfl rfl) ?_
      refine dl_t rfl rfl rfl (op_move rfl) ?_
      refine dn_slot (u := .bool (decide (y121 = true))) 42 rfl (bdec _) ?_
      refine dn_test (p := y121 = true) 42 rfl (fun hc122 => ?_) (fun hc122 => ?_)
      ·
        replace h := pos_some hc122 h
        refine dl_no rfl rfl rfl rfl (by decide) rfl rfl ?_
        refine dl_no rfl rfl rfl rfl (by decide) rfl rfl ?_
        refine dl_no rfl rfl rfl rfl (by decide) rfl rfl ?_
        refine dl_no rfl rfl rfl rfl (by decide) rfl rfl ?_
        refine dl_t rfl rfl rfl (op_pick (b := true) rfl rfl) ?_
        refine dn_done ?_
        refine dn_then ?_
        refine dn_cond_true rfl ?_
        refine dn_seq ?_
        refine dn_reg ?_
        refine dl_t rfl rfl rfl (op_assign rfl) ?_
        refine dn_done ?_
        refine dn_then ?_
        refine dn_ret ?_
        refine dn_thenR ?_
        replace h := Option.some.inj h
        subst h
        exact dn_end () rfl rfl (by rfl) trivial [4, 4, 4, 4] (Rs := [Blk b104 (.cells [.int .i64 x1, .int .u64 0, .int .u64 0, .int .u32 0, .int .u32 0, .int .u8 0, .int .u16 0, .int .u16 0, .bool false, .slice none 0 0, .int .i64 x3, .int .i64 22].toArray 44 (0, 0)), Blk b103 (.cells [.int .i64 x2, .int .u64 0, .int .u64 0, .int .u32 0, .int .u32 0, .int .u8 0, .int .u16 0, .int .u16 0, .bool false, .slice none 0 0, .int .i64 x4, .int .i64 0].toArray 44 (0, 0)), Blk b102 (.cells [.int .i64 x1, .int .u64 0, .int .u64 0, .int .u32 0, .int .u32 0, .int .u8 0, .int .u16 0, .int .u16 0, .bool false, .slice none 0 0, .int .i64 x3, .int .i64 0].toArray 44 (0, 0)), Blk b101 (.cells [.slice a1 n2 c3, .slice a4 n5 c6, .slice a7 n8 c9].toArray 53 (0, 0))]) (by kernel_rfl) (.inl rfl)
      ·
        replace h := neg_some hc122 h
        refine dl_wr 0 rfl rfl rfl rfl rfl rfl rfl (op_loadN rfl ag_44 sz_44 rfl rfl) ?_
        refine dl_wr 0 rfl rfl rfl rfl rfl rfl rfl (op_loadN rfl ag_44 sz_44 rfl rfl) ?_
        obtain ⟨y123, hy123, h⟩ := bind_some h
        refine dl_we rfl rfl rfl rfl (op_call (vs := [.agg #[.int .i64 x1, .int .u64 0, .int .u64 0, .int .u32 0, .int .u32 0, .int .u8 0, .int .u16 0, .int .u16 0, .bool false, .slice none 0 0, .int .i64 x3, .int .i64 22], .agg #[.int .i64 x1, .int .u64 0, .int .u64 0, .int .u32 0, .int .u32 0, .int .u8 0, .int .u16 0, .int .u16 0, .bool false, .slice none 0 0, .int .i64 x3, .int .i64 22]]) cl_13 (T_history_Alike none 0 0 0 0 x1 (⟨0, 0⟩ : MWideCount) (⟨0, 0, 0, 0, 0⟩ : MApiHeader) false x3 22 x1 (⟨0, 0⟩ : MWideCount) (⟨0, 0, 0, 0, 0⟩ : MApiHeader) false x3 22 hy123) rfl [] (by exact rfl) rfl) ?_
        rintro ⟨⟩ -
        refine dn_normv (u := .bool y123) (Qs := [_, _, _, _, _, _, _, _]) rfl rfl ?_
        refine dn_slot (u := .bool (decide (y123 = true))) 45 rfl (bdec _) ?_
        refine dl_wt rfl rfl rfl rfl rfl rfl (op_not rfl) ?_
        refine dl_t rfl rfl rfl (op_pick (b := false) rfl rfl) ?_
        refine dn_done ?_
        refine dn_then ?_
        refine dn_cond (p := ¬ (y123 = true)) rfl (fun hc124 => ?_) (fun hc124 => ?_)
        ·
          replace h := pos_some hc124 h
          refine dn_seq ?_
          refine dn_reg ?_
          refine dl_t rfl rfl rfl (op_assign rfl) ?_
          refine dn_done ?_
          refine dn_then ?_
          refine dn_ret ?_
          refine dn_thenR ?_
          replace h := Option.some.inj h
          subst h
          exact dn_end () rfl rfl (by rfl) trivial [4, 4, 4, 4] (Rs := [Blk b104 (.cells [.int .i64 x1, .int .u64 0, .int .u64 0, .int .u32 0, .int .u32 0, .int .u8 0, .int .u16 0, .int .u16 0, .bool false, .slice none 0 0, .int .i64 x3, .int .i64 22].toArray 44 (0, 0)), Blk b103 (.cells [.int .i64 x2, .int .u64 0, .int .u64 0, .int .u32 0, .int .u32 0, .int .u8 0, .int .u16 0, .int .u16 0, .bool false, .slice none 0 0, .int .i64 x4, .int .i64 0].toArray 44 (0, 0)), Blk b102 (.cells [.int .i64 x1, .int .u64 0, .int .u64 0, .int .u32 0, .int .u32 0, .int .u8 0, .int .u16 0, .int .u16 0, .bool false, .slice none 0 0, .int .i64 x3, .int .i64 0].toArray 44 (0, 0)), Blk b101 (.cells [.slice a1 n2 c3, .slice a4 n5 c6, .slice a7 n8 c9].toArray 53 (0, 0))]) (by kernel_rfl) (.inl rfl)
        ·
          replace h := neg_some hc124 h
          refine dn_skip ?_
          refine dn_then ?_
          refine dn_seq ?_
          refine dn_seq ?_
          refine dn_reg ?_
          refine dl_r 3 rfl rfl rfl rfl (op_loadN rfl ag_53 sz_53 rfl rfl) ?_
          obtain ⟨y125, hy125, h⟩ := bind_some h
          refine dl_e rfl (op_call (vs := [.agg #[.slice a1 n2 c3, .slice a4 n5 c6, .slice a7 n8 c9], .slice none 0 0, .int .i64 1]) cl_14 (T_crossbucklaw21_Light a1 n2 c3 a4 n5 c6 a7 n8 c9 x5 x6 x7 1 hy125) rfl [4, 4, 4] (by exact rfl) rfl) ?_
          rintro ⟨⟩ -
          refine dn_normv (u := .bool y125) (Qs := [RoL (encI .i64) a1 n2 x5, RoL encMApiLink a4 n5 x6, RoL encMApiACE a7 n8 x7, _, _, _, _, _]) rfl rfl ?_
          refine dn_slot (u := .bool (decide (y125 = true))) 49 rfl (bdec _) ?_
          refine dl_t rfl rfl rfl (op_not rfl) ?_
          refine dn_done ?_
          refine dn_then ?_
          refine dn_cond (p := ¬ (y125 = true)) rfl (fun hc126 => ?_) (fun hc126 => ?_)
          ·
            replace h := pos_some hc126 h
            refine dn_seq ?_
            refine dn_reg ?_
            obtain ⟨y127, hy127, h⟩ := bind_some h
            refine dl_e rfl (op_call (vs := []) cl_6 (T_awake   hy127) rfl [] (by exact rfl) rfl) ?_
            rintro ⟨⟩ -
            refine dn_normv (u := .bool y127) (Qs := [_, _, _, _, _, _, _, _]) rfl rfl ?_
            refine dl_t rfl rfl rfl (op_assign rfl) ?_
            refine dn_done ?_
            refine dn_then ?_
            refine dn_ret ?_
            refine dn_thenR ?_
            replace h := Option.some.inj h
            subst h
            exact dn_end () rfl rfl (by rfl) trivial [0, 0, 0, 4] (Rs := [Blk b104 (.cells [.int .i64 x1, .int .u64 0, .int .u64 0, .int .u32 0, .int .u32 0, .int .u8 0, .int .u16 0, .int .u16 0, .bool false, .slice none 0 0, .int .i64 x3, .int .i64 22].toArray 44 (0, 0)), Blk b103 (.cells [.int .i64 x2, .int .u64 0, .int .u64 0, .int .u32 0, .int .u32 0, .int .u8 0, .int .u16 0, .int .u16 0, .bool false, .slice none 0 0, .int .i64 x4, .int .i64 0].toArray 44 (0, 0)), Blk b102 (.cells [.int .i64 x1, .int .u64 0, .int .u64 0, .int .u32 0, .int .u32 0, .int .u8 0, .int .u16 0, .int .u16 0, .bool false, .slice none 0 0, .int .i64 x3, .int .i64 0].toArray 44 (0, 0)), Blk b101 (.cells [.slice a1 n2 c3, .slice a4 n5 c6, .slice a7 n8 c9].toArray 53 (0, 0))]) (by kernel_rfl) (.inl rfl)
          ·
            replace h := neg_some hc126 h
            refine dn_skip ?_
            refine dn_then ?_
            refine dn_seq ?_
            refine dn_reg ?_
            refine dl_r 6 rfl rfl rfl rfl (op_loadN rfl ag_53 sz_53 rfl rfl) ?_
            obtain ⟨y128, hy128, h⟩ := bind_some h
            refine dl_e rfl (op_call (vs := [.agg #[.slice a1 n2 c3, .slice a4 n5 c6, .slice a7 n8 c9], .int .i64 9, .int .i64 100, .slice none 0 0, .slice none 0 0]) cl_15 (T_history_Linear a1 n2 c3 a4 n5 c6 a7 n8 c9 x5 x6 x7 9 100 hy128) rfl [0, 0, 0] (by exact rfl) rfl) ?_
            rintro ⟨⟩ -
            refine dn_normv (u := .tuple #[.bool y128.1, .int .i64 y128.2]) (Qs := [RoL (encI .i64) a1 n2 x5, RoL encMApiLink a4 n5 x6, RoL encMApiACE a7 n8 x7, _, _, _, _, _]) rfl rfl ?_
            refine dl_t rfl rfl rfl (op_move rfl) ?_
            refine dl_t rfl rfl rfl (op_extract rfl rfl) ?_
            refine dl_t rfl rfl rfl (op_extract rfl rfl) ?_
            refine dl_t rfl rfl rfl (op_assign rfl) ?_
            refine dl_t rfl rfl rfl (op_assign rfl) ?_
            refine dn_done ?_
            refine dn_then ?_
            refine dn_seq ?_
            refine dn_reg ?_
            obtain ⟨y129, hy129, h⟩ := bind_some h
            refine dl_e rfl (op_call (vs := []) cl_6 (T_awake   hy129) rfl [] (by exact rfl) rfl) ?_
            rintro ⟨⟩ -
            refine dn_normv (u := .bool y129) (Qs := [_, _, _, _, _, _, _, _]) rfl rfl ?_
            refine dl_t rfl rfl rfl (op_move rfl) ?_
            refine dn_slot (u := .bool (decide (y129 = true))) 58 rfl (bdec _) ?_
            refine dn_test (p := y129 = true) 58 rfl (fun hc130 => ?_) (fun hc130 => ?_)
            ·
              replace h := pos_some hc130 h
              refine dl_wt rfl rfl rfl rfl rfl rfl (op_move rfl) ?_
              refine dl_wt rfl rfl rfl rfl rfl rfl (op_eql rfl rfl) ?_
              refine dl_t rfl rfl rfl (op_pick (b := true) rfl rfl) ?_
              refine dl_t rfl rfl rfl (op_move rfl) ?_
              refine dn_test (p := y128.2 = 1) 62 rfl (fun hc131 => ?_) (fun hc131 => ?_)
              ·
                replace h := pos_some hc131 h
                obtain ⟨y132, hy132, h⟩ := bind_some h
                refine dl_we rfl rfl rfl rfl (op_call (vs := [.slice none 0 0]) cl_11 (T_history_Overlap   hy132) rfl [] (by exact rfl) rfl) ?_
                rintro ⟨⟩ -
                refine dn_normv (u := .int .i64 y132) (Qs := [_, _, _, _, _, _, _, _]) rfl rfl ?_
                refine dl_wt rfl rfl rfl rfl rfl rfl (op_eql rfl rfl) ?_
                refine dl_t rfl rfl rfl (op_pick (b := true) rfl rfl) ?_
                refine dl_t rfl rfl rfl (op_assign rfl) ?_
                refine dn_done ?_
                refine dn_then ?_
                refine dn_ret ?_
                replace h := Option.some.inj h
                subst h
                exact dn_end () rfl rfl (by rfl) trivial [0, 0, 0, 4] (Rs := [Blk b104 (.cells [.int .i64 x1, .int .u64 0, .int .u64 0, .int .u32 0, .int .u32 0, .int .u8 0, .int .u16 0, .int .u16 0, .bool false, .slice none 0 0, .int .i64 x3, .int .i64 22].toArray 44 (0, 0)), Blk b103 (.cells [.int .i64 x2, .int .u64 0, .int .u64 0, .int .u32 0, .int .u32 0, .int .u8 0, .int .u16 0, .int .u16 0, .bool false, .slice none 0 0, .int .i64 x4, .int .i64 0].toArray 44 (0, 0)), Blk b102 (.cells [.int .i64 x1, .int .u64 0, .int .u64 0, .int .u32 0, .int .u32 0, .int .u8 0, .int .u16 0, .int .u16 0, .bool false, .slice none 0 0, .int .i64 x3, .int .i64 0].toArray 44 (0, 0)), Blk b101 (.cells [.slice a1 n2 c3, .slice a4 n5 c6, .slice a7 n8 c9].toArray 53 (0, 0))]) (by kernel_rfl) (.inl rfl)
              ·
                replace h := neg_some hc131 h
                refine dl_no rfl rfl rfl rfl (by decide) rfl rfl ?_
                refine dl_no rfl rfl rfl rfl (by decide) rfl rfl ?_
                refine dl_t rfl rfl rfl (op_pick (b := false) rfl rfl) ?_
                refine dl_t rfl rfl rfl (op_assign rfl) ?_
                refine dn_done ?_
                refine dn_then ?_
                refine dn_ret ?_
                replace h := Option.some.inj h
                subst h
                exact dn_end () rfl rfl (by rfl) trivial [0, 0, 0, 4] (Rs := [Blk b104 (.cells [.int .i64 x1, .int .u64 0, .int .u64 0, .int .u32 0, .int .u32 0, .int .u8 0, .int .u16 0, .int .u16 0, .bool false, .slice none 0 0, .int .i64 x3, .int .i64 22].toArray 44 (0, 0)), Blk b103 (.cells [.int .i64 x2, .int .u64 0, .int .u64 0, .int .u32 0, .int .u32 0, .int .u8 0, .int .u16 0, .int .u16 0, .bool false, .slice none 0 0, .int .i64 x4, .int .i64 0].toArray 44 (0, 0)), Blk b102 (.cells [.int .i64 x1, .int .u64 0, .int .u64 0, .int .u32 0, .int .u32 0, .int .u8 0, .int .u16 0, .int .u16 0, .bool false, .slice none 0 0, .int .i64 x3, .int .i64 0].toArray 44 (0, 0)), Blk b101 (.cells [.slice a1 n2 c3, .slice a4 n5 c6, .slice a7 n8 c9].toArray 53 (0, 0))]) (by kernel_rfl) (.inl rfl)
            ·
              replace h := neg_some hc130 h
              refine dl_no rfl rfl rfl rfl (by decide) rfl rfl ?_
              refine dl_no rfl rfl rfl rfl (by decide) rfl rfl ?_
              refine dl_t rfl rfl rfl (op_pick (b := false) rfl rfl) ?_
              refine dl_t rfl rfl rfl (op_move rfl) ?_
              refine dl_no rfl rfl rfl rfl (by decide) rfl rfl ?_
              refine dl_no rfl rfl rfl rfl (by decide) rfl rfl ?_
              refine dl_t rfl rfl rfl (op_pick (b := false) rfl rfl) ?_
              refine dl_t rfl rfl rfl (op_assign rfl) ?_
              refine dn_done ?_
              refine dn_then ?_
              refine dn_ret ?_
              replace h := Option.some.inj h
              subst h
              exact dn_end () rfl rfl (by rfl) trivial [0, 0, 0, 4] (Rs := [Blk b104 (.cells [.int .i64 x1, .int .u64 0, .int .u64 0, .int .u32 0, .int .u32 0, .int .u8 0, .int .u16 0, .int .u16 0, .bool false, .slice none 0 0, .int .i64 x3, .int .i64 22].toArray 44 (0, 0)), Blk b103 (.cells [.int .i64 x2, .int .u64 0, .int .u64 0, .int .u32 0, .int .u32 0, .int .u8 0, .int .u16 0, .int .u16 0, .bool false, .slice none 0 0, .int .i64 x4, .int .i64 0].toArray 44 (0, 0)), Blk b102 (.cells [.int .i64 x1, .int .u64 0, .int .u64 0, .int .u32 0, .int .u32 0, .int .u8 0, .int .u16 0, .int .u16 0, .bool false, .slice none 0 0, .int .i64 x3, .int .i64 0].toArray 44 (0, 0)), Blk b101 (.cells [.slice a1 n2 c3, .slice a4 n5 c6, .slice a7 n8 c9].toArray 53 (0, 0))]) (by kernel_rfl) (.inl rfl)
end
end Go.Proofs.YtjfajpoknnifcaaGreat
