/- Models of functions, and proofs that the code comes to them. No condition. -/
import Derived.Test.YtjfajpoknnifcaaGreatLwaFacts
namespace Go.Proofs.YtjfajpoknnifcaaGreat
open Go
set_option maxRecDepth 20000
set_option linter.unusedVariables false
noncomputable section
theorem bound_some {α : Type} {n : Nat} {x r : α} (h : (if n ≤ 1000000 then some x else none) = some r) : n ≤ 1000000 ∧ x = r := by
  obtain ⟨h1, h2⟩ := guard_some h
  exact ⟨h1, Option.some.inj h2⟩
noncomputable def ordM (xs : List RecV) : List RecV := open Classical in if h : ∃ z, OrdOf xs z then Classical.choose h else []
theorem ordM_of {xs z : List RecV} (h : OrdOf xs z) : OrdOf xs (ordM xs) := by
  have e : ∃ z, OrdOf xs z := ⟨z, h⟩
  unfold ordM
  rw [dif_pos e]
  exact Classical.choose_spec e
theorem OrdOf.get {xs z : List RecV} (h : OrdOf xs z) : ∃ ys : List TR, ys.Perm (tagged xs) ∧ ys.Pairwise Lt ∧ z = ys.map (·.2) := by
  obtain ⟨ys, ⟨M, e, hp, hs⟩, rfl⟩ := h
  refine ⟨ys, ?_, ?_, rfl⟩
  · have e' : ys = M := by simpa using e
    have hq : seg (tagged xs) 0 (tagged xs).length = tagged xs := by simp [seg]
    rw [hq] at hp
    rw [e']; exact hp
  · have e' : ys = M := by simpa using e
    rw [e']; exact hs
theorem ord_unique {xs z z' : List RecV} (h : OrdOf xs z) (h' : OrdOf xs z') : z = z' := by
  obtain ⟨ys, p1, s1, rfl⟩ := h.get
  obtain ⟨zs, p2, s2, rfl⟩ := h'.get
  have : ys = zs := List.Perm.eq_of_pairwise (le := Lt) (fun a b _ _ h1 h2 => by unfold Lt at h1 h2; omega) s1 s2 (p1.trans p2.symm)
  rw [this]
noncomputable def realB (xs : List RecV) : Bool := open Classical in decide (RealUp xs xs.length)
noncomputable def refRealB (xs : List TmV) : Bool := open Classical in decide (RefReal xs)
noncomputable def M_order (xs : List RecV) : Option (List RecV) := if xs.length ≤ 1000000 then some (ordM xs) else none
noncomputable def M_real (xs : List RecV) : Option Bool := if xs.length ≤ 1000000 then some (realB xs) else none
def M_overlap (xs : List RecV) : Option Int := if xs.length ≤ 1000000 then some (ovl xs xs : Nat) else none
noncomputable def M_refReal (xs : List TmV) : Option Bool := if xs.length ≤ 1000000 then some (refRealB xs) else none
def M_refOverlap (xs : List TmV) : Option Int := if xs.length ≤ 1000000 then some (ovlM xs xs : Nat) else none
def M_to (xs : List TmV) : Option (List RecV) := if xs.length ≤ 1000000 then some (recsOf xs) else none
def M_awake : Option Bool := some true
/-- A contract said otherwise. -/
theorem Tri.conv {P : Program} {f : FuncId} {args : Array Value} {pre pre' : List HP} {X Y : Type} {v : X → Value} {pr : X → Prop} {ch : X → List HP} {v' : Y → Value} {ch' : Y → List HP} {q : Prop}
    (hq : ∀ (R : HP) w, Holds w (pre' ++ [R]) → q ∧ Holds w (pre ++ [R])) (T : q → Tri P f args pre v pr ch) (k : q → ∀ x, pr x → ∃ y, v x = v' y ∧ ∀ (R : HP) w, Holds w (ch x ++ [R]) → Holds w (ch' y ++ [R])) :
    Tri P f args pre' v' (fun _ => True) ch' := fun R w H => by
  obtain ⟨h1, H1⟩ := hq R w H
  refine (T h1 R w H1).mono fun e w' ⟨x, he, hp, hs, hh⟩ => ?_
  obtain ⟨y, hv, hk⟩ := k h1 x hp
  exact ⟨y, hv ▸ he, trivial, hs, hk R w' hh⟩
theorem ownQ {α : Type} {enc : α → List Value} {sz : Nat} (hsz : ∀ x, (enc x).length = sz) (h0 : Nat.blt 0 sz = true) {e : TypeId} {a : Option Addr} {n c : Nat} {xs : List α} (R : HP) (w : World) (H : Holds w ([OwnS e sz a n c (flat enc xs)] ++ [R])) : xs.length = n ∧ Holds w ([OwnS e sz a n c (flat enc xs)] ++ [R]) := by
  refine ⟨?_, H⟩
  have h := H.ownLen
  rw [flat_len hsz] at h
  exact Nat.eq_of_mul_eq_mul_right (Nat.le_of_ble_eq_true h0) h
theorem roQ {α : Type} {enc : α → List Value} {a : Option Addr} {n : Nat} {xs : List α} (R : HP) (w : World) (H : Holds w ([RoL enc a n xs] ++ [R])) : xs.length = n ∧ Holds w ([RoS a (flat enc xs)] ++ [R]) := ⟨H.roL.1, H.roL.2⟩
theorem T_order (a1 : Option Addr) (n2 c3 : Nat) (x1 : List RecV) {r : List RecV} (h : M_order x1 = some r) : Tri Tryz.prog 8 [.slice a1 n2 c3].toArray [OwnS 46 17 a1 n2 c3 (flat encR x1)] (X := Option Addr × Nat) (fun p => .slice p.1 n2 p.2) (fun _ => True) (fun p => [OwnS 46 17 a1 n2 c3 (flat encR x1), OwnS 46 17 p.1 n2 p.2 (flat encR r)]) := by
  obtain ⟨hb, rfl⟩ := bound_some h
  refine Tri.conv (ownQ encR_len rfl) (fun hn => order_tri a1 n2 c3 x1 hn (by omega)) fun hn x hp => ⟨x.1, rfl, fun R w H => ?_⟩
  rw [ord_unique (ordM_of hp) hp]; exact H
theorem T_real (a1 : Option Addr) (n2 c3 : Nat) (x1 : List RecV) {r : Bool} (h : M_real x1 = some r) : Tri Tryz.prog 9 [.slice a1 n2 c3].toArray [OwnS 46 17 a1 n2 c3 (flat encR x1)] (X := Unit) (fun _ => .bool r) (fun _ => True) (fun _ => [OwnS 46 17 a1 n2 c3 (flat encR x1)]) := by
  obtain ⟨hb, rfl⟩ := bound_some h
  refine Tri.conv (ownQ encR_len rfl) (fun hn => real_tri a1 n2 c3 x1 hn (by omega)) fun hn x hp => ⟨(), ?_, fun R w H => H⟩
  congr 1; unfold realB; cases x <;> simp_all
theorem T_overlap (a1 : Option Addr) (n2 c3 : Nat) (x1 : List RecV) {r : Int} (h : M_overlap x1 = some r) : Tri Tryz.prog 11 [.slice a1 n2 c3].toArray [OwnS 46 17 a1 n2 c3 (flat encR x1)] (X := Unit) (fun _ => .int .i64 r) (fun _ => True) (fun _ => [OwnS 46 17 a1 n2 c3 (flat encR x1)]) := by
  obtain ⟨hb, rfl⟩ := bound_some h
  exact Tri.conv (ownQ encR_len rfl) (fun hn => overlap_tri a1 n2 c3 x1 hn (by omega)) fun hn x hp => ⟨(), rfl, fun R w H => H⟩
theorem T_refReal (a1 : Option Addr) (n2 c3 : Nat) (x1 : List TmV) {r : Bool} (h : M_refReal x1 = some r) : Tri Tryz.prog 10 [.slice a1 n2 c3].toArray [RoL encM a1 n2 x1] (X := Unit) (fun _ => .bool r) (fun _ => True) (fun _ => [RoL encM a1 n2 x1]) := by
  obtain ⟨hb, rfl⟩ := bound_some h
  refine Tri.conv roQ (fun hn => refReal_tri a1 n2 c3 x1 hn (by omega)) fun hn x hp => ⟨(), ?_, fun R w H => H.mkRoL hn⟩
  congr 1; unfold refRealB; cases x <;> simp_all
theorem T_refOverlap (a1 : Option Addr) (n2 c3 : Nat) (x1 : List TmV) {r : Int} (h : M_refOverlap x1 = some r) : Tri Tryz.prog 12 [.slice a1 n2 c3].toArray [RoL encM a1 n2 x1] (X := Unit) (fun _ => .int .i64 r) (fun _ => True) (fun _ => [RoL encM a1 n2 x1]) := by
  obtain ⟨hb, rfl⟩ := bound_some h
  exact Tri.conv roQ (fun hn => refOverlap_tri a1 n2 c3 x1 hn (by omega)) fun hn x hp => ⟨(), rfl, fun R w H => H.mkRoL hn⟩
theorem T_to (a1 : Option Addr) (n2 c3 : Nat) (x1 : List TmV) {r : List RecV} (h : M_to x1 = some r) : Tri Tryz.prog 7 [.slice a1 n2 c3].toArray [RoL encM a1 n2 x1] (X := Option Addr × Nat) (fun p => .slice p.1 n2 p.2) (fun _ => True) (fun p => [RoL encM a1 n2 x1, OwnS 46 17 p.1 n2 p.2 (flat encR r)]) := by
  obtain ⟨hb, rfl⟩ := bound_some h
  exact Tri.conv roQ (fun hn => to_tri a1 n2 c3 x1 hn (by omega)) fun hn x hp => ⟨x, rfl, fun R w H => H.mkRoL hn⟩
theorem T_awake {r : Bool} (h : M_awake = some r) : Tri Tryz.prog 6 [].toArray [] (X := Unit) (fun _ => .bool r) (fun _ => True) (fun _ => []) := by
  cases h
  exact awk1
theorem key_3 : KeyOK Tryz.prog 3 (fun v : Int => Value.int .i64 v) (fun v : Int => fits .i64 v) := ⟨Maps.int_keyed Tryz.underlying3, fun k h => ⟨_, Maps.keyOf_int_mk Tryz.underlying3 h⟩, fun a b h => by injection h⟩
def M_crossbucklaw23_HistoryTimes.l1 (y107 : List RecV) (x1 : List TmV) : Nat → (List (Int × Bool)) → Int → Option (Unit ⊕ Unit ⊕ Unit ⊕ Unit ⊕ Unit ⊕ Unit ⊕ Unit)
  | 0, _, _ => none
  | k + 1, y121, y122 => if y122 < ((y107.length : Nat) : Int) then ((nth y107 y122).bind fun y126 => if y126.ix < 0 then (some (.inl ())) else (if ((x1.length : Nat) : Int) ≤ y126.ix then (some (.inr (.inl ()))) else (if fits .i64 y126.ix then (if ((mget y121 y126.ix).getD false) = true then (some (.inr (.inr (.inl ())))) else ((nth x1 y126.ix).bind fun y135 => if ¬ (y126.pt = y135.pt) then (some (.inr (.inr (.inr (.inl ()))))) else (if (0 : Int) < y122 then ((nth y107 (w64 (y122 - 1))).bind fun y141 => if y126.pt < y141.pt then (some (.inr (.inr (.inr (.inr (.inl ())))))) else ((nth y107 (w64 (y122 - 1))).bind fun y145 => if y145.pt = y126.pt then ((nth y107 (w64 (y122 - 1))).bind fun y149 => if y126.ix < y149.ix then (some (.inr (.inr (.inr (.inr (.inr (.inl ()))))))) else (M_crossbucklaw23_HistoryTimes.l1 y107 x1 k (mput y121 y126.ix true) (w64 (y122 + 1)))) else (M_crossbucklaw23_HistoryTimes.l1 y107 x1 k (mput y121 y126.ix true) (w64 (y122 + 1))))) else (M_crossbucklaw23_HistoryTimes.l1 y107 x1 k (mput y121 y126.ix true) (w64 (y122 + 1)))))) else none))) else (some (.inr (.inr (.inr (.inr (.inr (.inr ())))))))
def M_crossbucklaw23_HistoryTimes (x1 : List TmV) : Option (Bool) := if (60 : Int) < ((x1.length : Nat) : Int) then ((M_awake ).bind fun y103 => some y103) else ((M_to x1).bind fun y104 => (M_order y104).bind fun y107 => if ¬ (((y107.length : Nat) : Int) = ((x1.length : Nat) : Int)) then (some false) else ((M_real y104).bind fun y113 => (M_refReal x1).bind fun y114 => if ¬ (y113 = y114) then (some false) else ((M_overlap y104).bind fun y116 => (M_refOverlap x1).bind fun y117 => if ¬ (y116 = y117) then (some false) else ((M_crossbucklaw23_HistoryTimes.l1 y107 x1 fuel ([] : List (Int × Bool)) 0).bind fun y123 => Sum.elim (fun y123 => some false) (Sum.elim (fun y123 => some false) (Sum.elim (fun y123 => some false) (Sum.elim (fun y123 => some false) (Sum.elim (fun y123 => some false) (Sum.elim (fun y123 => some false) ((fun y123 => (M_awake ).bind fun y153 => some y153))))))) y123))))
set_option maxHeartbeats 1000000 in
theorem T_crossbucklaw23_HistoryTimes (a1 : Option Addr) (n2 : Nat) (c3 : Nat) (x1 : List TmV) {r : Bool} (h : M_crossbucklaw23_HistoryTimes x1 = some r) : Tri Tryz.prog 3 [.slice a1 n2 c3].toArray [RoL encM a1 n2 x1] (X := Unit) (fun _ => .bool r) (fun _ => True) (fun _ => [RoL encM a1 n2 x1]) := by
  unfold M_crossbucklaw23_HistoryTimes at h
  refine tri_intro (n := 110) (vs := [.slice a1 n2 c3]) Tryz.func3 rfl rfl rfl (fun R E => ?_)
  show Dn E 110 [] _ [(0, .slice a1 n2 c3)] [RoL encM a1 n2 x1, R]
  refine dn_seq ?_
  refine dn_reg ?_
  refine dl_t rfl rfl rfl (op_assign rfl) ?_
  refine dn_done ?_
  refine dn_then ?_
  refine dn_seq ?_
  refine dn_seq ?_
  refine dn_reg ?_
  refine dl_t rfl rfl rfl (op_move rfl) ?_
  refine dn_roN 0 rfl (fun hn101 => ?_)
  refine dl_t rfl rfl rfl (op_len rfl el_22) ?_
  refine dn_slot (u := .int .i64 ((x1.length : Nat) : Int)) 9 rfl (by rw [hn101]) ?_
  refine dl_t rfl rfl rfl (op_gtr rfl rfl) ?_
  refine dn_done ?_
  refine dn_then ?_
  refine dn_cond (p := (60 : Int) < ((x1.length : Nat) : Int)) rfl (fun hc102 => ?_) (fun hc102 => ?_)
  ·
    replace h := pos_some hc102 h
    refine dn_seq ?_
    refine dn_reg ?_
    obtain ⟨y103, hy103, h⟩ := bind_some h
    refine dl_e rfl (op_call (vs := []) cl_6 (T_awake   hy103) rfl [] (by exact rfl) rfl) ?_
    rintro ⟨⟩ -
    refine dn_normv (u := .bool y103) (Qs := [_, _]) rfl rfl ?_
    refine dl_t rfl rfl rfl (op_assign rfl) ?_
    refine dn_done ?_
    refine dn_then ?_
    refine dn_ret ?_
    refine dn_thenR ?_
    replace h := Option.some.inj h
    subst h
    exact dn_end () rfl rfl (by rfl) trivial [0, 0] (by rfl) (.inl rfl)
  ·
    replace h := neg_some hc102 h
    refine dn_skip ?_
    refine dn_then ?_
    refine dn_seq ?_
    refine dn_reg ?_
    refine dl_t rfl rfl rfl (op_move rfl) ?_
    obtain ⟨y104, hy104, h⟩ := bind_some h
    refine dl_e rfl (op_call (vs := [.slice a1 n2 c3]) cl_7 (T_to a1 n2 c3 x1 hy104) rfl [0] (by exact rfl) rfl) ?_
    rintro ⟨a105, b106⟩ -
    refine dn_normv (u := .slice a105 n2 b106) (Qs := [RoL encM a1 n2 x1, OwnS 46 17 a105 n2 b106 (flat encR y104), _]) rfl rfl ?_
    refine dl_t rfl rfl rfl (op_assign rfl) ?_
    refine dn_done ?_
    refine dn_then ?_
    refine dn_seq ?_
    refine dn_reg ?_
    refine dl_t rfl rfl rfl (op_move rfl) ?_
    obtain ⟨y107, hy107, h⟩ := bind_some h
    refine dl_e rfl (op_call (vs := [.slice a105 n2 b106]) cl_8 (T_order a105 n2 b106 y104 hy107) rfl [1] (by exact rfl) rfl) ?_
    rintro ⟨a108, b109⟩ -
    refine dn_normv (u := .slice a108 n2 b109) (Qs := [OwnS 46 17 a105 n2 b106 (flat encR y104), OwnS 46 17 a108 n2 b109 (flat encR y107), _, _]) rfl rfl ?_
    refine dl_t rfl rfl rfl (op_assign rfl) ?_
    refine dn_done ?_
    refine dn_then ?_
    refine dn_seq ?_
    refine dn_seq ?_
    refine dn_reg ?_
    refine dl_t rfl rfl rfl (op_move rfl) ?_
    refine dn_ownN encR_len rfl 1 rfl (fun hn110 => ?_)
    refine dl_t rfl rfl rfl (op_len rfl el_24) ?_
    refine dn_slot (u := .int .i64 ((y107.length : Nat) : Int)) 17 rfl (by rw [hn110]) ?_
    refine dl_t rfl rfl rfl (op_move rfl) ?_
    refine dn_roN 2 rfl (fun hn111 => ?_)
    refine dl_t rfl rfl rfl (op_len rfl el_22) ?_
    refine dn_slot (u := .int .i64 ((x1.length : Nat) : Int)) 19 rfl (by rw [hn111]) ?_
    refine dl_t rfl rfl rfl (op_neq rfl rfl) ?_
    refine dl_t rfl rfl rfl (op_move rfl) ?_
    refine dn_test (p := ¬ (((y107.length : Nat) : Int) = ((x1.length : Nat) : Int))) 21 rfl (fun hc112 => ?_) (fun hc112 => ?_)
    ·
      replace h := pos_some hc112 h
      refine dl_no rfl rfl rfl rfl (by decide) rfl rfl ?_
      refine dl_no rfl rfl rfl rfl (by decide) rfl rfl ?_
      refine dl_no rfl rfl rfl rfl (by decide) rfl rfl ?_
      refine dl_no rfl rfl rfl rfl (by decide) rfl rfl ?_
      refine dl_no rfl rfl rfl rfl (by decide) rfl rfl ?_
      refine dl_t rfl rfl rfl (op_pick (b := true) rfl rfl) ?_
      refine dl_t rfl rfl rfl (op_move rfl) ?_
      refine dl_no rfl rfl rfl rfl (by decide) rfl rfl ?_
      refine dl_no rfl rfl rfl rfl (by decide) rfl rfl ?_
      refine dl_no rfl rfl rfl rfl (by decide) rfl rfl ?_
      refine dl_no rfl rfl rfl rfl (by decide) rfl rfl ?_
      refine dl_no rfl rfl rfl rfl (by decide) rfl rfl ?_
      refine dl_t rfl rfl rfl (op_pick (b := true) rfl rfl) ?_
      refine dn_done ?_
      refine dn_then ?_
      refine dn_cond_true rfl ?_
      refine dn_seq ?_
      refine dn_reg ?_
      refine dl_t rfl rfl rfl (op_assign rfl) ?_
      refine dn_done ?_
      refine dn_then ?_
      refine dn_ret ?_
      refine dn_thenR ?_
      replace h := Option.some.inj h
      subst h
      exact dn_end () rfl rfl (by rfl) trivial [2, 2] (by rfl) (.inl rfl)
    ·
      replace h := neg_some hc112 h
      refine dl_wt rfl rfl rfl rfl rfl rfl (op_move rfl) ?_
      obtain ⟨y113, hy113, h⟩ := bind_some h
      refine dl_we rfl rfl rfl rfl (op_call (vs := [.slice a105 n2 b106]) cl_9 (T_real a105 n2 b106 y104 hy113) rfl [0] (by exact rfl) rfl) ?_
      rintro ⟨⟩ -
      refine dn_normv (u := .bool y113) (Qs := [OwnS 46 17 a105 n2 b106 (flat encR y104), _, _, _]) rfl rfl ?_
      refine dl_wt rfl rfl rfl rfl rfl rfl (op_move rfl) ?_
      obtain ⟨y114, hy114, h⟩ := bind_some h
      refine dl_we rfl rfl rfl rfl (op_call (vs := [.slice a1 n2 c3]) cl_10 (T_refReal a1 n2 c3 x1 hy114) rfl [2] (by exact rfl) rfl) ?_
      rintro ⟨⟩ -
      refine dn_normv (u := .bool y114) (Qs := [RoL encM a1 n2 x1, _, _, _]) rfl rfl ?_
      refine dl_wt rfl rfl rfl rfl rfl rfl (op_boolneq rfl rfl bo_4) ?_
      refine dl_t rfl rfl rfl (op_pick (b := false) rfl rfl) ?_
      refine dl_t rfl rfl rfl (op_move rfl) ?_
      refine dn_test (p := ¬ (y113 = y114)) 28 rfl (fun hc115 => ?_) (fun hc115 => ?_)
      ·
        replace h := pos_some hc115 h
        refine dl_no rfl rfl rfl rfl (by decide) rfl rfl ?_
        refine dl_no rfl rfl rfl rfl (by decide) rfl rfl ?_
        refine dl_no rfl rfl rfl rfl (by decide) rfl rfl ?_
        refine dl_no rfl rfl rfl rfl (by decide) rfl rfl ?_
        refine dl_no rfl rfl rfl rfl (by decide) rfl rfl ?_
        refine dl_t rfl rfl rfl (op_pick (b := true) rfl rfl) ?_
        refine dn_done ?_
        refine dn_then ?_
        refine dn_cond_true rfl ?_
        refine dn_seq ?_
        refine dn_reg ?_
        refine dl_t rfl rfl rfl (op_assign rfl) ?_
        refine dn_done ?_
        refine dn_then ?_
        refine dn_ret ?_
        refine dn_thenR ?_
        replace h := Option.some.inj h
        subst h
        exact dn_end () rfl rfl (by rfl) trivial [0, 2] (by rfl) (.inl rfl)
      ·
        replace h := neg_some hc115 h
        refine dl_wt rfl rfl rfl rfl rfl rfl (op_move rfl) ?_
        obtain ⟨y116, hy116, h⟩ := bind_some h
        refine dl_we rfl rfl rfl rfl (op_call (vs := [.slice a105 n2 b106]) cl_11 (T_overlap a105 n2 b106 y104 hy116) rfl [1] (by exact rfl) rfl) ?_
        rintro ⟨⟩ -
        refine dn_normv (u := .int .i64 y116) (Qs := [OwnS 46 17 a105 n2 b106 (flat encR y104), _, _, _]) rfl rfl ?_
        refine dl_wt rfl rfl rfl rfl rfl rfl (op_move rfl) ?_
        obtain ⟨y117, hy117, h⟩ := bind_some h
        refine dl_we rfl rfl rfl rfl (op_call (vs := [.slice a1 n2 c3]) cl_12 (T_refOverlap a1 n2 c3 x1 hy117) rfl [1] (by exact rfl) rfl) ?_
        rintro ⟨⟩ -
        refine dn_normv (u := .int .i64 y117) (Qs := [RoL encM a1 n2 x1, _, _, _]) rfl rfl ?_
        refine dl_wt rfl rfl rfl rfl rfl rfl (op_neq rfl rfl) ?_
        refine dl_t rfl rfl rfl (op_pick (b := false) rfl rfl) ?_
        refine dn_done ?_
        refine dn_then ?_
        refine dn_cond (p := ¬ (y116 = y117)) rfl (fun hc118 => ?_) (fun hc118 => ?_)
        ·
          replace h := pos_some hc118 h
          refine dn_seq ?_
          refine dn_reg ?_
          refine dl_t rfl rfl rfl (op_assign rfl) ?_
          refine dn_done ?_
          refine dn_then ?_
          refine dn_ret ?_
          refine dn_thenR ?_
          replace h := Option.some.inj h
          subst h
          exact dn_end () rfl rfl (by rfl) trivial [0, 2] (by rfl) (.inl rfl)
        ·
          replace h := neg_some hc118 h
          refine dn_skip ?_
          refine dn_then ?_
          refine dn_seq ?_
          refine dn_reg ?_
          refine dl_e rfl (op_makeMap rfl) ?_
          rintro b119 -
          refine dn_norm (Qs := [_, _, _, _, _]) rfl ?_
          refine dn_mapNew (fun v : Int => fits .i64 v) (fun v : Int => Value.int .i64 v) (fun v : Bool => Value.bool v) 0 rfl ?_
          refine dn_norm (Qs := [MapS (fun v : Int => fits .i64 v) (fun v : Int => Value.int .i64 v) (fun v : Bool => Value.bool v) b119 ([] : List (Int × Bool)), _, _, _, _]) rfl ?_
          refine dl_t rfl rfl rfl (op_assign rfl) ?_
          refine dn_done ?_
          refine dn_then ?_
          refine dn_seq ?_
          refine dn_seq ?_
          refine dn_reg ?_
          refine dl_t rfl rfl rfl (op_move rfl) ?_
          refine dn_ownN encR_len rfl 3 rfl (fun hn120 => ?_)
          refine dl_t rfl rfl rfl (op_len rfl el_24) ?_
          refine dn_slot (u := .int .i64 ((y107.length : Nat) : Int)) 37 rfl (by rw [hn120]) ?_
          refine dl_t rfl rfl rfl (op_move rfl) ?_
          refine dn_done ?_
          refine dn_then ?_
          refine dn_block ?_
          obtain ⟨y123, h1, h⟩ := bind_some h
          refine dn_loop (α := Nat × (List (Int × Bool)) × Int) (fun g => M_crossbucklaw23_HistoryTimes.l1 y107 x1 g.1 g.2.1 g.2.2 = some y123) (fun g => g.1) (fun g => [(0, .slice a1 n2 c3), (4, .slice a108 n2 b109), (5, .map (some b119)), (36, .slice a108 n2 b109), (37, .int .i64 ((y107.length : Nat) : Int)), (38, .int .i64 g.2.2)]) (fun g => [RoL encM a1 n2 x1, OwnS 46 17 a108 n2 b109 (flat encR y107), MapS (fun v : Int => fits .i64 v) (fun v : Int => Value.int .i64 v) (fun v : Bool => Value.bool v) b119 g.2.1, R]) ?_ ?_
          ·
            exact dn_meet (fuel, ([] : List (Int × Bool)), 0) h1 (Less.cons rfl (Less.cons rfl (Less.cons rfl (Less.cons rfl (Less.cons rfl (Less.cons rfl (Less.nil _))))))) [1, 2, 0, 1] (Rs := [OwnS 46 17 a105 n2 b106 (flat encR y104)]) (by kernel_rfl)
          ·
            rintro ⟨k124, y121, y122⟩ h1
            cases k124 with
            | zero => cases h1
            | succ k124 =>
              replace h1 : M_crossbucklaw23_HistoryTimes.l1 y107 x1 (k124 + 1) y121 y122 = some y123 := h1
              rw [M_crossbucklaw23_HistoryTimes.l1.eq_2] at h1
              show Dn E 110 [] _ [(0, .slice a1 n2 c3), (4, .slice a108 n2 b109), (5, .map (some b119)), (36, .slice a108 n2 b109), (37, .int .i64 ((y107.length : Nat) : Int)), (38, .int .i64 y122)] [RoL encM a1 n2 x1, OwnS 46 17 a108 n2 b109 (flat encR y107), MapS (fun v : Int => fits .i64 v) (fun v : Int => Value.int .i64 v) (fun v : Bool => Value.bool v) b119 y121, R]
              refine dn_seq ?_
              refine dn_reg ?_
              refine dl_t rfl rfl rfl (op_lss rfl rfl) ?_
              refine dn_done ?_
              refine dn_then ?_
              refine dn_seq ?_
              refine dn_cond (p := y122 < ((y107.length : Nat) : Int)) rfl (fun hc125 => ?_) (fun hc125 => ?_)
              ·
                replace h1 := pos_some hc125 h1
                refine dn_skip ?_
                refine dn_then ?_
                refine dn_seq ?_
                refine dn_block ?_
                refine dn_seq ?_
                refine dn_reg ?_
                refine dl_t rfl rfl rfl (op_move rfl) ?_
                obtain ⟨y126, hy126, h1⟩ := bind_some h1
                obtain ⟨hz126, hw126, hx126⟩ := nth_some hy126
                refine dn_ownN encR_len rfl 1 rfl (fun hn127 => ?_)
                refine dn_ownLSome 1 rfl (by omega) (fun hs128 => ?_)
                refine dl_t rfl rfl rfl (op_indexS (k := y122.toNat * 17) hs128 rfl rfl el_24 sz_46 (by omega) (by omega) rfl) ?_
                refine dl_r 1 rfl rfl rfl rfl (op_loadON (vs := [.int .i64 y126.cl, .int .i64 y126.ix, .int .i64 y126.bg, .int .i64 y126.pt, .int .i64 y126.en, y126.r0, y126.r1, y126.r2, y126.r3, y126.r4, y126.r5, y126.r6, y126.r7, y126.r8, y126.r9, y126.r10, y126.r11]) rfl ag_46 sz_46 (by omega) (flat_part encR_len hx126) rfl) ?_
                refine dl_e rfl (op_alloc (vs := [.int .i64 0, .int .i64 0, .int .i64 0, .int .i64 0, .int .i64 0, .int .i64 0, .int .u64 0, .int .u64 0, .int .u32 0, .int .u32 0, .int .u8 0, .int .u16 0, .int .u16 0, .bool false, .slice none 0 0, .int .i64 0, .int .i64 0]) zr_46 rfl rfl) ?_
                rintro b129 -
                refine dn_norm (Qs := [_, _, _, _, _]) rfl ?_
                refine dl_t rfl rfl rfl (op_assign rfl) ?_
                refine dl_s rfl (op_store (vs := [.int .i64 y126.cl, .int .i64 y126.ix, .int .i64 y126.bg, .int .i64 y126.pt, .int .i64 y126.en, y126.r0, y126.r1, y126.r2, y126.r3, y126.r4, y126.r5, y126.r6, y126.r7, y126.r8, y126.r9, y126.r10, y126.r11]) (l' := [.int .i64 y126.cl, .int .i64 y126.ix, .int .i64 y126.bg, .int .i64 y126.pt, .int .i64 y126.en, y126.r0, y126.r1, y126.r2, y126.r3, y126.r4, y126.r5, y126.r6, y126.r7, y126.r8, y126.r9, y126.r10, y126.r11]) 0 rfl rfl rfl sz_46 rfl rfl (encR_one y126) rfl rfl) ?_
                refine dn_norm (Qs := [_, _, _, _, _]) rfl ?_
                refine dn_done ?_
                refine dn_then ?_
                refine dn_seq ?_
                refine dn_seq ?_
                refine dn_any (N := 27) (l0 := #[false, false, false, false, false, false, false, false, false, false, false, false, false, false, false, false, false, false, false, false, false, false, false, false, false, false, false]) mixed (fun i => false) (fun _ => [Blk b129 (.cells [.int .i64 y126.cl, .int .i64 y126.ix, .int .i64 y126.bg, .int .i64 y126.pt, .int .i64 y126.en, y126.r0, y126.r1, y126.r2, y126.r3, y126.r4, y126.r5, y126.r6, y126.r7, y126.r8, y126.r9, y126.r10, y126.r11].toArray 46 (0, 0)), MapS (fun v : Int => fits .i64 v) (fun v : Int => Value.int .i64 v) (fun v : Bool => Value.bool v) b119 y121, RoL encM a1 n2 x1]) [0, 2, 0] rfl rfl rfl ?_
                refine ds_t (listed' := #[true, false, false, false, false, false, false, false, false, false, false, false, false, false, false, false, false, false, false, false, false, false, false, false, false, false, false]) 0 (by kernel_rfl) rfl rfl rfl rfl rfl (op_fieldAddr (i' := 1) rfl fd_46_1 rfl) ?_
                refine ds_r (listed' := #[true, true, false, false, false, false, false, false, false, false, false, false, false, false, false, false, false, false, false, false, false, false, false, false, false, false, false]) 1 (by kernel_rfl) rfl rfl rfl rfl rfl 0 rfl (op_load rfl ag_3 rfl) ?_
                refine ds_t (listed' := #[true, true, true, false, false, false, false, false, false, false, false, false, false, false, false, false, false, false, false, false, false, false, false, false, false, false, false]) 2 (by kernel_rfl) rfl rfl rfl rfl rfl (op_lss rfl rfl) ?_
                refine ds_t (listed' := #[true, true, true, true, false, false, false, false, false, false, false, false, false, false, false, false, false, false, false, false, false, false, false, false, false, false, false]) 3 (by kernel_rfl) rfl rfl rfl rfl rfl (op_move rfl) ?_
                refine ds_test (p := y126.ix < 0) 46 rfl (fun hc130 => ?_) (fun hc130 => ?_)
                ·
                  replace h1 := pos_some hc130 h1
                  refine ds_no (listed' := #[true, true, true, true, true, false, false, false, false, false, false, false, false, false, false, false, false, false, false, false, false, false, false, false, false, false, false]) 4 (by kernel_rfl) rfl rfl rfl rfl rfl rfl (by decide) rfl rfl ?_
                  refine ds_no (listed' := #[true, true, true, true, true, false, true, false, false, false, false, false, false, false, false, false, false, false, false, false, false, false, false, false, false, false, false]) 6 (by kernel_rfl) rfl rfl rfl rfl rfl rfl (by decide) rfl rfl ?_
                  refine ds_no (listed' := #[true, true, true, true, true, false, true, true, false, false, false, false, false, false, false, false, false, false, false, false, false, false, false, false, false, false, false]) 7 (by kernel_rfl) rfl rfl rfl rfl rfl rfl (by decide) rfl rfl ?_
                  refine ds_no (listed' := #[true, true, true, true, true, true, true, true, false, false, false, false, false, false, false, false, false, false, false, false, false, false, false, false, false, false, false]) 5 (by kernel_rfl) rfl rfl rfl rfl rfl rfl (by decide) rfl rfl ?_
                  refine ds_no (listed' := #[true, true, true, true, true, true, true, true, true, false, false, false, false, false, false, false, false, false, false, false, false, false, false, false, false, false, false]) 8 (by kernel_rfl) rfl rfl rfl rfl rfl rfl (by decide) rfl rfl ?_
                  refine ds_t (listed' := #[true, true, true, true, true, true, true, true, true, true, false, false, false, false, false, false, false, false, false, false, false, false, false, false, false, false, false]) 9 (by kernel_rfl) rfl rfl rfl rfl rfl (op_pick (b := true) rfl rfl) ?_
                  refine ds_t (listed' := #[true, true, true, true, true, true, true, true, true, true, true, false, false, false, false, false, false, false, false, false, false, false, false, false, false, false, false]) 10 (by kernel_rfl) rfl rfl rfl rfl rfl (op_move rfl) ?_
                  refine ds_no (listed' := #[true, true, true, true, true, true, true, true, true, true, true, true, false, false, false, false, false, false, false, false, false, false, false, false, false, false, false]) 11 (by kernel_rfl) rfl rfl rfl rfl rfl rfl (by decide) rfl rfl ?_
                  refine ds_no (listed' := #[true, true, true, true, true, true, true, true, true, true, true, true, true, false, false, false, false, false, false, false, false, false, false, false, false, false, false]) 12 (by kernel_rfl) rfl rfl rfl rfl rfl rfl (by decide) rfl rfl ?_
                  refine ds_no (listed' := #[true, true, true, true, true, true, true, true, true, true, true, true, true, true, false, false, false, false, false, false, false, false, false, false, false, false, false]) 13 (by kernel_rfl) rfl rfl rfl rfl rfl rfl (by decide) rfl rfl ?_
                  refine ds_no (listed' := #[true, true, true, true, true, true, true, true, true, true, true, true, true, true, true, false, false, false, false, false, false, false, false, false, false, false, false]) 14 (by kernel_rfl) rfl rfl rfl rfl rfl rfl (by decide) rfl rfl ?_
                  refine ds_t (listed' := #[true, true, true, true, true, true, true, true, true, true, true, true, true, true, true, true, false, false, false, false, false, false, false, false, false, false, false]) 15 (by kernel_rfl) rfl rfl rfl rfl rfl (op_pick (b := true) rfl rfl) ?_
                  refine ds_t (listed' := #[true, true, true, true, true, true, true, true, true, true, true, true, true, true, true, true, true, false, false, false, false, false, false, false, false, false, false]) 16 (by kernel_rfl) rfl rfl rfl rfl rfl (op_move rfl) ?_
                  refine ds_no (listed' := #[true, true, true, true, true, true, true, true, true, true, true, true, true, true, true, true, true, true, false, false, false, false, false, false, false, false, false]) 17 (by kernel_rfl) rfl rfl rfl rfl rfl rfl (by decide) rfl rfl ?_
                  refine ds_no (listed' := #[true, true, true, true, true, true, true, true, true, true, true, true, true, true, true, true, true, true, false, true, false, false, false, false, false, false, false]) 19 (by kernel_rfl) rfl rfl rfl rfl rfl rfl (by decide) rfl rfl ?_
                  refine ds_no (listed' := #[true, true, true, true, true, true, true, true, true, true, true, true, true, true, true, true, true, true, false, true, true, false, false, false, false, false, false]) 20 (by kernel_rfl) rfl rfl rfl rfl rfl rfl (by decide) rfl rfl ?_
                  refine ds_no (listed' := #[true, true, true, true, true, true, true, true, true, true, true, true, true, true, true, true, true, true, true, true, true, false, false, false, false, false, false]) 18 (by kernel_rfl) rfl rfl rfl rfl rfl rfl (by decide) rfl rfl ?_
                  refine ds_no (listed' := #[true, true, true, true, true, true, true, true, true, true, true, true, true, true, true, true, true, true, true, true, true, true, false, false, false, false, false]) 21 (by kernel_rfl) rfl rfl rfl rfl rfl rfl (by decide) rfl rfl ?_
                  refine ds_no (listed' := #[true, true, true, true, true, true, true, true, true, true, true, true, true, true, true, true, true, true, true, true, true, true, true, false, false, false, false]) 22 (by kernel_rfl) rfl rfl rfl rfl rfl rfl (by decide) rfl rfl ?_
                  refine ds_no (listed' := #[true, true, true, true, true, true, true, true, true, true, true, true, true, true, true, true, true, true, true, true, true, true, true, true, false, false, false]) 23 (by kernel_rfl) rfl rfl rfl rfl rfl rfl (by decide) rfl rfl ?_
                  refine ds_no (listed' := #[true, true, true, true, true, true, true, true, true, true, true, true, true, true, true, true, true, true, true, true, true, true, true, true, true, false, false]) 24 (by kernel_rfl) rfl rfl rfl rfl rfl rfl (by decide) rfl rfl ?_
                  refine ds_no (listed' := #[true, true, true, true, true, true, true, true, true, true, true, true, true, true, true, true, true, true, true, true, true, true, true, true, true, true, false]) 25 (by kernel_rfl) rfl rfl rfl rfl rfl rfl (by decide) rfl rfl ?_
                  refine ds_t (listed' := #[true, true, true, true, true, true, true, true, true, true, true, true, true, true, true, true, true, true, true, true, true, true, true, true, true, true, true]) 26 (by kernel_rfl) rfl rfl rfl rfl rfl (op_pick (b := true) rfl rfl) ?_
                  refine ds_done rfl ?_
                  refine dn_then ?_
                  refine dn_cond_true rfl ?_
                  refine dn_seq ?_
                  refine dn_reg ?_
                  refine dl_t rfl rfl rfl (op_assign rfl) ?_
                  refine dn_done ?_
                  refine dn_then ?_
                  refine dn_ret ?_
                  refine dn_thenR ?_
                  refine dn_inBR ?_
                  refine dn_thenR ?_
                  refine dn_thenR ?_
                  replace h1 := Option.some.inj h1
                  subst h1
                  replace h := elim_l h
                  try dsimp only at h
                  refine dn_inBR ?_
                  refine dn_thenR ?_
                  replace h := Option.some.inj h
                  subst h
                  exact dn_end () rfl rfl (by rfl) trivial [1, 3] (by rfl) (.inl rfl)
                ·
                  replace h1 := neg_some hc130 h1
                  refine ds_wt (listed' := #[true, true, true, true, true, false, false, false, false, false, false, false, false, false, false, false, false, false, false, false, false, false, false, false, false, false, false]) 4 (by kernel_rfl) rfl rfl rfl rfl rfl rfl rfl rfl (op_fieldAddr (i' := 1) rfl fd_46_1 rfl) ?_
                  refine ds_wt (listed' := #[true, true, true, true, true, false, true, false, false, false, false, false, false, false, false, false, false, false, false, false, false, false, false, false, false, false, false]) 6 (by kernel_rfl) rfl rfl rfl rfl rfl rfl rfl rfl (op_move rfl) ?_
                  refine ds_of ?_
                  refine dn_roN 1 rfl (fun hn131 => ?_)
                  refine of_ds ?_
                  refine ds_wt (listed' := #[true, true, true, true, true, false, true, true, false, false, false, false, false, false, false, false, false, false, false, false, false, false, false, false, false, false, false]) 7 (by kernel_rfl) rfl rfl rfl rfl rfl rfl rfl rfl (op_len rfl el_22) ?_
                  refine ds_of ?_
                  refine dn_slot (u := .int .i64 ((x1.length : Nat) : Int)) 50 rfl (by rw [hn131]) ?_
                  refine of_ds ?_
                  refine ds_wr (listed' := #[true, true, true, true, true, true, true, true, false, false, false, false, false, false, false, false, false, false, false, false, false, false, false, false, false, false, false]) 5 (by kernel_rfl) rfl rfl rfl rfl rfl rfl rfl rfl 0 rfl (op_load rfl ag_3 rfl) ?_
                  refine ds_wt (listed' := #[true, true, true, true, true, true, true, true, true, false, false, false, false, false, false, false, false, false, false, false, false, false, false, false, false, false, false]) 8 (by kernel_rfl) rfl rfl rfl rfl rfl rfl rfl rfl (op_geq rfl rfl) ?_
                  refine ds_t (listed' := #[true, true, true, true, true, true, true, true, true, true, false, false, false, false, false, false, false, false, false, false, false, false, false, false, false, false, false]) 9 (by kernel_rfl) rfl rfl rfl rfl rfl (op_pick (b := false) rfl rfl) ?_
                  refine ds_t (listed' := #[true, true, true, true, true, true, true, true, true, true, true, false, false, false, false, false, false, false, false, false, false, false, false, false, false, false, false]) 10 (by kernel_rfl) rfl rfl rfl rfl rfl (op_move rfl) ?_
                  refine ds_test (p := ((x1.length : Nat) : Int) ≤ y126.ix) 53 rfl (fun hc132 => ?_) (fun hc132 => ?_)
                  ·
                    replace h1 := pos_some hc132 h1
                    refine ds_no (listed' := #[true, true, true, true, true, true, true, true, true, true, true, true, false, false, false, false, false, false, false, false, false, false, false, false, false, false, false]) 11 (by kernel_rfl) rfl rfl rfl rfl rfl rfl (by decide) rfl rfl ?_
                    refine ds_no (listed' := #[true, true, true, true, true, true, true, true, true, true, true, true, true, false, false, false, false, false, false, false, false, false, false, false, false, false, false]) 12 (by kernel_rfl) rfl rfl rfl rfl rfl rfl (by decide) rfl rfl ?_
                    refine ds_no (listed' := #[true, true, true, true, true, true, true, true, true, true, true, true, true, true, false, false, false, false, false, false, false, false, false, false, false, false, false]) 13 (by kernel_rfl) rfl rfl rfl rfl rfl rfl (by decide) rfl rfl ?_
                    refine ds_no (listed' := #[true, true, true, true, true, true, true, true, true, true, true, true, true, true, true, false, false, false, false, false, false, false, false, false, false, false, false]) 14 (by kernel_rfl) rfl rfl rfl rfl rfl rfl (by decide) rfl rfl ?_
                    refine ds_t (listed' := #[true, true, true, true, true, true, true, true, true, true, true, true, true, true, true, true, false, false, false, false, false, false, false, false, false, false, false]) 15 (by kernel_rfl) rfl rfl rfl rfl rfl (op_pick (b := true) rfl rfl) ?_
                    refine ds_t (listed' := #[true, true, true, true, true, true, true, true, true, true, true, true, true, true, true, true, true, false, false, false, false, false, false, false, false, false, false]) 16 (by kernel_rfl) rfl rfl rfl rfl rfl (op_move rfl) ?_
                    refine ds_no (listed' := #[true, true, true, true, true, true, true, true, true, true, true, true, true, true, true, true, true, true, false, false, false, false, false, false, false, false, false]) 17 (by kernel_rfl) rfl rfl rfl rfl rfl rfl (by decide) rfl rfl ?_
                    refine ds_no (listed' := #[true, true, true, true, true, true, true, true, true, true, true, true, true, true, true, true, true, true, false, true, false, false, false, false, false, false, false]) 19 (by kernel_rfl) rfl rfl rfl rfl rfl rfl (by decide) rfl rfl ?_
                    refine ds_no (listed' := #[true, true, true, true, true, true, true, true, true, true, true, true, true, true, true, true, true, true, false, true, true, false, false, false, false, false, false]) 20 (by kernel_rfl) rfl rfl rfl rfl rfl rfl (by decide) rfl rfl ?_
                    refine ds_no (listed' := #[true, true, true, true, true, true, true, true, true, true, true, true, true, true, true, true, true, true, true, true, true, false, false, false, false, false, false]) 18 (by kernel_rfl) rfl rfl rfl rfl rfl rfl (by decide) rfl rfl ?_
                    refine ds_no (listed' := #[true, true, true, true, true, true, true, true, true, true, true, true, true, true, true, true, true, true, true, true, true, true, false, false, false, false, false]) 21 (by kernel_rfl) rfl rfl rfl rfl rfl rfl (by decide) rfl rfl ?_
                    refine ds_no (listed' := #[true, true, true, true, true, true, true, true, true, true, true, true, true, true, true, true, true, true, true, true, true, true, true, false, false, false, false]) 22 (by kernel_rfl) rfl rfl rfl rfl rfl rfl (by decide) rfl rfl ?_
                    refine ds_no (listed' := #[true, true, true, true, true, true, true, true, true, true, true, true, true, true, true, true, true, true, true, true, true, true, true, true, false, false, false]) 23 (by kernel_rfl) rfl rfl rfl rfl rfl rfl (by decide) rfl rfl ?_
                    refine ds_no (listed' := #[true, true, true, true, true, true, true, true, true, true, true, true, true, true, true, true, true, true, true, true, true, true, true, true, true, false, false]) 24 (by kernel_rfl) rfl rfl rfl rfl rfl rfl (by decide) rfl rfl ?_
                    refine ds_no (listed' := #[true, true, true, true, true, true, true, true, true, true, true, true, true, true, true, true, true, true, true, true, true, true, true, true, true, true, false]) 25 (by kernel_rfl) rfl rfl rfl rfl rfl rfl (by decide) rfl rfl ?_
                    refine ds_t (listed' := #[true, true, true, true, true, true, true, true, true, true, true, true, true, true, true, true, true, true, true, true, true, true, true, true, true, true, true]) 26 (by kernel_rfl) rfl rfl rfl rfl rfl (op_pick (b := true) rfl rfl) ?_
                    refine ds_done rfl ?_
                    refine dn_then ?_
                    refine dn_cond_true rfl ?_
                    refine dn_seq ?_
                    refine dn_reg ?_
                    refine dl_t rfl rfl rfl (op_assign rfl) ?_
                    refine dn_done ?_
                    refine dn_then ?_
                    refine dn_ret ?_
                    refine dn_thenR ?_
                    refine dn_inBR ?_
                    refine dn_thenR ?_
                    refine dn_thenR ?_
                    replace h1 := Option.some.inj h1
                    subst h1
                    replace h := elim_r h
                    replace h := elim_l h
                    try dsimp only at h
                    refine dn_inBR ?_
                    refine dn_thenR ?_
                    replace h := Option.some.inj h
                    subst h
                    exact dn_end () rfl rfl (by rfl) trivial [1, 3] (by rfl) (.inl rfl)
                  ·
                    replace h1 := neg_some hc132 h1
                    refine ds_wt (listed' := #[true, true, true, true, true, true, true, true, true, true, true, true, false, false, false, false, false, false, false, false, false, false, false, false, false, false, false]) 11 (by kernel_rfl) rfl rfl rfl rfl rfl rfl rfl rfl (op_move rfl) ?_
                    refine ds_wt (listed' := #[true, true, true, true, true, true, true, true, true, true, true, true, true, false, false, false, false, false, false, false, false, false, false, false, false, false, false]) 12 (by kernel_rfl) rfl rfl rfl rfl rfl rfl rfl rfl (op_fieldAddr (i' := 1) rfl fd_46_1 rfl) ?_
                    refine ds_wr (listed' := #[true, true, true, true, true, true, true, true, true, true, true, true, true, true, false, false, false, false, false, false, false, false, false, false, false, false, false]) 13 (by kernel_rfl) rfl rfl rfl rfl rfl rfl rfl rfl 0 rfl (op_load rfl ag_3 rfl) ?_
                    obtain ⟨hf133, h1⟩ := guard_some h1
                    refine ds_wr (listed' := #[true, true, true, true, true, true, true, true, true, true, true, true, true, true, true, false, false, false, false, false, false, false, false, false, false, false, false]) 14 (by kernel_rfl) rfl rfl rfl rfl rfl rfl rfl rfl 1 rfl (op_lookupv (κ := Int) (ν := Bool) (k := y126.ix) (u := .bool ((mget y121 y126.ix).getD false)) key_3 mp_31 zr_4 rfl rfl hf133 (mget_map (ev := (fun v : Bool => Value.bool v)) (mget y121 y126.ix) false)) ?_
                    refine ds_t (listed' := #[true, true, true, true, true, true, true, true, true, true, true, true, true, true, true, true, false, false, false, false, false, false, false, false, false, false, false]) 15 (by kernel_rfl) rfl rfl rfl rfl rfl (op_pick (b := false) rfl rfl) ?_
                    refine ds_t (listed' := #[true, true, true, true, true, true, true, true, true, true, true, true, true, true, true, true, true, false, false, false, false, false, false, false, false, false, false]) 16 (by kernel_rfl) rfl rfl rfl rfl rfl (op_move rfl) ?_
                    refine ds_of ?_
                    refine dn_slot (u := .bool (decide (((mget y121 y126.ix).getD false) = true))) 59 rfl (bdec _) ?_
                    refine of_ds ?_
                    refine ds_test (p := ((mget y121 y126.ix).getD false) = true) 59 rfl (fun hc134 => ?_) (fun hc134 => ?_)
                    ·
                      replace h1 := pos_some hc134 h1
                      refine ds_no (listed' := #[true, true, true, true, true, true, true, true, true, true, true, true, true, true, true, true, true, true, false, false, false, false, false, false, false, false, false]) 17 (by kernel_rfl) rfl rfl rfl rfl rfl rfl (by decide) rfl rfl ?_
                      refine ds_no (listed' := #[true, true, true, true, true, true, true, true, true, true, true, true, true, true, true, true, true, true, false, true, false, false, false, false, false, false, false]) 19 (by kernel_rfl) rfl rfl rfl rfl rfl rfl (by decide) rfl rfl ?_
                      refine ds_no (listed' := #[true, true, true, true, true, true, true, true, true, true, true, true, true, true, true, true, true, true, false, true, true, false, false, false, false, false, false]) 20 (by kernel_rfl) rfl rfl rfl rfl rfl rfl (by decide) rfl rfl ?_
                      refine ds_no (listed' := #[true, true, true, true, true, true, true, true, true, true, true, true, true, true, true, true, true, true, true, true, true, false, false, false, false, false, false]) 18 (by kernel_rfl) rfl rfl rfl rfl rfl rfl (by decide) rfl rfl ?_
                      refine ds_no (listed' := #[true, true, true, true, true, true, true, true, true, true, true, true, true, true, true, true, true, true, true, true, true, true, false, false, false, false, false]) 21 (by kernel_rfl) rfl rfl rfl rfl rfl rfl (by decide) rfl rfl ?_
                      refine ds_no (listed' := #[true, true, true, true, true, true, true, true, true, true, true, true, true, true, true, true, true, true, true, true, true, true, true, false, false, false, false]) 22 (by kernel_rfl) rfl rfl rfl rfl rfl rfl (by decide) rfl rfl ?_
                      refine ds_no (listed' := #[true, true, true, true, true, true, true, true, true, true, true, true, true, true, true, true, true, true, true, true, true, true, true, true, false, false, false]) 23 (by kernel_rfl) rfl rfl rfl rfl rfl rfl (by decide) rfl rfl ?_
                      refine ds_no (listed' := #[true, true, true, true, true, true, true, true, true, true, true, true, true, true, true, true, true, true, true, true, true, true, true, true, true, false, false]) 24 (by kernel_rfl) rfl rfl rfl rfl rfl rfl (by decide) rfl rfl ?_
                      refine ds_no (listed' := #[true, true, true, true, true, true, true, true, true, true, true, true, true, true, true, true, true, true, true, true, true, true, true, true, true, true, false]) 25 (by kernel_rfl) rfl rfl rfl rfl rfl rfl (by decide) rfl rfl ?_
                      refine ds_t (listed' := #[true, true, true, true, true, true, true, true, true, true, true, true, true, true, true, true, true, true, true, true, true, true, true, true, true, true, true]) 26 (by kernel_rfl) rfl rfl rfl rfl rfl (op_pick (b := true) rfl rfl) ?_
                      refine ds_done rfl ?_
                      refine dn_then ?_
                      refine dn_cond_true rfl ?_
                      refine dn_seq ?_
                      refine dn_reg ?_
                      refine dl_t rfl rfl rfl (op_assign rfl) ?_
                      refine dn_done ?_
                      refine dn_then ?_
                      refine dn_ret ?_
                      refine dn_thenR ?_
                      refine dn_inBR ?_
                      refine dn_thenR ?_
                      refine dn_thenR ?_
                      replace h1 := Option.some.inj h1
                      subst h1
                      replace h := elim_r h
                      replace h := elim_r h
                      replace h := elim_l h
                      try dsimp only at h
                      refine dn_inBR ?_
                      refine dn_thenR ?_
                      replace h := Option.some.inj h
                      subst h
                      exact dn_end () rfl rfl (by rfl) trivial [1, 3] (by rfl) (.inl rfl)
                    ·
                      replace h1 := neg_some hc134 h1
                      refine ds_wt (listed' := #[true, true, true, true, true, true, true, true, true, true, true, true, true, true, true, true, true, true, false, false, false, false, false, false, false, false, false]) 17 (by kernel_rfl) rfl rfl rfl rfl rfl rfl rfl rfl (op_fieldAddr (i' := 3) rfl fd_46_3 rfl) ?_
                      refine ds_wt (listed' := #[true, true, true, true, true, true, true, true, true, true, true, true, true, true, true, true, true, true, false, true, false, false, false, false, false, false, false]) 19 (by kernel_rfl) rfl rfl rfl rfl rfl rfl rfl rfl (op_move rfl) ?_
                      refine ds_wt (listed' := #[true, true, true, true, true, true, true, true, true, true, true, true, true, true, true, true, true, true, false, true, true, false, false, false, false, false, false]) 20 (by kernel_rfl) rfl rfl rfl rfl rfl rfl rfl rfl (op_fieldAddr (i' := 1) rfl fd_46_1 rfl) ?_
                      refine ds_wr (listed' := #[true, true, true, true, true, true, true, true, true, true, true, true, true, true, true, true, true, true, true, true, true, false, false, false, false, false, false]) 18 (by kernel_rfl) rfl rfl rfl rfl rfl rfl rfl rfl 0 rfl (op_load rfl ag_3 rfl) ?_
                      refine ds_wr (listed' := #[true, true, true, true, true, true, true, true, true, true, true, true, true, true, true, true, true, true, true, true, true, true, false, false, false, false, false]) 21 (by kernel_rfl) rfl rfl rfl rfl rfl rfl rfl rfl 0 rfl (op_load rfl ag_3 rfl) ?_
                      obtain ⟨y135, hy135, h1⟩ := bind_some h1
                      obtain ⟨hz135, hw135, hx135⟩ := nth_some hy135
                      refine ds_of ?_
                      refine dn_roN 1 rfl (fun hn136 => ?_)
                      refine of_ds ?_
                      refine ds_of ?_
                      refine dn_roLSome encM_len rfl 1 rfl (by omega) (fun hs137 => ?_)
                      refine of_ds ?_
                      refine ds_wt (listed' := #[true, true, true, true, true, true, true, true, true, true, true, true, true, true, true, true, true, true, true, true, true, true, true, false, false, false, false]) 22 (by kernel_rfl) rfl rfl rfl rfl rfl rfl rfl rfl (op_indexS (k := y126.ix.toNat * 3) hs137 rfl rfl el_22 sz_48 (by omega) (by omega) rfl) ?_
                      refine ds_wt (listed' := #[true, true, true, true, true, true, true, true, true, true, true, true, true, true, true, true, true, true, true, true, true, true, true, true, false, false, false]) 23 (by kernel_rfl) rfl rfl rfl rfl rfl rfl rfl rfl (op_fieldS (k' := y126.ix.toNat * 3 + 1) hs137 rfl fd_48_1 (by first | rfl | omega)) ?_
                      refine ds_wr (listed' := #[true, true, true, true, true, true, true, true, true, true, true, true, true, true, true, true, true, true, true, true, true, true, true, true, true, false, false]) 24 (by kernel_rfl) rfl rfl rfl rfl rfl rfl rfl rfl 2 rfl (op_loadL (v := .int .i64 y135.pt) rfl ag_3 (flat_cell (j := 1) encM_len hx135 rfl (by first | rfl | omega))) ?_
                      refine ds_wt (listed' := #[true, true, true, true, true, true, true, true, true, true, true, true, true, true, true, true, true, true, true, true, true, true, true, true, true, true, false]) 25 (by kernel_rfl) rfl rfl rfl rfl rfl rfl rfl rfl (op_neq rfl rfl) ?_
                      refine ds_t (listed' := #[true, true, true, true, true, true, true, true, true, true, true, true, true, true, true, true, true, true, true, true, true, true, true, true, true, true, true]) 26 (by kernel_rfl) rfl rfl rfl rfl rfl (op_pick (b := false) rfl rfl) ?_
                      refine ds_done rfl ?_
                      refine dn_then ?_
                      refine dn_cond (p := ¬ (y126.pt = y135.pt)) rfl (fun hc138 => ?_) (fun hc138 => ?_)
                      ·
                        replace h1 := pos_some hc138 h1
                        refine dn_seq ?_
                        refine dn_reg ?_
                        refine dl_t rfl rfl rfl (op_assign rfl) ?_
                        refine dn_done ?_
                        refine dn_then ?_
                        refine dn_ret ?_
                        refine dn_thenR ?_
                        refine dn_inBR ?_
                        refine dn_thenR ?_
                        refine dn_thenR ?_
                        replace h1 := Option.some.inj h1
                        subst h1
                        replace h := elim_r h
                        replace h := elim_r h
                        replace h := elim_r h
                        replace h := elim_l h
                        try dsimp only at h
                        refine dn_inBR ?_
                        refine dn_thenR ?_
                        replace h := Option.some.inj h
                        subst h
                        exact dn_end () rfl rfl (by rfl) trivial [1, 3] (by rfl) (.inl rfl)
                      ·
                        replace h1 := neg_some hc138 h1
                        refine dn_skip ?_
                        refine dn_then ?_
                        refine dn_seq ?_
                        refine dn_reg ?_
                        refine dl_t rfl rfl rfl (op_move rfl) ?_
                        refine dl_t rfl rfl rfl (op_fieldAddr (i' := 1) rfl fd_46_1 rfl) ?_
                        refine dl_r 0 rfl rfl rfl rfl (op_load rfl ag_3 rfl) ?_
                        refine dl_s rfl (op_mapUpdate (k := y126.ix) (v := true) key_3 mp_31 [3] rfl rfl rfl rfl rfl hf133) ?_
                        refine dn_norm (Qs := [_, _, _, _, _]) rfl ?_
                        refine dn_done ?_
                        refine dn_then ?_
                        refine dn_seq ?_
                        refine dn_any (N := 35) (l0 := #[false, false, false, false, false, false, false, false, false, false, false, false, false, false, false, false, false, false, false, false, false, false, false, false, false, false, false, false, false, false, false, false, false, false, false]) mixed (fun i => false) (fun _ => [OwnS 46 17 a108 n2 b109 (flat encR y107), Blk b129 (.cells [.int .i64 y126.cl, .int .i64 y126.ix, .int .i64 y126.bg, .int .i64 y126.pt, .int .i64 y126.en, y126.r0, y126.r1, y126.r2, y126.r3, y126.r4, y126.r5, y126.r6, y126.r7, y126.r8, y126.r9, y126.r10, y126.r11].toArray 46 (0, 0))]) [3, 1] rfl rfl rfl ?_
                        refine ds_t (listed' := #[true, false, false, false, false, false, false, false, false, false, false, false, false, false, false, false, false, false, false, false, false, false, false, false, false, false, false, false, false, false, false, false, false, false, false]) 0 (by kernel_rfl) rfl rfl rfl rfl rfl (op_move rfl) ?_
                        refine ds_t (listed' := #[true, true, false, false, false, false, false, false, false, false, false, false, false, false, false, false, false, false, false, false, false, false, false, false, false, false, false, false, false, false, false, false, false, false, false]) 1 (by kernel_rfl) rfl rfl rfl rfl rfl (op_gtr rfl rfl) ?_
                        refine ds_t (listed' := #[true, true, true, false, false, false, false, false, false, false, false, false, false, false, false, false, false, false, false, false, false, false, false, false, false, false, false, false, false, false, false, false, false, false, false]) 2 (by kernel_rfl) rfl rfl rfl rfl rfl (op_move rfl) ?_
                        refine ds_test (p := (0 : Int) < y122) 75 rfl (fun hc140 => ?_) (fun hc140 => ?_)
                        ·
                          replace h1 := pos_some hc140 h1
                          refine ds_wt (listed' := #[true, true, true, true, false, false, false, false, false, false, false, false, false, false, false, false, false, false, false, false, false, false, false, false, false, false, false, false, false, false, false, false, false, false, false]) 3 (by kernel_rfl) rfl rfl rfl rfl rfl rfl rfl rfl (op_move rfl) ?_
                          refine ds_wt (listed' := #[true, true, true, true, true, false, false, false, false, false, false, false, false, false, false, false, false, false, false, false, false, false, false, false, false, false, false, false, false, false, false, false, false, false, false]) 4 (by kernel_rfl) rfl rfl rfl rfl rfl rfl rfl rfl (op_move rfl) ?_
                          refine ds_wt (listed' := #[true, true, true, true, true, true, false, false, false, false, false, false, false, false, false, false, false, false, false, false, false, false, false, false, false, false, false, false, false, false, false, false, false, false, false]) 5 (by kernel_rfl) rfl rfl rfl rfl rfl rfl rfl rfl (op_sub (z := w64 (y122 - 1)) rfl rfl rfl) ?_
                          obtain ⟨y141, hy141, h1⟩ := bind_some h1
                          obtain ⟨hz141, hw141, hx141⟩ := nth_some hy141
                          refine ds_of ?_
                          refine dn_ownN encR_len rfl 3 rfl (fun hn142 => ?_)
                          refine of_ds ?_
                          refine ds_of ?_
                          refine dn_ownLSome 3 rfl (by omega) (fun hs143 => ?_)
                          refine of_ds ?_
                          refine ds_wt (listed' := #[true, true, true, true, true, true, true, false, false, false, false, false, false, false, false, false, false, false, false, false, false, false, false, false, false, false, false, false, false, false, false, false, false, false, false]) 6 (by kernel_rfl) rfl rfl rfl rfl rfl rfl rfl rfl (op_indexS (k := (w64 (y122 - 1)).toNat * 17) hs143 rfl rfl el_24 sz_46 (by omega) (by omega) rfl) ?_
                          refine ds_wt (listed' := #[true, true, true, true, true, true, true, true, false, false, false, false, false, false, false, false, false, false, false, false, false, false, false, false, false, false, false, false, false, false, false, false, false, false, false]) 7 (by kernel_rfl) rfl rfl rfl rfl rfl rfl rfl rfl (op_fieldS (k' := (w64 (y122 - 1)).toNat * 17 + 3) hs143 rfl fd_46_3 (by first | rfl | omega)) ?_
                          refine ds_wt (listed' := #[true, true, true, true, true, true, true, true, false, true, false, false, false, false, false, false, false, false, false, false, false, false, false, false, false, false, false, false, false, false, false, false, false, false, false]) 9 (by kernel_rfl) rfl rfl rfl rfl rfl rfl rfl rfl (op_fieldAddr (i' := 3) rfl fd_46_3 rfl) ?_
                          refine ds_wr (listed' := #[true, true, true, true, true, true, true, true, true, true, false, false, false, false, false, false, false, false, false, false, false, false, false, false, false, false, false, false, false, false, false, false, false, false, false]) 8 (by kernel_rfl) rfl rfl rfl rfl rfl rfl rfl rfl 0 rfl (op_loadO (v := .int .i64 y141.pt) rfl ag_3 (by omega) (flat_cell (j := 3) encR_len hx141 rfl (by first | rfl | omega))) ?_
                          refine ds_wr (listed' := #[true, true, true, true, true, true, true, true, true, true, true, false, false, false, false, false, false, false, false, false, false, false, false, false, false, false, false, false, false, false, false, false, false, false, false]) 10 (by kernel_rfl) rfl rfl rfl rfl rfl rfl rfl rfl 1 rfl (op_load rfl ag_3 rfl) ?_
                          refine ds_wt (listed' := #[true, true, true, true, true, true, true, true, true, true, true, true, false, false, false, false, false, false, false, false, false, false, false, false, false, false, false, false, false, false, false, false, false, false, false]) 11 (by kernel_rfl) rfl rfl rfl rfl rfl rfl rfl rfl (op_gtr rfl rfl) ?_
                          refine ds_wt (listed' := #[true, true, true, true, true, true, true, true, true, true, true, true, true, false, false, false, false, false, false, false, false, false, false, false, false, false, false, false, false, false, false, false, false, false, false]) 12 (by kernel_rfl) rfl rfl rfl rfl rfl rfl rfl rfl (op_move rfl) ?_
                          refine ds_test (p := y126.pt < y141.pt) 85 rfl (fun hc144 => ?_) (fun hc144 => ?_)
                          ·
                            replace h1 := pos_some hc144 h1
                            refine ds_no (listed' := #[true, true, true, true, true, true, true, true, true, true, true, true, true, true, false, false, false, false, false, false, false, false, false, false, false, false, false, false, false, false, false, false, false, false, false]) 13 (by kernel_rfl) rfl rfl rfl rfl rfl rfl (by decide) rfl rfl ?_
                            refine ds_no (listed' := #[true, true, true, true, true, true, true, true, true, true, true, true, true, true, true, false, false, false, false, false, false, false, false, false, false, false, false, false, false, false, false, false, false, false, false]) 14 (by kernel_rfl) rfl rfl rfl rfl rfl rfl (by decide) rfl rfl ?_
                            refine ds_no (listed' := #[true, true, true, true, true, true, true, true, true, true, true, true, true, true, true, true, false, false, false, false, false, false, false, false, false, false, false, false, false, false, false, false, false, false, false]) 15 (by kernel_rfl) rfl rfl rfl rfl rfl rfl (by decide) rfl rfl ?_
                            refine ds_no (listed' := #[true, true, true, true, true, true, true, true, true, true, true, true, true, true, true, true, true, false, false, false, false, false, false, false, false, false, false, false, false, false, false, false, false, false, false]) 16 (by kernel_rfl) rfl rfl rfl rfl rfl rfl (by decide) rfl rfl ?_
                            refine ds_no (listed' := #[true, true, true, true, true, true, true, true, true, true, true, true, true, true, true, true, true, true, false, false, false, false, false, false, false, false, false, false, false, false, false, false, false, false, false]) 17 (by kernel_rfl) rfl rfl rfl rfl rfl rfl (by decide) rfl rfl ?_
                            refine ds_no (listed' := #[true, true, true, true, true, true, true, true, true, true, true, true, true, true, true, true, true, true, false, true, false, false, false, false, false, false, false, false, false, false, false, false, false, false, false]) 19 (by kernel_rfl) rfl rfl rfl rfl rfl rfl (by decide) rfl rfl ?_
                            refine ds_no (listed' := #[true, true, true, true, true, true, true, true, true, true, true, true, true, true, true, true, true, true, true, true, false, false, false, false, false, false, false, false, false, false, false, false, false, false, false]) 18 (by kernel_rfl) rfl rfl rfl rfl rfl rfl (by decide) rfl rfl ?_
                            refine ds_no (listed' := #[true, true, true, true, true, true, true, true, true, true, true, true, true, true, true, true, true, true, true, true, true, false, false, false, false, false, false, false, false, false, false, false, false, false, false]) 20 (by kernel_rfl) rfl rfl rfl rfl rfl rfl (by decide) rfl rfl ?_
                            refine ds_no (listed' := #[true, true, true, true, true, true, true, true, true, true, true, true, true, true, true, true, true, true, true, true, true, true, false, false, false, false, false, false, false, false, false, false, false, false, false]) 21 (by kernel_rfl) rfl rfl rfl rfl rfl rfl (by decide) rfl rfl ?_
                            refine ds_no (listed' := #[true, true, true, true, true, true, true, true, true, true, true, true, true, true, true, true, true, true, true, true, true, true, true, false, false, false, false, false, false, false, false, false, false, false, false]) 22 (by kernel_rfl) rfl rfl rfl rfl rfl rfl (by decide) rfl rfl ?_
                            refine ds_nou (listed' := #[true, true, true, true, true, true, true, true, true, true, true, true, true, true, true, true, true, true, true, true, true, true, true, true, false, false, false, false, false, false, false, false, false, false, false]) 23 (by kernel_rfl) rfl rfl rfl rfl rfl rfl rfl rfl ?_
                            refine ds_nou (listed' := #[true, true, true, true, true, true, true, true, true, true, true, true, true, true, true, true, true, true, true, true, true, true, true, true, true, false, false, false, false, false, false, false, false, false, false]) 24 (by kernel_rfl) rfl rfl rfl rfl rfl rfl rfl rfl ?_
                            refine ds_nou (listed' := #[true, true, true, true, true, true, true, true, true, true, true, true, true, true, true, true, true, true, true, true, true, true, true, true, true, true, false, false, false, false, false, false, false, false, false]) 25 (by kernel_rfl) rfl rfl rfl rfl rfl rfl rfl rfl ?_
                            refine ds_nou (listed' := #[true, true, true, true, true, true, true, true, true, true, true, true, true, true, true, true, true, true, true, true, true, true, true, true, true, true, true, false, false, false, false, false, false, false, false]) 26 (by kernel_rfl) rfl rfl rfl rfl rfl rfl rfl rfl ?_
                            refine ds_nou (listed' := #[true, true, true, true, true, true, true, true, true, true, true, true, true, true, true, true, true, true, true, true, true, true, true, true, true, true, true, true, false, false, false, false, false, false, false]) 27 (by kernel_rfl) rfl rfl rfl rfl rfl rfl rfl rfl ?_
                            refine ds_nou (listed' := #[true, true, true, true, true, true, true, true, true, true, true, true, true, true, true, true, true, true, true, true, true, true, true, true, true, true, true, true, false, true, false, false, false, false, false]) 29 (by kernel_rfl) rfl rfl rfl rfl rfl rfl rfl rfl ?_
                            refine ds_nou (listed' := #[true, true, true, true, true, true, true, true, true, true, true, true, true, true, true, true, true, true, true, true, true, true, true, true, true, true, true, true, true, true, false, false, false, false, false]) 28 (by kernel_rfl) rfl rfl rfl rfl rfl rfl rfl rfl ?_
                            refine ds_nou (listed' := #[true, true, true, true, true, true, true, true, true, true, true, true, true, true, true, true, true, true, true, true, true, true, true, true, true, true, true, true, true, true, true, false, false, false, false]) 30 (by kernel_rfl) rfl rfl rfl rfl rfl rfl rfl rfl ?_
                            refine ds_nou (listed' := #[true, true, true, true, true, true, true, true, true, true, true, true, true, true, true, true, true, true, true, true, true, true, true, true, true, true, true, true, true, true, true, true, false, false, false]) 31 (by kernel_rfl) rfl rfl rfl rfl rfl rfl rfl rfl ?_
                            refine ds_no (listed' := #[true, true, true, true, true, true, true, true, true, true, true, true, true, true, true, true, true, true, true, true, true, true, true, true, true, true, true, true, true, true, true, true, true, false, false]) 32 (by kernel_rfl) rfl rfl rfl rfl rfl rfl (by decide) rfl rfl ?_
                            refine ds_wt (listed' := #[true, true, true, true, true, true, true, true, true, true, true, true, true, true, true, true, true, true, true, true, true, true, true, true, true, true, true, true, true, true, true, true, true, true, false]) 33 (by kernel_rfl) rfl rfl rfl rfl rfl rfl rfl rfl (op_pick (b := true) rfl rfl) ?_
                            refine ds_t (listed' := #[true, true, true, true, true, true, true, true, true, true, true, true, true, true, true, true, true, true, true, true, true, true, true, true, true, true, true, true, true, true, true, true, true, true, true]) 34 (by kernel_rfl) rfl rfl rfl rfl rfl (op_pick (b := true) rfl rfl) ?_
                            refine ds_done rfl ?_
                            refine dn_then ?_
                            refine dn_cond_true rfl ?_
                            refine dn_seq ?_
                            refine dn_reg ?_
                            refine dl_t rfl rfl rfl (op_assign rfl) ?_
                            refine dn_done ?_
                            refine dn_then ?_
                            refine dn_ret ?_
                            refine dn_inBR ?_
                            refine dn_thenR ?_
                            refine dn_thenR ?_
                            replace h1 := Option.some.inj h1
                            subst h1
                            replace h := elim_r h
                            replace h := elim_r h
                            replace h := elim_r h
                            replace h := elim_r h
                            replace h := elim_l h
                            try dsimp only at h
                            refine dn_inBR ?_
                            refine dn_thenR ?_
                            replace h := Option.some.inj h
                            subst h
                            exact dn_end () rfl rfl (by rfl) trivial [2, 3] (by rfl) (.inl rfl)
                          ·
                            replace h1 := neg_some hc144 h1
                            refine ds_wt (listed' := #[true, true, true, true, true, true, true, true, true, true, true, true, true, true, false, false, false, false, false, false, false, false, false, false, false, false, false, false, false, false, false, false, false, false, false]) 13 (by kernel_rfl) rfl rfl rfl rfl rfl rfl rfl rfl (op_move rfl) ?_
                            refine ds_wt (listed' := #[true, true, true, true, true, true, true, true, true, true, true, true, true, true, true, false, false, false, false, false, false, false, false, false, false, false, false, false, false, false, false, false, false, false, false]) 14 (by kernel_rfl) rfl rfl rfl rfl rfl rfl rfl rfl (op_move rfl) ?_
                            refine ds_wt (listed' := #[true, true, true, true, true, true, true, true, true, true, true, true, true, true, true, true, false, false, false, false, false, false, false, false, false, false, false, false, false, false, false, false, false, false, false]) 15 (by kernel_rfl) rfl rfl rfl rfl rfl rfl rfl rfl (op_sub (z := w64 (y122 - 1)) rfl rfl rfl) ?_
                            obtain ⟨y145, hy145, h1⟩ := bind_some h1
                            obtain ⟨hz145, hw145, hx145⟩ := nth_some hy145
                            refine ds_of ?_
                            refine dn_ownN encR_len rfl 3 rfl (fun hn146 => ?_)
                            refine of_ds ?_
                            refine ds_of ?_
                            refine dn_ownLSome 3 rfl (by omega) (fun hs147 => ?_)
                            refine of_ds ?_
                            refine ds_wt (listed' := #[true, true, true, true, true, true, true, true, true, true, true, true, true, true, true, true, true, false, false, false, false, false, false, false, false, false, false, false, false, false, false, false, false, false, false]) 16 (by kernel_rfl) rfl rfl rfl rfl rfl rfl rfl rfl (op_indexS (k := (w64 (y122 - 1)).toNat * 17) hs147 rfl rfl el_24 sz_46 (by omega) (by omega) rfl) ?_
                            refine ds_wt (listed' := #[true, true, true, true, true, true, true, true, true, true, true, true, true, true, true, true, true, true, false, false, false, false, false, false, false, false, false, false, false, false, false, false, false, false, false]) 17 (by kernel_rfl) rfl rfl rfl rfl rfl rfl rfl rfl (op_fieldS (k' := (w64 (y122 - 1)).toNat * 17 + 3) hs147 rfl fd_46_3 (by first | rfl | omega)) ?_
                            refine ds_wt (listed' := #[true, true, true, true, true, true, true, true, true, true, true, true, true, true, true, true, true, true, false, true, false, false, false, false, false, false, false, false, false, false, false, false, false, false, false]) 19 (by kernel_rfl) rfl rfl rfl rfl rfl rfl rfl rfl (op_fieldAddr (i' := 3) rfl fd_46_3 rfl) ?_
                            refine ds_wr (listed' := #[true, true, true, true, true, true, true, true, true, true, true, true, true, true, true, true, true, true, true, true, false, false, false, false, false, false, false, false, false, false, false, false, false, false, false]) 18 (by kernel_rfl) rfl rfl rfl rfl rfl rfl rfl rfl 0 rfl (op_loadO (v := .int .i64 y145.pt) rfl ag_3 (by omega) (flat_cell (j := 3) encR_len hx145 rfl (by first | rfl | omega))) ?_
                            refine ds_wr (listed' := #[true, true, true, true, true, true, true, true, true, true, true, true, true, true, true, true, true, true, true, true, true, false, false, false, false, false, false, false, false, false, false, false, false, false, false]) 20 (by kernel_rfl) rfl rfl rfl rfl rfl rfl rfl rfl 1 rfl (op_load rfl ag_3 rfl) ?_
                            refine ds_wt (listed' := #[true, true, true, true, true, true, true, true, true, true, true, true, true, true, true, true, true, true, true, true, true, true, false, false, false, false, false, false, false, false, false, false, false, false, false]) 21 (by kernel_rfl) rfl rfl rfl rfl rfl rfl rfl rfl (op_eql rfl rfl) ?_
                            refine ds_wt (listed' := #[true, true, true, true, true, true, true, true, true, true, true, true, true, true, true, true, true, true, true, true, true, true, true, false, false, false, false, false, false, false, false, false, false, false, false]) 22 (by kernel_rfl) rfl rfl rfl rfl rfl rfl rfl rfl (op_move rfl) ?_
                            refine ds_test (p := y145.pt = y126.pt) 95 rfl (fun hc148 => ?_) (fun hc148 => ?_)
                            ·
                              replace h1 := pos_some hc148 h1
                              refine ds_wt (listed' := #[true, true, true, true, true, true, true, true, true, true, true, true, true, true, true, true, true, true, true, true, true, true, true, true, false, false, false, false, false, false, false, false, false, false, false]) 23 (by kernel_rfl) rfl rfl rfl rfl rfl rfl rfl rfl (op_move rfl) ?_
                              refine ds_wt (listed' := #[true, true, true, true, true, true, true, true, true, true, true, true, true, true, true, true, true, true, true, true, true, true, true, true, true, false, false, false, false, false, false, false, false, false, false]) 24 (by kernel_rfl) rfl rfl rfl rfl rfl rfl rfl rfl (op_move rfl) ?_
                              refine ds_wt (listed' := #[true, true, true, true, true, true, true, true, true, true, true, true, true, true, true, true, true, true, true, true, true, true, true, true, true, true, false, false, false, false, false, false, false, false, false]) 25 (by kernel_rfl) rfl rfl rfl rfl rfl rfl rfl rfl (op_sub (z := w64 (y122 - 1)) rfl rfl rfl) ?_
                              obtain ⟨y149, hy149, h1⟩ := bind_some h1
                              obtain ⟨hz149, hw149, hx149⟩ := nth_some hy149
                              refine ds_of ?_
                              refine dn_ownN encR_len rfl 3 rfl (fun hn150 => ?_)
                              refine of_ds ?_
                              refine ds_of ?_
                              refine dn_ownLSome 3 rfl (by omega) (fun hs151 => ?_)
                              refine of_ds ?_
                              refine ds_wt (listed' := #[true, true, true, true, true, true, true, true, true, true, true, true, true, true, true, true, true, true, true, true, true, true, true, true, true, true, true, false, false, false, false, false, false, false, false]) 26 (by kernel_rfl) rfl rfl rfl rfl rfl rfl rfl rfl (op_indexS (k := (w64 (y122 - 1)).toNat * 17) hs151 rfl rfl el_24 sz_46 (by omega) (by omega) rfl) ?_
                              refine ds_wt (listed' := #[true, true, true, true, true, true, true, true, true, true, true, true, true, true, true, true, true, true, true, true, true, true, true, true, true, true, true, true, false, false, false, false, false, false, false]) 27 (by kernel_rfl) rfl rfl rfl rfl rfl rfl rfl rfl (op_fieldS (k' := (w64 (y122 - 1)).toNat * 17 + 1) hs151 rfl fd_46_1 (by first | rfl | omega)) ?_
                              refine ds_wt (listed' := #[true, true, true, true, true, true, true, true, true, true, true, true, true, true, true, true, true, true, true, true, true, true, true, true, true, true, true, true, false, true, false, false, false, false, false]) 29 (by kernel_rfl) rfl rfl rfl rfl rfl rfl rfl rfl (op_fieldAddr (i' := 1) rfl fd_46_1 rfl) ?_
                              refine ds_wr (listed' := #[true, true, true, true, true, true, true, true, true, true, true, true, true, true, true, true, true, true, true, true, true, true, true, true, true, true, true, true, true, true, false, false, false, false, false]) 28 (by kernel_rfl) rfl rfl rfl rfl rfl rfl rfl rfl 0 rfl (op_loadO (v := .int .i64 y149.ix) rfl ag_3 (by omega) (flat_cell (j := 1) encR_len hx149 rfl (by first | rfl | omega))) ?_
                              refine ds_wr (listed' := #[true, true, true, true, true, true, true, true, true, true, true, true, true, true, true, true, true, true, true, true, true, true, true, true, true, true, true, true, true, true, true, false, false, false, false]) 30 (by kernel_rfl) rfl rfl rfl rfl rfl rfl rfl rfl 1 rfl (op_load rfl ag_3 rfl) ?_
                              refine ds_wt (listed' := #[true, true, true, true, true, true, true, true, true, true, true, true, true, true, true, true, true, true, true, true, true, true, true, true, true, true, true, true, true, true, true, true, false, false, false]) 31 (by kernel_rfl) rfl rfl rfl rfl rfl rfl rfl rfl (op_gtr rfl rfl) ?_
                              refine ds_wt (listed' := #[true, true, true, true, true, true, true, true, true, true, true, true, true, true, true, true, true, true, true, true, true, true, true, true, true, true, true, true, true, true, true, true, true, false, false]) 32 (by kernel_rfl) rfl rfl rfl rfl rfl rfl rfl rfl (op_pick (b := true) rfl rfl) ?_
                              refine ds_wt (listed' := #[true, true, true, true, true, true, true, true, true, true, true, true, true, true, true, true, true, true, true, true, true, true, true, true, true, true, true, true, true, true, true, true, true, true, false]) 33 (by kernel_rfl) rfl rfl rfl rfl rfl rfl rfl rfl (op_pick (b := false) rfl rfl) ?_
                              refine ds_t (listed' := #[true, true, true, true, true, true, true, true, true, true, true, true, true, true, true, true, true, true, true, true, true, true, true, true, true, true, true, true, true, true, true, true, true, true, true]) 34 (by kernel_rfl) rfl rfl rfl rfl rfl (op_pick (b := true) rfl rfl) ?_
                              refine ds_done rfl ?_
                              refine dn_then ?_
                              refine dn_cond (p := y126.ix < y149.ix) rfl (fun hc152 => ?_) (fun hc152 => ?_)
                              ·
                                replace h1 := pos_some hc152 h1
                                refine dn_seq ?_
                                refine dn_reg ?_
                                refine dl_t rfl rfl rfl (op_assign rfl) ?_
                                refine dn_done ?_
                                refine dn_then ?_
                                refine dn_ret ?_
                                refine dn_inBR ?_
                                refine dn_thenR ?_
                                refine dn_thenR ?_
                                replace h1 := Option.some.inj h1
                                subst h1
                                replace h := elim_r h
                                replace h := elim_r h
                                replace h := elim_r h
                                replace h := elim_r h
                                replace h := elim_r h
                                replace h := elim_l h
                                try dsimp only at h
                                refine dn_inBR ?_
                                refine dn_thenR ?_
                                replace h := Option.some.inj h
                                subst h
                                exact dn_end () rfl rfl (by rfl) trivial [2, 3] (by rfl) (.inl rfl)
                              ·
                                replace h1 := neg_some hc152 h1
                                refine dn_skip ?_
                                refine dn_inB ?_
                                refine dn_then ?_
                                refine dn_reg ?_
                                refine dl_t rfl rfl rfl (op_add (z := w64 (y122 + 1)) rfl rfl rfl) ?_
                                refine dl_t rfl rfl rfl (op_move rfl) ?_
                                refine dn_done ?_
                                refine dn_then ?_
                                exact dn_meet (k124, mput y121 y126.ix true, w64 (y122 + 1)) ⟨Nat.lt_succ_self _, h1⟩ (Less.cons rfl (Less.cons rfl (Less.cons rfl (Less.cons rfl (Less.cons rfl (Less.cons rfl (Less.nil _))))))) [2, 2, 0, 1] (Rs := [Blk b129 (.cells [.int .i64 y126.cl, .int .i64 y126.ix, .int .i64 y126.bg, .int .i64 y126.pt, .int .i64 y126.en, y126.r0, y126.r1, y126.r2, y126.r3, y126.r4, y126.r5, y126.r6, y126.r7, y126.r8, y126.r9, y126.r10, y126.r11].toArray 46 (0, 0))]) (by kernel_rfl)
                            ·
                              replace h1 := neg_some hc148 h1
                              refine ds_no (listed' := #[true, true, true, true, true, true, true, true, true, true, true, true, true, true, true, true, true, true, true, true, true, true, true, true, false, false, false, false, false, false, false, false, false, false, false]) 23 (by kernel_rfl) rfl rfl rfl rfl rfl rfl (by decide) rfl rfl ?_
                              refine ds_no (listed' := #[true, true, true, true, true, true, true, true, true, true, true, true, true, true, true, true, true, true, true, true, true, true, true, true, true, false, false, false, false, false, false, false, false, false, false]) 24 (by kernel_rfl) rfl rfl rfl rfl rfl rfl (by decide) rfl rfl ?_
                              refine ds_no (listed' := #[true, true, true, true, true, true, true, true, true, true, true, true, true, true, true, true, true, true, true, true, true, true, true, true, true, true, false, false, false, false, false, false, false, false, false]) 25 (by kernel_rfl) rfl rfl rfl rfl rfl rfl (by decide) rfl rfl ?_
                              refine ds_no (listed' := #[true, true, true, true, true, true, true, true, true, true, true, true, true, true, true, true, true, true, true, true, true, true, true, true, true, true, true, false, false, false, false, false, false, false, false]) 26 (by kernel_rfl) rfl rfl rfl rfl rfl rfl (by decide) rfl rfl ?_
                              refine ds_no (listed' := #[true, true, true, true, true, true, true, true, true, true, true, true, true, true, true, true, true, true, true, true, true, true, true, true, true, true, true, true, false, false, false, false, false, false, false]) 27 (by kernel_rfl) rfl rfl rfl rfl rfl rfl (by decide) rfl rfl ?_
                              refine ds_no (listed' := #[true, true, true, true, true, true, true, true, true, true, true, true, true, true, true, true, true, true, true, true, true, true, true, true, true, true, true, true, false, true, false, false, false, false, false]) 29 (by kernel_rfl) rfl rfl rfl rfl rfl rfl (by decide) rfl rfl ?_
                              refine ds_no (listed' := #[true, true, true, true, true, true, true, true, true, true, true, true, true, true, true, true, true, true, true, true, true, true, true, true, true, true, true, true, true, true, false, false, false, false, false]) 28 (by kernel_rfl) rfl rfl rfl rfl rfl rfl (by decide) rfl rfl ?_
                              refine ds_no (listed' := #[true, true, true, true, true, true, true, true, true, true, true, true, true, true, true, true, true, true, true, true, true, true, true, true, true, true, true, true, true, true, true, false, false, false, false]) 30 (by kernel_rfl) rfl rfl rfl rfl rfl rfl (by decide) rfl rfl ?_
                              refine ds_no (listed' := #[true, true, true, true, true, true, true, true, true, true, true, true, true, true, true, true, true, true, true, true, true, true, true, true, true, true, true, true, true, true, true, true, false, false, false]) 31 (by kernel_rfl) rfl rfl rfl rfl rfl rfl (by decide) rfl rfl ?_
                              refine ds_wt (listed' := #[true, true, true, true, true, true, true, true, true, true, true, true, true, true, true, true, true, true, true, true, true, true, true, true, true, true, true, true, true, true, true, true, true, false, false]) 32 (by kernel_rfl) rfl rfl rfl rfl rfl rfl rfl rfl (op_pick (b := false) rfl rfl) ?_
                              refine ds_wt (listed' := #[true, true, true, true, true, true, true, true, true, true, true, true, true, true, true, true, true, true, true, true, true, true, true, true, true, true, true, true, true, true, true, true, true, true, false]) 33 (by kernel_rfl) rfl rfl rfl rfl rfl rfl rfl rfl (op_pick (b := false) rfl rfl) ?_
                              refine ds_t (listed' := #[true, true, true, true, true, true, true, true, true, true, true, true, true, true, true, true, true, true, true, true, true, true, true, true, true, true, true, true, true, true, true, true, true, true, true]) 34 (by kernel_rfl) rfl rfl rfl rfl rfl (op_pick (b := true) rfl rfl) ?_
                              refine ds_done rfl ?_
                              refine dn_then ?_
                              refine dn_cond_false rfl ?_
                              refine dn_skip ?_
                              refine dn_inB ?_
                              refine dn_then ?_
                              refine dn_reg ?_
                              refine dl_t rfl rfl rfl (op_add (z := w64 (y122 + 1)) rfl rfl rfl) ?_
                              refine dl_t rfl rfl rfl (op_move rfl) ?_
                              refine dn_done ?_
                              refine dn_then ?_
                              exact dn_meet (k124, mput y121 y126.ix true, w64 (y122 + 1)) ⟨Nat.lt_succ_self _, h1⟩ (Less.cons rfl (Less.cons rfl (Less.cons rfl (Less.cons rfl (Less.cons rfl (Less.cons rfl (Less.nil _))))))) [2, 2, 0, 1] (Rs := [Blk b129 (.cells [.int .i64 y126.cl, .int .i64 y126.ix, .int .i64 y126.bg, .int .i64 y126.pt, .int .i64 y126.en, y126.r0, y126.r1, y126.r2, y126.r3, y126.r4, y126.r5, y126.r6, y126.r7, y126.r8, y126.r9, y126.r10, y126.r11].toArray 46 (0, 0))]) (by kernel_rfl)
                        ·
                          replace h1 := neg_some hc140 h1
                          refine ds_no (listed' := #[true, true, true, true, false, false, false, false, false, false, false, false, false, false, false, false, false, false, false, false, false, false, false, false, false, false, false, false, false, false, false, false, false, false, false]) 3 (by kernel_rfl) rfl rfl rfl rfl rfl rfl (by decide) rfl rfl ?_
                          refine ds_no (listed' := #[true, true, true, true, true, false, false, false, false, false, false, false, false, false, false, false, false, false, false, false, false, false, false, false, false, false, false, false, false, false, false, false, false, false, false]) 4 (by kernel_rfl) rfl rfl rfl rfl rfl rfl (by decide) rfl rfl ?_
                          refine ds_no (listed' := #[true, true, true, true, true, true, false, false, false, false, false, false, false, false, false, false, false, false, false, false, false, false, false, false, false, false, false, false, false, false, false, false, false, false, false]) 5 (by kernel_rfl) rfl rfl rfl rfl rfl rfl (by decide) rfl rfl ?_
                          refine ds_no (listed' := #[true, true, true, true, true, true, true, false, false, false, false, false, false, false, false, false, false, false, false, false, false, false, false, false, false, false, false, false, false, false, false, false, false, false, false]) 6 (by kernel_rfl) rfl rfl rfl rfl rfl rfl (by decide) rfl rfl ?_
                          refine ds_no (listed' := #[true, true, true, true, true, true, true, true, false, false, false, false, false, false, false, false, false, false, false, false, false, false, false, false, false, false, false, false, false, false, false, false, false, false, false]) 7 (by kernel_rfl) rfl rfl rfl rfl rfl rfl (by decide) rfl rfl ?_
                          refine ds_no (listed' := #[true, true, true, true, true, true, true, true, false, true, false, false, false, false, false, false, false, false, false, false, false, false, false, false, false, false, false, false, false, false, false, false, false, false, false]) 9 (by kernel_rfl) rfl rfl rfl rfl rfl rfl (by decide) rfl rfl ?_
                          refine ds_no (listed' := #[true, true, true, true, true, true, true, true, true, true, false, false, false, false, false, false, false, false, false, false, false, false, false, false, false, false, false, false, false, false, false, false, false, false, false]) 8 (by kernel_rfl) rfl rfl rfl rfl rfl rfl (by decide) rfl rfl ?_
                          refine ds_no (listed' := #[true, true, true, true, true, true, true, true, true, true, true, false, false, false, false, false, false, false, false, false, false, false, false, false, false, false, false, false, false, false, false, false, false, false, false]) 10 (by kernel_rfl) rfl rfl rfl rfl rfl rfl (by decide) rfl rfl ?_
                          refine ds_no (listed' := #[true, true, true, true, true, true, true, true, true, true, true, true, false, false, false, false, false, false, false, false, false, false, false, false, false, false, false, false, false, false, false, false, false, false, false]) 11 (by kernel_rfl) rfl rfl rfl rfl rfl rfl (by decide) rfl rfl ?_
                          refine ds_no (listed' := #[true, true, true, true, true, true, true, true, true, true, true, true, true, false, false, false, false, false, false, false, false, false, false, false, false, false, false, false, false, false, false, false, false, false, false]) 12 (by kernel_rfl) rfl rfl rfl rfl rfl rfl (by decide) rfl rfl ?_
                          refine ds_nou (listed' := #[true, true, true, true, true, true, true, true, true, true, true, true, true, true, false, false, false, false, false, false, false, false, false, false, false, false, false, false, false, false, false, false, false, false, false]) 13 (by kernel_rfl) rfl rfl rfl rfl rfl rfl rfl rfl ?_
                          refine ds_nou (listed' := #[true, true, true, true, true, true, true, true, true, true, true, true, true, true, true, false, false, false, false, false, false, false, false, false, false, false, false, false, false, false, false, false, false, false, false]) 14 (by kernel_rfl) rfl rfl rfl rfl rfl rfl rfl rfl ?_
                          refine ds_nou (listed' := #[true, true, true, true, true, true, true, true, true, true, true, true, true, true, true, true, false, false, false, false, false, false, false, false, false, false, false, false, false, false, false, false, false, false, false]) 15 (by kernel_rfl) rfl rfl rfl rfl rfl rfl rfl rfl ?_
                          refine ds_nou (listed' := #[true, true, true, true, true, true, true, true, true, true, true, true, true, true, true, true, true, false, false, false, false, false, false, false, false, false, false, false, false, false, false, false, false, false, false]) 16 (by kernel_rfl) rfl rfl rfl rfl rfl rfl rfl rfl ?_
                          refine ds_nou (listed' := #[true, true, true, true, true, true, true, true, true, true, true, true, true, true, true, true, true, true, false, false, false, false, false, false, false, false, false, false, false, false, false, false, false, false, false]) 17 (by kernel_rfl) rfl rfl rfl rfl rfl rfl rfl rfl ?_
                          refine ds_nou (listed' := #[true, true, true, true, true, true, true, true, true, true, true, true, true, true, true, true, true, true, false, true, false, false, false, false, false, false, false, false, false, false, false, false, false, false, false]) 19 (by kernel_rfl) rfl rfl rfl rfl rfl rfl rfl rfl ?_
                          refine ds_nou (listed' := #[true, true, true, true, true, true, true, true, true, true, true, true, true, true, true, true, true, true, true, true, false, false, false, false, false, false, false, false, false, false, false, false, false, false, false]) 18 (by kernel_rfl) rfl rfl rfl rfl rfl rfl rfl rfl ?_
                          refine ds_nou (listed' := #[true, true, true, true, true, true, true, true, true, true, true, true, true, true, true, true, true, true, true, true, true, false, false, false, false, false, false, false, false, false, false, false, false, false, false]) 20 (by kernel_rfl) rfl rfl rfl rfl rfl rfl rfl rfl ?_
                          refine ds_nou (listed' := #[true, true, true, true, true, true, true, true, true, true, true, true, true, true, true, true, true, true, true, true, true, true, false, false, false, false, false, false, false, false, false, false, false, false, false]) 21 (by kernel_rfl) rfl rfl rfl rfl rfl rfl rfl rfl ?_
                          refine ds_nou (listed' := #[true, true, true, true, true, true, true, true, true, true, true, true, true, true, true, true, true, true, true, true, true, true, true, false, false, false, false, false, false, false, false, false, false, false, false]) 22 (by kernel_rfl) rfl rfl rfl rfl rfl rfl rfl rfl ?_
                          refine ds_nou (listed' := #[true, true, true, true, true, true, true, true, true, true, true, true, true, true, true, true, true, true, true, true, true, true, true, true, false, false, false, false, false, false, false, false, false, false, false]) 23 (by kernel_rfl) rfl rfl rfl rfl rfl rfl rfl rfl ?_
                          refine ds_nou (listed' := #[true, true, true, true, true, true, true, true, true, true, true, true, true, true, true, true, true, true, true, true, true, true, true, true, true, false, false, false, false, false, false, false, false, false, false]) 24 (by kernel_rfl) rfl rfl rfl rfl rfl rfl rfl rfl ?_
                          refine ds_nou (listed' := #[true, true, true, true, true, true, true, true, true, true, true, true, true, true, true, true, true, true, true, true, true, true, true, true, true, true, false, false, false, false, false, false, false, false, false]) 25 (by kernel_rfl) rfl rfl rfl rfl rfl rfl rfl rfl ?_
                          refine ds_nou (listed' := #[true, true, true, true, true, true, true, true, true, true, true, true, true, true, true, true, true, true, true, true, true, true, true, true, true, true, true, false, false, false, false, false, false, false, false]) 26 (by kernel_rfl) rfl rfl rfl rfl rfl rfl rfl rfl ?_
                          refine ds_nou (listed' := #[true, true, true, true, true, true, true, true, true, true, true, true, true, true, true, true, true, true, true, true, true, true, true, true, true, true, true, true, false, false, false, false, false, false, false]) 27 (by kernel_rfl) rfl rfl rfl rfl rfl rfl rfl rfl ?_
                          refine ds_nou (listed' := #[true, true, true, true, true, true, true, true, true, true, true, true, true, true, true, true, true, true, true, true, true, true, true, true, true, true, true, true, false, true, false, false, false, false, false]) 29 (by kernel_rfl) rfl rfl rfl rfl rfl rfl rfl rfl ?_
                          refine ds_nou (listed' := #[true, true, true, true, true, true, true, true, true, true, true, true, true, true, true, true, true, true, true, true, true, true, true, true, true, true, true, true, true, true, false, false, false, false, false]) 28 (by kernel_rfl) rfl rfl rfl rfl rfl rfl rfl rfl ?_
                          refine ds_nou (listed' := #[true, true, true, true, true, true, true, true, true, true, true, true, true, true, true, true, true, true, true, true, true, true, true, true, true, true, true, true, true, true, true, false, false, false, false]) 30 (by kernel_rfl) rfl rfl rfl rfl rfl rfl rfl rfl ?_
                          refine ds_nou (listed' := #[true, true, true, true, true, true, true, true, true, true, true, true, true, true, true, true, true, true, true, true, true, true, true, true, true, true, true, true, true, true, true, true, false, false, false]) 31 (by kernel_rfl) rfl rfl rfl rfl rfl rfl rfl rfl ?_
                          refine ds_nou (listed' := #[true, true, true, true, true, true, true, true, true, true, true, true, true, true, true, true, true, true, true, true, true, true, true, true, true, true, true, true, true, true, true, true, true, false, false]) 32 (by kernel_rfl) rfl rfl rfl rfl rfl rfl rfl rfl ?_
                          refine ds_no (listed' := #[true, true, true, true, true, true, true, true, true, true, true, true, true, true, true, true, true, true, true, true, true, true, true, true, true, true, true, true, true, true, true, true, true, true, false]) 33 (by kernel_rfl) rfl rfl rfl rfl rfl rfl (by decide) rfl rfl ?_
                          refine ds_t (listed' := #[true, true, true, true, true, true, true, true, true, true, true, true, true, true, true, true, true, true, true, true, true, true, true, true, true, true, true, true, true, true, true, true, true, true, true]) 34 (by kernel_rfl) rfl rfl rfl rfl rfl (op_pick (b := false) rfl rfl) ?_
                          refine ds_done rfl ?_
                          refine dn_then ?_
                          refine dn_cond_false rfl ?_
                          refine dn_skip ?_
                          refine dn_inB ?_
                          refine dn_then ?_
                          refine dn_reg ?_
                          refine dl_t rfl rfl rfl (op_add (z := w64 (y122 + 1)) rfl rfl rfl) ?_
                          refine dl_t rfl rfl rfl (op_move rfl) ?_
                          refine dn_done ?_
                          refine dn_then ?_
                          exact dn_meet (k124, mput y121 y126.ix true, w64 (y122 + 1)) ⟨Nat.lt_succ_self _, h1⟩ (Less.cons rfl (Less.cons rfl (Less.cons rfl (Less.cons rfl (Less.cons rfl (Less.cons rfl (Less.nil _))))))) [2, 2, 0, 1] (Rs := [Blk b129 (.cells [.int .i64 y126.cl, .int .i64 y126.ix, .int .i64 y126.bg, .int .i64 y126.pt, .int .i64 y126.en, y126.r0, y126.r1, y126.r2, y126.r3, y126.r4, y126.r5, y126.r6, y126.r7, y126.r8, y126.r9, y126.r10, y126.r11].toArray 46 (0, 0))]) (by kernel_rfl)
              ·
                replace h1 := neg_some hc125 h1
                refine dn_exit ?_
                refine dn_thenX ?_
                refine dn_thenX ?_
                replace h1 := Option.some.inj h1
                subst h1
                replace h := elim_r h
                replace h := elim_r h
                replace h := elim_r h
                replace h := elim_r h
                replace h := elim_r h
                replace h := elim_r h
                try dsimp only at h
                refine dn_inBX ?_
                refine dn_then ?_
                refine dn_seq ?_
                refine dn_reg ?_
                obtain ⟨y153, hy153, h⟩ := bind_some h
                refine dl_e rfl (op_call (vs := []) cl_6 (T_awake   hy153) rfl [] (by exact rfl) rfl) ?_
                rintro ⟨⟩ -
                refine dn_normv (u := .bool y153) (Qs := [_, _, _, _]) rfl rfl ?_
                refine dl_t rfl rfl rfl (op_assign rfl) ?_
                refine dn_done ?_
                refine dn_then ?_
                refine dn_ret ?_
                replace h := Option.some.inj h
                subst h
                exact dn_end () rfl rfl (by rfl) trivial [0, 2] (by rfl) (.inl rfl)
def M_crossbucklaw23_HistoryOrders.l3 (y105 : List RecV) (y140 : List RecV) (y143 : List RecV) : Nat → Int → Option (Unit ⊕ Unit ⊕ Unit)
  | 0, _ => none
  | k + 1, y153 => if y153 < ((y105.length : Nat) : Int) then ((nth y140 y153).bind fun y157 => if ¬ (y157.ix = y153) then (some (.inl ())) else ((nth y143 y153).bind fun y161 => if ¬ (y161.ix = y153) then (some (.inr (.inl ()))) else (M_crossbucklaw23_HistoryOrders.l3 y105 y140 y143 k (w64 (y153 + 1))))) else (some (.inr (.inr ())))
def M_crossbucklaw23_HistoryOrders.l2 (y105 : List RecV) : Nat → (List RecV) → Int → Option ((List RecV))
  | 0, _, _ => none
  | k + 1, y123, y124 => if y124 < ((y105.length : Nat) : Int) then ((nth y105 (w64 ((w64 (((y105.length : Nat) : Int) - 1)) - y124))).bind fun y132 => if y123.length + 1 ≤ appMax then (M_crossbucklaw23_HistoryOrders.l2 y105 k (y123 ++ [y132]) (w64 (y124 + 1))) else none) else (some y123)
def M_crossbucklaw23_HistoryOrders.l1 (x1 : List Int) : Nat → (List RecV) → Int → Int → Option ((List RecV))
  | 0, _, _, _ => none
  | k + 1, y105, y106, y107 => if y107 < ((x1.length : Nat) : Int) then ((nth x1 y107).bind fun y114 => if y105.length + 1 ≤ appMax then (M_crossbucklaw23_HistoryOrders.l1 x1 k (y105 ++ [(⟨0, y107, y106, w64 (y106 + (w64 (y114.tmod 3))), w64 (y106 + 2), .int .i64 0, .int .u64 0, .int .u64 0, .int .u32 0, .int .u32 0, .int .u8 0, .int .u16 0, .int .u16 0, .bool false, .slice none 0 0, .int .i64 0, .int .i64 0, rfl⟩ : RecV)]) (w64 (y106 + (w64 (3 + (w64 (y114.tmod 4)))))) (w64 (y107 + 1))) else none) else (some y105)
def M_crossbucklaw23_HistoryOrders (x1 : List Int) : Option (Bool) := if (40 : Int) < ((x1.length : Nat) : Int) then ((M_awake ).bind fun y103 => some y103) else ((M_crossbucklaw23_HistoryOrders.l1 x1 fuel ([] : List RecV) 0 0).bind fun y111 => (M_crossbucklaw23_HistoryOrders.l2 y111 fuel ([] : List RecV) 0).bind fun y128 => (M_order y128).bind fun y140 => (M_order y140).bind fun y143 => if ¬ (((y140.length : Nat) : Int) = ((y111.length : Nat) : Int)) then (some false) else (if ¬ (((y143.length : Nat) : Int) = ((y111.length : Nat) : Int)) then (some false) else ((M_crossbucklaw23_HistoryOrders.l3 y111 y140 y143 fuel 0).bind fun y154 => Sum.elim (fun y154 => some false) (Sum.elim (fun y154 => some false) ((fun y154 => (M_awake ).bind fun y165 => if y165 = true then ((M_real y111).bind fun y167 => if y167 = true then ((M_real y128).bind fun y169 => if y169 = (decide (((y111.length : Nat) : Int) < 2)) then ((M_overlap y111).bind fun y172 => some (decide (y172 = (iMin ((y111.length : Nat) : Int) 1)))) else (some false)) else (some false)) else (some false)))) y154)))
set_option maxHeartbeats 1000000 in
theorem T_crossbucklaw23_HistoryOrders (a1 : Option Addr) (n2 : Nat) (c3 : Nat) (x1 : List Int) {r : Bool} (h : M_crossbucklaw23_HistoryOrders x1 = some r) : Tri Tryz.prog 5 [.slice a1 n2 c3].toArray [RoL (encI .u8) a1 n2 x1] (X := Unit) (fun _ => .bool r) (fun _ => True) (fun _ => [RoL (encI .u8) a1 n2 x1]) := by
  unfold M_crossbucklaw23_HistoryOrders at h
  refine tri_intro (n := 119) (vs := [.slice a1 n2 c3]) Tryz.func5 rfl rfl rfl (fun R E => ?_)
  show Dn E 119 [] _ [(0, .slice a1 n2 c3)] [RoL (encI .u8) a1 n2 x1, R]
  refine dn_seq ?_
  refine dn_reg ?_
  refine dl_t rfl rfl rfl (op_assign rfl) ?_
  refine dn_done ?_
  refine dn_then ?_
  refine dn_seq ?_
  refine dn_seq ?_
  refine dn_reg ?_
  refine dl_t rfl rfl rfl (op_move rfl) ?_
  refine dn_roN 0 rfl (fun hn101 => ?_)
  refine dl_t rfl rfl rfl (op_len rfl el_59) ?_
  refine dn_slot (u := .int .i64 ((x1.length : Nat) : Int)) 13 rfl (by rw [hn101]) ?_
  refine dl_t rfl rfl rfl (op_gtr rfl rfl) ?_
  refine dn_done ?_
  refine dn_then ?_
  refine dn_cond (p := (40 : Int) < ((x1.length : Nat) : Int)) rfl (fun hc102 => ?_) (fun hc102 => ?_)
  ·
    replace h := pos_some hc102 h
    refine dn_seq ?_
    refine dn_reg ?_
    obtain ⟨y103, hy103, h⟩ := bind_some h
    refine dl_e rfl (op_call (vs := []) cl_6 (T_awake   hy103) rfl [] (by exact rfl) rfl) ?_
    rintro ⟨⟩ -
    refine dn_normv (u := .bool y103) (Qs := [_, _]) rfl rfl ?_
    refine dl_t rfl rfl rfl (op_assign rfl) ?_
    refine dn_done ?_
    refine dn_then ?_
    refine dn_ret ?_
    refine dn_thenR ?_
    replace h := Option.some.inj h
    subst h
    exact dn_end () rfl rfl (by rfl) trivial [0, 0] (by rfl) (.inl rfl)
  ·
    replace h := neg_some hc102 h
    refine dn_skip ?_
    refine dn_then ?_
    refine dn_seq ?_
    refine dn_reg ?_
    refine dl_t rfl rfl rfl (op_assign rfl) ?_
    refine dn_done ?_
    refine dn_then ?_
    refine dn_seq ?_
    refine dn_reg ?_
    refine dl_t rfl rfl rfl (op_assign rfl) ?_
    refine dn_done ?_
    refine dn_then ?_
    refine dn_seq ?_
    refine dn_seq ?_
    refine dn_reg ?_
    refine dl_t rfl rfl rfl (op_move rfl) ?_
    refine dn_roN 0 rfl (fun hn104 => ?_)
    refine dl_t rfl rfl rfl (op_len rfl el_59) ?_
    refine dn_slot (u := .int .i64 ((x1.length : Nat) : Int)) 17 rfl (by rw [hn104]) ?_
    refine dl_t rfl rfl rfl (op_move rfl) ?_
    refine dn_done ?_
    refine dn_then ?_
    refine dn_block ?_
    refine dn_ownNil 46 17 ?_
    refine dn_norm (Qs := [OwnS 46 17 none 0 0 (flat encR ([] : List RecV)), _, _]) rfl ?_
    obtain ⟨y111, h1, h⟩ := bind_some h
    refine dn_loop (α := Nat × List RecV × Int × Int × Option Addr × Nat × Nat) (fun g => M_crossbucklaw23_HistoryOrders.l1 x1 g.1 g.2.1 g.2.2.1 g.2.2.2.1 = some y111) (fun g => g.1) (fun g => [(3, .slice g.2.2.2.2.1 g.2.2.2.2.2.1 g.2.2.2.2.2.2), (4, .int .i64 g.2.2.1), (16, .slice a1 n2 c3), (17, .int .i64 ((x1.length : Nat) : Int)), (18, .int .i64 g.2.2.2.1)]) (fun g => [RoL (encI .u8) a1 n2 x1, OwnS 46 17 g.2.2.2.2.1 g.2.2.2.2.2.1 g.2.2.2.2.2.2 (flat encR g.2.1), R]) ?_ ?_
    ·
      exact dn_meet (fuel, ([] : List RecV), 0, 0, none, 0, 0) h1 (Less.cons rfl (Less.cons rfl (Less.cons rfl (Less.cons rfl (Less.cons rfl (Less.nil _)))))) [1, 0, 0] (by rfl)
    ·
      rintro ⟨k112, y105, y106, y107, a108, n109, c110⟩ h1
      cases k112 with
      | zero => cases h1
      | succ k112 =>
        replace h1 : M_crossbucklaw23_HistoryOrders.l1 x1 (k112 + 1) y105 y106 y107 = some y111 := h1
        rw [M_crossbucklaw23_HistoryOrders.l1.eq_2] at h1
        show Dn E 119 [] _ [(3, .slice a108 n109 c110), (4, .int .i64 y106), (16, .slice a1 n2 c3), (17, .int .i64 ((x1.length : Nat) : Int)), (18, .int .i64 y107)] [RoL (encI .u8) a1 n2 x1, OwnS 46 17 a108 n109 c110 (flat encR y105), R]
        refine dn_seq ?_
        refine dn_reg ?_
        refine dl_t rfl rfl rfl (op_lss rfl rfl) ?_
        refine dn_done ?_
        refine dn_then ?_
        refine dn_seq ?_
        refine dn_cond (p := y107 < ((x1.length : Nat) : Int)) rfl (fun hc113 => ?_) (fun hc113 => ?_)
        ·
          replace h1 := pos_some hc113 h1
          refine dn_skip ?_
          refine dn_then ?_
          refine dn_seq ?_
          refine dn_block ?_
          refine dn_seq ?_
          refine dn_reg ?_
          refine dl_t rfl rfl rfl (op_move rfl) ?_
          obtain ⟨y114, hy114, h1⟩ := bind_some h1
          obtain ⟨hz114, hw114, hx114⟩ := nth_some hy114
          refine dn_roN 0 rfl (fun hn115 => ?_)
          refine dn_roLSome (encI_len .u8) rfl 0 rfl (by omega) (fun hs116 => ?_)
          refine dl_t rfl rfl rfl (op_indexS (k := y107.toNat * 1) hs116 rfl rfl el_59 sz_5 (by omega) (by omega) rfl) ?_
          refine dl_r 0 rfl rfl rfl rfl (op_loadL (v := .int .u8 y114) rfl ag_5 (flat_cell (j := 0) (encI_len .u8) hx114 rfl (by first | rfl | omega))) ?_
          refine dl_t rfl rfl rfl (op_assign rfl) ?_
          refine dl_t rfl rfl rfl (op_assign rfl) ?_
          refine dn_done ?_
          refine dn_then ?_
          refine dn_seq ?_
          refine dn_reg ?_
          refine dl_t rfl rfl rfl (op_move rfl) ?_
          refine dl_t rfl rfl rfl (op_move rfl) ?_
          refine dl_t rfl rfl rfl (op_move rfl) ?_
          refine dl_t rfl rfl rfl (op_move rfl) ?_
          refine dl_t rfl rfl rfl (op_move rfl) ?_
          refine dl_t rfl rfl rfl (op_rem (z := (y114.tmod 3)) rfl rfl (by decide) rfl) ?_
          refine dl_t rfl rfl rfl (op_conv (z := w64 (y114.tmod 3)) rfl Tryz.underlying5 ik_3 rfl) ?_
          refine dl_t rfl rfl rfl (op_add (z := w64 (y106 + (w64 (y114.tmod 3)))) rfl rfl rfl) ?_
          refine dl_t rfl rfl rfl (op_move rfl) ?_
          refine dl_t rfl rfl rfl (op_add (z := w64 (y106 + 2)) rfl rfl rfl) ?_
          refine dl_t rfl rfl rfl (op_build (qs := [(1, .int .i64 y107), (2, .int .i64 y106), (3, .int .i64 (w64 (y106 + (w64 (y114.tmod 3))))), (4, .int .i64 (w64 (y106 + 2)))]) (vs := [.int .i64 0, .int .i64 y107, .int .i64 y106, .int .i64 (w64 (y106 + (w64 (y114.tmod 3)))), .int .i64 (w64 (y106 + 2)), .int .i64 0, .int .u64 0, .int .u64 0, .int .u32 0, .int .u32 0, .int .u8 0, .int .u16 0, .int .u16 0, .bool false, .slice none 0 0, .int .i64 0, .int .i64 0]) rfl (by kernel_rfl)) ?_
          refine dl_e rfl (op_buildSlice (e := 46) (qs := [(0, .agg #[.int .i64 0, .int .i64 y107, .int .i64 y106, .int .i64 (w64 (y106 + (w64 (y114.tmod 3)))), .int .i64 (w64 (y106 + 2)), .int .i64 0, .int .u64 0, .int .u64 0, .int .u32 0, .int .u32 0, .int .u8 0, .int .u16 0, .int .u16 0, .bool false, .slice none 0 0, .int .i64 0, .int .i64 0])]) (vs := [.int .i64 0, .int .i64 y107, .int .i64 y106, .int .i64 (w64 (y106 + (w64 (y114.tmod 3)))), .int .i64 (w64 (y106 + 2)), .int .i64 0, .int .u64 0, .int .u64 0, .int .u32 0, .int .u32 0, .int .u8 0, .int .u16 0, .int .u16 0, .bool false, .slice none 0 0, .int .i64 0, .int .i64 0]) rfl (by kernel_rfl) rfl) ?_
          rintro b117 -
          refine dn_norm (Qs := [_, _, _, _]) rfl ?_
          obtain ⟨hg118, h1⟩ := guard_some h1
          simp only [appMax] at hg118
          refine dn_ownN encR_len rfl 2 rfl (fun hn119 => ?_)
          refine dl_e rfl (op_appendG (news := [.int .i64 0, .int .i64 y107, .int .i64 y106, .int .i64 (w64 (y106 + (w64 (y114.tmod 3)))), .int .i64 (w64 (y106 + 2)), .int .i64 0, .int .u64 0, .int .u64 0, .int .u32 0, .int .u32 0, .int .u8 0, .int .u16 0, .int .u16 0, .bool false, .slice none 0 0, .int .i64 0, .int .i64 0]) (k' := n109 + 1) [2] rfl rfl rfl el_24 sz_46 zr_46 by_46 rfl rfl (rfl) (news_blk 0 rfl 0 rfl) (List.all_eq_true.1 rfl) (by simp only [maxLen]; omega) (by omega) rfl rfl) ?_
          rintro ⟨a120, c121⟩ -
          refine dn_norm (Qs := [_, _, _, _]) rfl ?_
          refine dn_norm (Qs := [OwnS 46 17 a120 (n109 + 1) c121 (flat encR (y105 ++ [(⟨0, y107, y106, w64 (y106 + (w64 (y114.tmod 3))), w64 (y106 + 2), .int .i64 0, .int .u64 0, .int .u64 0, .int .u32 0, .int .u32 0, .int .u8 0, .int .u16 0, .int .u16 0, .bool false, .slice none 0 0, .int .i64 0, .int .i64 0, rfl⟩ : RecV)])), _, _, _]) (by rw [flat_app]; rfl) ?_
          refine dl_t rfl rfl rfl (op_assign rfl) ?_
          refine dn_done ?_
          refine dn_then ?_
          refine dn_reg ?_
          refine dl_t rfl rfl rfl (op_move rfl) ?_
          refine dl_t rfl rfl rfl (op_move rfl) ?_
          refine dl_t rfl rfl rfl (op_rem (z := (y114.tmod 4)) rfl rfl (by decide) rfl) ?_
          refine dl_t rfl rfl rfl (op_conv (z := w64 (y114.tmod 4)) rfl Tryz.underlying5 ik_3 rfl) ?_
          refine dl_t rfl rfl rfl (op_add (z := w64 (3 + (w64 (y114.tmod 4)))) rfl rfl rfl) ?_
          refine dl_t rfl rfl rfl (op_add (z := w64 (y106 + (w64 (3 + (w64 (y114.tmod 4)))))) rfl rfl rfl) ?_
          refine dl_t rfl rfl rfl (op_assign rfl) ?_
          refine dn_done ?_
          refine dn_inB ?_
          refine dn_then ?_
          refine dn_reg ?_
          refine dl_t rfl rfl rfl (op_add (z := w64 (y107 + 1)) rfl rfl rfl) ?_
          refine dl_t rfl rfl rfl (op_move rfl) ?_
          refine dn_done ?_
          refine dn_then ?_
          exact dn_meet (k112, y105 ++ [(⟨0, y107, y106, w64 (y106 + (w64 (y114.tmod 3))), w64 (y106 + 2), .int .i64 0, .int .u64 0, .int .u64 0, .int .u32 0, .int .u32 0, .int .u8 0, .int .u16 0, .int .u16 0, .bool false, .slice none 0 0, .int .i64 0, .int .i64 0, rfl⟩ : RecV)], w64 (y106 + (w64 (3 + (w64 (y114.tmod 4))))), w64 (y107 + 1), a120, n109 + 1, c121) ⟨Nat.lt_succ_self _, h1⟩ (Less.cons rfl (Less.cons rfl (Less.cons rfl (Less.cons rfl (Less.cons rfl (Less.nil _)))))) [2, 0, 1] (by rfl)
        ·
          replace h1 := neg_some hc113 h1
          refine dn_exit ?_
          refine dn_thenX ?_
          refine dn_thenX ?_
          replace h1 := Option.some.inj h1
          subst h1
          try dsimp only at h
          refine dn_inBX ?_
          refine dn_then ?_
          refine dn_seq ?_
          refine dn_reg ?_
          refine dl_t rfl rfl rfl (op_assign rfl) ?_
          refine dn_done ?_
          refine dn_then ?_
          refine dn_seq ?_
          refine dn_seq ?_
          refine dn_reg ?_
          refine dl_t rfl rfl rfl (op_move rfl) ?_
          refine dn_ownN encR_len rfl 1 rfl (fun hn122 => ?_)
          refine dl_t rfl rfl rfl (op_len rfl el_24) ?_
          refine dn_slot (u := .int .i64 ((y105.length : Nat) : Int)) 44 rfl (by rw [hn122]) ?_
          refine dl_t rfl rfl rfl (op_move rfl) ?_
          refine dn_done ?_
          refine dn_then ?_
          refine dn_block ?_
          refine dn_ownNil 46 17 ?_
          refine dn_norm (Qs := [OwnS 46 17 none 0 0 (flat encR ([] : List RecV)), _, _, _]) rfl ?_
          obtain ⟨y128, h2, h⟩ := bind_some h
          refine dn_loop (α := Nat × List RecV × Int × Option Addr × Nat × Nat) (fun g => M_crossbucklaw23_HistoryOrders.l2 y105 g.1 g.2.1 g.2.2.1 = some y128) (fun g => g.1) (fun g => [(3, .slice a108 n109 c110), (7, .slice g.2.2.2.1 g.2.2.2.2.1 g.2.2.2.2.2), (44, .int .i64 ((y105.length : Nat) : Int)), (45, .int .i64 g.2.2.1)]) (fun g => [RoL (encI .u8) a1 n2 x1, OwnS 46 17 a108 n109 c110 (flat encR y105), OwnS 46 17 g.2.2.2.1 g.2.2.2.2.1 g.2.2.2.2.2 (flat encR g.2.1), R]) ?_ ?_
          ·
            exact dn_meet (fuel, ([] : List RecV), 0, none, 0, 0) h2 (Less.cons rfl (Less.cons rfl (Less.cons rfl (Less.cons rfl (Less.nil _))))) [1, 1, 0, 0] (Rs := []) (by kernel_rfl)
          ·
            rintro ⟨k129, y123, y124, a125, n126, c127⟩ h2
            cases k129 with
            | zero => cases h2
            | succ k129 =>
              replace h2 : M_crossbucklaw23_HistoryOrders.l2 y105 (k129 + 1) y123 y124 = some y128 := h2
              rw [M_crossbucklaw23_HistoryOrders.l2.eq_2] at h2
              show Dn E 119 [] _ [(3, .slice a108 n109 c110), (7, .slice a125 n126 c127), (44, .int .i64 ((y105.length : Nat) : Int)), (45, .int .i64 y124)] [RoL (encI .u8) a1 n2 x1, OwnS 46 17 a108 n109 c110 (flat encR y105), OwnS 46 17 a125 n126 c127 (flat encR y123), R]
              refine dn_seq ?_
              refine dn_reg ?_
              refine dl_t rfl rfl rfl (op_lss rfl rfl) ?_
              refine dn_done ?_
              refine dn_then ?_
              refine dn_seq ?_
              refine dn_cond (p := y124 < ((y105.length : Nat) : Int)) rfl (fun hc130 => ?_) (fun hc130 => ?_)
              ·
                replace h2 := pos_some hc130 h2
                refine dn_skip ?_
                refine dn_then ?_
                refine dn_seq ?_
                refine dn_block ?_
                refine dn_seq ?_
                refine dn_reg ?_
                refine dl_t rfl rfl rfl (op_move rfl) ?_
                refine dl_t rfl rfl rfl (op_assign rfl) ?_
                refine dn_done ?_
                refine dn_then ?_
                refine dn_reg ?_
                refine dl_t rfl rfl rfl (op_move rfl) ?_
                refine dl_t rfl rfl rfl (op_move rfl) ?_
                refine dl_t rfl rfl rfl (op_move rfl) ?_
                refine dn_ownN encR_len rfl 1 rfl (fun hn131 => ?_)
                refine dl_t rfl rfl rfl (op_len rfl el_24) ?_
                refine dn_slot (u := .int .i64 ((y105.length : Nat) : Int)) 51 rfl (by rw [hn131]) ?_
                refine dl_t rfl rfl rfl (op_sub (z := w64 (((y105.length : Nat) : Int) - 1)) rfl rfl rfl) ?_
                refine dl_t rfl rfl rfl (op_move rfl) ?_
                refine dl_t rfl rfl rfl (op_sub (z := w64 ((w64 (((y105.length : Nat) : Int) - 1)) - y124)) rfl rfl rfl) ?_
                obtain ⟨y132, hy132, h2⟩ := bind_some h2
                obtain ⟨hz132, hw132, hx132⟩ := nth_some hy132
                refine dn_ownN encR_len rfl 1 rfl (fun hn133 => ?_)
                refine dn_ownLSome 1 rfl (by omega) (fun hs134 => ?_)
                refine dl_t rfl rfl rfl (op_indexS (k := (w64 ((w64 (((y105.length : Nat) : Int) - 1)) - y124)).toNat * 17) hs134 rfl rfl el_24 sz_46 (by omega) (by omega) rfl) ?_
                refine dl_r 1 rfl rfl rfl rfl (op_loadON (vs := [.int .i64 y132.cl, .int .i64 y132.ix, .int .i64 y132.bg, .int .i64 y132.pt, .int .i64 y132.en, y132.r0, y132.r1, y132.r2, y132.r3, y132.r4, y132.r5, y132.r6, y132.r7, y132.r8, y132.r9, y132.r10, y132.r11]) rfl ag_46 sz_46 (by omega) (flat_part encR_len hx132) rfl) ?_
                refine dl_e rfl (op_buildSlice (e := 46) (qs := [(0, .agg #[.int .i64 y132.cl, .int .i64 y132.ix, .int .i64 y132.bg, .int .i64 y132.pt, .int .i64 y132.en, y132.r0, y132.r1, y132.r2, y132.r3, y132.r4, y132.r5, y132.r6, y132.r7, y132.r8, y132.r9, y132.r10, y132.r11])]) (vs := [.int .i64 y132.cl, .int .i64 y132.ix, .int .i64 y132.bg, .int .i64 y132.pt, .int .i64 y132.en, y132.r0, y132.r1, y132.r2, y132.r3, y132.r4, y132.r5, y132.r6, y132.r7, y132.r8, y132.r9, y132.r10, y132.r11]) rfl (by kernel_rfl) rfl) ?_
                rintro b135 -
                refine dn_norm (Qs := [_, _, _, _, _]) rfl ?_
                obtain ⟨hg136, h2⟩ := guard_some h2
                simp only [appMax] at hg136
                refine dn_ownN encR_len rfl 3 rfl (fun hn137 => ?_)
                refine dl_e rfl (op_appendG (news := [.int .i64 y132.cl, .int .i64 y132.ix, .int .i64 y132.bg, .int .i64 y132.pt, .int .i64 y132.en, y132.r0, y132.r1, y132.r2, y132.r3, y132.r4, y132.r5, y132.r6, y132.r7, y132.r8, y132.r9, y132.r10, y132.r11]) (k' := n126 + 1) [3] rfl rfl rfl el_24 sz_46 zr_46 by_46 rfl rfl (rfl) (news_blk 0 rfl 0 rfl) (List.all_eq_true.1 (encR_one y132)) (by simp only [maxLen]; omega) (by omega) rfl rfl) ?_
                rintro ⟨a138, c139⟩ -
                refine dn_norm (Qs := [_, _, _, _, _]) rfl ?_
                refine dn_norm (Qs := [OwnS 46 17 a138 (n126 + 1) c139 (flat encR (y123 ++ [y132])), _, _, _, _]) (by rw [flat_app]; rfl) ?_
                refine dl_t rfl rfl rfl (op_assign rfl) ?_
                refine dn_done ?_
                refine dn_inB ?_
                refine dn_then ?_
                refine dn_reg ?_
                refine dl_t rfl rfl rfl (op_add (z := w64 (y124 + 1)) rfl rfl rfl) ?_
                refine dl_t rfl rfl rfl (op_move rfl) ?_
                refine dn_done ?_
                refine dn_then ?_
                exact dn_meet (k129, y123 ++ [y132], w64 (y124 + 1), a138, n126 + 1, c139) ⟨Nat.lt_succ_self _, h2⟩ (Less.cons rfl (Less.cons rfl (Less.cons rfl (Less.cons rfl (Less.nil _))))) [2, 2, 0, 1] (Rs := [Blk b135 (.cells [.int .i64 y132.cl, .int .i64 y132.ix, .int .i64 y132.bg, .int .i64 y132.pt, .int .i64 y132.en, y132.r0, y132.r1, y132.r2, y132.r3, y132.r4, y132.r5, y132.r6, y132.r7, y132.r8, y132.r9, y132.r10, y132.r11].toArray 46 (0, 0))]) (by kernel_rfl)
              ·
                replace h2 := neg_some hc130 h2
                refine dn_exit ?_
                refine dn_thenX ?_
                refine dn_thenX ?_
                replace h2 := Option.some.inj h2
                subst h2
                try dsimp only at h
                refine dn_inBX ?_
                refine dn_then ?_
                refine dn_seq ?_
                refine dn_reg ?_
                refine dl_t rfl rfl rfl (op_move rfl) ?_
                obtain ⟨y140, hy140, h⟩ := bind_some h
                refine dl_e rfl (op_call (vs := [.slice a125 n126 c127]) cl_8 (T_order a125 n126 c127 y123 hy140) rfl [2] (by exact rfl) rfl) ?_
                rintro ⟨a141, b142⟩ -
                refine dn_normv (u := .slice a141 n126 b142) (Qs := [OwnS 46 17 a125 n126 c127 (flat encR y123), OwnS 46 17 a141 n126 b142 (flat encR y140), _, _, _]) rfl rfl ?_
                refine dl_t rfl rfl rfl (op_assign rfl) ?_
                refine dn_done ?_
                refine dn_then ?_
                refine dn_seq ?_
                refine dn_reg ?_
                refine dl_t rfl rfl rfl (op_move rfl) ?_
                obtain ⟨y143, hy143, h⟩ := bind_some h
                refine dl_e rfl (op_call (vs := [.slice a141 n126 b142]) cl_8 (T_order a141 n126 b142 y140 hy143) rfl [1] (by exact rfl) rfl) ?_
                rintro ⟨a144, b145⟩ -
                refine dn_normv (u := .slice a144 n126 b145) (Qs := [OwnS 46 17 a141 n126 b142 (flat encR y140), OwnS 46 17 a144 n126 b145 (flat encR y143), _, _, _, _]) rfl rfl ?_
                refine dl_t rfl rfl rfl (op_assign rfl) ?_
                refine dn_done ?_
                refine dn_then ?_
                refine dn_seq ?_
                refine dn_seq ?_
                refine dn_reg ?_
                refine dl_t rfl rfl rfl (op_move rfl) ?_
                refine dn_ownN encR_len rfl 0 rfl (fun hn146 => ?_)
                refine dl_t rfl rfl rfl (op_len rfl el_24) ?_
                refine dn_slot (u := .int .i64 ((y140.length : Nat) : Int)) 65 rfl (by rw [hn146]) ?_
                refine dl_t rfl rfl rfl (op_move rfl) ?_
                refine dn_ownN encR_len rfl 4 rfl (fun hn147 => ?_)
                refine dl_t rfl rfl rfl (op_len rfl el_24) ?_
                refine dn_slot (u := .int .i64 ((y105.length : Nat) : Int)) 67 rfl (by rw [hn147]) ?_
                refine dl_t rfl rfl rfl (op_neq rfl rfl) ?_
                refine dl_t rfl rfl rfl (op_move rfl) ?_
                refine dn_test (p := ¬ (((y140.length : Nat) : Int) = ((y105.length : Nat) : Int))) 69 rfl (fun hc148 => ?_) (fun hc148 => ?_)
                ·
                  replace h := pos_some hc148 h
                  refine dl_no rfl rfl rfl rfl (by decide) rfl rfl ?_
                  refine dl_no rfl rfl rfl rfl (by decide) rfl rfl ?_
                  refine dl_no rfl rfl rfl rfl (by decide) rfl rfl ?_
                  refine dl_no rfl rfl rfl rfl (by decide) rfl rfl ?_
                  refine dl_no rfl rfl rfl rfl (by decide) rfl rfl ?_
                  refine dl_t rfl rfl rfl (op_pick (b := true) rfl rfl) ?_
                  refine dn_done ?_
                  refine dn_then ?_
                  refine dn_cond_true rfl ?_
                  refine dn_seq ?_
                  refine dn_reg ?_
                  refine dl_t rfl rfl rfl (op_assign rfl) ?_
                  refine dn_done ?_
                  refine dn_then ?_
                  refine dn_ret ?_
                  refine dn_thenR ?_
                  replace h := Option.some.inj h
                  subst h
                  exact dn_end () rfl rfl (by rfl) trivial [3, 4] (by rfl) (.inl rfl)
                ·
                  replace h := neg_some hc148 h
                  refine dl_wt rfl rfl rfl rfl rfl rfl (op_move rfl) ?_
                  refine dn_ownN encR_len rfl 1 rfl (fun hn149 => ?_)
                  refine dl_wt rfl rfl rfl rfl rfl rfl (op_len rfl el_24) ?_
                  refine dn_slot (u := .int .i64 ((y143.length : Nat) : Int)) 71 rfl (by rw [hn149]) ?_
                  refine dl_wt rfl rfl rfl rfl rfl rfl (op_move rfl) ?_
                  refine dn_ownN encR_len rfl 4 rfl (fun hn150 => ?_)
                  refine dl_wt rfl rfl rfl rfl rfl rfl (op_len rfl el_24) ?_
                  refine dn_slot (u := .int .i64 ((y105.length : Nat) : Int)) 73 rfl (by rw [hn150]) ?_
                  refine dl_wt rfl rfl rfl rfl rfl rfl (op_neq rfl rfl) ?_
                  refine dl_t rfl rfl rfl (op_pick (b := false) rfl rfl) ?_
                  refine dn_done ?_
                  refine dn_then ?_
                  refine dn_cond (p := ¬ (((y143.length : Nat) : Int) = ((y105.length : Nat) : Int))) rfl (fun hc151 => ?_) (fun hc151 => ?_)
                  ·
                    replace h := pos_some hc151 h
                    refine dn_seq ?_
                    refine dn_reg ?_
                    refine dl_t rfl rfl rfl (op_assign rfl) ?_
                    refine dn_done ?_
                    refine dn_then ?_
                    refine dn_ret ?_
                    refine dn_thenR ?_
                    replace h := Option.some.inj h
                    subst h
                    exact dn_end () rfl rfl (by rfl) trivial [3, 4] (by rfl) (.inl rfl)
                  ·
                    replace h := neg_some hc151 h
                    refine dn_skip ?_
                    refine dn_then ?_
                    refine dn_seq ?_
                    refine dn_seq ?_
                    refine dn_reg ?_
                    refine dl_t rfl rfl rfl (op_move rfl) ?_
                    refine dn_ownN encR_len rfl 4 rfl (fun hn152 => ?_)
                    refine dl_t rfl rfl rfl (op_len rfl el_24) ?_
                    refine dn_slot (u := .int .i64 ((y105.length : Nat) : Int)) 77 rfl (by rw [hn152]) ?_
                    refine dl_t rfl rfl rfl (op_move rfl) ?_
                    refine dn_done ?_
                    refine dn_then ?_
                    refine dn_block ?_
                    obtain ⟨y154, h3, h⟩ := bind_some h
                    refine dn_loop (α := Nat × Int) (fun g => M_crossbucklaw23_HistoryOrders.l3 y105 y140 y143 g.1 g.2 = some y154) (fun g => g.1) (fun g => [(3, .slice a108 n109 c110), (7, .slice a125 n126 c127), (9, .slice a141 n126 b142), (10, .slice a144 n126 b145), (77, .int .i64 ((y105.length : Nat) : Int)), (78, .int .i64 g.2)]) (fun g => [RoL (encI .u8) a1 n2 x1, OwnS 46 17 a108 n109 c110 (flat encR y105), OwnS 46 17 a125 n126 c127 (flat encR y123), OwnS 46 17 a141 n126 b142 (flat encR y140), OwnS 46 17 a144 n126 b145 (flat encR y143), R]) ?_ ?_
                    ·
                      exact dn_meet (fuel, 0) h3 (Less.cons rfl (Less.cons rfl (Less.cons rfl (Less.cons rfl (Less.cons rfl (Less.cons rfl (Less.nil _))))))) [3, 3, 2, 0, 0, 0] (Rs := []) (by kernel_rfl)
                    ·
                      rintro ⟨k155, y153⟩ h3
                      cases k155 with
                      | zero => cases h3
                      | succ k155 =>
                        replace h3 : M_crossbucklaw23_HistoryOrders.l3 y105 y140 y143 (k155 + 1) y153 = some y154 := h3
                        rw [M_crossbucklaw23_HistoryOrders.l3.eq_2] at h3
                        show Dn E 119 [] _ [(3, .slice a108 n109 c110), (7, .slice a125 n126 c127), (9, .slice a141 n126 b142), (10, .slice a144 n126 b145), (77, .int .i64 ((y105.length : Nat) : Int)), (78, .int .i64 y153)] [RoL (encI .u8) a1 n2 x1, OwnS 46 17 a108 n109 c110 (flat encR y105), OwnS 46 17 a125 n126 c127 (flat encR y123), OwnS 46 17 a141 n126 b142 (flat encR y140), OwnS 46 17 a144 n126 b145 (flat encR y143), R]
                        refine dn_seq ?_
                        refine dn_reg ?_
                        refine dl_t rfl rfl rfl (op_lss rfl rfl) ?_
                        refine dn_done ?_
                        refine dn_then ?_
                        refine dn_seq ?_
                        refine dn_cond (p := y153 < ((y105.length : Nat) : Int)) rfl (fun hc156 => ?_) (fun hc156 => ?_)
                        ·
                          replace h3 := pos_some hc156 h3
                          refine dn_skip ?_
                          refine dn_then ?_
                          refine dn_seq ?_
                          refine dn_block ?_
                          refine dn_seq ?_
                          refine dn_reg ?_
                          refine dl_t rfl rfl rfl (op_move rfl) ?_
                          refine dl_t rfl rfl rfl (op_assign rfl) ?_
                          refine dn_done ?_
                          refine dn_then ?_
                          refine dn_seq ?_
                          refine dn_reg ?_
                          refine dl_t rfl rfl rfl (op_move rfl) ?_
                          refine dl_t rfl rfl rfl (op_move rfl) ?_
                          obtain ⟨y157, hy157, h3⟩ := bind_some h3
                          obtain ⟨hz157, hw157, hx157⟩ := nth_some hy157
                          refine dn_ownN encR_len rfl 3 rfl (fun hn158 => ?_)
                          refine dn_ownLSome 3 rfl (by omega) (fun hs159 => ?_)
                          refine dl_t rfl rfl rfl (op_indexS (k := y153.toNat * 17) hs159 rfl rfl el_24 sz_46 (by omega) (by omega) rfl) ?_
                          refine dl_t rfl rfl rfl (op_fieldS (k' := y153.toNat * 17 + 1) hs159 rfl fd_46_1 (by first | rfl | omega)) ?_
                          refine dl_r 3 rfl rfl rfl rfl (op_loadO (v := .int .i64 y157.ix) rfl ag_3 (by omega) (flat_cell (j := 1) encR_len hx157 rfl (by first | rfl | omega))) ?_
                          refine dl_t rfl rfl rfl (op_move rfl) ?_
                          refine dl_t rfl rfl rfl (op_neq rfl rfl) ?_
                          refine dl_t rfl rfl rfl (op_move rfl) ?_
                          refine dn_test (p := ¬ (y157.ix = y153)) 88 rfl (fun hc160 => ?_) (fun hc160 => ?_)
                          ·
                            replace h3 := pos_some hc160 h3
                            refine dl_no rfl rfl rfl rfl (by decide) rfl rfl ?_
                            refine dl_no rfl rfl rfl rfl (by decide) rfl rfl ?_
                            refine dl_no rfl rfl rfl rfl (by decide) rfl rfl ?_
                            refine dl_no rfl rfl rfl rfl (by decide) rfl rfl ?_
                            refine dl_no rfl rfl rfl rfl (by decide) rfl rfl ?_
                            refine dl_no rfl rfl rfl rfl (by decide) rfl rfl ?_
                            refine dl_no rfl rfl rfl rfl (by decide) rfl rfl ?_
                            refine dl_t rfl rfl rfl (op_pick (b := true) rfl rfl) ?_
                            refine dn_done ?_
                            refine dn_then ?_
                            refine dn_cond_true rfl ?_
                            refine dn_seq ?_
                            refine dn_reg ?_
                            refine dl_t rfl rfl rfl (op_assign rfl) ?_
                            refine dn_done ?_
                            refine dn_then ?_
                            refine dn_ret ?_
                            refine dn_inBR ?_
                            refine dn_thenR ?_
                            refine dn_thenR ?_
                            replace h3 := Option.some.inj h3
                            subst h3
                            replace h := elim_l h
                            try dsimp only at h
                            refine dn_inBR ?_
                            refine dn_thenR ?_
                            replace h := Option.some.inj h
                            subst h
                            exact dn_end () rfl rfl (by rfl) trivial [0, 4] (by rfl) (.inl rfl)
                          ·
                            replace h3 := neg_some hc160 h3
                            refine dl_wt rfl rfl rfl rfl rfl rfl (op_move rfl) ?_
                            refine dl_wt rfl rfl rfl rfl rfl rfl (op_move rfl) ?_
                            obtain ⟨y161, hy161, h3⟩ := bind_some h3
                            obtain ⟨hz161, hw161, hx161⟩ := nth_some hy161
                            refine dn_ownN encR_len rfl 4 rfl (fun hn162 => ?_)
                            refine dn_ownLSome 4 rfl (by omega) (fun hs163 => ?_)
                            refine dl_wt rfl rfl rfl rfl rfl rfl (op_indexS (k := y153.toNat * 17) hs163 rfl rfl el_24 sz_46 (by omega) (by omega) rfl) ?_
                            refine dl_wt rfl rfl rfl rfl rfl rfl (op_fieldS (k' := y153.toNat * 17 + 1) hs163 rfl fd_46_1 (by first | rfl | omega)) ?_
                            refine dl_wr 4 rfl rfl rfl rfl rfl rfl rfl (op_loadO (v := .int .i64 y161.ix) rfl ag_3 (by omega) (flat_cell (j := 1) encR_len hx161 rfl (by first | rfl | omega))) ?_
                            refine dl_wt rfl rfl rfl rfl rfl rfl (op_move rfl) ?_
                            refine dl_wt rfl rfl rfl rfl rfl rfl (op_neq rfl rfl) ?_
                            refine dl_t rfl rfl rfl (op_pick (b := false) rfl rfl) ?_
                            refine dn_done ?_
                            refine dn_then ?_
                            refine dn_cond (p := ¬ (y161.ix = y153)) rfl (fun hc164 => ?_) (fun hc164 => ?_)
                            ·
                              replace h3 := pos_some hc164 h3
                              refine dn_seq ?_
                              refine dn_reg ?_
                              refine dl_t rfl rfl rfl (op_assign rfl) ?_
                              refine dn_done ?_
                              refine dn_then ?_
                              refine dn_ret ?_
                              refine dn_inBR ?_
                              refine dn_thenR ?_
                              refine dn_thenR ?_
                              replace h3 := Option.some.inj h3
                              subst h3
                              replace h := elim_r h
                              replace h := elim_l h
                              try dsimp only at h
                              refine dn_inBR ?_
                              refine dn_thenR ?_
                              replace h := Option.some.inj h
                              subst h
                              exact dn_end () rfl rfl (by rfl) trivial [0, 4] (by rfl) (.inl rfl)
                            ·
                              replace h3 := neg_some hc164 h3
                              refine dn_skip ?_
                              refine dn_inB ?_
                              refine dn_then ?_
                              refine dn_reg ?_
                              refine dl_t rfl rfl rfl (op_add (z := w64 (y153 + 1)) rfl rfl rfl) ?_
                              refine dl_t rfl rfl rfl (op_move rfl) ?_
                              refine dn_done ?_
                              refine dn_then ?_
                              exact dn_meet (k155, w64 (y153 + 1)) ⟨Nat.lt_succ_self _, h3⟩ (Less.cons rfl (Less.cons rfl (Less.cons rfl (Less.cons rfl (Less.cons rfl (Less.cons rfl (Less.nil _))))))) [0, 0, 0, 0, 0, 0] (Rs := []) (by kernel_rfl)
                        ·
                          replace h3 := neg_some hc156 h3
                          refine dn_exit ?_
                          refine dn_thenX ?_
                          refine dn_thenX ?_
                          replace h3 := Option.some.inj h3
                          subst h3
                          replace h := elim_r h
                          replace h := elim_r h
                          try dsimp only at h
                          refine dn_inBX ?_
                          refine dn_then ?_
                          refine dn_seq ?_
                          refine dn_reg ?_
                          obtain ⟨y165, hy165, h⟩ := bind_some h
                          refine dl_e rfl (op_call (vs := []) cl_6 (T_awake   hy165) rfl [] (by exact rfl) rfl) ?_
                          rintro ⟨⟩ -
                          refine dn_normv (u := .bool y165) (Qs := [_, _, _, _, _, _]) rfl rfl ?_
                          refine dl_t rfl rfl rfl (op_move rfl) ?_
                          refine dn_slot (u := .bool (decide (y165 = true))) 99 rfl (bdec _) ?_
                          refine dn_test (p := y165 = true) 99 rfl (fun hc166 => ?_) (fun hc166 => ?_)
                          ·
                            replace h := pos_some hc166 h
                            refine dl_wt rfl rfl rfl rfl rfl rfl (op_move rfl) ?_
                            obtain ⟨y167, hy167, h⟩ := bind_some h
                            refine dl_we rfl rfl rfl rfl (op_call (vs := [.slice a108 n109 c110]) cl_9 (T_real a108 n109 c110 y105 hy167) rfl [1] (by exact rfl) rfl) ?_
                            rintro ⟨⟩ -
                            refine dn_normv (u := .bool y167) (Qs := [OwnS 46 17 a108 n109 c110 (flat encR y105), _, _, _, _, _]) rfl rfl ?_
                            refine dl_t rfl rfl rfl (op_pick (b := true) rfl rfl) ?_
                            refine dl_t rfl rfl rfl (op_move rfl) ?_
                            refine dn_slot (u := .bool (decide (y167 = true))) 103 rfl (bdec _) ?_
                            refine dn_test (p := y167 = true) 103 rfl (fun hc168 => ?_) (fun hc168 => ?_)
                            ·
                              replace h := pos_some hc168 h
                              refine dl_wt rfl rfl rfl rfl rfl rfl (op_move rfl) ?_
                              obtain ⟨y169, hy169, h⟩ := bind_some h
                              refine dl_we rfl rfl rfl rfl (op_call (vs := [.slice a125 n126 c127]) cl_9 (T_real a125 n126 c127 y123 hy169) rfl [2] (by exact rfl) rfl) ?_
                              rintro ⟨⟩ -
                              refine dn_normv (u := .bool y169) (Qs := [OwnS 46 17 a125 n126 c127 (flat encR y123), _, _, _, _, _]) rfl rfl ?_
                              refine dl_wt rfl rfl rfl rfl rfl rfl (op_move rfl) ?_
                              refine dn_ownN encR_len rfl 1 rfl (fun hn170 => ?_)
                              refine dl_wt rfl rfl rfl rfl rfl rfl (op_len rfl el_24) ?_
                              refine dn_slot (u := .int .i64 ((y105.length : Nat) : Int)) 107 rfl (by rw [hn170]) ?_
                              refine dl_wt rfl rfl rfl rfl rfl rfl (op_lss rfl rfl) ?_
                              refine dl_wt rfl rfl rfl rfl rfl rfl (op_booleql rfl rfl bo_4) ?_
                              refine dl_t rfl rfl rfl (op_pick (b := true) rfl rfl) ?_
                              refine dl_t rfl rfl rfl (op_move rfl) ?_
                              refine dn_test (p := y169 = (decide (((y105.length : Nat) : Int) < 2))) 111 rfl (fun hc171 => ?_) (fun hc171 => ?_)
                              ·
                                replace h := pos_some hc171 h
                                refine dl_wt rfl rfl rfl rfl rfl rfl (op_move rfl) ?_
                                obtain ⟨y172, hy172, h⟩ := bind_some h
                                refine dl_we rfl rfl rfl rfl (op_call (vs := [.slice a108 n109 c110]) cl_11 (T_overlap a108 n109 c110 y105 hy172) rfl [1] (by exact rfl) rfl) ?_
                                rintro ⟨⟩ -
                                refine dn_normv (u := .int .i64 y172) (Qs := [OwnS 46 17 a108 n109 c110 (flat encR y105), _, _, _, _, _]) rfl rfl ?_
                                refine dl_wt rfl rfl rfl rfl rfl rfl (op_move rfl) ?_
                                refine dn_ownN encR_len rfl 0 rfl (fun hn173 => ?_)
                                refine dl_wt rfl rfl rfl rfl rfl rfl (op_len rfl el_24) ?_
                                refine dn_slot (u := .int .i64 ((y105.length : Nat) : Int)) 115 rfl (by rw [hn173]) ?_
                                refine dl_wt rfl rfl rfl rfl rfl rfl (op_min (z := (iMin ((y105.length : Nat) : Int) 1)) rfl rfl rfl) ?_
                                refine dl_wt rfl rfl rfl rfl rfl rfl (op_eql rfl rfl) ?_
                                refine dl_t rfl rfl rfl (op_pick (b := true) rfl rfl) ?_
                                refine dl_t rfl rfl rfl (op_assign rfl) ?_
                                refine dn_done ?_
                                refine dn_then ?_
                                refine dn_ret ?_
                                replace h := Option.some.inj h
                                subst h
                                exact dn_end () rfl rfl (by rfl) trivial [2, 4] (by rfl) (.inl rfl)
                              ·
                                replace h := neg_some hc171 h
                                refine dl_no rfl rfl rfl rfl (by decide) rfl rfl ?_
                                refine dl_no rfl rfl rfl rfl (by decide) rfl rfl ?_
                                refine dl_no rfl rfl rfl rfl (by decide) rfl rfl ?_
                                refine dl_no rfl rfl rfl rfl (by decide) rfl rfl ?_
                                refine dl_no rfl rfl rfl rfl (by decide) rfl rfl ?_
                                refine dl_no rfl rfl rfl rfl (by decide) rfl rfl ?_
                                refine dl_t rfl rfl rfl (op_pick (b := false) rfl rfl) ?_
                                refine dl_t rfl rfl rfl (op_assign rfl) ?_
                                refine dn_done ?_
                                refine dn_then ?_
                                refine dn_ret ?_
                                replace h := Option.some.inj h
                                subst h
                                exact dn_end () rfl rfl (by rfl) trivial [2, 4] (by rfl) (.inl rfl)
                            ·
                              replace h := neg_some hc168 h
                              refine dl_no rfl rfl rfl rfl (by decide) rfl rfl ?_
                              refine dl_no rfl rfl rfl rfl (by decide) rfl rfl ?_
                              refine dl_no rfl rfl rfl rfl (by decide) rfl rfl ?_
                              refine dl_no rfl rfl rfl rfl (by decide) rfl rfl ?_
                              refine dl_no rfl rfl rfl rfl (by decide) rfl rfl ?_
                              refine dl_no rfl rfl rfl rfl (by decide) rfl rfl ?_
                              refine dl_t rfl rfl rfl (op_pick (b := false) rfl rfl) ?_
                              refine dl_t rfl rfl rfl (op_move rfl) ?_
                              refine dl_no rfl rfl rfl rfl (by decide) rfl rfl ?_
                              refine dl_no rfl rfl rfl rfl (by decide) rfl rfl ?_
                              refine dl_no rfl rfl rfl rfl (by decide) rfl rfl ?_
                              refine dl_no rfl rfl rfl rfl (by decide) rfl rfl ?_
                              refine dl_no rfl rfl rfl rfl (by decide) rfl rfl ?_
                              refine dl_no rfl rfl rfl rfl (by decide) rfl rfl ?_
                              refine dl_t rfl rfl rfl (op_pick (b := false) rfl rfl) ?_
                              refine dl_t rfl rfl rfl (op_assign rfl) ?_
                              refine dn_done ?_
                              refine dn_then ?_
                              refine dn_ret ?_
                              replace h := Option.some.inj h
                              subst h
                              exact dn_end () rfl rfl (by rfl) trivial [1, 4] (by rfl) (.inl rfl)
                          ·
                            replace h := neg_some hc166 h
                            refine dl_no rfl rfl rfl rfl (by decide) rfl rfl ?_
                            refine dl_no rfl rfl rfl rfl (by decide) rfl rfl ?_
                            refine dl_t rfl rfl rfl (op_pick (b := false) rfl rfl) ?_
                            refine dl_t rfl rfl rfl (op_move rfl) ?_
                            refine dl_no rfl rfl rfl rfl (by decide) rfl rfl ?_
                            refine dl_no rfl rfl rfl rfl (by decide) rfl rfl ?_
                            refine dl_no rfl rfl rfl rfl (by decide) rfl rfl ?_
                            refine dl_no rfl rfl rfl rfl (by decide) rfl rfl ?_
                            refine dl_no rfl rfl rfl rfl (by decide) rfl rfl ?_
                            refine dl_no rfl rfl rfl rfl (by decide) rfl rfl ?_
                            refine dl_t rfl rfl rfl (op_pick (b := false) rfl rfl) ?_
                            refine dl_t rfl rfl rfl (op_move rfl) ?_
                            refine dl_no rfl rfl rfl rfl (by decide) rfl rfl ?_
                            refine dl_no rfl rfl rfl rfl (by decide) rfl rfl ?_
                            refine dl_no rfl rfl rfl rfl (by decide) rfl rfl ?_
                            refine dl_no rfl rfl rfl rfl (by decide) rfl rfl ?_
                            refine dl_no rfl rfl rfl rfl (by decide) rfl rfl ?_
                            refine dl_no rfl rfl rfl rfl (by decide) rfl rfl ?_
                            refine dl_t rfl rfl rfl (op_pick (b := false) rfl rfl) ?_
                            refine dl_t rfl rfl rfl (op_assign rfl) ?_
                            refine dn_done ?_
                            refine dn_then ?_
                            refine dn_ret ?_
                            replace h := Option.some.inj h
                            subst h
                            exact dn_end () rfl rfl (by rfl) trivial [0, 4] (by rfl) (.inl rfl)
end
end Go.Proofs.YtjfajpoknnifcaaGreat
