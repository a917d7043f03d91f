/-
HistoryOrders: for every list of gaps the law returns true, and the list reads afterwards as it did.
Conditions: none.
-/
import Derived.Test.YtjfajpoknnifcaaGreatRows
import Derived.Test.YtjfajpoknnifcaaGreatLwp
import Derived.Test.YtjfajpoknnifcaaGreatOpen
import Derived.Test.YtjfajpoknnifcaaGreatLwaFacts
import Derived.WalkKit
import Derived.ProofKit
import Derived.OpenShut
import Derived.ChangeOld
import Derived.Carry
namespace Go.Proofs.YtjfajpoknnifcaaGreat
open Go Go.ChangeShapes Go.WideShapes Go.ChangeAt Go.RowKit
set_option maxRecDepth 100000
set_option linter.unusedVariables false
set_option linter.unusedSimpArgs false
theorem ownK : ownKnob Tryz.prog.godebug = none := by kernel_rfl
theorem laidOut : laidOutB Tryz.prog = true := by kernel_rfl
theorem rd_3 : Reads Tryz.prog 3 (α := Int) (π := Unit) (fun x _ => (encI .i64) x) (fun x => fits .i64 x) (fun _ _ => []) := reads_int Tryz.underlying3
theorem rd_48 : Reads Tryz.prog 48 (α := TmV) (π := Unit) (fun x _ => encM x) (fun x => (fits .i64 x.bg ∧ fits .i64 x.pt ∧ fits .i64 x.en)) (fun _ _ => []) := ⟨fun e W sp hd fuel cs X h => by
  obtain ⟨xs, n, _, _, hl, hlen, hf⟩ := DataW.trod_struct Tryz.underlying48 h
  have hc : cs.length = 3 := by rw [hl]; kernel_rfl
  have h0 := hf 0 _ rfl
  obtain ⟨y0, hy0⟩ : ∃ y, xs[0]? = some y := ⟨_, List.getElem?_eq_getElem (by rw [hlen]; exact Nat.le_of_ble_eq_true rfl)⟩
  rw [hy0] at h0
  obtain ⟨x0, p0, e0, o0, q0⟩ := (rd_3).rd e W sp hd n _ _ h0
  replace e0 : (cs.drop 0).take 1 = _ := e0
  have h1 := hf 1 _ rfl
  obtain ⟨y1, hy1⟩ : ∃ y, xs[1]? = some y := ⟨_, List.getElem?_eq_getElem (by rw [hlen]; exact Nat.le_of_ble_eq_true rfl)⟩
  rw [hy1] at h1
  obtain ⟨x1, p1, e1, o1, q1⟩ := (rd_3).rd e W sp hd n _ _ h1
  replace e1 : (cs.drop 1).take 1 = _ := e1
  have h2 := hf 2 _ rfl
  obtain ⟨y2, hy2⟩ : ∃ y, xs[2]? = some y := ⟨_, List.getElem?_eq_getElem (by rw [hlen]; exact Nat.le_of_ble_eq_true rfl)⟩
  rw [hy2] at h2
  obtain ⟨x2, p2, e2, o2, q2⟩ := (rd_3).rd e W sp hd n _ _ h2
  replace e2 : (cs.drop 2).take 1 = _ := e2
  refine ⟨⟨x0, x1, x2⟩, (), ?_, ⟨o0, o1, o2⟩, ?_⟩
  · have hs : cs = (cs.drop 0).take 1 ++ (cs.drop 1).take 1 ++ (cs.drop 2).take 1 := by
      apply List.ext_getElem?
      intro i
      simp only [List.getElem?_append, List.getElem?_take, List.getElem?_drop, List.length_take, List.length_drop, List.length_append, hc]
      repeat' split
      all_goals first | (congr 1; omega) | (rw [List.getElem?_eq_none (by omega)])
    rw [hs, e0, e1, e2]; rfl
  · intro w Ps H
    exact H⟩
theorem rd_22 : Reads Tryz.prog 22 (α := List TmV) (π := Option Addr × Nat × Nat) (fun _ p => [.slice p.1 p.2.1 p.2.2]) (fun xs => ∀ x ∈ xs, (fits .i64 x.bg ∧ fits .i64 x.pt ∧ fits .i64 x.en)) (fun xs p => [RoL encM p.1 p.2.1 xs]) := reads_slice (enc := encM) (sz := 3) Tryz.underlying22 (by kernel_rfl) rfl encM_len rd_48
theorem rd_5 : Reads Tryz.prog 5 (α := Int) (π := Unit) (fun x _ => (encI .u8) x) (fun x => fits .u8 x) (fun _ _ => []) := reads_int Tryz.underlying5
theorem rd_59 : Reads Tryz.prog 59 (α := List Int) (π := Option Addr × Nat × Nat) (fun _ p => [.slice p.1 p.2.1 p.2.2]) (fun xs => ∀ x ∈ xs, fits .u8 x) (fun xs p => [RoL (encI .u8) p.1 p.2.1 xs]) := reads_slice (enc := (encI .u8)) (sz := 1) Tryz.underlying59 (by kernel_rfl) rfl (encI_len .u8) rd_5
theorem plain_orders (xs : List Int) (h : ∀ x ∈ xs, fits .u8 x) : M_crossbucklaw23_HistoryOrders xs = some true := by
  have hb : ∀ x ∈ xs, 0 ≤ x ∧ x ≤ 255 := fun x hx => by
    have := h x hx
    simp only [fits, Lit.wf, decide_eq_true_eq, Bool.and_eq_true] at this
    simp [IntKind.min, IntKind.max, IntKind.signed, IntKind.bits] at this
    omega
  have e : xs = (xs.map Int.toNat).map fun g : Nat => (g : Int) := by
    rw [List.map_map]
    conv => lhs; rw [← List.map_id xs]
    exact List.map_congr_left fun x hx => by have := hb x hx; simp only [Function.comp, id]; omega
  rw [e]
  exact history_orders _ fun g hg => by
    obtain ⟨x, hx, rfl⟩ := List.mem_map.1 hg
    have := hb x hx
    omega
set_option maxRecDepth 100000 in
theorem history_orders_lifted (os : Os) (started : os.Started) (H : Type) (enc : TypeId × Value → H) :
    ReturnsInHanded {} Tryz.checked os 5 .any (Rows.historyOrdersSpec.pre6 enc Tryz.prog Tryz.f5 Rows.historyOrdersRow.domain false) (Rows.historyOrdersSpec.post enc Tryz.prog Tryz.f5 false true false false) := by
  refine returnsInHanded_of_change (C := Tryz.checked) ownK started (by kernel_rfl) Tryz.func5
    (ChangeSpec.witness6 (enc := enc) (C := Tryz.checked) false ⟨#[], #[.slice none 0 0], []⟩ 8 (by kernel_rfl) (by kernel_rfl) (by kernel_rfl) (by kernel_rfl)) ?_
  intro W base args ds gs before hval0 hW hcnd _
  have hval : ∀ (j : Nat) t v, Tryz.f5.params[j]? = some t → args[j]? = some v → Value.okWide Tryz.prog W .any base t v := hval0
  have hW' := hW
  obtain ⟨p, q, hA0, hV, rfl, hfz, hnd⟩ := hW
  have hA : DataW.TrodAll enc Tryz.prog W 0 (fun _ => true) true Tryz.f5.params.toList args.toList ds p := hA0
  rw [Tryz.params5] at hA hval
  obtain ⟨v0, vs0, d0, ds0, p0, q0, hargs, rfl, rfl, h0, r0⟩ := trodAll_cons hA
  obtain ⟨rfl, rfl, rfl⟩ := trodAll_nil r0
  obtain rfl : args = #[v0] := by cases args; simp_all
  obtain ⟨rfl, rfl⟩ := trodVars_none hV
  have lt0 : ∀ x ∈ p0, x.block < W.heap.size := by obtain ⟨m, hm⟩ := h0; exact DataW.trod_lt m _ _ _ hm
  have g0 := h0
  obtain ⟨m0, hm0⟩ := g0
  obtain ⟨x0, u0, e0, o0, k0⟩ := (rd_59).rd _ _ _ _ _ _ _ hm0
  obtain ⟨a0_0, n0_1, c0_2⟩ := u0
  obtain rfl : v0 = .slice a0_0 n0_1 c0_2 := val_slice (hval 0 _ _ rfl rfl) Tryz.underlying59 e0
  clear hA0 hval0
  have HS : Holds W [Old W] := Holds.start W
  replace HS := k0 _ _ HS
  have hm : M_crossbucklaw23_HistoryOrders x0 = some true := plain_orders x0 o0
  refine (T_crossbucklaw23_HistoryOrders a0_0 n0_1 c0_2 x0 hm (Old W) W (by exact HS)).mono fun e W' ⟨_, he, _, hs, hh⟩ => ?_
  subst he
  have bel : Below W.heap.size W W' := below_of hs (hh.perm (by exact List.perm_append_comm))
  exact ⟨_, rfl, _, _, _, [], _, [], hW', trodAll_mk1 (shut_bool Tryz.underlying4 _), (trodAll_cons_mk (Below.trod laidOut (by kernel_rfl) (of_decide_eq_true (by kernel_rfl)) h0 bel lt0) trodAll_mk0), rfl, bel.frame _, fun h => by cases h⟩
theorem history_orders_holds : Rows.HistoryOrdersSaid :=
  OpenClaim.holds_of_wide 5 Tryz.f5 rfl rfl rfl rfl rfl rfl rfl ⟨rfl, rfl, rfl, rfl, rfl⟩ rfl rfl rfl rfl rfl (by kernel_rfl) Tryz.func5 (by kernel_rfl)
    (of_decide_eq_true (by kernel_rfl)) (by unfold Func.isWrapper; first | (rw [if_pos (by decide +kernel)]; kernel_rfl) | (rw [if_neg (by decide +kernel)]; exact ⟨rfl, rfl⟩))
    (fun os started H enc _ => history_orders_lifted os started H enc)
end Go.Proofs.YtjfajpoknnifcaaGreat
